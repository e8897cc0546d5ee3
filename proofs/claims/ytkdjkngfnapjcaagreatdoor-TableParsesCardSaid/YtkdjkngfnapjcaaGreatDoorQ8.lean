/- SortU6, SortU7, CollU, SortU8, LeaseQ, LeaseR, LeaseR2, LeaseR3, LeaseR4, LeaseR5, joined. -/
import Derived.Test.YtkdjkngfnapjcaaGreatDoorQ7
import Derived.RangeFuncNested
import Derived.RangeFuncBound
import Derived.RangeFuncCalls
import Derived.RangeFuncLeaves
import Derived.Shelf.Abstract
import Derived.WalkKit
import Derived.OwnWalkIn
import Derived.TacticsInMore
import Derived.LoopNIn
import Derived.LoopIn
import Derived.Maps.AppendAt
import Derived.Test.YtkdjkngfnapjcaaGreatDoorQ3
import Derived.Test.YtkdjkngfnapjcaaGreatDoorChecked
import Derived.Test.YtkdjkngfnapjcaaGreatDoorQ5
import Derived.Test.YtkdjkngfnapjcaaGreatDoorQ1
import Derived.Deep.Cut
import Derived.BigQuiet
set_option linter.unusedSimpArgs false
set_option linter.unusedVariables false
set_option maxRecDepth 100000
set_option maxHeartbeats 16000000
namespace Go.Proofs.YtkdjkngfnapjcaaGreatDoor
section
namespace SortU
open Go.RowKit
open Go.Sort (swp ltInt scanSorted shiftDown shiftUp partialIns)
theorem ZlG {d:Array Int} {b i y:Nat} (hy:i=y + 1) (h:i < b) (hl:ltU (atU d i) (atU d y)=false):scanSorted ltInt d b i=scanSorted ltInt d b (i + 1):=by
 subst hy;have hl':ltInt d[y + 1]! d[y]! =false:=hl;rw[scanSorted,if_pos (by simp[h,hl'])]
theorem ZeO {d:Array Int} {b i:Nat} (h:i < b→∃y,i=y + 1∧ltU (atU d i) (atU d y)=true):scanSorted ltInt d b i=i:=by
 rw[scanSorted,if_neg];simp only[Bool.and_eq_true,decide_eq_true_eq,not_and,Bool.not_eq_true];intro hb;obtain⟨y,rfl,hl⟩:=h hb;have hl':ltInt d[y + 1]! d[y]! =true:=hl;simp[hl']
theorem Zj2 {d:Array Int} {x y:Nat} (hx:x=y + 1) (hl:ltU (atU d x) (atU d y)=true):shiftDown ltInt x d=shiftDown ltInt y (swp d x y):=by
 subst hx;have hl':ltInt d[y + 1]! d[y]! =true:=hl;rw[shiftDown,hl']
 rfl
theorem Zht {d:Array Int} {x y:Nat} (hx:x=y + 1) (hl:ltU (atU d x) (atU d y)=false):shiftDown ltInt x d=d:=by
 subst hx;have hl':ltInt d[y + 1]! d[y]! =false:=hl;rw[shiftDown,hl']
 rfl
theorem Zj1 {d:Array Int} {b x y:Nat} (hx:x=y + 1) (h:x < b) (hl:ltU (atU d x) (atU d y)=true):shiftUp ltInt b x d=shiftUp ltInt b (x + 1) (swp d x y):=by
 subst hx;have hl':ltInt d[y + 1]! d[y]! =true:=hl;rw[shiftUp,if_pos h,Nat.add_sub_cancel,hl']
 rfl
theorem Zd7 {d:Array Int} {b x:Nat} (h:x < b→∃y,x=y + 1∧ltU (atU d x) (atU d y)=false):shiftUp ltInt b x d=d:=by
 rw[shiftUp]
 by_cases hb:x < b
 · obtain⟨y,rfl,hl⟩:=h hb
   have hl':ltInt d[y + 1]! d[y]! =false:=hl;rw[if_pos hb,Nat.add_sub_cancel,hl']
   rfl
 rw[if_neg hb]
def stepD (d:Array Int) (a i:Nat):Array Int:=if i - a ≥ 2 then shiftDown ltInt (i - 1) (swp d i (i - 1)) else swp d i (i - 1)
def stepU (d:Array Int) (b i:Nat):Array Int:=if b - i ≥ 2 then shiftUp ltInt b (i + 1) d else d
theorem pi_end {a b s i i':Nat} {d:Array Int} (hi:scanSorted ltInt d b i=i') (h:i'=b):partialIns ltInt a b (s + 1) i d=(d,true):=by
 rw[partialIns];simp only[hi];rw[if_pos h]
theorem ZlU {a b s i i':Nat} {d:Array Int} (hi:scanSorted ltInt d b i=i') (h:¬i'=b) (h2:b - a < 50):partialIns ltInt a b (s + 1) i d=(d,false):=by
 rw[partialIns];simp only[hi];rw[if_neg h,if_pos h2]
theorem pi_go {a b s i i':Nat} {d:Array Int} (hi:scanSorted ltInt d b i=i') (h:¬i'=b) (h2:¬b - a < 50):partialIns ltInt a b (s + 1) i d=partialIns ltInt a b s i' (stepU (stepD d a i') b i'):=by
 rw[partialIns];simp only[hi];rw[if_neg h,if_neg h2]
 rfl
theorem Zcx:∀(x:Nat) (d:Array Int),(shiftDown ltInt x d).size=d.size
 |0,d=>rfl
 |x + 1,d=>by
  rw[shiftDown]
  split
  · rfl
  rw[Zcx x,Zap]
theorem Zjd (d:Array Int) (a i:Nat):(stepD d a i).size=d.size:=by
 unfold stepD
 split
 · rw[Zcx,Zap]
 rw[Zap]
def Zi6 (L0:List Part) (w:World) (g:Nat) (d:Array Int) (r:List Value) (a b:Nat) (e:Ending) (w':World):Prop:=
 e=.returned (.bool (Sort.partialInsertionSort ltInt d a b).2)∧At L0 w [blkU g (Sort.partialInsertionSort ltInt d a b).1 r] w'
def PIRel (L0:List Part) (w:World) (g:Nat) (d:Array Int) (r:List Value) (a b:Nat) (k:Nat) (u v:Value) (wr:World):Prop:=
 ∃(i:Nat) (dk:Array Int),u=.int .i64 i∧v=.int .i64 (5 - (k:Int))∧k≤5∧a + 1≤i∧i≤b∧dk.size=d.size∧At L0 w [blkU g dk r] wr∧partialIns ltInt a b k i dk=partialIns ltInt a b 5 (a + 1) d
def ScanS (L0:List Part) (w:World) (g:Nat) (d:Array Int) (r:List Value) (b i0:Nat) (k:Nat) (u:Value) (wr:World):Prop:=
 ∃i:Nat,u=.int .i64 i∧i0≤i∧i + k=b∧At L0 w [blkU g d r] wr∧scanSorted ltInt d b i=scanSorted ltInt d b i0
def ShD (L0:List Part) (w:World) (g:Nat) (d:Array Int) (r:List Value) (x0:Nat) (k:Nat) (u:Value) (wr:World):Prop:=
 ∃(x:Nat) (dk:Array Int),u=.int .i64 x∧x≤x0∧x≤k∧dk.size=d.size∧At L0 w [blkU g dk r] wr∧shiftDown ltInt x dk=shiftDown ltInt x0 d
def ShU (L0:List Part) (w:World) (g:Nat) (d:Array Int) (r:List Value) (b x0:Nat) (k:Nat) (u:Value) (wr:World):Prop:=
 ∃(x:Nat) (dk:Array Int),u=.int .i64 x∧x0≤x∧x + k=b∧dk.size=d.size∧At L0 w [blkU g dk r] wr∧shiftUp ltInt b x dk=shiftUp ltInt b x0 d
theorem ZeF {w:World} {g cap n:Nat} {d0:Array Int} {r:List Value} (h:Sep [blkU g d0 r] w) (hn:d0.size=n) {a b:Nat} (hab:a < b) (hb:b≤d0.size) (hsz:d0.size < 4611686018427387904):
 Calls Tryz.prog 323 #[.slice (some ⟨g,0,none⟩) n cap,.int .i64 a,.int .i64 b] w (Zi6 [blkU g d0 r] w g d0 r a b):=by
 have hres:=Hd (show Sort.partialInsertionSort ltInt d0 a b=partialIns ltInt a b 5 (a + 1) d0 from rfl)
 obtain⟨L0,hL0,hA⟩:∃L0,L0=[blkU g d0 r]∧At L0 w [blkU g d0 r] w:=⟨_,rfl,At.start h⟩
 rw[←hL0];clear h hL0
 go_enter Tryz.func323,Tryz.ntmps323
 go_wp2_with fail
 go_loopg [7,8] 5 (PIRel L0 w g d0 r a b)
 case atStart=>exact⟨a + 1,d0,by simp,by simp,Nat.le_refl _,Nat.le_refl _,by omega,rfl,hA,rfl⟩
 case round=>
  obtain⟨i,dk,rfl,rfl,hk5,hi1,hi2,hsk,hB,hO⟩:=hrel;have hO':=Hd hO;clear hA hO;have hA:=hB;clear hB
  rcases Nat.eq_zero_or_pos gk with h0|hpos
  · subst h0
    go_wp2_with fail
    refine bodyPost_ret (v:=.bool false) (by simp[results,Tryz.results323,go_sem]) rfl ?_;unfold Zi6;rw[hres.out,←hO'.out];exact⟨rfl,hA⟩
  obtain⟨s,rfl⟩:∃s,gk=s + 1:=⟨gk - 1,by omega⟩
  have hs5:decide ((5:Int) - ((s + 1:Nat):Int) < 5)=true:=by simp;omega
  have hs5':(5:Int) - ((s + 1:Nat):Int) < 5:=by omega
  obtain⟨c,hc⟩:∃c:Int,(5:Int) - ((s + 1:Nat):Int)=c:=⟨_,rfl⟩
  rw[hc] at hs5 hs5';rw[hc]
  have hcb:0≤c:=by omega
  have hc2:=Hd hc;clear hc
  go_upto_block 2 with fail
  go_cut [7] from 17 to 34 (fun u wc=>∃q:Nat,u=.int .i64 q∧i≤q∧q≤b∧scanSorted ltInt dk b i=q∧At L0 w [blkU g dk r] wc)
  case first=>
   go_wp2_with fail
   go_loopg [7] (b - i) (ScanS L0 w g dk r b i)
   case atStart=>exact⟨i,rfl,Nat.le_refl _,by omega,hA,rfl⟩
   case round=>
    obtain⟨x,rfl,hx1,hx2,hB,hS⟩:=hrel;have hS':=Hd hS;clear hA hS;have hA:=hB;clear hB;obtain⟨hA,hF⟩:=fY hA
    by_cases hxb:x < b
    · have hg:decide ((x:Int) < (b:Int))=true:=by simp;omega
      obtain⟨y,hy⟩:∃y,x=y + 1:=⟨x - 1,by omega⟩
      have ey:(x:Int) - 1=(y:Int):=by omega
      have gy1:x≤y + 1:=by omega
      have gy2:y + 1≤x:=by omega
      have hy':=Hd hy;clear hy;have e1:=Zau (d:=dk) (r:=r) (i:=x) (by omega);have e2:=Zau (d:=dk) (r:=r) (i:=y) (by omega);cases hl:ltU (atU dk x) (atU dk y)
      · have hq:=Hd (ZlG hy'.out hxb hl)
        have hl':=Hd hl;clear hl
        go_wp2_with fail
        refine cl0 hA ?_;clear hF hA;intro w1 hA hF;(try simp only[uY] at hA hF)
        go_wp2_with fail
        go_roundg (gk - 1)
        case measure=>omega
        case rel=>exact⟨x + 1,by simp,by omega,by omega,hA,by rw[←hS'.out,hq.out]⟩
      have hq:=Hd (ZeO (d:=dk) (b:=b) (i:=x) (fun _=>⟨y,hy'.out,hl⟩));have hl':=Hd hl;clear hl
      go_wp2_with fail
      refine cl0 hA ?_;clear hF hA;intro w1 hA hF;(try simp only[uY] at hA hF)
      go_wp2_with fail
      go_meet
      case rel=>exact⟨x,rfl,by omega,by omega,by rw[←hS'.out,hq.out],hA⟩
    have hg:decide ((x:Int) < (b:Int))=false:=by simp;omega
    have hq:=Hd (ZeO (d:=dk) (b:=b) (i:=x) (fun h=>absurd h hxb))
    go_wp2_with fail
    refine cl2 hA ?_;clear hF hA;intro w1 hA hF;(try simp only[uY] at hA hF)
    go_wp2_with fail
    go_meet
    case rel=>exact⟨x,rfl,by omega,by omega,by rw[←hS'.out,hq.out],hA⟩
  case rest=>
   obtain⟨q,rfl,hq1,hq2,hq3,hB⟩:=hcut;clear hA;have hA:=hB;clear hB;have hq4:=Hd hq3;clear hq3
   by_cases hqb:q=b
   · subst hqb
     have hp:=Hd (pi_end (a:=a) (s:=s) hq4.out rfl)
     go_wp2_with fail
     refine bodyPost_ret (v:=.bool true) (by simp[results,Tryz.results323,go_sem]) rfl ?_;unfold Zi6;rw[hres.out,←hO'.out,hp.out];exact⟨rfl,hA⟩
   have hqb':¬(q:Int)=(b:Int):=by omega
   by_cases h50:b - a < 50
   · have h50':(b:Int) - (a:Int) < 50:=by omega
     have hp:=Hd (ZlU (s:=s) hq4.out hqb h50)
     go_wp2_with fail
     refine bodyPost_ret (v:=.bool false) (by simp[results,Tryz.results323,go_sem]) rfl ?_;unfold Zi6;rw[hres.out,←hO'.out,hp.out];exact⟨rfl,hA⟩
   have h50':¬(b:Int) - (a:Int) < 50:=by omega
   have hp:=Hd (pi_go (s:=s) hq4.out hqb h50)
   obtain⟨y,hy⟩:∃y,q=y + 1:=⟨q - 1,by omega⟩
   have ey:(q:Int) - 1=(y:Int):=by omega
   have gy1:q≤y + 1:=by omega
   have gy2:y + 1≤q:=by omega
   have hy':=Hd (show q - 1=y by omega);clear hy
   go_wp2_with fail
   (try clear hF);(have k1:=Zai hA .here (i:=q) (by omega));(have k2:=Zai hA .here (i:=y) (by omega));(have f1:=Zah hA .here (q));(have f2:=Zah hA .here (y));go_region;(have hB:=(ZaG hA .here (i:=q) (j:=y) (by omega) (by omega)).drew);(clear k1 k2 f1 f2 hA);(have hA:=hB);(clear hB);(generalize World.drew (World.setCell _ _ _)=wz at *)
   obtain⟨d1,hd1⟩:∃z,swp dk q y=z:=⟨_,rfl⟩
   rw[hd1] at hA
   have d1s:d1.size=dk.size:=by rw[←hd1];exact Zap _ _ _
   have hd1':=Hd hd1;clear hd1
   go_upto_if 61 with fail
   go_cut [9] from 17 to 94 (fun u wc=>∃d2:Array Int,stepD dk a q=d2∧At L0 w [blkU g d2 r] wc)
   case first=>
    by_cases h2:q - a ≥ 2
    · have h2':(2:Int)≤(q:Int) - (a:Int):=by omega
      have hst:=Hd (show stepD dk a q=shiftDown ltInt y d1 by unfold stepD;rw[if_pos h2,hy'.out,hd1'.out])
      go_wp2_with fail
      go_loopg [9] y (ShD L0 w g d1 r y)
      case atStart=>exact⟨y,d1,rfl,Nat.le_refl _,Nat.le_refl _,rfl,hA,rfl⟩
      case round=>
       obtain⟨x,dj,rfl,hx1,hx2,hsj,hB,hS⟩:=hrel;have hS':=Hd hS;clear hA hS;have hA:=hB;clear hB;obtain⟨hA,hF⟩:=fY hA
       by_cases hx0:1≤x
       · obtain⟨z,hz⟩:∃z,x=z + 1:=⟨x - 1,by omega⟩
         have ez:(x:Int) - 1=(z:Int):=by omega
         have gz1:x≤z + 1:=by omega
         have gz2:z + 1≤x:=by omega
         have hz':=Hd hz;clear hz;have e1:=Zau (d:=dj) (r:=r) (i:=x) (by omega);have e2:=Zau (d:=dj) (r:=r) (i:=z) (by omega);cases hl:ltU (atU dj x) (atU dj z)
         · have hq:=Hd (Zht hz'.out hl)
           have hl':=Hd hl;clear hl
           go_wp2_with fail
           refine cl0 hA ?_;clear hF hA;intro w1 hA hF;(try simp only[uY] at hA hF)
           go_wp2_with fail
           go_meet
           case rel=>exact⟨dj,by rw[hst.out,←hS'.out,hq.out],hA⟩
         have hq:=Hd (Zj2 hz'.out hl);have hl':=Hd hl;clear hl
         go_wp2_with fail
         refine cl0 hA ?_;clear hF hA;intro w1 hA hF;(try simp only[uY] at hA hF)
         go_wp2_with fail
         (try clear hF);(have k1:=Zai hA .here (i:=x) (by omega));(have k2:=Zai hA .here (i:=z) (by omega));(have f1:=Zah hA .here (x));(have f2:=Zah hA .here (z));go_region;(have hB:=(ZaG hA .here (i:=x) (j:=z) (by omega) (by omega)).drew);(clear k1 k2 f1 f2 hA);(have hA:=hB);(clear hB);(generalize World.drew (World.setCell _ _ _)=wz at *)
         go_wp2_with fail
         go_roundg z
         case measure=>omega
         case rel=>exact⟨z,swp dj x z,rfl,by omega,Nat.le_refl _,by rw[Zap];exact hsj,hA,by rw[←hS'.out,hq.out]⟩
       have hx00:x=0:=by omega
       subst hx00;have hq:=Hd (show shiftDown ltInt 0 dj=dj from rfl)
       go_wp2_with fail
       go_meet
       case rel=>exact⟨dj,by rw[hst.out,←hS'.out,hq.out],hA⟩
    have h2':(q:Int) - (a:Int) < 2:=by omega
    have hst:=Hd (show stepD dk a q=d1 by unfold stepD;rw[if_neg h2,hy'.out,hd1'.out])
    go_wp2_with fail
    go_meet
    case rel=>exact⟨d1,hst.out,hA⟩
   case rest=>
    obtain⟨d2,hd2,hB⟩:=hcut;clear hA;have hA:=hB;clear hB
    have d2s:d2.size=dk.size:=by rw[←hd2];exact Zjd _ _ _
    have hd2':=Hd hd2;clear hd2
    by_cases h2:b - q ≥ 2
    · have h2':(2:Int)≤(b:Int) - (q:Int):=by omega
      have hst:=Hd (show stepU d2 b q=shiftUp ltInt b (q + 1) d2 by unfold stepU;rw[if_pos h2])
      go_wp2_with fail
      go_loopg [10] (b - (q + 1)) (ShU L0 w g d2 r b (q + 1))
      case atStart=>exact⟨q + 1,d2,by simp,Nat.le_refl _,by omega,rfl,hA,rfl⟩
      case round=>
       obtain⟨x,dj,rfl,hx1,hx2,hsj,hB,hS⟩:=hrel;have hS':=Hd hS;clear hA hS;have hA:=hB;clear hB;obtain⟨hA,hF⟩:=fY hA
       by_cases hx0:x < b
       · obtain⟨z,hz⟩:∃z,x=z + 1:=⟨x - 1,by omega⟩
         have ez:(x:Int) - 1=(z:Int):=by omega
         have gz1:x≤z + 1:=by omega
         have gz2:z + 1≤x:=by omega
         have hz':=Hd hz;clear hz;have e1:=Zau (d:=dj) (r:=r) (i:=x) (by omega);have e2:=Zau (d:=dj) (r:=r) (i:=z) (by omega);cases hl:ltU (atU dj x) (atU dj z)
         · have hq:=Hd (Zd7 (d:=dj) (b:=b) (x:=x) (fun _=>⟨z,hz'.out,hl⟩))
           have hl':=Hd hl;clear hl
           go_wp2_with fail
           refine cl0 hA ?_;clear hF hA;intro w1 hA hF;(try simp only[uY] at hA hF)
           go_wp2_with fail
           go_roundg s
           case measure=>omega
           case rel=>exact⟨q,dj,rfl,by have:=hc2.out;congr 1;omega,by omega,by omega,hq2,by omega,hA,by rw[←hO'.out,hp.out,hd2'.out,hst.out,←hS'.out,hq.out]⟩
         have hq:=Hd (Zj1 hz'.out hx0 hl);have hl':=Hd hl;clear hl
         go_wp2_with fail
         refine cl0 hA ?_;clear hF hA;intro w1 hA hF;(try simp only[uY] at hA hF)
         go_wp2_with fail
         (try clear hF);(have k1:=Zai hA .here (i:=x) (by omega));(have k2:=Zai hA .here (i:=z) (by omega));(have f1:=Zah hA .here (x));(have f2:=Zah hA .here (z));go_region;(have hB:=(ZaG hA .here (i:=x) (j:=z) (by omega) (by omega)).drew);(clear k1 k2 f1 f2 hA);(have hA:=hB);(clear hB);(generalize World.drew (World.setCell _ _ _)=wz at *)
         go_wp2_with fail
         go_roundg (gk - 1)
         case measure=>omega
         case rel=>exact⟨x + 1,swp dj x z,by simp,by omega,by omega,by rw[Zap];exact hsj,hA,by rw[←hS'.out,hq.out]⟩
       have hq:=Hd (Zd7 (d:=dj) (b:=b) (x:=x) (fun h=>absurd h hx0))
       go_wp2_with fail
       go_roundg s
       case measure=>omega
       case rel=>exact⟨q,dj,rfl,by have:=hc2.out;congr 1;omega,by omega,by omega,hq2,by omega,hA,by rw[←hO'.out,hp.out,hd2'.out,hst.out,←hS'.out,hq.out]⟩
    have h2':(b:Int) - (q:Int) < 2:=by omega
    have hst:=Hd (show stepU d2 b q=d2 by unfold stepU;rw[if_neg h2])
    go_wp2_with fail
    go_roundg s
    case measure=>omega
    case rel=>exact⟨q,d2,rfl,by have:=hc2.out;congr 1;omega,by omega,by omega,hq2,by omega,hA,by rw[←hO'.out,hp.out,hd2'.out,hst.out]⟩
end SortU
end
section
namespace SortU
open Go.RowKit
open Go.Sort (swp ltInt PermIn SortedIn)
def Zn8 (L0:List Part) (w:World) (g:Nat) (d:Array Int) (r:List Value) (a b:Nat) (e:Ending) (w':World):Prop:=
 ∃R,e=.returned (.tuple #[])∧PermIn a b d R∧SortedIn ltInt a b R∧At L0 w [blkU g R r] w'
def Todo (d:Array Int) (a b:Nat) (dk:Array Int) (a' b':Nat):Prop:=∀R,PermIn a' b' dk R→SortedIn ltInt a' b' R→PermIn a b d R∧SortedIn ltInt a b R
theorem Todo.step {d dk d1:Array Int} {a b a' b':Nat} (h:Todo d a b dk a' b') (hp:PermIn a' b' dk d1):Todo d a b d1 a' b':=fun R h1 h2=>h R (Sort.permIn_trans _ _ _ a' b' hp h1) h2
def PdqRel (L0:List Part) (w:World) (g:Nat) (d:Array Int) (r:List Value) (a b:Nat) (k:Nat) (u1 u2 u3 u8 u9:Value) (wr:World):Prop:=
 ∃(a' b' lim:Nat) (wb wp:Bool) (dk:Array Int),u1=.int .i64 a'∧u2=.int .i64 b'∧u3=.int .i64 lim∧u8=.bool wb∧u9=.bool wp∧a'≤b'∧b'≤d.size∧b' - a'≤k∧k≤b - a∧lim < 4611686018427387904∧dk.size=d.size∧
  Sort.Below ltInt a' b' dk∧At L0 w [blkU g dk r] wr∧Todo d a b dk a' b'
set_option maxRecDepth 1000000 in
theorem Znv:∀(N:Nat) {w:World} {g cap n:Nat} {d:Array Int} {r:List Value} (h:Sep [blkU g d r] w) (hn:d.size=n) {a b limit:Nat} (hN:b - a < N) (hab:a≤b) (hb:b≤d.size) (hlim:limit < 4611686018427387904) (hsz:d.size < 4611686018427387904) (hBel:Sort.Below ltInt a b d),
 Calls Tryz.prog 299 #[.slice (some ⟨g,0,none⟩) n cap,.int .i64 a,.int .i64 b,.int .i64 limit] w (Zn8 [blkU g d r] w g d r a b):=by
 intro N
 induction N with
 |zero=>intro w g cap n d r h hn a b limit hN;omega
 |succ N ih=>
  intro w g cap n d r h hn a b limit hN hab hb hlim hsz hBel
  obtain⟨L0,hL0,hA⟩:∃L0,L0=[blkU g d r]∧At L0 w [blkU g d r] w:=⟨_,rfl,At.start h⟩
  rw[←hL0];clear h hL0
  go_enter Tryz.func299,Tryz.ntmps299
  go_wp2_with fail
  go_loopg [1,2,3,8,9] (b - a) (PdqRel L0 w g d r a b)
  case atStart=>exact⟨a,b,limit,true,true,d,rfl,rfl,rfl,rfl,rfl,hab,hb,Nat.le_refl _,Nat.le_refl _,hlim,rfl,hBel,hA,fun R h1 h2=>⟨h1,h2⟩⟩
  case round=>
   obtain⟨a',b',lim,wb,wp,dk,rfl,rfl,rfl,rfl,rfl,hab',hb',hk,hkb,hlim',hsk,hBk,hB,hT⟩:=hrel;have hT':=Hd hT;have hBk':=Hd hBk;clear hA hT hBel hBk;have hA:=hB;clear hB
   by_cases h12:b' - a'≤12
   · have h12':(b':Int) - (a':Int)≤12:=by omega
     have hs:=Sort.insertionSort_holds Sort.swo_ltInt dk a' b' hab' (by omega);have hs':=Hd hs;clear hs
     go_wp2_with fail
     refine(ZfT (hA.sep1 .here) (hsk.trans hn) hab' (by omega) (by omega)).mono ?_;rintro e w1 ⟨rfl,hT1⟩;have hB:=hA.call1 .here hT1;clear hA hT1
     go_wp2_with fail
     refine bodyPost_ret (results_none rfl _ _ _) rfl ?_;have hh:=hT'.out _ hs'.out.1 hs'.out.2;exact⟨_,rfl,hh.1,hh.2,hB⟩
   have h12':¬(b':Int) - (a':Int)≤12:=by omega
   by_cases hl0:lim=0
   · subst hl0
     have hs:=Sort.heapSort_holds Sort.swo_ltInt dk a' b' hab' (by omega);have hs':=Hd hs;clear hs
     go_wp2_with fail
     refine(ZgO (hA.sep1 .here) (hsk.trans hn) (a:=a') (b:=b') (by omega) (by omega) (by omega)).mono ?_;rintro e w1 ⟨rfl,hT1⟩;have hB:=hA.call1 .here hT1;clear hA hT1
     go_wp2_with fail
     refine bodyPost_ret (results_none rfl _ _ _) rfl ?_;have hh:=hT'.out _ hs'.out.1 hs'.out.2;exact⟨_,rfl,hh.1,hh.2,hB⟩
   have hl0':¬(lim:Int)=0:=by omega
   go_upto_if 35 with fail
   go_cut [3] from 19 to 133 (fun u wc=>∃(l2:Nat) (d1:Array Int),u=.int .i64 l2∧l2 < 4611686018427387904∧PermIn a' b' dk d1∧At L0 w [blkU g d1 r] wc)
   case first=>
    cases wb
    · go_wp2_with fail
      refine(Zk3 (hA.sep1 .here) (hsk.trans hn) (a:=a') (b:=b') (by omega) (by omega) (by omega)).mono ?_;rintro e w1 ⟨d1,rfl,hp,hT1⟩;have hB:=hA.call1 .here hT1;clear hA hT1;have hp':=Hd hp;clear hp
      go_wp2_with fail
      go_meet
      case rel=>exact⟨lim - 1,d1,by congr 1;omega,by omega,hp'.out,hB⟩
    go_wp2_with fail
    go_meet
    case rel=>exact⟨lim,dk,rfl,hlim',Sort.permIn_refl _ _ _,hA⟩
   case rest=>
    obtain⟨l2,d1,rfl,hl2,hp1,hB⟩:=hcut;clear hA;have hA:=hB;clear hB;have s1:d1.size=dk.size:=hp1.1;have T1:=Hd (Todo.step hT'.out hp1);have B1:=Hd (Sort.Below.perm hBk'.out (by omega) hp1);clear hp1 hT' hBk'
    go_upto_if 50 with(go_at_call 321;refine(Zkg (hA.sep1 .here) (s1.trans (hsk.trans hn)) (a:=a') (b:=b') (by omega) (by omega) (by omega)).mono ?_;rintro e w1 ⟨p,hv,rfl,hpa,hpb,hT1⟩;replace hA:=hA.call1 .here hT1;clear hT1)
    go_cut [11,12] from 19 to 133 (fun u v wc=>∃(p2:Nat) (hv2:Int) (d2:Array Int),u=.int .i64 p2∧v=.int .i64 hv2∧a'≤p2∧p2 < b'∧PermIn a' b' d1 d2∧At L0 w [blkU g d2 r] wc)
    case first=>
     by_cases h2:hv=2
     · have hs:=Hd (Sort.reverseRange_holds d1 a' b' hab' (by omega))
       subst h2
       go_wp2_with fail
       refine(Zhx (hA.sep1 (by simpa using Sel.here)) (s1.trans (hsk.trans hn)) (a:=a') (b:=b') (by omega) (by omega) (by omega)).mono ?_;rintro e w1 ⟨rfl,hT1⟩;have hB:=hA.call1 (by simpa using Sel.here) hT1;clear hA hT1
       go_wp2_with fail
       go_meet
       case rel=>exact⟨b' - 1 - (p - a'),1,_,by congr 1;omega,rfl,by omega,by omega,hs.out,hB⟩
     have h2':(hv==2)=false:=by simpa using h2
     go_wp2_with fail
     go_meet
     case rel=>exact⟨p,hv,d1,rfl,rfl,hpa,hpb,Sort.permIn_refl _ _ _,hA⟩
    case rest=>
     obtain⟨p2,hv2,d2,rfl,rfl,hpa2,hpb2,hp2,hB⟩:=hcut;clear hA;have hA:=hB;clear hB;have s2:d2.size=d1.size:=hp2.1;have T2:=Hd (Todo.step T1.out hp2);have B2:=Hd (Sort.Below.perm B1.out (by omega) hp2);clear hp2 T1 B1
     go_upto_region 15 with fail
     go_cut [68] from 19 to 133 (fun u wc=>∃c:Bool,u=.bool c∧At L0 w [blkU g d2 r] wc)
     case first=>
      cases wb
      · go_wp2_with fail
        go_meet
        case rel=>exact⟨false,rfl,hA⟩
      cases wp
      · go_wp2_with fail
        go_meet
        case rel=>exact⟨false,rfl,hA⟩
      by_cases h1:hv2=1
      · subst h1
        go_wp2_with fail
        go_meet
        case rel=>exact⟨true,rfl,hA⟩
      have h1':(hv2==1)=false:=by simpa using h1
      go_wp2_with fail
      go_meet
      case rel=>exact⟨false,rfl,hA⟩
     case rest=>
      obtain⟨c,rfl,hB⟩:=hcut;clear hA;have hA:=hB;clear hB
      go_upto_if 68 with fail
      go_cut [11] from 19 to 133 (fun u wc=>∃d3:Array Int,u=.int .i64 p2∧PermIn a' b' d2 d3∧At L0 w [blkU g d3 r] wc)
      case first=>
       cases c
       · go_wp2_with fail
         go_meet
         case rel=>exact⟨d2,rfl,Sort.permIn_refl _ _ _,hA⟩
       have hs:=Hd (Sort.partialInsertionSort_holds Sort.swo_ltInt d2 a' b' (by omega) (by omega) B2.out)
       go_wp2_with fail
       refine(ZeF (hA.sep1 .here) (s2.trans (s1.trans (hsk.trans hn))) (a:=a') (b:=b') (by omega) (by omega) (by omega)).mono ?_;rintro e w1 ⟨rfl,hT1⟩;have hB:=hA.call1 .here hT1;clear hA hT1;cases hq:(Sort.partialInsertionSort ltInt d2 a' b').2
       · go_wp2_with fail
         go_meet
         case rel=>exact⟨_,rfl,hs.out.1,hB⟩
       have hh:=Hd (T2.out _ hs.out.1 (hs.out.2 hq))
       go_wp2_with fail
       refine bodyPost_ret (results_none rfl _ _ _) rfl ?_;exact⟨_,rfl,hh.out.1,hh.out.2,hB⟩
      case rest=>
       obtain⟨d3,rfl,hp3,hB⟩:=hcut;clear hA;have hA:=hB;clear hB;have s3:d3.size=d2.size:=hp3.1;have T3:=Hd (Todo.step T2.out hp3);have B3:=Hd (Sort.Below.perm B2.out (by omega) hp3);clear hp3 T2 B2
       go_upto_region 17 with fail
       go_cut [87] from 19 to 133 (fun u wc=>∃c:Bool,u=.bool c∧(c=true→0 < a'∧ltInt d3[a' - 1]! d3[p2]! =false)∧At L0 w [blkU g d3 r] wc)
       case first=>
        obtain⟨hA,hF⟩:=fY hA
        by_cases ha0:0 < a'
        · have hg:decide ((0:Int) < (a':Int))=true:=by simp;omega
          obtain⟨y,hy⟩:∃y,a'=y + 1:=⟨a' - 1,by omega⟩
          have ey:(a':Int) - 1=(y:Int):=by omega
          have gy1:a'≤y + 1:=by omega
          have gy2:y + 1≤a':=by omega
          have hy':=Hd (show a' - 1=y by omega);clear hy;have e1:=Zau (d:=d3) (r:=r) (i:=y) (by omega);have e2:=Zau (d:=d3) (r:=r) (i:=p2) (by omega);cases hl:ltU (atU d3 y) (atU d3 p2)
          · have hl':=Hd hl
            clear hl
            go_wp2_with fail
            refine cl0 hA ?_;clear hF hA;intro w1 hA hF;(try simp only[uY] at hA hF)
            go_wp2_with fail
            go_meet
            case rel=>exact⟨true,rfl,fun _=>⟨ha0,by rw[hy'.out];exact hl'.out⟩,hA⟩
          have hl':=Hd hl;clear hl
          go_wp2_with fail
          refine cl0 hA ?_;clear hF hA;intro w1 hA hF;(try simp only[uY] at hA hF)
          go_wp2_with fail
          go_meet
          case rel=>exact⟨false,rfl,nofun,hA⟩
        have hg:decide ((0:Int) < (a':Int))=false:=by simp;omega
        go_wp2_with fail
        refine cl2 hA ?_;clear hF hA;intro w1 hA hF;(try simp only[uY] at hA hF)
        go_wp2_with fail
        go_meet
        case rel=>exact⟨false,rfl,nofun,hA⟩
       case rest=>
        obtain⟨c,rfl,hc,hB⟩:=hcut;clear hA;have hA:=hB;clear hB;have hc':=Hd hc;clear hc;cases c
        · rcases hx:Sort.partition ltInt d3 a' b' p2 with⟨mid,ap,d4⟩
          have hr:=Sort.round_part Sort.swo_ltInt (Sort.partition_holds ltInt) hpa2 hpb2 (by omega) B3.out hx;obtain⟨m1,m2,s4,BL,BR,RL,RR⟩:=hr;have BL':=Hd BL;have BR':=Hd BR;have RL':=Hd RL;have RR':=Hd RR;clear BL BR RL RR;have hx':=Hd hx;clear hx
          go_wp2_with (go_at_call 326;refine(ZfE (hA.sep1 .here) (s3.trans (s2.trans (s1.trans (hsk.trans hn)))) hpa2 hpb2 (by omega) (by omega)).mono ?_;unfold ZdM;rw[hx'.out];rintro e w1 ⟨rfl,hT1⟩;replace hA:=hA.call1 .here hT1;clear hT1;simp only[])
          · -- the left one is the smaller
            refine(ih (hA.sep1 .here) (s4.trans (s3.trans (s2.trans (s1.trans (hsk.trans hn))))) (a:=a') (b:=mid) (limit:=l2) (by omega) m1 (by omega) hl2 (by omega) BL'.out).mono ?_;rintro e w1 ⟨d5,rfl,hp5,hs5,hT1⟩;replace hA:=hA.call1 .here hT1;clear hT1;have s5:d5.size=d4.size:=hp5.1;have hh:=Hd (RL'.out d5 hp5 hs5);clear hp5 hs5
            go_wp2_with fail
            go_roundg (b' - (mid + 1))
            case measure=>omega
            case rel=>exact⟨mid + 1,b',l2,_,_,d5,by simp,rfl,rfl,rfl,rfl,by omega,hb',Nat.le_refl _,by omega,hl2,by omega,hh.out.1,hA,fun R h1 h2=>T3.out R (hh.out.2 R h1 h2).1 (hh.out.2 R h1 h2).2⟩
          have em:(mid:Int) + 1=((mid + 1:Nat):Int):=by omega
          rw[em];refine(ih (hA.sep1 .here) (s4.trans (s3.trans (s2.trans (s1.trans (hsk.trans hn))))) (a:=mid + 1) (b:=b') (limit:=l2) (by omega) (by omega) (by omega) hl2 (by omega) BR'.out).mono ?_;rintro e w1 ⟨d5,rfl,hp5,hs5,hT1⟩;replace hA:=hA.call1 .here hT1;clear hT1;have s5:d5.size=d4.size:=hp5.1;have hh:=Hd (RR'.out d5 hp5 hs5);clear hp5 hs5
          go_wp2_with fail
          go_roundg (mid - a')
          case measure=>omega
          case rel=>exact⟨a',mid,l2,_,_,d5,rfl,rfl,rfl,rfl,rfl,m1,by omega,Nat.le_refl _,by omega,hl2,by omega,hh.out.1,hA,fun R h1 h2=>T3.out R (hh.out.2 R h1 h2).1 (hh.out.2 R h1 h2).2⟩
        rcases hx:Sort.partitionEqual ltInt d3 a' b' p2 with⟨mid,d4⟩
        have hr:=Sort.round_eq Sort.swo_ltInt (Sort.partitionEqual_holds ltInt) (hc'.out rfl).1 hpa2 hpb2 (by omega) B3.out (hc'.out rfl).2 hx;obtain⟨m1,m2,s4,BR,RR⟩:=hr;have BR':=Hd BR;have RR':=Hd RR;clear BR RR;have hx':=Hd hx;clear hx
        go_wp2_with (go_at_call 325;refine(ZcP (hA.sep1 .here) (s3.trans (s2.trans (s1.trans (hsk.trans hn)))) hpa2 hpb2 (by omega) (by omega)).mono ?_;unfold Zdn;rw[hx'.out];rintro e w1 ⟨rfl,hT1⟩;replace hA:=hA.call1 .here hT1;clear hT1;simp only[])
        go_roundg (b' - mid)
        case measure=>omega
        case rel=>exact⟨mid,b',l2,_,_,d4,rfl,rfl,rfl,rfl,rfl,m2,hb',Nat.le_refl _,by omega,hl2,by omega,BR'.out,hA,fun R h1 h2=>T3.out R (RR'.out R h1 h2).1 (RR'.out R h1 h2).2⟩
end SortU
end
section
namespace Unt
open Go.RowKit Go.Shelf
open Go.Maps (Keyed)
attribute [local go_sem] Oper.semAt_some
def seV (p:Int):Value:=.int .u64 p
def seL (p:Int):List Value:=[.int .u64 p]
def unS:Value→Int
 |.int _ a=>a
 |_=>0
theorem unS_seV (p:Int):unS (seV p)=p:=rfl
theorem perm_of_seV {l m:List (Int)} (h:(l.map seV).Perm (m.map seV)):l.Perm m:=by
 have:=h.map unS
 simpa [List.map_map,Function.comp_def,unS_seV] using this
def seenOf (w:World) (r:Nat):Nat:=match w.heap[r]? with|some (.mapIter _ _ seen _)=>seen.size|_=>0
theorem seenOf_eq {P:Program} {k:TypeId} {w:World} {r b:Nat} {es done:List (Value × Value)} (h:Zam P k w r b es done):seenOf w r=done.length:=by
 obtain⟨_,_,ents,clock,c0,vs,hb,hr,hc,hd,_⟩:=h;unfold seenOf;rw[hr,←hd]
 simp
theorem iter_walk {P:Program} {k:TypeId} {w:World} {r b:Nat} {es done:List (Value × Value)} (h:Zam P k w r b es done):∃o:Obj,w.heap[r]? =some o∧o.isWalk=true:=by
 obtain⟨_,_,ents,clock,c0,vs,hb,hr,_⟩:=h;exact⟨_,hr,rfl⟩
theorem iter_keeps {P:Program} {k:TypeId} {w w':World} {r b:Nat} {es done:List (Value × Value)} (h:Zam P k w r b es done) (hk:KeepsWalks w w'):Zam P k w' r b es done:=by
 have h0:=h;obtain⟨_,_,ents,clock,c0,vs,hb,hr,_⟩:=h0;exact h.same ((hk.same b _ hb rfl).trans hb.symm) ((hk.same r _ hr rfl).trans hr.symm)
theorem grown_of_exc {w w':World} {r:Nat} (h:Exc (fun q=>q=r) w w'):w.grownBy w' (some r):=⟨h.os,h.tape,h.output,h.size,fun k hk hn=>h.block k hk (fun e=>hn (by rw[e]))⟩
theorem grown_of_ext {w w':World} (h:Ext w w'):w.grownBy w' none:=⟨Below.os h,Below.tape h,Below.output h,Below.size h,fun k hk _=>Below.block h k hk⟩
theorem keys1_in (F:Fence) (n:Nat) (h1:F.fn 278) (hro:F.round=none) (hn:1≤n) (l Bm b:Nat) (es:List (Value × Value)) (ks:List (Int)) (hes:es.map (·.1)=ks.map seV) (J Jx:List (Int)→World→Prop)
 (W:World) (hJ:AbidesFrom W.heap.size J)
 (hY:∀pre x W1,J pre W1→pre.length < ks.length→YieldAt F (n - 1) Tryz.prog l #[seV x] W1 fun e W'=>(e=.returned (.bool true)∧J (pre++[x]) W'∧KeepsWalks W1 W')∨(e=.returned (.bool false)∧Jx (pre++[x]) W'))
 (hm:W.cell? ⟨Bm,0,none⟩=some (.map (some b))) (hM:MapAt Tryz.prog 23 W b es) (h0:J [] W):
 CallsIn F n Tryz.prog 278 #[.func (.yield l) #[] #[],.pointer (some ⟨Bm,0,none⟩)] W fun e W'=>(∃v,e=.returned v)∧((∃ys,ys.Perm ks∧J ys W')∨(∃pre,True∧Jx pre W')):=by
 obtain⟨W0,hrun,hext,hI⟩:=Zam.start hM Tryz.underlying217;have hJ0:J [] W0:=hJ _ W W0 none h0 (grown_of_ext hext) (fun r e=>by cases e);refine callsIn_of_wp Tryz.func278 rfl h1 ?_ hro;simp only[Tryz.ntmps278,List.size_toArray,List.length_cons,List.length_nil,Nat.reduceAdd,Nat.reduceSub,Array.replicate_succ,Array.replicate_zero,List.push_toArray,List.append_toArray,List.nil_append,List.cons_append]
 gi_wp2
 clear hrun
 try go_frame
 gi_loopw [3] (fun _ wr=>∃(done:List (Value × Value)) (ds:List (Int)),Zam Tryz.prog 23 wr W.heap.size b es done∧done.map (·.1)=ds.map seV∧J ds wr)
  (fun _ wr=>es.length - seenOf wr W.heap.size)
 case atStart=>exact⟨[],[],hI,rfl,hJ0⟩
 case round=>
  obtain⟨done,ds,hI1,hd,hJs⟩:=hrel
  rcases hI1.next 0 with⟨hp,hrun⟩|⟨p,w',hp,hne,hrun,hI2,hx⟩
  · have hpp:ds.Perm ks:=(perm_of_seV (by rw[←hes,←hd];exact hp.map _)).symm
    clear hes hd
    gi_wp2
    go_end0
    exact⟨⟨_,rfl⟩,.inl ⟨ds,hpp,hJs⟩⟩
  obtain⟨pk,pv⟩:=p
  have hpk:pk ∈ es.map (·.1):=List.mem_map.2 ⟨_,hp,rfl⟩;rw[hes] at hpk;obtain⟨x,_,rfl⟩:=List.mem_map.1 hpk
  have hlen:ds.length < ks.length:=by
   have e1:=congrArg List.length hes;have e2:=congrArg List.length hd;have e3:=hI2.len
   simp at e1 e2 e3
   omega
  have hJ1:J ds w':=hJ ds wr w' (some W.heap.size) hJs (grown_of_exc hx) (fun r e=>by cases e;exact⟨Nat.le_refl _,iter_walk hI1⟩);have hI3:=hI2;obtain⟨fn,tmps,assign,body,hy,hR⟩:=hY ds x _ hJ1 hlen;have hen:=hI2.entry;have hs0:=seenOf_eq hI1;have hes':=Hd hes;have hd':=Hd hd;have hs':=Hd hs0;have hle:=hI2.len;clear hes hd hs0 hpk hp hne hx;unfold seV at hrun hen hy
  gi_wp2
  refine hR.mono ?_;rintro e W3 (⟨rfl,hJ3,hk3⟩|⟨rfl,hJx3⟩)
  · gi_wp2
    go_roundw
    case rel=>exact⟨done++[(seV x,pv)],ds++[x],iter_keeps hI3 hk3,by simp[hd'.out],hJ3⟩
    case measure=>
     have e1:=seenOf_eq (iter_keeps hI3 hk3);have e2:=hs'.out;rw[e1,e2]
     simp at hle ⊢
     omega
  gi_wp2
  refine bodyPost_ret (results_none rfl _ _ _) rfl ?_;exact⟨⟨_,rfl⟩,.inr ⟨_,trivial,hJx3⟩⟩
theorem keys_in (F:Fence) (n:Nat) (h1:F.fn 236) (hro:F.round=none) (mb:Option Nat) (w:World):
 CallsIn F n Tryz.prog 236 #[.map mb] w fun e w'=>e=.returned (.func (.func 278) #[] #[.pointer (some ⟨w.heap.size,0,none⟩)])∧w'=w.alloc (.cells #[.map mb] 217):=by
 refine callsIn_of_wp Tryz.func236 rfl h1 ?_ hro;simp only[Tryz.ntmps236,List.size_toArray,List.length_cons,List.length_nil,Nat.reduceAdd,Nat.reduceSub,Array.replicate_succ,Array.replicate_zero,List.push_toArray,List.append_toArray,List.nil_append,List.cons_append]
 gi_wp2
 go_ret;exact⟨rfl,rfl⟩
theorem keys_stops (F:Fence) (n:Nat) (h1:F.fn 278) (hro:F.round=none) (hn:1≤n) (Bm b:Nat) (es:List (Value × Value)) (ks:List (Int)) (hes:es.map (·.1)=ks.map seV) (w:World) (hBm:Bm < w.heap.size)
 (hm:w.cell? ⟨Bm,0,none⟩=some (.map (some b))) (hM:MapAt Tryz.prog 23 w b es):
 SeqStopsK F n Tryz.prog 278 #[.pointer (some ⟨Bm,0,none⟩)] (fun x:Int=> #[seV x]) KeepsWalks (fun ys=>ys.Perm ks) (fun _=>True) ks.length w:=fun l J Jx W hW hJ _ hY h0=>
 keys1_in F n h1 hro hn l Bm b es ks hes J Jx W hJ hY ((hW.cell (p:=⟨Bm,0,none⟩) hBm).trans hm) (hM.same (hW.block b hM.lt)) h0
theorem infoID:(Tryz.prog.info? 23).map (fun i=>(i.zero,i.size,i.bytes))=some (some (.int .u64 0),1,8):=by kernel_rfl
theorem one_new (W:World) (x:Value) (t:TypeId):∀(j:Nat) (u:Value),[x][j]? =some u→(W.alloc (.cells #[x] t)).cell? ((⟨W.heap.size,0,none⟩:Addr).add j)=some u:=by
 intro j u h
 match j,h with
 |0,h=>simp at h;subst h;simp[Addr.add]
 |j + 1,h=>simp at h
def MidI (w:World) (pre:List (Int)) (W:World):Prop:=
 (∃v,Boxed W w.heap.size 268 v∧W.ownsRow w.heap.size 23 1 v pre.length (pre.flatMap seL)∧(v=.slice none 0 0↔pre=[]))∧Below w.heap.size w W
theorem midI_own (w:World) (B:Nat) (hB:w.heap.size≤B):OwnFrom B (MidI w):=
 OwnFrom.and (Own.from (holdsRow_own w.heap.size w.heap.size 268 23 1 (fun pre=>pre.length) (fun pre=>pre.flatMap seL) (fun pre v=>v=.slice none 0 0↔pre=[])) _) (ownFrom_below (Nat.le_refl _) hB)
def MidAx (w:World) (sv:Value) (x:Int) (a':Act) (W:World):Prop:=
 a'={tmps:= #[.slice none 0 0,sv,.pointer (some ⟨w.heap.size,0,none⟩),undef,.slice none 0 0,seV x,sv,seV x,undef,undef,undef,undef,undef],defers:=[]}
theorem midAx_own (w:World) (sv:Value) (B:Nat) (x:Int) (a':Act):OwnFrom B (fun(_:Unit) W=>MidAx w sv x a' W):=by
 rintro s X Y row h3 hg hr;exact h3
theorem appendSeq_in (F:Fence) (n:Nat) (hF:F.fn 298) (hro:F.round=none) (hn:3≤n) (gf:Nat) (lb:Array Value) (hFg:F.fn gf) (eg:∀args w,(callFunc gf args).run Tryz.prog w=.ok (.enter gf args) w)
 (S Sp:List (Int)→Prop) (N:Nat) (hN:N≤100000000) (w:World) (hseq:SeqStopsK F (n - 1) Tryz.prog gf lb (fun x:Int=> #[seV x]) KeepsWalks S Sp N w):
 CallsIn F n Tryz.prog 298 #[.slice none 0 0,.func (.func gf) #[] lb] w fun e w'=>∃(v:Value) (ss:List (Int)),e=.returned v∧S ss∧w'.ownsRow w.heap.size 23 1 v ss.length (ss.flatMap seL)∧(v=.slice none 0 0↔ss=[])∧Below w.heap.size w w':=by
 have h1:1≤n:=by omega
 obtain⟨i0,hi,hz0,hz1,hz2⟩:=info_parts infoID;refine callsIn_of_wp_marks Tryz.func298 rfl hF ?_ hro;simp only[Tryz.ntmps298,List.size_toArray,List.length_cons,List.length_nil,Nat.reduceAdd,Nat.reduceSub,Array.replicate_succ,Array.replicate_zero,List.push_toArray,List.append_toArray,List.nil_append,List.cons_append]
 gi_wp2
 have bO:=Boxed.new w 268 (.slice none 0 0);have hB0:Below w.heap.size w (w.alloc (.cells #[.slice none 0 0] 268)):=(Below.refl _ w).alloc (Nat.le_refl _) _
 refine wpIn_rangeFunc_ownH hro h1 (gf:=gf) (lb:=lb) rfl hFg eg hseq walksK_t walksK_b hB0 (fun _=>rfl)
  (MidI w) (fun _ _ _=>False) (midI_own w _ (by simp)) (fun _ _ _ _ _ hs _ _=>hs)
  ⟨⟨_,bO,World.ownsRow_nil _ _ _ _,by simp⟩,hB0⟩
  (MidAx w (.func (.func gf) #[] lb)) (fun x a'=>midAx_own w _ _ x a') ?assign ?body ?done ?stop
 case assign=>
  rintro l pre x W K ⟨⟨v,hv,hrow,hnil⟩,hB⟩ hK;have hsz:=hB.size;unfold seV
  gi_wp2
  refine hK _ _ ((KeepsOthers.refl _).from _) (KeepsWalks.refl _) ⟨⟨v,hv,hrow,hnil⟩,hB⟩ rfl
 case body=>
  rintro l pre x a' W hl ⟨r,hr⟩ ⟨⟨v,hv,hrow,hnil⟩,hB⟩ rfl hlt;have hc:=hv.cell;have hsz:=hB.size;unfold seV
  gi_wp2_with (gi_at_builtin;refine wpListIn_append_own _ rfl _ _ 268 rfl w.heap.size 23 i0 (.int .u64 0) 1 8 Tryz.underlying268 hi hz0 hz1 hz2 rfl (by decide) _ _ _ rfl (hrow.alloc _) ⟨W.heap.size,0,none⟩ 1 1 [.int .u64 x] rfl rfl (one_new _ _ _) (by simp[Value.oneCell']) (by unfold maxLen;omega) (by omega) (by simp;omega) ?_;intro v' w1 hown' hgrow _;obtain⟨g',cap',rfl⟩:=ownsRow_succ hown';obtain⟨hv1,hv2,hr2,hk2,hb2⟩:=hv.appended (by decide) hrow hB.size (Nat.le_refl _) hown' hgrow;have hc1:=hv1.cell;have hf1:=hv1.frozen)
  exact⟨hk2.from _,hk2.walks,⟨_,hv2,by simpa [seL] using hr2,by simp⟩,hB.trans hb2⟩
 case done=>
  rintro D ys W hD hS ⟨⟨v,hv,hrow,hnil⟩,hB⟩ hK;have hc:=hv.cell
  gi_wp2
  refine⟨by simp,.inl ⟨_,_,rfl,run_takeDeferred hK,?_⟩⟩;exact⟨_,results_tmp rfl _ _ _,v,ys,rfl,hS,ownsRow_putObj hrow _ hK rfl,hnil,hB.trans (belowK_b (w:=w) (Nat.le_refl _) W D _ _ (by simp at hD;omega) hK rfl rfl)⟩
 case stop=>
  rintro D c pre W _ _ h _;exact h.elim
end Unt
end
section
namespace SortU
open Go.RowKit Go.Shelf
open Go.Sort (ltInt PermIn SortedIn)
open Go.Maps (Keyed)
open _root_.Go.Proofs.YtkdjkngfnapjcaaGreatDoor.Unt (seV seL)
def sortI (l:List Int):List Int:=l.mergeSort fun x y=>decide (x≤y)
theorem ZlD {zs:List Int} {R:Array Int} (hP:PermIn 0 zs.length zs.toArray R) (hS:SortedIn ltInt 0 zs.length R):R.toList=sortI zs:=by
 have h:=Sort.sorted_unique_holds Sort.swo_ltInt (fun x y h1 h2=>by simp only[ltInt,decide_eq_false_iff_not] at h1 h2;omega) zs.toArray R (by simpa using hP) (by simpa using hS);rw[h];unfold sortI;simp only[]
 congr 1
 funext x y
 show(!decide (y < x))=decide (x≤y)
 by_cases h:x≤y
 · have h':¬y < x:=by omega
   simp[h,h']
 have h':y < x:=by omega
 simp[h,h']
theorem sortI_perm {l m:List Int} (h:l.Perm m):sortI l=sortI m:=by
 have hp:(sortI l).Perm (sortI m):=(List.mergeSort_perm l _).trans (h.trans (List.mergeSort_perm m _).symm)
 have tr:∀a b c:Int,decide (a≤b)=true→decide (b≤c)=true→decide (a≤c)=true:=by intro a b c h1 h2;simp at *;omega
 have tt:∀a b:Int,(decide (a≤b) || decide (b≤a))=true:=by intro a b;simp;omega
 refine List.Perm.eq_of_pairwise (le:=fun a b=>decide (a≤b)=true) ?_ (List.pairwise_mergeSort tr tt l) (List.pairwise_mergeSort tr tt m) hp;intro a b _ _ h1 h2
 simp at h1 h2
 omega
theorem sortI_len (l:List Int):(sortI l).length=l.length:=List.length_mergeSort l
theorem ZiM (l:List Int):l.flatMap seL=l.map (Value.int .u64):=by
 induction l with
 |nil=>rfl
 |cons x l ih=>rw[List.flatMap_cons,ih];rfl
abbrev rowI (v:Value) (l:List Int):Part:=.row 23 1 v l.length (l.flatMap seL)
theorem Zme (ax:Option Addr) (cap:Nat) (w:World):Calls Tryz.prog 318 #[.slice ax 0 cap,.int .i64 0,.int .i64 0] w fun e w'=>e=.returned (.tuple #[])∧w'=w:=by
 go_enter Tryz.func318,Tryz.ntmps318
 go_wp2_with fail
 go_loopg [6] 0 (fun(k:Nat) u wr=>u=.int .i64 1∧wr=w)
 case atStart=>exact⟨rfl,rfl⟩
 case round=>
  obtain⟨rfl,rfl⟩:=hrel
  go_wp2_with fail
  go_end0
  exact⟨rfl,rfl⟩
theorem ZlV (ax:Option Addr) (cap:Nat) (w:World):Calls Tryz.prog 299 #[.slice ax 0 cap,.int .i64 0,.int .i64 0,.int .i64 0] w fun e w'=>e=.returned (.tuple #[])∧w'=w:=by
 go_enter Tryz.func299,Tryz.ntmps299
 go_wp2_with fail
 go_loopg [1,2,3] 0 (fun(k:Nat) u1 u2 u3 wr=>u1=.int .i64 0∧u2=.int .i64 0∧u3=.int .i64 0∧wr=w)
 case atStart=>exact⟨rfl,rfl,rfl,rfl⟩
 case round=>
  obtain⟨rfl,rfl,rfl,rfl⟩:=hrel
  go_wp2_with fail
  refine(Zme _ _ _).mono ?_;rintro e w' ⟨rfl,rfl⟩
  go_wp2_with fail
  refine bodyPost_ret (results_none rfl _ _ _) rfl ?_;exact⟨rfl,rfl⟩
theorem ZlC {w:World} {v:Value} {l:List Int} (h:Sep [rowI v l] w) (hmax:l.length < 4611686018427387904):
 Calls Tryz.prog 277 #[v] w fun e w'=>e=.returned (.tuple #[])∧At [rowI v l] w [rowI v (sortI l)] w':=by
 have hA:=At.start h;clear h;obtain⟨ax,cap,rfl,hax,hcap,_⟩:=hA.row_form (v:=v) (xs:=l.flatMap seL) .here
 have hLen:∀w,Calls Tryz.prog 136 #[.int .u64 (l.length:Int)] w fun e w'=>e=.returned (.int .i64 (Lib.bitLen l.length:Nat))∧w'=w:=fun w=>by
  have h:=Tryz.bits_Len (l.length:Int) w (by omega) (by omega)
  rwa [Int.toNat_natCast] at h
 have hk:=(Zex l.length (by omega)).2 hmax
 have hlw:IntKind.u64.wrap (l.length:Int)=(l.length:Int):=by rw[IntKind.wrap_u64];omega
 by_cases hl:0 < l.length
 · obtain⟨g,c,rfl,_,hcm,hcl,hct,hB⟩:=hA.row_open (ax:=ax) (cap:=cap) (n:=l.length) (xs:=l.flatMap seL) .here hl
   have hc:c=rowC l.toArray (c.drop l.length):=by
    unfold rowC;rw[List.toList_toArray,←ZiM,←hct,Nat.mul_one,List.take_append_drop]
   obtain⟨r,hr⟩:∃r,c.drop l.length=r:=⟨_,rfl⟩
   rw[hr] at hc
   have hrl:r.length=cap - l.length:=by rw[←hr,List.length_drop,hcl];omega
   subst hc;have hrl':=Hd hrl;clear hr hct hcl hrl hA;have hA:=hB;clear hB
   go_enter Tryz.func277,Tryz.ntmps277
   go_wp2_with (go_at_call 136;refine(hLen _).mono ?_;rintro e w' ⟨rfl,rfl⟩)
   refine(Znv (l.length + 1) (g:=g) (d:=l.toArray) (r:=r) (a:=0) (b:=l.length) (limit:=Lib.bitLen l.length) (hA.sep1 .here) (by simp) (by omega) (by omega) (by simp) (by omega) (by simpa using hmax) (.inl rfl)).mono ?_;rintro e w1 ⟨R,rfl,hp,hs,hT⟩;have hB:=hA.call1 .here hT;clear hA hT;have hR:=Hd (ZlD hp hs)
   have hsz:R.size=l.length:=by have:=hp.1;simpa using this
   clear hp hs
   go_wp2_with fail
   go_end0
   refine⟨rfl,?_⟩
   have hC:=hB.row_shut (size:=1) (n:=l.length) (xs:=(sortI l).flatMap seL) .here (cap:=cap) (by rw[ZlM,hrl'.out,hsz];omega) hcap hcm (by
    unfold rowC
    rw[hR.out,←ZiM,Nat.mul_one,List.take_append_of_le_length (by rw[Zbi seL 1 (fun _=>rfl),sortI_len];omega),List.take_of_length_le (by rw[Zbi seL 1 (fun _=>rfl),sortI_len];omega)])
   unfold rowI;rw[sortI_len];exact hC.pick pR
 have h0:l=[]:=List.eq_nil_of_length_eq_zero (by omega);subst h0;have hz:(([]:List Int).length:Int)=0:=rfl;have hbl:Lib.bitLen 0=0:=rfl
 simp only[List.length_nil] at *
 go_enter Tryz.func277,Tryz.ntmps277
 go_wp2_with (go_at_call 136;refine(hLen _).mono ?_;rintro e w' ⟨rfl,rfl⟩)
 refine(ZlV _ _ _).mono ?_;rintro e w1 ⟨rfl,rfl⟩
 go_wp2_with fail
 go_end0
 exact⟨rfl,by simpa [sortI] using hA⟩
theorem collect_in (F:Fence) (n:Nat) (hF:F.fn 276) (hF2:F.fn 298) (hro:F.round=none) (hn:4≤n) (gf:Nat) (lb:Array Value) (hFg:F.fn gf) (eg:∀args w,(callFunc gf args).run Tryz.prog w=.ok (.enter gf args) w)
 (S Sp:List Int→Prop) (N:Nat) (hN:N≤100000000) (w:World) (hseq:SeqStopsK F (n - 1 - 1) Tryz.prog gf lb (fun x:Int=> #[seV x]) KeepsWalks S Sp N w):
 CallsIn F n Tryz.prog 276 #[.func (.func gf) #[] lb] w fun e w'=>∃(v:Value) (ss:List Int),e=.returned v∧S ss∧w'.ownsRow w.heap.size 23 1 v ss.length (ss.flatMap seL)∧(v=.slice none 0 0↔ss=[])∧Below w.heap.size w w':=by
 have h1:1≤n:=by omega
 refine callsIn_of_wp Tryz.func276 rfl hF ?_ hro;simp only[Tryz.ntmps276,List.size_toArray,List.length_cons,List.length_nil,Nat.reduceAdd,Nat.reduceSub,Array.replicate_succ,Array.replicate_zero,List.push_toArray,List.append_toArray,List.nil_append,List.cons_append]
 gi_wp2_with (gi_at_call 298;refine(Unt.appendSeq_in F (n - 1) hF2 hro (by omega) gf lb hFg eg S Sp N hN _ hseq).mono ?_;rintro e W ⟨v,ss,rfl,hS,hrow,hnil,hb⟩)
 go_ret;exact⟨v,ss,rfl,hS,hrow,hnil,hb⟩
theorem collect_keys (Bm b:Nat) (es:List (Value × Value)) (ks:List Int) (hes:es.map (·.1)=ks.map seV) (w:World) (hBm:Bm < w.heap.size) (hm:w.cell? ⟨Bm,0,none⟩=some (.map (some b))) (hM:MapAt Tryz.prog 23 w b es) (hN:ks.length≤100000000):
 Calls Tryz.prog 276 #[.func (.func 278) #[] #[.pointer (some ⟨Bm,0,none⟩)]] w fun e w'=>∃(v:Value) (ss:List Int),e=.returned v∧ss.Perm ks∧w'.ownsRow w.heap.size 23 1 v ss.length (ss.flatMap seL)∧(v=.slice none 0 0↔ss=[])∧Below w.heap.size w w':=
 callsIn_wide.1 (collect_in Fence.wide 5 trivial trivial rfl (by omega) _ _ trivial (enters_of Tryz.func278 (by kernel_rfl) rfl) _ _ ks.length hN w
  (Unt.keys_stops Fence.wide _ trivial rfl (by omega) Bm b es ks hes w hBm hm hM))
def ZjG (L0:List Part) (w:World) (L:List Part) (ks:List Int) (e:Ending) (w':World):Prop:=∃v,e=.returned v∧At L0 w (rowI v (sortI ks)::L) w'
theorem sorted_any {L0 L F G:List Part} {w0 w:World} {Bm b:Nat} {es:List (Value × Value)} {T:TypeId} (hA:At L0 w0 L w) (s1:Sel (Part.cells Bm [.map (some b)] T) L F) (s2:Sel (Part.map Tryz.prog 23 b es) L G) (ks:List Int) (hes:es.map (·.1)=ks.map seV) (hN:ks.length≤100000000):
 Calls Tryz.prog 235 #[.func (.func 278) #[] #[.pointer (some ⟨Bm,0,none⟩)]] w (ZjG L0 w0 L ks):=by
 have hb:Zaa w Bm [.map (some b)] T:=hA.get s1;have hC:=collect_keys Bm b es ks hes w hb.lt (hb.cell 0) (hA.get s2) hN;clear hes
 go_enter Tryz.func235,Tryz.ntmps235
 go_wp2_with fail
 refine hC.mono ?_;rintro e w1 ⟨v,ss,rfl,hp,hrow,_,hbl⟩;have hB:=hA.row_new hbl hrow;have hss:=Hd (sortI_perm hp);have hll:=hp.length_eq;clear hA hC hrow hbl hb
 go_wp2_with fail
 refine(ZlC (l:=ss) (hB.sep1 .here) (by omega)).mono ?_;rintro e w2 ⟨rfl,hT⟩;have hD:=hB.call1 .here hT;clear hB hT
 go_wp2_with fail
 go_ret;rw[hss.out] at hD;exact⟨v,rfl,hD⟩
theorem Zl4 (mb:Option Nat) (w:World):
 Calls Tryz.prog 236 #[.map mb] w fun e w'=>e=.returned (.func (.func 278) #[] #[.pointer (some ⟨w.heap.size,0,none⟩)])∧w'=w.alloc (.cells #[.map mb] 217):=
 callsIn_wide.1 (Unt.keys_in Fence.wide 1 trivial rfl mb w)
end SortU
end
section
namespace Lease
open Go.RowKit
open Go.Maps (Keyed)
open _root_.Go.Proofs.YtkdjkngfnapjcaaGreatDoor.SortU (rowI sortI)
def reqs (s:Ses):List Int:=s.told.map (·.1)
theorem Zjf (l:List (Int × Ans)):(saids l).map (·.1)=(l.map (·.1)).map Unt.seV:=by simp[saids,saidE,Unt.seV]
def Zle (w:World) (p m:Nat) (ss:List Ses) (n:Int) (f:ByteArray) (e:Ending) (w':World):Prop:=∃v,e=.returned v∧At [BookP p m ss] w [rowI v (sortI (reqs (look ss n f))),BookP p m ss] w'
theorem Zgv {w:World} {p m:Nat} {ss:List Ses} (h:Sep [BookP p m ss] w) {n:Int} {f:ByteArray} (h0:0≤n) (h1:n < big64) (hf:f.size≤maxLen) (hmax:(look ss n f).told.length≤1000000):
 Calls Tryz.prog 182 #[.pointer (some ⟨p,0,none⟩),.agg #[.int .u64 n,.string f]] w (Zle w p m ss n f):=by
 obtain⟨kl,hk⟩:=keyS h0 h1 hf
 cases hn:find ss n f with
 |none=>
  have hmiss:=Hd (find_none hn);have hr:=Hd (show sortI (reqs (look ss n f))=[] by unfold look;rw[hn];simp[fresh,reqs,sortI]);have hA:=begin0 h;obtain⟨hA,hF⟩:=fY hA;clear h hmax
  unfold keyV at *
  go_enter Tryz.func182,Tryz.ntmps182
  go_wp2_with ((with_reducible refine gbx ?_);refine wCy hA ?_;clear hF hA;intro b1 w1 hA hb1 hF)
  have hl:∀q,(Instr.lookup 212 (.map (some m)) (.agg #[.int .u64 n,.string f]) true).run Tryz.prog (w1.drewN q)=.ok (.tuple #[.pointer none,.bool false]) (w1.drewN q):=fun q=>
   MapAt.look_none (w:=w1.drewN q) ((hA.drewN q).get (A:=mapC m (ents ss)) sR) lawS Tryz.underlying212 hk hmiss.out (by kernel_rfl) true
  go_quiet (fail)
  have hA:=hA.drewN nq;generalize World.drewN _ nq=w1 at *;clear hF;obtain⟨hA,hF⟩:=fY hA
  go_wp2_with fail
  refine bodyPost_ret (v:=.slice none 0 0) (by simp[results,Tryz.results182,go_sem,hF]) rfl ⟨_,rfl,?_⟩;rw[hr.out];have hN:At _ _ (rowI (.slice none 0 0) []::_) _:=(fold0 (m:=m) (ss:=ss) hA sR sR sR).row_nil 23 1;exact hN.pick pR
 |some s=>
  have hmem:=Hd (find_mem hn)
  have hlk:look ss n f=s:=by unfold look;rw[hn];rfl
  rw[hlk] at hmax;have hlk':=Hd hlk;clear hlk;obtain⟨l1,l2,e,_,_,_⟩:=find_split hn;have e':=Hd e;subst e;have hA:=Zi2 h;simp only[Ses.cells] at hA;obtain⟨hA,hF⟩:=fY hA;clear h hn
  unfold keyV at *
  go_enter Tryz.func182,Tryz.ntmps182
  go_wp2_with ((with_reducible refine gbx ?_);refine wCy hA ?_;clear hF hA;intro b1 w1 hA hb1 hF)
  have hl:∀q,(Instr.lookup 212 (.map (some m)) (.agg #[.int .u64 n,.string f]) true).run Tryz.prog (w1.drewN q)=.ok (.tuple #[s.ptr,.bool true]) (w1.drewN q):=fun q=>
   MapAt.look_some (w:=w1.drewN q) ((hA.drewN q).get (A:=mapC m (ents (l1++s::l2))) sR) lawS Tryz.underlying212 hk hmem.out true
  unfold Ses.ptr at hl
  go_quiet (fail)
  have hA:=hA.drewN nq;generalize World.drewN _ nq=w1 at *;clear hF;obtain⟨hA,hF⟩:=fY hA
  go_wp2_with fail
  refine(SortU.Zl4 (some s.tm) _).mono ?_;rintro e _ ⟨rfl,rfl⟩;have hB:=hA.alloc [.map (some s.tm)] 217;clear hF hA
  go_wp2_with fail
  refine(SortU.sorted_any hB .here sZ (reqs s) (Zjf s.told) (by simp[reqs];omega)).mono ?_;rintro e w2 ⟨v,rfl,hD⟩;clear hB
  go_wp2_with fail
  go_ret;refine⟨v,rfl,?_⟩;rw[hlk'.out];exact(fold1 (m:=m) (s:=s) hD sR sR sZ sR sR).pick pR
end Lease
end
section
namespace Lease
open Go.RowKit
structure AR where
 r:Int
 e:Int
 n:Int
 g:Bool
structure SR where
 num:Int
 foot:ByteArray
 op:Bool
 dead:Bool
 dl:Int
 ttl:Int
 ax:Option Addr
 cap:Nat
 told:List AR
def SR.tv (s:SR):Value:=.slice s.ax s.told.length s.cap
def AR.cells (a:AR):List Value:=[.int .u64 a.r,.int .i64 a.e,.int .u64 a.n,.bool a.g]
def SR.cells (s:SR):List Value:=[.int .u64 s.num,.string s.foot,.bool s.op,.bool s.dead,.int .i64 s.dl,.int .i64 s.ttl,s.tv]
theorem SR.cells_len (s:SR):s.cells.length=7:=rfl
theorem SR.ones (s:SR):s.cells.all (·.oneCell')=true:=rfl
theorem SR.one (s:SR):∀u ∈ s.cells,u.oneCell'=true:=List.all_eq_true.1 s.ones
def SR.is (n:Int) (f:ByteArray) (s:SR):Bool:=s.num==n&&(s.foot.toList==f.toList)
def noSR (n:Int) (f:ByteArray):SR:=⟨n,f,false,false,0,0,none,0,[]⟩
def findR (L:List SR) (n:Int) (f:ByteArray):SR:=(L.find? (SR.is n f)).getD (noSR n f)
theorem Zjy {L:List SR} {n:Int} {f:ByteArray} (hn:∀x ∈ L,SR.is n f x=false):findR L n f=noSR n f:=by
 unfold findR;rw[List.find?_eq_none.2 (fun x hx=>by rw[hn x hx];simp)]
 rfl
end Lease
end
section
namespace Lease
open Go.RowKit
theorem AR.cells_len (s:AR):s.cells.length=4:=rfl
theorem AR.ones (s:AR):s.cells.all (·.oneCell')=true:=rfl
def saidA (l:List AR) (r:Int):Option AR:=l.find? (fun a=>a.r==r)
end Lease
end
section
namespace Lease
open Go.RowKit
def Zb6 (s x:SR):Bool:=decide (x.num < s.num) || (decide (x.num=s.num)&&Op.bytesLess x.foot.toList s.foot.toList)
def Zda (s:SR) (r:List SR):List SR:=if(r.head?.map (SR.is s.num s.foot)).getD false then r.tail else r
def putR (L:List SR) (s:SR):List SR:=L.takeWhile (Zb6 s)++s::Zda s (L.dropWhile (Zb6 s))
end Lease
end
section
namespace Lease
open Go.RowKit
def Zi4 (a x:AR):Bool:=decide (x.r < a.r)
def insA (l:List AR) (a:AR):List AR:=l.takeWhile (Zi4 a)++a::l.dropWhile (Zi4 a)
theorem AR.one (s:AR):∀u ∈ s.cells,u.oneCell'=true:=List.all_eq_true.1 s.ones
end Lease
end
section
namespace Lease
open Go.RowKit
def openB (f:ByteArray) (x:SR):Bool:=(x.foot.toList==f.toList)&&x.op
def cntR (L:List SR) (f:ByteArray):Nat:=(L.filter (openB f)).length
def ZiA (s:SR) (c:Nat):Int:=if s.dead then 50 else if s.op then 15 else if 32≤c then 14 else 0
def SR.opened (s:SR) (ttl time:Int):SR:={s with op:=true,ttl:=cutI ttl,dl:=cutI (cutI time + cutI ttl)}
def SR.kept (s:SR) (time:Int):SR:={s with dl:=if s.dl < cutI (cutI time + s.ttl) then cutI (cutI time + s.ttl) else s.dl}
def SR.ended (s:SR):SR:={s with op:=false,dead:=true,dl:=0,ttl:=0}
def expE (s:SR) (time:Int):Int:=if s.op then(if time < s.dl then 54 else 0) else 50
end Lease
end
end Go.Proofs.YtkdjkngfnapjcaaGreatDoor
