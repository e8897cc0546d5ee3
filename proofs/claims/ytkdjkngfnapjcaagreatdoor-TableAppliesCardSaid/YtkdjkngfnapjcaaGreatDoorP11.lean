/- SortU4, SortU5, SortU6, SortU7, joined. -/
import Derived.Test.YtkdjkngfnapjcaaGreatDoorP10
import Derived.Deep.CutBlock
import Derived.Deep.CutRange
set_option linter.unusedSimpArgs false
set_option linter.unusedVariables false
set_option maxRecDepth 100000
set_option maxHeartbeats 16000000
namespace Go.Proofs.YtkdjkngfnapjcaaGreatDoor
section
namespace SortU
open Go.RowKit
open Go.Sort (swp ltInt scanUp scanDown partLoop partEqLoop)
theorem Zel {p:Int→Bool} {d:Array Int} {j i:Nat} (h:i≤j) (hp:p d[i]! =true):scanUp p d j i=scanUp p d j (i + 1):=by rw[scanUp,if_pos (by simp[h,hp])]
theorem Zbl {p:Int→Bool} {d:Array Int} {j i:Nat} (h:i≤j→p d[i]! =false):scanUp p d j i=i:=by
 rw[scanUp,if_neg];simp only[Bool.and_eq_true,decide_eq_true_eq,not_and,Bool.not_eq_true];exact h
theorem ZhF {p:Int→Bool} {d:Array Int} {i j:Nat} (h:i≤j + 1) (hp:p d[j + 1]! =true):scanDown p d i (j + 1)=scanDown p d i j:=by rw[scanDown,if_pos (by simp[h,hp])]
theorem Zcm {p:Int→Bool} {d:Array Int} {i x y:Nat} (h:i≤x) (hx:x=y + 1) (hp:p d[x]! =true):scanDown p d i x=scanDown p d i y:=by subst hx;exact ZhF h hp
theorem Za8 {p:Int→Bool} {d:Array Int} {i j:Nat} (h:i≤j→p d[j]! =false):scanDown p d i j=j:=by
 cases j with
 |zero=>rfl
 |succ j=>
  rw[scanDown,if_neg];simp only[Bool.and_eq_true,decide_eq_true_eq,not_and,Bool.not_eq_true];exact h
def ScanU (L0:List Part) (w:World) (g:Nat) (d:Array Int) (r:List Value) (p:Int→Bool) (i0 j:Nat) (k:Nat) (u:Value) (wr:World):Prop:=
 ∃i:Nat,u=.int .i64 i∧i0≤i∧(i≤j + 1∨i=i0)∧j + 1 - i≤k∧At L0 w [blkU g d r] wr∧scanUp p d j i=scanUp p d j i0
def ScanD (L0:List Part) (w:World) (g:Nat) (d:Array Int) (r:List Value) (p:Int→Bool) (i j0:Nat) (k:Nat) (u:Value) (wr:World):Prop:=
 ∃j:Nat,u=.int .i64 j∧j≤j0∧(i≤j + 1∨j=j0)∧j + 1 - i≤k∧At L0 w [blkU g d r] wr∧scanDown p d i j=scanDown p d i j0
def ltP (d:Array Int) (a:Nat):Int→Bool:=fun x=>ltInt x d[a]!
def geP (d:Array Int) (a:Nat):Int→Bool:=fun x=> !ltInt x d[a]!
def leP (d:Array Int) (a:Nat):Int→Bool:=fun x=> !ltInt d[a]! x
def gtP (d:Array Int) (a:Nat):Int→Bool:=fun x=>ltInt d[a]! x
theorem Zf1 {a i j i2 j2:Nat} {d:Array Int} (h1:scanUp (ltP d a) d j i=i2) (h2:scanDown (geP d a) d i2 j=j2) (h:j2 < i2):partLoop ltInt a i j d=(j2,d):=by
 unfold ltP at h1;unfold geP at h2;rw[partLoop];simp only[h1,h2];rw[if_pos h]
theorem ZhM {a i j i2 j2:Nat} {d:Array Int} (h1:scanUp (ltP d a) d j i=i2) (h2:scanDown (geP d a) d i2 j=j2) (h:i2≤j2) (hi:i≤i2) (hj:j2≤j):partLoop ltInt a i j d=partLoop ltInt a (i2 + 1) (j2 - 1) (swp d i2 j2):=by
 unfold ltP at h1;unfold geP at h2;rw[partLoop];simp only[h1,h2];rw[if_neg (by omega),dif_pos (by omega)]
theorem ZhN {a i j i2 j2:Nat} {d:Array Int} (h1:scanUp (leP d a) d j i=i2) (h2:scanDown (gtP d a) d i2 j=j2) (h:j2 < i2):partEqLoop ltInt a i j d=(i2,d):=by
 unfold leP at h1;unfold gtP at h2;rw[partEqLoop];simp only[h1,h2];rw[if_pos h]
theorem Zkv {a i j i2 j2:Nat} {d:Array Int} (h1:scanUp (leP d a) d j i=i2) (h2:scanDown (gtP d a) d i2 j=j2) (h:i2≤j2) (hi:i≤i2) (hj:j2≤j):partEqLoop ltInt a i j d=partEqLoop ltInt a (i2 + 1) (j2 - 1) (swp d i2 j2):=by
 unfold leP at h1;unfold gtP at h2;rw[partEqLoop];simp only[h1,h2];rw[if_neg (by omega),dif_pos (by omega)]
def Zd1 (L0:List Part) (w:World) (g:Nat) (d:Array Int) (r:List Value) (a b p:Nat) (e:Ending) (w':World):Prop:=
 e=.returned (.tuple #[.int .i64 (Sort.partition ltInt d a b p).1,.bool (Sort.partition ltInt d a b p).2.1])∧At L0 w [blkU g (Sort.partition ltInt d a b p).2.2 r] w'
def PartRel (L0:List Part) (w:World) (g:Nat) (d:Array Int) (r:List Value) (a B i0 j0:Nat) (k:Nat) (u v:Value) (wr:World):Prop:=
 ∃(i j:Nat) (dk:Array Int),u=.int .i64 i∧v=.int .i64 j∧a + 1≤i∧i≤B + 1∧a≤j∧j≤B∧j + 1 - i≤k∧dk.size=d.size∧At L0 w [blkU g dk r] wr∧partLoop ltInt a i j dk=partLoop ltInt a i0 j0 d
theorem Zf0 {w:World} {g cap n:Nat} {d0:Array Int} {r:List Value} (h:Sep [blkU g d0 r] w) (hn:d0.size=n) {a b p:Nat} (hap:a≤p) (hpb:p < b) (hb:b≤d0.size) (hsz:d0.size < 4611686018427387904):
 Calls Tryz.prog 326 #[.slice (some ⟨g,0,none⟩) n cap,.int .i64 a,.int .i64 b,.int .i64 p] w (Zd1 [blkU g d0 r] w g d0 r a b p):=by
 have hres:=Hd (show Sort.partition ltInt d0 a b p=(let d:=swp d0 a p;let i:=scanUp (ltP d a) d (b - 1) (a + 1);let j:=scanDown (geP d a) d i (b - 1);if i > j then(j,true,swp d j a) else(let q:=partLoop ltInt a (i + 1) (j - 1) (swp d i j);(q.1,false,swp q.2 q.1 a))) from rfl)
 obtain⟨L0,hL0,hA⟩:∃L0,L0=[blkU g d0 r]∧At L0 w [blkU g d0 r] w:=⟨_,rfl,At.start h⟩
 rw[←hL0];clear h hL0
 obtain⟨B,hBb⟩:∃B,b=B + 1:=⟨b - 1,by omega⟩
 have eB:(b:Int) - 1=(B:Int):=by omega
 have gB1:b≤B + 1:=by omega
 have gB2:B + 1≤b:=by omega
 have hBb':=Hd (show b - 1=B by omega);clear hBb
 obtain⟨A1,hA1⟩:∃A1,a + 1=A1:=⟨_,rfl⟩
 have eA1:(a:Int) + 1=(A1:Int):=by omega
 have hA1':=Hd hA1
 have gA1:a + 1≤A1∧A1≤a + 1:=by omega
 obtain⟨gA,gA'⟩:=gA1;clear hA1
 go_enter Tryz.func326,Tryz.ntmps326
 go_upto_region 1 with fail
 go_cut [0] from 12 to 25 (fun u wc=>u=.slice (some ⟨g,0,none⟩) n cap∧At L0 w [blkU g (swp d0 a p) r] wc)
 case first=>
  by_cases hxy:a=p
  · subst hxy
    (try clear hF);(have k1:=Zaj hA .here (i:=a) (by omega));(have k2:=Zaj hA .here (i:=a) (by omega));(have f1:=Zai hA .here (a));(have f2:=Zai hA .here (a));go_region;(have hB:=(ZaS hA .here (i:=a) (j:=a) (by omega) (by omega)).drew);(clear k1 k2 f1 f2 hA);(have hA:=hB);(clear hB);(generalize World.drew (World.setCell _ _ _)=wz at *)
    go_wp2_with fail
    go_meet
    case rel=>exact⟨rfl,hA⟩
  (try clear hF);(have k1:=Zaj hA .here (i:=a) (by omega));(have k2:=Zaj hA .here (i:=p) (by omega));(have f1:=Zai hA .here (a));(have f2:=Zai hA .here (p));go_region;(have hB:=(ZaS hA .here (i:=a) (j:=p) (by omega) (by omega)).drew);(clear k1 k2 f1 f2 hA);(have hA:=hB);(clear hB);(generalize World.drew (World.setCell _ _ _)=wz at *)
  go_wp2_with fail
  go_meet
  case rel=>exact⟨rfl,hA⟩
 case rest=>
  obtain⟨rfl,hB⟩:=hcut;clear hA;have hA:=hB;clear hB
  obtain⟨d1,hd1⟩:∃z,swp d0 a p=z:=⟨_,rfl⟩
  rw[hd1] at hA
  have d1s:d1.size=d0.size:=by rw[←hd1];exact Zau _ _ _
  have hd1':=Hd hd1;clear hd1
  go_upto_block 0 with fail
  go_cut [10] from 30 to 45 (fun u wc=>∃q:Nat,u=.int .i64 q∧A1≤q∧(q≤B + 1∨q=A1)∧scanUp (ltP d1 a) d1 B A1=q∧At L0 w [blkU g d1 r] wc)
  case first=>
   go_wp2_with fail
   go_loopg [10] (B + 1 - A1) (ScanU L0 w g d1 r (ltP d1 a) A1 B)
   case atStart=>exact⟨A1,by first|rfl|simp,Nat.le_refl _,.inr rfl,Nat.le_refl _,hA,rfl⟩
   case round=>
    obtain⟨x,rfl,hx1,hx2,hk,hB,hO⟩:=hrel;have hO':=Hd hO;clear hA hO;have hA:=hB;clear hB;have hF:=hA.facts;have ea:=ZaB (d:=d1) (r:=r) (i:=a) (by omega);obtain⟨hA,hF⟩:=fY hA
    by_cases hc:x≤B
    · have hg:decide ((x:Int)≤((B:Nat):Int))=true:=by simp;omega
      have ex:=ZaB (d:=d1) (r:=r) (i:=x) (by omega);cases hl:ltU (atU d1 x) (atU d1 a)
      · have hs:=Hd (Zbl (p:=ltP d1 a) (d:=d1) (j:=B) (fun _=>(show ltP d1 a d1[x]! =false from by unfold ltP;simpa [ltU,atU] using hl)))
        have hl':=Hd hl;clear hl
        go_wp2_with fail
        refine cl0 hA ?_;clear hF hA;intro w1 hA hF;(try simp only[uY] at hA hF)
        go_wp2_with fail
        go_meet
        case rel=>exact⟨x,rfl,by omega,by omega,by rw[←hO'.out,hs.out],hA⟩
      have hs:=Hd (Zel (p:=ltP d1 a) (d:=d1) (j:=B) hc (show ltP d1 a d1[x]! =true from by unfold ltP;simpa [ltU,atU] using hl));have hl':=Hd hl;clear hl
      go_wp2_with fail
      refine cl0 hA ?_;clear hF hA;intro w1 hA hF;(try simp only[uY] at hA hF)
      go_wp2_with fail
      go_roundg (gk - 1)
      case measure=>omega
      case rel=>exact⟨x + 1,by simp,by omega,by omega,by omega,hA,by rw[←hO'.out,hs.out]⟩
    have hg:decide ((x:Int)≤((B:Nat):Int))=false:=by simp;omega
    have hs:=Hd (Zbl (p:=ltP d1 a) (d:=d1) (j:=B) (i:=x) (fun h=>absurd h hc))
    go_wp2_with fail
    refine cl2 hA ?_;clear hF hA;intro w1 hA hF;(try simp only[uY] at hA hF)
    go_wp2_with fail
    go_meet
    case rel=>exact⟨x,rfl,by omega,by omega,by rw[←hO'.out,hs.out],hA⟩
  case rest=>
   obtain⟨i2,rfl,i21,i22,i23,hB⟩:=hcut;clear hA;have hA:=hB;clear hB;have i24:=Hd i23;clear i23
   go_upto_block 2 with fail
   go_cut [11] from 46 to 62 (fun u wc=>∃q:Nat,u=.int .i64 q∧q≤B∧(i2≤q + 1∨q=B)∧scanDown (geP d1 a) d1 i2 B=q∧At L0 w [blkU g d1 r] wc)
   case first=>
    go_wp2_with fail
    go_loopg [11] (B + 1 - i2) (ScanD L0 w g d1 r (geP d1 a) i2 B)
    case atStart=>exact⟨B,by first|rfl|simp,Nat.le_refl _,.inr rfl,Nat.le_refl _,hA,rfl⟩
    case round=>
     obtain⟨x,rfl,hx1,hx2,hk,hB,hO⟩:=hrel;have hO':=Hd hO;clear hA hO;have hA:=hB;clear hB;have hF:=hA.facts;have ea:=ZaB (d:=d1) (r:=r) (i:=a) (by omega);obtain⟨hA,hF⟩:=fY hA
     by_cases hc:i2≤x
     · have hg:decide (((i2:Nat):Int)≤(x:Int))=true:=by simp;omega
       obtain⟨y,hy⟩:∃y,x=y + 1:=⟨x - 1,by omega⟩
       have ey:(x:Int) - 1=(y:Int):=by omega
       have gy1:x≤y + 1:=by omega
       have gy2:y + 1≤x:=by omega
       have hy':=Hd hy;clear hy;have ex:=ZaB (d:=d1) (r:=r) (i:=x) (by omega);cases hl:ltU (atU d1 x) (atU d1 a)
       · have hs:=Hd (Zcm (p:=geP d1 a) (d:=d1) (i:=i2) hc hy'.out (show geP d1 a d1[x]! =true from by unfold geP;simpa [ltU,atU] using hl))
         have hl':=Hd hl;clear hl
         go_wp2_with fail
         refine cl0 hA ?_;clear hF hA;intro w1 hA hF;(try simp only[uY] at hA hF)
         go_wp2_with fail
         go_roundg (gk - 1)
         case measure=>omega
         case rel=>exact⟨y,by first|rfl|simp,by omega,by omega,by omega,hA,by rw[←hO'.out,hs.out]⟩
       have hs:=Hd (Za8 (p:=geP d1 a) (d:=d1) (i:=i2) (fun _=>(show geP d1 a d1[x]! =false from by unfold geP;simpa [ltU,atU] using hl)));have hl':=Hd hl;clear hl
       go_wp2_with fail
       refine cl0 hA ?_;clear hF hA;intro w1 hA hF;(try simp only[uY] at hA hF)
       go_wp2_with fail
       go_meet
       case rel=>exact⟨x,rfl,by omega,by omega,by rw[←hO'.out,hs.out],hA⟩
     have hg:decide (((i2:Nat):Int)≤(x:Int))=false:=by simp;omega
     have hs:=Hd (Za8 (p:=geP d1 a) (d:=d1) (i:=i2) (j:=x) (fun h=>absurd h hc))
     go_wp2_with fail
     refine cl2 hA ?_;clear hF hA;intro w1 hA hF;(try simp only[uY] at hA hF)
     go_wp2_with fail
     go_meet
     case rel=>exact⟨x,rfl,by omega,by omega,by rw[←hO'.out,hs.out],hA⟩
   case rest=>
    obtain⟨j2,rfl,j21,j22,j23,hB⟩:=hcut;clear hA;have hA:=hB;clear hB;have j24:=Hd j23;clear j23
    by_cases hij:j2 < i2
    · go_upto_region 8 with fail
      go_cut [0] from 12 to 94 (fun u wc=>u=.slice (some ⟨g,0,none⟩) n cap∧At L0 w [blkU g (swp d1 j2 a) r] wc)
      case first=>
       by_cases hxy:j2=a
       · subst hxy
         (try clear hF);(have k1:=Zaj hA .here (i:=j2) (by omega));(have k2:=Zaj hA .here (i:=j2) (by omega));(have f1:=Zai hA .here (j2));(have f2:=Zai hA .here (j2));go_region;(have hB:=(ZaS hA .here (i:=j2) (j:=j2) (by omega) (by omega)).drew);(clear k1 k2 f1 f2 hA);(have hA:=hB);(clear hB);(generalize World.drew (World.setCell _ _ _)=wz at *)
         go_wp2_with fail
         go_meet
         case rel=>exact⟨rfl,hA⟩
       (try clear hF);(have k1:=Zaj hA .here (i:=j2) (by omega));(have k2:=Zaj hA .here (i:=a) (by omega));(have f1:=Zai hA .here (j2));(have f2:=Zai hA .here (a));go_region;(have hB:=(ZaS hA .here (i:=j2) (j:=a) (by omega) (by omega)).drew);(clear k1 k2 f1 f2 hA);(have hA:=hB);(clear hB);(generalize World.drew (World.setCell _ _ _)=wz at *)
       go_wp2_with fail
       go_meet
       case rel=>exact⟨rfl,hA⟩
      case rest=>
       obtain⟨rfl,hB⟩:=hcut;clear hA;have hA:=hB;clear hB
       obtain⟨d2,hd2⟩:∃z,swp d1 j2 a=z:=⟨_,rfl⟩
       rw[hd2] at hA
       have d2s:d2.size=d1.size:=by rw[←hd2];exact Zau _ _ _
       have hd2':=Hd hd2;clear hd2;have hp:=Hd (show Sort.partition ltInt d0 a b p=(j2,true,d2) by rw[hres.out];simp only[hd1'.out,hBb'.out,hA1'.out,i24.out,j24.out];rw[if_pos hij,hd2'.out])
       go_wp2_with fail
       refine bodyPost_ret (v:=.tuple #[.int .i64 j2,.bool true]) (by simp[results,Tryz.results326,go_sem]) rfl ?_;unfold Zd1;rw[hp.out];exact⟨rfl,hA⟩
    have hle:i2≤j2:=by omega
    clear hij
    go_upto_region 10 with fail
    go_cut [0] from 12 to 94 (fun u wc=>u=.slice (some ⟨g,0,none⟩) n cap∧At L0 w [blkU g (swp d1 i2 j2) r] wc)
    case first=>
     by_cases hxy:i2=j2
     · subst hxy
       (try clear hF);(have k1:=Zaj hA .here (i:=i2) (by omega));(have k2:=Zaj hA .here (i:=i2) (by omega));(have f1:=Zai hA .here (i2));(have f2:=Zai hA .here (i2));go_region;(have hB:=(ZaS hA .here (i:=i2) (j:=i2) (by omega) (by omega)).drew);(clear k1 k2 f1 f2 hA);(have hA:=hB);(clear hB);(generalize World.drew (World.setCell _ _ _)=wz at *)
       go_wp2_with fail
       go_meet
       case rel=>exact⟨rfl,hA⟩
     (try clear hF);(have k1:=Zaj hA .here (i:=i2) (by omega));(have k2:=Zaj hA .here (i:=j2) (by omega));(have f1:=Zai hA .here (i2));(have f2:=Zai hA .here (j2));go_region;(have hB:=(ZaS hA .here (i:=i2) (j:=j2) (by omega) (by omega)).drew);(clear k1 k2 f1 f2 hA);(have hA:=hB);(clear hB);(generalize World.drew (World.setCell _ _ _)=wz at *)
     go_wp2_with fail
     go_meet
     case rel=>exact⟨rfl,hA⟩
    case rest=>
     obtain⟨rfl,hB⟩:=hcut;clear hA;have hA:=hB;clear hB
     obtain⟨d2,hd2⟩:∃z,swp d1 i2 j2=z:=⟨_,rfl⟩
     rw[hd2] at hA
     have d2s:d2.size=d1.size:=by rw[←hd2];exact Zau _ _ _
     have hd2':=Hd hd2;clear hd2
     obtain⟨i3,hi3⟩:∃i3,i2 + 1=i3:=⟨_,rfl⟩
     obtain⟨j3,hj3⟩:∃j3,j2 - 1=j3:=⟨_,rfl⟩
     have ei3:(i2:Int) + 1=(i3:Int):=by omega
     have ej3:(j2:Int) - 1=(j3:Int):=by omega
     have hi3':=Hd hi3;have hj3':=Hd hj3
     have gi3:A1 + 1≤i3:=by omega
     have gi4:i3≤B + 1:=by omega
     have gj3:a≤j3:=by omega
     have gj4:j3≤B:=by omega
     clear hi3 hj3
     go_upto_block 4 with fail
     go_cut [10,11] from 99 to 152 (fun u v wc=>∃(q:Nat) (dq:Array Int),v=.int .i64 q∧a≤q∧q≤B∧dq.size=d0.size∧partLoop ltInt a i3 j3 d2=(q,dq)∧At L0 w [blkU g dq r] wc)
     case first=>
      go_wp2_with fail
      go_loopg [10,11] (j3 + 1 - i3) (PartRel L0 w g d2 r a B i3 j3)
      case atStart=>exact⟨i3,j3,d2,rfl,rfl,by omega,by omega,by omega,by omega,Nat.le_refl _,rfl,hA,rfl⟩
      case round=>
       obtain⟨i,j,dk,rfl,rfl,hi1,hi2,hj1,hj2,hk,hsk,hB,hO⟩:=hrel;have hO':=Hd hO;clear hA hO;have hA:=hB;clear hB
       go_upto_block 6 with fail
       go_cut [10] from 99 to 114 (fun u wc=>∃q:Nat,u=.int .i64 q∧i≤q∧(q≤j + 1∨q=i)∧scanUp (ltP dk a) dk j i=q∧At L0 w [blkU g dk r] wc)
       case first=>
        go_wp2_with fail
        go_loopg [10] (j + 1 - i) (ScanU L0 w g dk r (ltP dk a) i j)
        case atStart=>exact⟨i,by first|rfl|simp,Nat.le_refl _,.inr rfl,Nat.le_refl _,hA,rfl⟩
        case round=>
         obtain⟨x,rfl,hx1,hx2,hk,hB,hO⟩:=hrel;have hO':=Hd hO;clear hA hO;have hA:=hB;clear hB;have hF:=hA.facts;have ea:=ZaB (d:=dk) (r:=r) (i:=a) (by omega);obtain⟨hA,hF⟩:=fY hA
         by_cases hc:x≤j
         · have hg:decide ((x:Int)≤((j:Nat):Int))=true:=by simp;omega
           have ex:=ZaB (d:=dk) (r:=r) (i:=x) (by omega);cases hl:ltU (atU dk x) (atU dk a)
           · have hs:=Hd (Zbl (p:=ltP dk a) (d:=dk) (j:=j) (fun _=>(show ltP dk a dk[x]! =false from by unfold ltP;simpa [ltU,atU] using hl)))
             have hl':=Hd hl;clear hl
             go_wp2_with fail
             refine cl0 hA ?_;clear hF hA;intro w1 hA hF;(try simp only[uY] at hA hF)
             go_wp2_with fail
             go_meet
             case rel=>exact⟨x,rfl,by omega,by omega,by rw[←hO'.out,hs.out],hA⟩
           have hs:=Hd (Zel (p:=ltP dk a) (d:=dk) (j:=j) hc (show ltP dk a dk[x]! =true from by unfold ltP;simpa [ltU,atU] using hl));have hl':=Hd hl;clear hl
           go_wp2_with fail
           refine cl0 hA ?_;clear hF hA;intro w1 hA hF;(try simp only[uY] at hA hF)
           go_wp2_with fail
           go_roundg (gk - 1)
           case measure=>omega
           case rel=>exact⟨x + 1,by simp,by omega,by omega,by omega,hA,by rw[←hO'.out,hs.out]⟩
         have hg:decide ((x:Int)≤((j:Nat):Int))=false:=by simp;omega
         have hs:=Hd (Zbl (p:=ltP dk a) (d:=dk) (j:=j) (i:=x) (fun h=>absurd h hc))
         go_wp2_with fail
         refine cl2 hA ?_;clear hF hA;intro w1 hA hF;(try simp only[uY] at hA hF)
         go_wp2_with fail
         go_meet
         case rel=>exact⟨x,rfl,by omega,by omega,by rw[←hO'.out,hs.out],hA⟩
       case rest=>
        obtain⟨i4,rfl,i41,i42,i43,hB⟩:=hcut;clear hA;have hA:=hB;clear hB;have i44:=Hd i43;clear i43
        go_upto_block 8 with fail
        go_cut [11] from 115 to 131 (fun u wc=>∃q:Nat,u=.int .i64 q∧q≤j∧(i4≤q + 1∨q=j)∧scanDown (geP dk a) dk i4 j=q∧At L0 w [blkU g dk r] wc)
        case first=>
         go_wp2_with fail
         go_loopg [11] (j + 1 - i4) (ScanD L0 w g dk r (geP dk a) i4 j)
         case atStart=>exact⟨j,by first|rfl|simp,Nat.le_refl _,.inr rfl,Nat.le_refl _,hA,rfl⟩
         case round=>
          obtain⟨x,rfl,hx1,hx2,hk,hB,hO⟩:=hrel;have hO':=Hd hO;clear hA hO;have hA:=hB;clear hB;have hF:=hA.facts;have ea:=ZaB (d:=dk) (r:=r) (i:=a) (by omega);obtain⟨hA,hF⟩:=fY hA
          by_cases hc:i4≤x
          · have hg:decide (((i4:Nat):Int)≤(x:Int))=true:=by simp;omega
            obtain⟨y,hy⟩:∃y,x=y + 1:=⟨x - 1,by omega⟩
            have ey:(x:Int) - 1=(y:Int):=by omega
            have gy1:x≤y + 1:=by omega
            have gy2:y + 1≤x:=by omega
            have hy':=Hd hy;clear hy;have ex:=ZaB (d:=dk) (r:=r) (i:=x) (by omega);cases hl:ltU (atU dk x) (atU dk a)
            · have hs:=Hd (Zcm (p:=geP dk a) (d:=dk) (i:=i4) hc hy'.out (show geP dk a dk[x]! =true from by unfold geP;simpa [ltU,atU] using hl))
              have hl':=Hd hl;clear hl
              go_wp2_with fail
              refine cl0 hA ?_;clear hF hA;intro w1 hA hF;(try simp only[uY] at hA hF)
              go_wp2_with fail
              go_roundg (gk - 1)
              case measure=>omega
              case rel=>exact⟨y,by first|rfl|simp,by omega,by omega,by omega,hA,by rw[←hO'.out,hs.out]⟩
            have hs:=Hd (Za8 (p:=geP dk a) (d:=dk) (i:=i4) (fun _=>(show geP dk a dk[x]! =false from by unfold geP;simpa [ltU,atU] using hl)));have hl':=Hd hl;clear hl
            go_wp2_with fail
            refine cl0 hA ?_;clear hF hA;intro w1 hA hF;(try simp only[uY] at hA hF)
            go_wp2_with fail
            go_meet
            case rel=>exact⟨x,rfl,by omega,by omega,by rw[←hO'.out,hs.out],hA⟩
          have hg:decide (((i4:Nat):Int)≤(x:Int))=false:=by simp;omega
          have hs:=Hd (Za8 (p:=geP dk a) (d:=dk) (i:=i4) (j:=x) (fun h=>absurd h hc))
          go_wp2_with fail
          refine cl2 hA ?_;clear hF hA;intro w1 hA hF;(try simp only[uY] at hA hF)
          go_wp2_with fail
          go_meet
          case rel=>exact⟨x,rfl,by omega,by omega,by rw[←hO'.out,hs.out],hA⟩
        case rest=>
         obtain⟨j4,rfl,j41,j42,j43,hB⟩:=hcut;clear hA;have hA:=hB;clear hB;have j44:=Hd j43;clear j43
         by_cases hij:j4 < i4
         · have hs:=Hd (Zf1 i44.out j44.out hij)
           go_wp2_with fail
           go_meet
           case rel=>exact⟨j4,dk,rfl,by omega,by omega,by omega,by rw[←hO'.out,hs.out],hA⟩
         have hle2:i4≤j4:=by omega
         have hs:=Hd (ZhM i44.out j44.out hle2 (by omega) (by omega));clear hij
         go_upto_region 18 with fail
         go_cut [0] from 99 to 152 (fun u wc=>u=.slice (some ⟨g,0,none⟩) n cap∧At L0 w [blkU g (swp dk i4 j4) r] wc)
         case first=>
          by_cases hxy:i4=j4
          · subst hxy
            (try clear hF);(have k1:=Zaj hA .here (i:=i4) (by omega));(have k2:=Zaj hA .here (i:=i4) (by omega));(have f1:=Zai hA .here (i4));(have f2:=Zai hA .here (i4));go_region;(have hB:=(ZaS hA .here (i:=i4) (j:=i4) (by omega) (by omega)).drew);(clear k1 k2 f1 f2 hA);(have hA:=hB);(clear hB);(generalize World.drew (World.setCell _ _ _)=wz at *)
            go_wp2_with fail
            go_meet
            case rel=>exact⟨rfl,hA⟩
          (try clear hF);(have k1:=Zaj hA .here (i:=i4) (by omega));(have k2:=Zaj hA .here (i:=j4) (by omega));(have f1:=Zai hA .here (i4));(have f2:=Zai hA .here (j4));go_region;(have hB:=(ZaS hA .here (i:=i4) (j:=j4) (by omega) (by omega)).drew);(clear k1 k2 f1 f2 hA);(have hA:=hB);(clear hB);(generalize World.drew (World.setCell _ _ _)=wz at *)
          go_wp2_with fail
          go_meet
          case rel=>exact⟨rfl,hA⟩
         case rest=>
          obtain⟨rfl,hB⟩:=hcut;clear hA;have hA:=hB;clear hB
          obtain⟨d5,hd5⟩:∃z,swp dk i4 j4=z:=⟨_,rfl⟩
          rw[hd5] at hA
          have d5s:d5.size=dk.size:=by rw[←hd5];exact Zau _ _ _
          have hd5':=Hd hd5;clear hd5
          go_wp2_with fail
          go_roundg (j4 - 1 + 1 - (i4 + 1))
          case measure=>omega
          case rel=>exact⟨i4 + 1,j4 - 1,d5,by simp,by congr 1;omega,by omega,by omega,by omega,by omega,Nat.le_refl _,by omega,hA,by rw[←hO'.out,hs.out,hd5'.out]⟩
     case rest=>
      obtain⟨q,dq,rfl,hq1,hq2,hqs,hq3,hB⟩:=hcut;clear hA;have hA:=hB;clear hB;have hq4:=Hd hq3;clear hq3
      go_upto_region 21 with fail
      go_cut [0] from 12 to 166 (fun u wc=>u=.slice (some ⟨g,0,none⟩) n cap∧At L0 w [blkU g (swp dq q a) r] wc)
      case first=>
       by_cases hxy:q=a
       · subst hxy
         (try clear hF);(have k1:=Zaj hA .here (i:=q) (by omega));(have k2:=Zaj hA .here (i:=q) (by omega));(have f1:=Zai hA .here (q));(have f2:=Zai hA .here (q));go_region;(have hB:=(ZaS hA .here (i:=q) (j:=q) (by omega) (by omega)).drew);(clear k1 k2 f1 f2 hA);(have hA:=hB);(clear hB);(generalize World.drew (World.setCell _ _ _)=wz at *)
         go_wp2_with fail
         go_meet
         case rel=>exact⟨rfl,hA⟩
       (try clear hF);(have k1:=Zaj hA .here (i:=q) (by omega));(have k2:=Zaj hA .here (i:=a) (by omega));(have f1:=Zai hA .here (q));(have f2:=Zai hA .here (a));go_region;(have hB:=(ZaS hA .here (i:=q) (j:=a) (by omega) (by omega)).drew);(clear k1 k2 f1 f2 hA);(have hA:=hB);(clear hB);(generalize World.drew (World.setCell _ _ _)=wz at *)
       go_wp2_with fail
       go_meet
       case rel=>exact⟨rfl,hA⟩
      case rest=>
       obtain⟨rfl,hB⟩:=hcut;clear hA;have hA:=hB;clear hB
       obtain⟨d6,hd6⟩:∃z,swp dq q a=z:=⟨_,rfl⟩
       rw[hd6] at hA
       have d6s:d6.size=dq.size:=by rw[←hd6];exact Zau _ _ _
       have hd6':=Hd hd6;clear hd6;have hp:=Hd (show Sort.partition ltInt d0 a b p=(q,false,d6) by rw[hres.out];simp only[hd1'.out,hBb'.out,hA1'.out,i24.out,j24.out];rw[if_neg (by omega)];simp only[hd2'.out,hi3'.out,hj3'.out,hq4.out,hd6'.out])
       go_wp2_with fail
       refine bodyPost_ret (v:=.tuple #[.int .i64 q,.bool false]) (by simp[results,Tryz.results326,go_sem]) rfl ?_;unfold Zd1;rw[hp.out];exact⟨rfl,hA⟩
end SortU
end
section
namespace SortU
open Go.RowKit
open Go.Sort (swp ltInt scanUp scanDown partLoop partEqLoop)
def ZlF (L0:List Part) (w:World) (g:Nat) (d:Array Int) (r:List Value) (a B i0 j0:Nat) (k:Nat) (u v:Value) (wr:World):Prop:=
 ∃(i j:Nat) (dk:Array Int),u=.int .i64 i∧v=.int .i64 j∧a + 1≤i∧i≤B + 1∧a≤j∧j≤B∧j + 1 - i≤k∧dk.size=d.size∧At L0 w [blkU g dk r] wr∧partEqLoop ltInt a i j dk=partEqLoop ltInt a i0 j0 d
def Zdx (L0:List Part) (w:World) (g:Nat) (d:Array Int) (r:List Value) (a b p:Nat) (e:Ending) (w':World):Prop:=
 e=.returned (.int .i64 (Sort.partitionEqual ltInt d a b p).1)∧At L0 w [blkU g (Sort.partitionEqual ltInt d a b p).2 r] w'
theorem Zc3 {w:World} {g cap n:Nat} {d0:Array Int} {r:List Value} (h:Sep [blkU g d0 r] w) (hn:d0.size=n) {a b p:Nat} (hap:a≤p) (hpb:p < b) (hb:b≤d0.size) (hsz:d0.size < 4611686018427387904):
 Calls Tryz.prog 325 #[.slice (some ⟨g,0,none⟩) n cap,.int .i64 a,.int .i64 b,.int .i64 p] w (Zdx [blkU g d0 r] w g d0 r a b p):=by
 have hres:=Hd (show Sort.partitionEqual ltInt d0 a b p=partEqLoop ltInt a (a + 1) (b - 1) (swp d0 a p) from rfl)
 obtain⟨L0,hL0,hA⟩:∃L0,L0=[blkU g d0 r]∧At L0 w [blkU g d0 r] w:=⟨_,rfl,At.start h⟩
 rw[←hL0];clear h hL0
 obtain⟨B,hBb⟩:∃B,b=B + 1:=⟨b - 1,by omega⟩
 have eB:(b:Int) - 1=(B:Int):=by omega
 have gB1:b≤B + 1:=by omega
 have gB2:B + 1≤b:=by omega
 have hBb':=Hd (show b - 1=B by omega);clear hBb
 obtain⟨A1,hA1⟩:∃A1,a + 1=A1:=⟨_,rfl⟩
 have eA1:(a:Int) + 1=(A1:Int):=by omega
 have hA1':=Hd hA1
 have gA1:a + 1≤A1∧A1≤a + 1:=by omega
 obtain⟨gA,gA'⟩:=gA1;clear hA1
 go_enter Tryz.func325,Tryz.ntmps325
 go_upto_region 1 with fail
 go_cut [0] from 11 to 24 (fun u wc=>u=.slice (some ⟨g,0,none⟩) n cap∧At L0 w [blkU g (swp d0 a p) r] wc)
 case first=>
  by_cases hxy:a=p
  · subst hxy
    (try clear hF);(have k1:=Zaj hA .here (i:=a) (by omega));(have k2:=Zaj hA .here (i:=a) (by omega));(have f1:=Zai hA .here (a));(have f2:=Zai hA .here (a));go_region;(have hB:=(ZaS hA .here (i:=a) (j:=a) (by omega) (by omega)).drew);(clear k1 k2 f1 f2 hA);(have hA:=hB);(clear hB);(generalize World.drew (World.setCell _ _ _)=wz at *)
    go_wp2_with fail
    go_meet
    case rel=>exact⟨rfl,hA⟩
  (try clear hF);(have k1:=Zaj hA .here (i:=a) (by omega));(have k2:=Zaj hA .here (i:=p) (by omega));(have f1:=Zai hA .here (a));(have f2:=Zai hA .here (p));go_region;(have hB:=(ZaS hA .here (i:=a) (j:=p) (by omega) (by omega)).drew);(clear k1 k2 f1 f2 hA);(have hA:=hB);(clear hB);(generalize World.drew (World.setCell _ _ _)=wz at *)
  go_wp2_with fail
  go_meet
  case rel=>exact⟨rfl,hA⟩
 case rest=>
  obtain⟨rfl,hB⟩:=hcut;clear hA;have hA:=hB;clear hB
  obtain⟨d1,hd1⟩:∃z,swp d0 a p=z:=⟨_,rfl⟩
  rw[hd1] at hA
  have d1s:d1.size=d0.size:=by rw[←hd1];exact Zau _ _ _
  have hd1':=Hd hd1;clear hd1
  go_upto_block 0 with fail
  go_cut [9,10] from 29 to 82 (fun u v wc=>∃(q:Nat) (dq:Array Int),u=.int .i64 q∧partEqLoop ltInt a A1 B d1=(q,dq)∧At L0 w [blkU g dq r] wc)
  case first=>
   go_wp2_with fail
   go_loopg [9,10] (B + 1 - A1) (ZlF L0 w g d1 r a B A1 B)
   case atStart=>exact⟨A1,B,d1,rfl,rfl,by omega,by omega,by omega,by omega,Nat.le_refl _,rfl,hA,rfl⟩
   case round=>
    obtain⟨i,j,dk,rfl,rfl,hi1,hi2,hj1,hj2,hk,hsk,hB,hO⟩:=hrel;have hO':=Hd hO;clear hA hO;have hA:=hB;clear hB
    go_upto_block 2 with fail
    go_cut [9] from 29 to 45 (fun u wc=>∃q:Nat,u=.int .i64 q∧i≤q∧(q≤j + 1∨q=i)∧scanUp (leP dk a) dk j i=q∧At L0 w [blkU g dk r] wc)
    case first=>
     go_wp2_with fail
     go_loopg [9] (j + 1 - i) (ScanU L0 w g dk r (leP dk a) i j)
     case atStart=>exact⟨i,by first|rfl|simp,Nat.le_refl _,.inr rfl,Nat.le_refl _,hA,rfl⟩
     case round=>
      obtain⟨x,rfl,hx1,hx2,hk,hB,hO⟩:=hrel;have hO':=Hd hO;clear hA hO;have hA:=hB;clear hB;have hF:=hA.facts;have ea:=ZaB (d:=dk) (r:=r) (i:=a) (by omega);obtain⟨hA,hF⟩:=fY hA
      by_cases hc:x≤j
      · have hg:decide ((x:Int)≤((j:Nat):Int))=true:=by simp;omega
        have ex:=ZaB (d:=dk) (r:=r) (i:=x) (by omega);cases hl:ltU (atU dk a) (atU dk x)
        · have hs:=Hd (Zel (p:=leP dk a) (d:=dk) (j:=j) hc (show leP dk a dk[x]! =true from by unfold leP;simpa [ltU,atU] using hl))
          have hl':=Hd hl;clear hl
          go_wp2_with fail
          refine cl0 hA ?_;clear hF hA;intro w1 hA hF;(try simp only[uY] at hA hF)
          go_wp2_with fail
          go_roundg (gk - 1)
          case measure=>omega
          case rel=>exact⟨x + 1,by simp,by omega,by omega,by omega,hA,by rw[←hO'.out,hs.out]⟩
        have hs:=Hd (Zbl (p:=leP dk a) (d:=dk) (j:=j) (fun _=>(show leP dk a dk[x]! =false from by unfold leP;simpa [ltU,atU] using hl)));have hl':=Hd hl;clear hl
        go_wp2_with fail
        refine cl0 hA ?_;clear hF hA;intro w1 hA hF;(try simp only[uY] at hA hF)
        go_wp2_with fail
        go_meet
        case rel=>exact⟨x,rfl,by omega,by omega,by rw[←hO'.out,hs.out],hA⟩
      have hg:decide ((x:Int)≤((j:Nat):Int))=false:=by simp;omega
      have hs:=Hd (Zbl (p:=leP dk a) (d:=dk) (j:=j) (i:=x) (fun h=>absurd h hc))
      go_wp2_with fail
      refine cl2 hA ?_;clear hF hA;intro w1 hA hF;(try simp only[uY] at hA hF)
      go_wp2_with fail
      go_meet
      case rel=>exact⟨x,rfl,by omega,by omega,by rw[←hO'.out,hs.out],hA⟩
    case rest=>
     obtain⟨i4,rfl,i41,i42,i43,hB⟩:=hcut;clear hA;have hA:=hB;clear hB;have i44:=Hd i43;clear i43
     go_upto_block 4 with fail
     go_cut [10] from 46 to 61 (fun u wc=>∃q:Nat,u=.int .i64 q∧q≤j∧(i4≤q + 1∨q=j)∧scanDown (gtP dk a) dk i4 j=q∧At L0 w [blkU g dk r] wc)
     case first=>
      go_wp2_with fail
      go_loopg [10] (j + 1 - i4) (ScanD L0 w g dk r (gtP dk a) i4 j)
      case atStart=>exact⟨j,by first|rfl|simp,Nat.le_refl _,.inr rfl,Nat.le_refl _,hA,rfl⟩
      case round=>
       obtain⟨x,rfl,hx1,hx2,hk,hB,hO⟩:=hrel;have hO':=Hd hO;clear hA hO;have hA:=hB;clear hB;have hF:=hA.facts;have ea:=ZaB (d:=dk) (r:=r) (i:=a) (by omega);obtain⟨hA,hF⟩:=fY hA
       by_cases hc:i4≤x
       · have hg:decide (((i4:Nat):Int)≤(x:Int))=true:=by simp;omega
         obtain⟨y,hy⟩:∃y,x=y + 1:=⟨x - 1,by omega⟩
         have ey:(x:Int) - 1=(y:Int):=by omega
         have gy1:x≤y + 1:=by omega
         have gy2:y + 1≤x:=by omega
         have hy':=Hd hy;clear hy;have ex:=ZaB (d:=dk) (r:=r) (i:=x) (by omega);cases hl:ltU (atU dk a) (atU dk x)
         · have hs:=Hd (Za8 (p:=gtP dk a) (d:=dk) (i:=i4) (fun _=>(show gtP dk a dk[x]! =false from by unfold gtP;simpa [ltU,atU] using hl)))
           have hl':=Hd hl;clear hl
           go_wp2_with fail
           refine cl0 hA ?_;clear hF hA;intro w1 hA hF;(try simp only[uY] at hA hF)
           go_wp2_with fail
           go_meet
           case rel=>exact⟨x,rfl,by omega,by omega,by rw[←hO'.out,hs.out],hA⟩
         have hs:=Hd (Zcm (p:=gtP dk a) (d:=dk) (i:=i4) hc hy'.out (show gtP dk a dk[x]! =true from by unfold gtP;simpa [ltU,atU] using hl));have hl':=Hd hl;clear hl
         go_wp2_with fail
         refine cl0 hA ?_;clear hF hA;intro w1 hA hF;(try simp only[uY] at hA hF)
         go_wp2_with fail
         go_roundg (gk - 1)
         case measure=>omega
         case rel=>exact⟨y,by first|rfl|simp,by omega,by omega,by omega,hA,by rw[←hO'.out,hs.out]⟩
       have hg:decide (((i4:Nat):Int)≤(x:Int))=false:=by simp;omega
       have hs:=Hd (Za8 (p:=gtP dk a) (d:=dk) (i:=i4) (j:=x) (fun h=>absurd h hc))
       go_wp2_with fail
       refine cl2 hA ?_;clear hF hA;intro w1 hA hF;(try simp only[uY] at hA hF)
       go_wp2_with fail
       go_meet
       case rel=>exact⟨x,rfl,by omega,by omega,by rw[←hO'.out,hs.out],hA⟩
     case rest=>
      obtain⟨j4,rfl,j41,j42,j43,hB⟩:=hcut;clear hA;have hA:=hB;clear hB;have j44:=Hd j43;clear j43
      by_cases hij:j4 < i4
      · have hs:=Hd (ZhN i44.out j44.out hij)
        go_wp2_with fail
        go_meet
        case rel=>exact⟨i4,dk,rfl,by rw[←hO'.out,hs.out],hA⟩
      have hle2:i4≤j4:=by omega
      have hs:=Hd (Zkv i44.out j44.out hle2 (by omega) (by omega));clear hij
      go_upto_region 8 with fail
      go_cut [0] from 29 to 82 (fun u wc=>u=.slice (some ⟨g,0,none⟩) n cap∧At L0 w [blkU g (swp dk i4 j4) r] wc)
      case first=>
       by_cases hxy:i4=j4
       · subst hxy
         (try clear hF);(have k1:=Zaj hA .here (i:=i4) (by omega));(have k2:=Zaj hA .here (i:=i4) (by omega));(have f1:=Zai hA .here (i4));(have f2:=Zai hA .here (i4));go_region;(have hB:=(ZaS hA .here (i:=i4) (j:=i4) (by omega) (by omega)).drew);(clear k1 k2 f1 f2 hA);(have hA:=hB);(clear hB);(generalize World.drew (World.setCell _ _ _)=wz at *)
         go_wp2_with fail
         go_meet
         case rel=>exact⟨rfl,hA⟩
       (try clear hF);(have k1:=Zaj hA .here (i:=i4) (by omega));(have k2:=Zaj hA .here (i:=j4) (by omega));(have f1:=Zai hA .here (i4));(have f2:=Zai hA .here (j4));go_region;(have hB:=(ZaS hA .here (i:=i4) (j:=j4) (by omega) (by omega)).drew);(clear k1 k2 f1 f2 hA);(have hA:=hB);(clear hB);(generalize World.drew (World.setCell _ _ _)=wz at *)
       go_wp2_with fail
       go_meet
       case rel=>exact⟨rfl,hA⟩
      case rest=>
       obtain⟨rfl,hB⟩:=hcut;clear hA;have hA:=hB;clear hB
       obtain⟨d5,hd5⟩:∃z,swp dk i4 j4=z:=⟨_,rfl⟩
       rw[hd5] at hA
       have d5s:d5.size=dk.size:=by rw[←hd5];exact Zau _ _ _
       have hd5':=Hd hd5;clear hd5
       go_wp2_with fail
       go_roundg (j4 - 1 + 1 - (i4 + 1))
       case measure=>omega
       case rel=>exact⟨i4 + 1,j4 - 1,d5,by simp,by congr 1;omega,by omega,by omega,by omega,by omega,Nat.le_refl _,by omega,hA,by rw[←hO'.out,hs.out,hd5'.out]⟩
  case rest=>
   obtain⟨q,dq,rfl,hq3,hB⟩:=hcut;clear hA;have hA:=hB;clear hB;have hq4:=Hd hq3;clear hq3;have hp:=Hd (show Sort.partitionEqual ltInt d0 a b p=(q,dq) by rw[hres.out];simp only[hd1'.out,hBb'.out,hA1'.out,hq4.out])
   go_wp2_with fail
   refine bodyPost_ret (v:=.int .i64 q) (by simp[results,Tryz.results325,go_sem]) rfl ?_;unfold Zdx;rw[hp.out];exact⟨rfl,hA⟩
end SortU
end
section
namespace SortU
open Go.RowKit
open Go.Sort (swp ltInt scanSorted shiftDown shiftUp partialIns)
theorem Zl0 {d:Array Int} {b i y:Nat} (hy:i=y + 1) (h:i < b) (hl:ltU (atU d i) (atU d y)=false):scanSorted ltInt d b i=scanSorted ltInt d b (i + 1):=by
 subst hy;have hl':ltInt d[y + 1]! d[y]! =false:=hl;rw[scanSorted,if_pos (by simp[h,hl'])]
theorem Ze4 {d:Array Int} {b i:Nat} (h:i < b→∃y,i=y + 1∧ltU (atU d i) (atU d y)=true):scanSorted ltInt d b i=i:=by
 rw[scanSorted,if_neg];simp only[Bool.and_eq_true,decide_eq_true_eq,not_and,Bool.not_eq_true];intro hb;obtain⟨y,rfl,hl⟩:=h hb;have hl':ltInt d[y + 1]! d[y]! =true:=hl;simp[hl']
theorem Zkf {d:Array Int} {x y:Nat} (hx:x=y + 1) (hl:ltU (atU d x) (atU d y)=true):shiftDown ltInt x d=shiftDown ltInt y (swp d x y):=by
 subst hx;have hl':ltInt d[y + 1]! d[y]! =true:=hl;rw[shiftDown,hl']
 rfl
theorem ZhD {d:Array Int} {x y:Nat} (hx:x=y + 1) (hl:ltU (atU d x) (atU d y)=false):shiftDown ltInt x d=d:=by
 subst hx;have hl':ltInt d[y + 1]! d[y]! =false:=hl;rw[shiftDown,hl']
 rfl
theorem Zke {d:Array Int} {b x y:Nat} (hx:x=y + 1) (h:x < b) (hl:ltU (atU d x) (atU d y)=true):shiftUp ltInt b x d=shiftUp ltInt b (x + 1) (swp d x y):=by
 subst hx;have hl':ltInt d[y + 1]! d[y]! =true:=hl;rw[shiftUp,if_pos h,Nat.add_sub_cancel,hl']
 rfl
theorem Zei {d:Array Int} {b x:Nat} (h:x < b→∃y,x=y + 1∧ltU (atU d x) (atU d y)=false):shiftUp ltInt b x d=d:=by
 rw[shiftUp]
 by_cases hb:x < b
 · obtain⟨y,rfl,hl⟩:=h hb
   have hl':ltInt d[y + 1]! d[y]! =false:=hl;rw[if_pos hb,Nat.add_sub_cancel,hl']
   rfl
 rw[if_neg hb]
def stepD (d:Array Int) (a i:Nat):Array Int:=if i - a ≥ 2 then shiftDown ltInt (i - 1) (swp d i (i - 1)) else swp d i (i - 1)
def stepU (d:Array Int) (b i:Nat):Array Int:=if b - i ≥ 2 then shiftUp ltInt b (i + 1) d else d
theorem pi_end {a b s i i':Nat} {d:Array Int} (hi:scanSorted ltInt d b i=i') (h:i'=b):partialIns ltInt a b (s + 1) i d=(d,true):=by
 rw[partialIns];simp only[hi];rw[if_pos h]
theorem Zms {a b s i i':Nat} {d:Array Int} (hi:scanSorted ltInt d b i=i') (h:¬i'=b) (h2:b - a < 50):partialIns ltInt a b (s + 1) i d=(d,false):=by
 rw[partialIns];simp only[hi];rw[if_neg h,if_pos h2]
theorem pi_go {a b s i i':Nat} {d:Array Int} (hi:scanSorted ltInt d b i=i') (h:¬i'=b) (h2:¬b - a < 50):partialIns ltInt a b (s + 1) i d=partialIns ltInt a b s i' (stepU (stepD d a i') b i'):=by
 rw[partialIns];simp only[hi];rw[if_neg h,if_neg h2]
 rfl
theorem ZcH:∀(x:Nat) (d:Array Int),(shiftDown ltInt x d).size=d.size
 |0,d=>rfl
 |x + 1,d=>by
  rw[shiftDown]
  split
  · rfl
  rw[ZcH x,Zau]
theorem Zjg (d:Array Int) (a i:Nat):(stepD d a i).size=d.size:=by
 unfold stepD
 split
 · rw[ZcH,Zau]
 rw[Zau]
def Zi7 (L0:List Part) (w:World) (g:Nat) (d:Array Int) (r:List Value) (a b:Nat) (e:Ending) (w':World):Prop:=
 e=.returned (.bool (Sort.partialInsertionSort ltInt d a b).2)∧At L0 w [blkU g (Sort.partialInsertionSort ltInt d a b).1 r] w'
def PIRel (L0:List Part) (w:World) (g:Nat) (d:Array Int) (r:List Value) (a b:Nat) (k:Nat) (u v:Value) (wr:World):Prop:=
 ∃(i:Nat) (dk:Array Int),u=.int .i64 i∧v=.int .i64 (5 - (k:Int))∧k≤5∧a + 1≤i∧i≤b∧dk.size=d.size∧At L0 w [blkU g dk r] wr∧partialIns ltInt a b k i dk=partialIns ltInt a b 5 (a + 1) d
def ScanS (L0:List Part) (w:World) (g:Nat) (d:Array Int) (r:List Value) (b i0:Nat) (k:Nat) (u:Value) (wr:World):Prop:=
 ∃i:Nat,u=.int .i64 i∧i0≤i∧i + k=b∧At L0 w [blkU g d r] wr∧scanSorted ltInt d b i=scanSorted ltInt d b i0
def ShD (L0:List Part) (w:World) (g:Nat) (d:Array Int) (r:List Value) (x0:Nat) (k:Nat) (u:Value) (wr:World):Prop:=
 ∃(x:Nat) (dk:Array Int),u=.int .i64 x∧x≤x0∧x≤k∧dk.size=d.size∧At L0 w [blkU g dk r] wr∧shiftDown ltInt x dk=shiftDown ltInt x0 d
def ShU (L0:List Part) (w:World) (g:Nat) (d:Array Int) (r:List Value) (b x0:Nat) (k:Nat) (u:Value) (wr:World):Prop:=
 ∃(x:Nat) (dk:Array Int),u=.int .i64 x∧x0≤x∧x + k=b∧dk.size=d.size∧At L0 w [blkU g dk r] wr∧shiftUp ltInt b x dk=shiftUp ltInt b x0 d
theorem ZeX {w:World} {g cap n:Nat} {d0:Array Int} {r:List Value} (h:Sep [blkU g d0 r] w) (hn:d0.size=n) {a b:Nat} (hab:a < b) (hb:b≤d0.size) (hsz:d0.size < 4611686018427387904):
 Calls Tryz.prog 323 #[.slice (some ⟨g,0,none⟩) n cap,.int .i64 a,.int .i64 b] w (Zi7 [blkU g d0 r] w g d0 r a b):=by
 have hres:=Hd (show Sort.partialInsertionSort ltInt d0 a b=partialIns ltInt a b 5 (a + 1) d0 from rfl)
 obtain⟨L0,hL0,hA⟩:∃L0,L0=[blkU g d0 r]∧At L0 w [blkU g d0 r] w:=⟨_,rfl,At.start h⟩
 rw[←hL0];clear h hL0
 go_enter Tryz.func323,Tryz.ntmps323
 go_wp2_with fail
 go_loopg [7,8] 5 (PIRel L0 w g d0 r a b)
 case atStart=>exact⟨a + 1,d0,by simp,by simp,Nat.le_refl _,Nat.le_refl _,by omega,rfl,hA,rfl⟩
 case round=>
  obtain⟨i,dk,rfl,rfl,hk5,hi1,hi2,hsk,hB,hO⟩:=hrel;have hO':=Hd hO;clear hA hO;have hA:=hB;clear hB
  rcases Nat.eq_zero_or_pos gk with h0|hpos
  · subst h0
    go_wp2_with fail
    refine bodyPost_ret (v:=.bool false) (by simp[results,Tryz.results323,go_sem]) rfl ?_;unfold Zi7;rw[hres.out,←hO'.out];exact⟨rfl,hA⟩
  obtain⟨s,rfl⟩:∃s,gk=s + 1:=⟨gk - 1,by omega⟩
  have hs5:decide ((5:Int) - ((s + 1:Nat):Int) < 5)=true:=by simp;omega
  have hs5':(5:Int) - ((s + 1:Nat):Int) < 5:=by omega
  obtain⟨c,hc⟩:∃c:Int,(5:Int) - ((s + 1:Nat):Int)=c:=⟨_,rfl⟩
  rw[hc] at hs5 hs5';rw[hc]
  have hcb:0≤c:=by omega
  have hc2:=Hd hc;clear hc
  go_upto_block 2 with fail
  go_cut [7] from 17 to 34 (fun u wc=>∃q:Nat,u=.int .i64 q∧i≤q∧q≤b∧scanSorted ltInt dk b i=q∧At L0 w [blkU g dk r] wc)
  case first=>
   go_wp2_with fail
   go_loopg [7] (b - i) (ScanS L0 w g dk r b i)
   case atStart=>exact⟨i,rfl,Nat.le_refl _,by omega,hA,rfl⟩
   case round=>
    obtain⟨x,rfl,hx1,hx2,hB,hS⟩:=hrel;have hS':=Hd hS;clear hA hS;have hA:=hB;clear hB;obtain⟨hA,hF⟩:=fY hA
    by_cases hxb:x < b
    · have hg:decide ((x:Int) < (b:Int))=true:=by simp;omega
      obtain⟨y,hy⟩:∃y,x=y + 1:=⟨x - 1,by omega⟩
      have ey:(x:Int) - 1=(y:Int):=by omega
      have gy1:x≤y + 1:=by omega
      have gy2:y + 1≤x:=by omega
      have hy':=Hd hy;clear hy;have e1:=ZaB (d:=dk) (r:=r) (i:=x) (by omega);have e2:=ZaB (d:=dk) (r:=r) (i:=y) (by omega);cases hl:ltU (atU dk x) (atU dk y)
      · have hq:=Hd (Zl0 hy'.out hxb hl)
        have hl':=Hd hl;clear hl
        go_wp2_with fail
        refine cl0 hA ?_;clear hF hA;intro w1 hA hF;(try simp only[uY] at hA hF)
        go_wp2_with fail
        go_roundg (gk - 1)
        case measure=>omega
        case rel=>exact⟨x + 1,by simp,by omega,by omega,hA,by rw[←hS'.out,hq.out]⟩
      have hq:=Hd (Ze4 (d:=dk) (b:=b) (i:=x) (fun _=>⟨y,hy'.out,hl⟩));have hl':=Hd hl;clear hl
      go_wp2_with fail
      refine cl0 hA ?_;clear hF hA;intro w1 hA hF;(try simp only[uY] at hA hF)
      go_wp2_with fail
      go_meet
      case rel=>exact⟨x,rfl,by omega,by omega,by rw[←hS'.out,hq.out],hA⟩
    have hg:decide ((x:Int) < (b:Int))=false:=by simp;omega
    have hq:=Hd (Ze4 (d:=dk) (b:=b) (i:=x) (fun h=>absurd h hxb))
    go_wp2_with fail
    refine cl2 hA ?_;clear hF hA;intro w1 hA hF;(try simp only[uY] at hA hF)
    go_wp2_with fail
    go_meet
    case rel=>exact⟨x,rfl,by omega,by omega,by rw[←hS'.out,hq.out],hA⟩
  case rest=>
   obtain⟨q,rfl,hq1,hq2,hq3,hB⟩:=hcut;clear hA;have hA:=hB;clear hB;have hq4:=Hd hq3;clear hq3
   by_cases hqb:q=b
   · subst hqb
     have hp:=Hd (pi_end (a:=a) (s:=s) hq4.out rfl)
     go_wp2_with fail
     refine bodyPost_ret (v:=.bool true) (by simp[results,Tryz.results323,go_sem]) rfl ?_;unfold Zi7;rw[hres.out,←hO'.out,hp.out];exact⟨rfl,hA⟩
   have hqb':¬(q:Int)=(b:Int):=by omega
   by_cases h50:b - a < 50
   · have h50':(b:Int) - (a:Int) < 50:=by omega
     have hp:=Hd (Zms (s:=s) hq4.out hqb h50)
     go_wp2_with fail
     refine bodyPost_ret (v:=.bool false) (by simp[results,Tryz.results323,go_sem]) rfl ?_;unfold Zi7;rw[hres.out,←hO'.out,hp.out];exact⟨rfl,hA⟩
   have h50':¬(b:Int) - (a:Int) < 50:=by omega
   have hp:=Hd (pi_go (s:=s) hq4.out hqb h50)
   obtain⟨y,hy⟩:∃y,q=y + 1:=⟨q - 1,by omega⟩
   have ey:(q:Int) - 1=(y:Int):=by omega
   have gy1:q≤y + 1:=by omega
   have gy2:y + 1≤q:=by omega
   have hy':=Hd (show q - 1=y by omega);clear hy
   go_wp2_with fail
   (try clear hF);(have k1:=Zaj hA .here (i:=q) (by omega));(have k2:=Zaj hA .here (i:=y) (by omega));(have f1:=Zai hA .here (q));(have f2:=Zai hA .here (y));go_region;(have hB:=(ZaS hA .here (i:=q) (j:=y) (by omega) (by omega)).drew);(clear k1 k2 f1 f2 hA);(have hA:=hB);(clear hB);(generalize World.drew (World.setCell _ _ _)=wz at *)
   obtain⟨d1,hd1⟩:∃z,swp dk q y=z:=⟨_,rfl⟩
   rw[hd1] at hA
   have d1s:d1.size=dk.size:=by rw[←hd1];exact Zau _ _ _
   have hd1':=Hd hd1;clear hd1
   go_upto_if 61 with fail
   go_cut [9] from 17 to 94 (fun u wc=>∃d2:Array Int,stepD dk a q=d2∧At L0 w [blkU g d2 r] wc)
   case first=>
    by_cases h2:q - a ≥ 2
    · have h2':(2:Int)≤(q:Int) - (a:Int):=by omega
      have hst:=Hd (show stepD dk a q=shiftDown ltInt y d1 by unfold stepD;rw[if_pos h2,hy'.out,hd1'.out])
      go_wp2_with fail
      go_loopg [9] y (ShD L0 w g d1 r y)
      case atStart=>exact⟨y,d1,rfl,Nat.le_refl _,Nat.le_refl _,rfl,hA,rfl⟩
      case round=>
       obtain⟨x,dj,rfl,hx1,hx2,hsj,hB,hS⟩:=hrel;have hS':=Hd hS;clear hA hS;have hA:=hB;clear hB;obtain⟨hA,hF⟩:=fY hA
       by_cases hx0:1≤x
       · obtain⟨z,hz⟩:∃z,x=z + 1:=⟨x - 1,by omega⟩
         have ez:(x:Int) - 1=(z:Int):=by omega
         have gz1:x≤z + 1:=by omega
         have gz2:z + 1≤x:=by omega
         have hz':=Hd hz;clear hz;have e1:=ZaB (d:=dj) (r:=r) (i:=x) (by omega);have e2:=ZaB (d:=dj) (r:=r) (i:=z) (by omega);cases hl:ltU (atU dj x) (atU dj z)
         · have hq:=Hd (ZhD hz'.out hl)
           have hl':=Hd hl;clear hl
           go_wp2_with fail
           refine cl0 hA ?_;clear hF hA;intro w1 hA hF;(try simp only[uY] at hA hF)
           go_wp2_with fail
           go_meet
           case rel=>exact⟨dj,by rw[hst.out,←hS'.out,hq.out],hA⟩
         have hq:=Hd (Zkf hz'.out hl);have hl':=Hd hl;clear hl
         go_wp2_with fail
         refine cl0 hA ?_;clear hF hA;intro w1 hA hF;(try simp only[uY] at hA hF)
         go_wp2_with fail
         (try clear hF);(have k1:=Zaj hA .here (i:=x) (by omega));(have k2:=Zaj hA .here (i:=z) (by omega));(have f1:=Zai hA .here (x));(have f2:=Zai hA .here (z));go_region;(have hB:=(ZaS hA .here (i:=x) (j:=z) (by omega) (by omega)).drew);(clear k1 k2 f1 f2 hA);(have hA:=hB);(clear hB);(generalize World.drew (World.setCell _ _ _)=wz at *)
         go_wp2_with fail
         go_roundg z
         case measure=>omega
         case rel=>exact⟨z,swp dj x z,rfl,by omega,Nat.le_refl _,by rw[Zau];exact hsj,hA,by rw[←hS'.out,hq.out]⟩
       have hx00:x=0:=by omega
       subst hx00;have hq:=Hd (show shiftDown ltInt 0 dj=dj from rfl)
       go_wp2_with fail
       go_meet
       case rel=>exact⟨dj,by rw[hst.out,←hS'.out,hq.out],hA⟩
    have h2':(q:Int) - (a:Int) < 2:=by omega
    have hst:=Hd (show stepD dk a q=d1 by unfold stepD;rw[if_neg h2,hy'.out,hd1'.out])
    go_wp2_with fail
    go_meet
    case rel=>exact⟨d1,hst.out,hA⟩
   case rest=>
    obtain⟨d2,hd2,hB⟩:=hcut;clear hA;have hA:=hB;clear hB
    have d2s:d2.size=dk.size:=by rw[←hd2];exact Zjg _ _ _
    have hd2':=Hd hd2;clear hd2
    by_cases h2:b - q ≥ 2
    · have h2':(2:Int)≤(b:Int) - (q:Int):=by omega
      have hst:=Hd (show stepU d2 b q=shiftUp ltInt b (q + 1) d2 by unfold stepU;rw[if_pos h2])
      go_wp2_with fail
      go_loopg [10] (b - (q + 1)) (ShU L0 w g d2 r b (q + 1))
      case atStart=>exact⟨q + 1,d2,by simp,Nat.le_refl _,by omega,rfl,hA,rfl⟩
      case round=>
       obtain⟨x,dj,rfl,hx1,hx2,hsj,hB,hS⟩:=hrel;have hS':=Hd hS;clear hA hS;have hA:=hB;clear hB;obtain⟨hA,hF⟩:=fY hA
       by_cases hx0:x < b
       · obtain⟨z,hz⟩:∃z,x=z + 1:=⟨x - 1,by omega⟩
         have ez:(x:Int) - 1=(z:Int):=by omega
         have gz1:x≤z + 1:=by omega
         have gz2:z + 1≤x:=by omega
         have hz':=Hd hz;clear hz;have e1:=ZaB (d:=dj) (r:=r) (i:=x) (by omega);have e2:=ZaB (d:=dj) (r:=r) (i:=z) (by omega);cases hl:ltU (atU dj x) (atU dj z)
         · have hq:=Hd (Zei (d:=dj) (b:=b) (x:=x) (fun _=>⟨z,hz'.out,hl⟩))
           have hl':=Hd hl;clear hl
           go_wp2_with fail
           refine cl0 hA ?_;clear hF hA;intro w1 hA hF;(try simp only[uY] at hA hF)
           go_wp2_with fail
           go_roundg s
           case measure=>omega
           case rel=>exact⟨q,dj,rfl,by have:=hc2.out;congr 1;omega,by omega,by omega,hq2,by omega,hA,by rw[←hO'.out,hp.out,hd2'.out,hst.out,←hS'.out,hq.out]⟩
         have hq:=Hd (Zke hz'.out hx0 hl);have hl':=Hd hl;clear hl
         go_wp2_with fail
         refine cl0 hA ?_;clear hF hA;intro w1 hA hF;(try simp only[uY] at hA hF)
         go_wp2_with fail
         (try clear hF);(have k1:=Zaj hA .here (i:=x) (by omega));(have k2:=Zaj hA .here (i:=z) (by omega));(have f1:=Zai hA .here (x));(have f2:=Zai hA .here (z));go_region;(have hB:=(ZaS hA .here (i:=x) (j:=z) (by omega) (by omega)).drew);(clear k1 k2 f1 f2 hA);(have hA:=hB);(clear hB);(generalize World.drew (World.setCell _ _ _)=wz at *)
         go_wp2_with fail
         go_roundg (gk - 1)
         case measure=>omega
         case rel=>exact⟨x + 1,swp dj x z,by simp,by omega,by omega,by rw[Zau];exact hsj,hA,by rw[←hS'.out,hq.out]⟩
       have hq:=Hd (Zei (d:=dj) (b:=b) (x:=x) (fun h=>absurd h hx0))
       go_wp2_with fail
       go_roundg s
       case measure=>omega
       case rel=>exact⟨q,dj,rfl,by have:=hc2.out;congr 1;omega,by omega,by omega,hq2,by omega,hA,by rw[←hO'.out,hp.out,hd2'.out,hst.out,←hS'.out,hq.out]⟩
    have h2':(b:Int) - (q:Int) < 2:=by omega
    have hst:=Hd (show stepU d2 b q=d2 by unfold stepU;rw[if_neg h2])
    go_wp2_with fail
    go_roundg s
    case measure=>omega
    case rel=>exact⟨q,d2,rfl,by have:=hc2.out;congr 1;omega,by omega,by omega,hq2,by omega,hA,by rw[←hO'.out,hp.out,hd2'.out,hst.out]⟩
end SortU
end
section
namespace SortU
open Go.RowKit
open Go.Sort (swp ltInt PermIn SortedIn)
def ZoL (L0:List Part) (w:World) (g:Nat) (d:Array Int) (r:List Value) (a b:Nat) (e:Ending) (w':World):Prop:=
 ∃R,e=.returned (.tuple #[])∧PermIn a b d R∧SortedIn ltInt a b R∧At L0 w [blkU g R r] w'
def Todo (d:Array Int) (a b:Nat) (dk:Array Int) (a' b':Nat):Prop:=∀R,PermIn a' b' dk R→SortedIn ltInt a' b' R→PermIn a b d R∧SortedIn ltInt a b R
theorem Todo.step {d dk d1:Array Int} {a b a' b':Nat} (h:Todo d a b dk a' b') (hp:PermIn a' b' dk d1):Todo d a b d1 a' b':=fun R h1 h2=>h R (Sort.permIn_trans _ _ _ a' b' hp h1) h2
def PdqRel (L0:List Part) (w:World) (g:Nat) (d:Array Int) (r:List Value) (a b:Nat) (k:Nat) (u1 u2 u3 u8 u9:Value) (wr:World):Prop:=
 ∃(a' b' lim:Nat) (wb wp:Bool) (dk:Array Int),u1=.int .i64 a'∧u2=.int .i64 b'∧u3=.int .i64 lim∧u8=.bool wb∧u9=.bool wp∧a'≤b'∧b'≤d.size∧b' - a'≤k∧k≤b - a∧lim < 4611686018427387904∧dk.size=d.size∧
  Sort.Below ltInt a' b' dk∧At L0 w [blkU g dk r] wr∧Todo d a b dk a' b'
set_option maxRecDepth 1000000 in
theorem Zn4:∀(N:Nat) {w:World} {g cap n:Nat} {d:Array Int} {r:List Value} (h:Sep [blkU g d r] w) (hn:d.size=n) {a b limit:Nat} (hN:b - a < N) (hab:a≤b) (hb:b≤d.size) (hlim:limit < 4611686018427387904) (hsz:d.size < 4611686018427387904) (hBel:Sort.Below ltInt a b d),
 Calls Tryz.prog 299 #[.slice (some ⟨g,0,none⟩) n cap,.int .i64 a,.int .i64 b,.int .i64 limit] w (ZoL [blkU g d r] w g d r a b):=by
 intro N
 induction N with
 |zero=>intro w g cap n d r h hn a b limit hN;omega
 |succ N ih=>
  intro w g cap n d r h hn a b limit hN hab hb hlim hsz hBel
  obtain⟨L0,hL0,hA⟩:∃L0,L0=[blkU g d r]∧At L0 w [blkU g d r] w:=⟨_,rfl,At.start h⟩
  rw[←hL0];clear h hL0
  go_enter Tryz.func299,Tryz.ntmps299
  go_wp2_with fail
  go_loopg [1,2,3,8,9] (b - a) (PdqRel L0 w g d r a b)
  case atStart=>exact⟨a,b,limit,true,true,d,rfl,rfl,rfl,rfl,rfl,hab,hb,Nat.le_refl _,Nat.le_refl _,hlim,rfl,hBel,hA,fun R h1 h2=>⟨h1,h2⟩⟩
  case round=>
   obtain⟨a',b',lim,wb,wp,dk,rfl,rfl,rfl,rfl,rfl,hab',hb',hk,hkb,hlim',hsk,hBk,hB,hT⟩:=hrel;have hT':=Hd hT;have hBk':=Hd hBk;clear hA hT hBel hBk;have hA:=hB;clear hB
   by_cases h12:b' - a'≤12
   · have h12':(b':Int) - (a':Int)≤12:=by omega
     have hs:=Sort.insertionSort_holds Sort.swo_ltInt dk a' b' hab' (by omega);have hs':=Hd hs;clear hs
     go_wp2_with fail
     refine(Zgc (hA.sep1 .here) (hsk.trans hn) hab' (by omega) (by omega)).mono ?_;rintro e w1 ⟨rfl,hT1⟩;have hB:=hA.call1 .here hT1;clear hA hT1
     go_wp2_with fail
     refine bodyPost_ret (results_none rfl _ _ _) rfl ?_;have hh:=hT'.out _ hs'.out.1 hs'.out.2;exact⟨_,rfl,hh.1,hh.2,hB⟩
   have h12':¬(b':Int) - (a':Int)≤12:=by omega
   by_cases hl0:lim=0
   · subst hl0
     have hs:=Sort.heapSort_holds Sort.swo_ltInt dk a' b' hab' (by omega);have hs':=Hd hs;clear hs
     go_wp2_with fail
     refine(Zg5 (hA.sep1 .here) (hsk.trans hn) (a:=a') (b:=b') (by omega) (by omega) (by omega)).mono ?_;rintro e w1 ⟨rfl,hT1⟩;have hB:=hA.call1 .here hT1;clear hA hT1
     go_wp2_with fail
     refine bodyPost_ret (results_none rfl _ _ _) rfl ?_;have hh:=hT'.out _ hs'.out.1 hs'.out.2;exact⟨_,rfl,hh.1,hh.2,hB⟩
   have hl0':¬(lim:Int)=0:=by omega
   go_upto_if 35 with fail
   go_cut [3] from 19 to 133 (fun u wc=>∃(l2:Nat) (d1:Array Int),u=.int .i64 l2∧l2 < 4611686018427387904∧PermIn a' b' dk d1∧At L0 w [blkU g d1 r] wc)
   case first=>
    cases wb
    · go_wp2_with fail
      refine(Zlp (hA.sep1 .here) (hsk.trans hn) (a:=a') (b:=b') (by omega) (by omega) (by omega)).mono ?_;rintro e w1 ⟨d1,rfl,hp,hT1⟩;have hB:=hA.call1 .here hT1;clear hA hT1;have hp':=Hd hp;clear hp
      go_wp2_with fail
      go_meet
      case rel=>exact⟨lim - 1,d1,by congr 1;omega,by omega,hp'.out,hB⟩
    go_wp2_with fail
    go_meet
    case rel=>exact⟨lim,dk,rfl,hlim',Sort.permIn_refl _ _ _,hA⟩
   case rest=>
    obtain⟨l2,d1,rfl,hl2,hp1,hB⟩:=hcut;clear hA;have hA:=hB;clear hB;have s1:d1.size=dk.size:=hp1.1;have T1:=Hd (Todo.step hT'.out hp1);have B1:=Hd (Sort.Below.perm hBk'.out (by omega) hp1);clear hp1 hT' hBk'
    go_upto_if 50 with(go_at_call 321;refine(Zkt (hA.sep1 .here) (s1.trans (hsk.trans hn)) (a:=a') (b:=b') (by omega) (by omega) (by omega)).mono ?_;rintro e w1 ⟨p,hv,rfl,hpa,hpb,hT1⟩;replace hA:=hA.call1 .here hT1;clear hT1)
    go_cut [11,12] from 19 to 133 (fun u v wc=>∃(p2:Nat) (hv2:Int) (d2:Array Int),u=.int .i64 p2∧v=.int .i64 hv2∧a'≤p2∧p2 < b'∧PermIn a' b' d1 d2∧At L0 w [blkU g d2 r] wc)
    case first=>
     by_cases h2:hv=2
     · have hs:=Hd (Sort.reverseRange_holds d1 a' b' hab' (by omega))
       subst h2
       go_wp2_with fail
       refine(ZhG (hA.sep1 (by simpa using Sel.here)) (s1.trans (hsk.trans hn)) (a:=a') (b:=b') (by omega) (by omega) (by omega)).mono ?_;rintro e w1 ⟨rfl,hT1⟩;have hB:=hA.call1 (by simpa using Sel.here) hT1;clear hA hT1
       go_wp2_with fail
       go_meet
       case rel=>exact⟨b' - 1 - (p - a'),1,_,by congr 1;omega,rfl,by omega,by omega,hs.out,hB⟩
     have h2':(hv==2)=false:=by simpa using h2
     go_wp2_with fail
     go_meet
     case rel=>exact⟨p,hv,d1,rfl,rfl,hpa,hpb,Sort.permIn_refl _ _ _,hA⟩
    case rest=>
     obtain⟨p2,hv2,d2,rfl,rfl,hpa2,hpb2,hp2,hB⟩:=hcut;clear hA;have hA:=hB;clear hB;have s2:d2.size=d1.size:=hp2.1;have T2:=Hd (Todo.step T1.out hp2);have B2:=Hd (Sort.Below.perm B1.out (by omega) hp2);clear hp2 T1 B1
     go_upto_region 15 with fail
     go_cut [68] from 19 to 133 (fun u wc=>∃c:Bool,u=.bool c∧At L0 w [blkU g d2 r] wc)
     case first=>
      cases wb
      · go_wp2_with fail
        go_meet
        case rel=>exact⟨false,rfl,hA⟩
      cases wp
      · go_wp2_with fail
        go_meet
        case rel=>exact⟨false,rfl,hA⟩
      by_cases h1:hv2=1
      · subst h1
        go_wp2_with fail
        go_meet
        case rel=>exact⟨true,rfl,hA⟩
      have h1':(hv2==1)=false:=by simpa using h1
      go_wp2_with fail
      go_meet
      case rel=>exact⟨false,rfl,hA⟩
     case rest=>
      obtain⟨c,rfl,hB⟩:=hcut;clear hA;have hA:=hB;clear hB
      go_upto_if 68 with fail
      go_cut [11] from 19 to 133 (fun u wc=>∃d3:Array Int,u=.int .i64 p2∧PermIn a' b' d2 d3∧At L0 w [blkU g d3 r] wc)
      case first=>
       cases c
       · go_wp2_with fail
         go_meet
         case rel=>exact⟨d2,rfl,Sort.permIn_refl _ _ _,hA⟩
       have hs:=Hd (Sort.partialInsertionSort_holds Sort.swo_ltInt d2 a' b' (by omega) (by omega) B2.out)
       go_wp2_with fail
       refine(ZeX (hA.sep1 .here) (s2.trans (s1.trans (hsk.trans hn))) (a:=a') (b:=b') (by omega) (by omega) (by omega)).mono ?_;rintro e w1 ⟨rfl,hT1⟩;have hB:=hA.call1 .here hT1;clear hA hT1;cases hq:(Sort.partialInsertionSort ltInt d2 a' b').2
       · go_wp2_with fail
         go_meet
         case rel=>exact⟨_,rfl,hs.out.1,hB⟩
       have hh:=Hd (T2.out _ hs.out.1 (hs.out.2 hq))
       go_wp2_with fail
       refine bodyPost_ret (results_none rfl _ _ _) rfl ?_;exact⟨_,rfl,hh.out.1,hh.out.2,hB⟩
      case rest=>
       obtain⟨d3,rfl,hp3,hB⟩:=hcut;clear hA;have hA:=hB;clear hB;have s3:d3.size=d2.size:=hp3.1;have T3:=Hd (Todo.step T2.out hp3);have B3:=Hd (Sort.Below.perm B2.out (by omega) hp3);clear hp3 T2 B2
       go_upto_region 17 with fail
       go_cut [87] from 19 to 133 (fun u wc=>∃c:Bool,u=.bool c∧(c=true→0 < a'∧ltInt d3[a' - 1]! d3[p2]! =false)∧At L0 w [blkU g d3 r] wc)
       case first=>
        obtain⟨hA,hF⟩:=fY hA
        by_cases ha0:0 < a'
        · have hg:decide ((0:Int) < (a':Int))=true:=by simp;omega
          obtain⟨y,hy⟩:∃y,a'=y + 1:=⟨a' - 1,by omega⟩
          have ey:(a':Int) - 1=(y:Int):=by omega
          have gy1:a'≤y + 1:=by omega
          have gy2:y + 1≤a':=by omega
          have hy':=Hd (show a' - 1=y by omega);clear hy;have e1:=ZaB (d:=d3) (r:=r) (i:=y) (by omega);have e2:=ZaB (d:=d3) (r:=r) (i:=p2) (by omega);cases hl:ltU (atU d3 y) (atU d3 p2)
          · have hl':=Hd hl
            clear hl
            go_wp2_with fail
            refine cl0 hA ?_;clear hF hA;intro w1 hA hF;(try simp only[uY] at hA hF)
            go_wp2_with fail
            go_meet
            case rel=>exact⟨true,rfl,fun _=>⟨ha0,by rw[hy'.out];exact hl'.out⟩,hA⟩
          have hl':=Hd hl;clear hl
          go_wp2_with fail
          refine cl0 hA ?_;clear hF hA;intro w1 hA hF;(try simp only[uY] at hA hF)
          go_wp2_with fail
          go_meet
          case rel=>exact⟨false,rfl,nofun,hA⟩
        have hg:decide ((0:Int) < (a':Int))=false:=by simp;omega
        go_wp2_with fail
        refine cl2 hA ?_;clear hF hA;intro w1 hA hF;(try simp only[uY] at hA hF)
        go_wp2_with fail
        go_meet
        case rel=>exact⟨false,rfl,nofun,hA⟩
       case rest=>
        obtain⟨c,rfl,hc,hB⟩:=hcut;clear hA;have hA:=hB;clear hB;have hc':=Hd hc;clear hc;cases c
        · rcases hx:Sort.partition ltInt d3 a' b' p2 with⟨mid,ap,d4⟩
          have hr:=Sort.round_part Sort.swo_ltInt (Sort.partition_holds ltInt) hpa2 hpb2 (by omega) B3.out hx;obtain⟨m1,m2,s4,BL,BR,RL,RR⟩:=hr;have BL':=Hd BL;have BR':=Hd BR;have RL':=Hd RL;have RR':=Hd RR;clear BL BR RL RR;have hx':=Hd hx;clear hx
          go_wp2_with (go_at_call 326;refine(Zf0 (hA.sep1 .here) (s3.trans (s2.trans (s1.trans (hsk.trans hn)))) hpa2 hpb2 (by omega) (by omega)).mono ?_;unfold Zd1;rw[hx'.out];rintro e w1 ⟨rfl,hT1⟩;replace hA:=hA.call1 .here hT1;clear hT1;simp only[])
          · -- the left one is the smaller
            refine(ih (hA.sep1 .here) (s4.trans (s3.trans (s2.trans (s1.trans (hsk.trans hn))))) (a:=a') (b:=mid) (limit:=l2) (by omega) m1 (by omega) hl2 (by omega) BL'.out).mono ?_;rintro e w1 ⟨d5,rfl,hp5,hs5,hT1⟩;replace hA:=hA.call1 .here hT1;clear hT1;have s5:d5.size=d4.size:=hp5.1;have hh:=Hd (RL'.out d5 hp5 hs5);clear hp5 hs5
            go_wp2_with fail
            go_roundg (b' - (mid + 1))
            case measure=>omega
            case rel=>exact⟨mid + 1,b',l2,_,_,d5,by simp,rfl,rfl,rfl,rfl,by omega,hb',Nat.le_refl _,by omega,hl2,by omega,hh.out.1,hA,fun R h1 h2=>T3.out R (hh.out.2 R h1 h2).1 (hh.out.2 R h1 h2).2⟩
          have em:(mid:Int) + 1=((mid + 1:Nat):Int):=by omega
          rw[em];refine(ih (hA.sep1 .here) (s4.trans (s3.trans (s2.trans (s1.trans (hsk.trans hn))))) (a:=mid + 1) (b:=b') (limit:=l2) (by omega) (by omega) (by omega) hl2 (by omega) BR'.out).mono ?_;rintro e w1 ⟨d5,rfl,hp5,hs5,hT1⟩;replace hA:=hA.call1 .here hT1;clear hT1;have s5:d5.size=d4.size:=hp5.1;have hh:=Hd (RR'.out d5 hp5 hs5);clear hp5 hs5
          go_wp2_with fail
          go_roundg (mid - a')
          case measure=>omega
          case rel=>exact⟨a',mid,l2,_,_,d5,rfl,rfl,rfl,rfl,rfl,m1,by omega,Nat.le_refl _,by omega,hl2,by omega,hh.out.1,hA,fun R h1 h2=>T3.out R (hh.out.2 R h1 h2).1 (hh.out.2 R h1 h2).2⟩
        rcases hx:Sort.partitionEqual ltInt d3 a' b' p2 with⟨mid,d4⟩
        have hr:=Sort.round_eq Sort.swo_ltInt (Sort.partitionEqual_holds ltInt) (hc'.out rfl).1 hpa2 hpb2 (by omega) B3.out (hc'.out rfl).2 hx;obtain⟨m1,m2,s4,BR,RR⟩:=hr;have BR':=Hd BR;have RR':=Hd RR;clear BR RR;have hx':=Hd hx;clear hx
        go_wp2_with (go_at_call 325;refine(Zc3 (hA.sep1 .here) (s3.trans (s2.trans (s1.trans (hsk.trans hn)))) hpa2 hpb2 (by omega) (by omega)).mono ?_;unfold Zdx;rw[hx'.out];rintro e w1 ⟨rfl,hT1⟩;replace hA:=hA.call1 .here hT1;clear hT1;simp only[])
        go_roundg (b' - mid)
        case measure=>omega
        case rel=>exact⟨mid,b',l2,_,_,d4,rfl,rfl,rfl,rfl,rfl,m2,hb',Nat.le_refl _,by omega,hl2,by omega,BR'.out,hA,fun R h1 h2=>T3.out R (RR'.out R h1 h2).1 (RR'.out R h1 h2).2⟩
end SortU
end
end Go.Proofs.YtkdjkngfnapjcaaGreatDoor
