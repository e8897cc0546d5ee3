/- LeaseV, SortU, SortU2, SortU3, joined. -/
import Derived.Test.YtkdjkngfnapjcaaGreatDoorP9
import Derived.Test.YtkdjkngfnapjcaaGreatDoorP4
import Derived.Test.YtkdjkngfnapjcaaGreatDoorP2
import Derived.Test.YtkdjkngfnapjcaaGreatDoorChecked
import Derived.Sort.AssemblyPlain
import Derived.Deep.LoopGhost
import Derived.Deep.QuietTactic
import Derived.BigQuiet
import Derived.Deep.Cut
import Derived.Test.YtkdjkngfnapjcaaGreatDoorShelft
import Derived.Laws.Bits64b
set_option linter.unusedSimpArgs false
set_option linter.unusedVariables false
set_option maxRecDepth 100000
set_option maxHeartbeats 16000000
namespace Go.Proofs.YtkdjkngfnapjcaaGreatDoor
section
namespace Lease
open Go.RowKit
open Go.Maps (Keyed)
theorem ZmK {w:World} {p m:Nat} {ss:List Ses} (h:Sep [BookP p m ss] w) {n:Int} {f:ByteArray} (h0:0≤n) (h1:n < big64) (hf:f.size≤maxLen) (hn:find ss n f=none) {S:Nat} (hS:w.heap.size=S):
 Calls Tryz.prog 170 #[.pointer (some ⟨p,0,none⟩),.agg #[.int .u64 n,.string f]] w fun e w'=>e=.returned (.pointer (some ⟨S + 2,0,none⟩))∧At [BookP p m ss] w [BookP p m (ss++[fresh n f (S + 2) (S + 1)])] w':=by
 obtain⟨kl,hk⟩:=keyS h0 h1 hf;have hmiss:=Hd (find_none hn);have hA:=begin0 h;have hF:=hA.facts;have hS':=Hd hS;clear h hS
 unfold keyV at *
 go_enter Tryz.func170,Tryz.ntmps170
 go_wp2_with (refine ZcT (E:=25) rfl rfl (by(try simp only[Act.eval,eV])<;>exact rfl) (by exact rfl) hA hS'.out ?_;intro w1 hB hS1;clear hF hA hS';have hS':=Hd hS1;clear hS1;have hA:=hB;clear hB;obtain⟨hA,hF⟩:=fY hA)
 have hl:∀q,(Instr.lookup 212 (.map (some m)) (.agg #[.int .u64 n,.string f]) true).run Tryz.prog (w1.drewN q)=.ok (.tuple #[.pointer none,.bool false]) (w1.drewN q):=fun q=>
  MapAt.look_none (w:=w1.drewN q) ((hA.drewN q).get (A:=mapC m (ents ss)) sR) lawS Tryz.underlying212 hk hmiss.out (by kernel_rfl) true
 go_quiet (fail)
 have hS2:=(show(World.drewN w1 nq).heap.size=S + 1 from hS'.out)
 have hA:=hA.drewN nq;clear hl hS'
 generalize World.drewN _ nq=w2 at *
 have hS':=Hd hS2;clear hS2 hF;obtain⟨hA,hF⟩:=fY hA
 go_wp2_with (first|(refine Zdf Tryz.prog 23 rfl rfl hA hS'.out ?_;intro w1 hB hS1;clear hF hA hS';have hS':=Hd hS1;clear hS1;have hA:=hB;clear hB;obtain⟨hA,hF⟩:=fY hA)|(refine ZcT (E:=219) rfl rfl (by(try simp only[Act.eval,eV])<;>exact rfl) (by exact rfl) hA hS'.out ?_;intro w1 hB hS1;clear hF hA hS';have hS':=Hd hS1;clear hS1;have hA:=hB;clear hB;obtain⟨hA,hF⟩:=fY hA))
 (refine Zaw 6 (fun w'=>∃n,w'=World.drewN _ n) (by kernel_rfl) (by kernel_rfl) ⟨1,rfl⟩ ?_);(simp only[List.take_succ_cons,List.take_zero,List.drop_succ_cons,List.drop_zero]);(repeat(first|go_big_quiet_step (fail)|quiet_step (fail)));(refine wpQuiet_nil ?_);(rintro _ ⟨nq,rfl⟩)
 have hA:=hA.drewN nq;generalize World.drewN _ nq=w1 at *;clear hF;obtain⟨hA,hF⟩:=fY hA
 refine ZaN rfl rfl rfl (by(try simp only[Act.eval,eV])<;>exact rfl) (by(try simp only[Act.eval,eV])<;>exact rfl) hA sR lawS Tryz.underlying212 hk hmiss.out ?_;intro w1 hB;clear hF hA;have hA:=hB;clear hB;obtain⟨hA,hF⟩:=fY hA
 go_wp2_with fail
 go_ret;exact⟨rfl,Zhl (fresh n f _ _) hA sR sZ sZ sZ sR⟩
def ZoF (w:World) (p m:Nat) (ss:List Ses) (n:Int) (f:ByteArray) (r:Int) (c:Ans) (e:Ending) (w':World):Prop:=
 ∃b t,e=.returned (.tuple #[])∧At [BookP p m ss] w [BookP p m (ss++[{fresh n f b t with told:=[(r,c)]}])] w'
theorem Zgw {w:World} {p m:Nat} {ss:List Ses} (h:Sep [BookP p m ss] w) {n r:Int} {f:ByteArray} (h0:0≤n) (h1:n < big64) (hf:f.size≤maxLen) (hn:find ss n f=none) (r0:0≤r) (r1:r < big64) (c:Ans):
 Calls Tryz.prog 119 #[.pointer (some ⟨p,0,none⟩),.agg #[.int .u64 n,.string f],.int .u64 r,.agg #[.int .i64 c.e,.int .u64 c.n,.bool c.g]] w (ZoF w p m ss n f r c):=by
 obtain⟨ku,hu⟩:=keyU r0 r1;have hA:=At.start h;have hF:=hA.facts
 have hl':(look ss n f).told.length < 256:=by unfold look;rw[hn];simp[fresh]
 clear h
 go_enter Tryz.func119,Tryz.ntmps119
 go_wp2_with (first|((with_reducible refine gbx ?_);refine wCy (E:=25) hA ?_;clear hF hA;intro bS w1 hA hbS hF)|((with_reducible refine gbx ?_);refine wCy (E:=107) hA ?_;clear hF hA;intro bA w1 hA hbA hF))
 refine(Zgu (hA.sep1 sR) h0 h1 hf hn).mono ?_;rintro e w1 ⟨rfl,hT⟩;replace hA:=hA.call1 sR hT;clear hF hT;obtain⟨hA,hF⟩:=fY hA
 go_wp2_with (first|((with_reducible refine gal ?_);refine g1 hA ?_;clear hF hA;intro bQ w1 hA hbQ hF)|((with_reducible refine gst ?_);refine wTy hA ?_;clear hF hA;intro w1 hA hF))
 refine(ZfR (hA.sep1 sR) h0 h1 hf hl').mono ?_;rintro e w1 ⟨rfl,hT⟩;replace hA:=hA.call1 sR hT;clear hF hT;obtain⟨hA,hF⟩:=fY hA
 go_wp2_with fail
 obtain⟨S,hS⟩:∃S,w1.heap.size=S:=⟨_,rfl⟩
 refine ZeS 8 2 (TurnC [BookP p m ss] w _ S [sesC (S + 2) (fresh n f (S + 2) (S + 1)).cells,toldC (S + 1) (saids []),restP (ss++[]),headC p m,mapC m (ents (ss++[fresh n f (S + 2) (S + 1)])),Part.cells bQ [.int .i64 0,.int .u64 0,.bool false] 107,Part.cells bA [.int .i64 c.e,.int .u64 c.n,.bool c.g] 107,Part.cells bS [.int .u64 n,.string f] 25]) (by kernel_rfl) (by kernel_rfl) (by decide) (Zhy hA hS) ?_;simp only[List.take_succ_cons,List.take_zero,List.drop_succ_cons,List.drop_zero];refine ZcV (v:=.pointer (some ⟨p,0,none⟩)) rfl (by decide) (fun _=>rfl) ?_;go_frame;refine Zgs (v:=.agg #[.int .u64 n,.string f]) rfl (by decide) (fun w hw=>Zah (ty:=25) (n:=2) rfl rfl (hw.get (A:=Part.cells bS [.int .u64 n,.string f] 25) sR) (by kernel_rfl) (by kernel_rfl) rfl rfl) (fun w hw=>Zah (ty:=25) (n:=2) rfl rfl (hw.get (A:=Part.cells bS [.int .u64 n,.string f] 25) sR) (by kernel_rfl) (by kernel_rfl) rfl rfl) ?_;go_frame;refine ZjW (v:=.pointer (some ⟨S + 2,0,none⟩)) (f:=170) (args:= #[.pointer (some ⟨p,0,none⟩),.agg #[.int .u64 n,.string f]]) rfl rfl (fun _=>by kernel_rfl) (fun w hw hs=>(ZmK (m:=m) (ss:=ss) (hw.sep1 sR) h0 h1 hf hn hs).mono fun e w' ⟨he,t⟩=>⟨he,(open1 (l1:=ss) (l2:=[]) (s:=fresh n f (S + 2) (S + 1)) (hw.call1 sR t) sZ).pick pZ⟩) ?_;go_frame;refine ZcV (v:=.pointer (some ⟨S + 2,0,none⟩)) rfl (by decide) (fun _=>rfl) ?_;go_frame;refine ZcV (v:=.pointer (some ⟨S + 2,5,none⟩)) rfl (by decide) (fun _=>by kernel_rfl) ?_;go_frame;refine ZjV (v:=.map (some (S + 1))) rfl (by decide) (by kernel_rfl) (fun w hw=>Zac (ty:=217) rfl rfl (hw.get (A:=sesC (S + 2) (fresh n f (S + 2) (S + 1)).cells) sR) (by kernel_rfl) rfl) ?_;go_frame;refine ZcV (v:=.int .u64 r) rfl (by decide) (fun _=>rfl) ?_;go_frame;refine Zgs (v:=.agg #[.int .i64 c.e,.int .u64 c.n,.bool c.g]) rfl (by decide) (fun w hw=>Zah (ty:=107) (n:=3) rfl rfl (hw.get (A:=Part.cells bA [.int .i64 c.e,.int .u64 c.n,.bool c.g] 107) sR) (by kernel_rfl) (by kernel_rfl) rfl rfl) (fun w hw=>Zah (ty:=107) (n:=3) rfl rfl (hw.get (A:=Part.cells bA [.int .i64 c.e,.int .u64 c.n,.bool c.g] 107) sR) (by kernel_rfl) (by kernel_rfl) rfl rfl) ?_;go_frame;refine Zgp ?_;intro w2 hw2;replace hA:=Zgt hw2;clear hF hw2 hS;refine ZaN rfl rfl rfl (by(try simp only[Act.eval,eV])<;>exact rfl) (by(try simp only[Act.eval,eV])<;>exact rfl) hA (k:=23) (es:=saids []) sR lawU Tryz.underlying217 hu nofun ?_;intro w1 hB;clear hA;have hA:=hB;clear hB
 go_wp2_with fail
 go_end0
 refine⟨S + 2,S + 1,rfl,?_⟩
 have e1:saids []++[(Value.int .u64 r,Value.agg #[.int .i64 c.e,.int .u64 c.n,.bool c.g])]=saids [(r,c)]:=by simp[saids,saidE,Ans.val]
 have e2:ents (ss++[fresh n f (S + 2) (S + 1)])=ents (ss++{fresh n f (S + 2) (S + 1) with told:=[(r,c)]}::[]):=by simp[ents,ent,Ses.key,Ses.ptr]
 rw[e1,e2] at hA;exact ZcK (m:=m) (l1:=ss) (l2:=[]) (s:={fresh n f (S + 2) (S + 1) with told:=[(r,c)]}) hA sR sR sZ sZ sR
end Lease
end
section
namespace SortU
open Go.RowKit
open Go.Sort (swp ltInt insInner insOuter)
def rowC (d:Array Int) (r:List Value):List Value:=d.toList.map (Value.int .u64)++r
def atU (d:Array Int) (i:Nat):Int:=d[i]!
def ltU (x y:Int):Bool:=ltInt x y
abbrev blkU (g:Nat) (d:Array Int) (r:List Value):Part:=.cells g (rowC d r) 23
theorem ZaB {d:Array Int} {r:List Value} {i:Nat} (h:i < d.size):(rowC d r)[i]? =some (.int .u64 (atU d i)):=by
 unfold rowC atU;rw[List.getElem?_append_left (by simpa using h),List.getElem?_map,Array.getElem?_toList,getElem!_pos d i h,Array.getElem?_eq_getElem h]
 rfl
theorem Zl5 (d:Array Int) (r:List Value):(rowC d r).length=d.size + r.length:=by simp[rowC]
theorem ZiA {d:Array Int} {r:List Value} {i:Nat} (h:i < d.size) (x:Int):setL (rowC d r) i [.int .u64 x]=rowC (d.setIfInBounds i x) r:=by
 unfold rowC;simp only[setL,Array.toList_setIfInBounds,List.map_set];rw[List.set_append_left _ _ (by simpa using h)]
theorem Zl4 {d:Array Int} {r:List Value} {i j:Nat} (hi:i < d.size) (hj:j < d.size):setL (setL (rowC d r) i [.int .u64 (atU d j)]) j [.int .u64 (atU d i)]=rowC (swp d i j) r:=by
 rw[ZiA hi,ZiA (by simpa using hj)]
 rfl
theorem ZaS {L0 L F:List Part} {w0 w:World} {g:Nat} {d:Array Int} {r:List Value} (h:At L0 w0 L w) (s:Sel (blkU g d r) L F) {i j:Nat} (hi:i < d.size) (hj:j < d.size):
 At L0 w0 (blkU g (swp d i j) r::F) ((w.setCell ⟨g,i,none⟩ (.int .u64 (atU d j))).setCell ⟨g,j,none⟩ (.int .u64 (atU d i))):=by
 have h0:=At.store h s i (.int .u64 (atU d j));have h1:=At.store h0 .here j (.int .u64 (atU d i));rw[show((rowC d r).set i (.int .u64 (atU d j))).set j (.int .u64 (atU d i))=rowC (swp d i j) r from Zl4 hi hj] at h1;exact h1
theorem Zaj {L0 L F:List Part} {w0 w:World} {g:Nat} {d:Array Int} {r:List Value} (h:At L0 w0 L w) (s:Sel (blkU g d r) L F) {i:Nat} (hi:i < d.size):w.cell? ⟨g,i,none⟩=some (.int .u64 (atU d i)):=((h.get s:Zab w g (rowC d r) 23).cell i).trans (ZaB hi)
theorem Zai {L0 L F:List Part} {w0 w:World} {g:Nat} {d:Array Int} {r:List Value} (h:At L0 w0 L w) (s:Sel (blkU g d r) L F) (i:Nat):w.frozen? ⟨g,i,none⟩=false:=(h.get s:Zab w g (rowC d r) 23).free i
theorem Zau (d:Array Int) (i j:Nat):(swp d i j).size=d.size:=by simp[swp]
theorem ZkM (x:Int) (w:World):Calls Tryz.prog 138 #[.int .u64 x] w fun e w'=>e=.returned (.bool false)∧w'=w:=by
 go_enter Tryz.func138,Tryz.ntmps138
 go_wp2
 go_ret;exact⟨by simp,rfl⟩
theorem ZmI (x y:Int) (w:World):Calls Tryz.prog 324 #[.int .u64 x,.int .u64 y] w fun e w'=>e=.returned (.bool (ltU x y))∧w'=w:=by
 go_enter Tryz.func324,Tryz.ntmps324
 go_wp2_with (go_at_call 138;refine(ZkM _ _).mono ?_;rintro e w' ⟨rfl,rfl⟩)
 go_ret;exact⟨by simp[ltU,ltInt],rfl⟩
theorem ZhX {L0 L:List Part} {w0 w:World} (h:At L0 w0 L w) (x y:Int) {b:Bool} (hb:ltU x y=b):Calls Tryz.prog 324 #[.int .u64 x,.int .u64 y] w fun e w'=>e=.returned (.bool b)∧At L0 w0 L w':=by
 subst hb
 exact(ZmI x y w).mono fun _ _ ⟨h1,h2⟩=>⟨h1,by rw[h2];exact h⟩
theorem Zh1 {a j:Nat} {d:Array Int} (hj:a < j + 1) (hl:ltU (atU d (j + 1)) (atU d j)=true):insInner ltInt a (j + 1) d=insInner ltInt a j (swp d (j + 1) j):=by
 have hl':ltInt d[j + 1]! d[j]! =true:=hl;rw[insInner];simp[hj,hl']
theorem Zc6 {a j:Nat} {d:Array Int} (h:j≤a∨∃k,j=k + 1∧ltU (atU d (k + 1)) (atU d k)=false):insInner ltInt a j d=d:=by
 cases j with
 |zero=>rw[insInner]
 |succ k=>
  rw[insInner]
  rcases h with h|⟨m,hm,h⟩
  · simp[show ¬k + 1 > a by omega]
  have:m=k:=by omega
  subst this;have h':ltInt d[m + 1]! d[m]! =false:=h;simp[h']
theorem Zh0 {a b i:Nat} {d:Array Int} (h:i < b):insOuter ltInt a b i d=insOuter ltInt a b (i + 1) (insInner ltInt a i d):=by rw[insOuter,if_pos h]
theorem Zgd {a b i:Nat} {d:Array Int} (h:¬i < b):insOuter ltInt a b i d=d:=by rw[insOuter,if_neg h]
def InsO (w:World) (g:Nat) (d:Array Int) (r:List Value) (a b:Nat) (k:Nat) (u:Value) (wr:World):Prop:=
 ∃(i:Nat) (dk:Array Int),u=.int .i64 i∧a < i∧i + k=b + 1∧dk.size=d.size∧At [blkU g d r] w [blkU g dk r] wr∧insOuter ltInt a b i dk=insOuter ltInt a b (a + 1) d
def InsI (w:World) (g:Nat) (d:Array Int) (r:List Value) (a i:Nat) (dk:Array Int) (k:Nat) (u:Value) (wr:World):Prop:=
 ∃dj:Array Int,u=.int .i64 (a + k:Nat)∧a + k≤i∧dj.size=d.size∧At [blkU g d r] w [blkU g dj r] wr∧insInner ltInt a (a + k) dj=insInner ltInt a i dk
theorem Zgc {w:World} {g cap n:Nat} {d:Array Int} {r:List Value} (h:Sep [blkU g d r] w) (hn:d.size=n) {a b:Nat} (hab:a≤b) (hb:b≤d.size) (hsz:d.size < 4611686018427387904):
 Calls Tryz.prog 318 #[.slice (some ⟨g,0,none⟩) n cap,.int .i64 a,.int .i64 b] w fun e w'=>e=.returned (.tuple #[])∧At [blkU g d r] w [blkU g (Sort.insertionSort ltInt d a b) r] w':=by
 have hA:=At.start h;clear h
 go_enter Tryz.func318,Tryz.ntmps318
 go_wp2_with fail
 go_loopg [6] (b - a) (InsO w g d r a b)
 case atStart=>exact⟨a + 1,d,by simp,by omega,by omega,rfl,hA,rfl⟩
 case round=>
  obtain⟨i,dk,rfl,hai,hik,hsk,hB,hO⟩:=hrel;have hO':=Hd hO;clear hA hO;have hA:=hB;clear hB
  by_cases hi:i < b
  · go_wp2_with fail
    go_loopg [7] (i - a) (InsI w g d r a i dk)
    case atStart=>exact⟨dk,by rw[show a + (i - a)=i by omega],by omega,hsk,hA,by rw[show a + (i - a)=i by omega]⟩
    case round=>
     obtain⟨dj,rfl,hji,hsj,hB,hI⟩:=hrel;have hI':=Hd hI;clear hA hI;have hA:=hB;clear hB
     have out:insInner ltInt a (a + gk) dj=dj→insOuter ltInt a b (i + 1) dj=insOuter ltInt a b (a + 1) d:=fun hs=>by
      rw[←hO'.out,Zh0 hi,←hI'.out,hs]
     have out':=Hd out;clear out
     rcases Nat.eq_zero_or_pos gk with h0|hpos
     · subst h0
       obtain⟨hA,hF⟩:=fY hA;have hx:=Hd (out'.out (Zc6 (.inl (by omega))))
       go_wp2_with fail
       refine cl2 hA ?_;clear hF hA;intro w1 hA hF;(try simp only[uY] at hA hF)
       go_wp2_with fail
       go_roundg (b - i)
       case measure=>omega
       case rel=>exact⟨i + 1,dj,by simp,by omega,by omega,hsj,hA,hx.out⟩
     obtain⟨m,rfl⟩:∃m,gk=m + 1:=⟨gk - 1,by omega⟩
     obtain⟨j,hj⟩:∃j,a + m=j:=⟨_,rfl⟩
     have ej:a + (m + 1)=j + 1:=by omega
     rw[ej] at hI' hji out' ⊢;have hj':=Hd hj;have e1:=ZaB (d:=dj) (r:=r) (i:=j + 1) (by omega);have e2:=ZaB (d:=dj) (r:=r) (i:=j) (by omega)
     have haj:a < j + 1:=by omega
     have hg:decide ((a:Int) < (j:Int) + 1)=true:=by simp;omega
     clear hj ej;obtain⟨hA,hF⟩:=fY hA;cases hl:ltU (atU dj (j + 1)) (atU dj j)
     · have hx:=Hd (out'.out (Zc6 (.inr ⟨j,rfl,hl⟩)))
       have hl':=Hd hl;clear hl
       go_wp2_with fail
       refine cl0 hA ?_;clear hF hA;intro w1 hA hF;(try simp only[uY] at hA hF)
       go_wp2_with fail
       go_roundg (b - i)
       case measure=>omega
       case rel=>exact⟨i + 1,dj,by simp,by omega,by omega,hsj,hA,hx.out⟩
     have hx:=Hd (Zh1 haj hl);have hl':=Hd hl;clear hl
     go_wp2_with fail
     refine cl0 hA ?_;clear hF hA;intro w1 hA hF;(try simp only[uY] at hA hF)
     go_wp2_with fail
     (try clear hF);(have k1:=Zaj hA .here (i:=j + 1) (by omega));(have k2:=Zaj hA .here (i:=j) (by omega));(have f1:=Zai hA .here (j + 1));(have f2:=Zai hA .here (j));go_region;(have hB:=(ZaS hA .here (i:=j + 1) (j:=j) (by omega) (by omega)).drew);(clear k1 k2 f1 f2 hA);(have hA:=hB);(clear hB);(generalize World.drew (World.setCell _ _ _)=wz at *)
     go_wp2_with fail
     go_roundg m
     case measure=>omega
     case rel=>exact⟨swp dj (j + 1) j,by rw[hj'.out],by have:=hj'.out;omega,by rw[Zau];exact hsj,hA,by rw[hj'.out,←hI'.out,hx.out]⟩
  have hx:=Hd (Zgd (a:=a) (d:=dk) hi)
  go_wp2_with fail
  go_end0
  refine⟨rfl,?_⟩;unfold Sort.insertionSort;rw[←hO'.out,hx.out];exact hA
end SortU
end
section
namespace SortU
open Go.RowKit
open Go.Sort (swp ltInt siftDown heapBuild heapPop reverseLoop)
theorem Zeh {hi first root:Nat} {d:Array Int} (h:2 * root + 1 ≥ hi):siftDown ltInt hi first root d=d:=by rw[siftDown,dif_pos h]
theorem Ziu {hi first root:Nat} {d:Array Int} (h:¬2 * root + 1 ≥ hi) (hn:¬(2 * root + 1 + 1 < hi∧ltU (atU d (first + (2 * root + 1))) (atU d (first + (2 * root + 1) + 1))=true)):
 siftDown ltInt hi first root d=if ltU (atU d (first + root)) (atU d (first + (2 * root + 1)))=true then siftDown ltInt hi first (2 * root + 1) (swp d (first + root) (first + (2 * root + 1))) else d:=by
 have hn':¬(2 * root + 1 + 1 < hi&&ltInt d[first + (2 * root + 1)]! d[first + (2 * root + 1) + 1]!)=true:=by simpa [ltU,atU] using hn
 rw[siftDown,dif_neg h,if_neg hn'];unfold ltU atU
 cases ltInt d[first + root]! d[first + (2 * root + 1)]! <;>simp
theorem Zit {hi first root:Nat} {d:Array Int} (h:¬2 * root + 1 ≥ hi) (hn:2 * root + 1 + 1 < hi∧ltU (atU d (first + (2 * root + 1))) (atU d (first + (2 * root + 1) + 1))=true):
 siftDown ltInt hi first root d=if ltU (atU d (first + root)) (atU d (first + (2 * root + 2)))=true then siftDown ltInt hi first (2 * root + 2) (swp d (first + root) (first + (2 * root + 2))) else d:=by
 have hn':(2 * root + 1 + 1 < hi&&ltInt d[first + (2 * root + 1)]! d[first + (2 * root + 1) + 1]!)=true:=by simpa [ltU,atU] using hn
 rw[siftDown,dif_neg h,if_pos hn',dif_pos (by omega)];unfold ltU atU
 cases ltInt d[first + root]! d[first + (2 * root + 2)]! <;>simp
def ZoH (w:World) (g:Nat) (d:Array Int) (r:List Value) (hi first lo:Nat) (k:Nat) (u:Value) (wr:World):Prop:=
 ∃(root:Nat) (dk:Array Int),u=.int .i64 root∧hi - root≤k∧root < 4611686018427387904∧dk.size=d.size∧At [blkU g d r] w [blkU g dk r] wr∧siftDown ltInt hi first root dk=siftDown ltInt hi first lo d
theorem Zcl {w:World} {g cap n:Nat} {d:Array Int} {r:List Value} (h:Sep [blkU g d r] w) (hn:d.size=n) {lo hi first:Nat} (hb:first + hi≤d.size) (hlo:lo < 4611686018427387904) (hsz:d.size < 4611686018427387904):
 Calls Tryz.prog 335 #[.slice (some ⟨g,0,none⟩) n cap,.int .i64 lo,.int .i64 hi,.int .i64 first] w fun e w'=>e=.returned (.tuple #[])∧At [blkU g d r] w [blkU g (siftDown ltInt hi first lo d) r] w':=by
 have hA:=At.start h;have hF:=hA.facts;clear h
 go_enter Tryz.func335,Tryz.ntmps335
 go_wp2_with fail
 go_loopg [8] (hi - lo) (ZoH w g d r hi first lo)
 case atStart=>exact⟨lo,d,rfl,Nat.le_refl _,hlo,rfl,hA,rfl⟩
 case round=>
  obtain⟨root,dk,rfl,hk,hroot,hsk,hB,hO⟩:=hrel;have hO':=Hd hO;clear hF hA hO;have hA:=hB;clear hB
  obtain⟨c,hc⟩:∃c,2 * root + 1=c:=⟨_,rfl⟩
  have ec:(2:Int) * (root:Int) + 1=(c:Int):=by omega
  by_cases hch:c < hi
  · obtain⟨p,hp⟩:∃p,first + c=p:=⟨_,rfl⟩
    obtain⟨q,hq⟩:∃q,first + root=q:=⟨_,rfl⟩
    have ep:(first:Int) + (c:Int)=(p:Int):=by omega
    have ep1:(first:Int) + ((c:Int) + 1)=(p:Int) + 1:=by omega
    have eq:(first:Int) + (root:Int)=(q:Int):=by omega
    have e1:=ZaB (d:=dk) (r:=r) (i:=p) (by omega);have e3:=ZaB (d:=dk) (r:=r) (i:=q) (by omega)
    by_cases h2:c + 1 < hi∧ltU (atU dk p) (atU dk (p + 1))=true
    · have hx:=Zit (hi:=hi) (first:=first) (root:=root) (d:=dk) (by omega) (by rw[hc,hp];exact h2)
      rw[show 2 * root + 2=c + 1 by omega,hq,show first + (c + 1)=p + 1 by omega] at hx;obtain⟨h21,h22⟩:=h2;have h22':=Hd h22;have e2:=ZaB (d:=dk) (r:=r) (i:=p + 1) (by omega)
      have hg:decide ((c:Int) + 1 < (hi:Int))=true:=by simp;omega
      have hc':=Hd hc;have hp':=Hd hp;have hq':=Hd hq;clear hc hp hq h22;obtain⟨hA,hF⟩:=fY hA;cases hl:ltU (atU dk q) (atU dk (p + 1))
      all_goals
       rw[hl] at hx;simp only[Bool.false_eq_true,if_false,if_true] at hx;have hx':=Hd hx;have hl':=Hd hl;clear hx hl
      · go_wp2_with fail
        refine cl6 hA ?_;clear hF hA;intro w1 hA hF;(try simp only[uY] at hA hF)
        go_wp2_with fail
        refine cl0 hA ?_;clear hF hA;intro w1 hA hF;(try simp only[uY] at hA hF)
        go_wp2_with fail
        refine bodyPost_ret (results_none rfl _ _ _) rfl ?_;exact⟨rfl,by rw[←hO'.out,hx'.out];exact hA⟩
      go_wp2_with fail
      refine cl6 hA ?_;clear hF hA;intro w1 hA hF;(try simp only[uY] at hA hF)
      go_wp2_with fail
      refine cl0 hA ?_;clear hF hA;intro w1 hA hF;(try simp only[uY] at hA hF);have b1:=hp'.out;have b2:=hq'.out
      go_wp2_with fail
      (try clear hF);(have k1:=Zaj hA .here (i:=q) (by omega));(have k2:=Zaj hA .here (i:=p + 1) (by omega));(have f1:=Zai hA .here (q));(have f2:=Zai hA .here (p + 1));go_region;(have hB:=(ZaS hA .here (i:=q) (j:=p + 1) (by omega) (by omega)).drew);(clear k1 k2 f1 f2 hA);(have hA:=hB);(clear hB);(generalize World.drew (World.setCell _ _ _)=wz at *)
      go_wp2_with fail
      go_roundg (hi - (c + 1))
      case measure=>have:=hc'.out;omega
      case rel=>exact⟨c + 1,swp dk q (p + 1),by simp,Nat.le_refl _,by omega,by rw[Zau];exact hsk,hA,by rw[←hO'.out,hx'.out]⟩
    have hx:=Ziu (hi:=hi) (first:=first) (root:=root) (d:=dk) (by omega) (by rw[hc,hp];exact h2);rw[hc,hq,hp] at hx;have hc':=Hd hc;have hp':=Hd hp;have hq':=Hd hq;clear hc hp hq;obtain⟨hA,hF⟩:=fY hA
    by_cases h3:c + 1 < hi
    · have h4:ltU (atU dk p) (atU dk (p + 1))=false:=by simpa [h3] using h2
      have h4':=Hd h4;have e2:=ZaB (d:=dk) (r:=r) (i:=p + 1) (by have:=hp'.out;omega)
      have hg:decide ((c:Int) + 1 < (hi:Int))=true:=by simp;omega
      clear h2 h4;cases hl:ltU (atU dk q) (atU dk p)
      all_goals
       rw[hl] at hx;simp only[Bool.false_eq_true,if_false,if_true] at hx;have hx':=Hd hx;have hl':=Hd hl;clear hx hl
      · go_wp2_with fail
        refine cl7 hA ?_;clear hF hA;intro w1 hA hF;(try simp only[uY] at hA hF)
        go_wp2_with fail
        refine cl0 hA ?_;clear hF hA;intro w1 hA hF;(try simp only[uY] at hA hF)
        go_wp2_with fail
        refine bodyPost_ret (results_none rfl _ _ _) rfl ?_;exact⟨rfl,by rw[←hO'.out,hx'.out];exact hA⟩
      go_wp2_with fail
      refine cl7 hA ?_;clear hF hA;intro w1 hA hF;(try simp only[uY] at hA hF)
      go_wp2_with fail
      refine cl0 hA ?_;clear hF hA;intro w1 hA hF;(try simp only[uY] at hA hF);have b1:=hp'.out;have b2:=hq'.out
      go_wp2_with fail
      (try clear hF);(have k1:=Zaj hA .here (i:=q) (by omega));(have k2:=Zaj hA .here (i:=p) (by omega));(have f1:=Zai hA .here (q));(have f2:=Zai hA .here (p));go_region;(have hB:=(ZaS hA .here (i:=q) (j:=p) (by omega) (by omega)).drew);(clear k1 k2 f1 f2 hA);(have hA:=hB);(clear hB);(generalize World.drew (World.setCell _ _ _)=wz at *)
      go_wp2_with fail
      go_roundg (hi - c)
      case measure=>have:=hc'.out;omega
      case rel=>exact⟨c,swp dk q p,rfl,Nat.le_refl _,by omega,by rw[Zau];exact hsk,hA,by rw[←hO'.out,hx'.out]⟩
    have hg:decide ((c:Int) + 1 < (hi:Int))=false:=by simp;omega
    clear h2;cases hl:ltU (atU dk q) (atU dk p)
    all_goals
     rw[hl] at hx;simp only[Bool.false_eq_true,if_false,if_true] at hx;have hx':=Hd hx;have hl':=Hd hl;clear hx hl
    · go_wp2_with fail
      refine cl2 hA ?_;clear hF hA;intro w1 hA hF;(try simp only[uY] at hA hF)
      go_wp2_with fail
      refine cl0 hA ?_;clear hF hA;intro w1 hA hF;(try simp only[uY] at hA hF)
      go_wp2_with fail
      refine bodyPost_ret (results_none rfl _ _ _) rfl ?_;exact⟨rfl,by rw[←hO'.out,hx'.out];exact hA⟩
    go_wp2_with fail
    refine cl2 hA ?_;clear hF hA;intro w1 hA hF;(try simp only[uY] at hA hF)
    go_wp2_with fail
    refine cl0 hA ?_;clear hF hA;intro w1 hA hF;(try simp only[uY] at hA hF);have b1:=hp'.out;have b2:=hq'.out
    go_wp2_with fail
    (try clear hF);(have k1:=Zaj hA .here (i:=q) (by omega));(have k2:=Zaj hA .here (i:=p) (by omega));(have f1:=Zai hA .here (q));(have f2:=Zai hA .here (p));go_region;(have hB:=(ZaS hA .here (i:=q) (j:=p) (by omega) (by omega)).drew);(clear k1 k2 f1 f2 hA);(have hA:=hB);(clear hB);(generalize World.drew (World.setCell _ _ _)=wz at *)
    go_wp2_with fail
    go_roundg (hi - c)
    case measure=>have:=hc'.out;omega
    case rel=>exact⟨c,swp dk q p,rfl,Nat.le_refl _,by omega,by rw[Zau];exact hsk,hA,by rw[←hO'.out,hx'.out]⟩
  have hx:=Hd (Zeh (hi:=hi) (first:=first) (root:=root) (d:=dk) (by omega));clear hc
  go_wp2_with fail
  go_end0
  exact⟨rfl,by rw[←hO'.out,hx.out];exact hA⟩
theorem Zb4 {hi first:Nat}:∀(n root:Nat) (d:Array Int),hi - root≤n→(siftDown ltInt hi first root d).size=d.size:=by
 intro n
 induction n with
 |zero=>
  intro root d h;rw[Zeh (by omega)]
 |succ n ih=>
  intro root d h
  by_cases h0:2 * root + 1 ≥ hi
  · rw[Zeh h0]
  by_cases h1:2 * root + 1 + 1 < hi∧ltU (atU d (first + (2 * root + 1))) (atU d (first + (2 * root + 1) + 1))=true
  · rw[Zit h0 h1]
    split
    · rw[ih _ _ (by omega),Zau]
    rfl
  rw[Ziu h0 h1]
  split
  · rw[ih _ _ (by omega),Zau]
  rfl
def HeapB (w:World) (g:Nat) (d:Array Int) (r:List Value) (hi a:Nat) (k:Nat) (u:Value) (wr:World):Prop:=
 ∃dk:Array Int,u=.int .i64 ((k:Int) - 1)∧k≤d.size∧dk.size=d.size∧At [blkU g d r] w [blkU g dk r] wr∧heapBuild ltInt hi a k dk=heapBuild ltInt hi a ((hi - 1) / 2 + 1) d
def HeapP (w:World) (g:Nat) (d:Array Int) (r:List Value) (hi a:Nat) (d1:Array Int) (k:Nat) (u:Value) (wr:World):Prop:=
 ∃dk:Array Int,u=.int .i64 ((k:Int) - 1)∧k≤hi∧dk.size=d.size∧At [blkU g d r] w [blkU g dk r] wr∧heapPop ltInt a k dk=heapPop ltInt a hi d1
theorem Zg5 {w:World} {g cap n:Nat} {d:Array Int} {r:List Value} (h:Sep [blkU g d r] w) (hn:d.size=n) {a b:Nat} (hab:a < b) (hb:b≤d.size) (hsz:d.size < 4611686018427387904):
 Calls Tryz.prog 319 #[.slice (some ⟨g,0,none⟩) n cap,.int .i64 a,.int .i64 b] w fun e w'=>e=.returned (.tuple #[])∧At [blkU g d r] w [blkU g (Sort.heapSort ltInt d a b) r] w':=by
 have hA:=At.start h;have hF:=hA.facts;clear h
 obtain⟨hi,hhi⟩:∃hi,b - a=hi:=⟨_,rfl⟩
 have ehi:(b:Int) - (a:Int)=(hi:Int):=by omega
 have hsort:=Hd (show Sort.heapSort ltInt d a b=heapPop ltInt a hi (heapBuild ltInt hi a ((hi - 1) / 2 + 1) d) by unfold Sort.heapSort;rw[hhi]);have hhi':=Hd hhi
 have hhb:a + hi≤d.size:=by omega
 have h1:1≤hi:=by omega
 clear hhi;have hdiv:=Hd (show((hi:Int) - 1) / 2=(((hi - 1) / 2 + 1:Nat):Int) - 1 by omega)
 go_enter Tryz.func319,Tryz.ntmps319
 go_wp2_with fail
 go_loopg [9] ((hi - 1) / 2 + 1) (HeapB w g d r hi a)
 case atStart=>exact⟨d,by rw[hdiv.out],by omega,rfl,hA,rfl⟩
 case round=>
  obtain⟨dk,rfl,hk,hsk,hB,hO⟩:=hrel;have hO':=Hd hO;clear hF hA hO;have hA:=hB;clear hB;obtain⟨hA,hF⟩:=fY hA
  rcases Nat.eq_zero_or_pos gk with h0|hpos
  · subst h0
    have e1:=Hd (show dk=heapBuild ltInt hi a ((hi - 1) / 2 + 1) d by rw[←hO'.out];rfl)
    go_wp2_with fail
    go_loopg [10] hi (HeapP w g d r hi a dk)
    case atStart=>exact⟨dk,by first|rfl|simp,Nat.le_refl _,hsk,hA,rfl⟩
    case round=>
     obtain⟨dj,rfl,hk2,hsj,hB,hP⟩:=hrel;have hP':=Hd hP;clear hF hA hP;have hA:=hB;clear hB;obtain⟨hA,hF⟩:=fY hA
     rcases Nat.eq_zero_or_pos gk with h0|hpos
     · subst h0
       go_wp2_with fail
       go_end0
       exact⟨rfl,by rw[hsort.out,←e1.out,←hP'.out];exact hA⟩
     obtain⟨m,rfl⟩:∃m,gk=m + 1:=⟨gk - 1,by omega⟩
     obtain⟨q,hq⟩:∃q,a + m=q:=⟨_,rfl⟩
     have eq:(a:Int) + (m:Int)=(q:Int):=by omega
     have hm:((m + 1:Nat):Int) - 1=(m:Int):=by omega
     rw[hm];clear hm
     by_cases haq:a=q
     · subst haq
       go_wp2_with fail
       (try clear hF);(have k1:=Zaj hA .here (i:=a) (by omega));(have k2:=Zaj hA .here (i:=a) (by omega));(have f1:=Zai hA .here (a));(have f2:=Zai hA .here (a));go_region;(have hB:=(ZaS hA .here (i:=a) (j:=a) (by omega) (by omega)).drew);(clear k1 k2 f1 f2 hA);(have hA:=hB);(clear hB);(generalize World.drew (World.setCell _ _ _)=wz at *)
       go_wp2_with fail
       refine(Zcl (g:=g) (d:=swp dj a a) (r:=r) (hA.sep1 sR) (by rw[Zau];exact hsj.trans hn) (lo:=0) (hi:=m) (first:=a) (by rw[Zau];omega) (by omega) (by rw[Zau];omega)).mono ?_;rintro e w1 ⟨rfl,hT⟩;replace hA:=hA.call1 sR hT;clear hT;obtain⟨hA,hF⟩:=fY hA
       go_wp2_with fail
       go_roundg m
       case measure=>omega
       case rel=>exact⟨siftDown ltInt m a 0 (swp dj a a),by first|rfl|simp,by omega,by rw[Zb4 _ _ _ (Nat.le_refl _),Zau];exact hsj,hA,by rw[←hP'.out,heapPop,hq]⟩
     go_wp2_with fail
     (try clear hF);(have k1:=Zaj hA .here (i:=a) (by omega));(have k2:=Zaj hA .here (i:=q) (by omega));(have f1:=Zai hA .here (a));(have f2:=Zai hA .here (q));go_region;(have hB:=(ZaS hA .here (i:=a) (j:=q) (by omega) (by omega)).drew);(clear k1 k2 f1 f2 hA);(have hA:=hB);(clear hB);(generalize World.drew (World.setCell _ _ _)=wz at *)
     go_wp2_with fail
     refine(Zcl (g:=g) (d:=swp dj a q) (r:=r) (hA.sep1 sR) (by rw[Zau];exact hsj.trans hn) (lo:=0) (hi:=m) (first:=a) (by rw[Zau];omega) (by omega) (by rw[Zau];omega)).mono ?_;rintro e w1 ⟨rfl,hT⟩;replace hA:=hA.call1 sR hT;clear hT;obtain⟨hA,hF⟩:=fY hA
     go_wp2_with fail
     go_roundg m
     case measure=>omega
     case rel=>exact⟨siftDown ltInt m a 0 (swp dj a q),by first|rfl|simp,by omega,by rw[Zb4 _ _ _ (Nat.le_refl _),Zau];exact hsj,hA,by rw[←hP'.out,heapPop,hq]⟩
  obtain⟨m,rfl⟩:∃m,gk=m + 1:=⟨gk - 1,by omega⟩
  have hm:((m + 1:Nat):Int) - 1=(m:Int):=by omega
  rw[hm];clear hm
  go_wp2_with fail
  refine(Zcl (g:=g) (d:=dk) (r:=r) (hA.sep1 sR) (hsk.trans hn) (lo:=m) (hi:=hi) (first:=a) (by omega) (by omega) (by omega)).mono ?_;rintro e w1 ⟨rfl,hT⟩;replace hA:=hA.call1 sR hT;clear hF hT;obtain⟨hA,hF⟩:=fY hA
  go_wp2_with fail
  go_roundg m
  case measure=>omega
  case rel=>exact⟨siftDown ltInt hi a m dk,by first|rfl|simp,by omega,by rw[Zb4 _ _ _ (Nat.le_refl _)];exact hsk,hA,by rw[←hO'.out];rfl⟩
def RevRel (w:World) (g:Nat) (d:Array Int) (r:List Value) (a b:Nat) (k:Nat) (u v:Value) (wr:World):Prop:=
 ∃(i j:Nat) (dk:Array Int),u=.int .i64 i∧v=.int .i64 j∧j - i≤k∧j < d.size∧i≤d.size∧dk.size=d.size∧At [blkU g d r] w [blkU g dk r] wr∧reverseLoop i j dk=reverseLoop a (b - 1) d
theorem ZhG {w:World} {g cap n:Nat} {d:Array Int} {r:List Value} (h:Sep [blkU g d r] w) (hn:d.size=n) {a b:Nat} (hab:a < b) (hb:b≤d.size) (hsz:d.size < 4611686018427387904):
 Calls Tryz.prog 322 #[.slice (some ⟨g,0,none⟩) n cap,.int .i64 a,.int .i64 b] w fun e w'=>e=.returned (.tuple #[])∧At [blkU g d r] w [blkU g (Sort.reverseRange d a b) r] w':=by
 have hA:=At.start h;have hF:=hA.facts;clear h
 go_enter Tryz.func322,Tryz.ntmps322
 go_wp2_with fail
 go_loopg [6,7] (b - 1 - a) (RevRel w g d r a b)
 case atStart=>exact⟨a,b - 1,d,rfl,by congr 1;omega,Nat.le_refl _,by omega,by omega,rfl,hA,rfl⟩
 case round=>
  obtain⟨i,j,dk,rfl,rfl,hk,hj,hi,hsk,hB,hO⟩:=hrel;clear hF hA;have hA:=hB;clear hB;obtain⟨hA,hF⟩:=fY hA
  by_cases hij:i < j
  · have e1:=ZaB (d:=dk) (r:=r) (i:=i) (by omega)
    have e2:=ZaB (d:=dk) (r:=r) (i:=j) (by omega);have hx:=Hd (show reverseLoop i j dk=reverseLoop (i + 1) (j - 1) (swp dk i j) by rw[reverseLoop,if_pos hij]);have hO':=Hd hO;clear hO
    go_wp2_with fail
    (try clear hF);(have k1:=Zaj hA .here (i:=i) (by omega));(have k2:=Zaj hA .here (i:=j) (by omega));(have f1:=Zai hA .here (i));(have f2:=Zai hA .here (j));go_region;(have hB:=(ZaS hA .here (i:=i) (j:=j) (by omega) (by omega)).drew);(clear k1 k2 f1 f2 hA);(have hA:=hB);(clear hB);(generalize World.drew (World.setCell _ _ _)=wz at *)
    go_wp2_with fail
    go_roundg (j - 1 - (i + 1))
    case measure=>omega
    case rel=>exact⟨i + 1,j - 1,swp dk i j,by simp,by congr 1;omega,Nat.le_refl _,by omega,by omega,by rw[Zau];exact hsk,hA,by rw[←hO'.out,hx.out]⟩
  have hx:=Hd (show reverseLoop i j dk=dk by rw[reverseLoop,if_neg hij]);have hO':=Hd hO;clear hO
  go_wp2_with fail
  go_end0
  refine⟨rfl,?_⟩;unfold Sort.reverseRange;rw[←hO'.out,hx.out];exact hA
end SortU
end
section
namespace SortU
open Go.RowKit
open Go.Sort (swp ltInt PermIn)
abbrev intC (b:Nat) (x:Int):Part:=.cells b [.int .i64 x] 3
def O2Post (w:World) (g s:Nat) (d:Array Int) (r:List Value) (x:Nat) (a b:Nat) (e:Ending) (w':World):Prop:=
 ∃(p q y:Nat),e=.returned (.tuple #[.int .i64 p,.int .i64 q])∧(p=a∧q=b∨p=b∧q=a)∧y≤x + 1∧At [blkU g d r,intC s x] w [blkU g d r,intC s y] w'
theorem Zdl {w:World} {g s cap n x:Nat} {d:Array Int} {r:List Value} (h:Sep [blkU g d r,intC s x] w) (hn:d.size=n) {a b:Nat} (ha:a < d.size) (hb:b < d.size) (hx:x < 1000) (hsz:d.size < 4611686018427387904):
 Calls Tryz.prog 341 #[.slice (some ⟨g,0,none⟩) n cap,.int .i64 a,.int .i64 b,.pointer (some ⟨s,0,none⟩)] w (O2Post w g s d r x a b):=by
 have hA:=At.start h;have hF:=hA.facts;have e1:=ZaB (r:=r) ha;have e2:=ZaB (r:=r) hb;clear h;obtain⟨hA,hF⟩:=fY hA;cases hl:ltU (atU d b) (atU d a)
 · have hl':=Hd hl
   clear hl
   go_enter Tryz.func341,Tryz.ntmps341
   go_wp2_with fail
   refine cl0 hA ?_;clear hF hA;intro w1 hA hF;(try simp only[uY] at hA hF)
   go_wp2_with fail
   refine bodyPost_ret (v:=.tuple #[.int .i64 a,.int .i64 b]) (by simp[results,Tryz.results341,go_sem,hF]) rfl ?_;exact⟨a,b,x,rfl,.inl ⟨rfl,rfl⟩,by omega,hA⟩
 have hl':=Hd hl;clear hl
 go_enter Tryz.func341,Tryz.ntmps341
 go_wp2_with fail
 refine cl0 hA ?_;clear hF hA;intro w1 hA hF;(try simp only[uY] at hA hF)
 go_wp2_with ((with_reducible refine gst ?_);refine wTy hA ?_;clear hF hA;intro w1 hA hF)
 refine bodyPost_ret (v:=.tuple #[.int .i64 b,.int .i64 a]) (by simp[results,Tryz.results341,go_sem,hF]) rfl ?_
 have hA:=(show At _ _ [intC s ((x + 1:Nat):Int),blkU g d r] _ from hA)
 exact⟨b,a,x + 1,rfl,.inr ⟨rfl,rfl⟩,by omega,hA.pick pR⟩
def ZlG (w:World) (g s:Nat) (d:Array Int) (r:List Value) (x:Nat) (a b c:Nat) (e:Ending) (w':World):Prop:=
 ∃(p y:Nat),e=.returned (.int .i64 p)∧(p=a∨p=b∨p=c)∧y≤x + 3∧At [blkU g d r,intC s x] w [blkU g d r,intC s y] w'
theorem Zdm {w:World} {g s cap n x:Nat} {d:Array Int} {r:List Value} (h:Sep [blkU g d r,intC s x] w) (hn:d.size=n) {a b c:Nat} (ha:a < d.size) (hb:b < d.size) (hc:c < d.size) (hx:x < 900) (hsz:d.size < 4611686018427387904):
 Calls Tryz.prog 337 #[.slice (some ⟨g,0,none⟩) n cap,.int .i64 a,.int .i64 b,.int .i64 c,.pointer (some ⟨s,0,none⟩)] w (ZlG w g s d r x a b c):=by
 have hA:=At.start h;have hF:=hA.facts;clear h
 go_enter Tryz.func337,Tryz.ntmps337
 go_wp2_with fail
 refine(Zdl (hA.seps pR) hn ha hb (by omega) hsz).mono ?_;rintro e w1 ⟨p1,q1,y1,rfl,h1,hy1,hT⟩;replace hA:=hA.call2 sR sR hT;clear hF hT;simp only[uA] at hA
 go_wp2_with fail
 refine(Zdl (hA.seps pR) hn (a:=q1) (b:=c) (by omega) hc (by omega) hsz).mono ?_;rintro e w1 ⟨p2,q2,y2,rfl,h2,hy2,hT⟩;replace hA:=hA.call2 sR sR hT;clear hT;simp only[uA] at hA
 go_wp2_with fail
 refine(Zdl (hA.seps pR) hn (a:=p1) (b:=p2) (by omega) (by omega) (by omega) hsz).mono ?_;rintro e w1 ⟨p3,q3,y3,rfl,h3,hy3,hT⟩;replace hA:=hA.call2 sR sR hT;clear hT;simp only[uA] at hA
 go_wp2_with fail
 go_ret;exact⟨q3,y3,rfl,by omega,by omega,hA⟩
theorem Zb7 {w:World} {g s cap n x:Nat} {d:Array Int} {r:List Value} (h:Sep [blkU g d r,intC s x] w) (hn:d.size=n) {a:Nat} (ha:0 < a) (ha2:a + 1 < d.size) (hx:x < 900) (hsz:d.size < 4611686018427387904):
 Calls Tryz.prog 336 #[.slice (some ⟨g,0,none⟩) n cap,.int .i64 a,.pointer (some ⟨s,0,none⟩)] w (ZlG w g s d r x (a - 1) a (a + 1)):=by
 have hA:=At.start h;have hF:=hA.facts;clear h
 obtain⟨m,rfl⟩:∃m,a=m + 1:=⟨a - 1,by omega⟩
 go_enter Tryz.func336,Tryz.ntmps336
 go_wp2_with fail
 refine(Zdm (hA.seps pR) hn (a:=m) (b:=m + 1) (c:=m + 2) (by omega) (by omega) (by omega) hx hsz).mono ?_;rintro e w1 ⟨p,y,rfl,h1,hy,hT⟩;replace hA:=hA.call2 sR sR hT;clear hF hT;simp only[uA] at hA
 go_wp2_with fail
 go_ret;exact⟨p,y,rfl,by omega,hy,hA⟩
def ZoK (w:World) (g:Nat) (d:Array Int) (r:List Value) (a b:Nat) (e:Ending) (w':World):Prop:=
 ∃(p:Nat) (hv:Int),e=.returned (.tuple #[.int .i64 p,.int .i64 hv])∧a≤p∧p < b∧At [blkU g d r] w [blkU g d r] w'
theorem Zkt {w:World} {g cap n:Nat} {d:Array Int} {r:List Value} (h:Sep [blkU g d r] w) (hn:d.size=n) {a b:Nat} (hab:a + 12 < b) (hb:b≤d.size) (hsz:d.size < 4611686018427387904):
 Calls Tryz.prog 321 #[.slice (some ⟨g,0,none⟩) n cap,.int .i64 a,.int .i64 b] w (ZoK w g d r a b):=by
 have hA:=At.start h;have hF:=hA.facts;clear h
 obtain⟨l,hl⟩:∃l,b - a=l:=⟨_,rfl⟩
 have el:(b:Int) - (a:Int)=(l:Int):=by omega
 obtain⟨q,hq⟩:∃q,l / 4=q:=⟨_,rfl⟩
 have eq:(l:Int) / 4=(q:Int):=by omega
 obtain⟨i,hi⟩:∃i,a + q=i:=⟨_,rfl⟩
 have ei:(a:Int) + (q:Int)=(i:Int):=by omega
 obtain⟨j,hj⟩:∃j,a + q * 2=j:=⟨_,rfl⟩
 have ej:(a:Int) + (q:Int) * 2=(j:Int):=by omega
 obtain⟨k,hk⟩:∃k,a + q * 3=k:=⟨_,rfl⟩
 have ek:(a:Int) + (q:Int) * 3=(k:Int):=by omega
 have h8:(8:Int)≤(l:Int):=by omega
 have hr1:a < i∧i + 1 < b∧a < j∧j + 1 < b∧a < k∧k < b:=by omega
 have hr2:50≤l→a + 1 < i∧i + 1 < b∧a + 1 < j∧j + 1 < b∧a + 1 < k∧k + 1 < b:=by omega
 have hr1':=Hd hr1;have hr2':=Hd hr2;clear hr1 hr2 hl hq hi hj hk
 by_cases h50:50≤l
 · have h50':(50:Int)≤(l:Int):=by omega
   have hr:=hr2'.out h50
   go_enter Tryz.func321,Tryz.ntmps321
   go_wp2_with ((with_reducible refine gal ?_);refine wA 3 (.int .i64 0) [.int .i64 0] hA ?_;clear hF hA;intro bS w1 hA hbS;obtain⟨hA,hF⟩:=fY hA)
   refine(Zb7 (x:=0) (hA.seps pZ) hn (a:=i) (by omega) (by omega) (by omega) hsz).mono ?_;rintro e w1 ⟨p1,y1,rfl,g1,hy1,hT⟩;replace hA:=hA.call2 sZ sZ hT;clear hF hT;simp only[uA] at hA
   go_wp2_with fail
   refine(Zb7 (x:=y1) (hA.seps pZ) hn (a:=j) (by omega) (by omega) (by omega) hsz).mono ?_;rintro e w1 ⟨p2,y2,rfl,g2,hy2,hT⟩;replace hA:=hA.call2 sZ sZ hT;clear hT;simp only[uA] at hA
   go_wp2_with fail
   refine(Zb7 (x:=y2) (hA.seps pZ) hn (a:=k) (by omega) (by omega) (by omega) hsz).mono ?_;rintro e w1 ⟨p3,y3,rfl,g3,hy3,hT⟩;replace hA:=hA.call2 sZ sZ hT;clear hT;simp only[uA] at hA
   go_wp2_with fail
   refine(Zdm (x:=y3) (hA.seps pZ) hn (a:=p1) (b:=p2) (c:=p3) (by omega) (by omega) (by omega) (by omega) hsz).mono ?_;rintro e w1 ⟨p4,y4,rfl,g4,hy4,hT⟩;replace hA:=hA.call2 sZ sZ hT;clear hT;simp only[uA] at hA
   have hpr:a≤p4∧p4 < b:=by omega
   obtain⟨hA,hF⟩:=fY hA
   by_cases h0:(y4:Int)=0
   · rw[h0] at hF
     go_wp2_with fail
     refine bodyPost_ret (v:=.tuple #[.int .i64 p4,.int .i64 1]) (by simp[results,Tryz.results321,go_sem,hF]) rfl ?_;exact⟨p4,1,rfl,hpr.1,hpr.2,hA.pick pR⟩
   by_cases h12:(y4:Int)=12
   · rw[h12] at hF
     go_wp2_with fail
     refine bodyPost_ret (v:=.tuple #[.int .i64 p4,.int .i64 2]) (by simp[results,Tryz.results321,go_sem,hF]) rfl ?_;exact⟨p4,2,rfl,hpr.1,hpr.2,hA.pick pR⟩
   go_wp2_with fail
   refine bodyPost_ret (v:=.tuple #[.int .i64 p4,.int .i64 0]) (by simp[results,Tryz.results321,go_sem,hF]) rfl ?_;exact⟨p4,0,rfl,hpr.1,hpr.2,hA.pick pR⟩
 have h50':(l:Int) < 50:=by omega
 have hr:=hr1'.out
 go_enter Tryz.func321,Tryz.ntmps321
 go_wp2_with ((with_reducible refine gal ?_);refine wA 3 (.int .i64 0) [.int .i64 0] hA ?_;clear hF hA;intro bS w1 hA hbS;obtain⟨hA,hF⟩:=fY hA)
 refine(Zdm (x:=0) (hA.seps pZ) hn (a:=i) (b:=j) (c:=k) (by omega) (by omega) (by omega) (by omega) hsz).mono ?_;rintro e w1 ⟨p4,y4,rfl,g4,hy4,hT⟩;replace hA:=hA.call2 sZ sZ hT;clear hF hT;simp only[uA] at hA
 have hpr:a≤p4∧p4 < b:=by omega
 obtain⟨hA,hF⟩:=fY hA
 by_cases h0:(y4:Int)=0
 · rw[h0] at hF
   go_wp2_with fail
   refine bodyPost_ret (v:=.tuple #[.int .i64 p4,.int .i64 1]) (by simp[results,Tryz.results321,go_sem,hF]) rfl ?_;exact⟨p4,1,rfl,hpr.1,hpr.2,hA.pick pR⟩
 have h12:¬(y4:Int)=12:=by omega
 go_wp2_with fail
 refine bodyPost_ret (v:=.tuple #[.int .i64 p4,.int .i64 0]) (by simp[results,Tryz.results321,go_sem,hF]) rfl ?_;exact⟨p4,0,rfl,hpr.1,hpr.2,hA.pick pR⟩
abbrev rndC (b:Nat) (x:Int):Part:=.cells b [.int .u64 x] 324
theorem Zht (x y:Nat) (hx:x < 18446744073709551616) (hy:y < 18446744073709551616):∃z:Nat,bits .xor .u64 (x:Int) (y:Int)=(z:Int)∧z < 18446744073709551616:=
 ⟨_,bits_xor_u64_nat x y hx hy,Nat.xor_lt_two_pow (n:=64) (by omega) (by omega)⟩
theorem ZfS {L0 F:List Part} {w W:World} {b y:Nat} (z:Nat) (h:At L0 w (rndC b y::F) W):At L0 w (rndC b z::F) (W.setCell ⟨b,0,none⟩ (.int .u64 z)):=h.store .here 0 (.int .u64 z)
theorem ZdT {L0 F:List Part} {w W:World} {b y:Nat} (h:At L0 w (rndC b y::F) W):W.cell? ⟨b,0,none⟩=some (.int .u64 y)∧W.frozen? ⟨b,0,none⟩=false:=
 ⟨(h.get (A:=rndC b y) .here:Zab W b [.int .u64 y] 324).cell 0,(h.get (A:=rndC b y) .here:Zab W b [.int .u64 y] 324).free 0⟩
def Zns (w:World) (b:Nat) (x:Nat) (e:Ending) (w':World):Prop:=∃y:Nat,e=.returned (.int .u64 y)∧y < 18446744073709551616∧At [rndC b x] w [rndC b y] w'
theorem ZmE {w:World} {b x:Nat} (h:Sep [rndC b x] w) (hx:x < 18446744073709551616):Calls Tryz.prog 248 #[.pointer (some ⟨b,0,none⟩)] w (Zns w b x):=by
 obtain⟨A,e1,lA⟩:=Zht x (x * 8192 % 18446744073709551616) hx (by omega);obtain⟨B,e2,lB⟩:=Zht A (A / 128) lA (by omega);obtain⟨C,e3,lC⟩:=Zht B (B * 131072 % 18446744073709551616) lB (by omega)
 have e1':bits .xor .u64 (x:Int) (IntKind.u64.wrap ((x:Int) * 8192))=(A:Int):=by rw[IntKind.wrap_u64,←e1];congr 1
 have e2':bits .xor .u64 (A:Int) ((A:Int) / 128)=(B:Int):=by rw[←e2];congr 1
 have e3':bits .xor .u64 (B:Int) (IntKind.u64.wrap ((B:Int) * 131072))=(C:Int):=by rw[IntKind.wrap_u64,←e3];congr 1
 clear e1 e2 e3;have hA:=At.start h;clear h;obtain⟨k1,f1⟩:=ZdT hA
 go_enter Tryz.func248,Tryz.ntmps248
 go_wp2_with fail
 go_region
 replace hA:=(ZfS A hA).drew;clear k1 f1
 generalize World.drew (World.setCell _ _ _)=wz at *
 obtain⟨k1,f1⟩:=ZdT hA
 go_wp2_with fail
 go_region
 replace hA:=(ZfS B hA).drew;clear k1 f1
 generalize World.drew (World.setCell _ _ _)=wz at *
 obtain⟨k1,f1⟩:=ZdT hA
 go_wp2_with fail
 go_region
 replace hA:=(ZfS C hA).drew;clear k1 f1
 generalize World.drew (World.setCell _ _ _)=wz at *
 obtain⟨k1,f1⟩:=ZdT hA
 go_wp2_with fail
 go_ret;exact⟨C,rfl,lC,hA⟩
theorem ZeN (x:Nat) (h:x < 2 ^ 64):2 ^ Lib.bitLen x≤2 * x + 1∧(x < 4611686018427387904→Lib.bitLen x≤62):=by
 have key:∀n x,x < n→x < 2 ^ 64→2 ^ Lib.bitLen x≤2 * x + 1∧(0 < x→2 ^ Lib.bitLen x≤2 * x):=by
  intro n
  induction n with
  |zero=>intro x h;omega
  |succ n ih=>
   intro x h1 h2
   by_cases h0:x=0
   · subst h0;exact⟨by decide,by omega⟩
   have:=ih (x / 2) (by omega) (by omega)
   have e:2 ^ Lib.bitLen x=2 * 2 ^ Lib.bitLen (x / 2):=by rw[Lib.bitLen_half x h0 h2,Nat.pow_add]
   by_cases h3:x / 2=0
   · rw[h3] at e
     have e0:2 ^ Lib.bitLen 0=1:=by decide
     rw[e0] at e
     omega
   have:=this.2 (by omega)
   omega
 have k1:=(key (x + 1) x (by omega) h).1;refine⟨k1,fun h2=> ?_⟩
 rcases Nat.lt_or_ge 62 (Lib.bitLen x) with q|q
 · have h3:2 ^ 63≤2 ^ Lib.bitLen x:=Nat.pow_le_pow_right (by decide) q
   have k2:=(key (x + 1) x (by omega) h).2
   rcases Nat.eq_zero_or_pos x with h0|h0
   · subst h0;simp at k1;omega
   have:=k2 h0;omega
 exact q
theorem Zim (k:Nat) (hk:k≤62):IntKind.u64.wrap ((2:Int) ^ k)=((2 ^ k:Nat):Int):=by
 have h:(2:Nat) ^ k≤2 ^ 62:=Nat.pow_le_pow_right (by decide) hk;rw[IntKind.wrap_u64,show((2:Int) ^ k)=((2 ^ k:Nat):Int) by push_cast;rfl];generalize (2:Nat) ^ k=p at h
 omega
theorem ZmC (n:Nat) (hn:n < 4611686018427387904) (w:World):Calls Tryz.prog 247 #[.int .i64 n] w fun e w'=>e=.returned (.int .u64 ((2 ^ Lib.bitLen n:Nat):Int))∧w'=w:=by
 have hLen:∀w,Calls Tryz.prog 136 #[.int .u64 (n:Int)] w fun e w'=>e=.returned (.int .i64 (Lib.bitLen n:Nat))∧w'=w:=fun w=>by
  have h:=Tryz.bits_Len (n:Int) w (by omega) (by omega)
  rwa [Int.toNat_natCast] at h
 have hk:=(ZeN n (by omega)).2 hn
 have hp:IntKind.u64.wrap ((2:Int) ^ min (Lib.bitLen n) 64)=((2 ^ Lib.bitLen n:Nat):Int):=by rw[Nat.min_eq_left (by omega)];exact Zim (Lib.bitLen n) hk
 go_enter Tryz.func247,Tryz.ntmps247
 go_wp2_with (go_at_call 136;refine(hLen _).mono ?_;rintro e w' ⟨rfl,rfl⟩)
 go_ret;exact⟨congrArg (fun x=>Ending.returned (.int .u64 x)) (Zim (Lib.bitLen n) hk),rfl⟩
def ZoP (w:World) (g:Nat) (d:Array Int) (r:List Value) (a b:Nat) (e:Ending) (w':World):Prop:=∃d',e=.returned (.tuple #[])∧PermIn a b d d'∧At [blkU g d r] w [blkU g d' r] w'
def BrkRel (w:World) (g:Nat) (d:Array Int) (r:List Value) (a b t bR:Nat) (k:Nat) (u:Value) (wr:World):Prop:=
 ∃(i y:Nat) (dk:Array Int),u=.int .i64 i∧t≤i + 1∧i + k=t + 2∧y < 18446744073709551616∧PermIn a b d dk∧At [blkU g d r] w [rndC bR y,blkU g dk r] wr
theorem Zlp {w:World} {g cap n:Nat} {d:Array Int} {r:List Value} (h:Sep [blkU g d r] w) (hn:d.size=n) {a b:Nat} (hab:a + 12 < b) (hb:b≤d.size) (hsz:d.size < 4611686018427387904):
 Calls Tryz.prog 320 #[.slice (some ⟨g,0,none⟩) n cap,.int .i64 a,.int .i64 b] w (ZoP w g d r a b):=by
 have hA:=At.start h;have hF:=hA.facts;clear h
 obtain⟨l,hl⟩:∃l,b - a=l:=⟨_,rfl⟩
 have el:(b:Int) - (a:Int)=(l:Int):=by omega
 obtain⟨q,hq⟩:∃q,l / 4=q:=⟨_,rfl⟩
 have eq:(l:Int) / 4=(q:Int):=by omega
 obtain⟨t,ht⟩:∃t,a + q * 2=t:=⟨_,rfl⟩
 have et:(a:Int) + (q:Int) * 2=(t:Int):=by omega
 have h8:(8:Int)≤(l:Int):=by omega
 obtain⟨M,hM⟩:∃M,2 ^ Lib.bitLen l=M:=⟨_,rfl⟩
 have hM2:M≤2 * l + 1∧1≤M:=by rw[←hM];exact⟨(ZeN l (by omega)).1,Nat.one_le_two_pow⟩
 have hlw:IntKind.u64.wrap (l:Int)=(l:Int):=by rw[IntKind.wrap_u64];omega
 have hM1:M≤2 * l:=by
  have h2:2 ^ Lib.bitLen l=2 * 2 ^ Lib.bitLen (l / 2):=by rw[Lib.bitLen_half l (by omega) (by omega),Nat.pow_add]
  omega
 have hM':=Hd hM;have hr:=Hd (show a + 2≤t∧t + 2≤b∧l=b - a by omega);clear hM hl hq ht
 go_enter Tryz.func320,Tryz.ntmps320
 go_wp2_with (first|((with_reducible refine gal ?_);refine wA 324 (.int .u64 0) [.int .u64 0] hA ?_;clear hF hA;intro bR w1 hA hbR;obtain⟨hA,hF⟩:=fY hA)|((with_reducible refine gst ?_);refine wTy hA ?_;clear hF hA;intro w1 hA hF))
 refine(ZmC l (by omega) _).mono ?_;rintro e _ ⟨rfl,rfl⟩;rw[hM'.out]
 go_wp2_with fail
 go_loopg [9] 3 (BrkRel w g d r a b t bR)
 case atStart=>exact⟨t - 1,l,d,by have:=hr.out;congr 1;omega,by omega,by have:=hr.out;omega,by omega,Sort.permIn_refl d a b,hA⟩
 case round=>
  obtain⟨i,y,dk,rfl,hi1,hik,hy,hp,hB⟩:=hrel;have hp':=Hd hp;have hdk:dk.size=d.size:=hp.1;clear hF hA hp;have hA:=hB;clear hB;obtain⟨hA,hF⟩:=fY hA
  rcases Nat.eq_zero_or_pos gk with h0|hpos
  · subst h0
    go_wp2_with fail
    go_end0
    exact⟨dk,rfl,hp'.out,hA.pick pR⟩
  have hle:(i:Int)≤(t:Int) + 1:=by omega
  go_wp2_with fail
  refine(ZmE (hA.sep1 .here) hy).mono ?_;rintro e w1 ⟨z,rfl,hz,hT⟩;replace hA:=hA.call1 .here hT;clear hF hT;simp only[uA] at hA;obtain⟨hA,hF⟩:=fY hA
  obtain⟨O,hO⟩:∃O:Nat,O=z&&& (M - 1):=⟨_,rfl⟩
  have lO:O≤M - 1:=by rw[hO];exact Nat.and_le_right
  have eAnd:bits .and .u64 (z:Int) ((M:Int) - 1)=(O:Int):=by
   rw[show((M:Int) - 1)=((M - 1:Nat):Int) by omega,bits_and_u64_nat _ _ hz (by omega),hO]
  clear hO
  by_cases hge:(l:Int)≤(O:Int)
  · obtain⟨p,hpp⟩:∃p,a + (O - l)=p:=⟨_,rfl⟩
    have ep:(a:Int) + ((O:Int) - (l:Int))=(p:Int):=by omega
    have hpb:=Hd (show a≤p∧p < b by have:=hr.out;omega);clear hpp
    by_cases hip:i=p
    · subst hip
      go_wp2_with fail
      have hA:=hA.pick (K:=[blkU g dk r,rndC bR z]) pR;have hbb:=hpb.out
      (try clear hF);(have k1:=Zaj hA .here (i:=i) (by omega));(have k2:=Zaj hA .here (i:=i) (by omega));(have f1:=Zai hA .here (i));(have f2:=Zai hA .here (i));go_region;(have hB:=(ZaS hA .here (i:=i) (j:=i) (by omega) (by omega)).drew);(clear k1 k2 f1 f2 hA);(have hA:=hB);(clear hB);(generalize World.drew (World.setCell _ _ _)=wz at *)
      go_wp2_with fail
      go_roundg (gk - 1)
      case measure=>omega
      case rel=>exact⟨i + 1,z,swp dk i i,by simp,by omega,by omega,hz,Sort.permIn_trans _ _ _ a b hp'.out (Sort.swp_permIn dk a b i i hbb.1 hbb.2 hbb.1 hbb.2 (by omega)),hA.pick pR⟩
    go_wp2_with fail
    have hA:=hA.pick (K:=[blkU g dk r,rndC bR z]) pR;have hbb:=hpb.out;have hr1:=hr.out.1;have hr2:=hr.out.2.1
    (try clear hF);(have k1:=Zaj hA .here (i:=i) (by omega));(have k2:=Zaj hA .here (i:=p) (by omega));(have f1:=Zai hA .here (i));(have f2:=Zai hA .here (p));go_region;(have hB:=(ZaS hA .here (i:=i) (j:=p) (by omega) (by omega)).drew);(clear k1 k2 f1 f2 hA);(have hA:=hB);(clear hB);(generalize World.drew (World.setCell _ _ _)=wz at *)
    go_wp2_with fail
    go_roundg (gk - 1)
    case measure=>omega
    case rel=>exact⟨i + 1,z,swp dk i p,by simp,by omega,by omega,hz,Sort.permIn_trans _ _ _ a b hp'.out (Sort.swp_permIn dk a b i p (by omega) (by omega) hbb.1 hbb.2 (by omega)),hA.pick pR⟩
  obtain⟨p,hpp⟩:∃p,a + O=p:=⟨_,rfl⟩
  have ep:(a:Int) + (O:Int)=(p:Int):=by omega
  have hpb:=Hd (show a≤p∧p < b by have:=hr.out;omega);clear hpp
  by_cases hip:i=p
  · subst hip
    go_wp2_with fail
    have hA:=hA.pick (K:=[blkU g dk r,rndC bR z]) pR;have hbb:=hpb.out
    (try clear hF);(have k1:=Zaj hA .here (i:=i) (by omega));(have k2:=Zaj hA .here (i:=i) (by omega));(have f1:=Zai hA .here (i));(have f2:=Zai hA .here (i));go_region;(have hB:=(ZaS hA .here (i:=i) (j:=i) (by omega) (by omega)).drew);(clear k1 k2 f1 f2 hA);(have hA:=hB);(clear hB);(generalize World.drew (World.setCell _ _ _)=wz at *)
    go_wp2_with fail
    go_roundg (gk - 1)
    case measure=>omega
    case rel=>exact⟨i + 1,z,swp dk i i,by simp,by omega,by omega,hz,Sort.permIn_trans _ _ _ a b hp'.out (Sort.swp_permIn dk a b i i hbb.1 hbb.2 hbb.1 hbb.2 (by omega)),hA.pick pR⟩
  go_wp2_with fail
  have hA:=hA.pick (K:=[blkU g dk r,rndC bR z]) pR;have hbb:=hpb.out;have hr1:=hr.out.1;have hr2:=hr.out.2.1
  (try clear hF);(have k1:=Zaj hA .here (i:=i) (by omega));(have k2:=Zaj hA .here (i:=p) (by omega));(have f1:=Zai hA .here (i));(have f2:=Zai hA .here (p));go_region;(have hB:=(ZaS hA .here (i:=i) (j:=p) (by omega) (by omega)).drew);(clear k1 k2 f1 f2 hA);(have hA:=hB);(clear hB);(generalize World.drew (World.setCell _ _ _)=wz at *)
  go_wp2_with fail
  go_roundg (gk - 1)
  case measure=>omega
  case rel=>exact⟨i + 1,z,swp dk i p,by simp,by omega,by omega,hz,Sort.permIn_trans _ _ _ a b hp'.out (Sort.swp_permIn dk a b i p (by omega) (by omega) hbb.1 hbb.2 (by omega)),hA.pick pR⟩
end SortU
end
end Go.Proofs.YtkdjkngfnapjcaaGreatDoor
