/- LockS, LockT, Drawn, PathO, LockL, TabI, joined. -/
import Derived.Test.YtkdjkngfnapjcaaGreatDoorP5
import Derived.Test.YtkdjkngfnapjcaaGreatDoorP13
import Derived.RangeFuncNested
import Derived.RangeFuncBound
import Derived.RangeFuncCalls
import Derived.RangeFuncLeaves
import Derived.Shelf.Abstract
import Derived.WalkKit
import Derived.OwnWalkIn
import Derived.TacticsInMore
import Derived.LoopNIn
import Derived.LoopIn
import Derived.Maps.AppendAt
import Derived.Test.YtkdjkngfnapjcaaGreatDoorP2
import Derived.Test.YtkdjkngfnapjcaaGreatDoorP4
import Derived.Test.YtkdjkngfnapjcaaGreatDoorChecked
import Derived.Lone
import Derived.RunT
import Derived.Calls
import Derived.Test.YtkdjkngfnapjcaaGreatDoorP7
import Derived.Lib.QuietBelow
import Derived.Sort.Grow
import Derived.Test.YtkdjkngfnapjcaaGreatDoorP16
import Derived.Test.YtkdjkngfnapjcaaGreatDoorP14
import Derived.Test.YtkdjkngfnapjcaaGreatDoorP21
set_option linter.unusedSimpArgs false
set_option linter.unusedVariables false
set_option maxRecDepth 100000
set_option maxHeartbeats 16000000
namespace Go.Proofs.YtkdjkngfnapjcaaGreatDoor
section
namespace Lock
open Go.Sort Go.Shelf
open Go.Lib (compareBytes compareInt)
open _root_.Go.Proofs.YtkdjkngfnapjcaaGreatDoor.Mark (orI)
open Path (bl Zad overB Zag cmpL cmpP)
def keyL (e:Ent):List Path.Bs:=Zag (bl e.path)
def ltE (x y:Ent):Prop:=cmpL (keyL x) (keyL y) < 0∨(keyL x=keyL y∧x.stamp < y.stamp)
instance (x y:Ent):Decidable (ltE x y):=by unfold ltE;infer_instance
def cmpE (x y:Ent):Int:=orI (cmpP (bl x.path) (bl y.path)) (compareInt x.stamp y.stamp)
theorem bl_inj {a b:ByteArray} (h:bl a=bl b):a=b:=by
 unfold bl at h
 have:a.data=b.data:=by rw[←Array.toList_inj];exact h
 cases a;cases b;simp_all
theorem ZdX {x y:Ent} (h:keyL x=keyL y):x.path=y.path:=bl_inj (Path.Zcw h)
theorem Zoz {x y:Ent} (hx:Zad (bl x.path)=true) (hy:Zad (bl y.path)=true):decide (cmpE x y < 0)=decide (ltE x y):=by
 have hcp:cmpP (bl x.path) (bl y.path)=cmpL (Zag (bl x.path)) (Zag (bl y.path)):=by simp[cmpP,hx,hy]
 unfold cmpE orI compareInt ltE;rw[hcp];show _=decide (cmpL (Zag (bl x.path)) (Zag (bl y.path)) < 0∨(Zag (bl x.path)=Zag (bl y.path)∧x.stamp < y.stamp));generalize hp:Zag (bl x.path)=p;generalize hq:Zag (bl y.path)=q
 by_cases h0:cmpL p q=0
 · have e:=Path.cl_eq h0
   subst e;rw[Path.ZeL]
   by_cases h1:x.stamp < y.stamp
   · simp[h1]
   by_cases h2:y.stamp < x.stamp<;>simp[h1,h2]
 have hne:p≠q:=fun e=>h0 (by rw[e];exact Path.ZeL q)
 simp[h0,hne]
theorem Zdp (x:Ent):¬ltE x x:=by
 unfold ltE;rw[Path.ZeL]
 omega
theorem Zcp {x y z:Ent} (h1:ltE x y) (h2:ltE y z):ltE x z:=by
 unfold ltE at *
 rcases h1 with h1|⟨h1,h1'⟩
 · rcases h2 with h2|⟨h2,_⟩
   · exact .inl (Path.Zgm h1 h2)
   exact .inl (by rw[←h2];exact h1)
 rcases h2 with h2|⟨h2,h2'⟩
 · exact .inl (by rw[h1];exact h2)
 exact .inr ⟨h1.trans h2,by omega⟩
theorem Zf7 (x y:Ent):ltE x y∨(keyL x=keyL y∧x.stamp=y.stamp)∨ltE y x:=by
 unfold ltE;have h:=Path.Zic (keyL x) (keyL y)
 by_cases h0:cmpL (keyL x) (keyL y)=0
 · have e:=Path.cl_eq h0
   rcases Int.lt_trichotomy x.stamp y.stamp with q|q|q
   · exact .inl (.inr ⟨e,q⟩)
   · exact .inr (.inl ⟨e,q⟩)
   exact .inr (.inr (.inr ⟨e.symm,q⟩))
 by_cases h1:cmpL (keyL x) (keyL y) < 0
 · exact .inl (.inl h1)
 exact .inr (.inr (.inl (by omega)))
abbrev EntI (es:List Ent):={e:Ent // e ∈ es}
def cmpI (es:List Ent) (x y:EntI es):Int:=cmpE x.1 y.1
def encI (es:List Ent) (x:EntI es):List Value:=x.1.cells
structure Sortable (es:List Ent):Prop where
 right:∀e ∈ es,Zad (bl e.path)=true
 one:∀a ∈ es,∀b ∈ es,a.path=b.path→a.stamp=b.stamp→a=b
theorem Inv.sortable {s:S3} {k:Nat} (h:Inv s k):Sortable s.es:=⟨h.right,fun a ha b hb hp hs=>by
 obtain⟨i,hi⟩:=List.mem_iff_getElem?.1 ha;obtain⟨j,hj⟩:=List.mem_iff_getElem?.1 hb;obtain⟨hi1,hi2⟩:=List.getElem?_eq_some_iff.1 hi;obtain⟨hj1,hj2⟩:=List.getElem?_eq_some_iff.1 hj;have hp':=List.pairwise_iff_getElem.1 h.order;have ho:overB (bl a.path) (bl a.path)=true:=Path.ZgO (h.right a ha)
 rcases Nat.lt_trichotomy i j with q|q|q
 · have:=hp' i j hi1 hj1 q
   rw[hi2,hj2,←hp] at this;have:=this ho
   omega
 · subst q;rw[hi] at hj;exact Option.some.inj hj
 have:=hp' j i hj1 hi1 q
 rw[hi2,hj2,←hp] at this;have:=this ho
 omega⟩
section
variable {es:List Ent} (H:Sortable es)
include H
theorem cmpI_lt (x y:EntI es):ltOf (cmpI es) x y=decide (ltE x.1 y.1):=Zoz (H.right _ x.2) (H.right _ y.2)
theorem totI (x y:EntI es) (h1:ltOf (cmpI es) x y=false) (h2:ltOf (cmpI es) y x=false):x=y:=by
 rw[cmpI_lt H] at *
 rcases Zf7 x.1 y.1 with q|q|q
 · exact absurd q (of_decide_eq_false h1)
 · exact Subtype.ext (H.one _ x.2 _ y.2 (ZdX q.1) q.2)
 exact absurd q (of_decide_eq_false h2)
theorem swoI:SWO (ltOf (cmpI es)) where
 irrefl x:=by rw[cmpI_lt H];exact decide_eq_false (Zdp _)
 trans x y z h1 h2:=by rw[cmpI_lt H] at *;exact decide_eq_true (Zcp (of_decide_eq_true h1) (of_decide_eq_true h2))
 ntrans x y z h1 h2:=by
  rw[cmpI_lt H] at *
  refine decide_eq_false fun h=> ?_
  have n1:=of_decide_eq_false h1;have n2:=of_decide_eq_false h2
  rcases Zf7 x.1 y.1 with q|q|q
  · exact n1 q
  · have e:x=y:=Subtype.ext (H.one _ x.2 _ y.2 (ZdX q.1) q.2)
    subst e;exact n2 h
  exact n2 (Zcp q h)
def sortI (_:Sortable es) (l:List (EntI es)):List (EntI es):=l.mergeSort fun x y=> !ltOf (cmpI es) y x
omit H in
theorem sortI_len (H:Sortable es) (l:List (EntI es)):(sortI H l).length=l.length:=List.length_mergeSort l
omit H in
theorem sortI_perm (H:Sortable es) (l:List (EntI es)):(sortI H l).Perm l:=List.mergeSort_perm l _
omit H in
theorem ZlX (H:Sortable es) (l:List (EntI es)):(sortI H l).Pairwise (fun a b=>(!ltOf (cmpI es) b a)=true):=by
 refine List.pairwise_mergeSort ?_ ?_ l
 · intro a b c h1 h2
   rw[cmpI_lt H] at *
   simp only[Bool.not_eq_true',decide_eq_false_iff_not] at *
   intro h
   rcases Zf7 b.1 a.1 with q|q|q
   · exact h1 q
   · have e:b=a:=Subtype.ext (H.one _ b.2 _ a.2 (ZdX q.1) q.2)
     subst e;exact h2 h
   exact h2 (Zcp h q)
 intro a b;rw[cmpI_lt H,cmpI_lt H];simp only[Bool.or_eq_true,Bool.not_eq_true',decide_eq_false_iff_not]
 by_cases h:ltE b.1 a.1
 · right
   intro h';exact Zdp _ (Zcp h h')
 exact .inl h
end
theorem sortI_lt {es:List Ent} (H:Sortable es) (l:List (EntI es)) (hn:l.Nodup):((sortI H l).map (·.1)).Pairwise ltE:=by
 have h2:(sortI H l).Nodup:=(sortI_perm H l).nodup_iff.2 hn;rw[List.pairwise_map];refine((ZlX H l).and h2).imp ?_;rintro a b ⟨h,hne⟩;rw[cmpI_lt H] at h;simp only[Bool.not_eq_true',decide_eq_false_iff_not] at h
 rcases Zf7 a.1 b.1 with q|q|q
 · exact q
 · exact absurd (Subtype.ext (H.one _ a.2 _ b.2 (ZdX q.1) q.2)) hne
 exact absurd q h
theorem Zjh {l r:List Ent} (h1:l.Pairwise ltE) (h2:r.Pairwise ltE) (hp:l.Perm r):l=r:=
 hp.eq_of_pairwise (le:=ltE) (fun a b _ _ h3 h4=>absurd (Zcp h3 h4) (Zdp _)) h1 h2
def toI {es:List Ent}:(l:List Ent)→(∀x ∈ l,x ∈ es)→List (EntI es)
 |[],_=>[]
 |x::l,h=>⟨x,h x (by simp)⟩::toI l (fun y hy=>h y (by simp[hy]))
theorem toI_map {es:List Ent}:∀(l:List Ent) (h:∀x ∈ l,x ∈ es),(toI l h).map (·.1)=l
 |[],_=>rfl
 |x::l,h=>by rw[toI,List.map_cons,toI_map l]
theorem encI_flat {es:List Ent} (l:List (EntI es)):l.flatMap (encI es)=(l.map (·.1)).flatMap Ent.cells:=by
 induction l with
 |nil=>rfl
 |cons x l ih=>rw[List.flatMap_cons,List.map_cons,List.flatMap_cons,ih];rfl
end Lock
end
section
namespace Lock
open _root_.Go.Proofs.YtkdjkngfnapjcaaGreatDoor.Mark (seenOf seenOf_eq iter_walk iter_keeps grown_of_exc grown_of_ext Box Box.own)
open Go.RowKit Go.Shelf
open Go.Maps (Keyed)
attribute [local go_sem] Oper.semAt_some
def unE2:Value→Ent
 |.agg #[.string p,.int _ n,.string f,.int _ m,.int _ k,.int _ s]=>⟨p,n,f,m,k,s⟩
 |_=>nullE
theorem ZhK {l m:List Ent} (h:(l.map Ent.val).Perm (m.map Ent.val)):l.Perm m:=by
 have:=h.map unE2
 have e:∀x:Ent,unE2 x.val=x:=fun _=>rfl
 simpa [List.map_map,Function.comp_def,e] using this
theorem ZlN (F:Fence) (n:Nat) (h1:F.fn 172) (hro:F.round=none) (hn:1≤n) (l Bm b:Nat) (es:List (Value × Value)) (ks:List (Ent)) (hes:es.map (·.2)=ks.map Ent.val) (J Jx:List (Ent)→World→Prop)
 (W:World) (hJ:AbidesFrom W.heap.size J)
 (hY:∀pre x W1,J pre W1→pre.length < ks.length→YieldAt F (n - 1) Tryz.prog l #[x.val] W1 fun e W'=>(e=.returned (.bool true)∧J (pre++[x]) W'∧KeepsWalks W1 W')∨(e=.returned (.bool false)∧Jx (pre++[x]) W'))
 (hm:W.cell? ⟨Bm,0,none⟩=some (.map (some b))) (hM:MapAt Tryz.prog 203 W b es) (h0:J [] W):
 CallsIn F n Tryz.prog 172 #[.func (.yield l) #[] #[],.pointer (some ⟨Bm,0,none⟩)] W fun e W'=>(∃v,e=.returned v)∧((∃ys,ys.Perm ks∧J ys W')∨(∃pre,True∧Jx pre W')):=by
 obtain⟨W0,hrun,hext,hI⟩:=Zas.start hM Tryz.underlying201;have hJ0:J [] W0:=hJ _ W W0 none h0 (grown_of_ext hext) (fun r e=>by cases e);refine callsIn_of_wp Tryz.func172 rfl h1 ?_ hro;simp only[Tryz.ntmps172,List.size_toArray,List.length_cons,List.length_nil,Nat.reduceAdd,Nat.reduceSub,Array.replicate_succ,Array.replicate_zero,List.push_toArray,List.append_toArray,List.nil_append,List.cons_append]
 gi_wp2
 clear hrun
 try go_frame
 gi_loopw [4] (fun _ wr=>∃(done:List (Value × Value)) (ds:List (Ent)),Zas Tryz.prog 203 wr W.heap.size b es done∧done.map (·.2)=ds.map Ent.val∧J ds wr)
  (fun _ wr=>es.length - seenOf wr W.heap.size)
 case atStart=>exact⟨[],[],hI,rfl,hJ0⟩
 case round=>
  obtain⟨done,ds,hI1,hd,hJs⟩:=hrel
  rcases hI1.next 0 with⟨hp,hrun⟩|⟨p,w',hp,hne,hrun,hI2,hx⟩
  · have hpp:ds.Perm ks:=(ZhK (by rw[←hes,←hd];exact hp.map _)).symm
    clear hes hd
    gi_wp2
    go_end0
    exact⟨⟨_,rfl⟩,.inl ⟨ds,hpp,hJs⟩⟩
  obtain⟨pk,pv⟩:=p
  have hpk:pv ∈ es.map (·.2):=List.mem_map.2 ⟨_,hp,rfl⟩;rw[hes] at hpk;obtain⟨x,_,rfl⟩:=List.mem_map.1 hpk
  have hlen:ds.length < ks.length:=by
   have e1:=congrArg List.length hes;have e2:=congrArg List.length hd;have e3:=hI2.len
   simp at e1 e2 e3
   omega
  have hJ1:J ds w':=hJ ds wr w' (some W.heap.size) hJs (grown_of_exc hx) (fun r e=>by cases e;exact⟨Nat.le_refl _,iter_walk hI1⟩);have hJ2:J ds (w'.alloc (.cells #[.string x.path,.int .u64 x.num,.string x.foot,.int .i64 x.mode,.int .u64 x.n,.int .i64 x.stamp] 97)):=hJ _ _ _ none hJ1 (World.grownBy_alloc _ _ none) (fun r e=>by cases e);have hI3:Zas Tryz.prog 203 (w'.alloc (.cells #[.string x.path,.int .u64 x.num,.string x.foot,.int .i64 x.mode,.int .u64 x.n,.int .i64 x.stamp] 97)) W.heap.size b es (done++[(pk,x.val)]):=(Part.iter _ _ _ _ _ _).stay _ _ hI2 (fun q hq=>Below.heap_alloc _ _ _ ((Part.iter _ _ _ _ _ _).lt _ hI2 q hq));obtain⟨fn,tmps,assign,body,hy,hR⟩:=hY ds x _ hJ2 hlen;have hen:=hI2.entry;have hs0:=seenOf_eq hI1;have hes':=Hd hes;have hd':=Hd hd;have hs':=Hd hs0;have hle:=hI2.len;clear hes hd hs0 hpk hp hne hx;unfold Ent.val at hrun hen hy
  gi_wp2
  refine hR.mono ?_;rintro e W3 (⟨rfl,hJ3,hk3⟩|⟨rfl,hJx3⟩)
  · gi_wp2
    go_roundw
    case rel=>exact⟨done++[(pk,x.val)],ds++[x],iter_keeps hI3 hk3,by simp[hd'.out],hJ3⟩
    case measure=>
     have e1:=seenOf_eq (iter_keeps hI3 hk3);have e2:=hs'.out;rw[e1,e2]
     simp at hle ⊢
     omega
  gi_wp2
  refine bodyPost_ret (results_none rfl _ _ _) rfl ?_;exact⟨⟨_,rfl⟩,.inr ⟨_,trivial,hJx3⟩⟩
theorem ZnL (F:Fence) (n:Nat) (h1:F.fn 121) (hro:F.round=none) (mb:Option Nat) (w:World):
 CallsIn F n Tryz.prog 121 #[.map mb] w fun e w'=>e=.returned (.func (.func 172) #[] #[.pointer (some ⟨w.heap.size,0,none⟩)])∧w'=w.alloc (.cells #[.map mb] 201):=by
 refine callsIn_of_wp Tryz.func121 rfl h1 ?_ hro;simp only[Tryz.ntmps121,List.size_toArray,List.length_cons,List.length_nil,Nat.reduceAdd,Nat.reduceSub,Array.replicate_succ,Array.replicate_zero,List.push_toArray,List.append_toArray,List.nil_append,List.cons_append]
 gi_wp2
 go_ret;exact⟨rfl,rfl⟩
theorem Zjb (F:Fence) (n:Nat) (h1:F.fn 172) (hro:F.round=none) (hn:1≤n) (Bm b:Nat) (es:List (Value × Value)) (ks:List (Ent)) (hes:es.map (·.2)=ks.map Ent.val) (w:World) (hBm:Bm < w.heap.size)
 (hm:w.cell? ⟨Bm,0,none⟩=some (.map (some b))) (hM:MapAt Tryz.prog 203 w b es):
 SeqStopsK F n Tryz.prog 172 #[.pointer (some ⟨Bm,0,none⟩)] (fun x:Ent=> #[x.val]) KeepsWalks (fun ys=>ys.Perm ks) (fun _=>True) ks.length w:=fun l J Jx W hW hJ _ hY h0=>
 ZlN F n h1 hro hn l Bm b es ks hes J Jx W hJ hY ((hW.cell (p:=⟨Bm,0,none⟩) hBm).trans hm) (hM.same (hW.block b hM.lt)) h0
theorem infoID:(Tryz.prog.info? 97).map (fun i=>(i.zero,i.size,i.bytes))=some (some (.agg #[.string .empty,.int .u64 0,.string .empty,.int .i64 0,.int .u64 0,.int .i64 0]),6,64):=by kernel_rfl
theorem ZnP (W:World) (a b c d e f:Value) (t:TypeId):∀(j:Nat) (u:Value),[a,b,c,d,e,f][j]? =some u→(W.alloc (.cells #[a,b,c,d,e,f] t)).cell? ((⟨W.heap.size,0,none⟩:Addr).add j)=some u:=by
 intro j u h
 match j,h with
 |0,h=>simp at h;subst h;simp[Addr.add]
 |1,h=>simp at h;subst h;simp[Addr.add]
 |2,h=>simp at h;subst h;simp[Addr.add]
 |3,h=>simp at h;subst h;simp[Addr.add]
 |4,h=>simp at h;subst h;simp[Addr.add]
 |5,h=>simp at h;subst h;simp[Addr.add]
 |j + 6,h=>simp at h
def MidI (w:World) (pre:List (Ent)) (W:World):Prop:=
 (∃v,Boxed W w.heap.size 94 v∧W.ownsRow w.heap.size 97 6 v pre.length (pre.flatMap Ent.cells)∧(v=.slice none 0 0↔pre=[]))∧Below w.heap.size w W
theorem midI_own (w:World) (B:Nat) (hB:w.heap.size≤B):OwnFrom B (MidI w):=
 OwnFrom.and (Own.from (holdsRow_own w.heap.size w.heap.size 94 97 6 (fun pre=>pre.length) (fun pre=>pre.flatMap Ent.cells) (fun pre v=>v=.slice none 0 0↔pre=[])) _) (ownFrom_below (Nat.le_refl _) hB)
def MidAx (w:World) (sv:Value) (x:Ent) (a':Act) (W:World):Prop:=
 ∃Bx,w.heap.size < Bx∧Box W Bx 97 #[.string x.path,.int .u64 x.num,.string x.foot,.int .i64 x.mode,.int .u64 x.n,.int .i64 x.stamp]∧a'={tmps:= #[.slice none 0 0,sv,.pointer (some ⟨w.heap.size,0,none⟩),undef,.slice none 0 0,.pointer (some ⟨Bx,0,none⟩),sv,x.val,undef,undef,undef,undef,undef],defers:=[]}
theorem midAx_own (w:World) (sv:Value) (B:Nat) (x:Ent) (a':Act):OwnFrom B (fun(_:Unit) W=>MidAx w sv x a' W):=by
 rintro s X Y row ⟨Bx,h1,h2,h3⟩ hg hr;exact⟨Bx,h1,(Box.own (β:=Unit) Bx _ _).from B () X Y row h2 hg hr,h3⟩
theorem appendSeq_in (F:Fence) (n:Nat) (hF:F.fn 171) (hro:F.round=none) (hn:3≤n) (gf:Nat) (lb:Array Value) (hFg:F.fn gf) (eg:∀args w,(callFunc gf args).run Tryz.prog w=.ok (.enter gf args) w)
 (S Sp:List (Ent)→Prop) (N:Nat) (hN:N≤100000000) (w:World) (hseq:SeqStopsK F (n - 1) Tryz.prog gf lb (fun x:Ent=> #[x.val]) KeepsWalks S Sp N w):
 CallsIn F n Tryz.prog 171 #[.slice none 0 0,.func (.func gf) #[] lb] w fun e w'=>∃(v:Value) (ss:List (Ent)),e=.returned v∧S ss∧w'.ownsRow w.heap.size 97 6 v ss.length (ss.flatMap Ent.cells)∧(v=.slice none 0 0↔ss=[])∧Below w.heap.size w w':=by
 have h1:1≤n:=by omega
 obtain⟨i0,hi,hz0,hz1,hz2⟩:=info_parts infoID;refine callsIn_of_wp_marks Tryz.func171 rfl hF ?_ hro;simp only[Tryz.ntmps171,List.size_toArray,List.length_cons,List.length_nil,Nat.reduceAdd,Nat.reduceSub,Array.replicate_succ,Array.replicate_zero,List.push_toArray,List.append_toArray,List.nil_append,List.cons_append]
 gi_wp2
 have bO:=Boxed.new w 94 (.slice none 0 0);have hB0:Below w.heap.size w (w.alloc (.cells #[.slice none 0 0] 94)):=(Below.refl _ w).alloc (Nat.le_refl _) _
 refine wpIn_rangeFunc_ownH hro h1 (gf:=gf) (lb:=lb) rfl hFg eg hseq walksK_t walksK_b hB0 (fun _=>rfl)
  (MidI w) (fun _ _ _=>False) (midI_own w _ (by simp)) (fun _ _ _ _ _ hs _ _=>hs)
  ⟨⟨_,bO,World.ownsRow_nil _ _ _ _,by simp⟩,hB0⟩
  (MidAx w (.func (.func gf) #[] lb)) (fun x a'=>midAx_own w _ _ x a') ?assign ?body ?done ?stop
 case assign=>
  rintro l pre x W K ⟨⟨v,hv,hrow,hnil⟩,hB⟩ hK;have hsz:=hB.size;unfold Ent.val
  gi_wp2
  refine hK _ _ ((KeepsOthers.alloc _ _).from _) (KeepsWalks.alloc _ _) ⟨⟨v,hv.alloc _,hrow.alloc _,hnil⟩,hB.alloc hB.size _⟩ ⟨W.heap.size,hv.lt,World.alloc_heap_new W _,rfl⟩
 case body=>
  rintro l pre x a' W hl ⟨r,hr⟩ ⟨⟨v,hv,hrow,hnil⟩,hB⟩ ⟨Bx,hBx,bX,rfl⟩ hlt;have hc:=hv.cell
  have c0:W.cell? ⟨Bx,0,none⟩=some (.string x.path):=by unfold Box at bX;simp[World.cell?,bX]
  have c1:W.cell? ⟨Bx,1,none⟩=some (.int .u64 x.num):=by unfold Box at bX;simp[World.cell?,bX]
  have c2:W.cell? ⟨Bx,2,none⟩=some (.string x.foot):=by unfold Box at bX;simp[World.cell?,bX]
  have c3:W.cell? ⟨Bx,3,none⟩=some (.int .i64 x.mode):=by unfold Box at bX;simp[World.cell?,bX]
  have c4:W.cell? ⟨Bx,4,none⟩=some (.int .u64 x.n):=by unfold Box at bX;simp[World.cell?,bX]
  have c5:W.cell? ⟨Bx,5,none⟩=some (.int .i64 x.stamp):=by unfold Box at bX;simp[World.cell?,bX]
  have hsz:=hB.size
  gi_wp2_with (gi_at_builtin;refine wpListIn_append_own _ rfl _ _ 94 rfl w.heap.size 97 i0 (.agg #[.string .empty,.int .u64 0,.string .empty,.int .i64 0,.int .u64 0,.int .i64 0]) 6 64 Tryz.underlying94 hi hz0 hz1 hz2 rfl (by decide) _ _ _ rfl (hrow.alloc _) ⟨W.heap.size,0,none⟩ 1 1 [.string x.path,.int .u64 x.num,.string x.foot,.int .i64 x.mode,.int .u64 x.n,.int .i64 x.stamp] rfl rfl (ZnP _ _ _ _ _ _ _ _) (by simp[Value.oneCell']) (by unfold maxLen;omega) (by omega) (by simp;omega) ?_;intro v' w1 hown' hgrow _;obtain⟨g',cap',rfl⟩:=ownsRow_succ hown';obtain⟨hv1,hv2,hr2,hk2,hb2⟩:=hv.appended (by decide) hrow hB.size (Nat.le_refl _) hown' hgrow;have hc1:=hv1.cell;have hf1:=hv1.frozen)
  exact⟨hk2.from _,hk2.walks,⟨_,hv2,by simpa [Ent.cells] using hr2,by simp⟩,hB.trans hb2⟩
 case done=>
  rintro D ys W hD hS ⟨⟨v,hv,hrow,hnil⟩,hB⟩ hK;have hc:=hv.cell
  gi_wp2
  refine⟨by simp,.inl ⟨_,_,rfl,run_takeDeferred hK,?_⟩⟩;exact⟨_,results_tmp rfl _ _ _,v,ys,rfl,hS,ownsRow_putObj hrow _ hK rfl,hnil,hB.trans (belowK_b (w:=w) (Nat.le_refl _) W D _ _ (by simp at hD;omega) hK rfl rfl)⟩
 case stop=>
  rintro D c pre W _ _ h _;exact h.elim
theorem collect_in (F:Fence) (n:Nat) (hF:F.fn 120) (hF2:F.fn 171) (hro:F.round=none) (hn:4≤n) (gf:Nat) (lb:Array Value) (hFg:F.fn gf) (eg:∀args w,(callFunc gf args).run Tryz.prog w=.ok (.enter gf args) w)
 (S Sp:List (Ent)→Prop) (N:Nat) (hN:N≤100000000) (w:World) (hseq:SeqStopsK F (n - 1 - 1) Tryz.prog gf lb (fun x:Ent=> #[x.val]) KeepsWalks S Sp N w):
 CallsIn F n Tryz.prog 120 #[.func (.func gf) #[] lb] w fun e w'=>∃(v:Value) (ss:List (Ent)),e=.returned v∧S ss∧w'.ownsRow w.heap.size 97 6 v ss.length (ss.flatMap Ent.cells)∧(v=.slice none 0 0↔ss=[])∧Below w.heap.size w w':=by
 have h1:1≤n:=by omega
 refine callsIn_of_wp Tryz.func120 rfl hF ?_ hro;simp only[Tryz.ntmps120,List.size_toArray,List.length_cons,List.length_nil,Nat.reduceAdd,Nat.reduceSub,Array.replicate_succ,Array.replicate_zero,List.push_toArray,List.append_toArray,List.nil_append,List.cons_append]
 gi_wp2_with (gi_at_call 171;refine(appendSeq_in F (n - 1) hF2 hro (by omega) gf lb hFg eg S Sp N hN _ hseq).mono ?_;rintro e W ⟨v,ss,rfl,hS,hrow,hnil,hb⟩)
 go_ret;exact⟨v,ss,rfl,hS,hrow,hnil,hb⟩
theorem Zhk (Bm b:Nat) (es:List (Value × Value)) (ks:List (Ent)) (hes:es.map (·.2)=ks.map Ent.val) (w:World) (hBm:Bm < w.heap.size) (hm:w.cell? ⟨Bm,0,none⟩=some (.map (some b))) (hM:MapAt Tryz.prog 203 w b es) (hN:ks.length≤100000000):
 Calls Tryz.prog 120 #[.func (.func 172) #[] #[.pointer (some ⟨Bm,0,none⟩)]] w fun e w'=>∃(v:Value) (ss:List (Ent)),e=.returned v∧ss.Perm ks∧w'.ownsRow w.heap.size 97 6 v ss.length (ss.flatMap Ent.cells)∧(v=.slice none 0 0↔ss=[])∧Below w.heap.size w w':=
 callsIn_wide.1 (collect_in Fence.wide 5 trivial trivial rfl (by omega) _ _ trivial (enters_of Tryz.func172 (by kernel_rfl) rfl) _ _ ks.length hN w
  (Zjb Fence.wide _ trivial rfl (by omega) Bm b es ks hes w hBm hm hM))
end Lock
end
section
section
def resW {α:Type}:Result α→World
 |.ok _ w=>w
 |.halt _ w=>w
theorem ZeO {α:Type}:∀(x:Ask α) (w:World),w.drawn≤(w.ask x).2.drawn
 |.done a,w=>Nat.le_refl _
 |.ask what range k,w=>by
  unfold World.ask;simp only[]
  split
  · exact ZeO _ _
  exact Nat.le_trans (Nat.le_succ _) (ZeO _ {w with drawn:=w.drawn + 1})
theorem Zgy (w:World) (c:Sys):w.drawn≤(w.sys c).2.drawn:=by
 unfold World.sys;have h:=ZeO (Kernel.perform c w.os) w
 split
 · exact Nat.le_refl _
 rename_i he
 rw[he] at h;exact h
theorem Zeb {p:Program} {w:World} {at_:Addr} {u:TypeId} {k:Addr} {v:Value} {atomic:Bool} {r:World × List Addr} (h:w.viewStore p at_ u k v atomic=.ok r):r.1.drawn=w.drawn:=by
 unfold World.viewStore at h;simp only[bind,Except.bind,pure,Except.pure,throw,throwThe,MonadExceptOf.throw] at h
 repeat' first
  |(cases h;done)
  |(cases h;rfl)
  |(simp at h;done)
  |split at h
theorem ZeY {p:Program} {w:World} {a:Addr} {v:Value} {atomic:Bool} {r:World × List Addr} (h:w.farStore p a v atomic=.ok r):r.1.drawn=w.drawn:=by
 unfold World.farStore at h
 split at h
 · split at h
   · rename_i hv
     cases h;exact Zeb hv
   exact nomatch h
 exact nomatch h
theorem ZgF {α:Type} (p:Program) (x:Sem α):∀w:World,w.drawn≤(resW (x.run p w)).drawn:=by
 induction x with
 |pure a=>exact fun w=>Nat.le_refl _
 |load m a k ih=>
  intro w;simp only[Sem.run]
  split
  · exact ih _ _
  split
  · exact ih _ _
  exact Nat.le_refl _
 |store m a v k ih=>
  intro w;cases v
  all_goals
   simp only[Sem.run]
   try exact Nat.le_refl _
  all_goals
   split
   · split
     · exact Nat.le_refl _
     exact ih (w.setCell a _)
   split
   · rename_i hf
     exact Nat.le_trans (Nat.le_of_eq (ZeY hf).symm) (ih _)
   exact Nat.le_refl _
 |new o k ih=>intro w;exact ih _ {w with heap:=w.heap.push o}
 |shape r k ih=>intro w;exact ih _ _
 |freeze a n k ih=>
  intro w;refine Nat.le_trans (Nat.le_of_eq ?_) (ih (w.freeze a n));unfold World.freeze
  split<;>rfl
 |frozen a k ih=>intro w;exact ih _ _
 |getObj r k ih=>
  intro w;simp only[Sem.run]
  split
  · exact Nat.le_refl _
  · exact ih _ _
  exact Nat.le_refl _
 |setObj r o k ih=>
  intro w;simp only[Sem.run]
  split
  · exact Nat.le_refl _
  · exact ih {w with heap:=w.heap.setIfInBounds r o}
  exact Nat.le_refl _
 |choose q k ih=>
  intro w;simp only[Sem.run]
  split
  · exact ih _ _
  exact Nat.le_trans (Nat.le_succ _) (ih _ {w with drawn:=w.drawn + 1})
 |sys c k ih=>intro w;exact Nat.le_trans (Zgy w c) (ih _ _)
 |program k ih=>intro w;exact ih _ _
 |mark m k ih=>intro w;exact ih _
 |halt h=>exact fun w=>Nat.le_refl _
theorem ZaL {α:Type} {p:Program} {x:Sem α} {w w':World} {a:α} (h:x.run p w=.ok a w'):w.drawn≤w'.drawn:=by
 have:=ZgF p x w;rw[h] at this;exact this
theorem Zay {α:Type} {p:Program} {x:Sem α} {w w':World} {a:Halt} (h:x.run p w=.halt a w'):w.drawn≤w'.drawn:=by
 have:=ZgF p x w;rw[h] at this;exact this
theorem ZnR {α:Type} {p:Program} {x:Sem α} {w w':World} {a:α} {es es':Array Event} (h:x.runT p w es=(.ok a w',es')):w.drawn≤w'.drawn:=
 ZaL (p:=p) (x:=x) (by rw[←Sem.runT_fst p x w es,h])
theorem Zeo {α:Type} {p:Program} {x:Sem α} {w w':World} {a:Halt} {es es':Array Event} (h:x.runT p w es=(.halt a w',es')):w.drawn≤w'.drawn:=
 Zay (p:=p) (x:=x) (by rw[←Sem.runT_fst p x w es,h])
def gw:GStep→World
 |.go _ w _=>w
 |.comm _ _ _ _ w _=>w
 |.spawn _ _ w _=>w
 |.count _ w _=>w
 |.timer _ _ w _=>w
 |.alone _ _ w _=>w
 |.newcoro _ _ _ w _=>w
 |.coroswitch _ _ _ w _=>w
 |.collect _ w _=>w
 |.watch _ w _=>w
 |.ended _ w _=>w
theorem Zbn (es:Array Event) (s:GStep):gw (GStep.after es s)=gw s:=by cases s<;>rfl
theorem Zew {c:Prop} [Decidable c] {a b:GStep} {n:Nat} (h1:n≤(gw a).drawn) (h2:n≤(gw b).drawn):n≤(gw (if c then a else b)).drawn:=by split<;>assumption
theorem Zgf (w:World) (fd:Nat) (text:ByteArray) (o:Outcome):w.drawn≤(gw (endWith w fd text o)).drawn:=by
 unfold endWith;have h:=Zgy w (.write fd text);simp only[]
 split
 · rename_i he
   rw[he] at h
   split<;>exact h
 · rename_i he
   rw[he] at h;exact h
 rename_i he
 rw[he] at h;exact h
theorem Zh7 (fr:Frame) (a:List ByteArray) (m:String) (wh:Bool) (w:World):gw (dieOf fr a m wh w)=w:=rfl
theorem Zba (fr:Frame) (m:String) (w:World):gw (endThrow fr m w)=w:=rfl
theorem ZbY (p:Program) (fr:Frame) (v:Value) (w:World):gw (endPrinting p fr v w)=w:=by
 unfold endPrinting;simp only[]
 split
 · exact Zba _ _ _
 rfl
theorem ZcJ (p:Program) (fr:Frame) (cs:List Frame) (d:Option Dying) (m:String) (w:World):w.drawn≤(gw (endFatal p fr cs d m w)).drawn:=by
 unfold endFatal;simp only[]
 split
 · rename_i h;rw[Zh7];exact ZaL h
 · rename_i h;exact Zay h
 rename_i h;exact Zay h
theorem Zfs (p:Program) (fr:Frame) (d:Dying) (f:Fatal) (w:World):w.drawn≤(gw (writeOn p fr d f w)).drawn:=by
 unfold writeOn;simp only[]
 split
 · exact Nat.le_refl _
 split
 · rename_i h;exact ZnR h
 · rename_i h;exact Zeo h
 · rename_i h;exact Zeo h
 rename_i h;exact Zeo h
theorem Zla (p:Program) (fr:Frame) (d:Dying) (w:World):w.drawn≤(gw (die p fr d w)).drawn:=by
 unfold die
 split
 · exact Zfs _ _ _ _ _
 split
 · split
   · exact Nat.le_refl _
   exact Zgf _ _ _ _
 simp only[]
 split
 · exact Nat.le_refl _
 · split
   · rename_i h;exact ZaL h
   rename_i h;exact Zay h
 · rw[Zbn]
   simp only[Sem.runT_fst]
   split
   all_goals first
    |exact Nat.le_refl _
    |(rename_i h;exact ZaL h)
    |(rename_i h;exact Zay h)
    |(rename_i h;rw[ZbY];exact Zay h)
 exact Nat.le_refl _
theorem Zbb (p:Program) (main:Bool) (fr:Frame) (cs:List Frame) (d:Option Dying) (v:Value) (w:World):gw (doReturn p main fr cs d v w)=w:=by
 unfold doReturn
 repeat' first
  |rfl
  |split
  |simp only[]
theorem Zdd (p:Program) (fr:Frame) (cs:List Frame) (dy:Option Dying) (d:Deferred) (w:World):w.drawn≤(gw (callDeferred p fr cs dy d w)).drawn:=by
 unfold callDeferred;refine Zew (Nat.le_refl _) ?_;simp only[];rw[Zbn];simp only[Sem.runT_fst]
 split
 all_goals first
  |(rename_i h;exact ZaL h)
  |(rename_i h;exact Zay h)
  |(rename_i h;exact Nat.le_trans (Zay h) (ZcJ _ _ _ _ _ _))
  |(rename_i h;rw[Zba];exact Zay h)
  |(rename_i h;split<;>exact ZaL h)
theorem Zgr (p:Program) (main:Bool) (fr:Frame) (cs:List Frame) (dy:Option Dying) (w:World):w.drawn≤(gw (unwind p main fr cs dy w)).drawn:=by
 unfold unwind
 split
 · simp only[]
   rw[Zbn];simp only[Sem.runT_fst]
   split
   · rename_i h;exact ZaL h
   rename_i h;exact Zay h
 · exact Zdd _ _ _ _ _ _
 split
 · exact Nat.le_refl _
 · split
   · exact Nat.le_refl _
   split
   · exact Nat.le_refl _
   split
   · split
     · exact Nat.le_refl _
     split
     all_goals(rename_i h;first|exact ZaL h|exact Zay h)
   split
   · rw[ZbY];exact Nat.le_refl _
   exact Nat.le_refl _
 split
 · rw[Zbb];exact Nat.le_refl _
 simp only[];rw[Zbn];simp only[Sem.runT_fst]
 split
 · rename_i h;rw[Zbb];exact ZaL h
 · rename_i h;exact Zay h
 rename_i h;exact Zay h
theorem Zh5 (p:Program) (fr:Frame) (cs:List Frame) (dy:Option Dying) (g:Nat) (w:World):w.drawn≤(gw (early p fr cs dy g w)).drawn:=by
 have key:∀w1:World,w.drawn≤w1.drawn→w.drawn≤(gw (match w1.heap[g]? with
  |some (.pending c elem)=>GStep.go {frame:=fr,callers:=cs,status:=.running,dying:=dy} {w1 with heap:=w1.heap.setIfInBounds g (.cells c elem)}
  |_=>.ended (.stuck "early: the variable does not wait" (fr.pos p)) w1)).drawn:=by
  intro w1 h
  split<;>exact h
 unfold early;simp only[]
 split
 · exact key w (Nat.le_refl _)
 split
 · exact Nat.le_refl _
 split
 · exact key w (Nat.le_refl _)
 split
 · exact key w (Nat.le_refl _)
 split
 · exact Nat.le_refl _
 · exact Nat.le_refl _
 · exact Nat.le_refl _
 · exact key w (Nat.le_refl _)
 split
 · exact Nat.le_refl _
 split
 · exact key w (Nat.le_refl _)
 split
 · rename_i h;exact key _ (ZaL h)
 · rename_i h;exact ZaL h
 rename_i h;exact Zay h
theorem ZbI (p:Program) (listen:Bool) (fr:Frame) (cs:List Frame) (dy:Option Dying) (x:Sem Next) (w:World):w.drawn≤(gw (stepG.apply p listen fr cs dy x w)).drawn:=by
 unfold stepG.apply;simp only[];rw[Zbn]
 have hr:∀r es,(if listen=true then x.runT p w #[] else(x.run p w,#[]))=(r,es)→x.run p w=r:=by
  intro r es h
  split at h
  · rw[←Sem.runT_fst p x w #[],h]
  exact congrArg Prod.fst h
 generalize hq:(if listen=true then x.runT p w #[] else(x.run p w,#[]))=q at *
 obtain⟨r,es⟩:=q;have h0:=hr r es rfl;clear hr hq;simp only[]
 split
 all_goals first
  |(subst_vars;exact ZaL ‹_›)
  |(exact ZaL h0)
  |(exact Zay h0)
  |(exact Nat.le_trans (Zay h0) (ZcJ _ _ _ _ _ _))
  |(exact Nat.le_trans (Zay h0) (Zh5 _ _ _ _ _ _))
  |(rw[Zba];exact Zay h0)
  |(refine Zew ?_ (ZaL h0);rw[Zba];exact ZaL h0)
  |(split<;>first|exact ZaL h0|(rw[Zba];exact ZaL h0))
theorem Zjq (p:Program) (listen:Bool) (fr:Frame) (cs:List Frame) (dy:Option Dying) (w:World):w.drawn≤(gw (stepG.oper p listen fr cs dy w)).drawn:=by
 unfold stepG.oper
 split
 · exact Nat.le_refl _
 split
 · exact ZbI _ _ _ _ _ _ _
 exact ZbI _ _ _ _ _ _ _
theorem ZjC (p:Program) (main listen:Bool) (fr:Frame) (cs:List Frame) (dy:Option Dying) (w:World):w.drawn≤(gw (stepG.exec p main listen fr cs dy w)).drawn:=by
 unfold stepG.exec;simp only[]
 split
 all_goals first
  |exact Nat.le_refl _
  |exact ZbI _ _ _ _ _ _ _
  |(split;exact Zew (Nat.le_refl _) (Nat.le_refl _);(rw[Zbn];simp only[Sem.runT_fst];split;(rename_i h;rw[Zbb];exact ZaL h);(rename_i h;exact Zay h)))
  |(split<;>exact Nat.le_refl _)
  |(generalize exitTo _ _=o;cases o;(simp only[Option.elim_none];(split;exact Zew (Nat.le_refl _) (Nat.le_refl _);(rw[Zbn];simp only[Sem.runT_fst];split;(rename_i h;rw[Zbb];exact ZaL h);(rename_i h;exact Zay h))));exact Nat.le_refl _)
  |(generalize gotoIn _ _=o;cases o;(simp only[Option.elim_none];(split;exact Zew (Nat.le_refl _) (Nat.le_refl _);(rw[Zbn];simp only[Sem.runT_fst];split;(rename_i h;rw[Zbb];exact ZaL h);(rename_i h;exact Zay h))));exact Nat.le_refl _)
  |(generalize Extern.next _=o;cases o;exact Nat.le_refl _;exact ZbI _ _ _ _ _ _ _)
  |(refine Zew (Zjq _ _ _ _ _ _) (Nat.le_refl _))
  |(refine Zew (Nat.le_refl _) ?_;split;(rename_i h;exact ZaL h);(rename_i h;exact Zay h))
  |(rw[Zbn];simp only[Sem.runT_fst];split;(rename_i h;exact Nat.le_trans (ZaL h) (ZbI _ _ _ _ _ _ _));(rename_i h;exact Zay h))
  |(rw[Zbn];simp only[Sem.runT_fst];split;(rename_i h;exact ZaL h);(rename_i h;exact Zay h);(rename_i h;exact Zay h))
theorem ZhA (p:Program) (main:Bool) (g:Goroutine) (w:World) (listen:Bool):w.drawn≤(gw (stepG p main g w listen)).drawn:=by
 unfold stepG;simp only[]
 split
 · exact Zla _ _ _ _
 · exact ZjC _ _ _ _ _ _ _
 exact Zgr _ _ _ _ _ _
theorem Zdv (p:Program) (rest:Rest) (gs:Array Goroutine) (i:Nat) (g:Goroutine) (cases:Array CommCase) (blocking:Bool)
 (shape:CommShape) (w:World) (m':Machine) (h:(communicate p rest gs i g cases blocking shape w).1=.next m'):w.drawn≤m'.world.drawn:=by
 have wa:∀w1,waitingAt rest cases w=some w1→w1.drawn=w.drawn:=by
  intro w1 hw;unfold waitingAt at hw
  split at hw
  · split at hw
    · cases hw;rfl
    cases hw
  cases hw;rfl
 unfold communicate at h;simp only[] at h
 split at h
 · simp at h
 split at h
 · split at h
   · split at h
     · simp only[Stepped.next.injEq] at h;subst h;exact Nat.le_of_eq (wa _ ‹_›).symm
     simp at h
   simp only[Stepped.next.injEq] at h;subst h;exact Nat.le_refl _
 generalize hq:Sem.run p _ w=q at h
 cases q with
 |halt a w1=>simp at h
 |ok a w1=>
  obtain⟨k,c,way⟩:=a;have h1:=ZaL hq;clear hq;simp only[] at h
  repeat' first
   |(simp at h;done)
   |(simp only[Stepped.next.injEq] at h;subst h;exact h1)
   |(simp only[Stepped.next.injEq] at h;subst h;exact Nat.le_trans h1 (ZaL ‹_›))
   |(simp only[Stepped.next.injEq] at h;subst h;exact Nat.le_trans h1 (Zay ‹_›))
   |(generalize hq:Sem.run p (choose _) _=q at h;cases q;(have h2:=Nat.le_trans h1 (ZaL hq);clear hq;simp only[Stepped.next.injEq] at h;subst h;exact h2);(simp at h;done))
   |split at h
theorem Zfa (p:Program) (gs:Array Goroutine) (rest:Rest) (w:World) (m':Machine) (h:look p gs rest w=.next m'):w.drawn≤m'.world.drawn:=by
 unfold look at h;simp only[] at h
 split at h
 · split at h
   · simp at h
   split at h
   · simp at h
   generalize hq:Sem.run p _ w=q at h
   cases q with
   |halt a w1=>
    clear hq
    cases a<;>simp at h
   |ok a w1=>
    obtain⟨f,c⟩:=a;have h1:=ZaL hq;clear hq;simp only[Stepped.next.injEq] at h;subst h;exact h1
 simp at h
theorem ZfH (m m':Machine) (op:TimerOp) (v:Value) (h:timerOp m op=.ok (v,m')):m'.world.drawn=m.world.drawn:=by
 have op_:∀var m1,timerOp.opened m var=some m1→m1.world.drawn=m.world.drawn:=by
  intro var m1 ho;unfold timerOp.opened at ho
  split at ho
  · split at ho
    · cases ho;rfl
    cases ho
  cases ho;rfl
 have rt:∀(m1:Machine) k t a b,(retime m1 k t a b).2.world.drawn=m1.world.drawn:=by
  intro m1 k t a b;unfold retime;simp only[]
  split
  · unfold drain
    split<;>rfl
  rfl
 have nm:∀(m1:Machine) var f (r:Value × Machine),(∀k t,(f k t).2.world.drawn=m1.world.drawn)→timerOp.named m1 var f=.ok r→r.2.world.drawn=m1.world.drawn:=by
  intro m1 var f r hf hr;unfold timerOp.named at hr
  split at hr
  · cases hr;exact hf _ _
  cases hr
 unfold timerOp at h
 repeat' first
  |(simp at h;done)
  |(simp only[Except.ok.injEq,Prod.mk.injEq] at h;obtain⟨_,rfl⟩:=h;rfl)
  |(exact nm _ _ _ (v,m') (fun _ _=>rt _ _ _ _ _) h)
  |(rename_i ho;exact nm _ _ _ (v,m') (fun _ _=>(rt _ _ _ _ _).trans (op_ _ _ ho)) h)
  |split at h
theorem Zjk (p:Program) (m m':Machine) (i:Nat) (b:Bool) (h:(runT p m i b).1=.next m'):m.world.drawn≤m'.world.drawn:=by
 simp only[runT] at h;have hs:=ZhA p (i==0) (m.gs.swapAt! i {(default:Goroutine) with status:=.finished}).1 m.world b
 revert hs h
 generalize m.gs.swapAt! _ _=gg;generalize stepG p _ gg.1 m.world b=s;intro h hs
 cases s<;>simp only[gw] at h hs
 all_goals first
  |(simp at h;done)
  |(exact Nat.le_trans hs (Zdv _ _ _ _ _ _ _ _ _ _ h))
  |(exact Nat.le_trans hs (Zfa _ _ _ _ _ h))
  |(simp only[Stepped.next.injEq] at h;subst h;exact hs)
  |(repeat' first
     |(simp at h;done)
     |(simp only[Stepped.next.injEq] at h;subst h;exact hs)
     |(simp only[Stepped.next.injEq] at h;subst h;exact Nat.le_trans hs (Nat.le_of_eq (ZfH _ _ _ _ ‹_›).symm))
     |(rename_i he;unfold endThrow dieOf at he;simp only[GStep.go.injEq] at he;obtain⟨_,rfl,_⟩:=he;simp only[Stepped.next.injEq] at h;subst h;exact hs)
     |split at h)
theorem ZhE (p:Program) (m m':Machine) (k:Nat) (h:serve p m k=.next m'):m'.world.drawn=m.world.drawn:=by
 unfold serve at h;simp only[] at h
 repeat' first
  |(simp at h;done)
  |(simp only[Stepped.next.injEq] at h;subst h;rfl)
  |split at h
def mvW:Move→Option World
 |.goroutine m _=>some m.world
 |.machine (.next m) _=>some m.world
 |.machine (.ended _ _) _=>none
theorem Zcb (p:Program) (m:Machine) (w':World) (h:mvW (askOn p m)=some w'):m.world.drawn≤w'.drawn:=by
 unfold askOn at h;simp only[] at h;generalize hq:Sem.run p _ m.world=q at h
 cases q with
 |halt a w1=>simp[mvW] at h
 |ok k w1=>
  have h1:m.world.drawn≤w1.drawn:=ZaL hq;clear hq
  have pick:∀(m1:Machine) (rs:List Nat) (w2:World),m.world.drawn≤m1.world.drawn→mvW (match(choose (.sched rs.length)).run p m1.world with
   |.halt _ w=>Move.machine (.ended (.stuck "sched" "") w)
   |.ok k world=>
    if rs.length≤1 then .goroutine {m1 with world} (rs.getD k 0) else
    match(choose (.extern "sched.slice" 65536)).run p world with
    |.halt _ w=>.machine (.ended (.stuck "sched.slice" "") w)
    |.ok n world=>.goroutine {m1 with world,rest:={m1.rest with slice:=if n=0 then none else some (rs.getD k 0,n)}} (rs.getD k 0))=some w2→m.world.drawn≤w2.drawn:=by
   intro m1 rs w2 h0 hm;generalize hr:Sem.run p (choose (.sched rs.length)) m1.world=r at hm
   cases r with
   |halt a w3=>simp[mvW] at hm
   |ok k w3=>
    have h2:=ZaL hr;simp only[] at hm
    split at hm
    · simp only[mvW,Option.some.injEq] at hm;subst hm;exact Nat.le_trans h0 h2
    generalize hs:Sem.run p (choose (.extern "sched.slice" 65536)) w3=r at hm
    cases r with
    |halt a w4=>simp[mvW] at hm
    |ok n w4=>
     have h3:=ZaL hs;simp only[mvW,Option.some.injEq] at hm;subst hm;exact Nat.le_trans h0 (Nat.le_trans h2 h3)
  dsimp only at h
  split at h
  · generalize hs:serve p _ _=s at h
    cases s with
    |next m2=>
     simp only[mvW,Option.some.injEq] at h;subst h;rw[ZhE _ _ _ _ hs];exact h1
    |ended o w2=>simp[mvW] at h
  split at h
  · split at h
    · simp only[mvW,Option.some.injEq] at h;subst h;exact h1
    split at h
    · simp only[mvW,Option.some.injEq] at h;subst h;exact h1
    split at h<;>simp[mvW] at h
  split at h
  · exact pick {m with world:=w1} (runnable m.gs m.world.os.mono) _ h1 h
  generalize hs:Sem.run p (choose (.extern "clock.wait" _)) w1=s at h
  cases s with
  |halt a w2=>simp[mvW] at h
  |ok k w2=>
   have h2:=ZaL hs
   rcases k with _|_|k
   · exact pick {m with world:=w2} _ _ (Nat.le_trans h1 h2) h
   · simp only[mvW,Option.some.injEq] at h;subst h;exact Nat.le_trans h1 h2
   exact pick (Machine.advanceTo {m with world:=w2} _) _ _ (Nat.le_trans h1 h2) h
theorem Zfq (p:Program) (m:Machine) (w':World) (h:mvW (ask p m)=some w'):m.world.drawn≤w'.drawn:=by
 unfold ask at h
 split at h
 · generalize hs:Sem.run p (choose (.extern "collector.look" 2)) m.world=s at h
   cases s with
   |halt a w2=>simp[mvW] at h
   |ok k w2=>
    have h2:=ZaL hs
    rcases k with _|_|k
    · exact Nat.le_trans h2 (Zcb p {m with world:=w2} w' h)
    · simp only[] at h
      generalize hl:look p m.gs m.rest w2=l at h
      cases l with
      |next m2=>exact Nat.le_trans h2 (Nat.le_trans (Zfa _ _ _ _ _ hl) (Zcb p m2 w' h))
      |ended o w3=>simp[mvW] at h
    exact Nat.le_trans h2 (Zcb p {m with world:=w2} w' h)
 exact Zcb p m w' h
theorem Ze9 (p:Program) (m:Machine) (w':World) (h:mvW (move p m)=some w'):m.world.drawn≤w'.drawn:=by
 unfold move at h
 split at h
 · split at h
   · simp only[mvW,Option.some.injEq] at h;subst h;exact Nat.le_refl _
   simp[mvW] at h
 split at h
 · split at h
   · simp only[mvW,Option.some.injEq] at h;subst h;exact Nat.le_refl _
   exact Zfq p {m with rest:={m.rest with slice:=none}} w' h
 exact Zfq p m w' h
theorem Zjf (p:Program) (m m':Machine) (h:step p m=.next m'):m.world.drawn≤m'.world.drawn:=by
 unfold step stepT at h
 split at h
 · rename_i m1 i hm
   exact Nat.le_trans (Ze9 p m m1.world (by rw[hm];rfl)) (Zjk _ _ _ _ _ h)
 rename_i s ops hm
 simp only[] at h;subst h;exact Ze9 p m m'.world (by rw[hm];rfl)
theorem Zed {p:Program} {m m':Machine} (h:Steps p m m'):m.world.drawn≤m'.world.drawn:=by
 obtain⟨n,hn⟩:=h
 induction n generalizing m with
 |zero=>simp[runN] at hn;rw[hn];exact Nat.le_refl _
 |succ n ih=>
  rw[runN] at hn
  split at hn
  · rename_i m1 h1
    exact Nat.le_trans (Zjf p m m1 h1) (ih hn)
  rename_i hno
  exact(hno _ hn).elim
theorem Zig {p:Program} {f:FuncId} {args:Array Value} {w:World} {R:Ending→World→Prop} (h:Calls p f args w R) (ho:∀w',¬R .outgrown w'):Calls p f args w fun e w'=>R e w'∧w.drawn≤w'.drawn:=by
 intro cs;obtain⟨e,w',fr,r,c,x⟩:=h cs;refine⟨e,w',fr,⟨r,?_⟩,c,x⟩
 cases e with
 |returned v=>exact Zed c
 |panicked ch=>exact Zed c
 |outgrown=>exact absurd r (ho w')
end
end
section
namespace Path
open Go.RowKit
open Go.Sort (grow)
open Go.Lib (compareBytes)
theorem ZmZ {w w':World} (h:Ext w w') (hd:w.drawn≤w'.drawn):∃q os',w'=grow (w.drewN q) os':=by
 obtain⟨p,hp⟩:=regrown_of_below h;refine⟨p.d - w.drawn,p.os,?_⟩
 have e:w'.drawn=p.d:=by rw[hp];rfl
 rw[hp]
 congr 1
 unfold World.drewN redrawn
 congr 1
 omega
theorem Zfo {P:Program} {f:FuncId} {args:Array Value} {w:World} {v:Value} (h:Calls P f args w fun e w'=>e=.returned v∧Ext w w'):Calls P f args w fun e w'=>e=.returned v∧∃q os',w'=grow (w.drewN q) os':=
 (Zig h (fun w' hr=>by cases hr.1)).mono fun e w' ⟨⟨he,hx⟩,hd⟩=>⟨he,ZmZ hx hd⟩
theorem Zhz (p q:ByteArray) (w:World):Calls Tryz.prog 68 #[.string p,.string q] w fun e w'=>e=.returned (.int .i64 (compareBytes (bl p) (bl q)))∧w=w':=
 (Tryz.strings_Compare p q w).mono fun _ _ ⟨he,hw⟩=>⟨he,hw.symm⟩
theorem ZdM (p q:ByteArray) (w:World) (hp:p.size≤1000) (hq:q.size≤1000):Calls Tryz.prog 124 #[.string p,.string q] w fun e w'=>e=.returned (.int .i64 (cmpP (bl p) (bl q)))∧Ext w w':=by
 have hA:=At.start (w0:=w) (L0:=[]) trivial;have hF:=hA.facts
 go_enter Tryz.func124,Tryz.ntmps124
 go_wp2_with fail
 refine(ZgN p w (by omega)).mono ?_;rintro e w1 ⟨v,ws,rfl,hw1,hT⟩;replace hA:=hA.call0 hT;clear hF hT;simp only[List.append_nil] at hA;obtain⟨ax,kn,cap,hv0,hkn⟩:=hA.row_hid (v:=v) (xs:=flatS ws) sR;subst hv0;obtain⟨hA,hF⟩:=fZ hA
 go_wp2_with fail
 refine(ZgN q w1 (by omega)).mono ?_;rintro e w2 ⟨u,us,rfl,hw2,hT⟩;replace hA:=hA.call0 hT;clear hF hT;simp only[uA] at hA;obtain⟨bx,km,cbp,hu0,hkm⟩:=hA.row_hid (v:=u) (xs:=flatS us) sR;subst hu0;obtain⟨hA,hF⟩:=fZ hA;have ek:=hkn.out;have em:=hkm.out;have hx:Ext w w2:=hA.toExt
 have hl1:ws.length=(ZbD (bl p)).length:=by rw[←hw1];simp
 have hl2:us.length=(ZbD (bl q)).length:=by rw[←hw2];simp
 by_cases hr:Zad (bl p)=true∧Zad (bl q)=true
 · have e1:ZbD (bl p)=Zag (bl p):=by simp[ZbD,hr.1]
   have e2:ZbD (bl q)=Zag (bl q):=by simp[ZbD,hr.2]
   have hc:cmpP (bl p) (bl q)=cmpL (ws.map bl) (us.map bl):=by rw[hw1,hw2,e1,e2];simp[cmpP,hr]
   have n1:=Zbk (bl p);have n2:=Zbk (bl q);have m1:=ZaZ (bl p);have m2:=ZaZ (bl q)
   have z1:(bl p).length=p.size:=by simp
   have z2:(bl q).length=q.size:=by simp
   rw[e1] at hl1;rw[e2] at hl2;obtain rfl:kn=ws.length:=ek;obtain rfl:km=us.length:=em;obtain⟨g1,c1,rfl,_,_,hcl1,hct1,hB⟩:=hA.row_open (ax:=ax) (cap:=cap) (n:=ws.length) (xs:=flatS ws) sR (by omega);obtain⟨g2,c2,rfl,_,_,hcl2,hct2,hB2⟩:=hB.row_open (ax:=bx) (cap:=cbp) (n:=us.length) (xs:=flatS us) sR (by omega)
   have x1:∀(j:Nat) x,ws[j]? =some x→w2.cell? ⟨g1,j,none⟩=some (.string x):=fun j x hx=>((hB2.get (A:=Part.cells g1 c1 9) sR:Zab w2 g1 c1 _).cell j).trans (ZcA hct1 hx)
   have x2:∀(j:Nat) x,us[j]? =some x→w2.cell? ⟨g2,j,none⟩=some (.string x):=fun j x hx=>((hB2.get (A:=Part.cells g2 c2 9) sR:Zab w2 g2 c2 _).cell j).trans (ZcA hct2 hx)
   have hcs:=Zhj (c1:=cap) (c2:=cbp) x1 x2 (by omega) (by omega)
   have l1:0 < ws.length:=by omega
   have l2:0 < us.length:=by omega
   have n1':((ws.length:Int)==0)=false:=beq_eq_false_iff_ne.2 (by omega);have n2':((us.length:Int)==0)=false:=beq_eq_false_iff_ne.2 (by omega);have hc':=Hd hc;clear hc hA hB hB2 hF x1 x2 hct1 hct2 hcl1 hcl2 hw1 hw2 hl1 hl2 n1 n2 m1 m2 z1 z2 e1 e2 hr hkn hkm
   go_wp2_with fail
   refine hcs.mono ?_;clear hcs;rintro e _ ⟨rfl,rfl⟩
   go_wp2_with fail
   go_ret;exact⟨by rw[hc'.out];rfl,hx⟩
 have hc:cmpP (bl p) (bl q)=compareBytes (bl p) (bl q):=by simp[cmpP,hr]
 have hc':=Hd hc;have hst:=Zhz p q w2;clear hc hA hF hw1 hw2
 by_cases h1:ws.length=0
 · obtain rfl:kn=0:=ek.trans h1
   clear ek em hl1 hl2 h1 hkn hkm
   go_wp2_with fail
   refine hst.mono ?_;clear hst;rintro e _ ⟨rfl,rfl⟩
   go_wp2_with fail
   go_ret;exact⟨by rw[hc'.out];rfl,hx⟩
 have h2:us.length=0:=by
  cases r1:Zad (bl p)
  · have:ZbD (bl p)=[]:=by simp[ZbD,r1]
    rw[this] at hl1;exact absurd hl1 h1
  cases r2:Zad (bl q)
  · have:ZbD (bl q)=[]:=by simp[ZbD,r2]
    rw[this] at hl2;exact hl2
  exact absurd ⟨r1,r2⟩ hr
 obtain rfl:km=0:=em.trans h2;have n1':((kn:Int)==0)=false:=beq_eq_false_iff_ne.2 (by omega);clear ek em hl1 hl2 h1 h2 hkn hkm hr
 go_wp2_with fail
 refine hst.mono ?_;clear hst;rintro e _ ⟨rfl,rfl⟩
 go_wp2_with fail
 go_ret;exact⟨by rw[hc'.out];rfl,hx⟩
end Path
end
section
namespace Lock
open _root_.Go.Proofs.YtkdjkngfnapjcaaGreatDoor.Mark (Zcq ZbU Za4 orI or2 Zcy)
open Go.RowKit Go.Shelf Go.Sort
open Go.Maps (Keyed)
open Path (bl Zad overB cmpP)
theorem ZkH (x y:Ent) (w:World) (hx:x.path.size≤1000) (hy:y.path.size≤1000):Calls Tryz.prog 123 #[x.val,y.val] w fun e w'=>e=.returned (.int .i64 (cmpE x y))∧Ext w w':=by
 have hA:At [] w [] w:=At.start (L0:=[]) trivial;have hF:=hA.facts
 have hcp:=fun(w1:World)=>Path.ZdM x.path y.path w1 (by omega) (by omega)
 unfold cmpE
 generalize cmpP (bl x.path) (bl y.path)=cp at *
 have hcc:=fun(w1:World)=>Tryz.cmp_Compare_int x.stamp y.stamp w1
 generalize hcs:Lib.compareInt x.stamp y.stamp=cs at *
 obtain⟨p1,n1,f1,m1,k1,s1⟩:=x;obtain⟨p2,n2,f2,m2,k2,s2⟩:=y
 simp only[Ent.val] at *
 go_enter Tryz.func123,Tryz.ntmps123
 go_wp2_with ((with_reducible refine gbx ?_);refine wCy (E:=97) hA ?_;clear hF hA;intro bX w1 hA hbX hF)
 try go_frame
 (refine Zaw 10 (Cl _ _ _) (by kernel_rfl) (by kernel_rfl) (Cl.drew hA) ?_);(simp only[List.take_succ_cons,List.take_zero,List.drop_succ_cons,List.drop_zero]);(have hn1:=Cl.none hA);(have hn2:=Cl.none2 hA);(repeat(first|go_big_quiet_skip|(go_big_quiet_want;(first|(refine qL ?_;go_frame;go_big_quiet_on)|(go_big_quiet_op;(first|go_big_quiet_on|((apply Exists.intro);(refine⟨fun w1 hw=> ?_,?_⟩);(focus((have hw:=Cl.out hw);(first|exact through0 hw (hcp _)|exact(hcc _).mono fun _ _ ⟨he,hq⟩=>⟨he,hq ▸ hw⟩)));(go_big_quiet_on))))))))
 (refine wpQuiet_nil ?_);(intro w1 hB);(clear hF hA hn1 hn2);(have hA:=Cl.out hB);(clear hB);obtain⟨hA,hF⟩:=fY hA
 clear hcp hcc;have hB:=hA.alloc [.int .i64 cp,.int .i64 cs] 3;have hx1:=hA.toExt
 go_wp2_with fail
 refine(or2 cp cs _ _ ?h0 ?h1).mono ?_
 case h0=>exact Zcy _ _ (by simp) _ _ _ _ rfl
 case h1=>exact Zcy _ _ (by simp) _ _ _ _ rfl
 rintro e _ ⟨rfl,rfl⟩
 go_wp2_with fail
 go_ret;exact⟨rfl,hx1.alloc _⟩
section
variable {es:List Ent} (H:Sortable es)
theorem Zgi (x:EntI es):(encI es x).length=6:=rfl
theorem encI_one (x:EntI es):∀v ∈ encI es x,v.oneCell'=true:=by
 intro u hu;simp only[encI,Ent.cells,List.mem_cons,List.not_mem_nil,or_false] at hu
 rcases hu with rfl|rfl|rfl|rfl|rfl|rfl<;>rfl
theorem cmpLaysI [Inhabited (EntI es)] (hs:∀e ∈ es,e.path.size≤1000) (blk off size:Nat) (w:World):CmpLays Tryz.prog 123 #[] (encI es) 6 (cmpI es) blk off size w:=
 fun _ _ _ _ x y=>Path.Zfo (ZkH x.1 y.1 _ (hs _ x.2) (hs _ y.2))
end
abbrev rowL (v:Value) (l:List Ent):Part:=.row 97 6 v l.length (l.flatMap Ent.cells)
def Znt (w:World) (b:Bk) (e:Ending) (w':World):Prop:=∃(v:Value) (l:List Ent),e=.returned v∧l.Perm b.es∧l.Pairwise ltE∧At [BookP b] w [rowL v l,BookP b] w'
theorem ZmD {es:List Ent} (h:es.Pairwise (fun a b=>a.key≠b.key)):es.Nodup:=h.imp (fun h e=>h (by rw[e]))
theorem Zf9 {w:World} {b:Bk} (h:Sep [BookP b] w) (H:Sortable b.es) (hmax:b.es.length≤1000000) (hs:∀e ∈ b.es,e.path.size≤1000):
 Calls Tryz.prog 46 #[.pointer (some ⟨b.p,0,none⟩)] w (Znt w b):=by
 have hA:=begin0 h;have hkeys:=ZhZ (MapAt.keys (hA.get (A:=mapC b.m (ents b.es)) sR));have hnd:=ZmD hkeys;obtain⟨hA,hF⟩:=fY hA;clear h hkeys
 go_enter Tryz.func46,Tryz.ntmps46
 go_wp2_with fail
 refine(callsIn_wide.1 (ZnL Fence.wide 1 trivial rfl (some b.m) w)).mono ?_;rintro e _ ⟨rfl,rfl⟩;have hB:=hA.alloc [.map (some b.m)] 201
 go_wp2_with fail
 refine(Zhk w.heap.size b.m (ents b.es) b.es (by simp[ents,ent]) _ (by simp) ((Zab.alloc w [.map (some b.m)] 201).cell 0) (hB.get (A:=mapC b.m (ents b.es)) sR) (by omega)).mono ?_;rintro e w1 ⟨v,ss,rfl,hp,hrow,hnil,hb⟩;have hC:=hB.row_new hb hrow;have hB2:=fold0 b hC sR sR sR;have hC2:=hB2.only2 (A:=rowL v ss) (B:=BookP b) sZ sZ;have hll:=hp.length_eq;clear hF hA hB hC hB2
 rcases hrow.2 with⟨rfl,hz⟩|⟨gb,cap,cur,rfl,hbase,hgb,r1,r2,r3,r4⟩
 · have hss:ss=[]:=List.eq_nil_of_length_eq_zero hz
   subst hss
   have hS:Calls Tryz.prog 122 #[.slice none 0 0,.func (.func 123) #[] #[]] w1 fun e w'=>e=.returned (.tuple #[])∧w'=w1:=AnyF.slices_SortFunc_none Tryz.sort122 none 0 _ w1
   go_wp2_with fail
   refine hS.mono ?_;rintro e _ ⟨rfl,rfl⟩
   go_wp2_with fail
   go_ret;exact⟨_,[],rfl,hp,.nil,hC2⟩
 have hsub:∀x ∈ ss,x ∈ b.es:=fun x hx=>hp.mem_iff.1 hx
 have htm:=toI_map ss hsub
 obtain⟨ti,hti⟩:∃ti,toI ss hsub=ti:=⟨_,rfl⟩
 rw[hti] at htm
 have htl:ti.length=ss.length:=by rw[←htm];simp
 have hflat:ti.flatMap (encI b.es)=ss.flatMap Ent.cells:=by rw[encI_flat,htm]
 have htn:ti.Nodup:=by
  have:(ti.map (·.1)).Nodup:=by rw[htm];exact hp.nodup_iff.2 hnd
  exact(List.pairwise_map.1 this).imp (fun q e=>q (by rw[e]))
 have hne:ss≠[]:=fun e=>by have:=hnil.2 e;cases this
 have hpos:0 < ss.length:=List.length_pos_iff.2 hne
 haveI:Inhabited (EntI b.es):=⟨⟨ss[0]'hpos,hsub _ (List.getElem_mem _)⟩⟩
 have hH:HoldsK (encI b.es) 6 w1 gb 0 ti.toArray:=Zcq (encI b.es) 6 Zgi hgb (by rw[htl,hflat];exact r4);have hgl:gb < w1.heap.size:=(Array.getElem?_eq_some_iff.1 hgb).1
 have hsz:ti.toArray.size < 4611686018427387904:=by simp;omega
 have hS:Calls Tryz.prog 122 #[.slice (some ⟨gb,0,none⟩) ti.length cap,.func (.func 123) #[] #[]] w1 fun e w'=>e=.returned (.tuple #[])∧∃n os,w'=sortWorldK (encI b.es) 6 w1 gb 0 n (sortI H ti).toArray os:=
  AnyQ.slices_SortFunc_total Tryz.sort122 6 Tryz.isAgg97 Tryz.sizeOf97 (encI b.es) Zgi encI_one (cmpI b.es) (swoI H) 123 #[] gb 0 cap ti.toArray w1 (enters_of Tryz.func123 (by kernel_rfl) rfl) (cmpLaysI hs _ _ _ _) hH hgl hsz (totI H)
 rw[htl] at hS;have htl':=Hd htl;clear hll hmax htl
 go_wp2_with fail
 refine hS.mono ?_;rintro e _ ⟨rfl,nn,os,rfl⟩
 go_wp2_with fail
 go_ret;have hown:=ZbU (encI b.es) 6 Zgi (w:=w1) (base:=0) (cap:=cap) (n:=nn) (os:=os) (sortI_len H ti) (Nat.zero_le _) hgb (by rw[htl'.out];exact r1) r2 r3;have hlt:=sortI_lt H ti htn
 have hlp:((sortI H ti).map (fun x:EntI b.es=>x.1)).Perm ss:=by
  have:=(sortI_perm H ti).map (fun x:EntI b.es=>x.1)
  rwa [htm] at this
 rw[encI_flat,htl'.out,←hlp.length_eq] at hown
 generalize (sortI H ti).map (fun x:EntI b.es=>x.1)=l at *
 have hD:=hC2.turn (A:=rowL (.slice (some ⟨gb,0,none⟩) ss.length cap) ss) .here (rowL (.slice (some ⟨gb,0,none⟩) l.length cap) l) hown (fun b hb=>.inl hb) (Zbq (Za4 _));refine⟨_,l,?_,hlp.trans hp,hlt,hD⟩;rw[hlp.length_eq]
 rfl
end Lock
end
end Go.Proofs.YtkdjkngfnapjcaaGreatDoor
section
namespace Go
open _root_.Go.Proofs.YtkdjkngfnapjcaaGreatDoor
open Go.RowKit
section
variable {P:Program} {ops:Array Oper} {rest:List Oper} {o:Oper} {a:Act} {Q:Exit→Act→World→Prop} {L0 L:List Part} {w0 w:World} {e:TypeId}
theorem Zft {t:TypeId} {n size:Nat} {args:Array (Nat × Operand)} {avs:Array (Nat × Value)} (hg:o.guard=none) (hop:o.op=.buildSlice t n args) (hx:args.map (fun p=>(p.1,a.eval p.2))=avs) {vs:List Value}
 (hrun:∀w,(Instr.buildSlice t n avs).run P w=.ok (.slice (some ⟨w.heap.size,0,none⟩) n n) (w.alloc (.cells vs.toArray e))) (hl:vs.length=n * size) (hn:n≤maxLen)
 (h:At L0 w0 L w)
 (hK:∀v w',At L0 w0 (Part.row e size v n vs::L) w'→(∃b,v=.slice (some ⟨b,0,none⟩) n n)→wpList P ops Q rest (a.put o.dst v) w'):wpList P ops Q (o::rest) a w:=by
 refine Zak hg ?_ (hK (.slice (some ⟨w.heap.size,0,none⟩) n n) (w.alloc (.cells vs.toArray e)) ((h.alloc vs e).row_shut .here hl (Nat.le_refl _) hn (by rw[←hl,List.take_length])) ⟨_,rfl⟩);simp[execOp,hop,hx,hrun,Result.andThen]
end
end Go
namespace Go.Proofs.YtkdjkngfnapjcaaGreatDoor.Tab
open Go.RowKit
open Path (bl Zad overB Zam)
open Lease (Ses Ans fresh ZaP)
open Lock (S3 Ent)
open Cmd (Cm Zao)
attribute [-go_sem] run_eql_struct run_neq_struct run_eqGuard_agg
abbrev rowCm (v:Value) (l:List Cm):Part:=Part.row 27 8 v l.length (l.flatMap Cm.cells)
theorem Zko (v:Value) (l:List Cm):Zfr (rowCm v l) v l:=fun w h=>Zer h
def ftA:ByteArray:=⟨#[97]⟩
def pA:ByteArray:=⟨#[97,47,98]⟩
def lA:List Cm:=[⟨1,1,ftA,1,⟨#[]⟩,0,5,0⟩,⟨4,1,ftA,2,pA,2,0,0⟩,⟨4,1,ftA,2,pA,2,0,0⟩]
theorem lA_in:∀c ∈ lA,CmIn c:=by
 intro c hc;simp only[lA,List.mem_cons,List.not_mem_nil,or_false] at hc
 rcases hc with rfl|rfl|rfl<;>exact⟨⟨by simp[Lease.big64],by decide,by decide⟩,by simp,by simp[Lease.big64],by simp⟩
theorem Zoc:toldT ⟨[],⟨0,[],[]⟩⟩ lA=[⟨0,0,false⟩,⟨0,1,true⟩,⟨0,1,true⟩]:=by kernel_rfl
theorem lA_one:(playT ⟨[],⟨0,[],[]⟩⟩ lA).L.es.length=1:=by kernel_rfl
theorem ZjN (w:World):Calls Tryz.prog 27 #[] w fun e w'=>e=.returned (.bool true)∧Ext w w':=by
 have hm:Tryz.prog.follows .mixedOrders=true:=by kernel_rfl
 have hA:At [] w [] w:=At.start (L0:=[]) trivial;obtain⟨hA,hF⟩:=fZ hA
 go_enter Tryz.func27,Tryz.ntmps27
 go_wp2_with (first|((with_reducible refine gal ?_);refine wGz 25 [.int .u64 0,.string .empty] hA ?_;clear hF hA;intro b1 w1 hA hb1 hF)|((with_reducible refine gal ?_);refine g11 hA ?_;clear hF hA;intro b2 w1 hA hb2 hF)|((with_reducible show wpList _ _ _ ({dst:=_,op:=Op.load 25 _,type:=_,pos:=_,after:=_,guard:=_}::_) _ _);refine Zax (vs:=[.int .u64 1,.string ftA]) rfl rfl (by(try simp only[Act.eval,eV])<;>exact rfl) (fun k u hk=>by rw[Nat.zero_add];exact((hA.get (A:=Part.cells b1 [.int .u64 1,.string ftA] 25) sZ:Zab _ _ _ _).cell k).trans hk) (by kernel_rfl) (by kernel_rfl) ?_)|((with_reducible show wpList _ _ _ ({dst:=_,op:=Op.load 27 _,type:=_,pos:=_,after:=_,guard:=_}::_) _ _);refine Zax (vs:=[.int .i64 4,.int .u64 1,.string ftA,.int .u64 2,.string pA,.int .i64 2,.int .u64 0,.int .i64 0]) rfl rfl (by(try simp only[Act.eval,eV])<;>exact rfl) (fun k u hk=>by rw[Nat.zero_add];exact((hA.get (A:=Part.cells b2 [.int .i64 4,.int .u64 1,.string ftA,.int .u64 2,.string pA,.int .i64 2,.int .u64 0,.int .i64 0] 27) sZ:Zab _ _ _ _).cell k).trans hk) (by kernel_rfl) (by kernel_rfl) ?_)|((with_reducible show wpList _ _ _ ({dst:=_,op:=Op.buildSlice _ _ _,type:=_,pos:=_,after:=_,guard:=_}::_) _ _);refine Zft (e:=27) (size:=8) (vs:=lA.flatMap Cm.cells) rfl rfl (by(try simp only[Act.eval,eV])<;>exact rfl) (fun _=>by kernel_rfl) (by kernel_rfl) (by unfold maxLen;omega) hA ?_;intro v13 w1 hB hb13;clear hF hA;have hA:=hB;clear hB;obtain⟨hA,hF⟩:=fZ hA)|((with_reducible refine gst ?_);refine wTz hA ?_;clear hF hA;intro w1 hA hF))
 refine(ZiF (hA.sep1 (A:=rowCm v13 lA) sZ) (first:=0) (by omega) (by unfold Lock.big64;omega) (Zko v13 lA) (by decide) lA_in).mono ?_;rintro e w1 ⟨t,p,m,ss,b,av,rfl,hR,hT⟩;replace hA:=hA.call1 (A:=rowCm v13 lA) sZ hT;clear hT hF
 try simp only[uA] at hA
 rw[Zoc] at hA;obtain⟨hA,hF⟩:=fZ hA
 go_wp2_with fail
 obtain⟨ax,cap,rfl,_,_,_⟩:=hA.row_form (e:=107) (size:=3) .here;obtain⟨g,c,rfl,_,_,_,hct,hB⟩:=hA.row_open .here (by decide)
 obtain⟨r,rfl⟩:∃r,c=([.int .i64 0,.int .u64 0,.bool false,.int .i64 0,.int .u64 1,.bool true,.int .i64 0,.int .u64 1,.bool true]:List Value)++r:=⟨c.drop 9,by rw[show([.int .i64 0,.int .u64 0,.bool false,.int .i64 0,.int .u64 1,.bool true,.int .i64 0,.int .u64 1,.bool true]:List Value)=c.take 9 from hct.symm];exact(List.take_append_drop _ _).symm⟩
 clear hF hA hct;have hA:=hB;clear hB;have hti:TInv (playT ⟨[],⟨0,[],[]⟩⟩ lA) (0 + lA.length):=ZiE (fun x hx=>(lA_in x hx).ok) (ZhT (by omega) (by unfold Lock.big64;omega))
 have hli:Lock.Inv b.st 3:=by rw[hR.L];exact hti.lock
 have hlen:b.es.length=1:=by have:=lA_one;rw[←hR.L] at this;exact this
 have hls:=fun(w1:World) (q:Sep [Lock.BookP b] w1)=>Lock.Zf9 q hli.sortable (by omega) (fun x hx=>Nat.le_trans (hli.path x hx) (by omega))
 have hll:=Hd hlen;clear hlen hti hli hR;replace hA:=hA.drew;refine wp_region_held (S:=fun w'=>Zab w' g (([.int .i64 0,.int .u64 0,.bool false,.int .i64 0,.int .u64 1,.bool true,.int .i64 0,.int .u64 1,.bool true]:List Value)++r) 107) hm ?_;change wpAnyH _ _ _ _ _ 27 _ _ (World.drew _)
 generalize World.drew _=wd at *
 have hS0:=(hA.get (A:=Part.cells g (([.int .i64 0,.int .u64 0,.bool false,.int .i64 0,.int .u64 1,.bool true,.int .i64 0,.int .u64 1,.bool true]:List Value)++r) 107) sZ:(fun w'=>Zab w' g (([.int .i64 0,.int .u64 0,.bool false,.int .i64 0,.int .u64 1,.bool true,.int .i64 0,.int .u64 1,.bool true]:List Value)++r) 107) wd)
 refine tP 0 17 (.slice (some ⟨g,0,none⟩) 3 cap) (s:=hS0) (h:= ?_)
 try go_frame
 refine tP 1 18 (.int .i64 3) (s:=hS0) (h:= ?_)
 try go_frame
 refine tP 2 19 (.bool true) (s:=hS0) (h:= ?_)
 try go_frame
 refine tP 3 20 (.bool true) (s:=hS0) (h:= ?_)
 try go_frame
 refine tP 4 21 (.slice (some ⟨g,0,none⟩) 3 cap) (s:=hS0) (h:= ?_)
 try go_frame
 refine tP 5 22 (.pointer (some ⟨g,3,none⟩)) (s:=hS0) (h:= ?_)
 try go_frame
 refine tZ 6 23 (.agg #[.int .i64 0,.int .u64 1,.bool true]) (r:=(fun w' hS=>Zah (ty:=107) (n:=3) (b:=g) (j:=3) rfl (by exact rfl) hS (by kernel_rfl) (by kernel_rfl) rfl rfl)) (s:=hS0) (h:= ?_)
 try go_frame
 refine tP 7 24 (.agg #[.int .i64 0,.int .u64 1,.bool true]) (s:=hS0) (h:= ?_)
 try go_frame
 refine tP 8 25 (.bool true) (s:=hS0) (h:= ?_)
 try go_frame
 refine tP 9 26 (.bool true) (s:=hS0) (h:= ?_)
 try go_frame
 refine tP 10 27 (.bool true) (s:=hS0) (h:= ?_)
 try go_frame
 refine tP 11 28 (.slice (some ⟨g,0,none⟩) 3 cap) (s:=hS0) (h:= ?_)
 try go_frame
 refine tP 12 29 (.pointer (some ⟨g,6,none⟩)) (s:=hS0) (h:= ?_)
 try go_frame
 refine tZ 13 30 (.agg #[.int .i64 0,.int .u64 1,.bool true]) (r:=(fun w' hS=>Zah (ty:=107) (n:=3) (b:=g) (j:=6) rfl (by exact rfl) hS (by kernel_rfl) (by kernel_rfl) rfl rfl)) (s:=hS0) (h:= ?_)
 try go_frame
 refine tP 14 31 (.slice (some ⟨g,0,none⟩) 3 cap) (s:=hS0) (h:= ?_)
 try go_frame
 refine tP 15 32 (.pointer (some ⟨g,3,none⟩)) (s:=hS0) (h:= ?_)
 try go_frame
 refine tZ 16 33 (.agg #[.int .i64 0,.int .u64 1,.bool true]) (r:=(fun w' hS=>Zah (ty:=107) (n:=3) (b:=g) (j:=3) rfl (by exact rfl) hS (by kernel_rfl) (by kernel_rfl) rfl rfl)) (s:=hS0) (h:= ?_)
 try go_frame
 refine tP 17 34 (.bool true) (s:=hS0) (h:= ?_)
 try go_frame
 refine tP 18 35 (.bool true) (s:=hS0) (h:= ?_)
 try go_frame
 refine tP 19 36 (.bool true) (s:=hS0) (h:= ?_)
 try go_frame
 refine tP 20 37 (.pointer (some ⟨t,0,none⟩)) (s:=hS0) (h:= ?_)
 try go_frame
 refine Zaa (i:=21) (by kernel_rfl) ?_;refine cY 21 38 45 (fun u w'=>u=.pointer (some ⟨b.p,0,none⟩)∧At [TabP t p m ss b] _ [TabP t p m ss b] w') ((ZbO (hA.sep1 (A:=TabP t p m ss b) sZ)).mono fun e w' ⟨he,hT⟩=>⟨_,he,rfl,hT⟩) ?_;rintro u w3 ⟨rfl,hT⟩;have hB:=hA.call1 (A:=TabP t p m ss b) sZ hT;clear hT hA;simp only[uA] at hB;have hA:=Zbr hB sZ;clear hB;refine⟨hA.get (A:=Part.cells g (([.int .i64 0,.int .u64 0,.bool false,.int .i64 0,.int .u64 1,.bool true,.int .i64 0,.int .u64 1,.bool true]:List Value)++r) 107) sZ,?_⟩;clear hS0
 try go_frame
 refine Zaa (i:=22) (by kernel_rfl) ?_
 refine Zar (i:=22) (d:=some 39) (R:=fun u w'=>∃cp:Option Addr × Nat,u=.slice cp.1 1 cp.2∧∃l,At [Lock.BookP b] _ [Lock.rowL (.slice cp.1 1 cp.2) l,Lock.BookP b] w') rfl rfl (by kernel_rfl) (fn:=46) (args:= #[.pointer (some ⟨b.p,0,none⟩)]) (by simp[execOp,go_sem,Act.eval,Act.put]) ((hls _ (hA.sep1 (A:=Lock.BookP b) sZ)).mono fun e w' ⟨v,l,he,hp,_,hT⟩=>by
  obtain⟨ax2,cap2,rfl,_,_,_⟩:=hT.row_form (e:=97) (size:=6) .here;have h1:l.length=1:=hp.length_eq.trans hll.out
  exact⟨_,he,(ax2,cap2),by rw[h1],l,by rw[h1] at hT;exact hT⟩) ?_
 rintro u w4 ⟨⟨ax2,cap2⟩,rfl,l2,hT⟩;have hB:=hA.call1 (A:=Lock.BookP b) sZ hT;clear hT hA;simp only[uA] at hB;have hA:=hB;clear hB
 have hS0:=(hA.get (A:=Part.cells g (([.int .i64 0,.int .u64 0,.bool false,.int .i64 0,.int .u64 1,.bool true,.int .i64 0,.int .u64 1,.bool true]:List Value)++r) 107) sZ:(fun w'=>Zab w' g (([.int .i64 0,.int .u64 0,.bool false,.int .i64 0,.int .u64 1,.bool true,.int .i64 0,.int .u64 1,.bool true]:List Value)++r) 107) w4)
 refine⟨hS0,?_⟩
 try go_frame
 refine tP 23 40 (.int .i64 1) (s:=hS0) (h:= ?_)
 try go_frame
 refine tP 24 41 (.bool true) (s:=hS0) (h:= ?_)
 try go_frame
 refine tP 25 42 (.bool true) (s:=hS0) (h:= ?_)
 try go_frame
 refine tP 26 0 (.bool true) (s:=hS0) (h:= ?_)
 try go_frame
 refine wpAnyH_done (by kernel_rfl) ?_ _
 try go_frame
 clear hS0;obtain⟨hA,hF⟩:=fZ hA
 go_wp2_with fail
 go_ret;exact⟨rfl,hA.toExt⟩
end Go.Proofs.YtkdjkngfnapjcaaGreatDoor.Tab
end
