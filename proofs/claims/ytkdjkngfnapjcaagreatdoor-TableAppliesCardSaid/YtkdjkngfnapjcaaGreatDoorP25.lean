/- CollP, PathZ, LockPu, TabW, joined. -/
import Derived.RangeFuncNested
import Derived.RangeFuncBound
import Derived.RangeFuncCalls
import Derived.RangeFuncLeaves
import Derived.Shelf.Abstract
import Derived.WalkKit
import Derived.OwnWalkIn
import Derived.TacticsInMore
import Derived.LoopNIn
import Derived.LoopIn
import Derived.Maps.AppendAt
import Derived.Test.YtkdjkngfnapjcaaGreatDoorP2
import Derived.Test.YtkdjkngfnapjcaaGreatDoorChecked
import Derived.Test.YtkdjkngfnapjcaaGreatDoorP22
import Derived.Test.YtkdjkngfnapjcaaGreatDoorP14
import Derived.Test.YtkdjkngfnapjcaaGreatDoorP24
import Derived.Test.YtkdjkngfnapjcaaGreatDoorP23
import Derived.Test.YtkdjkngfnapjcaaGreatDoorP21
set_option linter.unusedSimpArgs false
set_option linter.unusedVariables false
set_option maxRecDepth 100000
set_option maxHeartbeats 16000000
namespace Go.Proofs.YtkdjkngfnapjcaaGreatDoor
section
namespace Txt
open Go.RowKit Go.Shelf
open Go.Maps (Keyed)
attribute [local go_sem] Oper.semAt_some
def seV (p:ByteArray):Value:=.string p
def seL (p:ByteArray):List Value:=[.string p]
def unS:Value→ByteArray
 |.string a=>a
 |_=>.empty
theorem unS_seV (p:ByteArray):unS (seV p)=p:=rfl
theorem perm_of_seV {l m:List (ByteArray)} (h:(l.map seV).Perm (m.map seV)):l.Perm m:=by
 have:=h.map unS
 simpa [List.map_map,Function.comp_def,unS_seV] using this
def seenOf (w:World) (r:Nat):Nat:=match w.heap[r]? with|some (.mapIter _ _ seen _)=>seen.size|_=>0
theorem seenOf_eq {P:Program} {k:TypeId} {w:World} {r b:Nat} {es done:List (Value × Value)} (h:Zas P k w r b es done):seenOf w r=done.length:=by
 obtain⟨_,_,ents,clock,c0,vs,hb,hr,hc,hd,_⟩:=h;unfold seenOf;rw[hr,←hd]
 simp
theorem iter_walk {P:Program} {k:TypeId} {w:World} {r b:Nat} {es done:List (Value × Value)} (h:Zas P k w r b es done):∃o:Obj,w.heap[r]? =some o∧o.isWalk=true:=by
 obtain⟨_,_,ents,clock,c0,vs,hb,hr,_⟩:=h;exact⟨_,hr,rfl⟩
theorem iter_keeps {P:Program} {k:TypeId} {w w':World} {r b:Nat} {es done:List (Value × Value)} (h:Zas P k w r b es done) (hk:KeepsWalks w w'):Zas P k w' r b es done:=by
 have h0:=h;obtain⟨_,_,ents,clock,c0,vs,hb,hr,_⟩:=h0;exact h.same ((hk.same b _ hb rfl).trans hb.symm) ((hk.same r _ hr rfl).trans hr.symm)
theorem grown_of_exc {w w':World} {r:Nat} (h:Exc (fun q=>q=r) w w'):w.grownBy w' (some r):=⟨h.os,h.tape,h.output,h.size,fun k hk hn=>h.block k hk (fun e=>hn (by rw[e]))⟩
theorem grown_of_ext {w w':World} (h:Ext w w'):w.grownBy w' none:=⟨Below.os h,Below.tape h,Below.output h,Below.size h,fun k hk _=>Below.block h k hk⟩
theorem keys1_in (F:Fence) (n:Nat) (h1:F.fn 239) (hro:F.round=none) (hn:1≤n) (l Bm b:Nat) (es:List (Value × Value)) (ks:List (ByteArray)) (hes:es.map (·.1)=ks.map seV) (J Jx:List (ByteArray)→World→Prop)
 (W:World) (hJ:AbidesFrom W.heap.size J)
 (hY:∀pre x W1,J pre W1→pre.length < ks.length→YieldAt F (n - 1) Tryz.prog l #[seV x] W1 fun e W'=>(e=.returned (.bool true)∧J (pre++[x]) W'∧KeepsWalks W1 W')∨(e=.returned (.bool false)∧Jx (pre++[x]) W'))
 (hm:W.cell? ⟨Bm,0,none⟩=some (.map (some b))) (hM:MapAt Tryz.prog 9 W b es) (h0:J [] W):
 CallsIn F n Tryz.prog 239 #[.func (.yield l) #[] #[],.pointer (some ⟨Bm,0,none⟩)] W fun e W'=>(∃v,e=.returned v)∧((∃ys,ys.Perm ks∧J ys W')∨(∃pre,True∧Jx pre W')):=by
 obtain⟨W0,hrun,hext,hI⟩:=Zas.start hM Tryz.underlying204;have hJ0:J [] W0:=hJ _ W W0 none h0 (grown_of_ext hext) (fun r e=>by cases e);refine callsIn_of_wp Tryz.func239 rfl h1 ?_ hro;simp only[Tryz.ntmps239,List.size_toArray,List.length_cons,List.length_nil,Nat.reduceAdd,Nat.reduceSub,Array.replicate_succ,Array.replicate_zero,List.push_toArray,List.append_toArray,List.nil_append,List.cons_append]
 gi_wp2
 clear hrun
 try go_frame
 gi_loopw [3] (fun _ wr=>∃(done:List (Value × Value)) (ds:List (ByteArray)),Zas Tryz.prog 9 wr W.heap.size b es done∧done.map (·.1)=ds.map seV∧J ds wr)
  (fun _ wr=>es.length - seenOf wr W.heap.size)
 case atStart=>exact⟨[],[],hI,rfl,hJ0⟩
 case round=>
  obtain⟨done,ds,hI1,hd,hJs⟩:=hrel
  rcases hI1.next 0 with⟨hp,hrun⟩|⟨p,w',hp,hne,hrun,hI2,hx⟩
  · have hpp:ds.Perm ks:=(perm_of_seV (by rw[←hes,←hd];exact hp.map _)).symm
    clear hes hd
    gi_wp2
    go_end0
    exact⟨⟨_,rfl⟩,.inl ⟨ds,hpp,hJs⟩⟩
  obtain⟨pk,pv⟩:=p
  have hpk:pk ∈ es.map (·.1):=List.mem_map.2 ⟨_,hp,rfl⟩;rw[hes] at hpk;obtain⟨x,_,rfl⟩:=List.mem_map.1 hpk
  have hlen:ds.length < ks.length:=by
   have e1:=congrArg List.length hes;have e2:=congrArg List.length hd;have e3:=hI2.len
   simp at e1 e2 e3
   omega
  have hJ1:J ds w':=hJ ds wr w' (some W.heap.size) hJs (grown_of_exc hx) (fun r e=>by cases e;exact⟨Nat.le_refl _,iter_walk hI1⟩);have hI3:=hI2;obtain⟨fn,tmps,assign,body,hy,hR⟩:=hY ds x _ hJ1 hlen;have hen:=hI2.entry;have hs0:=seenOf_eq hI1;have hes':=Hd hes;have hd':=Hd hd;have hs':=Hd hs0;have hle:=hI2.len;clear hes hd hs0 hpk hp hne hx;unfold seV at hrun hen hy
  gi_wp2
  refine hR.mono ?_;rintro e W3 (⟨rfl,hJ3,hk3⟩|⟨rfl,hJx3⟩)
  · gi_wp2
    go_roundw
    case rel=>exact⟨done++[(seV x,pv)],ds++[x],iter_keeps hI3 hk3,by simp[hd'.out],hJ3⟩
    case measure=>
     have e1:=seenOf_eq (iter_keeps hI3 hk3);have e2:=hs'.out;rw[e1,e2]
     simp at hle ⊢
     omega
  gi_wp2
  refine bodyPost_ret (results_none rfl _ _ _) rfl ?_;exact⟨⟨_,rfl⟩,.inr ⟨_,trivial,hJx3⟩⟩
theorem keys_in (F:Fence) (n:Nat) (h1:F.fn 185) (hro:F.round=none) (mb:Option Nat) (w:World):
 CallsIn F n Tryz.prog 185 #[.map mb] w fun e w'=>e=.returned (.func (.func 239) #[] #[.pointer (some ⟨w.heap.size,0,none⟩)])∧w'=w.alloc (.cells #[.map mb] 204):=by
 refine callsIn_of_wp Tryz.func185 rfl h1 ?_ hro;simp only[Tryz.ntmps185,List.size_toArray,List.length_cons,List.length_nil,Nat.reduceAdd,Nat.reduceSub,Array.replicate_succ,Array.replicate_zero,List.push_toArray,List.append_toArray,List.nil_append,List.cons_append]
 gi_wp2
 go_ret;exact⟨rfl,rfl⟩
theorem keys_stops (F:Fence) (n:Nat) (h1:F.fn 239) (hro:F.round=none) (hn:1≤n) (Bm b:Nat) (es:List (Value × Value)) (ks:List (ByteArray)) (hes:es.map (·.1)=ks.map seV) (w:World) (hBm:Bm < w.heap.size)
 (hm:w.cell? ⟨Bm,0,none⟩=some (.map (some b))) (hM:MapAt Tryz.prog 9 w b es):
 SeqStopsK F n Tryz.prog 239 #[.pointer (some ⟨Bm,0,none⟩)] (fun x:ByteArray=> #[seV x]) KeepsWalks (fun ys=>ys.Perm ks) (fun _=>True) ks.length w:=fun l J Jx W hW hJ _ hY h0=>
 keys1_in F n h1 hro hn l Bm b es ks hes J Jx W hJ hY ((hW.cell (p:=⟨Bm,0,none⟩) hBm).trans hm) (hM.same (hW.block b hM.lt)) h0
theorem infoID:(Tryz.prog.info? 9).map (fun i=>(i.zero,i.size,i.bytes))=some (some (.string .empty),1,16):=by kernel_rfl
theorem one_new (W:World) (x:Value) (t:TypeId):∀(j:Nat) (u:Value),[x][j]? =some u→(W.alloc (.cells #[x] t)).cell? ((⟨W.heap.size,0,none⟩:Addr).add j)=some u:=by
 intro j u h
 match j,h with
 |0,h=>simp at h;subst h;simp[Addr.add]
 |j + 1,h=>simp at h
def MidI (w:World) (pre:List (ByteArray)) (W:World):Prop:=
 (∃v,Boxed W w.heap.size 260 v∧W.ownsRow w.heap.size 9 1 v pre.length (pre.flatMap seL)∧(v=.slice none 0 0↔pre=[]))∧Below w.heap.size w W
theorem midI_own (w:World) (B:Nat) (hB:w.heap.size≤B):OwnFrom B (MidI w):=
 OwnFrom.and (Own.from (holdsRow_own w.heap.size w.heap.size 260 9 1 (fun pre=>pre.length) (fun pre=>pre.flatMap seL) (fun pre v=>v=.slice none 0 0↔pre=[])) _) (ownFrom_below (Nat.le_refl _) hB)
def MidAx (w:World) (sv:Value) (x:ByteArray) (a':Act) (W:World):Prop:=
 a'={tmps:= #[.slice none 0 0,sv,.pointer (some ⟨w.heap.size,0,none⟩),undef,.slice none 0 0,seV x,sv,seV x,undef,undef,undef,undef,undef],defers:=[]}
theorem midAx_own (w:World) (sv:Value) (B:Nat) (x:ByteArray) (a':Act):OwnFrom B (fun(_:Unit) W=>MidAx w sv x a' W):=by
 rintro s X Y row h3 hg hr;exact h3
theorem appendSeq_in (F:Fence) (n:Nat) (hF:F.fn 279) (hro:F.round=none) (hn:3≤n) (gf:Nat) (lb:Array Value) (hFg:F.fn gf) (eg:∀args w,(callFunc gf args).run Tryz.prog w=.ok (.enter gf args) w)
 (S Sp:List (ByteArray)→Prop) (N:Nat) (hN:N≤100000000) (w:World) (hseq:SeqStopsK F (n - 1) Tryz.prog gf lb (fun x:ByteArray=> #[seV x]) KeepsWalks S Sp N w):
 CallsIn F n Tryz.prog 279 #[.slice none 0 0,.func (.func gf) #[] lb] w fun e w'=>∃(v:Value) (ss:List (ByteArray)),e=.returned v∧S ss∧w'.ownsRow w.heap.size 9 1 v ss.length (ss.flatMap seL)∧(v=.slice none 0 0↔ss=[])∧Below w.heap.size w w':=by
 have h1:1≤n:=by omega
 obtain⟨i0,hi,hz0,hz1,hz2⟩:=info_parts infoID;refine callsIn_of_wp_marks Tryz.func279 rfl hF ?_ hro;simp only[Tryz.ntmps279,List.size_toArray,List.length_cons,List.length_nil,Nat.reduceAdd,Nat.reduceSub,Array.replicate_succ,Array.replicate_zero,List.push_toArray,List.append_toArray,List.nil_append,List.cons_append]
 gi_wp2
 have bO:=Boxed.new w 260 (.slice none 0 0);have hB0:Below w.heap.size w (w.alloc (.cells #[.slice none 0 0] 260)):=(Below.refl _ w).alloc (Nat.le_refl _) _
 refine wpIn_rangeFunc_ownH hro h1 (gf:=gf) (lb:=lb) rfl hFg eg hseq walksK_t walksK_b hB0 (fun _=>rfl)
  (MidI w) (fun _ _ _=>False) (midI_own w _ (by simp)) (fun _ _ _ _ _ hs _ _=>hs)
  ⟨⟨_,bO,World.ownsRow_nil _ _ _ _,by simp⟩,hB0⟩
  (MidAx w (.func (.func gf) #[] lb)) (fun x a'=>midAx_own w _ _ x a') ?assign ?body ?done ?stop
 case assign=>
  rintro l pre x W K ⟨⟨v,hv,hrow,hnil⟩,hB⟩ hK;have hsz:=hB.size;unfold seV
  gi_wp2
  refine hK _ _ ((KeepsOthers.refl _).from _) (KeepsWalks.refl _) ⟨⟨v,hv,hrow,hnil⟩,hB⟩ rfl
 case body=>
  rintro l pre x a' W hl ⟨r,hr⟩ ⟨⟨v,hv,hrow,hnil⟩,hB⟩ rfl hlt;have hc:=hv.cell;have hsz:=hB.size;unfold seV
  gi_wp2_with (gi_at_builtin;refine wpListIn_append_own _ rfl _ _ 260 rfl w.heap.size 9 i0 (.string .empty) 1 16 Tryz.underlying260 hi hz0 hz1 hz2 rfl (by decide) _ _ _ rfl (hrow.alloc _) ⟨W.heap.size,0,none⟩ 1 1 [.string x] rfl rfl (one_new _ _ _) (by simp[Value.oneCell']) (by unfold maxLen;omega) (by omega) (by simp;omega) ?_;intro v' w1 hown' hgrow _;obtain⟨g',cap',rfl⟩:=ownsRow_succ hown';obtain⟨hv1,hv2,hr2,hk2,hb2⟩:=hv.appended (by decide) hrow hB.size (Nat.le_refl _) hown' hgrow;have hc1:=hv1.cell;have hf1:=hv1.frozen)
  exact⟨hk2.from _,hk2.walks,⟨_,hv2,by simpa [seL] using hr2,by simp⟩,hB.trans hb2⟩
 case done=>
  rintro D ys W hD hS ⟨⟨v,hv,hrow,hnil⟩,hB⟩ hK;have hc:=hv.cell
  gi_wp2
  refine⟨by simp,.inl ⟨_,_,rfl,run_takeDeferred hK,?_⟩⟩;exact⟨_,results_tmp rfl _ _ _,v,ys,rfl,hS,ownsRow_putObj hrow _ hK rfl,hnil,hB.trans (belowK_b (w:=w) (Nat.le_refl _) W D _ _ (by simp at hD;omega) hK rfl rfl)⟩
 case stop=>
  rintro D c pre W _ _ h _;exact h.elim
end Txt
end
section
namespace Txt
open Go.RowKit Go.Shelf Go.Sort
open Go.Maps (Keyed)
open _root_.Go.Proofs.YtkdjkngfnapjcaaGreatDoor.Mark (ZbU Zcq Za4)
open Path (bl Zad Zag cmpL cmpP)
def ltP (x y:ByteArray):Prop:=cmpL (Zag (bl x)) (Zag (bl y)) < 0
instance (x y:ByteArray):Decidable (ltP x y):=by unfold ltP;infer_instance
def cmpPP (x y:ByteArray):Int:=cmpP (bl x) (bl y)
theorem bl_inj {a b:ByteArray} (h:bl a=bl b):a=b:=by
 unfold bl at h
 have:a.data=b.data:=by rw[←Array.toList_inj];exact h
 cases a;cases b;simp_all
theorem Zh9 {x y:ByteArray} (hx:Zad (bl x)=true) (hy:Zad (bl y)=true):cmpPP x y=cmpL (Zag (bl x)) (Zag (bl y)):=by simp[cmpPP,cmpP,hx,hy]
theorem Zdo (x:ByteArray):¬ltP x x:=by unfold ltP;rw[Path.ZeL];omega
theorem Zco {x y z:ByteArray} (h1:ltP x y) (h2:ltP y z):ltP x z:=Path.Zgm h1 h2
theorem Zf6 (x y:ByteArray):ltP x y∨x=y∨ltP y x:=by
 unfold ltP;have h:=Path.Zic (Zag (bl x)) (Zag (bl y))
 by_cases h0:cmpL (Zag (bl x)) (Zag (bl y))=0
 · exact .inr (.inl (bl_inj (Path.Zcw (Path.cl_eq h0))))
 by_cases h1:cmpL (Zag (bl x)) (Zag (bl y)) < 0
 · exact .inl h1
 exact .inr (.inr (by omega))
abbrev TxtI (es:List ByteArray):={e:ByteArray // e ∈ es}
def cmpI (es:List ByteArray) (x y:TxtI es):Int:=cmpPP x.1 y.1
def encI (es:List ByteArray) (x:TxtI es):Value:=.string x.1
section
variable {es:List ByteArray} (H:∀e ∈ es,Zad (bl e)=true)
include H
theorem cmpI_lt (x y:TxtI es):ltOf (cmpI es) x y=decide (ltP x.1 y.1):=by unfold ltOf cmpI;rw[Zh9 (H _ x.2) (H _ y.2)];rfl
theorem totI (x y:TxtI es) (h1:ltOf (cmpI es) x y=false) (h2:ltOf (cmpI es) y x=false):x=y:=by
 rw[cmpI_lt H] at *
 rcases Zf6 x.1 y.1 with q|q|q
 · exact absurd q (of_decide_eq_false h1)
 · exact Subtype.ext q
 exact absurd q (of_decide_eq_false h2)
theorem swoI:SWO (ltOf (cmpI es)) where
 irrefl x:=by rw[cmpI_lt H];exact decide_eq_false (Zdo _)
 trans x y z h1 h2:=by rw[cmpI_lt H] at *;exact decide_eq_true (Zco (of_decide_eq_true h1) (of_decide_eq_true h2))
 ntrans x y z h1 h2:=by
  rw[cmpI_lt H] at *
  refine decide_eq_false fun h=> ?_
  have n1:=of_decide_eq_false h1;have n2:=of_decide_eq_false h2
  rcases Zf6 x.1 y.1 with q|q|q
  · exact n1 q
  · rw[q] at h;exact n2 h
  exact n2 (Zco q h)
end
def sortI {es:List ByteArray} (l:List (TxtI es)):List (TxtI es):=l.mergeSort fun x y=> !ltOf (cmpI es) y x
theorem sortI_len {es:List ByteArray} (l:List (TxtI es)):(sortI l).length=l.length:=List.length_mergeSort l
theorem sortI_perm {es:List ByteArray} (l:List (TxtI es)):(sortI l).Perm l:=List.mergeSort_perm l _
theorem sortI_lt {es:List ByteArray} (H:∀e ∈ es,Zad (bl e)=true) (l:List (TxtI es)) (hn:l.Nodup):((sortI l).map (·.1)).Pairwise ltP:=by
 have h2:(sortI l).Nodup:=(sortI_perm l).nodup_iff.2 hn
 have h3:(sortI l).Pairwise (fun a b=>(!ltOf (cmpI es) b a)=true):=by
  refine List.pairwise_mergeSort ?_ ?_ l
  · intro a b c h1 h2
    rw[cmpI_lt H] at *
    simp only[Bool.not_eq_true',decide_eq_false_iff_not] at *
    intro h
    rcases Zf6 b.1 a.1 with q|q|q
    · exact h1 q
    · rw[←q] at h;exact h2 h
    exact h2 (Zco h q)
  intro a b;rw[cmpI_lt H,cmpI_lt H];simp only[Bool.or_eq_true,Bool.not_eq_true',decide_eq_false_iff_not]
  by_cases h:ltP b.1 a.1
  · right
    intro h';exact Zdo _ (Zco h h')
  exact .inl h
 rw[List.pairwise_map];refine(h3.and h2).imp ?_;rintro a b ⟨h,hne⟩;rw[cmpI_lt H] at h;simp only[Bool.not_eq_true',decide_eq_false_iff_not] at h
 rcases Zf6 a.1 b.1 with q|q|q
 · exact q
 · exact absurd (Subtype.ext q) hne
 exact absurd q h
def toI {es:List ByteArray}:(l:List ByteArray)→(∀x ∈ l,x ∈ es)→List (TxtI es)
 |[],_=>[]
 |x::l,h=>⟨x,h x (by simp)⟩::toI l (fun y hy=>h y (by simp[hy]))
theorem toI_map {es:List ByteArray}:∀(l:List ByteArray) (h:∀x ∈ l,x ∈ es),(toI l h).map (·.1)=l
 |[],_=>rfl
 |x::l,h=>by rw[toI,List.map_cons,toI_map l]
theorem encI_flat {es:List ByteArray} (l:List (TxtI es)):l.map (encI es)=(l.map (·.1)).flatMap seL:=by
 induction l with
 |nil=>rfl
 |cons x l ih=>rw[List.map_cons,List.map_cons,List.flatMap_cons,ih];rfl
section
variable {α:Type} [Inhabited α]
theorem Zg4 {enc:α→Value} {w:World} {g n:Nat} {os:Array Obj} {cur:Array Value} {e:TypeId} {fr:Nat × Nat} (F:Array α) (hb:w.heap[g]? =some (.cells cur e fr)):
 (sortWorld enc w g 0 n F os).heap[g]? =some (.cells (putCells enc 0 F cur) e fr):=by
 have hg:g < w.heap.size:=(Array.getElem?_eq_some_iff.1 hb).1;unfold sortWorld;rw[heap_grow_old _ _ (by simpa using hg)];simp[putRow,mapBlock,Sort.ahead,Array.getElem?_modify,hb,onCells]
theorem Zey {enc:α→Value} {w:World} {g n:Nat} {os:Array Obj} (F:Array α):w.grownBy (sortWorld enc w g 0 n F os) (some g):=by
 unfold sortWorld;refine⟨rfl,rfl,rfl,by simp,fun k hk hne=> ?_⟩;rw[heap_grow_old _ _ (by simpa using hk)]
 have:g≠k:=fun e=>hne (by rw[e])
 simp[putRow,mapBlock,Sort.ahead,Array.getElem?_modify,this]
theorem Zj4 {enc:α→Value} (cur:Array Value) (l:List α) (h:l.length≤cur.size):(putCells enc 0 l.toArray cur).toList.take l.length=l.map enc:=by
 apply List.ext_getElem?
 intro j
 by_cases hj:j < l.length
 · rw[List.getElem?_take_of_lt hj,Array.getElem?_toList,List.getElem?_map]
   simp[putCells,hj,show j < cur.size by omega]
 rw[List.getElem?_take_eq_none (by omega),List.getElem?_eq_none (by simp;omega)]
theorem ZhO (enc:α→Value) {w:World} {base g cap n:Nat} {e:TypeId} {os:Array Obj} {cur:Array Value} {ts:List α} (hbase:base≤g) (hb:w.heap[g]? =some (.cells cur e (0,0)))
 (h1:ts.length≤cap) (h2:cap≤maxLen) (h3:cur.size=cap * 1):
 (sortWorld enc w g 0 n ts.toArray os).ownsRow base e 1 (.slice (some ⟨g,0,none⟩) ts.length cap) ts.length (ts.map enc):=by
 refine⟨by simp,.inr ⟨g,cap,_,rfl,hbase,Zg4 ts.toArray hb,h1,h2,by simp[putCells,h3],?_⟩⟩;rw[Nat.mul_one];exact Zj4 cur ts (by omega)
theorem ZkP (enc:α→Value) {w:World} {g:Nat} {cur:Array Value} {e:TypeId} {ts:List α} (hb:w.heap[g]? =some (.cells cur e (0,0))) (ht:cur.toList.take (ts.length * 1)=ts.map enc):Holds enc w g 0 ts.toArray:=by
 intro j hj
 have hj':j < ts.length:=by simpa using hj
 refine⟨?_,by simp[World.frozen?,hb]⟩
 have h1:(cur.toList.take (ts.length * 1))[j]? =(ts.map enc)[j]? :=by rw[ht]
 rw[List.getElem?_take_of_lt (by omega),Array.getElem?_toList,List.getElem?_map,List.getElem?_eq_getElem hj'] at h1;simp only[World.cell?,hb,Nat.zero_add];simp only[Option.isSome_none,Bool.false_eq_true,if_false];rw[h1,getElem!_pos _ j hj]
 simp
end
theorem encI_one {es:List ByteArray}:OneCell (encI es):=fun x=>rfl
theorem cmpLaysI {es:List ByteArray} [Inhabited (TxtI es)] (hs:∀e ∈ es,e.size≤1000) (blk off size:Nat) (w:World):CmpLays1 Tryz.prog 124 #[] (encI es) (cmpI es) blk off size w:=
 fun _ _ _ _ x y=>Path.Zfo (Path.ZdM x.1 y.1 _ (hs _ x.2) (hs _ y.2))
theorem collect_in (F:Fence) (n:Nat) (hF:F.fn 237) (hF2:F.fn 279) (hro:F.round=none) (hn:4≤n) (gf:Nat) (lb:Array Value) (hFg:F.fn gf) (eg:∀args w,(callFunc gf args).run Tryz.prog w=.ok (.enter gf args) w)
 (S Sp:List (ByteArray)→Prop) (N:Nat) (hN:N≤100000000) (w:World) (hseq:SeqStopsK F (n - 1 - 1) Tryz.prog gf lb (fun x:ByteArray=> #[seV x]) KeepsWalks S Sp N w):
 CallsIn F n Tryz.prog 237 #[.func (.func gf) #[] lb] w fun e w'=>∃(v:Value) (ss:List (ByteArray)),e=.returned v∧S ss∧w'.ownsRow w.heap.size 9 1 v ss.length (ss.flatMap seL)∧(v=.slice none 0 0↔ss=[])∧Below w.heap.size w w':=by
 have h1:1≤n:=by omega
 refine callsIn_of_wp Tryz.func237 rfl hF ?_ hro;simp only[Tryz.ntmps237,List.size_toArray,List.length_cons,List.length_nil,Nat.reduceAdd,Nat.reduceSub,Array.replicate_succ,Array.replicate_zero,List.push_toArray,List.append_toArray,List.nil_append,List.cons_append]
 gi_wp2_with (gi_at_call 279;refine(appendSeq_in F (n - 1) hF2 hro (by omega) gf lb hFg eg S Sp N hN _ hseq).mono ?_;rintro e W ⟨v,ss,rfl,hS,hrow,hnil,hb⟩)
 go_ret;exact⟨v,ss,rfl,hS,hrow,hnil,hb⟩
theorem collect_keys (Bm b:Nat) (es:List (Value × Value)) (ks:List (ByteArray)) (hes:es.map (·.1)=ks.map seV) (w:World) (hBm:Bm < w.heap.size) (hm:w.cell? ⟨Bm,0,none⟩=some (.map (some b))) (hM:MapAt Tryz.prog 9 w b es) (hN:ks.length≤100000000):
 Calls Tryz.prog 237 #[.func (.func 239) #[] #[.pointer (some ⟨Bm,0,none⟩)]] w fun e w'=>∃(v:Value) (ss:List (ByteArray)),e=.returned v∧ss.Perm ks∧w'.ownsRow w.heap.size 9 1 v ss.length (ss.flatMap seL)∧(v=.slice none 0 0↔ss=[])∧Below w.heap.size w w':=
 callsIn_wide.1 (collect_in Fence.wide 5 trivial trivial rfl (by omega) _ _ trivial (enters_of Tryz.func239 (by kernel_rfl) rfl) _ _ ks.length hN w
  (keys_stops Fence.wide _ trivial rfl (by omega) Bm b es ks hes w hBm hm hM))
theorem sorted_any (Bm b:Nat) (es:List (Value × Value)) (ks:List ByteArray) (hes:es.map (·.1)=ks.map seV) (hnd:ks.Nodup) (w:World) (hBm:Bm < w.heap.size) (hm:w.cell? ⟨Bm,0,none⟩=some (.map (some b))) (hM:MapAt Tryz.prog 9 w b es) (hN:ks.length≤100000000) (hr:∀k ∈ ks,Zad (bl k)=true) (hs:∀k ∈ ks,k.size≤1000):
 Calls Tryz.prog 184 #[.func (.func 239) #[] #[.pointer (some ⟨Bm,0,none⟩)],.func (.func 124) #[] #[]] w fun e w'=>
  ∃(v:Value) (l:List ByteArray),e=.returned v∧l.Perm ks∧l.Pairwise ltP∧w'.ownsRow w.heap.size 9 1 v l.length (l.flatMap seL)∧Below w.heap.size w w':=by
 have hC:=collect_keys Bm b es ks hes w hBm hm hM hN;clear hes hM hm
 go_enter Tryz.func184,Tryz.ntmps184
 go_wp2_with fail
 refine hC.mono ?_;rintro e w1 ⟨v,ss,rfl,hp,hrow,hnil,hb⟩
 rcases hrow.2 with⟨rfl,hz⟩|⟨gb,cap,cur,rfl,hbase,hgb,r1,r2,r3,r4⟩
 · have hss:ss=[]:=List.eq_nil_of_length_eq_zero hz
   subst hss
   have hS:Calls Tryz.prog 238 #[.slice none 0 0,.func (.func 124) #[] #[]] w1 fun e w'=>e=.returned (.tuple #[])∧w'=w1:=AnyF.slices_SortFunc_none {Tryz.sort238 with} none 0 _ w1
   go_wp2_with fail
   refine hS.mono ?_;rintro e _ ⟨rfl,rfl⟩
   go_wp2_with fail
   go_ret;exact⟨_,[],rfl,hp,.nil,hrow,hb⟩
 have hsub:∀x ∈ ss,x ∈ ks:=fun x hx=>hp.mem_iff.1 hx
 have htm:=toI_map ss hsub
 obtain⟨ti,hti⟩:∃ti,toI ss hsub=ti:=⟨_,rfl⟩
 rw[hti] at htm
 have htl:ti.length=ss.length:=by rw[←htm];simp
 have hflat:ti.map (encI ks)=ss.flatMap seL:=by rw[encI_flat,htm]
 have htn:ti.Nodup:=by
  have:(ti.map (·.1)).Nodup:=by rw[htm];exact hp.nodup_iff.2 hnd
  exact(List.pairwise_map.1 this).imp (fun q e=>q (by rw[e]))
 have hne:ss≠[]:=fun e=>by have:=hnil.2 e;cases this
 have hpos:0 < ss.length:=List.length_pos_iff.2 hne;have hll:=hp.length_eq
 haveI:Inhabited (TxtI ks):=⟨⟨ss[0]'hpos,hsub _ (List.getElem_mem _)⟩⟩
 have hH:Holds (encI ks) w1 gb 0 ti.toArray:=ZkP (encI ks) hgb (by rw[htl,hflat];exact r4);have hgl:gb < w1.heap.size:=(Array.getElem?_eq_some_iff.1 hgb).1
 have hsz:ti.toArray.size < 4611686018427387904:=by simp;omega
 have hS:Calls Tryz.prog 238 #[.slice (some ⟨gb,0,none⟩) ti.length cap,.func (.func 124) #[] #[]] w1 fun e w'=>e=.returned (.tuple #[])∧∃n os,w'=sortWorld (encI ks) w1 gb 0 n (sortI ti).toArray os:=
  Any.slices_SortFunc_total Tryz.sort238 (encI ks) encI_one (cmpI ks) (swoI hr) 124 #[] gb 0 cap ti.toArray w1 (enters_of Tryz.func124 (by kernel_rfl) rfl) (cmpLaysI hs _ _ _ _) hH hgl hsz (totI hr)
 rw[htl] at hS;have htl':=Hd htl;clear hll htl
 go_wp2_with fail
 refine hS.mono ?_;rintro e _ ⟨rfl,nn,os,rfl⟩
 go_wp2_with fail
 go_ret;have hown:=ZhO (encI ks) (w:=w1) (base:=w.heap.size) (cap:=cap) (n:=nn) (os:=os) (ts:=sortI ti) hbase hgb (by rw[sortI_len,htl'.out];exact r1) r2 r3;have hlt:=sortI_lt hr ti htn
 have hlp:((sortI ti).map (fun x:TxtI ks=>x.1)).Perm ss:=by
  have:=(sortI_perm ti).map (fun x:TxtI ks=>x.1)
  rwa [htm] at this
 rw[encI_flat,sortI_len,htl'.out,←hlp.length_eq] at hown
 generalize (sortI ti).map (fun x:TxtI ks=>x.1)=l at *
 refine⟨_,l,?_,hlp.trans hp,hlt,hown,hb.grown (Zey _) hb.size (fun j hj=>by cases hj;exact hbase)⟩;rw[hlp.length_eq]
 rfl
end Txt
end
section
namespace Lock
open Go.RowKit Go.Shelf
open _root_.Go.Proofs.YtkdjkngfnapjcaaGreatDoor.Wire
open _root_.Go.Proofs.YtkdjkngfnapjcaaGreatDoor.Txt (ltP)
open Path (bl Zad)
attribute [-go_sem] run_eql_struct run_neq_struct run_eqGuard_agg
theorem ZaC.r {w w':World} {b:Nat} {u:Value} {l m:List Int} {e:Ending} (h:ZaC w b u l m e w'):∃x,e=.returned x∧(x=.pointer (some ⟨b,0,none⟩)∧∃u',At [outC b u,rowY u l] w [outC b u',rowY u' (l++m)] w'):=by
 obtain⟨u',rfl,hT⟩:=h;exact⟨_,rfl,rfl,u',hT⟩
def withC (cs:List (ByteArray × Int)) (p:ByteArray):ByteArray × Int:=(p,(ctr cs p).getD 0)
theorem Zdu:∀{cs:List (ByteArray × Int)},cs.Pairwise (fun a b=>a.1≠b.1)→∀{c:ByteArray × Int},c ∈ cs→ctr cs c.1=some c.2
 |d::cs,hk,c,hc=>by
  have h1:=List.pairwise_cons.1 hk;unfold ctr;rw[List.find?_cons]
  rcases List.mem_cons.1 hc with rfl|hc
  · simp
  have hne:d.1≠c.1:=h1.1 c hc
  have:=Zdu h1.2 hc;unfold ctr at this
  simpa [hne] using this
theorem Zja {cs:List (ByteArray × Int)} (hk:cs.Pairwise (fun a b=>a.1≠b.1)) {l:List ByteArray} (h:l.Perm (cs.map (·.1))):(l.map (withC cs)).Perm cs:=by
 have h1:=h.map (withC cs)
 have e:(cs.map (·.1)).map (withC cs)=cs:=by
  rw[List.map_map]
  conv=>rhs;rw[←List.map_id cs]
  refine List.map_congr_left fun c hc=> ?_
  show(c.1,(ctr cs c.1).getD 0)=c;rw[Zdu hk hc]
  rfl
 rw[e] at h1;exact h1
def ltC (x y:ByteArray × Int):Prop:=ltP x.1 y.1
def ZoJ (w:World) (a:Pl) (s:S3) (b:Nat) (u00:Value) (l00:List Int) (e:Ending) (w':World):Prop:=
 ∃(l:List Ent) (m:List (ByteArray × Int)) (u:Value),e=.returned (.tuple #[])∧l.Perm s.es∧l.Pairwise ltE∧m.Perm s.cs∧m.Pairwise ltC∧At [bookS a s,outC b u00,rowY u00 l00] w [bookS a s,outC b u,rowY u (l00++encB l m)] w'
def PuRel (w:World) (a:Pl) (s:S3) (b:Nat) (u0:Value) (l0:List Int) (vl:Value) (L:List Ent) (k:Nat) (x:Value) (wr:World):Prop:=
 ∃(i:Nat) (u:Value) (l:List Int),x=.int .i64 i∧i + k=L.length∧l=l0++Zan L.length++(L.take i).flatMap encE∧l.length≤l0.length + 10 + i * 2100000∧At [bookS a s,outC b u0,rowY u0 l0] w [rowL vl L,bookS a s,outC b u,rowY u l] wr
def PvRel (w:World) (a:Pl) (s:S3) (b N:Nat) (u0:Value) (l0:List Int) (l7:List Int) (vm:Value) (M:List ByteArray) (k:Nat) (x:Value) (wr:World):Prop:=
 ∃(i:Nat) (u:Value) (l:List Int),x=.int .i64 i∧i + k=M.length∧l=l7++Zan M.length++((M.map (withC s.cs)).take i).flatMap encC∧l.length≤l7.length + 10 + i * 200∧At [bookS a s,outC b u0,rowY u0 l0] w [Part.row 9 1 vm M.length (M.flatMap Txt.seL),headC a.p a.m a.c s.first,mapC a.m (ents s.es),ctrC a.c (ctrs s.cs),outC b u,rowY u l] wr
theorem seL_len (x:ByteArray):(Txt.seL x).length=1:=rfl
theorem put_any {w:World} {a:Pl} {s:S3} {kI b:Nat} {u00:Value} {l00:List Int} (h:Sep [bookS a s,outC b u00,rowY u00 l00] w) (hI:Inv s kI) (hFt:Feet s) (hkI:kI≤1000) (hl0:l00.length≤100000000000):
 Calls Tryz.prog 131 #[.pointer (some ⟨a.p,0,none⟩),.pointer (some ⟨b,0,none⟩)] w (ZoJ w a s b u00 l00):=by
 have hm:Tryz.prog.follows .mixedOrders=true:=by kernel_rfl
 have hA:=At.start h;have hF:=hA.facts;clear h;have hI':=Hd hI;have hok:=Hd (hI.okW hFt hkI);have hokC:=Hd hI.okV
 have hel:s.es.length≤1000:=by have:=hI.len;omega
 have hcl0:s.cs.length≤1000:=by have:=hI.clen;omega
 clear hI hFt;obtain⟨hA,hF⟩:=fZ hA
 go_enter Tryz.func131,Tryz.ntmps131
 go_wp2_with fail
 refine(Zob (hA.sep1 (A:=bookS a s) sR) hI'.out hkI).mono ?_;rintro e w1 ⟨vl,L,rfl,hperm,hpw,hT⟩;have hB:=hA.call1 (A:=bookS a s) sR hT
 have hLl:L.length≤1000:=by rw[hperm.length_eq];exact hel
 have hLm:=Hd (fun x=>(hperm.mem_iff (a:=x)).1);have hperm':=Hd hperm;have hpw':=Hd hpw;clear hF hA hT hperm hpw;have hA:=hB;clear hB;simp only[uA] at hA;obtain⟨lx,lcap,rfl,hlx,hlcap,_⟩:=hA.row_form (v:=vl) (n:=L.length) (xs:=L.flatMap Ent.cells) sR
 have hwL:IntKind.u64.wrap (L.length:Int)=(L.length:Int):=by rw[IntKind.wrap_u64];omega
 obtain⟨hA,hF⟩:=fZ hA
 go_wp2_with fail
 refine(Zbm (hA.sep2 (A:=outC b u00) (B:=rowY u00 l00) sR sR) L.length (by omega) (by omega)).mono ?_;rintro e w2 ⟨u1,rfl,hT⟩;have hB:=hA.call2 (A:=outC b u00) (B:=rowY u00 l00) sR sR hT;have hsl:=Zaq 9 L.length (by omega);clear hF hA hT;have hA:=hB;clear hB;simp only[uA] at hA;obtain⟨hA,hF⟩:=fZ hA
 go_wp2_with fail
 try go_frame
 go_loopg [19] L.length (PuRel w a s b u00 l00 (.slice lx L.length lcap) L)
 case atStart=>exact⟨0,u1,l00++Zan L.length,rfl,by simp,by simp,by rw[List.length_append];omega,hA.pick pZ⟩
 case round=>
  obtain⟨i,u0,l0,rfl,hik,hle,hll,hB⟩:=hrel;have hle':=Hd hle;clear hF hA hle hsl;have hA:=hB;clear hB
  by_cases hi:i < L.length
  · have hmem:=hLm.out _ (List.getElem_mem hi)
    obtain⟨⟨n0,n1,k0,k1,s0⟩,hpb,hfz,hsb,hmo,hnb⟩:=hok.out _ hmem;have htk:=Hd (List.take_succ_eq_append_getElem hi);obtain⟨g,c,rfl,cp1,cm,cl,ct,hB⟩:=hA.row_open (ax:=lx) (cap:=lcap) (n:=L.length) (xs:=L.flatMap Ent.cells) sR (by omega);have hx:L[i]? =some L[i]:=List.getElem?_eq_getElem hi;have hct:=ct
    (have c0:c[i * 6]? =some (.string L[i].path):=Zaf Ent.cells_len hct hx 0 (by omega));(have c1:c[i * 6 + 1]? =some (.int .u64 L[i].num):=Zaf Ent.cells_len hct hx 1 (by omega));(have c2:c[i * 6 + 2]? =some (.string L[i].foot):=Zaf Ent.cells_len hct hx 2 (by omega));(have c3:c[i * 6 + 3]? =some (.int .i64 L[i].mode):=Zaf Ent.cells_len hct hx 3 (by omega));(have c4:c[i * 6 + 4]? =some (.int .u64 L[i].n):=Zaf Ent.cells_len hct hx 4 (by omega));(have c5:c[i * 6 + 5]? =some (.int .i64 L[i].stamp):=Zaf Ent.cells_len hct hx 5 (by omega))
    obtain⟨x,hs⟩:∃x,L[i]=x:=⟨_,rfl⟩
    rw[hs] at htk c0 c1 c2 c3 c4 c5 n0 n1 k0 k1 s0 hpb hfz hsb hmo hnb;clear hA hx hs hmem hct;have hA:=hB;clear hB;obtain⟨path,num,foot,mode,n,stamp⟩:=x;simp only at c0 c1 c2 c3 c4 c5 n0 n1 k0 k1 s0 hpb hfz hsb hmo hnb
    obtain⟨num,rfl⟩:∃k:Nat,num=k:=⟨num.toNat,by omega⟩
    obtain⟨n,rfl⟩:∃k:Nat,n=k:=⟨n.toNat,by omega⟩
    obtain⟨stamp,rfl⟩:∃k:Nat,stamp=k:=⟨stamp.toNat,by omega⟩
    have hn64:num < 18446744073709551616:=by omega
    have hk64:n < 18446744073709551616:=by omega
    have hwm:IntKind.u8.wrap mode=mode:=by rcases hmo with rfl|rfl<;>rfl
    have hws:IntKind.u64.wrap (stamp:Int)=(stamp:Int):=by rw[IntKind.wrap_u64];omega
    have hft:=Zbv foot (by omega);have hpt:=Zbv path (by omega);have hib:i * 2100000≤1000 * 2100000:=Nat.mul_le_mul_right _ (by omega);clear hmo;obtain⟨hA,hF⟩:=fZ hA
    go_wp2_with (first|((with_reducible refine gal ?_);refine wGz 97 [.string .empty,.int .u64 0,.string .empty,.int .i64 0,.int .u64 0,.int .i64 0] hA ?_;clear hF hA;intro bE w1 hA hbE hF)|((with_reducible refine gst ?_);refine wTz hA ?_;clear hF hA;intro w1 hA hF))
    try go_frame
    have hAd:=hA.drew;clear hF hA;have hA:=hAd;clear hAd;refine wp_region_held (S:=fun w'=>Zab w' bE [.string path,.int .u64 (num:Int),.string foot,.int .i64 mode,.int .u64 (n:Int),.int .i64 (stamp:Int)] 97) hm ?_;change wpAnyH _ _ _ _ _ 23 _ _ (World.drew _)
    generalize World.drew _=w2 at *
    have hS0:=(show Zab _ bE [.string path,.int .u64 (num:Int),.string foot,.int .i64 mode,.int .u64 (n:Int),.int .i64 (stamp:Int)] 97 from hA.get (A:=.cells bE [.string path,.int .u64 (num:Int),.string foot,.int .i64 mode,.int .u64 (n:Int),.int .i64 (stamp:Int)] 97) sR)
    refine tZ 0 23 ((.pointer (some ⟨b,0,none⟩))) (r:=(fun w' hS=>by simp[execOp,go_sem,Act.eval,Act.put])) (s:=hS0) (h:= ?_);go_frame;refine tZ 1 24 ((.pointer (some ⟨bE,0,none⟩))) (r:=(fun w' hS=>by kernel_rfl)) (s:=hS0) (h:= ?_);go_frame;refine tZ 2 25 ((.string path)) (r:=(fun w' hS=>Zac (b:=bE) (j:=0) rfl (by exact rfl) hS (by kernel_rfl) rfl)) (s:=hS0) (h:= ?_);go_frame;refine tZ 4 27 ((.pointer (some ⟨bE,1,none⟩))) (r:=(fun w' hS=>by kernel_rfl)) (s:=hS0) (h:= ?_);go_frame;refine tZ 5 28 ((.pointer (some ⟨bE,1,none⟩))) (r:=(fun w' hS=>by kernel_rfl)) (s:=hS0) (h:= ?_);go_frame;refine tZ 6 29 ((.int .u64 (num:Int))) (r:=(fun w' hS=>Zac (b:=bE) (j:=1) rfl (by exact rfl) hS (by kernel_rfl) rfl)) (s:=hS0) (h:= ?_);go_frame;refine tZ 8 31 ((.pointer (some ⟨bE,1,none⟩))) (r:=(fun w' hS=>by kernel_rfl)) (s:=hS0) (h:= ?_);go_frame;refine tZ 9 32 ((.pointer (some ⟨bE,2,none⟩))) (r:=(fun w' hS=>by kernel_rfl)) (s:=hS0) (h:= ?_);go_frame;refine tZ 10 33 ((.string foot)) (r:=(fun w' hS=>Zac (b:=bE) (j:=2) rfl (by exact rfl) hS (by kernel_rfl) rfl)) (s:=hS0) (h:= ?_);go_frame;refine tZ 12 35 ((.pointer (some ⟨bE,3,none⟩))) (r:=(fun w' hS=>by kernel_rfl)) (s:=hS0) (h:= ?_);go_frame;refine tZ 13 36 ((.int .i64 mode)) (r:=(fun w' hS=>Zac (b:=bE) (j:=3) rfl (by exact rfl) hS (by kernel_rfl) rfl)) (s:=hS0) (h:= ?_);go_frame;refine tZ 14 37 ((.int .u8 mode)) (r:=(fun w' hS=>by simp[execOp,go_sem,Act.eval,Act.put,hwm])) (s:=hS0) (h:= ?_);go_frame;refine tZ 16 39 ((.pointer (some ⟨bE,4,none⟩))) (r:=(fun w' hS=>by kernel_rfl)) (s:=hS0) (h:= ?_);go_frame;refine tZ 17 40 ((.int .u64 (n:Int))) (r:=(fun w' hS=>Zac (b:=bE) (j:=4) rfl (by exact rfl) hS (by kernel_rfl) rfl)) (s:=hS0) (h:= ?_);go_frame;refine tZ 19 42 ((.pointer (some ⟨bE,5,none⟩))) (r:=(fun w' hS=>by kernel_rfl)) (s:=hS0) (h:= ?_);go_frame;refine tZ 20 43 ((.int .i64 (stamp:Int))) (r:=(fun w' hS=>Zac (b:=bE) (j:=5) rfl (by exact rfl) hS (by kernel_rfl) rfl)) (s:=hS0) (h:= ?_);go_frame;refine tZ 21 44 ((.int .u64 (stamp:Int))) (r:=(fun w' hS=>by simp[execOp,go_sem,Act.eval,Act.put,hws])) (s:=hS0) (h:= ?_);go_frame;clear hS0;refine Zaa (i:=3) (by kernel_rfl) ?_;refine Zar (i:=3) (d:=some 26) rfl rfl rfl (fn:=80) (args:= #[(.pointer (some ⟨b,0,none⟩)),.string path]) (by simp[execOp,go_sem,Act.eval,Act.put]) ((Zf3 (hA.sep2 (A:=outC b u0) (B:=rowY u0 l0) sR sR) path (by omega) (by omega)).mono (fun e w' h=>ZaC.r h)) ?_;rintro xq zq ⟨rfl,u1,hT⟩;have hB:=hA.call2 (A:=outC b u0) (B:=rowY u0 l0) sR sR hT
    obtain⟨l1,he1⟩:∃z,l0++textB path=z:=⟨_,rfl⟩
    have hl1:l1.length≤l0.length + (10 + path.size):=by have:=hpt;rw[←he1,List.length_append];omega
    rw[he1] at hB;have he1':=Hd he1;clear hA hT he1;have hA:=hB;clear hB;simp only[uA] at hA;refine⟨(show Zab _ bE [.string path,.int .u64 (num:Int),.string foot,.int .i64 mode,.int .u64 (n:Int),.int .i64 (stamp:Int)] 97 from hA.get (A:=.cells bE [.string path,.int .u64 (num:Int),.string foot,.int .i64 mode,.int .u64 (n:Int),.int .i64 (stamp:Int)] 97) sR),?_⟩;go_frame;refine Zaa (i:=7) (by kernel_rfl) ?_;refine Zar (i:=7) (d:=some 30) rfl rfl rfl (fn:=81) (args:= #[(.pointer (some ⟨b,0,none⟩)),.int .u64 (num:Int)]) (by simp[execOp,go_sem,Act.eval,Act.put]) ((Zc4 (hA.sep2 (A:=outC b u1) (B:=rowY u1 l1) sR sR) num hn64 (by omega)).mono (fun e w' h=>ZaC.r h)) ?_;rintro xq zq ⟨rfl,u2,hT⟩;have hB:=hA.call2 (A:=outC b u1) (B:=rowY u1 l1) sR sR hT
    obtain⟨l2,he2⟩:∃z,l1++fixL num=z:=⟨_,rfl⟩
    have hl2:l2.length≤l1.length + 8:=by have:=(show(fixL num).length≤8 from by simp[fixL]);rw[←he2,List.length_append];omega
    rw[he2] at hB;have he2':=Hd he2;clear hA hT he2;have hA:=hB;clear hB;simp only[uA] at hA;refine⟨(show Zab _ bE [.string path,.int .u64 (num:Int),.string foot,.int .i64 mode,.int .u64 (n:Int),.int .i64 (stamp:Int)] 97 from hA.get (A:=.cells bE [.string path,.int .u64 (num:Int),.string foot,.int .i64 mode,.int .u64 (n:Int),.int .i64 (stamp:Int)] 97) sR),?_⟩;go_frame;refine Zaa (i:=11) (by kernel_rfl) ?_;refine Zar (i:=11) (d:=some 34) rfl rfl rfl (fn:=80) (args:= #[(.pointer (some ⟨b,0,none⟩)),.string foot]) (by simp[execOp,go_sem,Act.eval,Act.put]) ((Zf3 (hA.sep2 (A:=outC b u2) (B:=rowY u2 l2) sR sR) foot (by omega) (by omega)).mono (fun e w' h=>ZaC.r h)) ?_;rintro xq zq ⟨rfl,u3,hT⟩;have hB:=hA.call2 (A:=outC b u2) (B:=rowY u2 l2) sR sR hT
    obtain⟨l3,he3⟩:∃z,l2++textB foot=z:=⟨_,rfl⟩
    have hl3:l3.length≤l2.length + (10 + foot.size):=by have:=hft;rw[←he3,List.length_append];omega
    rw[he3] at hB;have he3':=Hd he3;clear hA hT he3;have hA:=hB;clear hB;simp only[uA] at hA;refine⟨(show Zab _ bE [.string path,.int .u64 (num:Int),.string foot,.int .i64 mode,.int .u64 (n:Int),.int .i64 (stamp:Int)] 97 from hA.get (A:=.cells bE [.string path,.int .u64 (num:Int),.string foot,.int .i64 mode,.int .u64 (n:Int),.int .i64 (stamp:Int)] 97) sR),?_⟩;go_frame;refine Zaa (i:=15) (by kernel_rfl) ?_;refine Zar (i:=15) (d:=some 38) rfl rfl rfl (fn:=183) (args:= #[(.pointer (some ⟨b,0,none⟩)),.int .u8 mode]) (by simp[execOp,go_sem,Act.eval,Act.put]) ((ZhP (hA.sep2 (A:=outC b u3) (B:=rowY u3 l3) sR sR) mode (by omega)).mono (fun e w' h=>ZaC.r h)) ?_;rintro xq zq ⟨rfl,u4,hT⟩;have hB:=hA.call2 (A:=outC b u3) (B:=rowY u3 l3) sR sR hT
    obtain⟨l4,he4⟩:∃z,l3++[mode]=z:=⟨_,rfl⟩
    have hl4:l4.length≤l3.length + 1:=by have:=(show([mode]:List Int).length≤1 from Nat.le_refl _);rw[←he4,List.length_append];omega
    rw[he4] at hB;have he4':=Hd he4;clear hA hT he4;have hA:=hB;clear hB;simp only[uA] at hA;refine⟨(show Zab _ bE [.string path,.int .u64 (num:Int),.string foot,.int .i64 mode,.int .u64 (n:Int),.int .i64 (stamp:Int)] 97 from hA.get (A:=.cells bE [.string path,.int .u64 (num:Int),.string foot,.int .i64 mode,.int .u64 (n:Int),.int .i64 (stamp:Int)] 97) sR),?_⟩;go_frame;refine Zaa (i:=18) (by kernel_rfl) ?_;refine Zar (i:=18) (d:=some 41) rfl rfl rfl (fn:=81) (args:= #[(.pointer (some ⟨b,0,none⟩)),.int .u64 (n:Int)]) (by simp[execOp,go_sem,Act.eval,Act.put]) ((Zc4 (hA.sep2 (A:=outC b u4) (B:=rowY u4 l4) sR sR) n hk64 (by omega)).mono (fun e w' h=>ZaC.r h)) ?_;rintro xq zq ⟨rfl,u5,hT⟩;have hB:=hA.call2 (A:=outC b u4) (B:=rowY u4 l4) sR sR hT
    obtain⟨l5,he5⟩:∃z,l4++fixL n=z:=⟨_,rfl⟩
    have hl5:l5.length≤l4.length + 8:=by have:=(show(fixL n).length≤8 from by simp[fixL]);rw[←he5,List.length_append];omega
    rw[he5] at hB;have he5':=Hd he5;clear hA hT he5;have hA:=hB;clear hB;simp only[uA] at hA;refine⟨(show Zab _ bE [.string path,.int .u64 (num:Int),.string foot,.int .i64 mode,.int .u64 (n:Int),.int .i64 (stamp:Int)] 97 from hA.get (A:=.cells bE [.string path,.int .u64 (num:Int),.string foot,.int .i64 mode,.int .u64 (n:Int),.int .i64 (stamp:Int)] 97) sR),?_⟩;go_frame;refine Zaa (i:=22) (by kernel_rfl) ?_;refine Zar (i:=22) (d:=some 45) rfl rfl rfl (fn:=142) (args:= #[(.pointer (some ⟨b,0,none⟩)),.int .u64 (stamp:Int)]) (by simp[execOp,go_sem,Act.eval,Act.put]) ((Zbm (hA.sep2 (A:=outC b u5) (B:=rowY u5 l5) sR sR) stamp (by omega) (by omega)).mono (fun e w' h=>ZaC.r h)) ?_;rintro xq zq ⟨rfl,u6,hT⟩;have hB:=hA.call2 (A:=outC b u5) (B:=rowY u5 l5) sR sR hT
    obtain⟨l6,he6⟩:∃z,l5++Zan stamp=z:=⟨_,rfl⟩
    have hl6:l6.length≤l5.length + 10:=by have:=Zaq 9 stamp (by omega);rw[←he6,List.length_append];omega
    rw[he6] at hB;have he6':=Hd he6;clear hA hT he6;have hA:=hB;clear hB;simp only[uA] at hA;refine⟨(show Zab _ bE [.string path,.int .u64 (num:Int),.string foot,.int .i64 mode,.int .u64 (n:Int),.int .i64 (stamp:Int)] 97 from hA.get (A:=.cells bE [.string path,.int .u64 (num:Int),.string foot,.int .i64 mode,.int .u64 (n:Int),.int .i64 (stamp:Int)] 97) sR),?_⟩;go_frame;refine wpAnyH_done (by kernel_rfl) ?_ _
    try go_frame
    obtain⟨hA,hF⟩:=fZ hA
    go_wp2_with fail
    go_roundg (gk - 1)
    case measure=>omega
    case rel=>
     have hS:=hA.row_shut (e:=97) (size:=6) (n:=L.length) (cap:=lcap) (xs:=L.flatMap Ent.cells) (g:=g) (c:=c) sR cl cp1 cm ct;refine⟨i + 1,u6,l6,by simp,by omega,?_,by omega,hS.pick pZ⟩;rw[htk.out,←he6'.out,←he5'.out,←he4'.out,←he3'.out,←he2'.out,←he1'.out,hle'.out];simp only[List.flatMap_append,List.flatMap_cons,List.flatMap_nil,List.append_nil,encE,Int.toNat_natCast,List.append_assoc]
  have hle2:=hle'.out;rw[List.take_of_length_le (by omega)] at hle2;have hle3:=Hd hle2
  have hl7:l0.length≤l00.length + 3000000000:=by
   have:i * 2100000≤1000 * 2100000:=Nat.mul_le_mul_right _ (by omega)
   omega
  clear hle2 hle' hll hik;have hB:=open0 hA (b:=a.at s) sR;simp only[Pl.at] at hB;clear hA;have hA:=hB;clear hB;obtain⟨hA,hF⟩:=fZ hA
  go_wp2_with fail
  refine(callsIn_wide.1 (Txt.keys_in Fence.wide 1 trivial rfl (some a.c) wr)).mono ?_;rintro e _ ⟨rfl,rfl⟩;have hB:=hA.alloc [.map (some a.c)] 204;have hnd:(s.cs.map (·.1)).Nodup:=List.pairwise_map.2 hI'.out.ckeys;have hkm:=Hd (show(ctrs s.cs).map (·.1)=(s.cs.map (·.1)).map Txt.seV from by simp[ctrs,ctrE,Txt.seV])
  go_wp2_with fail
  refine(Txt.sorted_any wr.heap.size a.c (ctrs s.cs) (s.cs.map (·.1)) hkm.out hnd _ (by simp) ((Zab.alloc wr [.map (some a.c)] 204).cell 0) (hB.get (A:=ctrC a.c (ctrs s.cs)) sR) (by simp;omega)
   (fun k hk=>by obtain⟨c,hc,rfl⟩:=List.mem_map.1 hk;exact hI'.out.cright c hc) (fun k hk=>by obtain⟨c,hc,rfl⟩:=List.mem_map.1 hk;have:=hI'.out.cpath c hc;omega)).mono ?_
  clear hkm;rintro e w4 ⟨vm,M,rfl,hMp,hMw,hown,hbw⟩;have hC:=hB.row_new hbw hown;clear hB hown hbw hA hF;have hA:=hC;clear hC
  have hMl:M.length≤1000:=by rw[hMp.length_eq,List.length_map];exact hcl0
  have hMp':=Hd hMp;have hMw':=Hd hMw;clear hMp hMw hnd;obtain⟨mx,mcap,rfl,hmx,hmcap,_⟩:=hA.row_form (v:=vm) (n:=M.length) (xs:=M.flatMap Txt.seL) sR
  have hwM:IntKind.u64.wrap (M.length:Int)=(M.length:Int):=by rw[IntKind.wrap_u64];omega
  obtain⟨hA,hF⟩:=fZ hA
  go_wp2_with fail
  refine(Zbm (hA.sep2 (A:=outC b u0) (B:=rowY u0 l0) sR sR) M.length (by omega) (by omega)).mono ?_;rintro e w5 ⟨u9,rfl,hT⟩;have hB:=hA.call2 (A:=outC b u0) (B:=rowY u0 l0) sR sR hT;have hsl:=Zaq 9 M.length (by omega);clear hF hA hT;have hA:=hB;clear hB;simp only[uA] at hA;obtain⟨hA,hF⟩:=fZ hA
  go_wp2_with fail
  try go_frame
  go_loopg [60] M.length (PvRel w a s b 0 u00 l00 l0 (.slice mx M.length mcap) M)
  case atStart=>exact⟨0,u9,l0++Zan M.length,rfl,by simp,by simp,by rw[List.length_append];omega,hA.pick pZ⟩
  case round=>
   obtain⟨j,u20,l20,rfl,hjk,hje,hjl,hB⟩:=hrel;have hje':=Hd hje;clear hF hA hje hsl;have hA:=hB;clear hB
   by_cases hj:j < M.length
   · have hjm:j < (M.map (withC s.cs)).length:=by rw[List.length_map];exact hj
     have hpm:M[j] ∈ s.cs.map (·.1):=hMp'.out.mem_iff.1 (List.getElem_mem hj);obtain⟨q,hq,hqp⟩:=List.mem_map.1 hpm;have hcq:=Zdu hI'.out.ckeys hq;have hoq:=hokC.out q hq;obtain⟨⟨q0,q1⟩,qp⟩:=hoq
     have hgj:(M.map (withC s.cs))[j]=(M[j],q.2):=by rw[List.getElem_map];unfold withC;rw[←hqp,hcq];rfl
     obtain⟨p,n⟩:=q;simp only at hqp hcq q0 q1 qp hgj;obtain⟨g,c,rfl,cp1,cm,cl,ct,hB⟩:=hA.row_open (ax:=mx) (cap:=mcap) (n:=M.length) (xs:=M.flatMap Txt.seL) sR (by omega)
     have c0:c[j]? =some (.string M[j]):=by have:=Zaf seL_len ct (List.getElem?_eq_getElem hj) 0 (by omega);simpa [Txt.seL] using this
     rw[←hqp] at c0 hgj
     obtain⟨n,rfl⟩:∃k:Nat,n=k:=⟨n.toNat,by omega⟩
     have hn64:n < 18446744073709551616:=by omega
     have hmem':=Hd (Zlf hcq);have htj:=Hd (show(M.map (withC s.cs)).take (j + 1)=(M.map (withC s.cs)).take j++[(p,(n:Int))] from by rw[List.take_succ_eq_append_getElem hjm,hgj]);obtain⟨kl,hkl⟩:=keyT (p:=p) (by unfold maxLen;omega);have hpt:=Zbv p (by omega);have hjb:j * 200≤1000 * 200:=Nat.mul_le_mul_right _ (by omega);clear hA hq hqp hcq hgj hpm q0 q1 hjm;have hA:=hB;clear hB;obtain⟨hA,hF⟩:=fZ hA
     go_wp2_with fail
     try go_frame
     have hAd:=hA.drew;clear hF hA;have hA:=hAd;clear hAd;refine wp_region_held (S:=fun w'=>Zab w' a.p [.int .u64 s.first,.map (some a.m),.map (some a.c)] 206∧MapAt Tryz.prog 9 w' a.c (ctrs s.cs)) hm ?_;change wpAnyH _ _ _ _ _ 10 _ _ (World.drew _)
     generalize World.drew _=w2 at *
     have hS0:=(show Zab _ a.p [.int .u64 s.first,.map (some a.m),.map (some a.c)] 206∧MapAt Tryz.prog 9 _ a.c (ctrs s.cs) from⟨hA.get (A:=headC a.p a.m a.c s.first) sR,hA.get (A:=ctrC a.c (ctrs s.cs)) sR⟩)
     refine tZ 0 64 ((.pointer (some ⟨b,0,none⟩))) (r:=(fun w' hS=>by simp[execOp,go_sem,Act.eval,Act.put])) (s:=hS0) (h:= ?_);go_frame;refine tZ 1 65 ((.string p)) (r:=(fun w' hS=>by simp[execOp,go_sem,Act.eval,Act.put])) (s:=hS0) (h:= ?_);go_frame;refine tZ 3 67 ((.pointer (some ⟨a.p,0,none⟩))) (r:=(fun w' hS=>by simp[execOp,go_sem,Act.eval,Act.put])) (s:=hS0) (h:= ?_);go_frame;refine tZ 4 68 ((.pointer (some ⟨a.p,0,none⟩))) (r:=(fun w' hS=>by kernel_rfl)) (s:=hS0) (h:= ?_);go_frame;refine tZ 5 69 ((.pointer (some ⟨a.p,2,none⟩))) (r:=(fun w' hS=>by kernel_rfl)) (s:=hS0) (h:= ?_);go_frame;refine tZ 6 70 ((.map (some a.c))) (r:=(fun w' hS=>Zac (b:=a.p) (j:=2) rfl (by exact rfl) hS.1 (by kernel_rfl) rfl)) (s:=hS0) (h:= ?_);go_frame;refine tZ 7 71 ((.string p)) (r:=(fun w' hS=>by simp[execOp,go_sem,Act.eval,Act.put])) (s:=hS0) (h:= ?_);go_frame;refine tZ 8 72 ((.int .u64 (n:Int))) (r:=(fun w' hS=>by have q:=MapAt.look_some hS.2 lawT Tryz.underlying204 hkl hmem'.out false;simp only[Bool.false_eq_true,if_false] at q;simp[execOp,go_sem,Act.eval,Act.put,q,Result.andThen])) (s:=hS0) (h:= ?_);go_frame;clear hS0;refine Zaa (i:=2) (by kernel_rfl) ?_;refine Zar (i:=2) (d:=some 66) rfl rfl rfl (fn:=80) (args:= #[(.pointer (some ⟨b,0,none⟩)),.string p]) (by simp[execOp,go_sem,Act.eval,Act.put]) ((Zf3 (hA.sep2 (A:=outC b u20) (B:=rowY u20 l20) sR sR) p (by omega) (by omega)).mono (fun e w' h=>ZaC.r h)) ?_;rintro xq zq ⟨rfl,u21,hT⟩;have hB:=hA.call2 (A:=outC b u20) (B:=rowY u20 l20) sR sR hT
     obtain⟨l21,he21⟩:∃z,l20++textB p=z:=⟨_,rfl⟩
     have hl21:l21.length≤l20.length + (10 + p.size):=by have:=hpt;rw[←he21,List.length_append];omega
     rw[he21] at hB;have he21':=Hd he21;clear hA hT he21;have hA:=hB;clear hB;simp only[uA] at hA;refine⟨(show Zab _ a.p [.int .u64 s.first,.map (some a.m),.map (some a.c)] 206∧MapAt Tryz.prog 9 _ a.c (ctrs s.cs) from⟨hA.get (A:=headC a.p a.m a.c s.first) sR,hA.get (A:=ctrC a.c (ctrs s.cs)) sR⟩),?_⟩;go_frame;refine Zaa (i:=9) (by kernel_rfl) ?_;refine Zar (i:=9) (d:=some 73) rfl rfl rfl (fn:=81) (args:= #[(.pointer (some ⟨b,0,none⟩)),.int .u64 (n:Int)]) (by simp[execOp,go_sem,Act.eval,Act.put]) ((Zc4 (hA.sep2 (A:=outC b u21) (B:=rowY u21 l21) sR sR) n hn64 (by omega)).mono (fun e w' h=>ZaC.r h)) ?_;rintro xq zq ⟨rfl,u22,hT⟩;have hB:=hA.call2 (A:=outC b u21) (B:=rowY u21 l21) sR sR hT
     obtain⟨l22,he22⟩:∃z,l21++fixL n=z:=⟨_,rfl⟩
     have hl22:l22.length≤l21.length + 8:=by have:=(show(fixL n).length≤8 from by simp[fixL]);rw[←he22,List.length_append];omega
     rw[he22] at hB;have he22':=Hd he22;clear hA hT he22;have hA:=hB;clear hB;simp only[uA] at hA;refine⟨(show Zab _ a.p [.int .u64 s.first,.map (some a.m),.map (some a.c)] 206∧MapAt Tryz.prog 9 _ a.c (ctrs s.cs) from⟨hA.get (A:=headC a.p a.m a.c s.first) sR,hA.get (A:=ctrC a.c (ctrs s.cs)) sR⟩),?_⟩;go_frame;refine wpAnyH_done (by kernel_rfl) ?_ _
     try go_frame
     obtain⟨hA,hF⟩:=fZ hA
     go_wp2_with fail
     go_roundg (gk - 1)
     case measure=>omega
     case rel=>
      have hS:=hA.row_shut (e:=9) (size:=1) (n:=M.length) (cap:=mcap) (xs:=M.flatMap Txt.seL) (g:=g) (c:=c) sR cl cp1 cm ct;refine⟨j + 1,u22,l22,by simp,by omega,?_,by omega,hS.pick pZ⟩;rw[htj.out,←he22'.out,←he21'.out,hje'.out];simp only[List.flatMap_append,List.flatMap_cons,List.flatMap_nil,List.append_nil,encC,Int.toNat_natCast,List.append_assoc]
   have hje2:=hje'.out;rw[List.take_of_length_le (by rw[List.length_map];omega)] at hje2;obtain⟨hA,hF⟩:=fZ hA
   go_wp2_with fail
   first|go_ret|go_end0
   refine⟨L,M.map (withC s.cs),u20,rfl,hperm'.out,hpw'.out,Zja hI'.out.ckeys hMp'.out,List.pairwise_map.2 hMw'.out,?_⟩;have hE:=fold0 (a.at s) hA sZ sZ sZ;have hE2:=hE.pick (K:=[bookS a s,outC b u20,rowY u20 l20]) pZ;rw[hje2,hle3.out] at hE2
   have e:l00++Zan L.length++L.flatMap encE++Zan M.length++(M.map (withC s.cs)).flatMap encC=l00++encB L (M.map (withC s.cs)):=by
    unfold encB;rw[List.length_map];simp only[List.append_assoc]
   rw[e] at hE2;exact hE2
end Lock
end
section
namespace Tab
open Go.RowKit
open Path (bl Zad overB Zam)
open Lease (Ses Ans fresh ZaP)
open Lock (S3 Ent)
open Cmd (Cm Zao)
attribute [-go_sem] run_eql_struct run_neq_struct run_eqGuard_agg
open Lease (SR Rel encL)
open Lock (encB ltE ltC)
open Wire (rowY)
theorem Zez {α:Type} {f:α→List Int} {P:α→Prop} {k:Nat} (hf:∀a,P a→(f a).length≤k):∀l:List α,(∀a ∈ l,P a)→(l.flatMap f).length≤l.length * k
 |[],_=>by simp
 |x::l,h=>by
  have q1:=hf x (h x (by simp));have q2:=Zez hf l (fun a ha=>h a (by simp[ha]));rw[List.flatMap_cons,List.length_append,List.length_cons,Nat.add_mul]
  omega
theorem Zm7 {a:Lease.AR} (h:0≤a.r∧a.r < Lease.big64):(Lease.encA a).length≤29:=by
 have q1:=Wire.Zaq 9 a.r.toNat (by unfold Lease.big64 at h;omega);have q2:=Wire.Zaq 9 (Lease.wrN a.e) (by unfold Lease.wrN;omega)
 have q3:(Wire.fixL a.n.toNat).length=8:=by simp[Wire.fixL]
 have q4:(Lease.bB a.g).length=1:=rfl;unfold Lease.encA;simp only[List.length_append]
 omega
structure SrOk (s:SR):Prop where
 foot:s.foot.size≤2000000
 dl:s.dl≤2199023255552
 ttl:s.ttl≤2199023255552
 tl:s.told.length≤256
 bd:∀x ∈ s.told,0≤x.r∧x.r < Lease.big64
theorem Zm5 {s:SR} (h:SrOk s):(Lease.encS s).length≤2100000:=by
 have q1:(Wire.fixL s.num.toNat).length=8:=by simp[Wire.fixL]
 have q2:=Lease.Zgv s.foot (by have:=h.foot;omega);have q3:(Lease.bB s.op).length=1:=rfl;have q4:(Lease.bB s.dead).length=1:=rfl;have q5:=Wire.Zaq 9 s.dl.toNat (by have:=h.dl;omega);have q6:=Wire.Zaq 9 s.ttl.toNat (by have:=h.ttl;omega);have q7:=Wire.Zaq 9 s.told.length (by have:=h.tl;omega);have q8:=Zez (f:=Lease.encA) (P:=fun a=>0≤a.r∧a.r < Lease.big64) (k:=29) (fun a ha=>Zm7 ha) s.told h.bd;have q9:=h.foot;have q10:=h.tl;unfold Lease.encS;simp only[List.length_append]
 omega
theorem Zm6 {L:List SR} (h:∀a ∈ L,SrOk a) (hl:L.length≤1000):(encL L).length≤3000000000:=by
 have q1:=Wire.Zaq 9 L.length (by omega);have q2:=Zez (f:=Lease.encS) (P:=SrOk) (k:=2100000) (fun a ha=>Zm5 ha) L h;unfold Lease.encL;rw[List.length_append]
 omega
theorem sr_ok {S:List Ses} {L:List SR} {m:Nat} (h:Rel S L) (hi:SInv S m):∀a ∈ L,SrOk a:=fun a ha=>by
 have hb:=(Rel.bounds h hi).1 a ha;obtain⟨s,hs,hk⟩:=List.mem_map.1 (h.keys.mem_iff.2 (List.mem_map.2 ⟨a,ha,rfl⟩));have e:=h.each s hs a ha hk;exact⟨hb.2.2,e.db.2,e.tb.2,e.told.len,e.told.bd⟩
theorem encE_len {e:Ent} (hp:e.path.size≤100) (hf:e.foot.size≤2000000) (hs:e.stamp≤1000):(Lock.encE e).length≤2100000:=by
 have q1:=Lock.Zbv e.path (by omega);have q2:=Lock.Zbv e.foot (by omega)
 have q3:(Wire.fixL e.num.toNat).length=8:=by simp[Wire.fixL]
 have q4:(Wire.fixL e.n.toNat).length=8:=by simp[Wire.fixL]
 have q5:=Wire.Zaq 9 e.stamp.toNat (by omega);unfold Lock.encE;simp only[List.length_append,List.length_cons,List.length_nil]
 omega
theorem encC_len {c:ByteArray × Int} (hp:c.1.size≤100):(Lock.encC c).length≤200:=by
 have q1:=Lock.Zbv c.1 (by omega)
 have q3:(Wire.fixL c.2.toNat).length=8:=by simp[Wire.fixL]
 unfold Lock.encC;simp only[List.length_append]
 omega
theorem encB_len {T:TS} {k:Nat} (hi:Lock.Inv T.L k) (hf:Lock.Feet T.L) (hk:k≤1000) {es:List Ent} {cs:List (ByteArray × Int)} (h1:es.Perm T.L.es) (h2:cs.Perm T.L.cs):(encB es cs).length≤3000000000:=by
 have l1:es.length≤1000:=by rw[h1.length_eq];have:=hi.len;omega
 have l2:cs.length≤1000:=by rw[h2.length_eq];have:=hi.clen;omega
 have q1:=Wire.Zaq 9 es.length (by omega);have q2:=Zez (f:=Lock.encE) (P:=fun e=>e ∈ T.L.es) (k:=2100000) (fun a ha=>encE_len (hi.path a ha) (hf a ha) (by have:=hi.stamp1 a ha;omega)) es (fun a ha=>h1.mem_iff.1 ha);have q3:=Wire.Zaq 9 cs.length (by omega);have q4:=Zez (f:=Lock.encC) (P:=fun c=>c ∈ T.L.cs) (k:=200) (fun a ha=>encC_len (hi.cpath a ha)) cs (fun a ha=>h2.mem_iff.1 ha);unfold Lock.encB;simp only[List.length_append]
 omega
theorem ZhC {l r:List (ByteArray × Int)} (h1:l.Pairwise ltC) (h2:r.Pairwise ltC) (hp:l.Perm r):l=r:=
 hp.eq_of_pairwise (le:=ltC) (fun a b _ _ h3 h4=>absurd (Txt.Zco h3 h4) (Txt.Zdo _)) h1 h2
def Zgo (T:TS) (L:List SR) (l:List Int):Prop:=∃(es:List Ent) (cs:List (ByteArray × Int)),(es.Perm T.L.es∧es.Pairwise ltE∧cs.Perm T.L.cs∧cs.Pairwise ltC)∧l=encL L++encB es cs
theorem ZjL {T T':TS} (h:LEq T.L T'.L) {L:List SR} {l l':List Int} (h1:Zgo T L l) (h2:Zgo T' L l'):l=l':=by
 obtain⟨es,cs,⟨a1,a2,a3,a4⟩,rfl⟩:=h1;obtain⟨fs,ds,⟨b1,b2,b3,b4⟩,rfl⟩:=h2;rw[Lock.Zjh a2 b2 (a1.trans (h.es.trans b1.symm)),ZhC a4 b4 (a3.trans (h.cs.trans b3.symm))]
def BytesP (w:World) (t p m:Nat) (ss:List Ses) (b:Lock.Bk) (T:TS) (L:List SR) (e:Ending) (w':World):Prop:=
 ∃(v:Value) (l:List Int),e=.returned v∧Zgo T L l∧l.length≤100000000000∧At [TabP t p m ss b] w [rowY v l,TabP t p m ss b] w'
theorem Zln {w:World} {t p m:Nat} {ss:List Ses} {b:Lock.Bk} (h:Sep [TabP t p m ss b] w) {T:TS} (hR:TRel ss b T) {L:List SR} (hL:Rel T.S L) {k:Nat} (hi:TInv T k) (hf:Lock.Feet T.L) (hk:k≤400):
 Calls Tryz.prog 54 #[.pointer (some ⟨t,0,none⟩)] w (BytesP w t p m ss b T L):=by
 have hb:=Rel.bounds hL hi.s;have hLl:(encL L).length≤3000000000:=Zm6 (sr_ok hL hi.s) (by omega);have hRs:Rel ss L:=Rel.zs (by rw[hR.S];exact hL);have hbs:(⟨b.p,b.m,b.c⟩:Lock.Pl).at b.st=b:=rfl
 have hli:Lock.Inv b.st k:=by rw[hR.L];exact hi.lock
 have hlf:Lock.Feet b.st:=by rw[hR.L];exact hf
 have hB0:=fun(es:List Ent) (cs:List (ByteArray × Int)) (h1:es.Perm b.st.es) (h2:cs.Perm b.st.cs)=>encB_len (T:=T) hi.lock hf (by omega) (es:=es) (cs:=cs) (by rw[←hR.L];exact h1) (by rw[←hR.L];exact h2)
 have hRL:=Hd hR.L;have hb':=Hd hb;have hLl':=Hd hLl;have hRs':=Hd hRs;have hli':=Hd hli;have hlf':=Hd hlf;have hB0':=Hd hB0;clear hR hL hi hf hb hLl hRs hli hlf hB0 hbs;have hA:=ZaX h;clear h;obtain⟨hA,hF⟩:=fZ hA
 go_enter Tryz.func54,Tryz.ntmps54
 go_wp2_with ((with_reducible refine gbx ?_);refine wHz 64 [.slice none 0 0] hA ?_;clear hF hA;intro b5 w1 hA hb5 hF)
 have hC:=Wire.ZfQ hA;refine(Lease.put_any (hC.sep3 (A:=Lease.BookP p m ss) (B:=Wire.outC b5 (.slice none 0 0)) (C:=rowY (.slice none 0 0) []) sZ sZ sZ) hRs'.out hb'.out.1 (by have:=hb'.out.2;omega) (by simp)).mono ?_;rintro e w1 ⟨rfl,u1,hT⟩;replace hA:=hC.call3 (A:=Lease.BookP p m ss) (B:=Wire.outC b5 (.slice none 0 0)) (C:=rowY (.slice none 0 0) []) sZ sZ sZ hT;clear hT hC hF
 try simp only[uA] at hA
 obtain⟨hA,hF⟩:=fZ hA
 go_wp2_with fail
 refine(Lock.put_any (a:=⟨b.p,b.m,b.c⟩) (s:=b.st) (hA.sep3 (A:=Lock.BookP b) (B:=Wire.outC b5 u1) (C:=rowY u1 (encL L)) sZ sZ sZ) hli'.out hlf'.out (by omega) (by have:=hLl'.out;omega)).mono ?_;rintro e w1 ⟨es,cs,u2,rfl,p1,p2,p3,p4,hT⟩;replace hA:=hA.call3 (A:=Lock.BookP b) (B:=Wire.outC b5 u1) (C:=rowY u1 (encL L)) sZ sZ sZ hT;clear hT hF
 try simp only[uA] at hA
 obtain⟨hA,hF⟩:=fZ hA
 have hll:(encL L++encB es cs).length≤100000000000:=by
  have h1:=hB0'.out es cs p1 p3;have h2:=hLl'.out;rw[List.length_append]
  omega
 have hbo:Zgo T L (encL L++encB es cs):=⟨es,cs,⟨by rw[←hRL.out];exact p1,p2,by rw[←hRL.out];exact p3,p4⟩,rfl⟩
 have hll':=Hd hll;have hbo':=Hd hbo;clear hll hbo p1 p2 p3 p4
 generalize encL L++encB es cs=l at *
 go_wp2_with fail
 refine(Wire.Zmv (hA.sep2 (A:=Wire.outC b5 u2) (B:=rowY u2 l) sZ sZ) (by have:=hll'.out;omega)).mono ?_;rintro e w1 ⟨v,rfl,hT⟩;replace hA:=hA.call2 (A:=Wire.outC b5 u2) (B:=rowY u2 l) sZ sZ hT;clear hT hF
 try simp only[uA] at hA
 obtain⟨hA,hF⟩:=fZ hA
 go_wp2_with fail
 go_ret;exact⟨v,l,rfl,hbo'.out,hll'.out,(Zcd (ss:=ss) (b:=b) hA sZ sZ sZ).pick pZ⟩
end Tab
end
end Go.Proofs.YtkdjkngfnapjcaaGreatDoor
