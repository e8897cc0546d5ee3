import Derived.Test.YtknoefbcmomalaaGreatDoorSortt
import Derived.Test.YtknoefbcmomalaaGreatDoorP10
import Derived.Sort.OwnSorted
import Derived.Test.YtknoefbcmomalaaGreatDoorP5
import Derived.Lib.QuietBelow
set_option linter.unusedSimpArgs false
set_option linter.unusedVariables false
set_option maxRecDepth 100000
set_option maxHeartbeats 16000000
namespace Go.Proofs.YtknoefbcmomalaaGreatDoor
section
namespace Mark
open Go.RowKit
open Go.Sort Go.Shelf
def orI (a b:Int):Int:=if a=0 then b else a
theorem or2 (a b:Int) (g:Nat) (w:World) (h0:w.cell? ⟨g,0,none⟩=some (.int .i64 a)) (h1:w.cell? ⟨g,1,none⟩=some (.int .i64 b)):
 Calls Tryz.prog 49 #[.slice (some ⟨g,0,none⟩) 2 2] w fun e w'=>e=.returned (.int .i64 (orI a b))∧w=w':=by
 by_cases ha:a=0
 · subst ha;by_cases hb:b=0
   · subst hb;go_enter Tryz.func49,Tryz.ntmps49;go_wp2
     refine wp_loop_rounds 3 ?_;rw[rounds_succ];go_wp2
     rw[rounds_succ];go_wp2
     rw[rounds_succ];go_wp2
     go_ret;exact⟨rfl,rfl⟩
   have hb':(b==0)=false:=by simpa using hb
   go_enter Tryz.func49,Tryz.ntmps49;go_wp2
   refine wp_loop_rounds 2 ?_;rw[rounds_succ];go_wp2
   rw[rounds_succ];go_wp2
   refine bodyPost_ret (results_tmp rfl _ _ _) rfl ?_;exact⟨rfl,rfl⟩
 have ha':(a==0)=false:=by simpa using ha
 have e:orI a b=a:=by simp[orI,ha]
 rw[e];go_enter Tryz.func49,Tryz.ntmps49;go_wp2
 refine wp_loop_rounds 1 ?_;rw[rounds_succ];go_wp2
 refine bodyPost_ret (results_tmp rfl _ _ _) rfl ?_;exact⟨rfl,rfl⟩
def cmpID (x y:Int × Int):Int:=orI (Lib.compareInt x.1 y.1) (Lib.compareInt x.2 y.2)
theorem ZeC (W:World) (A B C:Obj) (n:Nat):(((W.alloc A).alloc B).drewN n).alloc C=grow (W.drewN n) #[A,B,C]:=by
 rw[alloc_eq_grow W,alloc_eq_grow _ B,alloc_eq_grow _ C,grow_grow];show grow (grow (W.drewN n) _) _=_;rw[grow_grow];rfl
theorem Zcq (X:World) (n:Nat) (h:X.heap.size=n) (cs:Array Value) (t:TypeId) (j:Nat) (v:Value) (hv:cs[j]? =some v):(X.alloc (.cells cs t)).cell? ⟨n,j,none⟩=some v:=by
 subst h;rw[World.cell?,World.alloc_heap_new];exact hv
def ltID (x y:Int × Int):Prop:=x.1 < y.1∨(x.1=y.1∧x.2 < y.2)
instance (x y:Int × Int):Decidable (ltID x y):=by unfold ltID;infer_instance
theorem ZdG (x y:Int × Int):ltOf cmpID x y=decide (ltID x y):=by
 unfold ltOf cmpID orI Lib.compareInt ltID;by_cases h1:x.1 < y.1
 · simp[h1]
 by_cases h2:y.1 < x.1
 · have:x.1≠y.1:=by omega
   simp[h1,h2,this]
 have:x.1=y.1:=by omega
 by_cases h3:x.2 < y.2
 · simp[this,h3]
 by_cases h4:y.2 < x.2<;>simp[this,h3,h4]
theorem totID (x y:Int × Int) (h1:ltOf cmpID x y=false) (h2:ltOf cmpID y x=false):x=y:=by
 rw[ZdG] at *
 simp only[decide_eq_true_eq,decide_eq_false_iff_not] at *
 obtain⟨a,b⟩:=x;obtain⟨c,d⟩:=y;unfold ltID at *
 simp only[Prod.mk.injEq];simp only at h1 h2;omega
def Zgc (l:List (Int × Int)):List (Int × Int):=l.mergeSort fun x y=> !ltOf cmpID y x
end Mark
end
section
namespace Lock
open Go.Sort Go.Shelf
open Go.Lib (compareBytes compareInt)
open _root_.Go.Proofs.YtknoefbcmomalaaGreatDoor.Mark (orI)
open Path (bl Zaf overB Zai cmpL cmpP)
def keyL (e:Ent):List Path.Bs:=Zai (bl e.path)
def ltE (x y:Ent):Prop:=cmpL (keyL x) (keyL y) < 0∨(keyL x=keyL y∧x.stamp < y.stamp)
instance (x y:Ent):Decidable (ltE x y):=by unfold ltE;infer_instance
def cmpE (x y:Ent):Int:=orI (cmpP (bl x.path) (bl y.path)) (compareInt x.stamp y.stamp)
theorem bl_inj {a b:ByteArray} (h:bl a=bl b):a=b:=by
 unfold bl at h;have:a.data=b.data:=by rw[←Array.toList_inj];exact h
 cases a;cases b;simp_all
theorem ZdE {x y:Ent} (h:keyL x=keyL y):x.path=y.path:=bl_inj (Path.Zdc h)
theorem Zom {x y:Ent} (hx:Zaf (bl x.path)=true) (hy:Zaf (bl y.path)=true):decide (cmpE x y < 0)=decide (ltE x y):=by
 have hcp:cmpP (bl x.path) (bl y.path)=cmpL (Zai (bl x.path)) (Zai (bl y.path)):=by simp[cmpP,hx,hy]
 unfold cmpE orI compareInt ltE;rw[hcp];show _=decide (cmpL (Zai (bl x.path)) (Zai (bl y.path)) < 0∨(Zai (bl x.path)=Zai (bl y.path)∧x.stamp < y.stamp));generalize hp:Zai (bl x.path)=p;generalize hq:Zai (bl y.path)=q;by_cases h0:cmpL p q=0
 · have e:=Path.cl_eq h0;subst e;rw[Path.ZfY];by_cases h1:x.stamp < y.stamp
   · simp[h1]
   by_cases h2:y.stamp < x.stamp<;>simp[h1,h2]
 have hne:p≠q:=fun e=>h0 (by rw[e];exact Path.ZfY q);simp[h0,hne]
theorem ZeK (x:Ent):¬ltE x x:=by
 unfold ltE;rw[Path.ZfY];omega
theorem ZcY {x y z:Ent} (h1:ltE x y) (h2:ltE y z):ltE x z:=by
 unfold ltE at *
 rcases h1 with h1|⟨h1,h1'⟩
 · rcases h2 with h2|⟨h2,_⟩
   · exact .inl (Path.Ziv h1 h2)
   exact .inl (by rw[←h2];exact h1)
 rcases h2 with h2|⟨h2,h2'⟩
 · exact .inl (by rw[h1];exact h2)
 exact .inr ⟨h1.trans h2,by omega⟩
theorem ZfF (x y:Ent):ltE x y∨(keyL x=keyL y∧x.stamp=y.stamp)∨ltE y x:=by
 unfold ltE;have h:=Path.Zk2 (keyL x) (keyL y);by_cases h0:cmpL (keyL x) (keyL y)=0
 · have e:=Path.cl_eq h0;rcases Int.lt_trichotomy x.stamp y.stamp with q|q|q
   · exact .inl (.inr ⟨e,q⟩)
   · exact .inr (.inl ⟨e,q⟩)
   exact .inr (.inr (.inr ⟨e.symm,q⟩))
 by_cases h1:cmpL (keyL x) (keyL y) < 0
 · exact .inl (.inl h1)
 exact .inr (.inr (.inl (by omega)))
abbrev EntI (es:List Ent):={e:Ent // e ∈ es}
def cmpI (es:List Ent) (x y:EntI es):Int:=cmpE x.1 y.1
def encI (es:List Ent) (x:EntI es):List Value:=x.1.cells
structure Sortable (es:List Ent):Prop where
 right:∀e ∈ es,Zaf (bl e.path)=true
 one:∀a ∈ es,∀b ∈ es,a.path=b.path→a.stamp=b.stamp→a=b
theorem Inv.sortable {s:S3} {k:Nat} (h:Inv s k):Sortable s.es:=⟨h.right,fun a ha b hb hp hs=>by
 obtain⟨i,hi⟩:=List.mem_iff_getElem?.1 ha;obtain⟨j,hj⟩:=List.mem_iff_getElem?.1 hb;obtain⟨hi1,hi2⟩:=List.getElem?_eq_some_iff.1 hi;obtain⟨hj1,hj2⟩:=List.getElem?_eq_some_iff.1 hj;have hp':=List.pairwise_iff_getElem.1 h.order;have ho:overB (bl a.path) (bl a.path)=true:=Path.Zgo (h.right a ha);rcases Nat.lt_trichotomy i j with q|q|q
 · have:=hp' i j hi1 hj1 q
   rw[hi2,hj2,←hp] at this;have:=this ho;omega
 · subst q;rw[hi] at hj;exact Option.some.inj hj
 have:=hp' j i hj1 hi1 q
 rw[hi2,hj2,←hp] at this;have:=this ho
 omega⟩
section
variable {es:List Ent} (H:Sortable es)
include H
theorem Zcj (x y:EntI es):ltOf (cmpI es) x y=decide (ltE x.1 y.1):=Zom (H.right _ x.2) (H.right _ y.2)
theorem totI (x y:EntI es) (h1:ltOf (cmpI es) x y=false) (h2:ltOf (cmpI es) y x=false):x=y:=by
 rw[Zcj H] at *
 rcases ZfF x.1 y.1 with q|q|q
 · exact absurd q (of_decide_eq_false h1)
 · exact Subtype.ext (H.one _ x.2 _ y.2 (ZdE q.1) q.2)
 exact absurd q (of_decide_eq_false h2)
theorem swoI:SWO (ltOf (cmpI es)) where
 irrefl x:=by rw[Zcj H];exact decide_eq_false (ZeK _)
 trans x y z h1 h2:=by rw[Zcj H] at *;exact decide_eq_true (ZcY (of_decide_eq_true h1) (of_decide_eq_true h2))
 ntrans x y z h1 h2:=by
  rw[Zcj H] at *
  refine decide_eq_false fun h=> ?_;have n1:=of_decide_eq_false h1;have n2:=of_decide_eq_false h2;rcases ZfF x.1 y.1 with q|q|q
  · exact n1 q
  · have e:x=y:=Subtype.ext (H.one _ x.2 _ y.2 (ZdE q.1) q.2);subst e;exact n2 h
  exact n2 (ZcY q h)
def sortI (_:Sortable es) (l:List (EntI es)):List (EntI es):=l.mergeSort fun x y=> !ltOf (cmpI es) y x
omit H in
theorem ZjK (H:Sortable es) (l:List (EntI es)):(sortI H l).length=l.length:=List.length_mergeSort l
omit H in
theorem ZeE (H:Sortable es) (l:List (EntI es)):(sortI H l).Perm l:=List.mergeSort_perm l _
omit H in
theorem ZlC (H:Sortable es) (l:List (EntI es)):(sortI H l).Pairwise (fun a b=>(!ltOf (cmpI es) b a)=true):=by
 refine List.pairwise_mergeSort ?_ ?_ l
 · intro a b c h1 h2;rw[Zcj H] at *
   simp only[Bool.not_eq_true',decide_eq_false_iff_not] at *
   intro h;rcases ZfF b.1 a.1 with q|q|q
   · exact h1 q
   · have e:b=a:=Subtype.ext (H.one _ b.2 _ a.2 (ZdE q.1) q.2);subst e;exact h2 h
   exact h2 (ZcY h q)
 intro a b;rw[Zcj H,Zcj H];simp only[Bool.or_eq_true,Bool.not_eq_true',decide_eq_false_iff_not];by_cases h:ltE b.1 a.1
 · right
   intro h';exact ZeK _ (ZcY h h')
 exact .inl h
end
theorem ZlB {es:List Ent} (H:Sortable es) (l:List (EntI es)) (hn:l.Nodup):((sortI H l).map (·.1)).Pairwise ltE:=by
 have h2:(sortI H l).Nodup:=(ZeE H l).nodup_iff.2 hn;rw[List.pairwise_map];refine((ZlC H l).and h2).imp ?_;rintro a b ⟨h,hne⟩;rw[Zcj H] at h;simp only[Bool.not_eq_true',decide_eq_false_iff_not] at h;rcases ZfF a.1 b.1 with q|q|q
 · exact q
 · exact absurd (Subtype.ext (H.one _ a.2 _ b.2 (ZdE q.1) q.2)) hne
 exact absurd q h
def toI {es:List Ent}:(l:List Ent)→(∀x ∈ l,x ∈ es)→List (EntI es)
 |[],_=>[]
 |x::l,h=>⟨x,h x (by simp)⟩::toI l (fun y hy=>h y (by simp[hy]))
theorem Zjw {es:List Ent}:∀(l:List Ent) (h:∀x ∈ l,x ∈ es),(toI l h).map (·.1)=l
 |[],_=>rfl
 |x::l,h=>by rw[toI,List.map_cons,Zjw l]
theorem ZgJ {es:List Ent} (l:List (EntI es)):l.flatMap (encI es)=(l.map (·.1)).flatMap Ent.cells:=by
 induction l with
 |nil=>rfl
 |cons x l ih=>rw[List.flatMap_cons,List.map_cons,List.flatMap_cons,ih];rfl
end Lock
end
section
namespace Lock
open _root_.Go.Proofs.YtknoefbcmomalaaGreatDoor.Mark (seenOf seenOf_eq iter_walk iter_keeps grown_of_exc grown_of_ext Box Box.own)
open Go.RowKit Go.Shelf
open Go.Maps (Keyed)
attribute [local go_sem] Oper.semAt_some
def unE2:Value→Ent
 |.agg #[.string p,.int _ n,.string f,.int _ m,.int _ k,.int _ s]=>⟨p,n,f,m,k,s⟩
 |_=>nullE
theorem Zhl {l m:List Ent} (h:(l.map Ent.val).Perm (m.map Ent.val)):l.Perm m:=by
 have:=h.map unE2
 have e:∀x:Ent,unE2 x.val=x:=fun _=>rfl;simpa [List.map_map,Function.comp_def,e] using this
theorem Zls (F:Fence) (n:Nat) (h1:F.fn 83) (hro:F.round=none) (hn:1≤n) (l Bm b:Nat) (es:List (Value × Value)) (ks:List (Ent)) (hes:es.map (·.2)=ks.map Ent.val) (J Jx:List (Ent)→World→Prop)
 (W:World) (hJ:AbidesFrom W.heap.size J)
 (hY:∀pre x W1,J pre W1→pre.length < ks.length→YieldAt F (n - 1) Tryz.prog l #[x.val] W1 fun e W'=>(e=.returned (.bool true)∧J (pre++[x]) W'∧KeepsWalks W1 W')∨(e=.returned (.bool false)∧Jx (pre++[x]) W'))
 (hm:W.cell? ⟨Bm,0,none⟩=some (.map (some b))) (hM:MapAt Tryz.prog 106 W b es) (h0:J [] W):
 CallsIn F n Tryz.prog 83 #[.func (.yield l) #[] #[],.pointer (some ⟨Bm,0,none⟩)] W fun e W'=>(∃v,e=.returned v)∧((∃ys,ys.Perm ks∧J ys W')∨(∃pre,True∧Jx pre W')):=by
 obtain⟨W0,hrun,hext,hI⟩:=Zax.start hM Tryz.underlying104;have hJ0:J [] W0:=hJ _ W W0 none h0 (grown_of_ext hext) (fun r e=>by cases e);refine callsIn_of_wp Tryz.func83 rfl h1 ?_ hro;simp only[Tryz.ntmps83,List.size_toArray,List.length_cons,List.length_nil,Nat.reduceAdd,Nat.reduceSub,Array.replicate_succ,Array.replicate_zero,List.push_toArray,List.append_toArray,List.nil_append,List.cons_append];gi_wp2
 clear hrun;(try go_frame)
 gi_loopw [4] (fun _ wr=>∃(done:List (Value × Value)) (ds:List (Ent)),Zax Tryz.prog 106 wr W.heap.size b es done∧done.map (·.2)=ds.map Ent.val∧J ds wr)
  (fun _ wr=>es.length - seenOf wr W.heap.size)
 case atStart=>exact⟨[],[],hI,rfl,hJ0⟩
 case round=>
  obtain⟨done,ds,hI1,hd,hJs⟩:=hrel;rcases hI1.next 0 with⟨hp,hrun⟩|⟨p,w',hp,hne,hrun,hI2,hx⟩
  · have hpp:ds.Perm ks:=(Zhl (by rw[←hes,←hd];exact hp.map _)).symm;clear hes hd;gi_wp2
    go_end0
    exact⟨⟨_,rfl⟩,.inl ⟨ds,hpp,hJs⟩⟩
  obtain⟨pk,pv⟩:=p;have hpk:pv ∈ es.map (·.2):=List.mem_map.2 ⟨_,hp,rfl⟩;rw[hes] at hpk;obtain⟨x,_,rfl⟩:=List.mem_map.1 hpk
  have hlen:ds.length < ks.length:=by
   have e1:=congrArg List.length hes;have e2:=congrArg List.length hd;have e3:=hI2.len;simp at e1 e2 e3
   omega
  have hJ1:J ds w':=hJ ds wr w' (some W.heap.size) hJs (grown_of_exc hx) (fun r e=>by cases e;exact⟨Nat.le_refl _,iter_walk hI1⟩);have hJ2:J ds (w'.alloc (.cells #[.string x.path,.int .u64 x.num,.string x.foot,.int .i64 x.mode,.int .u64 x.n,.int .i64 x.stamp] 55)):=hJ _ _ _ none hJ1 (World.grownBy_alloc _ _ none) (fun r e=>by cases e);have hI3:Zax Tryz.prog 106 (w'.alloc (.cells #[.string x.path,.int .u64 x.num,.string x.foot,.int .i64 x.mode,.int .u64 x.n,.int .i64 x.stamp] 55)) W.heap.size b es (done++[(pk,x.val)]):=(Part.iter _ _ _ _ _ _).stay _ _ hI2 (fun q hq=>Below.heap_alloc _ _ _ ((Part.iter _ _ _ _ _ _).lt _ hI2 q hq));obtain⟨fn,tmps,assign,body,hy,hR⟩:=hY ds x _ hJ2 hlen;have hen:=hI2.entry;have hs0:=seenOf_eq hI1;have hes':=Hd hes;have hd':=Hd hd;have hs':=Hd hs0;have hle:=hI2.len;clear hes hd hs0 hpk hp hne hx;unfold Ent.val at hrun hen hy;gi_wp2
  refine hR.mono ?_;rintro e W3 (⟨rfl,hJ3,hk3⟩|⟨rfl,hJx3⟩)
  · gi_wp2
    go_roundw
    case rel=>exact⟨done++[(pk,x.val)],ds++[x],iter_keeps hI3 hk3,by simp[hd'.out],hJ3⟩
    case measure=>
     have e1:=seenOf_eq (iter_keeps hI3 hk3);have e2:=hs'.out;rw[e1,e2];simp at hle ⊢
     omega
  gi_wp2
  refine bodyPost_ret (results_none rfl _ _ _) rfl ?_;exact⟨⟨_,rfl⟩,.inr ⟨_,trivial,hJx3⟩⟩
theorem Znq (F:Fence) (n:Nat) (h1:F.fn 46) (hro:F.round=none) (mb:Option Nat) (w:World):
 CallsIn F n Tryz.prog 46 #[.map mb] w fun e w'=>e=.returned (.func (.func 83) #[] #[.pointer (some ⟨w.heap.size,0,none⟩)])∧w'=w.alloc (.cells #[.map mb] 104):=by
 refine callsIn_of_wp Tryz.func46 rfl h1 ?_ hro;simp only[Tryz.ntmps46,List.size_toArray,List.length_cons,List.length_nil,Nat.reduceAdd,Nat.reduceSub,Array.replicate_succ,Array.replicate_zero,List.push_toArray,List.append_toArray,List.nil_append,List.cons_append];gi_wp2
 go_ret;exact⟨rfl,rfl⟩
theorem ZiI (F:Fence) (n:Nat) (h1:F.fn 83) (hro:F.round=none) (hn:1≤n) (Bm b:Nat) (es:List (Value × Value)) (ks:List (Ent)) (hes:es.map (·.2)=ks.map Ent.val) (w:World) (hBm:Bm < w.heap.size)
 (hm:w.cell? ⟨Bm,0,none⟩=some (.map (some b))) (hM:MapAt Tryz.prog 106 w b es):
 SeqStopsK F n Tryz.prog 83 #[.pointer (some ⟨Bm,0,none⟩)] (fun x:Ent=> #[x.val]) KeepsWalks (fun ys=>ys.Perm ks) (fun _=>True) ks.length w:=fun l J Jx W hW hJ _ hY h0=>
 Zls F n h1 hro hn l Bm b es ks hes J Jx W hJ hY ((hW.cell (p:=⟨Bm,0,none⟩) hBm).trans hm) (hM.same (hW.block b hM.lt)) h0
theorem infoID:(Tryz.prog.info? 55).map (fun i=>(i.zero,i.size,i.bytes))=some (some (.agg #[.string .empty,.int .u64 0,.string .empty,.int .i64 0,.int .u64 0,.int .i64 0]),6,64):=by kernel_rfl
theorem Znw (W:World) (a b c d e f:Value) (t:TypeId):∀(j:Nat) (u:Value),[a,b,c,d,e,f][j]? =some u→(W.alloc (.cells #[a,b,c,d,e,f] t)).cell? ((⟨W.heap.size,0,none⟩:Addr).add j)=some u:=by
 intro j u h
 match j,h with
 |0,h=>simp at h;subst h;simp[Addr.add]
 |1,h=>simp at h;subst h;simp[Addr.add]
 |2,h=>simp at h;subst h;simp[Addr.add]
 |3,h=>simp at h;subst h;simp[Addr.add]
 |4,h=>simp at h;subst h;simp[Addr.add]
 |5,h=>simp at h;subst h;simp[Addr.add]
 |j + 6,h=>simp at h
def MidI (w:World) (pre:List (Ent)) (W:World):Prop:=
 (∃v,Boxed W w.heap.size 52 v∧W.ownsRow w.heap.size 55 6 v pre.length (pre.flatMap Ent.cells)∧(v=.slice none 0 0↔pre=[]))∧Below w.heap.size w W
theorem midI_own (w:World) (B:Nat) (hB:w.heap.size≤B):OwnFrom B (MidI w):=
 OwnFrom.and (Own.from (holdsRow_own w.heap.size w.heap.size 52 55 6 (fun pre=>pre.length) (fun pre=>pre.flatMap Ent.cells) (fun pre v=>v=.slice none 0 0↔pre=[])) _) (ownFrom_below (Nat.le_refl _) hB)
def MidAx (w:World) (sv:Value) (x:Ent) (a':Act) (W:World):Prop:=
 ∃Bx,w.heap.size < Bx∧Box W Bx 55 #[.string x.path,.int .u64 x.num,.string x.foot,.int .i64 x.mode,.int .u64 x.n,.int .i64 x.stamp]∧a'={tmps:= #[.slice none 0 0,sv,.pointer (some ⟨w.heap.size,0,none⟩),undef,.slice none 0 0,.pointer (some ⟨Bx,0,none⟩),sv,x.val,undef,undef,undef,undef,undef],defers:=[]}
theorem midAx_own (w:World) (sv:Value) (B:Nat) (x:Ent) (a':Act):OwnFrom B (fun(_:Unit) W=>MidAx w sv x a' W):=by
 rintro s X Y row ⟨Bx,h1,h2,h3⟩ hg hr;exact⟨Bx,h1,(Box.own (β:=Unit) Bx _ _).from B () X Y row h2 hg hr,h3⟩
theorem appendSeq_in (F:Fence) (n:Nat) (hF:F.fn 82) (hro:F.round=none) (hn:3≤n) (gf:Nat) (lb:Array Value) (hFg:F.fn gf) (eg:∀args w,(callFunc gf args).run Tryz.prog w=.ok (.enter gf args) w)
 (S Sp:List (Ent)→Prop) (N:Nat) (hN:N≤100000000) (w:World) (hseq:SeqStopsK F (n - 1) Tryz.prog gf lb (fun x:Ent=> #[x.val]) KeepsWalks S Sp N w):
 CallsIn F n Tryz.prog 82 #[.slice none 0 0,.func (.func gf) #[] lb] w fun e w'=>∃(v:Value) (ss:List (Ent)),e=.returned v∧S ss∧w'.ownsRow w.heap.size 55 6 v ss.length (ss.flatMap Ent.cells)∧(v=.slice none 0 0↔ss=[])∧Below w.heap.size w w':=by
 have h1:1≤n:=by omega
 obtain⟨i0,hi,hz0,hz1,hz2⟩:=info_parts infoID;refine callsIn_of_wp_marks Tryz.func82 rfl hF ?_ hro;simp only[Tryz.ntmps82,List.size_toArray,List.length_cons,List.length_nil,Nat.reduceAdd,Nat.reduceSub,Array.replicate_succ,Array.replicate_zero,List.push_toArray,List.append_toArray,List.nil_append,List.cons_append];gi_wp2
 have bO:=Boxed.new w 52 (.slice none 0 0);have hB0:Below w.heap.size w (w.alloc (.cells #[.slice none 0 0] 52)):=(Below.refl _ w).alloc (Nat.le_refl _) _
 refine wpIn_rangeFunc_ownH hro h1 (gf:=gf) (lb:=lb) rfl hFg eg hseq walksK_t walksK_b hB0 (fun _=>rfl)
  (MidI w) (fun _ _ _=>False) (midI_own w _ (by simp)) (fun _ _ _ _ _ hs _ _=>hs)
  ⟨⟨_,bO,World.ownsRow_nil _ _ _ _,by simp⟩,hB0⟩
  (MidAx w (.func (.func gf) #[] lb)) (fun x a'=>midAx_own w _ _ x a') ?assign ?body ?done ?stop
 case assign=>
  rintro l pre x W K ⟨⟨v,hv,hrow,hnil⟩,hB⟩ hK;have hsz:=hB.size;unfold Ent.val;gi_wp2
  refine hK _ _ ((KeepsOthers.alloc _ _).from _) (KeepsWalks.alloc _ _) ⟨⟨v,hv.alloc _,hrow.alloc _,hnil⟩,hB.alloc hB.size _⟩ ⟨W.heap.size,hv.lt,World.alloc_heap_new W _,rfl⟩
 case body=>
  rintro l pre x a' W hl ⟨r,hr⟩ ⟨⟨v,hv,hrow,hnil⟩,hB⟩ ⟨Bx,hBx,bX,rfl⟩ hlt;have hc:=hv.cell;have c0:W.cell? ⟨Bx,0,none⟩=some (.string x.path):=by unfold Box at bX;simp[World.cell?,bX]
  have c1:W.cell? ⟨Bx,1,none⟩=some (.int .u64 x.num):=by unfold Box at bX;simp[World.cell?,bX]
  have c2:W.cell? ⟨Bx,2,none⟩=some (.string x.foot):=by unfold Box at bX;simp[World.cell?,bX]
  have c3:W.cell? ⟨Bx,3,none⟩=some (.int .i64 x.mode):=by unfold Box at bX;simp[World.cell?,bX]
  have c4:W.cell? ⟨Bx,4,none⟩=some (.int .u64 x.n):=by unfold Box at bX;simp[World.cell?,bX]
  have c5:W.cell? ⟨Bx,5,none⟩=some (.int .i64 x.stamp):=by unfold Box at bX;simp[World.cell?,bX]
  have hsz:=hB.size
  gi_wp2_with (gi_at_builtin;refine wpListIn_append_own _ rfl _ _ 52 rfl w.heap.size 55 i0 (.agg #[.string .empty,.int .u64 0,.string .empty,.int .i64 0,.int .u64 0,.int .i64 0]) 6 64 Tryz.underlying52 hi hz0 hz1 hz2 rfl (by decide) _ _ _ rfl (hrow.alloc _) ⟨W.heap.size,0,none⟩ 1 1 [.string x.path,.int .u64 x.num,.string x.foot,.int .i64 x.mode,.int .u64 x.n,.int .i64 x.stamp] rfl rfl (Znw _ _ _ _ _ _ _ _) (by simp[Value.oneCell']) (by unfold maxLen;omega) (by omega) (by simp;omega) ?_;intro v' w1 hown' hgrow _;obtain⟨g',cap',rfl⟩:=ownsRow_succ hown';obtain⟨hv1,hv2,hr2,hk2,hb2⟩:=hv.appended (by decide) hrow hB.size (Nat.le_refl _) hown' hgrow;have hc1:=hv1.cell;have hf1:=hv1.frozen)
  exact⟨hk2.from _,hk2.walks,⟨_,hv2,by simpa [Ent.cells] using hr2,by simp⟩,hB.trans hb2⟩
 case done=>
  rintro D ys W hD hS ⟨⟨v,hv,hrow,hnil⟩,hB⟩ hK;have hc:=hv.cell;gi_wp2
  refine⟨by simp,.inl ⟨_,_,rfl,run_takeDeferred hK,?_⟩⟩;exact⟨_,results_tmp rfl _ _ _,v,ys,rfl,hS,ownsRow_putObj hrow _ hK rfl,hnil,hB.trans (belowK_b (w:=w) (Nat.le_refl _) W D _ _ (by simp at hD;omega) hK rfl rfl)⟩
 case stop=>
  rintro D c pre W _ _ h _;exact h.elim
theorem collect_in (F:Fence) (n:Nat) (hF:F.fn 45) (hF2:F.fn 82) (hro:F.round=none) (hn:4≤n) (gf:Nat) (lb:Array Value) (hFg:F.fn gf) (eg:∀args w,(callFunc gf args).run Tryz.prog w=.ok (.enter gf args) w)
 (S Sp:List (Ent)→Prop) (N:Nat) (hN:N≤100000000) (w:World) (hseq:SeqStopsK F (n - 1 - 1) Tryz.prog gf lb (fun x:Ent=> #[x.val]) KeepsWalks S Sp N w):
 CallsIn F n Tryz.prog 45 #[.func (.func gf) #[] lb] w fun e w'=>∃(v:Value) (ss:List (Ent)),e=.returned v∧S ss∧w'.ownsRow w.heap.size 55 6 v ss.length (ss.flatMap Ent.cells)∧(v=.slice none 0 0↔ss=[])∧Below w.heap.size w w':=by
 have h1:1≤n:=by omega
 refine callsIn_of_wp Tryz.func45 rfl hF ?_ hro;simp only[Tryz.ntmps45,List.size_toArray,List.length_cons,List.length_nil,Nat.reduceAdd,Nat.reduceSub,Array.replicate_succ,Array.replicate_zero,List.push_toArray,List.append_toArray,List.nil_append,List.cons_append]
 gi_wp2_with (gi_at_call 82;refine(appendSeq_in F (n - 1) hF2 hro (by omega) gf lb hFg eg S Sp N hN _ hseq).mono ?_;rintro e W ⟨v,ss,rfl,hS,hrow,hnil,hb⟩)
 go_ret;exact⟨v,ss,rfl,hS,hrow,hnil,hb⟩
theorem ZgS (Bm b:Nat) (es:List (Value × Value)) (ks:List (Ent)) (hes:es.map (·.2)=ks.map Ent.val) (w:World) (hBm:Bm < w.heap.size) (hm:w.cell? ⟨Bm,0,none⟩=some (.map (some b))) (hM:MapAt Tryz.prog 106 w b es) (hN:ks.length≤100000000):
 Calls Tryz.prog 45 #[.func (.func 83) #[] #[.pointer (some ⟨Bm,0,none⟩)]] w fun e w'=>∃(v:Value) (ss:List (Ent)),e=.returned v∧ss.Perm ks∧w'.ownsRow w.heap.size 55 6 v ss.length (ss.flatMap Ent.cells)∧(v=.slice none 0 0↔ss=[])∧Below w.heap.size w w':=
 callsIn_wide.1 (collect_in Fence.wide 5 trivial trivial rfl (by omega) _ _ trivial (enters_of Tryz.func83 (by kernel_rfl) rfl) _ _ ks.length hN w
  (ZiI Fence.wide _ trivial rfl (by omega) Bm b es ks hes w hBm hm hM))
end Lock
end
section
namespace Mark
open Go.RowKit Go.Shelf Go.Sort
open Go.Maps (Keyed)
section
variable {α:Type} [Inhabited α]
theorem ZeT (enc:α→List Value) (k:Nat) (hk:∀x,(enc x).length=k) (l:List α):(flatK enc k l.toArray).toList=l.flatMap enc:=by
 apply List.ext_getElem?;intro t;by_cases ht:t < l.length * k
 · have hk0:0 < k:=by
    rcases Nat.eq_zero_or_pos k with h|h
    · subst h;omega
    exact h
   have hq:t / k < l.length:=Nat.div_lt_of_lt_mul (by rw[Nat.mul_comm];exact ht);have e:=Zbs enc k hk l (t / k) l[t / k] (List.getElem?_eq_getElem hq) (t % k) (Nat.mod_lt _ hk0);rw[Nat.mul_comm,Nat.div_add_mod] at e;rw[e,Array.getElem?_toList];have hm:t % k < (enc l[t / k]).length:=by rw[hk];exact Nat.mod_lt _ hk0
   simp[flatK,ht,hq,hm]
 rw[List.getElem?_eq_none (by simp;omega),List.getElem?_eq_none (by rw[ZaB enc k hk];omega)]
theorem ZgB {w:World} {g n:Nat} {os:Array Obj} {cur:Array Value} {e:TypeId} {fr:Nat × Nat} (F:Array Value) (hb:w.heap[g]? =some (.cells cur e fr)):
 (grow (putRow id (Sort.ahead w n) g 0 F) os).heap[g]? =some (.cells (putCells id 0 F cur) e fr):=by
 have hg:g < w.heap.size:=(Array.getElem?_eq_some_iff.1 hb).1;rw[heap_grow_old _ _ (by simpa using hg)];simp[putRow,mapBlock,Sort.ahead,Array.getElem?_modify,hb,onCells]
theorem Zbk {w:World} {g n:Nat} {os:Array Obj} (F:Array Value):w.grownBy (grow (putRow id (Sort.ahead w n) g 0 F) os) (some g):=by
 refine⟨rfl,rfl,rfl,by simp,fun k hk hne=> ?_⟩;rw[heap_grow_old _ _ (by simpa using hk)]
 have:g≠k:=fun e=>hne (by rw[e])
 simp[putRow,mapBlock,Sort.ahead,Array.getElem?_modify,this]
theorem Zjz (cur F:Array Value) (h:F.size≤cur.size):(putCells id 0 F cur).toList.take F.size=F.toList:=by
 apply List.ext_getElem?;intro j;by_cases hj:j < F.size
 · rw[List.getElem?_take_of_lt hj,Array.getElem?_toList];simp[putCells,hj,show j < cur.size by omega]
 rw[List.getElem?_take_eq_none (by omega),List.getElem?_eq_none (by simp;omega)]
theorem Zcp (enc:α→List Value) (k:Nat) (hk:∀x,(enc x).length=k) {w:World} {base g cap n:Nat} {e:TypeId} {os:Array Obj} {cur:Array Value} {ss ts:List α} (hl:ts.length=ss.length) (hbase:base≤g) (hb:w.heap[g]? =some (.cells cur e (0,0)))
 (h1:ss.length≤cap) (h2:cap≤maxLen) (h3:cur.size=cap * k):
 (sortWorldK enc k w g 0 n ts.toArray os).ownsRow base e k (.slice (some ⟨g,0,none⟩) ss.length cap) ss.length (ts.flatMap enc):=by
 have hsz:(flatK enc k ts.toArray).size=ss.length * k:=by simp[hl]
 refine⟨by rw[ZaB enc k hk,hl],.inr ⟨g,cap,_,rfl,hbase,ZgB (flatK enc k ts.toArray) hb,h1,h2,by simp[putCells,h3],?_⟩⟩;have:=Zjz cur (flatK enc k ts.toArray) (by rw[hsz,h3];exact Nat.mul_le_mul_right _ h1);rw[hsz,ZeT enc k hk] at this;exact this
theorem Zc0 (enc:α→List Value) (k:Nat) (hk:∀x,(enc x).length=k) {w:World} {g:Nat} {cur:Array Value} {e:TypeId} {ss:List α} (hb:w.heap[g]? =some (.cells cur e (0,0))) (ht:cur.toList.take (ss.length * k)=ss.flatMap enc):HoldsK enc k w g 0 ss.toArray:=by
 intro j hj;have hj':j < ss.length * k:=by simpa using hj
 refine⟨?_,by simp[World.frozen?,hb]⟩
 have h1:(cur.toList.take (ss.length * k))[j]? =(flatK enc k ss.toArray).toList[j]? :=by rw[ht,ZeT enc k hk]
 rw[List.getElem?_take_of_lt hj',Array.getElem?_toList,Array.getElem?_toList,Array.getElem?_eq_getElem hj] at h1;simp only[World.cell?,hb,Nat.zero_add];simp only[Option.isSome_none,Bool.false_eq_true,if_false];rw[h1,getElem!_pos _ j hj];rfl
end
theorem sort_len (l:List (Int × Int)):(Zgc l).length=l.length:=List.length_mergeSort l
theorem sort_perm {l m:List (Int × Int)} (h:l.Perm m):Zgc l=Zgc m:=by
 have hp:(Zgc l).Perm (Zgc m):=(List.mergeSort_perm l _).trans (h.trans (List.mergeSort_perm m _).symm)
 have tr:∀a b c:Int × Int,(!ltOf cmpID b a)=true→(!ltOf cmpID c b)=true→(!ltOf cmpID c a)=true:=by
  intro a b c h1 h2;rw[ZdG] at *
  simp only[Bool.not_eq_true',decide_eq_false_iff_not] at *
  unfold ltID at *
  omega
 have tot:∀a b:Int × Int,((!ltOf cmpID b a) || !ltOf cmpID a b)=true:=by
  intro a b;rw[ZdG,ZdG];simp only[Bool.or_eq_true,Bool.not_eq_true',decide_eq_false_iff_not];unfold ltID;omega
 refine List.Perm.eq_of_pairwise (le:=fun a b=>(!ltOf cmpID b a)=true) ?_ (List.pairwise_mergeSort tr tot l) (List.pairwise_mergeSort tr tot m) hp;intro a b _ _ h1 h2;exact totID a b (by simpa using h2) (by simpa using h1)
end Mark
end
section
namespace Path
open Go.RowKit
theorem Zes {P:Program} {ops:Array Oper} {rest:List Oper} {o:Oper} {a:Act} {Q:Exit→Act→World→Prop} {L0 L:List Part} {w0 w:World} {t e:TypeId} {i:TypeInfo} {z:Value} {kl kc:IntKind} (hg:o.guard=none) (l c:Operand) (hop:o.op=.makeSlice t l c)
 (ht:P.underlying t=some (.slice e)) (hi:P.info? e=some i) (hz:i.zero=some z) (hsize:i.size=1) (hz1:z.cells= #[z]) (n:Nat) (hl:a.eval l=.int kl (n:Int)) (hc:a.eval c=.int kc (n:Int)) (hbytes:i.bytes * n≤281474976710656) (h63:n≤9223372036854775807)
 (h:At L0 w0 L w) (hK:∀b w',At L0 w0 (Part.cells b (List.replicate n z) e::L) w'→w0.heap.size≤b→wpList P ops Q rest (a.put o.dst (.slice (some ⟨b,0,none⟩) n n)) w'):wpList P ops Q (o::rest) a w:=by
 have hr:=run_make_row t e i z ht hi hz hsize hz1 kl kc n hbytes h63 w;have hA:=h.alloc (List.replicate n z) e;rw[show(List.replicate n z).toArray=madeCells #[z] n from by rw[←toList_madeCells_one z n]] at hA;refine Zal hg ?_ (hK _ _ hA h.size);simp[execOp,hop,hl,hc,hr,Result.andThen]
theorem Zdw:∀l:Bs,Lib.countByte l 47 + 1=(Zai l).length
 |[]=>rfl
 |c::r=>by
  have ih:=Zdw r;unfold Lib.countByte at ih ⊢;rw[ZaD];split
  · rename_i h;subst h;simp;omega
  rename_i h;rw[List.count_cons];have hl:=Zbo r;simp[h];omega
theorem count_any (s:ByteArray) (w:World):Calls Tryz.prog 168 #[.string s,.string ⟨#[47]⟩] w fun e w'=>e=.returned (.int .i64 (Lib.countByte s.data.toList 47))∧w=w':=
 (Tryz.strings_Count_one s 47 w).mono fun _ _ ⟨he,hw⟩=>⟨he,hw.symm⟩
theorem Zn5 (r:ByteArray) (w:World):Calls Tryz.prog 169 #[.string r,.string ⟨#[47]⟩] w fun e w'=>e=.returned (.int .i64 (Lib.indexByte r.data.toList 47))∧w=w':=
 (Tryz.strings_Index_one _ _ _).mono fun _ _ ⟨he,hw⟩=>⟨he,hw.symm⟩
def Za6 (ws:List ByteArray) (k:Nat):List Value:=ws.map Value.string++List.replicate k (.string ⟨#[]⟩)
theorem Zdr (ws:List ByteArray) (k:Nat) (x:ByteArray):setL (Za6 ws (k + 1)) ws.length [.string x]=Za6 (ws++[x]) k:=by
 simp[setL,Za6,List.replicate_succ]
theorem Zeb (ws:List ByteArray):flatS ws=ws.map Value.string:=by
 induction ws with
 |nil=>rfl
 |cons x r ih=>simp only[flatS,List.flatMap_cons,List.map_cons] at ih ⊢;rw[ih];rfl
def GenRel (s:ByteArray) (w:World) (g N:Nat) (k:Nat) (u0 u10:Value) (wr:World):Prop:=
 ∃(ws:List ByteArray) (r:ByteArray),u0=.string r∧u10=.int .i64 ws.length∧ws.length + k=N∧r.size≤s.size∧Zai (bl s)=ws.map bl++Zai (bl r)∧At [] w [Part.cells g (Za6 ws k) 9] wr
def Zg0 (s:ByteArray) (w:World) (e:Ending) (w':World):Prop:=∃(v:Value) (ws:List ByteArray),e=.returned v∧ws.map bl=Zai (bl s)∧At [] w [rowS v ws] w'
theorem ZgC (s:ByteArray) (w:World) (hs:s.size≤2000000):Calls Tryz.prog 154 #[.string s,.string ⟨#[47]⟩,.int .i64 0,.int .i64 (-1)] w (Zg0 s w):=by
 have hA:=At.start (w0:=w) (L0:=[]) trivial;have hF:=hA.facts;obtain⟨i0,hi0,hz0,hz1,hz2⟩:=info_parts Zhx;have hN0:=Zdw (bl s);have hle:=ZaV (bl s);have hsz:(bl s).length=s.size:=by simp
 have h1:=Zbo (bl s)
 obtain⟨N,hN⟩:∃N,(Zai (bl s)).length=N:=⟨_,rfl⟩
 rw[hN] at hN0 hle h1
 have hc:((Lib.countByte s.data.toList 47:Nat):Int)=(N:Int) - 1:=by
  have:Lib.countByte s.data.toList 47 + 1=N:=hN0
  omega
 have hN':=Hd hN;rw[hsz] at hle;clear hN0 hsz hN;have hcnt:=count_any s w;rw[hc] at hcnt;clear hc;have hmin:min (N:Int) ((s.size:Int) + 1)=N:=by omega
 go_enter Tryz.func154,Tryz.ntmps154;go_wp2_with fail;refine hcnt.mono ?_;clear hcnt;rintro e _ ⟨rfl,rfl⟩
 go_wp2_with (refine Zes rfl _ _ rfl Tryz.underlying144 hi0 hz0 hz1 rfl N (by(try simp only[Act.eval,eV])<;>exact rfl) (by(try simp only[Act.eval,eV])<;>exact rfl) (by rw[hz2];omega) (by omega) hA ?_;intro g w1 hB hg;replace hA:=hB;clear hF hB;obtain⟨hA,hF⟩:=fZ hA)
 (try go_frame);go_loopg [0,10] N (GenRel s w g N)
 case atStart=>exact⟨[],s,rfl,rfl,by simp,Nat.le_refl _,rfl,hA⟩
 case round=>
  obtain⟨ws,r,rfl,rfl,hk,hrs,hsp,hB⟩:=hrel;clear hF hA;have hA:=hB;clear hB
  have hrl:(Zai (bl r)).length=gk:=by
   have:=congrArg List.length hsp;rw[hN'.out] at this
   simp at this
   omega
  have hr1:=Zbo (bl r);by_cases hlt:ws.length + 1 < N
  · have hi:0≤Lib.indexByte (bl r) 47:=by
     rcases Int.lt_or_le (Lib.indexByte (bl r) 47) 0 with q|q
     · have:=idx_none q
       rw[this] at hrl;simp at hrl
       omega
     exact q
    obtain⟨i,hi2⟩:=Int.eq_ofNat_of_zero_le hi;obtain⟨hilt,hsr⟩:=Zih hi2
    obtain⟨m,rfl⟩:∃m,gk=m + 1:=⟨gk - 1,by omega⟩
    have hrz:(bl r).length=r.size:=by simp
    have hil:i + 1≤r.size:=by omega
    have hix:=Zn5 r wr;rw[show Lib.indexByte r.data.toList 47=(i:Int) from hi2] at hix;have hst:=Zdr ws m (r.extract 0 i);have hsl:(Za6 ws (m + 1)).length=ws.length + (m + 1):=by simp[Za6]
    have hsp':=Hd hsp;have hsr':=Hd hsr;have hst':=Hd hst;have hsl':=Hd hsl;clear hsp hsr hi2 hilt hi hrz hrl hst hsl hr1;obtain⟨hA,hF⟩:=fZ hA;go_wp2_with fail;refine hix.mono ?_;clear hix;rintro e _ ⟨rfl,rfl⟩;have hi':decide ((i:Int) < 0)=false:=by simp
    go_wp2_with (refine Zam (j:=ws.length) rfl rfl rfl (by(try simp only[Act.eval,eV])<;>exact rfl) (vs:=[.string (r.extract 0 i)]) (by exact rfl) hA sR (by kernel_rfl) rfl (by have:=hsl'.out;simp only[List.length_cons,List.length_nil];omega) ?_;intro w1 hB;replace hA:=hB;clear hF hB;rw[hst'.out] at hA;obtain⟨hA,hF⟩:=fZ hA)
    go_roundg m;case measure=>omega
    case rel=>
     have e1:bl (r.extract 0 i)=(bl r).take i:=by simp[bl]
     have e2:bl (r.extract (i + 1) r.size)=(bl r).drop (i + 1):=by simp only[bl];simp;rw[List.take_of_length_le (by simp)]
     exact⟨ws++[r.extract 0 i],r.extract (i + 1) r.size,rfl,by simp,by simp;omega,by simp;omega,by rw[hsp'.out,hsr'.out,e2];simp[e1],hA⟩
  obtain rfl:gk=1:=by omega
  have hone:Zai (bl r)=[bl r]:=by
   cases hq:Zai (bl r) with
   |nil=>exact absurd hq (Zbg _)
   |cons a b=>
    rw[hq] at hrl;simp at hrl
    subst hrl;have:=ZbG (bl r);rw[hq,join_one] at this;rw[this]
  have hst:setL (Za6 ws 1) ws.length [.string r]=Za6 (ws++[r]) 0:=Zdr ws 0 r;have hsl:(Za6 ws 1).length=ws.length + 1:=by simp[Za6]
  have hsp':=Hd hsp;have hone':=Hd hone;have hst':=Hd hst;have hsl':=Hd hsl;have hk':=Hd hk;have hge:¬((ws.length:Int) < (N:Int) - 1):=by omega
  clear hsp hone hst hsl hrl hr1;obtain⟨hA,hF⟩:=fZ hA
  go_wp2_with (refine Zam (j:=ws.length) rfl rfl rfl (by(try simp only[Act.eval,eV])<;>exact rfl) (vs:=[.string r]) (by exact rfl) hA sR (by kernel_rfl) rfl (by have:=hsl'.out;simp only[List.length_cons,List.length_nil];omega) ?_;intro w1 hB;replace hA:=hB;clear hF hB;rw[hst'.out] at hA;obtain⟨hA,hF⟩:=fZ hA)
  go_ret;have e:Za6 (ws++[r]) 0=flatS (ws++[r]):=by simp[Za6,Zeb]
  rw[e] at hA;have hl:(ws++[r]).length=N:=by simp;exact hk'.out
  have hA2:=hA.row_shut (n:=(ws++[r]).length) (cap:=N) (size:=1) (xs:=flatS (ws++[r])) sR (by rw[Zeb];simp;have:=hk'.out;omega) (by omega) (by unfold maxLen;omega) (by rw[List.take_of_length_le (by rw[Zeb];simp)]);refine⟨_,ws++[r],?_,by rw[hsp'.out,hone'.out];simp,hA2.pick pR⟩;rw[hl];rfl
end Path
end
section
namespace Path
open Go.RowKit
open Go.Lib (compareBytes)
theorem ZjG (s:ByteArray) (w:World) (hs:s.size≤2000000):Calls Tryz.prog 124 #[.string s,.string ⟨#[47]⟩] w (Zg0 s w):=by
 go_enter Tryz.func124,Tryz.ntmps124;go_wp2_with fail;refine(ZgC s w hs).mono ?_;rintro e w1 ⟨v,ws,rfl,h1,h2⟩;go_wp2_with fail;go_ret;exact⟨v,ws,rfl,h1,h2⟩
def Zlm (s:ByteArray) (w:World) (e:Ending) (w':World):Prop:=∃(v:Value) (ws:List ByteArray),e=.returned v∧ws.map bl=ZbE (bl s)∧At [] w [rowS v ws] w'
theorem Zgm (s:ByteArray) (w:World) (hs:s.size≤2000000):Calls Tryz.prog 86 #[.string s] w (Zlm s w):=by
 cases h1:Zaf (bl s)
 · have e:ZbE (bl s)=[]:=by simp[ZbE,h1]
   have e':=Hd e;clear e;go_enter Tryz.func86,Tryz.ntmps86;go_wp2_with fail;refine(Zbx w hs h1).mono ?_;rintro e w1 ⟨rfl,hx⟩;go_wp2_with fail;go_ret;exact⟨_,[],rfl,by rw[e'.out];rfl,((At.start (w0:=w) (L0:=[]) trivial).ext hx).row_nil 9 1⟩
 have e:ZbE (bl s)=Zai (bl s):=by simp[ZbE,h1]
 have e':=Hd e;clear e;go_enter Tryz.func86,Tryz.ntmps86;go_wp2_with fail;refine(Zbx w hs h1).mono ?_;rintro e w1 ⟨rfl,hx⟩;go_wp2_with fail;refine(ZjG s w1 hs).mono ?_;rintro e w2 ⟨v,ws,rfl,h2,h3⟩;have hB:=((At.start (w0:=w) (L0:=[]) trivial).ext hx).call0 h3;clear h3 hx;go_wp2_with fail;go_ret;exact⟨_,ws,rfl,by rw[e'.out,h2],by simpa using hB⟩
theorem less_cb:∀(x y:List UInt8),Op.bytesLess x y=decide (compareBytes x y < 0)
 |[],[]=>by simp[Op.bytesLess,compareBytes]
 |[],_::_=>by simp[Op.bytesLess,compareBytes]
 |_::_,[]=>by simp[Op.bytesLess,compareBytes]
 |a::x,b::y=>by
  rw[Op.bytesLess,less_cb x y];simp only[compareBytes];rcases Nat.lt_trichotomy a.toNat b.toNat with h|h|h
  · have h1:a < b:=UInt8.lt_iff_toNat_lt.2 h;simp[h1]
  · have e:a=b:=UInt8.toNat_inj.1 h;subst e;have h1:¬a < a:=fun q=>by have:=UInt8.lt_iff_toNat_lt.1 q;omega
    simp[h1]
  have h1:b < a:=UInt8.lt_iff_toNat_lt.2 h;have h2:¬a < b:=fun q=>by have:=UInt8.lt_iff_toNat_lt.1 q;omega
  have h3:a≠b:=fun e=>by subst e;omega
  simp[h1,h2,h3]
theorem ZnT (s:ByteArray) (w:World):Calls Tryz.prog 156 #[.string s] w fun e w'=>e=.returned (.bool false)∧w=w':=by
 have h:(s.toList==s.toList)=true:=by simp
 go_enter Tryz.func156,Tryz.ntmps156;go_wp2_with fail;go_ret;exact⟨by simp,rfl⟩
theorem ZmO (x y:ByteArray) (w:World):Calls Tryz.prog 126 #[.string x,.string y] w fun e w'=>e=.returned (.int .i64 (compareBytes (bl x) (bl y)))∧w=w':=by
 have key:∀c,compareBytes (bl x) (bl y)=c→(c= -1∨c=0∨c=1)→Calls Tryz.prog 126 #[.string x,.string y] w fun e w'=>e=.returned (.int .i64 c)∧w=w':=by
  intro c hc h3;have h1:Op.bytesLess x.toList y.toList=decide (c < 0):=by rw[Lib.toList_data,Lib.toList_data,less_cb,←hc]
  have h2:Op.bytesLess y.toList x.toList=decide (0 < c):=by rw[Lib.toList_data,Lib.toList_data,less_cb,←hc,ZhJ (bl x) (bl y)];simp[bl]
  have h4:(x.toList==y.toList)=decide (c=0):=by
   rw[eqB];congr 1
   rw[←hc];exact propext ⟨fun e=>by rw[e];exact ZhH _,fun e=>cb_eq e⟩
  clear hc;rcases h3 with rfl|rfl|rfl
  all_goals
   simp only[Int.reduceNeg,Int.reduceLT,Int.reduceEq,decide_true,decide_false] at h1 h2 h4;go_enter Tryz.func126,Tryz.ntmps126
   go_wp2_with (refine(ZnT _ _).mono ?_;rintro e _ ⟨rfl,rfl⟩)
   go_ret;exact⟨rfl,rfl⟩
 exact key _ rfl (cb_three _ _)
def CmpRel (ws us:List ByteArray) (w:World) (k:Nat) (u11:Value) (wr:World):Prop:=
 ∃i:Nat,u11=.int .i64 i∧i + k=ws.length∧i≤us.length∧cmpL (ws.map bl) (us.map bl)=cmpL ((ws.drop i).map bl) ((us.drop i).map bl)∧wr=w
theorem ZgQ {w:World} {ws us:List ByteArray} {g1 g2 c1 c2:Nat} (h1:∀(j:Nat) x,ws[j]? =some x→w.cell? ⟨g1,j,none⟩=some (.string x)) (h2:∀(j:Nat) x,us[j]? =some x→w.cell? ⟨g2,j,none⟩=some (.string x)) (hw:ws.length≤2000000) (hu:us.length≤2000000):
 Calls Tryz.prog 88 #[.slice (some ⟨g1,0,none⟩) ws.length c1,.slice (some ⟨g2,0,none⟩) us.length c2] w fun e w'=>e=.returned (.int .i64 (cmpL (ws.map bl) (us.map bl)))∧w=w':=by
 have h1':=Hd h1;have h2':=Hd h2;clear h1 h2;go_enter Tryz.func88,Tryz.ntmps88;go_wp2_with fail;go_loopg [5,6,7,8,11] ws.length (fun k _ _ _ _ u11 wr=>CmpRel ws us w k u11 wr)
 case atStart=>exact⟨0,rfl,by simp,by simp,rfl,rfl⟩
 case round=>
  obtain⟨i,rfl,hk,hiu,hc,rfl⟩:=hrel;by_cases hi:i < ws.length
  · have x1:=h1'.out i ws[i] (List.getElem?_eq_getElem hi);have hd:ws.drop i=ws[i]::ws.drop (i + 1):=List.drop_eq_getElem_cons hi;rw[hd] at hc;generalize ws[i]=x at *
    by_cases hj:i < us.length
    · have x2:=h2'.out i us[i] (List.getElem?_eq_getElem hj);have hd2:us.drop i=us[i]::us.drop (i + 1):=List.drop_eq_getElem_cons hj;rw[hd2] at hc;generalize us[i]=y at *
      simp only[List.map_cons] at hc;rw[cmpL] at hc
      obtain⟨cc,hcc⟩:∃c,compareBytes (bl x) (bl y)=c:=⟨_,rfl⟩
      have hcm:=ZmO x y wr;rw[hcc] at hcm hc;have hc':=Hd hc;clear hc hd hd2 hcc;by_cases h0:cc=0
      · subst h0;go_wp2_with fail;refine hcm.mono ?_;clear hcm;rintro e _ ⟨rfl,rfl⟩;go_wp2_with fail;go_roundg (gk - 1);case measure=>omega
        case rel=>exact⟨i + 1,by simp,by omega,by omega,by rw[hc'.out];simp,rfl⟩
      have h0':(cc==0)=false:=by simpa using h0
      have hc2:=hc'.out;rw[if_neg h0] at hc2;have hc3:=Hd hc2;clear hc2 hc' h0;go_wp2_with fail;refine hcm.mono ?_;clear hcm;rintro e _ ⟨rfl,rfl⟩;go_wp2_with fail;go_ret;exact⟨by rw[hc3.out];rfl,rfl⟩
    have e2:us.drop i=[]:=List.drop_eq_nil_of_le (by omega);rw[e2] at hc;simp only[List.map_cons,List.map_nil] at hc;rw[cmpL] at hc;have hc':=Hd hc;have hge:(us.length:Int)≤i:=by omega
    clear hc hd e2;go_wp2_with fail;go_ret;exact⟨by rw[hc'.out];rfl,rfl⟩
  have e1:ws.drop i=[]:=List.drop_eq_nil_of_le (by omega);rw[e1] at hc;obtain rfl:i=ws.length:=by omega
  by_cases hlt:ws.length < us.length
  · obtain⟨y,ys,hy⟩:∃y ys,us.drop ws.length=y::ys:=by
     cases q:us.drop ws.length with
     |nil=>have:=List.drop_eq_nil_iff.1 q;omega
     |cons y ys=>exact⟨y,ys,rfl⟩
    rw[hy] at hc;simp only[List.map_cons,List.map_nil] at hc;rw[cmpL] at hc;have hc':=Hd hc;clear hc e1 hy;go_wp2_with fail;go_ret;exact⟨by rw[hc'.out];rfl,rfl⟩
  have e2:us.drop ws.length=[]:=List.drop_eq_nil_of_le (by omega);rw[e2] at hc;simp only[List.map_nil] at hc;rw[cmpL] at hc;have hc':=Hd hc;clear hc e1 e2;go_wp2_with fail;go_ret;exact⟨by rw[hc'.out];rfl,rfl⟩
end Path
end
section
namespace Path
open Go.RowKit
open Go.Sort (grow)
open Go.Lib (compareBytes)
theorem ZmC {w w':World} (h:Ext w w') (hd:w.drawn≤w'.drawn):∃q os',w'=grow (w.drewN q) os':=by
 obtain⟨p,hp⟩:=regrown_of_below h;refine⟨p.d - w.drawn,p.os,?_⟩;have e:w'.drawn=p.d:=by rw[hp];rfl
 rw[hp];congr 1
 unfold World.drewN redrawn;congr 1
 omega
theorem Zjl {P:Program} {f:FuncId} {args:Array Value} {w:World} {v:Value} (h:Calls P f args w fun e w'=>e=.returned v∧Ext w w'):Calls P f args w fun e w'=>e=.returned v∧∃q os',w'=grow (w.drewN q) os':=
 (ZhK h (fun w' hr=>by cases hr.1)).mono fun e w' ⟨⟨he,hx⟩,hd⟩=>⟨he,ZmC hx hd⟩
theorem Zhb (p q:ByteArray) (w:World):Calls Tryz.prog 87 #[.string p,.string q] w fun e w'=>e=.returned (.int .i64 (compareBytes (bl p) (bl q)))∧w=w':=
 (Tryz.strings_Compare p q w).mono fun _ _ ⟨he,hw⟩=>⟨he,hw.symm⟩
theorem ZgR (p q:ByteArray) (w:World) (hp:p.size≤1000) (hq:q.size≤1000):Calls Tryz.prog 50 #[.string p,.string q] w fun e w'=>e=.returned (.int .i64 (cmpP (bl p) (bl q)))∧Ext w w':=by
 have hA:=At.start (w0:=w) (L0:=[]) trivial;have hF:=hA.facts;go_enter Tryz.func50,Tryz.ntmps50;go_wp2_with fail;refine(Zgm p w (by omega)).mono ?_;rintro e w1 ⟨v,ws,rfl,hw1,hT⟩;replace hA:=hA.call0 hT;clear hF hT;simp only[List.append_nil] at hA;obtain⟨ax,kn,cap,hv0,hkn⟩:=hA.row_hid (v:=v) (xs:=flatS ws) sR;subst hv0;obtain⟨hA,hF⟩:=fZ hA;go_wp2_with fail;refine(Zgm q w1 (by omega)).mono ?_;rintro e w2 ⟨u,us,rfl,hw2,hT⟩;replace hA:=hA.call0 hT;clear hF hT;simp only[uA] at hA;obtain⟨bx,km,cbp,hu0,hkm⟩:=hA.row_hid (v:=u) (xs:=flatS us) sR;subst hu0;obtain⟨hA,hF⟩:=fZ hA;have ek:=hkn.out;have em:=hkm.out;have hx:Ext w w2:=hA.toExt;have hl1:ws.length=(ZbE (bl p)).length:=by rw[←hw1];simp
 have hl2:us.length=(ZbE (bl q)).length:=by rw[←hw2];simp
 by_cases hr:Zaf (bl p)=true∧Zaf (bl q)=true
 · have e1:ZbE (bl p)=Zai (bl p):=by simp[ZbE,hr.1]
   have e2:ZbE (bl q)=Zai (bl q):=by simp[ZbE,hr.2]
   have hc:cmpP (bl p) (bl q)=cmpL (ws.map bl) (us.map bl):=by rw[hw1,hw2,e1,e2];simp[cmpP,hr]
   have n1:=Zbo (bl p);have n2:=Zbo (bl q);have m1:=ZaV (bl p);have m2:=ZaV (bl q);have z1:(bl p).length=p.size:=by simp
   have z2:(bl q).length=q.size:=by simp
   rw[e1] at hl1;rw[e2] at hl2;obtain rfl:kn=ws.length:=ek;obtain rfl:km=us.length:=em;obtain⟨g1,c1,rfl,_,_,hcl1,hct1,hB⟩:=hA.row_open (ax:=ax) (cap:=cap) (n:=ws.length) (xs:=flatS ws) sR (by omega);obtain⟨g2,c2,rfl,_,_,hcl2,hct2,hB2⟩:=hB.row_open (ax:=bx) (cap:=cbp) (n:=us.length) (xs:=flatS us) sR (by omega);have x1:∀(j:Nat) x,ws[j]? =some x→w2.cell? ⟨g1,j,none⟩=some (.string x):=fun j x hx=>((hB2.get (A:=Part.cells g1 c1 9) sR:Zaa w2 g1 c1 _).cell j).trans (Zcs hct1 hx);have x2:∀(j:Nat) x,us[j]? =some x→w2.cell? ⟨g2,j,none⟩=some (.string x):=fun j x hx=>((hB2.get (A:=Part.cells g2 c2 9) sR:Zaa w2 g2 c2 _).cell j).trans (Zcs hct2 hx);have hcs:=ZgQ (c1:=cap) (c2:=cbp) x1 x2 (by omega) (by omega);have l1:0 < ws.length:=by omega
   have l2:0 < us.length:=by omega
   have n1':((ws.length:Int)==0)=false:=beq_eq_false_iff_ne.2 (by omega);have n2':((us.length:Int)==0)=false:=beq_eq_false_iff_ne.2 (by omega);have hc':=Hd hc;clear hc hA hB hB2 hF x1 x2 hct1 hct2 hcl1 hcl2 hw1 hw2 hl1 hl2 n1 n2 m1 m2 z1 z2 e1 e2 hr hkn hkm;go_wp2_with fail;refine hcs.mono ?_;clear hcs;rintro e _ ⟨rfl,rfl⟩;go_wp2_with fail;go_ret;exact⟨by rw[hc'.out];rfl,hx⟩
 have hc:cmpP (bl p) (bl q)=compareBytes (bl p) (bl q):=by simp[cmpP,hr]
 have hc':=Hd hc;have hst:=Zhb p q w2;clear hc hA hF hw1 hw2;by_cases h1:ws.length=0
 · obtain rfl:kn=0:=ek.trans h1;clear ek em hl1 hl2 h1 hkn hkm;go_wp2_with fail;refine hst.mono ?_;clear hst;rintro e _ ⟨rfl,rfl⟩;go_wp2_with fail;go_ret;exact⟨by rw[hc'.out];rfl,hx⟩
 have h2:us.length=0:=by
  cases r1:Zaf (bl p)
  · have:ZbE (bl p)=[]:=by simp[ZbE,r1]
    rw[this] at hl1;exact absurd hl1 h1
  cases r2:Zaf (bl q)
  · have:ZbE (bl q)=[]:=by simp[ZbE,r2]
    rw[this] at hl2;exact hl2
  exact absurd ⟨r1,r2⟩ hr
 obtain rfl:km=0:=em.trans h2;have n1':((kn:Int)==0)=false:=beq_eq_false_iff_ne.2 (by omega);clear ek em hl1 hl2 h1 h2 hkn hkm hr;go_wp2_with fail;refine hst.mono ?_;clear hst;rintro e _ ⟨rfl,rfl⟩;go_wp2_with fail;go_ret;exact⟨by rw[hc'.out];rfl,hx⟩
end Path
end
section
namespace Lock
open _root_.Go.Proofs.YtknoefbcmomalaaGreatDoor.Mark (Zc0 Zcp Zbk orI or2 Zcq)
open Go.RowKit Go.Shelf Go.Sort
open Go.Maps (Keyed)
open Path (bl Zaf overB cmpP)
theorem Zkk (x y:Ent) (w:World) (hx:x.path.size≤1000) (hy:y.path.size≤1000):Calls Tryz.prog 48 #[x.val,y.val] w fun e w'=>e=.returned (.int .i64 (cmpE x y))∧Ext w w':=by
 have hA:At [] w [] w:=At.start (L0:=[]) trivial;have hF:=hA.facts;have hcp:=fun(w1:World)=>Path.ZgR x.path y.path w1 (by omega) (by omega);unfold cmpE;generalize cmpP (bl x.path) (bl y.path)=cp at *
 have hcc:=fun(w1:World)=>Tryz.cmp_Compare_int x.stamp y.stamp w1;generalize hcs:Lib.compareInt x.stamp y.stamp=cs at *
 obtain⟨p1,n1,f1,m1,k1,s1⟩:=x;obtain⟨p2,n2,f2,m2,k2,s2⟩:=y;simp only[Ent.val] at *
 go_enter Tryz.func48,Tryz.ntmps48
 go_wp2_with ((with_reducible refine gbx ?_);refine wCy (E:=55) hA ?_;clear hF hA;intro bX w1 hA hbX hF)
 (try go_frame);(refine Zar 10 (Cl _ _ _) (by kernel_rfl) (by kernel_rfl) (Cl.drew hA) ?_);(simp only[List.take_succ_cons,List.take_zero,List.drop_succ_cons,List.drop_zero]);(have hn1:=Cl.none hA);(have hn2:=Cl.none2 hA);(repeat(first|go_big_quiet_skip|(go_big_quiet_want;(first|(refine qL ?_;go_frame;go_big_quiet_on)|(go_big_quiet_op;(first|go_big_quiet_on|((apply Exists.intro);(refine⟨fun w1 hw=> ?_,?_⟩);(focus((have hw:=Cl.out hw);(first|exact through0 hw (hcp _)|exact(hcc _).mono fun _ _ ⟨he,hq⟩=>⟨he,hq ▸ hw⟩)));(go_big_quiet_on))))))))
 (refine wpQuiet_nil ?_);(intro w1 hB);(clear hF hA hn1 hn2);(have hA:=Cl.out hB);(clear hB);obtain⟨hA,hF⟩:=fY hA
 clear hcp hcc;have hB:=hA.alloc [.int .i64 cp,.int .i64 cs] 3;have hx1:=hA.toExt;go_wp2_with fail;refine(or2 cp cs _ _ ?h0 ?h1).mono ?_;case h0=>exact Zcq _ _ (by simp) _ _ _ _ rfl
 case h1=>exact Zcq _ _ (by simp) _ _ _ _ rfl
 rintro e _ ⟨rfl,rfl⟩;go_wp2_with fail;go_ret;exact⟨rfl,hx1.alloc _⟩
section
variable {es:List Ent} (H:Sortable es)
theorem ZfT (x:EntI es):(encI es x).length=6:=rfl
theorem ZmI (x:EntI es):∀v ∈ encI es x,v.oneCell'=true:=by
 intro u hu;simp only[encI,Ent.cells,List.mem_cons,List.not_mem_nil,or_false] at hu;rcases hu with rfl|rfl|rfl|rfl|rfl|rfl<;>rfl
theorem ZmP [Inhabited (EntI es)] (hs:∀e ∈ es,e.path.size≤1000) (blk off size:Nat) (w:World):CmpLays Tryz.prog 48 #[] (encI es) 6 (cmpI es) blk off size w:=
 fun _ _ _ _ x y=>Path.Zjl (Zkk x.1 y.1 _ (hs _ x.2) (hs _ y.2))
end
abbrev rowL (v:Value) (l:List Ent):Part:=.row 55 6 v l.length (l.flatMap Ent.cells)
def Zm5 (w:World) (b:Bk) (e:Ending) (w':World):Prop:=∃(v:Value) (l:List Ent),e=.returned v∧l.Perm b.es∧l.Pairwise ltE∧At [BookP b] w [rowL v l,BookP b] w'
theorem Zmc {es:List Ent} (h:es.Pairwise (fun a b=>a.key≠b.key)):es.Nodup:=h.imp (fun h e=>h (by rw[e]))
theorem ZdD {w:World} {b:Bk} (h:Sep [BookP b] w) (H:Sortable b.es) (hmax:b.es.length≤1000000) (hs:∀e ∈ b.es,e.path.size≤1000):
 Calls Tryz.prog 20 #[.pointer (some ⟨b.p,0,none⟩)] w (Zm5 w b):=by
 have hA:=begin0 h;have hkeys:=Zhw (MapAt.keys (hA.get (A:=mapC b.m (ents b.es)) sR));have hnd:=Zmc hkeys;obtain⟨hA,hF⟩:=fY hA;clear h hkeys;go_enter Tryz.func20,Tryz.ntmps20;go_wp2_with fail;refine(callsIn_wide.1 (Znq Fence.wide 1 trivial rfl (some b.m) w)).mono ?_;rintro e _ ⟨rfl,rfl⟩;have hB:=hA.alloc [.map (some b.m)] 104;go_wp2_with fail;refine(ZgS w.heap.size b.m (ents b.es) b.es (by simp[ents,ent]) _ (by simp) ((Zaa.alloc w [.map (some b.m)] 104).cell 0) (hB.get (A:=mapC b.m (ents b.es)) sR) (by omega)).mono ?_;rintro e w1 ⟨v,ss,rfl,hp,hrow,hnil,hb⟩;have hC:=hB.row_new hb hrow;have hB2:=fold0 b hC sR sR sR;have hC2:=hB2.only2 (A:=rowL v ss) (B:=BookP b) sZ sZ;have hll:=hp.length_eq;clear hF hA hB hC hB2;rcases hrow.2 with⟨rfl,hz⟩|⟨gb,cap,cur,rfl,hbase,hgb,r1,r2,r3,r4⟩
 · have hss:ss=[]:=List.eq_nil_of_length_eq_zero hz;subst hss;have hS:Calls Tryz.prog 47 #[.slice none 0 0,.func (.func 48) #[] #[]] w1 fun e w'=>e=.returned (.tuple #[])∧w'=w1:=AnyF.slices_SortFunc_none Tryz.sort47 none 0 _ w1;go_wp2_with fail;refine hS.mono ?_;rintro e _ ⟨rfl,rfl⟩;go_wp2_with fail;go_ret;exact⟨_,[],rfl,hp,.nil,hC2⟩
 have hsub:∀x ∈ ss,x ∈ b.es:=fun x hx=>hp.mem_iff.1 hx;have htm:=Zjw ss hsub
 obtain⟨ti,hti⟩:∃ti,toI ss hsub=ti:=⟨_,rfl⟩
 rw[hti] at htm;have htl:ti.length=ss.length:=by rw[←htm];simp
 have hflat:ti.flatMap (encI b.es)=ss.flatMap Ent.cells:=by rw[ZgJ,htm]
 have htn:ti.Nodup:=by
  have:(ti.map (·.1)).Nodup:=by rw[htm];exact hp.nodup_iff.2 hnd
  exact(List.pairwise_map.1 this).imp (fun q e=>q (by rw[e]))
 have hne:ss≠[]:=fun e=>by have:=hnil.2 e;cases this
 have hpos:0 < ss.length:=List.length_pos_iff.2 hne
 haveI:Inhabited (EntI b.es):=⟨⟨ss[0]'hpos,hsub _ (List.getElem_mem _)⟩⟩
 have hH:HoldsK (encI b.es) 6 w1 gb 0 ti.toArray:=Zc0 (encI b.es) 6 ZfT hgb (by rw[htl,hflat];exact r4);have hgl:gb < w1.heap.size:=(Array.getElem?_eq_some_iff.1 hgb).1;have hsz:ti.toArray.size < 4611686018427387904:=by simp;omega
 have hS:Calls Tryz.prog 47 #[.slice (some ⟨gb,0,none⟩) ti.length cap,.func (.func 48) #[] #[]] w1 fun e w'=>e=.returned (.tuple #[])∧∃n os,w'=sortWorldK (encI b.es) 6 w1 gb 0 n (sortI H ti).toArray os:=
  AnyQ.slices_SortFunc_total Tryz.sort47 6 Tryz.isAgg55 Tryz.sizeOf55 (encI b.es) ZfT ZmI (cmpI b.es) (swoI H) 48 #[] gb 0 cap ti.toArray w1 (enters_of Tryz.func48 (by kernel_rfl) rfl) (ZmP hs _ _ _ _) hH hgl hsz (totI H)
 rw[htl] at hS;have htl':=Hd htl;clear hll hmax htl;go_wp2_with fail;refine hS.mono ?_;rintro e _ ⟨rfl,nn,os,rfl⟩;go_wp2_with fail;go_ret;have hown:=Zcp (encI b.es) 6 ZfT (w:=w1) (base:=0) (cap:=cap) (n:=nn) (os:=os) (ZjK H ti) (Nat.zero_le _) hgb (by rw[htl'.out];exact r1) r2 r3;have hlt:=ZlB H ti htn
 have hlp:((sortI H ti).map (fun x:EntI b.es=>x.1)).Perm ss:=by
  have:=(ZeE H ti).map (fun x:EntI b.es=>x.1)
  rwa [htm] at this
 rw[ZgJ,htl'.out,←hlp.length_eq] at hown;generalize (sortI H ti).map (fun x:EntI b.es=>x.1)=l at *
 have hD:=hC2.turn (A:=rowL (.slice (some ⟨gb,0,none⟩) ss.length cap) ss) .here (rowL (.slice (some ⟨gb,0,none⟩) l.length cap) l) hown (fun b hb=>.inl hb) (ZbV (Zbk _));refine⟨_,l,?_,hlp.trans hp,hlt,hD⟩;rw[hlp.length_eq];rfl
end Lock
end
end Go.Proofs.YtknoefbcmomalaaGreatDoor
