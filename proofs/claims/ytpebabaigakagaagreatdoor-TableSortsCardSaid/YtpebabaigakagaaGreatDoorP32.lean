/- CollP, PathZ, joined. -/
import Derived.RangeFuncNested
import Derived.RangeFuncBound
import Derived.RangeFuncCalls
import Derived.RangeFuncLeaves
import Derived.Shelf.Abstract
import Derived.WalkKit
import Derived.OwnWalkIn
import Derived.TacticsInMore
import Derived.LoopNIn
import Derived.LoopIn
import Derived.Maps.AppendAt
import Derived.Test.YtpebabaigakagaaGreatDoorP2
import Derived.Test.YtpebabaigakagaaGreatDoorChecked
import Derived.Test.YtpebabaigakagaaGreatDoorP31
import Derived.Test.YtpebabaigakagaaGreatDoorP19
set_option linter.unusedSimpArgs false
set_option linter.unusedVariables false
set_option maxRecDepth 100000
set_option maxHeartbeats 16000000
section
namespace Go.Proofs.YtpebabaigakagaaGreatDoor.Txt
open Go.RowKit Go.Shelf
open Go.Maps (Keyed)
attribute [local go_sem] Oper.semAt_some
def seV (p : ByteArray) : Value := .string p
def seL (p : ByteArray) : List Value := [.string p]
def unS : Value → ByteArray
 | .string a => a
 | _ => .empty
theorem unS_seV (p : ByteArray) : unS (seV p) = p := rfl
theorem perm_of_seV {l m : List (ByteArray)} (h : (l.map seV).Perm (m.map seV)) : l.Perm m := by
 have := h.map unS
 simpa [List.map_map, Function.comp_def, unS_seV] using this
def seenOf (w : World) (r : Nat) : Nat := match w.heap[r]? with | some (.mapIter _ _ seen _) => seen.size | _ => 0
theorem seenOf_eq {P : Program} {k : TypeId} {w : World} {r b : Nat} {es done : List (Value × Value)} (h : IterAt P k w r b es done) : seenOf w r = done.length := by
 obtain ⟨_, _, ents, clock, c0, vs, hb, hr, hc, hd, _⟩ := h
 unfold seenOf
 rw [hr, ← hd]
 simp
theorem iter_walk {P : Program} {k : TypeId} {w : World} {r b : Nat} {es done : List (Value × Value)} (h : IterAt P k w r b es done) : ∃ o : Obj, w.heap[r]? = some o ∧ o.isWalk = true := by
 obtain ⟨_, _, ents, clock, c0, vs, hb, hr, _⟩ := h
 exact ⟨_, hr, rfl⟩
theorem iter_keeps {P : Program} {k : TypeId} {w w' : World} {r b : Nat} {es done : List (Value × Value)} (h : IterAt P k w r b es done) (hk : KeepsWalks w w') : IterAt P k w' r b es done := by
 have h0 := h
 obtain ⟨_, _, ents, clock, c0, vs, hb, hr, _⟩ := h0
 exact h.same ((hk.same b _ hb rfl).trans hb.symm) ((hk.same r _ hr rfl).trans hr.symm)
theorem grown_of_exc {w w' : World} {r : Nat} (h : Exc (fun q => q = r) w w') : w.grownBy w' (some r) := ⟨h.os, h.tape, h.output, h.size, fun k hk hn => h.block k hk (fun e => hn (by rw [e]))⟩
theorem grown_of_ext {w w' : World} (h : Ext w w') : w.grownBy w' none := ⟨Below.os h, Below.tape h, Below.output h, Below.size h, fun k hk _ => Below.block h k hk⟩
theorem keys1_in (F : Fence) (n : Nat) (h1 : F.fn 119) (hro : F.round = none) (hn : 1 ≤ n) (l Bm b : Nat) (es : List (Value × Value)) (ks : List (ByteArray)) (hes : es.map (·.1) = ks.map seV) (J Jx : List (ByteArray) → World → Prop)
 (W : World) (hJ : AbidesFrom W.heap.size J)
 (hY : ∀ pre x W1, J pre W1 → pre.length < ks.length → YieldAt F (n - 1) Tryz.prog l #[seV x] W1 fun e W' => (e = .returned (.bool true) ∧ J (pre ++ [x]) W' ∧ KeepsWalks W1 W') ∨ (e = .returned (.bool false) ∧ Jx (pre ++ [x]) W'))
 (hm : W.cell? ⟨Bm, 0, none⟩ = some (.map (some b))) (hM : MapAt Tryz.prog 9 W b es) (h0 : J [] W) :
 CallsIn F n Tryz.prog 119 #[.func (.yield l) #[] #[], .pointer (some ⟨Bm, 0, none⟩)] W fun e W' => (∃ v, e = .returned v) ∧ ((∃ ys, ys.Perm ks ∧ J ys W') ∨ (∃ pre, True ∧ Jx pre W')) := by
 obtain ⟨W0, hrun, hext, hI⟩ := IterAt.start hM Tryz.underlying91
 have hJ0 : J [] W0 := hJ _ W W0 none h0 (grown_of_ext hext) (fun r e => by cases e)
 refine callsIn_of_wp Tryz.func119 rfl h1 ?_ hro
 simp only [Tryz.ntmps119, List.size_toArray, List.length_cons, List.length_nil, Nat.reduceAdd, Nat.reduceSub, Array.replicate_succ, Array.replicate_zero, List.push_toArray, List.append_toArray, List.nil_append, List.cons_append]
 gi_wp2
 clear hrun
 try go_frame
 gi_loopw [3] (fun _ wr => ∃ (done : List (Value × Value)) (ds : List (ByteArray)), IterAt Tryz.prog 9 wr W.heap.size b es done ∧ done.map (·.1) = ds.map seV ∧ J ds wr)
  (fun _ wr => es.length - seenOf wr W.heap.size)
 case atStart => exact ⟨[], [], hI, rfl, hJ0⟩
 case round =>
  obtain ⟨done, ds, hI1, hd, hJs⟩ := hrel
  rcases hI1.next 0 with ⟨hp, hrun⟩ | ⟨p, w', hp, hne, hrun, hI2, hx⟩
  · have hpp : ds.Perm ks := (perm_of_seV (by rw [← hes, ← hd]; exact hp.map _)).symm
    clear hes hd
    gi_wp2
    go_end0
    exact ⟨⟨_, rfl⟩, .inl ⟨ds, hpp, hJs⟩⟩
  · obtain ⟨pk, pv⟩ := p
    have hpk : pk ∈ es.map (·.1) := List.mem_map.2 ⟨_, hp, rfl⟩
    rw [hes] at hpk
    obtain ⟨x, _, rfl⟩ := List.mem_map.1 hpk
    have hlen : ds.length < ks.length := by
     have e1 := congrArg List.length hes
     have e2 := congrArg List.length hd
     have e3 := hI2.len
     simp at e1 e2 e3
     omega
    have hJ1 : J ds w' := hJ ds wr w' (some W.heap.size) hJs (grown_of_exc hx) (fun r e => by cases e; exact ⟨Nat.le_refl _, iter_walk hI1⟩)
    have hI3 := hI2
    obtain ⟨fn, tmps, assign, body, hy, hR⟩ := hY ds x _ hJ1 hlen
    have hen := hI2.entry
    have hs0 := seenOf_eq hI1
    have hes' := Lib.hid hes
    have hd' := Lib.hid hd
    have hs' := Lib.hid hs0
    have hle := hI2.len
    clear hes hd hs0 hpk hp hne hx
    unfold seV at hrun hen hy
    gi_wp2
    refine hR.mono ?_
    rintro e W3 (⟨rfl, hJ3, hk3⟩ | ⟨rfl, hJx3⟩)
    · gi_wp2
      go_roundw
      case rel => exact ⟨done ++ [(seV x, pv)], ds ++ [x], iter_keeps hI3 hk3, by simp [hd'.out], hJ3⟩
      case measure =>
       have e1 := seenOf_eq (iter_keeps hI3 hk3)
       have e2 := hs'.out
       rw [e1, e2]
       simp at hle ⊢
       omega
    · gi_wp2
      refine bodyPost_ret (results_none rfl _ _ _) rfl ?_
      exact ⟨⟨_, rfl⟩, .inr ⟨_, trivial, hJx3⟩⟩
theorem keys_in (F : Fence) (n : Nat) (h1 : F.fn 79) (hro : F.round = none) (mb : Option Nat) (w : World) :
 CallsIn F n Tryz.prog 79 #[.map mb] w fun e w' => e = .returned (.func (.func 119) #[] #[.pointer (some ⟨w.heap.size, 0, none⟩)]) ∧ w' = w.alloc (.cells #[.map mb] 91) := by
 refine callsIn_of_wp Tryz.func79 rfl h1 ?_ hro
 simp only [Tryz.ntmps79, List.size_toArray, List.length_cons, List.length_nil, Nat.reduceAdd, Nat.reduceSub, Array.replicate_succ, Array.replicate_zero, List.push_toArray, List.append_toArray, List.nil_append, List.cons_append]
 gi_wp2
 go_ret
 exact ⟨rfl, rfl⟩
theorem keys_stops (F : Fence) (n : Nat) (h1 : F.fn 119) (hro : F.round = none) (hn : 1 ≤ n) (Bm b : Nat) (es : List (Value × Value)) (ks : List (ByteArray)) (hes : es.map (·.1) = ks.map seV) (w : World) (hBm : Bm < w.heap.size)
 (hm : w.cell? ⟨Bm, 0, none⟩ = some (.map (some b))) (hM : MapAt Tryz.prog 9 w b es) :
 SeqStopsK F n Tryz.prog 119 #[.pointer (some ⟨Bm, 0, none⟩)] (fun x : ByteArray => #[seV x]) KeepsWalks (fun ys => ys.Perm ks) (fun _ => True) ks.length w := fun l J Jx W hW hJ _ hY h0 =>
 keys1_in F n h1 hro hn l Bm b es ks hes J Jx W hJ hY ((hW.cell (p := ⟨Bm, 0, none⟩) hBm).trans hm) (hM.same (hW.block b hM.lt)) h0
theorem infoID : (Tryz.prog.info? 9).map (fun i => (i.zero, i.size, i.bytes)) = some (some (.string .empty), 1, 16) := by kernel_rfl
theorem one_new (W : World) (x : Value) (t : TypeId) : ∀ (j : Nat) (u : Value), [x][j]? = some u → (W.alloc (.cells #[x] t)).cell? ((⟨W.heap.size, 0, none⟩ : Addr).add j) = some u := by
 intro j u h
 match j, h with
 | 0, h => simp at h; subst h; simp [Addr.add]
 | j + 1, h => simp at h
def MidI (w : World) (pre : List (ByteArray)) (W : World) : Prop :=
 (∃ v, Boxed W w.heap.size 128 v ∧ W.ownsRow w.heap.size 9 1 v pre.length (pre.flatMap seL) ∧ (v = .slice none 0 0 ↔ pre = [])) ∧ Below w.heap.size w W
theorem midI_own (w : World) (B : Nat) (hB : w.heap.size ≤ B) : OwnFrom B (MidI w) :=
 OwnFrom.and (Own.from (holdsRow_own w.heap.size w.heap.size 128 9 1 (fun pre => pre.length) (fun pre => pre.flatMap seL) (fun pre v => v = .slice none 0 0 ↔ pre = [])) _) (ownFrom_below (Nat.le_refl _) hB)
def MidAx (w : World) (sv : Value) (x : ByteArray) (a' : Act) (W : World) : Prop :=
 a' = { tmps := #[.slice none 0 0, sv, .pointer (some ⟨w.heap.size, 0, none⟩), undef, .slice none 0 0, seV x, sv, seV x, undef, undef, undef, undef, undef], defers := [] }
theorem midAx_own (w : World) (sv : Value) (B : Nat) (x : ByteArray) (a' : Act) : OwnFrom B (fun (_ : Unit) W => MidAx w sv x a' W) := by
 rintro s X Y row h3 hg hr
 exact h3
theorem appendSeq_in (F : Fence) (n : Nat) (hF : F.fn 146) (hro : F.round = none) (hn : 3 ≤ n) (gf : Nat) (lb : Array Value) (hFg : F.fn gf) (eg : ∀ args w, (callFunc gf args).run Tryz.prog w = .ok (.enter gf args) w)
 (S Sp : List (ByteArray) → Prop) (N : Nat) (hN : N ≤ 100000000) (w : World) (hseq : SeqStopsK F (n - 1) Tryz.prog gf lb (fun x : ByteArray => #[seV x]) KeepsWalks S Sp N w) :
 CallsIn F n Tryz.prog 146 #[.slice none 0 0, .func (.func gf) #[] lb] w fun e w' => ∃ (v : Value) (ss : List (ByteArray)), e = .returned v ∧ S ss ∧ w'.ownsRow w.heap.size 9 1 v ss.length (ss.flatMap seL) ∧ (v = .slice none 0 0 ↔ ss = []) ∧ Below w.heap.size w w' := by
 have h1 : 1 ≤ n := by omega
 obtain ⟨i0, hi, hz0, hz1, hz2⟩ := info_parts infoID
 refine callsIn_of_wp_marks Tryz.func146 rfl hF ?_ hro
 simp only [Tryz.ntmps146, List.size_toArray, List.length_cons, List.length_nil, Nat.reduceAdd, Nat.reduceSub, Array.replicate_succ, Array.replicate_zero, List.push_toArray, List.append_toArray, List.nil_append, List.cons_append]
 gi_wp2
 have bO := Boxed.new w 128 (.slice none 0 0)
 have hB0 : Below w.heap.size w (w.alloc (.cells #[.slice none 0 0] 128)) := (Below.refl _ w).alloc (Nat.le_refl _) _
 refine wpIn_rangeFunc_ownH hro h1 (gf := gf) (lb := lb) rfl hFg eg hseq walksK_t walksK_b hB0 (fun _ => rfl)
  (MidI w) (fun _ _ _ => False) (midI_own w _ (by simp)) (fun _ _ _ _ _ hs _ _ => hs)
  ⟨⟨_, bO, World.ownsRow_nil _ _ _ _, by simp⟩, hB0⟩
  (MidAx w (.func (.func gf) #[] lb)) (fun x a' => midAx_own w _ _ x a') ?assign ?body ?done ?stop
 case assign =>
  rintro l pre x W K ⟨⟨v, hv, hrow, hnil⟩, hB⟩ hK
  have hsz := hB.size
  unfold seV
  gi_wp2
  refine hK _ _ ((KeepsOthers.refl _).from _) (KeepsWalks.refl _) ⟨⟨v, hv, hrow, hnil⟩, hB⟩ rfl
 case body =>
  rintro l pre x a' W hl ⟨r, hr⟩ ⟨⟨v, hv, hrow, hnil⟩, hB⟩ rfl hlt
  have hc := hv.cell
  have hsz := hB.size
  unfold seV
  gi_wp2_with (gi_at_builtin; refine wpListIn_append_own _ rfl _ _ 128 rfl w.heap.size 9 i0 (.string .empty) 1 16 Tryz.underlying128 hi hz0 hz1 hz2 rfl (by decide) _ _ _ rfl (hrow.alloc _) ⟨W.heap.size, 0, none⟩ 1 1 [.string x] rfl rfl (one_new _ _ _) (by simp [Value.oneCell']) (by unfold maxLen; omega) (by omega) (by simp; omega) ?_; intro v' w1 hown' hgrow _; obtain ⟨g', cap', rfl⟩ := ownsRow_succ hown'; obtain ⟨hv1, hv2, hr2, hk2, hb2⟩ := hv.appended (by decide) hrow hB.size (Nat.le_refl _) hown' hgrow; have hc1 := hv1.cell; have hf1 := hv1.frozen)
  exact ⟨hk2.from _, hk2.walks, ⟨_, hv2, by simpa [seL] using hr2, by simp⟩, hB.trans hb2⟩
 case done =>
  rintro D ys W hD hS ⟨⟨v, hv, hrow, hnil⟩, hB⟩ hK
  have hc := hv.cell
  gi_wp2
  refine ⟨by simp, .inl ⟨_, _, rfl, run_takeDeferred hK, ?_⟩⟩
  exact ⟨_, results_tmp rfl _ _ _, v, ys, rfl, hS, ownsRow_putObj hrow _ hK rfl, hnil, hB.trans (belowK_b (w := w) (Nat.le_refl _) W D _ _ (by simp at hD; omega) hK rfl rfl)⟩
 case stop =>
  rintro D c pre W _ _ h _
  exact h.elim
end Go.Proofs.YtpebabaigakagaaGreatDoor.Txt
end
section
namespace Go.Proofs.YtpebabaigakagaaGreatDoor.Txt
open Go.RowKit Go.Shelf Go.Sort
open Go.Maps (Keyed)
open _root_.Go.Proofs.YtpebabaigakagaaGreatDoor.Mark (own_sorted holdsK_of grownBy_sortedK)
open Path (bl rightB splits cmpL cmpP)
def ltP (x y : ByteArray) : Prop := cmpL (splits (bl x)) (splits (bl y)) < 0
instance (x y : ByteArray) : Decidable (ltP x y) := by unfold ltP; infer_instance
def cmpPP (x y : ByteArray) : Int := cmpP (bl x) (bl y)
theorem bl_inj {a b : ByteArray} (h : bl a = bl b) : a = b := by
 unfold bl at h
 have : a.data = b.data := by rw [← Array.toList_inj]; exact h
 cases a; cases b; simp_all
theorem cmpPP_right {x y : ByteArray} (hx : rightB (bl x) = true) (hy : rightB (bl y) = true) : cmpPP x y = cmpL (splits (bl x)) (splits (bl y)) := by simp [cmpPP, cmpP, hx, hy]
theorem ltP_irrefl (x : ByteArray) : ¬ ltP x x := by unfold ltP; rw [Path.cl_self]; omega
theorem ltP_trans {x y z : ByteArray} (h1 : ltP x y) (h2 : ltP y z) : ltP x z := Path.cl_trans h1 h2
theorem ltP_tri (x y : ByteArray) : ltP x y ∨ x = y ∨ ltP y x := by
 unfold ltP
 have h := Path.cl_anti (splits (bl x)) (splits (bl y))
 by_cases h0 : cmpL (splits (bl x)) (splits (bl y)) = 0
 · exact .inr (.inl (bl_inj (Path.splits_inj (Path.cl_eq h0))))
 · by_cases h1 : cmpL (splits (bl x)) (splits (bl y)) < 0
   · exact .inl h1
   · exact .inr (.inr (by omega))
abbrev TxtI (es : List ByteArray) := {e : ByteArray // e ∈ es}
def cmpI (es : List ByteArray) (x y : TxtI es) : Int := cmpPP x.1 y.1
def encI (es : List ByteArray) (x : TxtI es) : Value := .string x.1
section
variable {es : List ByteArray} (H : ∀ e ∈ es, rightB (bl e) = true)
include H
theorem cmpI_lt (x y : TxtI es) : ltOf (cmpI es) x y = decide (ltP x.1 y.1) := by unfold ltOf cmpI; rw [cmpPP_right (H _ x.2) (H _ y.2)]; rfl
theorem totI (x y : TxtI es) (h1 : ltOf (cmpI es) x y = false) (h2 : ltOf (cmpI es) y x = false) : x = y := by
 rw [cmpI_lt H] at *
 rcases ltP_tri x.1 y.1 with q | q | q
 · exact absurd q (of_decide_eq_false h1)
 · exact Subtype.ext q
 · exact absurd q (of_decide_eq_false h2)
theorem swoI : SWO (ltOf (cmpI es)) where
 irrefl x := by rw [cmpI_lt H]; exact decide_eq_false (ltP_irrefl _)
 trans x y z h1 h2 := by rw [cmpI_lt H] at *; exact decide_eq_true (ltP_trans (of_decide_eq_true h1) (of_decide_eq_true h2))
 ntrans x y z h1 h2 := by
  rw [cmpI_lt H] at *
  refine decide_eq_false fun h => ?_
  have n1 := of_decide_eq_false h1
  have n2 := of_decide_eq_false h2
  rcases ltP_tri x.1 y.1 with q | q | q
  · exact n1 q
  · rw [q] at h; exact n2 h
  · exact n2 (ltP_trans q h)
end
def sortI {es : List ByteArray} (l : List (TxtI es)) : List (TxtI es) := l.mergeSort fun x y => !ltOf (cmpI es) y x
theorem sortI_len {es : List ByteArray} (l : List (TxtI es)) : (sortI l).length = l.length := List.length_mergeSort l
theorem sortI_perm {es : List ByteArray} (l : List (TxtI es)) : (sortI l).Perm l := List.mergeSort_perm l _
theorem sortI_lt {es : List ByteArray} (H : ∀ e ∈ es, rightB (bl e) = true) (l : List (TxtI es)) (hn : l.Nodup) : ((sortI l).map (·.1)).Pairwise ltP := by
 have h2 : (sortI l).Nodup := (sortI_perm l).nodup_iff.2 hn
 have h3 : (sortI l).Pairwise (fun a b => (!ltOf (cmpI es) b a) = true) := by
  refine List.pairwise_mergeSort ?_ ?_ l
  · intro a b c h1 h2
    rw [cmpI_lt H] at *
    simp only [Bool.not_eq_true', decide_eq_false_iff_not] at *
    intro h
    rcases ltP_tri b.1 a.1 with q | q | q
    · exact h1 q
    · rw [← q] at h; exact h2 h
    · exact h2 (ltP_trans h q)
  · intro a b
    rw [cmpI_lt H, cmpI_lt H]
    simp only [Bool.or_eq_true, Bool.not_eq_true', decide_eq_false_iff_not]
    by_cases h : ltP b.1 a.1
    · right
      intro h'
      exact ltP_irrefl _ (ltP_trans h h')
    · exact .inl h
 rw [List.pairwise_map]
 refine (h3.and h2).imp ?_
 rintro a b ⟨h, hne⟩
 rw [cmpI_lt H] at h
 simp only [Bool.not_eq_true', decide_eq_false_iff_not] at h
 rcases ltP_tri a.1 b.1 with q | q | q
 · exact q
 · exact absurd (Subtype.ext q) hne
 · exact absurd q h
def toI {es : List ByteArray} : (l : List ByteArray) → (∀ x ∈ l, x ∈ es) → List (TxtI es)
 | [], _ => []
 | x :: l, h => ⟨x, h x (by simp)⟩ :: toI l (fun y hy => h y (by simp [hy]))
theorem toI_map {es : List ByteArray} : ∀ (l : List ByteArray) (h : ∀ x ∈ l, x ∈ es), (toI l h).map (·.1) = l
 | [], _ => rfl
 | x :: l, h => by rw [toI, List.map_cons, toI_map l]
theorem encI_flat {es : List ByteArray} (l : List (TxtI es)) : l.map (encI es) = (l.map (·.1)).flatMap seL := by
 induction l with
 | nil => rfl
 | cons x l ih => rw [List.map_cons, List.map_cons, List.flatMap_cons, ih]; rfl
section
variable {α : Type} [Inhabited α]
theorem heap_sorted1 {enc : α → Value} {w : World} {g n : Nat} {os : Array Obj} {cur : Array Value} {e : TypeId} {fr : Nat × Nat} (F : Array α) (hb : w.heap[g]? = some (.cells cur e fr)) :
 (sortWorld enc w g 0 n F os).heap[g]? = some (.cells (putCells enc 0 F cur) e fr) := by
 have hg : g < w.heap.size := (Array.getElem?_eq_some_iff.1 hb).1
 unfold sortWorld
 rw [heap_grow_old _ _ (by simpa using hg)]
 simp [putRow, mapBlock, Sort.ahead, Array.getElem?_modify, hb, onCells]
theorem grownBy_sorted1 {enc : α → Value} {w : World} {g n : Nat} {os : Array Obj} (F : Array α) : w.grownBy (sortWorld enc w g 0 n F os) (some g) := by
 unfold sortWorld
 refine ⟨rfl, rfl, rfl, by simp, fun k hk hne => ?_⟩
 rw [heap_grow_old _ _ (by simpa using hk)]
 have : g ≠ k := fun e => hne (by rw [e])
 simp [putRow, mapBlock, Sort.ahead, Array.getElem?_modify, this]
theorem take_put1 {enc : α → Value} (cur : Array Value) (l : List α) (h : l.length ≤ cur.size) : (putCells enc 0 l.toArray cur).toList.take l.length = l.map enc := by
 apply List.ext_getElem?
 intro j
 by_cases hj : j < l.length
 · rw [List.getElem?_take_of_lt hj, Array.getElem?_toList, List.getElem?_map]
   simp [putCells, hj, show j < cur.size by omega]
 · rw [List.getElem?_take_eq_none (by omega), List.getElem?_eq_none (by simp; omega)]
theorem own_sorted1 (enc : α → Value) {w : World} {base g cap n : Nat} {e : TypeId} {os : Array Obj} {cur : Array Value} {ts : List α} (hbase : base ≤ g) (hb : w.heap[g]? = some (.cells cur e (0, 0)))
 (h1 : ts.length ≤ cap) (h2 : cap ≤ maxLen) (h3 : cur.size = cap * 1) :
 (sortWorld enc w g 0 n ts.toArray os).ownsRow base e 1 (.slice (some ⟨g, 0, none⟩) ts.length cap) ts.length (ts.map enc) := by
 refine ⟨by simp, .inr ⟨g, cap, _, rfl, hbase, heap_sorted1 ts.toArray hb, h1, h2, by simp [putCells, h3], ?_⟩⟩
 rw [Nat.mul_one]
 exact take_put1 cur ts (by omega)
theorem holds_of1 (enc : α → Value) {w : World} {g : Nat} {cur : Array Value} {e : TypeId} {ts : List α} (hb : w.heap[g]? = some (.cells cur e (0, 0))) (ht : cur.toList.take (ts.length * 1) = ts.map enc) : Holds enc w g 0 ts.toArray := by
 intro j hj
 have hj' : j < ts.length := by simpa using hj
 refine ⟨?_, by simp [World.frozen?, hb]⟩
 have h1 : (cur.toList.take (ts.length * 1))[j]? = (ts.map enc)[j]? := by rw [ht]
 rw [List.getElem?_take_of_lt (by omega), Array.getElem?_toList, List.getElem?_map, List.getElem?_eq_getElem hj'] at h1
 simp only [World.cell?, hb, Nat.zero_add]
 simp only [Option.isSome_none, Bool.false_eq_true, if_false]
 rw [h1, getElem!_pos _ j hj]
 simp
end
theorem encI_one {es : List ByteArray} : OneCell (encI es) := fun x => rfl
theorem cmpLaysI {es : List ByteArray} [Inhabited (TxtI es)] (hs : ∀ e ∈ es, e.size ≤ 1000) (blk off size : Nat) (w : World) : CmpLays1 Tryz.prog 35 #[] (encI es) (cmpI es) blk off size w :=
 fun _ _ _ _ x y => Path.calls_grow (Path.compareP_any x.1 y.1 _ (hs _ x.2) (hs _ y.2))
theorem collect_in (F : Fence) (n : Nat) (hF : F.fn 117) (hF2 : F.fn 146) (hro : F.round = none) (hn : 4 ≤ n) (gf : Nat) (lb : Array Value) (hFg : F.fn gf) (eg : ∀ args w, (callFunc gf args).run Tryz.prog w = .ok (.enter gf args) w)
 (S Sp : List (ByteArray) → Prop) (N : Nat) (hN : N ≤ 100000000) (w : World) (hseq : SeqStopsK F (n - 1 - 1) Tryz.prog gf lb (fun x : ByteArray => #[seV x]) KeepsWalks S Sp N w) :
 CallsIn F n Tryz.prog 117 #[.func (.func gf) #[] lb] w fun e w' => ∃ (v : Value) (ss : List (ByteArray)), e = .returned v ∧ S ss ∧ w'.ownsRow w.heap.size 9 1 v ss.length (ss.flatMap seL) ∧ (v = .slice none 0 0 ↔ ss = []) ∧ Below w.heap.size w w' := by
 have h1 : 1 ≤ n := by omega
 refine callsIn_of_wp Tryz.func117 rfl hF ?_ hro
 simp only [Tryz.ntmps117, List.size_toArray, List.length_cons, List.length_nil, Nat.reduceAdd, Nat.reduceSub, Array.replicate_succ, Array.replicate_zero, List.push_toArray, List.append_toArray, List.nil_append, List.cons_append]
 gi_wp2_with (gi_at_call 146; refine (appendSeq_in F (n - 1) hF2 hro (by omega) gf lb hFg eg S Sp N hN _ hseq).mono ?_; rintro e W ⟨v, ss, rfl, hS, hrow, hnil, hb⟩)
 go_ret
 exact ⟨v, ss, rfl, hS, hrow, hnil, hb⟩
theorem collect_keys (Bm b : Nat) (es : List (Value × Value)) (ks : List (ByteArray)) (hes : es.map (·.1) = ks.map seV) (w : World) (hBm : Bm < w.heap.size) (hm : w.cell? ⟨Bm, 0, none⟩ = some (.map (some b))) (hM : MapAt Tryz.prog 9 w b es) (hN : ks.length ≤ 100000000) :
 Calls Tryz.prog 117 #[.func (.func 119) #[] #[.pointer (some ⟨Bm, 0, none⟩)]] w fun e w' => ∃ (v : Value) (ss : List (ByteArray)), e = .returned v ∧ ss.Perm ks ∧ w'.ownsRow w.heap.size 9 1 v ss.length (ss.flatMap seL) ∧ (v = .slice none 0 0 ↔ ss = []) ∧ Below w.heap.size w w' :=
 callsIn_wide.1 (collect_in Fence.wide 5 trivial trivial rfl (by omega) _ _ trivial (enters_of Tryz.func119 (by kernel_rfl) rfl) _ _ ks.length hN w
  (keys_stops Fence.wide _ trivial rfl (by omega) Bm b es ks hes w hBm hm hM))
theorem sorted_any (Bm b : Nat) (es : List (Value × Value)) (ks : List ByteArray) (hes : es.map (·.1) = ks.map seV) (hnd : ks.Nodup) (w : World) (hBm : Bm < w.heap.size) (hm : w.cell? ⟨Bm, 0, none⟩ = some (.map (some b))) (hM : MapAt Tryz.prog 9 w b es) (hN : ks.length ≤ 100000000) (hr : ∀ k ∈ ks, rightB (bl k) = true) (hs : ∀ k ∈ ks, k.size ≤ 1000) :
 Calls Tryz.prog 78 #[.func (.func 119) #[] #[.pointer (some ⟨Bm, 0, none⟩)], .func (.func 35) #[] #[]] w fun e w' =>
  ∃ (v : Value) (l : List ByteArray), e = .returned v ∧ l.Perm ks ∧ l.Pairwise ltP ∧ w'.ownsRow w.heap.size 9 1 v l.length (l.flatMap seL) ∧ Below w.heap.size w w' := by
 have hC := collect_keys Bm b es ks hes w hBm hm hM hN
 clear hes hM hm
 go_enter Tryz.func78, Tryz.ntmps78
 go_wp2_with fail
 refine hC.mono ?_
 rintro e w1 ⟨v, ss, rfl, hp, hrow, hnil, hb⟩
 rcases hrow.2 with ⟨rfl, hz⟩ | ⟨gb, cap, cur, rfl, hbase, hgb, r1, r2, r3, r4⟩
 · have hss : ss = [] := List.eq_nil_of_length_eq_zero hz
   subst hss
   have hS : Calls Tryz.prog 118 #[.slice none 0 0, .func (.func 35) #[] #[]] w1 fun e w' => e = .returned (.tuple #[]) ∧ w' = w1 := AnyF.slices_SortFunc_none { Tryz.sort118 with } none 0 _ w1
   go_wp2_with fail
   refine hS.mono ?_
   rintro e _ ⟨rfl, rfl⟩
   go_wp2_with fail
   go_ret
   exact ⟨_, [], rfl, hp, .nil, hrow, hb⟩
 · have hsub : ∀ x ∈ ss, x ∈ ks := fun x hx => hp.mem_iff.1 hx
   have htm := toI_map ss hsub
   obtain ⟨ti, hti⟩ : ∃ ti, toI ss hsub = ti := ⟨_, rfl⟩
   rw [hti] at htm
   have htl : ti.length = ss.length := by rw [← htm]; simp
   have hflat : ti.map (encI ks) = ss.flatMap seL := by rw [encI_flat, htm]
   have htn : ti.Nodup := by
    have : (ti.map (·.1)).Nodup := by rw [htm]; exact hp.nodup_iff.2 hnd
    exact (List.pairwise_map.1 this).imp (fun q e => q (by rw [e]))
   have hne : ss ≠ [] := fun e => by have := hnil.2 e; cases this
   have hpos : 0 < ss.length := List.length_pos_iff.2 hne
   have hll := hp.length_eq
   haveI : Inhabited (TxtI ks) := ⟨⟨ss[0]'hpos, hsub _ (List.getElem_mem _)⟩⟩
   have hH : Holds (encI ks) w1 gb 0 ti.toArray := holds_of1 (encI ks) hgb (by rw [htl, hflat]; exact r4)
   have hgl : gb < w1.heap.size := (Array.getElem?_eq_some_iff.1 hgb).1
   have hsz : ti.toArray.size < 4611686018427387904 := by simp; omega
   have hS : Calls Tryz.prog 118 #[.slice (some ⟨gb, 0, none⟩) ti.length cap, .func (.func 35) #[] #[]] w1 fun e w' => e = .returned (.tuple #[]) ∧ ∃ n os, w' = sortWorld (encI ks) w1 gb 0 n (sortI ti).toArray os :=
    Any.slices_SortFunc_total Tryz.sort118 (encI ks) encI_one (cmpI ks) (swoI hr) 35 #[] gb 0 cap ti.toArray w1 (enters_of Tryz.func35 (by kernel_rfl) rfl) (cmpLaysI hs _ _ _ _) hH hgl hsz (totI hr)
   rw [htl] at hS
   have htl' := Lib.hid htl
   clear hll htl
   go_wp2_with fail
   refine hS.mono ?_
   rintro e _ ⟨rfl, nn, os, rfl⟩
   go_wp2_with fail
   go_ret
   have hown := own_sorted1 (encI ks) (w := w1) (base := w.heap.size) (cap := cap) (n := nn) (os := os) (ts := sortI ti) hbase hgb (by rw [sortI_len, htl'.out]; exact r1) r2 r3
   have hlt := sortI_lt hr ti htn
   have hlp : ((sortI ti).map (fun x : TxtI ks => x.1)).Perm ss := by
    have := (sortI_perm ti).map (fun x : TxtI ks => x.1)
    rwa [htm] at this
   rw [encI_flat, sortI_len, htl'.out, ← hlp.length_eq] at hown
   generalize (sortI ti).map (fun x : TxtI ks => x.1) = l at *
   refine ⟨_, l, ?_, hlp.trans hp, hlt, hown, hb.grown (grownBy_sorted1 _) hb.size (fun j hj => by cases hj; exact hbase)⟩
   rw [hlp.length_eq]
   rfl
end Go.Proofs.YtpebabaigakagaaGreatDoor.Txt
end
