/- CollM, MarkC, LockS, LockT, MarkS, joined. -/
import Derived.RangeFuncNested
import Derived.RangeFuncBound
import Derived.RangeFuncCalls
import Derived.RangeFuncLeaves
import Derived.Shelf.Abstract
import Derived.WalkKit
import Derived.OwnWalkIn
import Derived.TacticsInMore
import Derived.LoopNIn
import Derived.LoopIn
import Derived.Maps.AppendAt
import Derived.Test.YtnkddjomanaadaaDoorJ3
import Derived.Test.YtnkddjomanaadaaDoorChecked
import Derived.Test.YtnkddjomanaadaaDoorShelf
import Derived.Test.YtnkddjomanaadaaDoorSort
import Derived.Deep.QuietTactic
import Derived.BigQuiet
import Derived.Deep.Cut
import Derived.WalkLawsBesides
import Derived.Test.YtnkddjomanaadaaDoorJ10
import Derived.Test.YtnkddjomanaadaaDoorJ8
import Derived.Test.YtnkddjomanaadaaDoorJ2
import Derived.Sort.OwnSorted
section
namespace Go.Proofs.YtnkddjomanaadaaDoor.Mark
open Go.RowKit Go.Shelf
open Go.Maps (Keyed)
set_option linter.unusedSimpArgs false
set_option linter.unusedVariables false
attribute [local go_sem] Oper.semAt_some

/-- an instance's name, as a value -/
def idV (p : Int × Int) : Value := .agg #[.int .i64 p.1, .int .i64 p.2]
def idL (p : Int × Int) : List Value := [.int .i64 p.1, .int .i64 p.2]
def unV : Value → Int × Int
  | .agg #[.int _ a, .int _ b] => (a, b)
  | _ => (0, 0)
theorem unV_idV (p : Int × Int) : unV (idV p) = p := rfl
theorem idV_inj {p q : Int × Int} (h : idV p = idV q) : p = q := by rw [← unV_idV p, h, unV_idV]
theorem perm_of_idV {l m : List (Int × Int)} (h : (l.map idV).Perm (m.map idV)) : l.Perm m := by
  have := h.map unV
  simpa [List.map_map, Function.comp_def, unV_idV] using this

/-- how many entries of a range have come, read off the world -/
def seenOf (w : World) (r : Nat) : Nat := match w.heap[r]? with | some (.mapIter _ _ seen _) => seen.size | _ => 0
theorem seenOf_eq {P : Program} {k : TypeId} {w : World} {r b : Nat} {es done : List (Value × Value)} (h : IterAt P k w r b es done) : seenOf w r = done.length := by
  obtain ⟨_, _, ents, clock, c0, vs, hb, hr, hc, hd, _⟩ := h
  unfold seenOf
  rw [hr, ← hd]
  simp
theorem iter_walk {P : Program} {k : TypeId} {w : World} {r b : Nat} {es done : List (Value × Value)} (h : IterAt P k w r b es done) : ∃ o : Obj, w.heap[r]? = some o ∧ o.isWalk = true := by
  obtain ⟨_, _, ents, clock, c0, vs, hb, hr, _⟩ := h
  exact ⟨_, hr, rfl⟩
theorem iter_keeps {P : Program} {k : TypeId} {w w' : World} {r b : Nat} {es done : List (Value × Value)} (h : IterAt P k w r b es done) (hk : KeepsWalks w w') : IterAt P k w' r b es done := by
  have h0 := h
  obtain ⟨_, _, ents, clock, c0, vs, hb, hr, _⟩ := h0
  exact h.same ((hk.same b _ hb rfl).trans hb.symm) ((hk.same r _ hr rfl).trans hr.symm)
theorem grown_of_exc {w w' : World} {r : Nat} (h : Exc (fun q => q = r) w w') : w.grownBy w' (some r) := ⟨h.os, h.tape, h.output, h.size, fun k hk hn => h.block k hk (fun e => hn (by rw [e]))⟩
theorem grown_of_ext {w w' : World} (h : Ext w w') : w.grownBy w' none := ⟨Below.os h, Below.tape h, Below.output h, Below.size h, fun k hk _ => Below.block h k hk⟩

/-! ### slices.AppendSeq, slices.Collect -/
def Box (W : World) (B : Nat) (t : TypeId) (c : Array Value) : Prop := W.heap[B]? = some (.cells c t (0, 0))
theorem Box.own {β : Type} (B : Nat) (t : TypeId) (c : Array Value) : Own (fun (_ : β) W => Box W B t c) := fun s X Y row hs hg hrow =>
  (hg.block B (lt_of_some hs) (fun e => by obtain ⟨o, ho, hc⟩ := hrow B e.symm; rw [show X.heap[B]? = _ from hs] at ho; cases ho; cases hc)).trans hs
theorem two_new (W : World) (x y : Value) (t : TypeId) : ∀ (j : Nat) (u : Value), [x, y][j]? = some u → (W.alloc (.cells #[x, y] t)).cell? ((⟨W.heap.size, 0, none⟩ : Addr).add j) = some u := by
  intro j u h
  match j, h with
  | 0, h => simp at h; subst h; simp [Addr.add]
  | 1, h => simp at h; subst h; simp [Addr.add]
  | j + 2, h => simp at h
end Go.Proofs.YtnkddjomanaadaaDoor.Mark
end

section
namespace Go.Proofs.YtnkddjomanaadaaDoor.Mark
open Go.RowKit
open Go.Sort Go.Shelf
set_option linter.unusedSimpArgs false
set_option linter.unusedVariables false

def orI (a b : Int) : Int := if a = 0 then b else a
set_option maxRecDepth 100000 in
theorem or2 (a b : Int) (g : Nat) (w : World) (h0 : w.cell? ⟨g, 0, none⟩ = some (.int .i64 a)) (h1 : w.cell? ⟨g, 1, none⟩ = some (.int .i64 b)) :
    Calls Tryd.prog 19 #[.slice (some ⟨g, 0, none⟩) 2 2] w fun e w' => e = .returned (.int .i64 (orI a b)) ∧ w = w' := by
  by_cases ha : a = 0
  · subst ha
    by_cases hb : b = 0
    · subst hb
      go_enter Tryd.func19, Tryd.ntmps19
      go_wp2
      refine wp_loop_rounds 3 ?_
      rw [rounds_succ]
      go_wp2
      rw [rounds_succ]
      go_wp2
      rw [rounds_succ]
      go_wp2
      go_ret
      exact ⟨rfl, rfl⟩
    · have hb' : (b == 0) = false := by simpa using hb
      go_enter Tryd.func19, Tryd.ntmps19
      go_wp2
      refine wp_loop_rounds 2 ?_
      rw [rounds_succ]
      go_wp2
      rw [rounds_succ]
      go_wp2
      refine bodyPost_ret (results_tmp rfl _ _ _) rfl ?_
      exact ⟨rfl, rfl⟩
  · have ha' : (a == 0) = false := by simpa using ha
    have e : orI a b = a := by simp [orI, ha]
    rw [e]
    go_enter Tryd.func19, Tryd.ntmps19
    go_wp2
    refine wp_loop_rounds 1 ?_
    rw [rounds_succ]
    go_wp2
    refine bodyPost_ret (results_tmp rfl _ _ _) rfl ?_
    exact ⟨rfl, rfl⟩
def cmpID (x y : Int × Int) : Int := orI (Lib.compareInt x.1 y.1) (Lib.compareInt x.2 y.2)
theorem three_grow (W : World) (A B C : Obj) (n : Nat) : (((W.alloc A).alloc B).drewN n).alloc C = grow (W.drewN n) #[A, B, C] := by
  rw [alloc_eq_grow W, alloc_eq_grow _ B, alloc_eq_grow _ C, grow_grow]
  show grow (grow (W.drewN n) _) _ = _
  rw [grow_grow]
  rfl
theorem new_cell (X : World) (n : Nat) (h : X.heap.size = n) (cs : Array Value) (t : TypeId) (j : Nat) (v : Value) (hv : cs[j]? = some v) : (X.alloc (.cells cs t)).cell? ⟨n, j, none⟩ = some v := by
  subst h
  rw [World.cell?, World.alloc_heap_new]
  exact hv
/-! ### The order is one -/
def ltID (x y : Int × Int) : Prop := x.1 < y.1 ∨ (x.1 = y.1 ∧ x.2 < y.2)
instance (x y : Int × Int) : Decidable (ltID x y) := by unfold ltID; infer_instance
theorem cmpID_lt (x y : Int × Int) : ltOf cmpID x y = decide (ltID x y) := by
  unfold ltOf cmpID orI Lib.compareInt ltID
  by_cases h1 : x.1 < y.1
  · simp [h1]
  · by_cases h2 : y.1 < x.1
    · have : x.1 ≠ y.1 := by omega
      simp [h1, h2, this]
    · have : x.1 = y.1 := by omega
      by_cases h3 : x.2 < y.2
      · simp [this, h3]
      · by_cases h4 : y.2 < x.2 <;> simp [this, h3, h4]
theorem swoID : SWO (ltOf cmpID) where
  irrefl x := by rw [cmpID_lt]; simp [ltID]
  trans x y z h1 h2 := by rw [cmpID_lt] at *; simp only [decide_eq_true_eq, decide_eq_false_iff_not] at *; unfold ltID at *; omega
  ntrans x y z h1 h2 := by rw [cmpID_lt] at *; simp only [decide_eq_true_eq, decide_eq_false_iff_not] at *; unfold ltID at *; omega
theorem totID (x y : Int × Int) (h1 : ltOf cmpID x y = false) (h2 : ltOf cmpID y x = false) : x = y := by
  rw [cmpID_lt] at *
  simp only [decide_eq_true_eq, decide_eq_false_iff_not] at *
  obtain ⟨a, b⟩ := x
  obtain ⟨c, d⟩ := y
  unfold ltID at *
  simp only [Prod.mk.injEq]
  simp only at h1 h2
  omega
/-- names, sorted -/
def sortID (l : List (Int × Int)) : List (Int × Int) := l.mergeSort fun x y => !ltOf cmpID y x
end Go.Proofs.YtnkddjomanaadaaDoor.Mark
end

section
namespace Go.Proofs.YtnkddjomanaadaaDoor.Lock
open Go.Sort Go.Shelf
open Go.Lib (compareBytes compareInt)
open _root_.Go.Proofs.YtnkddjomanaadaaDoor.Mark (orI)
open Path (bl rightB overB splits cmpL cmpP)
set_option linter.unusedSimpArgs false
set_option linter.unusedVariables false

def keyL (e : Ent) : List Path.Bs := splits (bl e.path)
/-- one stands ahead of another one -/
def ltE (x y : Ent) : Prop := cmpL (keyL x) (keyL y) < 0 ∨ (keyL x = keyL y ∧ x.stamp < y.stamp)
instance (x y : Ent) : Decidable (ltE x y) := by unfold ltE; infer_instance
def cmpE (x y : Ent) : Int := orI (cmpP (bl x.path) (bl y.path)) (compareInt x.stamp y.stamp)
theorem bl_inj {a b : ByteArray} (h : bl a = bl b) : a = b := by
  unfold bl at h
  have : a.data = b.data := by rw [← Array.toList_inj]; exact h
  cases a; cases b; simp_all
theorem key_path {x y : Ent} (h : keyL x = keyL y) : x.path = y.path := bl_inj (Path.splits_inj h)
theorem cmpE_lt {x y : Ent} (hx : rightB (bl x.path) = true) (hy : rightB (bl y.path) = true) : decide (cmpE x y < 0) = decide (ltE x y) := by
  have hcp : cmpP (bl x.path) (bl y.path) = cmpL (splits (bl x.path)) (splits (bl y.path)) := by simp [cmpP, hx, hy]
  unfold cmpE orI compareInt ltE
  rw [hcp]
  show _ = decide (cmpL (splits (bl x.path)) (splits (bl y.path)) < 0 ∨ (splits (bl x.path) = splits (bl y.path) ∧ x.stamp < y.stamp))
  generalize hp : splits (bl x.path) = p
  generalize hq : splits (bl y.path) = q
  by_cases h0 : cmpL p q = 0
  · have e := Path.cl_eq h0
    subst e
    rw [Path.cl_self]
    by_cases h1 : x.stamp < y.stamp
    · simp [h1]
    · by_cases h2 : y.stamp < x.stamp <;> simp [h1, h2]
  · have hne : p ≠ q := fun e => h0 (by rw [e]; exact Path.cl_self q)
    simp [h0, hne]
theorem ltE_irrefl (x : Ent) : ¬ ltE x x := by
  unfold ltE
  rw [Path.cl_self]
  omega
theorem ltE_trans {x y z : Ent} (h1 : ltE x y) (h2 : ltE y z) : ltE x z := by
  unfold ltE at *
  rcases h1 with h1 | ⟨h1, h1'⟩
  · rcases h2 with h2 | ⟨h2, _⟩
    · exact .inl (Path.cl_trans h1 h2)
    · exact .inl (by rw [← h2]; exact h1)
  · rcases h2 with h2 | ⟨h2, h2'⟩
    · exact .inl (by rw [h1]; exact h2)
    · exact .inr ⟨h1.trans h2, by omega⟩
theorem ltE_tri (x y : Ent) : ltE x y ∨ (keyL x = keyL y ∧ x.stamp = y.stamp) ∨ ltE y x := by
  unfold ltE
  have h := Path.cl_anti (keyL x) (keyL y)
  by_cases h0 : cmpL (keyL x) (keyL y) = 0
  · have e := Path.cl_eq h0
    rcases Int.lt_trichotomy x.stamp y.stamp with q | q | q
    · exact .inl (.inr ⟨e, q⟩)
    · exact .inr (.inl ⟨e, q⟩)
    · exact .inr (.inr (.inr ⟨e.symm, q⟩))
  · by_cases h1 : cmpL (keyL x) (keyL y) < 0
    · exact .inl (.inl h1)
    · exact .inr (.inr (.inl (by omega)))

/-- the entries of a list -/
abbrev EntI (es : List Ent) := {e : Ent // e ∈ es}
def cmpI (es : List Ent) (x y : EntI es) : Int := cmpE x.1 y.1
def encI (es : List Ent) (x : EntI es) : List Value := x.1.cells
/-- the list may be sorted: right paths, and of one path each has its stamp -/
structure Sortable (es : List Ent) : Prop where
  right : ∀ e ∈ es, rightB (bl e.path) = true
  one : ∀ a ∈ es, ∀ b ∈ es, a.path = b.path → a.stamp = b.stamp → a = b
theorem Inv.sortable {s : S3} {k : Nat} (h : Inv s k) : Sortable s.es := ⟨h.right, fun a ha b hb hp hs => by
  obtain ⟨i, hi⟩ := List.mem_iff_getElem?.1 ha
  obtain ⟨j, hj⟩ := List.mem_iff_getElem?.1 hb
  obtain ⟨hi1, hi2⟩ := List.getElem?_eq_some_iff.1 hi
  obtain ⟨hj1, hj2⟩ := List.getElem?_eq_some_iff.1 hj
  have hp' := List.pairwise_iff_getElem.1 h.order
  have ho : overB (bl a.path) (bl a.path) = true := Path.over_self (h.right a ha)
  rcases Nat.lt_trichotomy i j with q | q | q
  · have := hp' i j hi1 hj1 q
    rw [hi2, hj2, ← hp] at this
    have := this ho
    omega
  · subst q; rw [hi] at hj; exact Option.some.inj hj
  · have := hp' j i hj1 hi1 q
    rw [hi2, hj2, ← hp] at this
    have := this ho
    omega⟩
section
variable {es : List Ent} (H : Sortable es)
include H
theorem cmpI_lt (x y : EntI es) : ltOf (cmpI es) x y = decide (ltE x.1 y.1) := cmpE_lt (H.right _ x.2) (H.right _ y.2)
theorem totI (x y : EntI es) (h1 : ltOf (cmpI es) x y = false) (h2 : ltOf (cmpI es) y x = false) : x = y := by
  rw [cmpI_lt H] at *
  rcases ltE_tri x.1 y.1 with q | q | q
  · exact absurd q (of_decide_eq_false h1)
  · exact Subtype.ext (H.one _ x.2 _ y.2 (key_path q.1) q.2)
  · exact absurd q (of_decide_eq_false h2)
theorem swoI : SWO (ltOf (cmpI es)) where
  irrefl x := by rw [cmpI_lt H]; exact decide_eq_false (ltE_irrefl _)
  trans x y z h1 h2 := by rw [cmpI_lt H] at *; exact decide_eq_true (ltE_trans (of_decide_eq_true h1) (of_decide_eq_true h2))
  ntrans x y z h1 h2 := by
    rw [cmpI_lt H] at *
    refine decide_eq_false fun h => ?_
    have n1 := of_decide_eq_false h1
    have n2 := of_decide_eq_false h2
    rcases ltE_tri x.1 y.1 with q | q | q
    · exact n1 q
    · have e : x = y := Subtype.ext (H.one _ x.2 _ y.2 (key_path q.1) q.2)
      subst e; exact n2 h
    · exact n2 (ltE_trans q h)
/-- sorted -/
def sortI (_ : Sortable es) (l : List (EntI es)) : List (EntI es) := l.mergeSort fun x y => !ltOf (cmpI es) y x
omit H in
theorem sortI_len (H : Sortable es) (l : List (EntI es)) : (sortI H l).length = l.length := List.length_mergeSort l
omit H in
theorem sortI_perm (H : Sortable es) (l : List (EntI es)) : (sortI H l).Perm l := List.mergeSort_perm l _
omit H in
theorem sortI_le (H : Sortable es) (l : List (EntI es)) : (sortI H l).Pairwise (fun a b => (!ltOf (cmpI es) b a) = true) := by
  refine List.pairwise_mergeSort ?_ ?_ l
  · intro a b c h1 h2
    rw [cmpI_lt H] at *
    simp only [Bool.not_eq_true', decide_eq_false_iff_not] at *
    intro h
    rcases ltE_tri b.1 a.1 with q | q | q
    · exact h1 q
    · have e : b = a := Subtype.ext (H.one _ b.2 _ a.2 (key_path q.1) q.2)
      subst e; exact h2 h
    · exact h2 (ltE_trans h q)
  · intro a b
    rw [cmpI_lt H, cmpI_lt H]
    simp only [Bool.or_eq_true, Bool.not_eq_true', decide_eq_false_iff_not]
    by_cases h : ltE b.1 a.1
    · right
      intro h'
      exact ltE_irrefl _ (ltE_trans h h')
    · exact .inl h
end
theorem sortI_lt {es : List Ent} (H : Sortable es) (l : List (EntI es)) (hn : l.Nodup) : ((sortI H l).map (·.1)).Pairwise ltE := by
  have h2 : (sortI H l).Nodup := (sortI_perm H l).nodup_iff.2 hn
  rw [List.pairwise_map]
  refine ((sortI_le H l).and h2).imp ?_
  rintro a b ⟨h, hne⟩
  rw [cmpI_lt H] at h
  simp only [Bool.not_eq_true', decide_eq_false_iff_not] at h
  rcases ltE_tri a.1 b.1 with q | q | q
  · exact q
  · exact absurd (Subtype.ext (H.one _ a.2 _ b.2 (key_path q.1) q.2)) hne
  · exact absurd q h
/-- a row that is sorted is one -/
theorem sorted_one {l r : List Ent} (h1 : l.Pairwise ltE) (h2 : r.Pairwise ltE) (hp : l.Perm r) : l = r :=
  hp.eq_of_pairwise (le := ltE) (fun a b _ _ h3 h4 => absurd (ltE_trans h3 h4) (ltE_irrefl _)) h1 h2
/-- a list of entries of es, as such -/
def toI {es : List Ent} : (l : List Ent) → (∀ x ∈ l, x ∈ es) → List (EntI es)
  | [], _ => []
  | x :: l, h => ⟨x, h x (by simp)⟩ :: toI l (fun y hy => h y (by simp [hy]))
theorem toI_map {es : List Ent} : ∀ (l : List Ent) (h : ∀ x ∈ l, x ∈ es), (toI l h).map (·.1) = l
  | [], _ => rfl
  | x :: l, h => by rw [toI, List.map_cons, toI_map l]
theorem encI_flat {es : List Ent} (l : List (EntI es)) : l.flatMap (encI es) = (l.map (·.1)).flatMap Ent.cells := by
  induction l with
  | nil => rfl
  | cons x l ih => rw [List.flatMap_cons, List.map_cons, List.flatMap_cons, ih]; rfl
end Go.Proofs.YtnkddjomanaadaaDoor.Lock
end

section
namespace Go.Proofs.YtnkddjomanaadaaDoor.Lock
open _root_.Go.Proofs.YtnkddjomanaadaaDoor.Mark (seenOf seenOf_eq iter_walk iter_keeps grown_of_exc grown_of_ext Box Box.own)
open Go.RowKit Go.Shelf
open Go.Maps (Keyed)
set_option linter.unusedSimpArgs false
set_option linter.unusedVariables false
attribute [local go_sem] Oper.semAt_some

def unE2 : Value → Ent
  | .agg #[.string p, .int _ n, .string f, .int _ m, .int _ k, .int _ s] => ⟨p, n, f, m, k, s⟩
  | _ => nullE
theorem perm_of_val {l m : List Ent} (h : (l.map Ent.val).Perm (m.map Ent.val)) : l.Perm m := by
  have := h.map unE2
  have e : ∀ x : Ent, unE2 x.val = x := fun _ => rfl
  simpa [List.map_map, Function.comp_def, e] using this

set_option maxRecDepth 100000 in
set_option maxHeartbeats 1000000 in
theorem vals1_in (F : Fence) (n : Nat) (h1 : F.fn 30) (hro : F.round = none) (hn : 1 ≤ n) (l Bm b : Nat) (es : List (Value × Value)) (ks : List (Ent)) (hes : es.map (·.2) = ks.map Ent.val) (J Jx : List (Ent) → World → Prop)
    (W : World) (hJ : AbidesFrom W.heap.size J)
    (hY : ∀ pre x W1, J pre W1 → pre.length < ks.length → YieldAt F (n - 1) Tryd.prog l #[x.val] W1 fun e W' => (e = .returned (.bool true) ∧ J (pre ++ [x]) W' ∧ KeepsWalks W1 W') ∨ (e = .returned (.bool false) ∧ Jx (pre ++ [x]) W'))
    (hm : W.cell? ⟨Bm, 0, none⟩ = some (.map (some b))) (hM : MapAt Tryd.prog 49 W b es) (h0 : J [] W) :
    CallsIn F n Tryd.prog 30 #[.func (.yield l) #[] #[], .pointer (some ⟨Bm, 0, none⟩)] W fun e W' => (∃ v, e = .returned v) ∧ ((∃ ys, ys.Perm ks ∧ J ys W') ∨ (∃ pre, True ∧ Jx pre W')) := by
  obtain ⟨W0, hrun, hext, hI⟩ := IterAt.start hM Tryd.underlying42
  have hJ0 : J [] W0 := hJ _ W W0 none h0 (grown_of_ext hext) (fun r e => by cases e)
  refine callsIn_of_wp Tryd.func30 rfl h1 ?_ hro
  simp only [Tryd.ntmps30, List.size_toArray, List.length_cons, List.length_nil, Nat.reduceAdd, Nat.reduceSub, Array.replicate_succ, Array.replicate_zero, List.push_toArray, List.append_toArray, List.nil_append, List.cons_append]
  gi_wp2
  clear hrun
  try go_frame
  gi_loopw [4] (fun _ wr => ∃ (done : List (Value × Value)) (ds : List (Ent)), IterAt Tryd.prog 49 wr W.heap.size b es done ∧ done.map (·.2) = ds.map Ent.val ∧ J ds wr)
    (fun _ wr => es.length - seenOf wr W.heap.size)
  case atStart => exact ⟨[], [], hI, rfl, hJ0⟩
  case round =>
    obtain ⟨done, ds, hI1, hd, hJs⟩ := hrel
    rcases hI1.next 0 with ⟨hp, hrun⟩ | ⟨p, w', hp, hne, hrun, hI2, hx⟩
    · have hpp : ds.Perm ks := (perm_of_val (by rw [← hes, ← hd]; exact hp.map _)).symm
      clear hes hd
      gi_wp2
      go_end0
      exact ⟨⟨_, rfl⟩, .inl ⟨ds, hpp, hJs⟩⟩
    · obtain ⟨pk, pv⟩ := p
      have hpk : pv ∈ es.map (·.2) := List.mem_map.2 ⟨_, hp, rfl⟩
      rw [hes] at hpk
      obtain ⟨x, _, rfl⟩ := List.mem_map.1 hpk
      have hlen : ds.length < ks.length := by
        have e1 := congrArg List.length hes
        have e2 := congrArg List.length hd
        have e3 := hI2.len
        simp at e1 e2 e3
        omega
      have hJ1 : J ds w' := hJ ds wr w' (some W.heap.size) hJs (grown_of_exc hx) (fun r e => by cases e; exact ⟨Nat.le_refl _, iter_walk hI1⟩)
      have hJ2 : J ds (w'.alloc (.cells #[.string x.path, .int .u64 x.num, .string x.foot, .int .i64 x.mode, .int .u64 x.n, .int .i64 x.stamp] 30)) := hJ _ _ _ none hJ1 (World.grownBy_alloc _ _ none) (fun r e => by cases e)
      have hI3 : IterAt Tryd.prog 49 (w'.alloc (.cells #[.string x.path, .int .u64 x.num, .string x.foot, .int .i64 x.mode, .int .u64 x.n, .int .i64 x.stamp] 30)) W.heap.size b es (done ++ [(pk, x.val)]) := (Part.iter _ _ _ _ _ _).stay _ _ hI2 (fun q hq => Below.heap_alloc _ _ _ ((Part.iter _ _ _ _ _ _).lt _ hI2 q hq))
      obtain ⟨fn, tmps, assign, body, hy, hR⟩ := hY ds x _ hJ2 hlen
      have hen := hI2.entry
      have hs0 := seenOf_eq hI1
      have hes' := Lib.hid hes
      have hd' := Lib.hid hd
      have hs' := Lib.hid hs0
      have hle := hI2.len
      clear hes hd hs0 hpk hp hne hx
      unfold Ent.val at hrun hen hy
      gi_wp2
      refine hR.mono ?_
      rintro e W3 (⟨rfl, hJ3, hk3⟩ | ⟨rfl, hJx3⟩)
      · gi_wp2
        go_roundw
        case rel => exact ⟨done ++ [(pk, x.val)], ds ++ [x], iter_keeps hI3 hk3, by simp [hd'.out], hJ3⟩
        case measure =>
          have e1 := seenOf_eq (iter_keeps hI3 hk3)
          have e2 := hs'.out
          rw [e1, e2]
          simp at hle ⊢
          omega
      · gi_wp2
        refine bodyPost_ret (results_none rfl _ _ _) rfl ?_
        exact ⟨⟨_, rfl⟩, .inr ⟨_, trivial, hJx3⟩⟩

theorem vals_in (F : Fence) (n : Nat) (h1 : F.fn 16) (hro : F.round = none) (mb : Option Nat) (w : World) :
    CallsIn F n Tryd.prog 16 #[.map mb] w fun e w' => e = .returned (.func (.func 30) #[] #[.pointer (some ⟨w.heap.size, 0, none⟩)]) ∧ w' = w.alloc (.cells #[.map mb] 42) := by
  refine callsIn_of_wp Tryd.func16 rfl h1 ?_ hro
  simp only [Tryd.ntmps16, List.size_toArray, List.length_cons, List.length_nil, Nat.reduceAdd, Nat.reduceSub, Array.replicate_succ, Array.replicate_zero, List.push_toArray, List.append_toArray, List.nil_append, List.cons_append]
  gi_wp2
  go_ret
  exact ⟨rfl, rfl⟩

/-- the values' iterator, as a contract -/
theorem vals_stops (F : Fence) (n : Nat) (h1 : F.fn 30) (hro : F.round = none) (hn : 1 ≤ n) (Bm b : Nat) (es : List (Value × Value)) (ks : List (Ent)) (hes : es.map (·.2) = ks.map Ent.val) (w : World) (hBm : Bm < w.heap.size)
    (hm : w.cell? ⟨Bm, 0, none⟩ = some (.map (some b))) (hM : MapAt Tryd.prog 49 w b es) :
    SeqStopsK F n Tryd.prog 30 #[.pointer (some ⟨Bm, 0, none⟩)] (fun x : Ent => #[x.val]) KeepsWalks (fun ys => ys.Perm ks) (fun _ => True) ks.length w := fun l J Jx W hW hJ _ hY h0 =>
  vals1_in F n h1 hro hn l Bm b es ks hes J Jx W hJ hY ((hW.cell (p := ⟨Bm, 0, none⟩) hBm).trans hm) (hM.same (hW.block b hM.lt)) h0

/-! ### slices.AppendSeq, slices.Collect -/
theorem infoID : (Tryd.prog.info? 30).map (fun i => (i.zero, i.size, i.bytes)) = some (some (.agg #[.string .empty, .int .u64 0, .string .empty, .int .i64 0, .int .u64 0, .int .i64 0]), 6, 64) := by kernel_rfl
theorem six_new (W : World) (a b c d e f : Value) (t : TypeId) : ∀ (j : Nat) (u : Value), [a, b, c, d, e, f][j]? = some u → (W.alloc (.cells #[a, b, c, d, e, f] t)).cell? ((⟨W.heap.size, 0, none⟩ : Addr).add j) = some u := by
  intro j u h
  match j, h with
  | 0, h => simp at h; subst h; simp [Addr.add]
  | 1, h => simp at h; subst h; simp [Addr.add]
  | 2, h => simp at h; subst h; simp [Addr.add]
  | 3, h => simp at h; subst h; simp [Addr.add]
  | 4, h => simp at h; subst h; simp [Addr.add]
  | 5, h => simp at h; subst h; simp [Addr.add]
  | j + 6, h => simp at h
def MidI (w : World) (pre : List (Ent)) (W : World) : Prop :=
  (∃ v, Boxed W w.heap.size 36 v ∧ W.ownsRow w.heap.size 30 6 v pre.length (pre.flatMap Ent.cells) ∧ (v = .slice none 0 0 ↔ pre = [])) ∧ Below w.heap.size w W
theorem midI_own (w : World) (B : Nat) (hB : w.heap.size ≤ B) : OwnFrom B (MidI w) :=
  OwnFrom.and (Own.from (holdsRow_own w.heap.size w.heap.size 36 30 6 (fun pre => pre.length) (fun pre => pre.flatMap Ent.cells) (fun pre v => v = .slice none 0 0 ↔ pre = [])) _) (ownFrom_below (Nat.le_refl _) hB)
def MidAx (w : World) (sv : Value) (x : Ent) (a' : Act) (W : World) : Prop :=
  ∃ Bx, w.heap.size < Bx ∧ Box W Bx 30 #[.string x.path, .int .u64 x.num, .string x.foot, .int .i64 x.mode, .int .u64 x.n, .int .i64 x.stamp] ∧ a' = { tmps := #[.slice none 0 0, sv, .pointer (some ⟨w.heap.size, 0, none⟩), undef, .slice none 0 0, .pointer (some ⟨Bx, 0, none⟩), sv, x.val, undef, undef, undef, undef, undef], defers := [] }
theorem midAx_own (w : World) (sv : Value) (B : Nat) (x : Ent) (a' : Act) : OwnFrom B (fun (_ : Unit) W => MidAx w sv x a' W) := by
  rintro s X Y row ⟨Bx, h1, h2, h3⟩ hg hr
  exact ⟨Bx, h1, (Box.own (β := Unit) Bx _ _).from B () X Y row h2 hg hr, h3⟩

set_option maxRecDepth 100000 in
set_option maxHeartbeats 2000000 in
theorem appendSeq_in (F : Fence) (n : Nat) (hF : F.fn 29) (hro : F.round = none) (hn : 3 ≤ n) (gf : Nat) (lb : Array Value) (hFg : F.fn gf) (eg : ∀ args w, (callFunc gf args).run Tryd.prog w = .ok (.enter gf args) w)
    (S Sp : List (Ent) → Prop) (N : Nat) (hN : N ≤ 100000000) (w : World) (hseq : SeqStopsK F (n - 1) Tryd.prog gf lb (fun x : Ent => #[x.val]) KeepsWalks S Sp N w) :
    CallsIn F n Tryd.prog 29 #[.slice none 0 0, .func (.func gf) #[] lb] w fun e w' => ∃ (v : Value) (ss : List (Ent)), e = .returned v ∧ S ss ∧ w'.ownsRow w.heap.size 30 6 v ss.length (ss.flatMap Ent.cells) ∧ (v = .slice none 0 0 ↔ ss = []) ∧ Below w.heap.size w w' := by
  have h1 : 1 ≤ n := by omega
  obtain ⟨i0, hi, hz0, hz1, hz2⟩ := info_parts infoID
  refine callsIn_of_wp_marks Tryd.func29 rfl hF ?_ hro
  simp only [Tryd.ntmps29, List.size_toArray, List.length_cons, List.length_nil, Nat.reduceAdd, Nat.reduceSub, Array.replicate_succ, Array.replicate_zero, List.push_toArray, List.append_toArray, List.nil_append, List.cons_append]
  gi_wp2
  have bO := Boxed.new w 36 (.slice none 0 0)
  have hB0 : Below w.heap.size w (w.alloc (.cells #[.slice none 0 0] 36)) := (Below.refl _ w).alloc (Nat.le_refl _) _
  refine wpIn_rangeFunc_ownH hro h1 (gf := gf) (lb := lb) rfl hFg eg hseq walksK_t walksK_b hB0 (fun _ => rfl)
    (MidI w) (fun _ _ _ => False) (midI_own w _ (by simp)) (fun _ _ _ _ _ hs _ _ => hs)
    ⟨⟨_, bO, World.ownsRow_nil _ _ _ _, by simp⟩, hB0⟩
    (MidAx w (.func (.func gf) #[] lb)) (fun x a' => midAx_own w _ _ x a') ?assign ?body ?done ?stop
  case assign =>
    rintro l pre x W K ⟨⟨v, hv, hrow, hnil⟩, hB⟩ hK
    have hsz := hB.size
    unfold Ent.val
    gi_wp2
    refine hK _ _ ((KeepsOthers.alloc _ _).from _) (KeepsWalks.alloc _ _) ⟨⟨v, hv.alloc _, hrow.alloc _, hnil⟩, hB.alloc hB.size _⟩ ⟨W.heap.size, hv.lt, World.alloc_heap_new W _, rfl⟩
  case body =>
    rintro l pre x a' W hl ⟨r, hr⟩ ⟨⟨v, hv, hrow, hnil⟩, hB⟩ ⟨Bx, hBx, bX, rfl⟩ hlt
    have hc := hv.cell
    have c0 : W.cell? ⟨Bx, 0, none⟩ = some (.string x.path) := by unfold Box at bX; simp [World.cell?, bX]
    have c1 : W.cell? ⟨Bx, 1, none⟩ = some (.int .u64 x.num) := by unfold Box at bX; simp [World.cell?, bX]
    have c2 : W.cell? ⟨Bx, 2, none⟩ = some (.string x.foot) := by unfold Box at bX; simp [World.cell?, bX]
    have c3 : W.cell? ⟨Bx, 3, none⟩ = some (.int .i64 x.mode) := by unfold Box at bX; simp [World.cell?, bX]
    have c4 : W.cell? ⟨Bx, 4, none⟩ = some (.int .u64 x.n) := by unfold Box at bX; simp [World.cell?, bX]
    have c5 : W.cell? ⟨Bx, 5, none⟩ = some (.int .i64 x.stamp) := by unfold Box at bX; simp [World.cell?, bX]
    have hsz := hB.size
    gi_wp2_with (gi_at_builtin; refine wpListIn_append_own _ rfl _ _ 36 rfl w.heap.size 30 i0 (.agg #[.string .empty, .int .u64 0, .string .empty, .int .i64 0, .int .u64 0, .int .i64 0]) 6 64 Tryd.underlying36 hi hz0 hz1 hz2 rfl (by decide) _ _ _ rfl (hrow.alloc _) ⟨W.heap.size, 0, none⟩ 1 1 [.string x.path, .int .u64 x.num, .string x.foot, .int .i64 x.mode, .int .u64 x.n, .int .i64 x.stamp] rfl rfl (six_new _ _ _ _ _ _ _ _) (by simp [Value.oneCell']) (by unfold maxLen; omega) (by omega) (by simp; omega) ?_; intro v' w1 hown' hgrow _; obtain ⟨g', cap', rfl⟩ := ownsRow_succ hown'; obtain ⟨hv1, hv2, hr2, hk2, hb2⟩ := hv.appended (by decide) hrow hB.size (Nat.le_refl _) hown' hgrow; have hc1 := hv1.cell; have hf1 := hv1.frozen)
    exact ⟨hk2.from _, hk2.walks, ⟨_, hv2, by simpa [Ent.cells] using hr2, by simp⟩, hB.trans hb2⟩
  case done =>
    rintro D ys W hD hS ⟨⟨v, hv, hrow, hnil⟩, hB⟩ hK
    have hc := hv.cell
    gi_wp2
    refine ⟨by simp, .inl ⟨_, _, rfl, run_takeDeferred hK, ?_⟩⟩
    exact ⟨_, results_tmp rfl _ _ _, v, ys, rfl, hS, ownsRow_putObj hrow _ hK rfl, hnil, hB.trans (belowK_b (w := w) (Nat.le_refl _) W D _ _ (by simp at hD; omega) hK rfl rfl)⟩
  case stop =>
    rintro D c pre W _ _ h _
    exact h.elim

/-! ### slices.Collect -/
set_option maxRecDepth 100000 in
set_option maxHeartbeats 2000000 in
theorem collect_in (F : Fence) (n : Nat) (hF : F.fn 15) (hF2 : F.fn 29) (hro : F.round = none) (hn : 4 ≤ n) (gf : Nat) (lb : Array Value) (hFg : F.fn gf) (eg : ∀ args w, (callFunc gf args).run Tryd.prog w = .ok (.enter gf args) w)
    (S Sp : List (Ent) → Prop) (N : Nat) (hN : N ≤ 100000000) (w : World) (hseq : SeqStopsK F (n - 1 - 1) Tryd.prog gf lb (fun x : Ent => #[x.val]) KeepsWalks S Sp N w) :
    CallsIn F n Tryd.prog 15 #[.func (.func gf) #[] lb] w fun e w' => ∃ (v : Value) (ss : List (Ent)), e = .returned v ∧ S ss ∧ w'.ownsRow w.heap.size 30 6 v ss.length (ss.flatMap Ent.cells) ∧ (v = .slice none 0 0 ↔ ss = []) ∧ Below w.heap.size w w' := by
  have h1 : 1 ≤ n := by omega
  refine callsIn_of_wp Tryd.func15 rfl hF ?_ hro
  simp only [Tryd.ntmps15, List.size_toArray, List.length_cons, List.length_nil, Nat.reduceAdd, Nat.reduceSub, Array.replicate_succ, Array.replicate_zero, List.push_toArray, List.append_toArray, List.nil_append, List.cons_append]
  gi_wp2_with (gi_at_call 29; refine (appendSeq_in F (n - 1) hF2 hro (by omega) gf lb hFg eg S Sp N hN _ hseq).mono ?_; rintro e W ⟨v, ss, rfl, hS, hrow, hnil, hb⟩)
  go_ret
  exact ⟨v, ss, rfl, hS, hrow, hnil, hb⟩
theorem collect_vals (Bm b : Nat) (es : List (Value × Value)) (ks : List (Ent)) (hes : es.map (·.2) = ks.map Ent.val) (w : World) (hBm : Bm < w.heap.size) (hm : w.cell? ⟨Bm, 0, none⟩ = some (.map (some b))) (hM : MapAt Tryd.prog 49 w b es) (hN : ks.length ≤ 100000000) :
    Calls Tryd.prog 15 #[.func (.func 30) #[] #[.pointer (some ⟨Bm, 0, none⟩)]] w fun e w' => ∃ (v : Value) (ss : List (Ent)), e = .returned v ∧ ss.Perm ks ∧ w'.ownsRow w.heap.size 30 6 v ss.length (ss.flatMap Ent.cells) ∧ (v = .slice none 0 0 ↔ ss = []) ∧ Below w.heap.size w w' :=
  callsIn_wide.1 (collect_in Fence.wide 5 trivial trivial rfl (by omega) _ _ trivial (enters_of Tryd.func30 (by kernel_rfl) rfl) _ _ ks.length hN w
    (vals_stops Fence.wide _ trivial rfl (by omega) Bm b es ks hes w hBm hm hM))
end Go.Proofs.YtnkddjomanaadaaDoor.Lock
end

section
namespace Go.Proofs.YtnkddjomanaadaaDoor.Mark
open Go.RowKit Go.Shelf Go.Sort
open Go.Maps (Keyed)
set_option linter.unusedSimpArgs false
set_option linter.unusedVariables false

/-! ### Rows that are sorted -/
section
variable {α : Type} [Inhabited α]
theorem flatK_list (enc : α → List Value) (k : Nat) (hk : ∀ x, (enc x).length = k) (l : List α) : (flatK enc k l.toArray).toList = l.flatMap enc := by
  apply List.ext_getElem?
  intro t
  by_cases ht : t < l.length * k
  · have hk0 : 0 < k := by
      rcases Nat.eq_zero_or_pos k with h | h
      · subst h; omega
      · exact h
    have hq : t / k < l.length := Nat.div_lt_of_lt_mul (by rw [Nat.mul_comm]; exact ht)
    have e := flat_at enc k hk l (t / k) l[t / k] (List.getElem?_eq_getElem hq) (t % k) (Nat.mod_lt _ hk0)
    rw [Nat.mul_comm, Nat.div_add_mod] at e
    rw [e, Array.getElem?_toList]
    have hm : t % k < (enc l[t / k]).length := by rw [hk]; exact Nat.mod_lt _ hk0
    simp [flatK, ht, hq, hm]
  · rw [List.getElem?_eq_none (by simp; omega), List.getElem?_eq_none (by rw [flat_len enc k hk]; omega)]
theorem heap_sortedK {w : World} {g n : Nat} {os : Array Obj} {cur : Array Value} {e : TypeId} {fr : Nat × Nat} (F : Array Value) (hb : w.heap[g]? = some (.cells cur e fr)) :
    (grow (putRow id (Sort.ahead w n) g 0 F) os).heap[g]? = some (.cells (putCells id 0 F cur) e fr) := by
  have hg : g < w.heap.size := (Array.getElem?_eq_some_iff.1 hb).1
  rw [heap_grow_old _ _ (by simpa using hg)]
  simp [putRow, mapBlock, Sort.ahead, Array.getElem?_modify, hb, onCells]
theorem grownBy_sortedK {w : World} {g n : Nat} {os : Array Obj} (F : Array Value) : w.grownBy (grow (putRow id (Sort.ahead w n) g 0 F) os) (some g) := by
  refine ⟨rfl, rfl, rfl, by simp, fun k hk hne => ?_⟩
  rw [heap_grow_old _ _ (by simpa using hk)]
  have : g ≠ k := fun e => hne (by rw [e])
  simp [putRow, mapBlock, Sort.ahead, Array.getElem?_modify, this]
theorem take_putK (cur F : Array Value) (h : F.size ≤ cur.size) : (putCells id 0 F cur).toList.take F.size = F.toList := by
  apply List.ext_getElem?
  intro j
  by_cases hj : j < F.size
  · rw [List.getElem?_take_of_lt hj, Array.getElem?_toList]
    simp [putCells, hj, show j < cur.size by omega]
  · rw [List.getElem?_take_eq_none (by omega), List.getElem?_eq_none (by simp; omega)]
theorem own_sorted (enc : α → List Value) (k : Nat) (hk : ∀ x, (enc x).length = k) {w : World} {base g cap n : Nat} {e : TypeId} {os : Array Obj} {cur : Array Value} {ss ts : List α} (hl : ts.length = ss.length) (hbase : base ≤ g) (hb : w.heap[g]? = some (.cells cur e (0, 0)))
    (h1 : ss.length ≤ cap) (h2 : cap ≤ maxLen) (h3 : cur.size = cap * k) :
    (sortWorldK enc k w g 0 n ts.toArray os).ownsRow base e k (.slice (some ⟨g, 0, none⟩) ss.length cap) ss.length (ts.flatMap enc) := by
  have hsz : (flatK enc k ts.toArray).size = ss.length * k := by simp [hl]
  refine ⟨by rw [flat_len enc k hk, hl], .inr ⟨g, cap, _, rfl, hbase, heap_sortedK (flatK enc k ts.toArray) hb, h1, h2, by simp [putCells, h3], ?_⟩⟩
  have := take_putK cur (flatK enc k ts.toArray) (by rw [hsz, h3]; exact Nat.mul_le_mul_right _ h1)
  rw [hsz, flatK_list enc k hk] at this
  exact this
theorem holdsK_of (enc : α → List Value) (k : Nat) (hk : ∀ x, (enc x).length = k) {w : World} {g : Nat} {cur : Array Value} {e : TypeId} {ss : List α} (hb : w.heap[g]? = some (.cells cur e (0, 0))) (ht : cur.toList.take (ss.length * k) = ss.flatMap enc) : HoldsK enc k w g 0 ss.toArray := by
  intro j hj
  have hj' : j < ss.length * k := by simpa using hj
  refine ⟨?_, by simp [World.frozen?, hb]⟩
  have h1 : (cur.toList.take (ss.length * k))[j]? = (flatK enc k ss.toArray).toList[j]? := by rw [ht, flatK_list enc k hk]
  rw [List.getElem?_take_of_lt hj', Array.getElem?_toList, Array.getElem?_toList, Array.getElem?_eq_getElem hj] at h1
  simp only [World.cell?, hb, Nat.zero_add]
  simp only [Option.isSome_none, Bool.false_eq_true, if_false]
  rw [h1, getElem!_pos _ j hj]
  rfl
end

/-! ### slices.Collect, slices.SortFunc, slices.SortedFunc -/
theorem idL_len (x : Int × Int) : (idL x).length = 2 := rfl
theorem idL_one (x : Int × Int) : ∀ v ∈ idL x, v.oneCell' = true := by
  intro u hu
  simp only [idL, List.mem_cons, List.not_mem_nil, or_false] at hu
  rcases hu with rfl | rfl <;> rfl
theorem sort_len (l : List (Int × Int)) : (sortID l).length = l.length := List.length_mergeSort l
theorem sort_perm {l m : List (Int × Int)} (h : l.Perm m) : sortID l = sortID m := by
  have hp : (sortID l).Perm (sortID m) := (List.mergeSort_perm l _).trans (h.trans (List.mergeSort_perm m _).symm)
  have tr : ∀ a b c : Int × Int, (!ltOf cmpID b a) = true → (!ltOf cmpID c b) = true → (!ltOf cmpID c a) = true := by
    intro a b c h1 h2
    rw [cmpID_lt] at *
    simp only [Bool.not_eq_true', decide_eq_false_iff_not] at *
    unfold ltID at *
    omega
  have tot : ∀ a b : Int × Int, ((!ltOf cmpID b a) || !ltOf cmpID a b) = true := by
    intro a b
    rw [cmpID_lt, cmpID_lt]
    simp only [Bool.or_eq_true, Bool.not_eq_true', decide_eq_false_iff_not]
    unfold ltID
    omega
  refine List.Perm.eq_of_pairwise (le := fun a b => (!ltOf cmpID b a) = true) ?_ (List.pairwise_mergeSort tr tot l) (List.pairwise_mergeSort tr tot m) hp
  intro a b _ _ h1 h2
  exact totID a b (by simpa using h2) (by simpa using h1)
end Go.Proofs.YtnkddjomanaadaaDoor.Mark
end
