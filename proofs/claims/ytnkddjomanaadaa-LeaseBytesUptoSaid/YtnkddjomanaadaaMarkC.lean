/- Names of instances: their order, and slices of them sorted. -/
import Derived.Test.YtnkddjomanaadaaCollM
import Derived.Test.YtnkddjomanaadaaShelf
import Derived.Test.YtnkddjomanaadaaSort
import Derived.Deep.QuietTactic
import Derived.BigQuiet
import Derived.Deep.Cut
import Derived.WalkLawsBesides
namespace Go.Proofs.Ytnkddjomanaadaa.Mark
open Go.RowKit
open Go.Sort Go.Shelf
set_option linter.unusedSimpArgs false
set_option linter.unusedVariables false

def orI (a b : Int) : Int := if a = 0 then b else a
set_option maxRecDepth 100000 in
theorem or2 (a b : Int) (g : Nat) (w : World) (h0 : w.cell? ⟨g, 0, none⟩ = some (.int .i64 a)) (h1 : w.cell? ⟨g, 1, none⟩ = some (.int .i64 b)) :
    Calls Try.prog 56 #[.slice (some ⟨g, 0, none⟩) 2 2] w fun e w' => e = .returned (.int .i64 (orI a b)) ∧ w = w' := by
  by_cases ha : a = 0
  · subst ha
    by_cases hb : b = 0
    · subst hb
      go_enter Try.func56, Try.ntmps56
      go_wp2
      refine wp_loop_rounds 3 ?_
      rw [rounds_succ]
      go_wp2
      rw [rounds_succ]
      go_wp2
      rw [rounds_succ]
      go_wp2
      go_ret
      exact ⟨rfl, rfl⟩
    · have hb' : (b == 0) = false := by simpa using hb
      go_enter Try.func56, Try.ntmps56
      go_wp2
      refine wp_loop_rounds 2 ?_
      rw [rounds_succ]
      go_wp2
      rw [rounds_succ]
      go_wp2
      refine bodyPost_ret (results_tmp rfl _ _ _) rfl ?_
      exact ⟨rfl, rfl⟩
  · have ha' : (a == 0) = false := by simpa using ha
    have e : orI a b = a := by simp [orI, ha]
    rw [e]
    go_enter Try.func56, Try.ntmps56
    go_wp2
    refine wp_loop_rounds 1 ?_
    rw [rounds_succ]
    go_wp2
    refine bodyPost_ret (results_tmp rfl _ _ _) rfl ?_
    exact ⟨rfl, rfl⟩
def cmpID (x y : Int × Int) : Int := orI (Lib.compareInt x.1 y.1) (Lib.compareInt x.2 y.2)
theorem three_grow (W : World) (A B C : Obj) (n : Nat) : (((W.alloc A).alloc B).drewN n).alloc C = grow (W.drewN n) #[A, B, C] := by
  rw [alloc_eq_grow W, alloc_eq_grow _ B, alloc_eq_grow _ C, grow_grow]
  show grow (grow (W.drewN n) _) _ = _
  rw [grow_grow]
  rfl
theorem new_cell (X : World) (n : Nat) (h : X.heap.size = n) (cs : Array Value) (t : TypeId) (j : Nat) (v : Value) (hv : cs[j]? = some v) : (X.alloc (.cells cs t)).cell? ⟨n, j, none⟩ = some v := by
  subst h
  rw [World.cell?, World.alloc_heap_new]
  exact hv
/-! ### The order is one -/
def ltID (x y : Int × Int) : Prop := x.1 < y.1 ∨ (x.1 = y.1 ∧ x.2 < y.2)
instance (x y : Int × Int) : Decidable (ltID x y) := by unfold ltID; infer_instance
theorem cmpID_lt (x y : Int × Int) : ltOf cmpID x y = decide (ltID x y) := by
  unfold ltOf cmpID orI Lib.compareInt ltID
  by_cases h1 : x.1 < y.1
  · simp [h1]
  · by_cases h2 : y.1 < x.1
    · have : x.1 ≠ y.1 := by omega
      simp [h1, h2, this]
    · have : x.1 = y.1 := by omega
      by_cases h3 : x.2 < y.2
      · simp [this, h3]
      · by_cases h4 : y.2 < x.2 <;> simp [this, h3, h4]
theorem swoID : SWO (ltOf cmpID) where
  irrefl x := by rw [cmpID_lt]; simp [ltID]
  trans x y z h1 h2 := by rw [cmpID_lt] at *; simp only [decide_eq_true_eq, decide_eq_false_iff_not] at *; unfold ltID at *; omega
  ntrans x y z h1 h2 := by rw [cmpID_lt] at *; simp only [decide_eq_true_eq, decide_eq_false_iff_not] at *; unfold ltID at *; omega
theorem totID (x y : Int × Int) (h1 : ltOf cmpID x y = false) (h2 : ltOf cmpID y x = false) : x = y := by
  rw [cmpID_lt] at *
  simp only [decide_eq_true_eq, decide_eq_false_iff_not] at *
  obtain ⟨a, b⟩ := x
  obtain ⟨c, d⟩ := y
  unfold ltID at *
  simp only [Prod.mk.injEq]
  simp only at h1 h2
  omega
/-- names, sorted -/
def sortID (l : List (Int × Int)) : List (Int × Int) := l.mergeSort fun x y => !ltOf cmpID y x
end Go.Proofs.Ytnkddjomanaadaa.Mark
