/- Sessions: their order. -/
import Derived.Test.YtnkddjomanaadaaCollS
import Derived.Test.YtnkddjomanaadaaMarkC
import Derived.Test.YtnkddjomanaadaaShelf
import Derived.Test.YtnkddjomanaadaaSort
import Derived.Deep.QuietTactic
import Derived.BigQuiet
import Derived.WalkLawsBesides
namespace Go.Proofs.Ytnkddjomanaadaa.Sess
open Go.RowKit
open Go.Sort Go.Shelf
open Go.Lib (compareBytes compareInt)
open _root_.Go.Proofs.Ytnkddjomanaadaa.Mark (orI or2 three_grow new_cell)
set_option linter.unusedSimpArgs false
set_option linter.unusedVariables false

/-! ### Bytes -/
theorem cb_three : ∀ (a b : List UInt8), compareBytes a b = -1 ∨ compareBytes a b = 0 ∨ compareBytes a b = 1
  | [], [] => by simp [compareBytes]
  | [], _ :: _ => by simp [compareBytes]
  | _ :: _, [] => by simp [compareBytes]
  | a :: x, b :: y => by
    have := cb_three x y
    unfold compareBytes
    split
    · simp
    · split
      · simp
      · exact this
theorem cb_flip : ∀ (a b : List UInt8), compareBytes b a = - compareBytes a b
  | [], [] => by simp [compareBytes]
  | [], _ :: _ => by simp [compareBytes]
  | _ :: _, [] => by simp [compareBytes]
  | a :: x, b :: y => by
    have := cb_flip x y
    simp only [compareBytes]
    rcases Nat.lt_trichotomy a.toNat b.toNat with h | h | h
    · have h1 : a < b := UInt8.lt_iff_toNat_lt.2 h
      have h2 : ¬ b < a := fun q => by have := UInt8.lt_iff_toNat_lt.1 q; omega
      simp [h1, h2]
    · have e : a = b := UInt8.toNat_inj.1 h
      subst e
      have h1 : ¬ a < a := fun q => by have := UInt8.lt_iff_toNat_lt.1 q; omega
      simp [h1, this]
    · have h1 : b < a := UInt8.lt_iff_toNat_lt.2 h
      have h2 : ¬ a < b := fun q => by have := UInt8.lt_iff_toNat_lt.1 q; omega
      simp [h1, h2]
theorem cb_zero : ∀ (a b : List UInt8), compareBytes a b = 0 → a = b
  | [], [], _ => rfl
  | [], _ :: _, h => by simp [compareBytes] at h
  | _ :: _, [], h => by simp [compareBytes] at h
  | a :: x, b :: y, h => by
    simp only [compareBytes] at h
    rcases Nat.lt_trichotomy a.toNat b.toNat with q | q | q
    · have h1 : a < b := UInt8.lt_iff_toNat_lt.2 q
      simp [h1] at h
    · have e : a = b := UInt8.toNat_inj.1 q
      subst e
      have h1 : ¬ a < a := fun q => by have := UInt8.lt_iff_toNat_lt.1 q; omega
      simp [h1] at h
      rw [cb_zero x y h]
    · have h1 : b < a := UInt8.lt_iff_toNat_lt.2 q
      have h2 : ¬ a < b := fun q => by have := UInt8.lt_iff_toNat_lt.1 q; omega
      simp [h1, h2] at h
theorem cb_trans : ∀ (a b c : List UInt8), compareBytes a b < 0 → compareBytes b c < 0 → compareBytes a c < 0
  | [], _, [], h1, h2 => by
    rename_i b
    have := cb_flip [] b
    omega
  | [], _, _ :: _, _, _ => by simp [compareBytes]
  | _ :: _, [], _, h1, _ => by simp [compareBytes] at h1
  | _ :: _, _ :: _, [], _, h2 => by simp [compareBytes] at h2
  | a :: x, b :: y, c :: z, h1, h2 => by
    have ih := cb_trans x y z
    simp only [compareBytes] at *
    simp only [UInt8.lt_iff_toNat_lt] at *
    split at h1
    · split at h2
      · rw [if_pos (by omega)]; omega
      · split at h2
        · simp at h2
        · rw [if_pos (by omega)]; omega
    · split at h1
      · simp at h1
      · split at h2
        · rw [if_pos (by omega)]; omega
        · split at h2
          · simp at h2
          · rw [if_neg (by omega), if_neg (by omega)]
            exact ih h1 h2

set_option maxRecDepth 100000 in
theorem isNaN_u64 (x : Int) (w : World) : Calls Try.prog 71 #[.int .u64 x] w fun e w' => e = .returned (.bool false) ∧ w' = w := by
  go_enter Try.func71, Try.ntmps71
  go_wp2
  go_ret
  exact ⟨by simp, rfl⟩
set_option maxRecDepth 100000 in
theorem compare_u64 (x y : Int) (w : World) : Calls Try.prog 57 #[.int .u64 x, .int .u64 y] w fun e w' => e = .returned (.int .i64 (compareInt x y)) ∧ w' = w := by
  unfold compareInt
  by_cases h1 : x < y
  · go_enter Try.func57, Try.ntmps57
    go_wp2_with (go_at_call 71; refine (isNaN_u64 _ _).mono ?_; rintro e w' ⟨rfl, rfl⟩)
    refine bodyPost_ret (results_tmp rfl _ _ _) rfl ?_
    exact ⟨by simp [h1], rfl⟩
  · by_cases h2 : y < x
    · go_enter Try.func57, Try.ntmps57
      go_wp2_with (go_at_call 71; refine (isNaN_u64 _ _).mono ?_; rintro e w' ⟨rfl, rfl⟩)
      refine bodyPost_ret (results_tmp rfl _ _ _) rfl ?_
      exact ⟨by simp [h1, h2], rfl⟩
    · go_enter Try.func57, Try.ntmps57
      go_wp2_with (go_at_call 71; refine (isNaN_u64 _ _).mono ?_; rintro e w' ⟨rfl, rfl⟩)
      go_ret
      exact ⟨by simp [h1, h2], rfl⟩
def cbS (a b : ByteArray) : Int := compareBytes a.data.toList b.data.toList
def cmpS (x y : Int × ByteArray) : Int := orI (compareInt x.1 y.1) (cbS x.2 y.2)
set_option maxRecDepth 100000 in
theorem sessions_exact (x y : Int × ByteArray) (W : World) : Calls Try.prog 48 #[.agg #[.int .u64 x.1, .string x.2], .agg #[.int .u64 y.1, .string y.2]] W fun e w' => e = .returned (.int .i64 (cmpS x y)) ∧ ∃ q os', w' = grow (W.drewN q) os' := by
  unfold cmpS cbS
  go_enter Try.func48, Try.ntmps48
  go_wp2_with fail
  (refine wp_region_head 10 (fun w' => ∃ n, w' = World.drewN _ n) (by kernel_rfl) (by kernel_rfl) ⟨1, rfl⟩ ?_); (simp only [List.take_succ_cons, List.take_zero, List.drop_succ_cons, List.drop_zero]); (repeat (first | go_big_quiet_step (first | exact (compare_u64 _ _ _).mono fun _ _ ⟨he, hw⟩ => ⟨he, _, hw⟩ | exact (Try.strings_Compare _ _ _).mono fun _ _ ⟨he, hw⟩ => ⟨he, _, hw⟩) | quiet_step (first | exact (compare_u64 _ _ _).mono fun _ _ ⟨he, hw⟩ => ⟨he, _, hw⟩ | exact (Try.strings_Compare _ _ _).mono fun _ _ ⟨he, hw⟩ => ⟨he, _, hw⟩))); (refine wpQuiet_nil ?_); (rintro _ ⟨nq, rfl⟩)
  go_wp2_with fail
  refine (or2 (compareInt x.1 y.1) (compareBytes x.2.data.toList y.2.data.toList) _ _ ?h0 ?h1).mono ?_
  case h0 => exact new_cell _ _ (by simp) _ _ _ _ rfl
  case h1 => exact new_cell _ _ (by simp) _ _ _ _ rfl
  rintro e _ ⟨rfl, rfl⟩
  go_wp2_with fail
  go_ret
  exact ⟨rfl, nq, _, three_grow _ _ _ _ _⟩

/-! ### The order is one -/
def ltS (x y : Int × ByteArray) : Prop := x.1 < y.1 ∨ (x.1 = y.1 ∧ cbS x.2 y.2 < 0)
instance (x y : Int × ByteArray) : Decidable (ltS x y) := by unfold ltS; infer_instance
theorem cmpS_lt (x y : Int × ByteArray) : ltOf cmpS x y = decide (ltS x y) := by
  unfold ltOf cmpS orI compareInt ltS
  by_cases h1 : x.1 < y.1
  · simp [h1]
  · by_cases h2 : y.1 < x.1
    · have : x.1 ≠ y.1 := by omega
      simp [h1, h2, this]
    · have : x.1 = y.1 := by omega
      simp [this]
theorem cbS_flip (a b : ByteArray) : cbS b a = - cbS a b := cb_flip _ _
theorem cbS_trans {a b c : ByteArray} (h1 : cbS a b < 0) (h2 : cbS b c < 0) : cbS a c < 0 := cb_trans _ _ _ h1 h2
theorem cbS_zero {a b : ByteArray} (h : cbS a b = 0) : a = b := by
  have := cb_zero _ _ h
  obtain ⟨⟨x⟩⟩ := a
  obtain ⟨⟨y⟩⟩ := b
  simp at this
  rw [this]
theorem ltS_trans {x y z : Int × ByteArray} (h1 : ltS x y) (h2 : ltS y z) : ltS x z := by
  unfold ltS at *
  rcases h1 with h1 | ⟨h1, h1'⟩
  · rcases h2 with h2 | ⟨h2, _⟩ <;> left <;> omega
  · rcases h2 with h2 | ⟨h2, h2'⟩
    · left; omega
    · exact .inr ⟨by omega, cbS_trans h1' h2'⟩
theorem ltS_irrefl (x : Int × ByteArray) : ¬ ltS x x := by
  unfold ltS
  have := cbS_flip x.2 x.2
  omega
theorem ltS_tri (x y : Int × ByteArray) : ltS x y ∨ x = y ∨ ltS y x := by
  unfold ltS
  have h := cbS_flip x.2 y.2
  by_cases h0 : cbS x.2 y.2 = 0
  · have e := cbS_zero h0
    rcases Int.lt_trichotomy x.1 y.1 with q | q | q
    · exact .inl (.inl q)
    · exact .inr (.inl (Prod.ext q e))
    · exact .inr (.inr (.inl q))
  · rcases Int.lt_trichotomy x.1 y.1 with q | q | q
    · exact .inl (.inl q)
    · by_cases hl : cbS x.2 y.2 < 0
      · exact .inl (.inr ⟨q, hl⟩)
      · exact .inr (.inr (.inr ⟨q.symm, by omega⟩))
    · exact .inr (.inr (.inl q))
theorem swoS : SWO (ltOf cmpS) where
  irrefl x := by rw [cmpS_lt]; exact decide_eq_false (ltS_irrefl x)
  trans x y z h1 h2 := by rw [cmpS_lt] at *; exact decide_eq_true (ltS_trans (of_decide_eq_true h1) (of_decide_eq_true h2))
  ntrans x y z h1 h2 := by
    rw [cmpS_lt] at *
    refine decide_eq_false fun h => ?_
    have n1 := of_decide_eq_false h1
    have n2 := of_decide_eq_false h2
    rcases ltS_tri x y with q | q | q
    · exact n1 q
    · subst q; exact n2 h
    · exact n2 (ltS_trans q h)
theorem totS (x y : Int × ByteArray) (h1 : ltOf cmpS x y = false) (h2 : ltOf cmpS y x = false) : x = y := by
  rw [cmpS_lt] at *
  rcases ltS_tri x y with q | q | q
  · exact absurd q (of_decide_eq_false h1)
  · exact q
  · exact absurd q (of_decide_eq_false h2)
/-- sessions, sorted -/
def sortS (l : List (Int × ByteArray)) : List (Int × ByteArray) := l.mergeSort fun x y => !ltOf cmpS y x
theorem cmpLays (blk off size : Nat) (w : World) : CmpLays Try.prog 48 #[] seL 2 cmpS blk off size w := fun _ _ _ _ x y => sessions_exact x y _
end Go.Proofs.Ytnkddjomanaadaa.Sess
