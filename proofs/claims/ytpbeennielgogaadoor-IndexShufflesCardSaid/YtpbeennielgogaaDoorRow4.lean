/- Rows of structs by their elements: cut, joined, one put between. No program in sight. -/
import Derived.Test.YtpbeennielgogaaDoorRow2
namespace Go.Proofs.YtpbeennielgogaaDoor
open Go.RowKit
set_option linter.unusedVariables false
set_option linter.unusedSimpArgs false

section
variable {α : Type} {enc : α → List Value} {size : Nat}
theorem flat_take (hs : ∀ x, (enc x).length = size) : ∀ (l : List α) (k : Nat), (l.flatMap enc).take (k * size) = (l.take k).flatMap enc
  | [], k => by simp
  | x :: l, 0 => by simp
  | x :: l, k + 1 => by
    rw [List.take_succ_cons, List.flatMap_cons, List.flatMap_cons, ← flat_take hs l k, List.take_append, List.take_of_length_le (by rw [hs, Nat.add_mul]; omega), hs, show (k + 1) * size - size = k * size by rw [Nat.add_mul]; omega]
theorem flat_drop (hs : ∀ x, (enc x).length = size) : ∀ (l : List α) (k : Nat), (l.flatMap enc).drop (k * size) = (l.drop k).flatMap enc
  | [], k => by simp
  | x :: l, 0 => by simp
  | x :: l, k + 1 => by
    rw [List.drop_succ_cons, List.flatMap_cons, ← flat_drop hs l k, List.drop_append, List.drop_eq_nil_of_le (by rw [hs, Nat.add_mul]; omega), hs, show (k + 1) * size - size = k * size by rw [Nat.add_mul]; omega, List.nil_append]
theorem flat_one (h : ∀ x, ∀ u ∈ enc x, u.oneCell' = true) (l : List α) : ∀ u ∈ l.flatMap enc, u.oneCell' = true := by
  intro u hu
  obtain ⟨x, _, hx⟩ := List.mem_flatMap.1 hu
  exact h x u hx
theorem rows_app (E : TypeId) (v : Value) (l1 l2 : List α) : Part.row E size v (l1.length + l2.length) (l1.flatMap enc ++ l2.flatMap enc) = Part.row E size v (l1 ++ l2).length ((l1 ++ l2).flatMap enc) := by simp
theorem rows_snoc (E : TypeId) (v : Value) (l : List α) (x : α) : Part.row E size v (l.length + 1) (l.flatMap enc ++ enc x) = Part.row E size v (l ++ [x]).length ((l ++ [x]).flatMap enc) := by simp
end

/-- some parts of a list, in this order -/
inductive Picks : List Part → List Part → Prop
  | nil {L : List Part} : Picks L []
  | cons {A : Part} {L F K : List Part} : Sel A L F → Picks F K → Picks L (A :: K)
theorem Picks.perm {L K : List Part} (p : Picks L K) : ∃ F, L.Perm (K ++ F) := by
  induction p with
  | nil => exact ⟨_, .refl _⟩
  | cons s _ ih =>
    obtain ⟨F, hF⟩ := ih
    exact ⟨F, s.perm.trans (hF.cons _)⟩
theorem At.pick {L0 L K : List Part} {w0 w : World} (h : At L0 w0 L w) (p : Picks L K) : At L0 w0 K w := by
  obtain ⟨F, hF⟩ := p.perm
  exact (h.perm hF).sub (List.sublist_append_left _ _)
theorem At.seps {L0 L K : List Part} {w0 w : World} (h : At L0 w0 L w) (p : Picks L K) : Sep K w := (h.pick p).sep
theorem Sep.pick {L K : List Part} {w : World} (h : Sep L w) (p : Picks L K) : Sep K w := (At.start h).seps p
/-- a row's value, its length behind a letter -/
theorem At.row_hid {L0 L F : List Part} {w0 w : World} {e : TypeId} {size n : Nat} {v : Value} {xs : List Value} (h : At L0 w0 L w) (s : Sel (Part.row e size v n xs) L F) : ∃ ax k cap, v = .slice ax k cap ∧ Hid (k = n) := by
  obtain ⟨ax, cap, rfl, _, _, _⟩ := h.row_form s
  exact ⟨ax, n, cap, rfl, Lib.hid rfl⟩
section
variable {α : Type} {p : α → Bool}
theorem while_at : ∀ {l : List α} {i : Nat}, i ≤ l.length → (∀ x ∈ l.take i, p x = true) → (∀ h : i < l.length, p l[i] = false) → l.takeWhile p = l.take i ∧ l.dropWhile p = l.drop i
  | [], i, _, _, _ => by simp
  | y :: l, 0, _, _, h2 => by
    have := h2 (by simp)
    simp at this
    simp [this]
  | y :: l, i + 1, hi, h1, h2 => by
    have hy := h1 y (by simp)
    have := while_at (l := l) (i := i) (by simpa using hi) (fun x hx => h1 x (by simp [hx])) (fun h => h2 (by simp; exact h))
    simp [hy, this]
end
end Go.Proofs.YtpbeennielgogaaDoor
