/- Small words on rows that are cleared and shifted. No program in sight. -/
import Derived.Test.YtpbeennielgogaaDoorBase2
import Derived.Lib.SliceRun
namespace Go.Proofs.YtpbeennielgogaaDoor
open Go.RowKit
set_option linter.unusedVariables false
set_option linter.unusedSimpArgs false
theorem run_clear_any {P : Program} (w : World) (t e ty : TypeId) (z : Value) (ht : P.underlying t = some (.slice e)) (hv : ∀ w, (zeroValue e).run P w = .ok z w) (h1 : ∀ v ∈ (Builtin.zeroCells z.cells 1).toList, v.oneCell' = true) (b o c : Nat)
    (hc : ∀ j, j < z.cells.size → (w.cell? ⟨b, o + j, none⟩).isSome = true) (hf : ∀ j, j < z.cells.size → w.frozen? ⟨b, o + j, none⟩ = false) :
    (Builtin.clear_ #[t] ty #[.slice (some ⟨b, o, none⟩) 1 c]).run P w = .ok (.tuple #[]) (w.setCells b o (Builtin.zeroCells z.cells 1).toList) := by
  have hl : (Builtin.zeroCells z.cells 1).toList.length = z.cells.size := by simp [Builtin.zeroCells]
  have hst := run_storeCells_cells (P := P) b o (Builtin.zeroCells z.cells 1).toList 0 w (by intro j hj; simpa using hc j (by omega)) (by intro j hj; simpa using hf j (by omega)) h1
  simp only [Nat.add_zero] at hst
  simp [Builtin.clear_, run_underlying ht, hv, hst]
theorem Exc.setB (S : Nat → Prop) {a w : World} {b : Nat} (hb : S b) (h : Exc S a w) (o : Nat) (v : Value) : Exc S a (w.setCell ⟨b, o, none⟩ v) := h.setCell (.inl hb) v
/-- an owned row's block, known whole -/
theorem own_block {w : World} {base : Nat} {T : TypeId} {size : Nat} {g n cap : Nat} {xs : List Value} (h : w.ownsRow base T size (.slice (some ⟨g, 0, none⟩) n cap) n xs) :
    ∃ c, BlockIs w g c T ∧ c.length = cap * size ∧ n ≤ cap ∧ cap ≤ maxLen ∧ c.take (n * size) = xs ∧ xs.length = n * size := by
  obtain ⟨hl, ⟨h0, _⟩ | ⟨g', cap', cur, hv, _, hh, hc, hm, hs, ht⟩⟩ := h
  · cases h0
  · cases hv
    exact ⟨cur.toList, by unfold BlockIs; simpa using hh, by simpa using hs, hc, hm, ht, hl⟩
theorem own_of {w : World} {T : TypeId} {size : Nat} {g n cap : Nat} {c : List Value} (hb : BlockIs w g c T) (hl : c.length = cap * size) (hn : n ≤ cap) (hm : cap ≤ maxLen) :
    w.ownsRow 0 T size (.slice (some ⟨g, 0, none⟩) n cap) n (c.take (n * size)) := by
  refine ⟨?_, .inr ⟨g, cap, c.toArray, rfl, Nat.zero_le _, hb, hn, hm, by simpa using hl, by simp⟩⟩
  rw [List.length_take, hl]
  have : n * size ≤ cap * size := Nat.mul_le_mul_right _ hn
  omega
end Go.Proofs.YtpbeennielgogaaDoor
