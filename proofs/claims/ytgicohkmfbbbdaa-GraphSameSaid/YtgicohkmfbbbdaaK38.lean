/- GrbU, joined. -/
import Derived.Test.YtgicohkmfbbbdaaK36
section
namespace Go.Proofs.Ytgicohkmfbbbdaa.Gr
theorem reads_ints {w : World} {v : Value} {xs : List Int} (h : IntsAt w v xs) : Reads w v xs.length (xs.map (Value.int .i64)) := by
  obtain ⟨a, c, hv, hc⟩ := h
  refine ⟨a, c, hv, fun e => ?_, fun j u hj => ?_⟩
  · cases hx : xs with
    | nil => rfl
    | cons x t =>
      obtain ⟨b, off, e2, _⟩ := hc 0 (by rw [hx]; simp)
      rw [e] at e2
      cases e2
  · rw [List.getElem?_map] at hj
    obtain ⟨z, hz, rfl⟩ := Option.map_eq_some_iff.1 hj
    have hl := (List.getElem?_eq_some_iff.1 hz).1
    obtain ⟨b, off, e2, h2⟩ := hc j hl
    refine ⟨b, off, e2, ?_⟩
    rw [h2]
    simp [List.getD, hz]
end Go.Proofs.Ytgicohkmfbbbdaa.Gr
end
