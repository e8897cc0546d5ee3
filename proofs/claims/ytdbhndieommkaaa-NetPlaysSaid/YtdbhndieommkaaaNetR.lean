/- How frames that come in are read. -/
import Derived.Test.YtdbhndieommkaaaNetM
import Derived.ProofKit
import Derived.OpenShut
import Derived.Lib.SmallJoins
namespace Go.Proofs.Ytdbhndieommkaaa.NetW
open Go.RowKit Go.Joins Go.ChangeShapes

theorem open_bytes {H : Type} {enc : TypeId × Value → H} {W : World} {base : Nat} {spare : Nat → Bool} {held : Bool} {fuel : Nat} {v : Value} {y : DataW H × List MemPlace} (hsp : ∀ b, spare b = true)
    (h : DataW.trod enc Try.prog W base spare held fuel 39 [v] = some y) : ∃ xs, BytesAt W v xs ∧ xs.length ≤ maxLen ∧ (∀ x ∈ xs, 0 ≤ x ∧ x ≤ 255) ∧ (y.1 = .nil ∧ xs = [] ∨ ∃ sp, y.1 = .slice (lits .u8 xs) sp) := by
  rcases open_ints Try.underlying39 Try.underlying5 (by kernel_rfl) h with ⟨hcs, hx⟩ | ⟨a, len, cap, zs, hcs, _, hl, hm, hz, hx, hcell, hwz⟩
  · simp at hcs
    subst hcs
    exact ⟨[], ⟨none, 0, rfl, fun _ => rfl, fun j hj => by simp at hj⟩, by simp, by simp, .inl ⟨by rw [hx], rfl⟩⟩
  · simp at hcs
    subst hcs
    rw [hsp, if_pos rfl] at hz
    have hlen : (zs.take len).length = len := by simp; omega
    refine ⟨zs.take len, ⟨some a, cap, by rw [hlen], fun h => by simp at h, fun j hj => ?_⟩, by omega, fun x hx => ?_, .inr ⟨_, by rw [hx]⟩⟩
    · rw [hlen] at hj
      obtain ⟨b, off, h1, h2⟩ := row_at hcell j (by omega)
      refine ⟨b, off, h1, ?_⟩
      rw [h2]
      simp [List.getD, hj]
    · have := bounds_u8 (hwz x (List.mem_of_mem_take hx))
      omega
end Go.Proofs.Ytdbhndieommkaaa.NetW
