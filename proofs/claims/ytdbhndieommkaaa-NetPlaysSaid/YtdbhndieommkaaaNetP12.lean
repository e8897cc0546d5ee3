/- The law's step, whatever is asked. -/
import Derived.Test.YtdbhndieommkaaaNetP11
namespace Go.Proofs.Ytdbhndieommkaaa.NetW
open Go.RowKit

theorem step_any {B : Nat} {w : World} {p : Nat} {limit : Int} {fs rs : List Fr} {lv v : Value} (h : St B w p limit fs rs lv v) (hmax : fs.length ≤ 1000) (hB : B ≤ w.heap.size) (kind i bit fro too : Int) (dv : Value) (xs : List Int)
    (hdv : BytesAv (fun k => B ≤ k) w dv xs) (hbd : ∀ x ∈ xs, 0 ≤ x ∧ x ≤ 255) (hxm : xs.length ≤ 9223372036854775807) (hbm : bit ≤ 9223372036854775807) :
    Calls Try.prog 33 #[.pointer (some ⟨p, 0, none⟩), v, .int .i64 limit, opV kind i bit fro too dv] w (StepPost B p limit fs lv w) := by
  have hf : ∃ a n c, dv = .slice a n c := by
    obtain ⟨a, c, e, _⟩ := hdv
    exact ⟨a, _, c, e⟩
  have hno : hasN i fs.length = false ∨ ∃ k : Nat, i = (k : Int) ∧ k < fs.length := by
    unfold hasN
    by_cases h0 : 0 ≤ i
    · by_cases h1 : i < (fs.length : Int)
      · exact .inr ⟨i.toNat, by omega, by omega⟩
      · exact .inl (by simp [h1])
    · exact .inl (by simp [h0])
  by_cases k1 : kind = 1
  · subst k1
    by_cases hs : sendE limit fs.length fro too xs.length ≠ 0
    · exact step_send_no h hmax i bit fro too dv xs hdv hxm hs
    · have hs0 : sendE limit fs.length fro too xs.length = 0 := by omega
      unfold sendE at hs0
      cases a1 : repB fro
      · rw [a1] at hs0; simp at hs0
      · cases a2 : repB too
        · rw [a2] at hs0; simp at hs0
        · rw [a1, a2] at hs0
          by_cases a3 : 512 < xs.length
          · simp [a3] at hs0
          · by_cases a4 : limit ≤ (fs.length : Int)
            · simp [a3, a4] at hs0
            · exact step_send_ok h hmax hB i bit fro too dv xs hdv hbd a1 a2 (by omega) (by omega)
  · by_cases k4 : kind = 4
    · subst k4
      rcases hno with hn | ⟨k, rfl, hk⟩
      · exact step_twice_none h i bit fro too dv hf hn
      · by_cases hl : limit ≤ (fs.length : Int)
        · exact step_twice_full h hmax k hk hl bit fro too dv hf
        · exact step_twice_ok h hmax hB k hk (by omega) bit fro too dv hf
    · by_cases k2 : kind = 2
      · subst k2
        rcases hno with hn | ⟨k, rfl, hk⟩
        · exact step_none2 h i bit fro too dv hf hn
        · exact step_ok2 h hmax hB k hk bit fro too dv hf
      · by_cases k3 : kind = 3
        · subst k3
          rcases hno with hn | ⟨k, rfl, hk⟩
          · exact step_none3 h i bit fro too dv hf hn
          · exact step_ok3 h hmax hB k hk bit fro too dv hf
        · by_cases k5 : kind = 5
          · subst k5
            rcases hno with hn | ⟨k, rfl, hk⟩
            · exact step_none5 h i bit fro too dv hf hn
            · exact step_ok5 h hmax hB k hk bit fro too dv hf hbm
          · exact step_other h kind i bit fro too dv hf ⟨k1, k2, k3, k4, k5⟩
end Go.Proofs.Ytdbhndieommkaaa.NetW
