/- Walks of the document's count and byte of seven truths. -/
import Derived.Test.YtdbhndieommkaaaCrewLi
namespace Go.Proofs.Ytdbhndieommkaaa.CrewW
open Go.RowKit

theorem cell_seven (w : World) (s : Int) (k : Nat) (hk : k < 7) :
    (w.alloc (.cells #[.bool (tb s 0), .bool (tb s 1), .bool (tb s 2), .bool (tb s 3), .bool (tb s 4), .bool (tb s 5), .bool (tb s 6)] 25)).cell? ⟨w.heap.size, k, none⟩ = some (.bool (tb s k)) := by
  have hi' : k = 0 ∨ k = 1 ∨ k = 2 ∨ k = 3 ∨ k = 4 ∨ k = 5 ∨ k = 6 := by omega
  rcases hi' with rfl | rfl | rfl | rfl | rfl | rfl | rfl <;> simp
def cntTo (s : Int) (k : Nat) : Nat := ((List.range k).map fun j => b2n (tb s j)).sum
theorem cntTo_succ (s : Int) (k : Nat) : cntTo s (k + 1) = cntTo s k + b2n (tb s k) := by simp [cntTo, List.range_succ]
theorem cntTo_le (s : Int) (k : Nat) : cntTo s k ≤ k := by
  induction k with
  | zero => simp [cntTo]
  | succ k ih => rw [cntTo_succ]; have : b2n (tb s k) ≤ 1 := by unfold b2n; split <;> omega
                 omega
theorem cntTo_seven (s : Int) : cntTo s 7 = cntB s := by simp [cntTo, cntB, List.range_succ]; omega

theorem refCount_any (s : Int) (w : World) : Calls Try.prog 21 #[seven s] w fun e w' => e = .returned (.int .i64 (cntB s : Int)) ∧ Ext w w' := by
  simp only [seven]
  have HC : Hid (∀ k, k < 7 → _) := cell_seven w s
  have HE : Hid (Ext w (w.alloc (.cells #[.bool (tb s 0), .bool (tb s 1), .bool (tb s 2), .bool (tb s 3), .bool (tb s 4), .bool (tb s 5), .bool (tb s 6)] 25))) := (Ext.refl _).alloc _
  go_enter Try.func21, Try.ntmps21
  go_wp2
  generalize World.alloc w _ = W at *
  generalize w.heap.size = B at *
  go_loop [3, 4] (fun n i => ∃ k : Nat, k ≤ 7 ∧ i = .int .i64 k ∧ n = .int .i64 (cntTo s k : Int)) (fun _ i => 7 - (intOf i).toNat)
  case atStart => exact ⟨0, by omega, rfl, rfl⟩
  case round =>
    obtain ⟨k, hk, rfl, rfl⟩ := hrel
    by_cases hlt : k < 7
    · have hc := HC.out k hlt
      have HS : Hid (cntTo s (k + 1) = cntTo s k + b2n (tb s k)) := cntTo_succ s k
      have hle := cntTo_le s k
      generalize cntTo s k = c at *
      generalize tb s k = t at *
      cases t
      all_goals
        go_wp2
        go_round
        case rel => exact ⟨k + 1, by omega, by go_num, by rw [HS.out]; simp [b2n]⟩
        case measure => simp [intOf]; omega
    · obtain rfl : k = 7 := by omega
      go_wp2
      go_ret
      exact ⟨congrArg (fun (q : Nat) => Ending.returned (.int .i64 (q : Int))) (cntTo_seven s), HE.out⟩

theorem mod_step (n k : Nat) : n % 2 ^ (k + 1) = n % 2 ^ k + (if n.testBit k then 2 ^ k else 0) := by
  rw [Nat.mod_pow_succ, Nat.testBit_eq_decide_div_mod_eq]
  rcases Nat.mod_two_eq_zero_or_one (n / 2 ^ k) with h | h <;> simp [h]

def low (s : Int) : Int := ((s.toNat % 128 : Nat) : Int)
theorem refByte_any (s : Int) (h0 : 0 ≤ s) (w : World) : Calls Try.prog 23 #[seven s] w fun e w' => e = .returned (.int .u8 (low s)) ∧ Ext w w' := by
  simp only [seven]
  have HC : Hid (∀ k, k < 7 → _) := cell_seven w s
  have HE : Hid (Ext w (w.alloc (.cells #[.bool (tb s 0), .bool (tb s 1), .bool (tb s 2), .bool (tb s 3), .bool (tb s 4), .bool (tb s 5), .bool (tb s 6)] 25))) := (Ext.refl _).alloc _
  go_enter Try.func23, Try.ntmps23
  go_wp2
  generalize World.alloc w _ = W at *
  generalize w.heap.size = B at *
  go_loop [3, 4, 5] (fun b p i => ∃ (k x q : Nat), k ≤ 7 ∧ i = .int .i64 k ∧ b = .int .u8 (x : Int) ∧ p = .int .u8 (q : Int) ∧ x < q ∧ q ≤ 128 ∧ Hid (q = 2 ^ k ∧ x = s.toNat % 2 ^ k)) (fun _ _ i => 7 - (intOf i).toNat)
  case atStart => exact ⟨0, 0, 1, by omega, rfl, rfl, rfl, by omega, by omega, rfl, by simp [Nat.mod_one]⟩
  case round =>
    obtain ⟨k, x, q, hk, rfl, rfl, rfl, hxq, hq, H⟩ := hrel
    by_cases hlt : k < 7
    · have hc := HC.out k hlt
      have hq64 : q ≤ 64 := by
        have := H.out.1
        have : 2 ^ k ≤ 2 ^ 6 := Nat.pow_le_pow_right (by omega) (by omega)
        omega
      have HS : Hid (2 ^ (k + 1) = q + q ∧ s.toNat % 2 ^ (k + 1) = x + (if tb s k then q else 0)) := by
        obtain ⟨e1, e2⟩ := H.out
        refine ⟨by rw [Nat.pow_succ, e1]; omega, ?_⟩
        rw [mod_step, ← e2, ← e1, tb_nat s h0 k]
      generalize tb s k = t at *
      cases t
      · go_wp2
        go_round
        case rel => exact ⟨k + 1, x, q + q, by omega, by go_num, rfl, by go_num, by omega, by omega, HS.out.1.symm, by rw [HS.out.2]; simp⟩
        case measure => simp [intOf]; omega
      · go_wp2
        go_round
        case rel => exact ⟨k + 1, x + q, q + q, by omega, by go_num, by go_num, by go_num, by omega, by omega, HS.out.1.symm, by rw [HS.out.2]; simp⟩
        case measure => simp [intOf]; omega
    · obtain rfl : k = 7 := by omega
      go_wp2
      go_ret
      exact ⟨congrArg (fun (q : Nat) => Ending.returned (.int .u8 (q : Int))) H.out.2, HE.out⟩
end Go.Proofs.Ytdbhndieommkaaa.CrewW
