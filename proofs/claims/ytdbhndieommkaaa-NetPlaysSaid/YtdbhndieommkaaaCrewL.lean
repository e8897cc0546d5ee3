/- Walks of the document's sets (moothillref05), of crew.Of, and of the law's anchor. -/
import Derived.Test.YtdbhndieommkaaaCrewW
import Derived.Test.YtdbhndieommkaaaBase
namespace Go.Proofs.Ytdbhndieommkaaa.CrewW
open Go.RowKit

/-- the seven truths of a byte -/
def seven (b : Int) : Value := .agg #[.bool (tb b 0), .bool (tb b 1), .bool (tb b 2), .bool (tb b 3), .bool (tb b 4), .bool (tb b 5), .bool (tb b 6)]
theorem halves (b : Int) : tb b 0 = (b % 2 == 1) ∧ tb b 1 = (b / 2 % 2 == 1) ∧ tb b 2 = (b / 2 / 2 % 2 == 1) ∧ tb b 3 = (b / 2 / 2 / 2 % 2 == 1) ∧ tb b 4 = (b / 2 / 2 / 2 / 2 % 2 == 1)
    ∧ tb b 5 = (b / 2 / 2 / 2 / 2 / 2 % 2 == 1) ∧ tb b 6 = (b / 2 / 2 / 2 / 2 / 2 / 2 % 2 == 1) := by
  unfold tb
  refine ⟨?_, ?_, ?_, ?_, ?_, ?_, ?_⟩ <;> congr 1 <;> omega

theorem ref_of (b : Int) (h0 : 0 ≤ b) (h1 : b < 256) (w : World) : Calls Try.prog 10 #[.int .u8 b] w fun e w' => e = .returned (seven b) ∧ Ext w w' := by
  obtain ⟨e0, e1, e2, e3, e4, e5, e6⟩ := halves b
  simp only [seven, e0, e1, e2, e3, e4, e5, e6]
  clear e0 e1 e2 e3 e4 e5 e6
  go_enter Try.func10, Try.ntmps10
  go_wp2
  refine wp_loop_rounds 8 ?_
  iterate 8
    rw [rounds_succ]
    go_wp2
  refine bodyPost_ret (v := .agg #[.bool (b % 2 == 1), .bool (b / 2 % 2 == 1), .bool (b / 2 / 2 % 2 == 1), .bool (b / 2 / 2 / 2 % 2 == 1), .bool (b / 2 / 2 / 2 / 2 % 2 == 1), .bool (b / 2 / 2 / 2 / 2 / 2 % 2 == 1), .bool (b / 2 / 2 / 2 / 2 / 2 / 2 % 2 == 1)]) (by simp [results, Try.results10, go_sem]) rfl ⟨rfl, ?_⟩
  repeat (first | exact Ext.refl _ | refine Ext.drew ?_ | refine Ext.alloc ?_ _ | (refine Ext.setCell ?_ (by simp) _))

theorem of_any (v : Value) (xs : List Int) (w : World) (hv : IntsAt w v xs) (hm : xs.length ≤ 1000000) : Calls Try.prog 11 #[v] w fun e w' => e = .returned (.int .u8 (orL xs)) ∧ w = w' := by
  obtain ⟨a, cap, rfl, hc⟩ := hv
  generalize hn : xs.length = n at *
  go_enter Try.func11, Try.ntmps11
  go_wp2
  go_loop [3, 8] (fun s i => ∃ k : Nat, k ≤ n ∧ i = .int .i64 k ∧ s = .int .u8 (orL (xs.take k))) (fun _ i => n - (intOf i).toNat)
  case atStart => exact ⟨0, Nat.zero_le _, rfl, rfl⟩
  case round =>
    obtain ⟨k, hk, rfl, rfl⟩ := hrel
    by_cases hlt : k < n
    · obtain ⟨b, off, rfl, hcell⟩ := hc k hlt
      have HS : Hid (orL (xs.take (k + 1)) = bits .or .u8 (orL (xs.take k)) (bitI (xs.getD k 0))) := by
        rw [take_snocD xs k (by omega)]; exact orL_snoc _ _
      generalize xs.getD k 0 = x at *
      clear hc
      go_wp2_with (go_at_call 44; refine (bit_any _ _).mono ?_; rintro e w' ⟨rfl, rfl⟩)
      go_round
      case rel => exact ⟨k + 1, by omega, by go_num, by rw [HS.out]⟩
      case measure => simp [intOf]; omega
    · go_wp2
      go_ret
      have : k = n := by omega
      subst this
      exact ⟨congrArg (fun l => Ending.returned (.int .u8 (orL l))) (List.take_of_length_le (by omega)), rfl⟩
theorem anchor_any (w : World) : Calls Try.prog 9 #[] w fun e w' => e = .returned (.bool true) ∧ Ext w w' := by
  have e5 : fI 5 = 2 := rfl
  have m5 : majI 5 = 3 := rfl
  have o5 : orL [0, 2] = 5 := rfl
  go_enter Try.func9, Try.ntmps9
  go_wp2_with (first
    | (go_at_call 14; refine (f_any _ _).mono ?_; rintro e w' ⟨rfl, rfl⟩)
    | (go_at_call 15; refine (maj_any _ _).mono ?_; rintro e w' ⟨rfl, rfl⟩)
    | (go_at_call 16; refine (fast_any _ _).mono ?_; rintro e w' ⟨rfl, rfl⟩)
    | (go_at_call 11; refine (of_any _ [0, 2] _ (ints2 (by simp) (by simp)) (by simp)).mono ?_; rintro e w' ⟨rfl, rfl⟩))
  go_ret
  exact ⟨rfl, (Ext.refl _).alloc _⟩
end Go.Proofs.Ytdbhndieommkaaa.CrewW
