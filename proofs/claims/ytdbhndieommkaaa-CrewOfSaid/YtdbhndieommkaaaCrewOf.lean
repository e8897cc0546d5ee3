/- The walk of the law CrewOf: it returns true for every list of ints and every int. -/
import Derived.Test.YtdbhndieommkaaaCrewL
namespace Go.Proofs.Ytdbhndieommkaaa.CrewW
open Go.RowKit

theorem cell_seven (w : World) (s : Int) (k : Nat) (hk : k < 7) :
    (w.alloc (.cells #[.bool (tb s 0), .bool (tb s 1), .bool (tb s 2), .bool (tb s 3), .bool (tb s 4), .bool (tb s 5), .bool (tb s 6)] 25)).cell? ⟨w.heap.size, k, none⟩ = some (.bool (tb s k)) := by
  have hi' : k = 0 ∨ k = 1 ∨ k = 2 ∨ k = 3 ∨ k = 4 ∨ k = 5 ∨ k = 6 := by omega
  rcases hi' with rfl | rfl | rfl | rfl | rfl | rfl | rfl <;> simp

theorem crewOf_any (v : Value) (xs : List Int) (n : Int) (w : World) (hv : IntsAt w v xs) (hm : xs.length ≤ 100) :
    Calls Try.prog 3 #[v, .int .i64 n] w fun e w' => e = .returned (.bool true) ∧ Ext w w' := by
  have ob := orL_bd xs
  have al := all_lo n
  have ah := all_hi n
  obtain ⟨a, cap, rfl, hc⟩ := hv
  generalize hn : xs.length = len at *
  go_enter Try.func3, Try.ntmps3
  go_wp2_with fail
  refine (anchor_any _).mono ?_
  rintro e w1 ⟨rfl, h1⟩
  go_wp2_with fail
  refine (of_any _ xs _ (IntsAt.ext ⟨a, cap, by rw [hn], by rw [hn]; exact hc⟩ h1) (by omega)).mono ?_
  rintro e _ ⟨rfl, rfl⟩
  go_wp2_with fail
  refine (ref_of _ (by omega) (by omega) _).mono ?_
  rintro e w2 ⟨rfl, h2⟩
  simp only [seven]
  go_wp2_with fail
  refine (all_any _ _).mono ?_
  rintro e _ ⟨rfl, rfl⟩
  go_wp2_with fail
  refine (ref_of _ (by omega) (by omega) _).mono ?_
  rintro e w3 ⟨rfl, h3⟩
  simp only [seven]
  go_wp2_with fail
  have HA : Hid (∀ k : Nat, k < 7 → (w3.alloc (.cells #[.bool (tb (allI n) 0), .bool (tb (allI n) 1), .bool (tb (allI n) 2), .bool (tb (allI n) 3), .bool (tb (allI n) 4), .bool (tb (allI n) 5), .bool (tb (allI n) 6)] 25)).cell? ⟨w3.heap.size, k, none⟩ = some (.bool (decide ((k : Int) < n)))) := by
    intro k hk
    rw [← tb_all n k hk]
    exact cell_seven _ _ _ hk
  have HS : Hid (∀ k : Nat, k < 7 → (w3.alloc (.cells #[.bool (tb (allI n) 0), .bool (tb (allI n) 1), .bool (tb (allI n) 2), .bool (tb (allI n) 3), .bool (tb (allI n) 4), .bool (tb (allI n) 5), .bool (tb (allI n) 6)] 25)).cell? ⟨w2.heap.size, k, none⟩ = some (.bool (xs.any fun r => r == (k : Int)))) := by
    intro k hk
    rw [← tb_orL k hk xs]
    exact ((Ext.refl _).alloc _).cell_of (h3.cell_of (cell_seven _ _ _ hk))
  have HC : Hid (∀ j, j < len → ∃ b off, a = some ⟨b, off, none⟩ ∧ (w3.alloc (.cells #[.bool (tb (allI n) 0), .bool (tb (allI n) 1), .bool (tb (allI n) 2), .bool (tb (allI n) 3), .bool (tb (allI n) 4), .bool (tb (allI n) 5), .bool (tb (allI n) 6)] 25)).cell? ⟨b, off + j, none⟩ = some (.int .i64 (xs.getD j 0))) := by
    intro j hj
    obtain ⟨b, off, ha, hx⟩ := hc j hj
    exact ⟨b, off, ha, ((Ext.refl _).alloc _).cell_of (h3.cell_of (((Ext.refl _).alloc _).cell_of (h2.cell_of (h1.cell_of hx))))⟩
  have HE : Hid (Ext w (w3.alloc (.cells #[.bool (tb (allI n) 0), .bool (tb (allI n) 1), .bool (tb (allI n) 2), .bool (tb (allI n) 3), .bool (tb (allI n) 4), .bool (tb (allI n) 5), .bool (tb (allI n) 6)] 25))) :=
    ((((h1.trans h2).alloc _).trans h3).alloc _)
  clear hc h1 h2 h3
  generalize World.alloc w3 _ = W at *
  generalize w2.heap.size = B2 at *
  generalize w3.heap.size = B3 at *
  go_loop [22] (fun i => ∃ k : Nat, k ≤ 7 ∧ i = .int .i64 k) (fun i => 7 - (intOf i).toNat)
  case atStart => exact ⟨0, by omega, rfl⟩
  case round =>
    obtain ⟨k, hk, rfl⟩ := hrel
    by_cases hlt : k < 7
    · have ha := HA.out k hlt
      have hs := HS.out k hlt
      go_wp2
      go_loop [8, 27] (fun s j => ∃ m : Nat, m ≤ len ∧ j = .int .i64 m ∧ s = .bool ((xs.take m).any fun r => r == (k : Int))) (fun _ j => len - (intOf j).toNat)
      case atStart => exact ⟨0, by omega, rfl, rfl⟩
      case round =>
        obtain ⟨m, hm', rfl, rfl⟩ := hrel
        by_cases hl : m < len
        · obtain ⟨b, off, rfl, hcell⟩ := HC.out m hl
          have HT : Hid ((xs.take (m + 1)).any (fun r => r == (k : Int)) = ((xs.take m).any (fun r => r == (k : Int)) || (xs.getD m 0 == (k : Int)))) := by
            rw [take_snocD xs m (by omega)]; simp [Hid]
          generalize xs.getD m 0 = x at *
          generalize hb : (xs.take m).any (fun r => r == (k : Int)) = bb at *
          clear hb
          cases bb
          all_goals
            go_wp2
            go_round
            case rel => exact ⟨m + 1, by omega, by go_num, by rw [HT.out]; simp⟩
            case measure => simp [intOf]; omega
        · have hmm : xs.take m = xs := List.take_of_length_le (by omega)
          rw [hmm]
          clear hmm
          generalize xs.any (fun r => r == (k : Int)) = bb at *
          go_wp2
          go_round
          case rel => exact ⟨k + 1, by omega, by go_num⟩
          case measure => simp [intOf]; omega
    · go_wp2
      go_ret
      exact ⟨rfl, HE.out⟩
theorem crewOf_long (a : Option Addr) (len cap : Nat) (n : Int) (w : World) (h : 100 < len) :
    Calls Try.prog 3 #[.slice a len cap, .int .i64 n] w fun e w' => e = .returned (.bool true) ∧ Ext w w' := by
  go_enter Try.func3, Try.ntmps3
  go_wp2_with fail
  refine (anchor_any _).mono ?_
  rintro e w1 ⟨rfl, h1⟩
  go_wp2_with fail
  go_ret
  exact ⟨rfl, h1⟩
theorem crewOf_all (v : Value) (xs : List Int) (n : Int) (w : World) (hv : IntsAt w v xs) :
    Calls Try.prog 3 #[v, .int .i64 n] w fun e w' => e = .returned (.bool true) ∧ Below w.heap.size w w' := by
  by_cases h : xs.length ≤ 100
  · exact crewOf_any v xs n w hv h
  · obtain ⟨a, cap, rfl, _⟩ := hv
    exact crewOf_long a _ cap n w (by omega)
end Go.Proofs.Ytdbhndieommkaaa.CrewW
