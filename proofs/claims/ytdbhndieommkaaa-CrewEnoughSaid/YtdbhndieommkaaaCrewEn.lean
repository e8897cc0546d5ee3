/- The walk of the law CrewEnough: it returns true for every int, any two sets and every int. -/
import Derived.Test.YtdbhndieommkaaaCrewL
namespace Go.Proofs.Ytdbhndieommkaaa.CrewW
open Go.RowKit

theorem enough_other (n a b r : Int) (w : World) (h3 : n ≠ 3) (h5 : n ≠ 5) (h7 : n ≠ 7) :
    Calls Try.prog 4 #[.int .i64 n, .int .u8 a, .int .u8 b, .int .i64 r] w fun e w' => e = .returned (.bool true) ∧ Below w.heap.size w w' := by
  have E : rightB n = false ∧ fI n = 0 ∧ majI n = 0 := by
    rcases f_cases n with ⟨R, E⟩ | ⟨rfl, R, E⟩ | ⟨rfl, R, E⟩ | ⟨rfl, R, E⟩
    · exact ⟨R, E, by simp [majI, R]⟩
    all_goals omega
  obtain ⟨e1, e2, e3⟩ := E
  have q3 : (n == 3) = false := by simp [h3]
  have q5 : (n == 5) = false := by simp [h5]
  have q7 : (n == 7) = false := by simp [h7]
  have p3 : (n != 3) = true := by simp [h3]
  have p5 : (n != 5) = true := by simp [h5]
  have p7 : (n != 7) = true := by simp [h7]
  clear h3 h5 h7
  go_enter Try.func4, Try.ntmps4
  go_wp2_with (first
    | (go_at_call 9; refine (anchor_any _).mono ?_; rintro e w1 ⟨rfl, h1⟩)
    | (go_at_call 13; refine (right_any _ _).mono ?_; rintro e w' ⟨rfl, rfl⟩)
    | (go_at_call 14; refine (f_any _ _).mono ?_; rintro e w' ⟨rfl, rfl⟩)
    | (go_at_call 15; refine (maj_any _ _).mono ?_; rintro e w' ⟨rfl, rfl⟩)
    | (go_at_call 16; refine (fast_any _ _).mono ?_; rintro e w' ⟨rfl, rfl⟩))
  go_ret
  exact ⟨rfl, ‹_›⟩


set_option maxHeartbeats 800000 in
theorem enough_3 (a b r A B cA cB cAB cX : Int) (ha hb : Bool) (w : World) (hA : meet a (allI 3) = A) (hB : meet b (allI 3) = B) (hcA : cnt A = cA) (hcB : cnt B = cB) (hAB : cnt (meet A B) = cAB)
    (hX : cnt (meet A (bits .andNot .u8 B (bitI r))) = cX) (hha : hasB A r = ha) (hhb : hasB B r = hb) (k1 : cA + cB ≤ cAB + 3) (k2 : ha = false → cX = cAB) :
    Calls Try.prog 4 #[.int .i64 3, .int .u8 a, .int .u8 b, .int .i64 r] w fun e w' => e = .returned (.bool true) ∧ Below w.heap.size w w' := by
  have R : rightB 3 = true := rfl
  have E : fI 3 = 1 := rfl
  have M : majI 3 = 2 := rfl
  by_cases t1 : cA < 2
  · clear k1 k2
    go_enter Try.func4, Try.ntmps4
    go_wp2_with (first
      | (go_at_call 9; refine (anchor_any _).mono ?_; rintro e w1 ⟨rfl, hx⟩)
      | (go_at_call 13; refine (right_any _ _).mono ?_; rintro e w' ⟨rfl, rfl⟩)
      | (go_at_call 14; refine (f_any _ _).mono ?_; rintro e w' ⟨rfl, rfl⟩)
      | (go_at_call 15; refine (maj_any _ _).mono ?_; rintro e w' ⟨rfl, rfl⟩)
      | (go_at_call 16; refine (fast_any _ _).mono ?_; rintro e w' ⟨rfl, rfl⟩)
      | (go_at_call 12; refine (all_any _ _).mono ?_; rintro e w' ⟨rfl, rfl⟩)
      | (go_at_call 17; refine (meet_any _ _ _).mono ?_; rintro e w' ⟨rfl, rfl⟩)
      | (go_at_call 18; refine (count_any _ _).mono ?_; rintro e w' ⟨rfl, rfl⟩)
      | (go_at_call 19; refine (has_any _ _ _).mono ?_; rintro e w' ⟨rfl, rfl⟩)
      | (go_at_call 20; refine (without_any _ _ _).mono ?_; rintro e w' ⟨rfl, rfl⟩))
    go_ret
    exact ⟨rfl, ‹_›⟩
  by_cases t3 : cB < 2
  · have k3 : 2 ≤ cB → 1 ≤ cAB := by omega
    clear k2
    by_cases t2 : 2 ≤ cB
    · have k4 := k3 t2
      clear k3
      go_enter Try.func4, Try.ntmps4
      go_wp2_with (first
        | (go_at_call 9; refine (anchor_any _).mono ?_; rintro e w1 ⟨rfl, hx⟩)
        | (go_at_call 13; refine (right_any _ _).mono ?_; rintro e w' ⟨rfl, rfl⟩)
        | (go_at_call 14; refine (f_any _ _).mono ?_; rintro e w' ⟨rfl, rfl⟩)
        | (go_at_call 15; refine (maj_any _ _).mono ?_; rintro e w' ⟨rfl, rfl⟩)
        | (go_at_call 16; refine (fast_any _ _).mono ?_; rintro e w' ⟨rfl, rfl⟩)
        | (go_at_call 12; refine (all_any _ _).mono ?_; rintro e w' ⟨rfl, rfl⟩)
        | (go_at_call 17; refine (meet_any _ _ _).mono ?_; rintro e w' ⟨rfl, rfl⟩)
        | (go_at_call 18; refine (count_any _ _).mono ?_; rintro e w' ⟨rfl, rfl⟩)
        | (go_at_call 19; refine (has_any _ _ _).mono ?_; rintro e w' ⟨rfl, rfl⟩)
        | (go_at_call 20; refine (without_any _ _ _).mono ?_; rintro e w' ⟨rfl, rfl⟩))
      all_goals first | (exfalso; omega) | (go_ret; exact ⟨rfl, ‹_›⟩)
    · clear k3
      go_enter Try.func4, Try.ntmps4
      go_wp2_with (first
        | (go_at_call 9; refine (anchor_any _).mono ?_; rintro e w1 ⟨rfl, hx⟩)
        | (go_at_call 13; refine (right_any _ _).mono ?_; rintro e w' ⟨rfl, rfl⟩)
        | (go_at_call 14; refine (f_any _ _).mono ?_; rintro e w' ⟨rfl, rfl⟩)
        | (go_at_call 15; refine (maj_any _ _).mono ?_; rintro e w' ⟨rfl, rfl⟩)
        | (go_at_call 16; refine (fast_any _ _).mono ?_; rintro e w' ⟨rfl, rfl⟩)
        | (go_at_call 12; refine (all_any _ _).mono ?_; rintro e w' ⟨rfl, rfl⟩)
        | (go_at_call 17; refine (meet_any _ _ _).mono ?_; rintro e w' ⟨rfl, rfl⟩)
        | (go_at_call 18; refine (count_any _ _).mono ?_; rintro e w' ⟨rfl, rfl⟩)
        | (go_at_call 19; refine (has_any _ _ _).mono ?_; rintro e w' ⟨rfl, rfl⟩)
        | (go_at_call 20; refine (without_any _ _ _).mono ?_; rintro e w' ⟨rfl, rfl⟩))
      all_goals first | (exfalso; omega) | (go_ret; exact ⟨rfl, ‹_›⟩)
  have k3 : 1 ≤ cAB := by omega
  cases ha
  · have k4 := k2 rfl
    have k5 : 1 ≤ cX := by omega
    clear k2 k4 k1
    cases hb
    all_goals
      go_enter Try.func4, Try.ntmps4
      go_wp2_with (first
        | (go_at_call 9; refine (anchor_any _).mono ?_; rintro e w1 ⟨rfl, hx⟩)
        | (go_at_call 13; refine (right_any _ _).mono ?_; rintro e w' ⟨rfl, rfl⟩)
        | (go_at_call 14; refine (f_any _ _).mono ?_; rintro e w' ⟨rfl, rfl⟩)
        | (go_at_call 15; refine (maj_any _ _).mono ?_; rintro e w' ⟨rfl, rfl⟩)
        | (go_at_call 16; refine (fast_any _ _).mono ?_; rintro e w' ⟨rfl, rfl⟩)
        | (go_at_call 12; refine (all_any _ _).mono ?_; rintro e w' ⟨rfl, rfl⟩)
        | (go_at_call 17; refine (meet_any _ _ _).mono ?_; rintro e w' ⟨rfl, rfl⟩)
        | (go_at_call 18; refine (count_any _ _).mono ?_; rintro e w' ⟨rfl, rfl⟩)
        | (go_at_call 19; refine (has_any _ _ _).mono ?_; rintro e w' ⟨rfl, rfl⟩)
        | (go_at_call 20; refine (without_any _ _ _).mono ?_; rintro e w' ⟨rfl, rfl⟩))
      all_goals first | (exfalso; omega) | (go_ret; exact ⟨rfl, ‹_›⟩)
  · clear k2 k1
    go_enter Try.func4, Try.ntmps4
    go_wp2_with (first
      | (go_at_call 9; refine (anchor_any _).mono ?_; rintro e w1 ⟨rfl, hx⟩)
      | (go_at_call 13; refine (right_any _ _).mono ?_; rintro e w' ⟨rfl, rfl⟩)
      | (go_at_call 14; refine (f_any _ _).mono ?_; rintro e w' ⟨rfl, rfl⟩)
      | (go_at_call 15; refine (maj_any _ _).mono ?_; rintro e w' ⟨rfl, rfl⟩)
      | (go_at_call 16; refine (fast_any _ _).mono ?_; rintro e w' ⟨rfl, rfl⟩)
      | (go_at_call 12; refine (all_any _ _).mono ?_; rintro e w' ⟨rfl, rfl⟩)
      | (go_at_call 17; refine (meet_any _ _ _).mono ?_; rintro e w' ⟨rfl, rfl⟩)
      | (go_at_call 18; refine (count_any _ _).mono ?_; rintro e w' ⟨rfl, rfl⟩)
      | (go_at_call 19; refine (has_any _ _ _).mono ?_; rintro e w' ⟨rfl, rfl⟩)
      | (go_at_call 20; refine (without_any _ _ _).mono ?_; rintro e w' ⟨rfl, rfl⟩))
    all_goals first | (exfalso; omega) | (go_ret; exact ⟨rfl, ‹_›⟩)

set_option maxHeartbeats 800000 in
theorem enough_5 (a b r A B cA cB cAB cX : Int) (ha hb : Bool) (w : World) (hA : meet a (allI 5) = A) (hB : meet b (allI 5) = B) (hcA : cnt A = cA) (hcB : cnt B = cB) (hAB : cnt (meet A B) = cAB)
    (hX : cnt (meet A (bits .andNot .u8 B (bitI r))) = cX) (hha : hasB A r = ha) (hhb : hasB B r = hb) (k1 : cA + cB ≤ cAB + 5) (k2 : ha = false → cX = cAB) :
    Calls Try.prog 4 #[.int .i64 5, .int .u8 a, .int .u8 b, .int .i64 r] w fun e w' => e = .returned (.bool true) ∧ Below w.heap.size w w' := by
  have R : rightB 5 = true := rfl
  have E : fI 5 = 2 := rfl
  have M : majI 5 = 3 := rfl
  by_cases t1 : cA < 3
  · clear k1 k2
    go_enter Try.func4, Try.ntmps4
    go_wp2_with (first
      | (go_at_call 9; refine (anchor_any _).mono ?_; rintro e w1 ⟨rfl, hx⟩)
      | (go_at_call 13; refine (right_any _ _).mono ?_; rintro e w' ⟨rfl, rfl⟩)
      | (go_at_call 14; refine (f_any _ _).mono ?_; rintro e w' ⟨rfl, rfl⟩)
      | (go_at_call 15; refine (maj_any _ _).mono ?_; rintro e w' ⟨rfl, rfl⟩)
      | (go_at_call 16; refine (fast_any _ _).mono ?_; rintro e w' ⟨rfl, rfl⟩)
      | (go_at_call 12; refine (all_any _ _).mono ?_; rintro e w' ⟨rfl, rfl⟩)
      | (go_at_call 17; refine (meet_any _ _ _).mono ?_; rintro e w' ⟨rfl, rfl⟩)
      | (go_at_call 18; refine (count_any _ _).mono ?_; rintro e w' ⟨rfl, rfl⟩)
      | (go_at_call 19; refine (has_any _ _ _).mono ?_; rintro e w' ⟨rfl, rfl⟩)
      | (go_at_call 20; refine (without_any _ _ _).mono ?_; rintro e w' ⟨rfl, rfl⟩))
    go_ret
    exact ⟨rfl, ‹_›⟩
  by_cases t3 : cB < 4
  · have k3 : 3 ≤ cB → 1 ≤ cAB := by omega
    clear k2
    by_cases t2 : 3 ≤ cB
    · have k4 := k3 t2
      clear k3
      go_enter Try.func4, Try.ntmps4
      go_wp2_with (first
        | (go_at_call 9; refine (anchor_any _).mono ?_; rintro e w1 ⟨rfl, hx⟩)
        | (go_at_call 13; refine (right_any _ _).mono ?_; rintro e w' ⟨rfl, rfl⟩)
        | (go_at_call 14; refine (f_any _ _).mono ?_; rintro e w' ⟨rfl, rfl⟩)
        | (go_at_call 15; refine (maj_any _ _).mono ?_; rintro e w' ⟨rfl, rfl⟩)
        | (go_at_call 16; refine (fast_any _ _).mono ?_; rintro e w' ⟨rfl, rfl⟩)
        | (go_at_call 12; refine (all_any _ _).mono ?_; rintro e w' ⟨rfl, rfl⟩)
        | (go_at_call 17; refine (meet_any _ _ _).mono ?_; rintro e w' ⟨rfl, rfl⟩)
        | (go_at_call 18; refine (count_any _ _).mono ?_; rintro e w' ⟨rfl, rfl⟩)
        | (go_at_call 19; refine (has_any _ _ _).mono ?_; rintro e w' ⟨rfl, rfl⟩)
        | (go_at_call 20; refine (without_any _ _ _).mono ?_; rintro e w' ⟨rfl, rfl⟩))
      all_goals first | (exfalso; omega) | (go_ret; exact ⟨rfl, ‹_›⟩)
    · clear k3
      go_enter Try.func4, Try.ntmps4
      go_wp2_with (first
        | (go_at_call 9; refine (anchor_any _).mono ?_; rintro e w1 ⟨rfl, hx⟩)
        | (go_at_call 13; refine (right_any _ _).mono ?_; rintro e w' ⟨rfl, rfl⟩)
        | (go_at_call 14; refine (f_any _ _).mono ?_; rintro e w' ⟨rfl, rfl⟩)
        | (go_at_call 15; refine (maj_any _ _).mono ?_; rintro e w' ⟨rfl, rfl⟩)
        | (go_at_call 16; refine (fast_any _ _).mono ?_; rintro e w' ⟨rfl, rfl⟩)
        | (go_at_call 12; refine (all_any _ _).mono ?_; rintro e w' ⟨rfl, rfl⟩)
        | (go_at_call 17; refine (meet_any _ _ _).mono ?_; rintro e w' ⟨rfl, rfl⟩)
        | (go_at_call 18; refine (count_any _ _).mono ?_; rintro e w' ⟨rfl, rfl⟩)
        | (go_at_call 19; refine (has_any _ _ _).mono ?_; rintro e w' ⟨rfl, rfl⟩)
        | (go_at_call 20; refine (without_any _ _ _).mono ?_; rintro e w' ⟨rfl, rfl⟩))
      all_goals first | (exfalso; omega) | (go_ret; exact ⟨rfl, ‹_›⟩)
  have k3 : 2 ≤ cAB := by omega
  cases ha
  · have k4 := k2 rfl
    have k5 : 2 ≤ cX := by omega
    clear k2 k4 k1
    cases hb
    all_goals
      go_enter Try.func4, Try.ntmps4
      go_wp2_with (first
        | (go_at_call 9; refine (anchor_any _).mono ?_; rintro e w1 ⟨rfl, hx⟩)
        | (go_at_call 13; refine (right_any _ _).mono ?_; rintro e w' ⟨rfl, rfl⟩)
        | (go_at_call 14; refine (f_any _ _).mono ?_; rintro e w' ⟨rfl, rfl⟩)
        | (go_at_call 15; refine (maj_any _ _).mono ?_; rintro e w' ⟨rfl, rfl⟩)
        | (go_at_call 16; refine (fast_any _ _).mono ?_; rintro e w' ⟨rfl, rfl⟩)
        | (go_at_call 12; refine (all_any _ _).mono ?_; rintro e w' ⟨rfl, rfl⟩)
        | (go_at_call 17; refine (meet_any _ _ _).mono ?_; rintro e w' ⟨rfl, rfl⟩)
        | (go_at_call 18; refine (count_any _ _).mono ?_; rintro e w' ⟨rfl, rfl⟩)
        | (go_at_call 19; refine (has_any _ _ _).mono ?_; rintro e w' ⟨rfl, rfl⟩)
        | (go_at_call 20; refine (without_any _ _ _).mono ?_; rintro e w' ⟨rfl, rfl⟩))
      all_goals first | (exfalso; omega) | (go_ret; exact ⟨rfl, ‹_›⟩)
  · clear k2 k1
    go_enter Try.func4, Try.ntmps4
    go_wp2_with (first
      | (go_at_call 9; refine (anchor_any _).mono ?_; rintro e w1 ⟨rfl, hx⟩)
      | (go_at_call 13; refine (right_any _ _).mono ?_; rintro e w' ⟨rfl, rfl⟩)
      | (go_at_call 14; refine (f_any _ _).mono ?_; rintro e w' ⟨rfl, rfl⟩)
      | (go_at_call 15; refine (maj_any _ _).mono ?_; rintro e w' ⟨rfl, rfl⟩)
      | (go_at_call 16; refine (fast_any _ _).mono ?_; rintro e w' ⟨rfl, rfl⟩)
      | (go_at_call 12; refine (all_any _ _).mono ?_; rintro e w' ⟨rfl, rfl⟩)
      | (go_at_call 17; refine (meet_any _ _ _).mono ?_; rintro e w' ⟨rfl, rfl⟩)
      | (go_at_call 18; refine (count_any _ _).mono ?_; rintro e w' ⟨rfl, rfl⟩)
      | (go_at_call 19; refine (has_any _ _ _).mono ?_; rintro e w' ⟨rfl, rfl⟩)
      | (go_at_call 20; refine (without_any _ _ _).mono ?_; rintro e w' ⟨rfl, rfl⟩))
    all_goals first | (exfalso; omega) | (go_ret; exact ⟨rfl, ‹_›⟩)

set_option maxHeartbeats 800000 in
theorem enough_7 (a b r A B cA cB cAB cX : Int) (ha hb : Bool) (w : World) (hA : meet a (allI 7) = A) (hB : meet b (allI 7) = B) (hcA : cnt A = cA) (hcB : cnt B = cB) (hAB : cnt (meet A B) = cAB)
    (hX : cnt (meet A (bits .andNot .u8 B (bitI r))) = cX) (hha : hasB A r = ha) (hhb : hasB B r = hb) (k1 : cA + cB ≤ cAB + 7) (k2 : ha = false → cX = cAB) :
    Calls Try.prog 4 #[.int .i64 7, .int .u8 a, .int .u8 b, .int .i64 r] w fun e w' => e = .returned (.bool true) ∧ Below w.heap.size w w' := by
  have R : rightB 7 = true := rfl
  have E : fI 7 = 3 := rfl
  have M : majI 7 = 4 := rfl
  by_cases t1 : cA < 4
  · clear k1 k2
    go_enter Try.func4, Try.ntmps4
    go_wp2_with (first
      | (go_at_call 9; refine (anchor_any _).mono ?_; rintro e w1 ⟨rfl, hx⟩)
      | (go_at_call 13; refine (right_any _ _).mono ?_; rintro e w' ⟨rfl, rfl⟩)
      | (go_at_call 14; refine (f_any _ _).mono ?_; rintro e w' ⟨rfl, rfl⟩)
      | (go_at_call 15; refine (maj_any _ _).mono ?_; rintro e w' ⟨rfl, rfl⟩)
      | (go_at_call 16; refine (fast_any _ _).mono ?_; rintro e w' ⟨rfl, rfl⟩)
      | (go_at_call 12; refine (all_any _ _).mono ?_; rintro e w' ⟨rfl, rfl⟩)
      | (go_at_call 17; refine (meet_any _ _ _).mono ?_; rintro e w' ⟨rfl, rfl⟩)
      | (go_at_call 18; refine (count_any _ _).mono ?_; rintro e w' ⟨rfl, rfl⟩)
      | (go_at_call 19; refine (has_any _ _ _).mono ?_; rintro e w' ⟨rfl, rfl⟩)
      | (go_at_call 20; refine (without_any _ _ _).mono ?_; rintro e w' ⟨rfl, rfl⟩))
    go_ret
    exact ⟨rfl, ‹_›⟩
  by_cases t3 : cB < 6
  · have k3 : 4 ≤ cB → 1 ≤ cAB := by omega
    clear k2
    by_cases t2 : 4 ≤ cB
    · have k4 := k3 t2
      clear k3
      go_enter Try.func4, Try.ntmps4
      go_wp2_with (first
        | (go_at_call 9; refine (anchor_any _).mono ?_; rintro e w1 ⟨rfl, hx⟩)
        | (go_at_call 13; refine (right_any _ _).mono ?_; rintro e w' ⟨rfl, rfl⟩)
        | (go_at_call 14; refine (f_any _ _).mono ?_; rintro e w' ⟨rfl, rfl⟩)
        | (go_at_call 15; refine (maj_any _ _).mono ?_; rintro e w' ⟨rfl, rfl⟩)
        | (go_at_call 16; refine (fast_any _ _).mono ?_; rintro e w' ⟨rfl, rfl⟩)
        | (go_at_call 12; refine (all_any _ _).mono ?_; rintro e w' ⟨rfl, rfl⟩)
        | (go_at_call 17; refine (meet_any _ _ _).mono ?_; rintro e w' ⟨rfl, rfl⟩)
        | (go_at_call 18; refine (count_any _ _).mono ?_; rintro e w' ⟨rfl, rfl⟩)
        | (go_at_call 19; refine (has_any _ _ _).mono ?_; rintro e w' ⟨rfl, rfl⟩)
        | (go_at_call 20; refine (without_any _ _ _).mono ?_; rintro e w' ⟨rfl, rfl⟩))
      all_goals first | (exfalso; omega) | (go_ret; exact ⟨rfl, ‹_›⟩)
    · clear k3
      go_enter Try.func4, Try.ntmps4
      go_wp2_with (first
        | (go_at_call 9; refine (anchor_any _).mono ?_; rintro e w1 ⟨rfl, hx⟩)
        | (go_at_call 13; refine (right_any _ _).mono ?_; rintro e w' ⟨rfl, rfl⟩)
        | (go_at_call 14; refine (f_any _ _).mono ?_; rintro e w' ⟨rfl, rfl⟩)
        | (go_at_call 15; refine (maj_any _ _).mono ?_; rintro e w' ⟨rfl, rfl⟩)
        | (go_at_call 16; refine (fast_any _ _).mono ?_; rintro e w' ⟨rfl, rfl⟩)
        | (go_at_call 12; refine (all_any _ _).mono ?_; rintro e w' ⟨rfl, rfl⟩)
        | (go_at_call 17; refine (meet_any _ _ _).mono ?_; rintro e w' ⟨rfl, rfl⟩)
        | (go_at_call 18; refine (count_any _ _).mono ?_; rintro e w' ⟨rfl, rfl⟩)
        | (go_at_call 19; refine (has_any _ _ _).mono ?_; rintro e w' ⟨rfl, rfl⟩)
        | (go_at_call 20; refine (without_any _ _ _).mono ?_; rintro e w' ⟨rfl, rfl⟩))
      all_goals first | (exfalso; omega) | (go_ret; exact ⟨rfl, ‹_›⟩)
  have k3 : 3 ≤ cAB := by omega
  cases ha
  · have k4 := k2 rfl
    have k5 : 3 ≤ cX := by omega
    clear k2 k4 k1
    cases hb
    all_goals
      go_enter Try.func4, Try.ntmps4
      go_wp2_with (first
        | (go_at_call 9; refine (anchor_any _).mono ?_; rintro e w1 ⟨rfl, hx⟩)
        | (go_at_call 13; refine (right_any _ _).mono ?_; rintro e w' ⟨rfl, rfl⟩)
        | (go_at_call 14; refine (f_any _ _).mono ?_; rintro e w' ⟨rfl, rfl⟩)
        | (go_at_call 15; refine (maj_any _ _).mono ?_; rintro e w' ⟨rfl, rfl⟩)
        | (go_at_call 16; refine (fast_any _ _).mono ?_; rintro e w' ⟨rfl, rfl⟩)
        | (go_at_call 12; refine (all_any _ _).mono ?_; rintro e w' ⟨rfl, rfl⟩)
        | (go_at_call 17; refine (meet_any _ _ _).mono ?_; rintro e w' ⟨rfl, rfl⟩)
        | (go_at_call 18; refine (count_any _ _).mono ?_; rintro e w' ⟨rfl, rfl⟩)
        | (go_at_call 19; refine (has_any _ _ _).mono ?_; rintro e w' ⟨rfl, rfl⟩)
        | (go_at_call 20; refine (without_any _ _ _).mono ?_; rintro e w' ⟨rfl, rfl⟩))
      all_goals first | (exfalso; omega) | (go_ret; exact ⟨rfl, ‹_›⟩)
  · clear k2 k1
    go_enter Try.func4, Try.ntmps4
    go_wp2_with (first
      | (go_at_call 9; refine (anchor_any _).mono ?_; rintro e w1 ⟨rfl, hx⟩)
      | (go_at_call 13; refine (right_any _ _).mono ?_; rintro e w' ⟨rfl, rfl⟩)
      | (go_at_call 14; refine (f_any _ _).mono ?_; rintro e w' ⟨rfl, rfl⟩)
      | (go_at_call 15; refine (maj_any _ _).mono ?_; rintro e w' ⟨rfl, rfl⟩)
      | (go_at_call 16; refine (fast_any _ _).mono ?_; rintro e w' ⟨rfl, rfl⟩)
      | (go_at_call 12; refine (all_any _ _).mono ?_; rintro e w' ⟨rfl, rfl⟩)
      | (go_at_call 17; refine (meet_any _ _ _).mono ?_; rintro e w' ⟨rfl, rfl⟩)
      | (go_at_call 18; refine (count_any _ _).mono ?_; rintro e w' ⟨rfl, rfl⟩)
      | (go_at_call 19; refine (has_any _ _ _).mono ?_; rintro e w' ⟨rfl, rfl⟩)
      | (go_at_call 20; refine (without_any _ _ _).mono ?_; rintro e w' ⟨rfl, rfl⟩))
    all_goals first | (exfalso; omega) | (go_ret; exact ⟨rfl, ‹_›⟩)

theorem enough_in (n a b r : Int) (w : World) (hn : n = 3 ∨ n = 5 ∨ n = 7) (h0 : 0 ≤ a) (h1 : a < 256) (g0 : 0 ≤ b) (g1 : b < 256) :
    Calls Try.prog 4 #[.int .i64 n, .int .u8 a, .int .u8 b, .int .i64 r] w fun e w' => e = .returned (.bool true) ∧ Below w.heap.size w w' := by
  have k1 := meet_count n a b hn h0 h1 g0 g1
  have k2 : hasB (meet a (allI n)) r = false → cnt (meet (meet a (allI n)) (bits .andNot .u8 (meet b (allI n)) (bitI r))) = cnt (meet (meet a (allI n)) (meet b (allI n))) := fun h => by
    rw [meet_same _ _ r (meet_lo _ _) (meet_hi _ _) (meet_lo _ _) (meet_hi _ _) h]
  rcases hn with rfl | rfl | rfl
  · exact enough_3 _ _ _ _ _ _ _ _ _ _ _ w rfl rfl rfl rfl rfl rfl rfl rfl k1 k2
  · exact enough_5 _ _ _ _ _ _ _ _ _ _ _ w rfl rfl rfl rfl rfl rfl rfl rfl k1 k2
  · exact enough_7 _ _ _ _ _ _ _ _ _ _ _ w rfl rfl rfl rfl rfl rfl rfl rfl k1 k2
end Go.Proofs.Ytdbhndieommkaaa.CrewW
