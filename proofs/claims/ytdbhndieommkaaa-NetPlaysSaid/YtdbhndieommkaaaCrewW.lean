/- Walks of package crew: what each function answers. No condition beyond the types' ranges. -/
import Derived.Test.YtdbhndieommkaaaProg
import Derived.Test.YtdbhndieommkaaaCrewM2
import Derived.Test.YtdbhndieommkaaaShelf
import Derived.WalkSpells
import Derived.WalkLawsBesides
import Derived.Lib.Hide
namespace Go.Proofs.Ytdbhndieommkaaa.CrewW
open Go.RowKit

theorem bit_any (r : Int) (w : World) : Calls Try.prog 44 #[.int .i64 r] w fun e w' => e = .returned (.int .u8 (bitI r)) ∧ w = w' := by
  rcases bit_cases r with ⟨h | h, E⟩ | ⟨rfl, E⟩ | ⟨rfl, E⟩ | ⟨rfl, E⟩ | ⟨rfl, E⟩ | ⟨rfl, E⟩ | ⟨rfl, E⟩ | ⟨rfl, E⟩
  all_goals
    rw [E]
    clear E
    go_enter Try.func44, Try.ntmps44
    go_wp2
    go_ret
    exact ⟨rfl, rfl⟩

theorem with_any (s r : Int) (w : World) : Calls Try.prog 24 #[.int .u8 s, .int .i64 r] w fun e w' => e = .returned (.int .u8 (bits .or .u8 s (bitI r))) ∧ w = w' := by
  go_enter Try.func24, Try.ntmps24
  go_wp2_with (go_at_call 44; refine (bit_any _ _).mono ?_; rintro e w' ⟨rfl, rfl⟩)
  go_ret
  exact ⟨rfl, rfl⟩
theorem has_any (s r : Int) (w : World) : Calls Try.prog 19 #[.int .u8 s, .int .i64 r] w fun e w' => e = .returned (.bool (hasB s r)) ∧ w = w' := by
  go_enter Try.func19, Try.ntmps19
  go_wp2_with (go_at_call 44; refine (bit_any _ _).mono ?_; rintro e w' ⟨rfl, rfl⟩)
  go_ret
  exact ⟨rfl, rfl⟩
theorem lacks_any (s r : Int) (w : World) : Calls Try.prog 47 #[.int .u8 s, .int .i64 r] w fun e w' => e = .returned (.bool (!hasB s r)) ∧ w = w' := by
  go_enter Try.func47, Try.ntmps47
  go_wp2_with (go_at_call 19; refine (has_any _ _ _).mono ?_; rintro e w' ⟨rfl, rfl⟩)
  go_ret
  exact ⟨rfl, rfl⟩
theorem without_any (s r : Int) (w : World) : Calls Try.prog 20 #[.int .u8 s, .int .i64 r] w fun e w' => e = .returned (.int .u8 (bits .andNot .u8 s (bitI r))) ∧ w = w' := by
  go_enter Try.func20, Try.ntmps20
  go_wp2_with (go_at_call 44; refine (bit_any _ _).mono ?_; rintro e w' ⟨rfl, rfl⟩)
  go_ret
  exact ⟨rfl, rfl⟩
theorem meet_any (s o : Int) (w : World) : Calls Try.prog 17 #[.int .u8 s, .int .u8 o] w fun e w' => e = .returned (.int .u8 (meet s o)) ∧ w = w' := by
  go_enter Try.func17, Try.ntmps17
  go_wp2
  go_ret
  exact ⟨rfl, rfl⟩
theorem ones_any (x : Int) (h0 : 0 ≤ x) (h1 : x ≤ 255) (w : World) : Calls Try.prog 45 #[.int .u8 x] w fun e w' => e = .returned (.int .i64 (Lib.onesCount x.toNat)) ∧ w = w' :=
  (Try.bits_OnesCount8 x w h0 h1).mono fun _ _ ⟨a, b⟩ => ⟨a, b.symm⟩
theorem count_any (s : Int) (w : World) : Calls Try.prog 18 #[.int .u8 s] w fun e w' => e = .returned (.int .i64 (cnt s)) ∧ w = w' := by
  have h0 := and_lo s 127
  have h1 : bits .and .u8 s 127 ≤ 255 := by have := and_hi s 127; omega
  go_enter Try.func18, Try.ntmps18
  go_wp2_with (go_at_call 45; refine (ones_any _ h0 h1 _).mono ?_; rintro e w' ⟨rfl, rfl⟩)
  go_ret
  exact ⟨rfl, rfl⟩
theorem all_eq (n : Int) : (2 ^ (min (max n 0) 7).toNat % 256 - 1) % 256 = allI n := by
  rcases all_cases n with ⟨h, E⟩ | ⟨rfl, E⟩ | ⟨rfl, E⟩ | ⟨rfl, E⟩ | ⟨rfl, E⟩ | ⟨rfl, E⟩ | ⟨rfl, E⟩ | ⟨rfl, E⟩ | ⟨rfl, E⟩ | ⟨h, E⟩ <;> rw [E]
  · rw [show min (max n 0) 7 = 0 from by omega]; rfl
  all_goals first | rfl | (rw [show min (max n 0) 7 = 7 from by omega]; rfl)
theorem all_any (n : Int) (w : World) : Calls Try.prog 12 #[.int .i64 n] w fun e w' => e = .returned (.int .u8 (allI n)) ∧ w = w' := by
  go_enter Try.func12, Try.ntmps12
  go_wp2
  go_ret
  exact ⟨congrArg (fun x => Ending.returned (.int .u8 x)) (all_eq n), rfl⟩
def rightB (n : Int) : Bool := n == 3 || n == 5 || n == 7
theorem right_cases (n : Int) : (rightB n = true ∧ (n = 3 ∨ n = 5 ∨ n = 7)) ∨ (rightB n = false ∧ (n < 3 ∨ 7 < n ∨ n = 4 ∨ n = 6)) := by
  unfold rightB; simp; omega
theorem right_any (n : Int) (w : World) : Calls Try.prog 13 #[.int .i64 n] w fun e w' => e = .returned (.bool (rightB n)) ∧ w = w' := by
  rcases right_cases n with ⟨E, rfl | rfl | rfl⟩ | ⟨E, h | h | rfl | rfl⟩
  all_goals
    rw [E]
    clear E
    go_enter Try.func13, Try.ntmps13
    go_wp2
    all_goals (go_ret; exact ⟨rfl, rfl⟩)
def fI (n : Int) : Int := if rightB n then n / 2 else 0
theorem f_cases (n : Int) : (rightB n = false ∧ fI n = 0) ∨ (n = 3 ∧ rightB n = true ∧ fI n = 1) ∨ (n = 5 ∧ rightB n = true ∧ fI n = 2) ∨ (n = 7 ∧ rightB n = true ∧ fI n = 3) := by
  rcases right_cases n with ⟨E, rfl | rfl | rfl⟩ | ⟨E, _⟩ <;> simp_all [fI]
theorem f_any (n : Int) (w : World) : Calls Try.prog 14 #[.int .i64 n] w fun e w' => e = .returned (.int .i64 (fI n)) ∧ w = w' := by
  rcases f_cases n with ⟨R, E⟩ | ⟨rfl, R, E⟩ | ⟨rfl, R, E⟩ | ⟨rfl, R, E⟩
  all_goals
    rw [E]
    clear E
    go_enter Try.func14, Try.ntmps14
    go_wp2_with (go_at_call 13; refine (right_any _ _).mono ?_; rintro e w' ⟨rfl, rfl⟩)
    all_goals (go_ret; exact ⟨rfl, rfl⟩)
def majI (n : Int) : Int := if rightB n then fI n + 1 else 0
theorem maj_any (n : Int) (w : World) : Calls Try.prog 15 #[.int .i64 n] w fun e w' => e = .returned (.int .i64 (majI n)) ∧ w = w' := by
  rcases f_cases n with ⟨R, E⟩ | ⟨rfl, R, E⟩ | ⟨rfl, R, E⟩ | ⟨rfl, R, E⟩
  all_goals
    simp only [majI, R, if_true, Bool.false_eq_true, if_false]
    go_enter Try.func15, Try.ntmps15
    go_wp2_with (first | (go_at_call 13; refine (right_any _ _).mono ?_; rintro e w' ⟨rfl, rfl⟩) | (go_at_call 14; refine (f_any _ _).mono ?_; rintro e w' ⟨rfl, rfl⟩))
    all_goals (go_ret; first | exact ⟨rfl, rfl⟩ | (rw [E]; exact ⟨rfl, rfl⟩))
theorem fast_any (n : Int) (w : World) : Calls Try.prog 16 #[.int .i64 n] w fun e w' => e = .returned (.int .i64 (2 * fI n)) ∧ w = w' := by
  rcases f_cases n with ⟨R, E⟩ | ⟨rfl, R, E⟩ | ⟨rfl, R, E⟩ | ⟨rfl, R, E⟩
  all_goals
    go_enter Try.func16, Try.ntmps16
    go_wp2_with (go_at_call 14; refine (f_any _ _).mono ?_; rintro e w' ⟨rfl, rfl⟩)
    all_goals (go_ret; rw [E]; exact ⟨rfl, rfl⟩)
end Go.Proofs.Ytdbhndieommkaaa.CrewW
