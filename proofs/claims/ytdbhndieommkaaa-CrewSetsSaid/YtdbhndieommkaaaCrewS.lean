/- Walks of a set's list: the library's IndexFunc and DeleteFunc over ints at the method value s.lacks, and List itself. -/
import Derived.Test.YtdbhndieommkaaaCrewL
import Derived.Lib.SliceRun
namespace Go.Proofs.Ytdbhndieommkaaa.CrewW
open Go.RowKit

/-- where the first that isn't in the set stands; -1 -/
def idxL (s : Int) (xs : List Int) : Int := if xs.all (fun x => hasB s x) then -1 else (xs.findIdx (fun x => !hasB s x) : Nat)
theorem all_take_snoc (s : Int) (xs : List Int) (k : Nat) (h : k < xs.length) : (xs.take (k + 1)).all (fun x => hasB s x) = ((xs.take k).all (fun x => hasB s x) && hasB s (xs.getD k 0)) := by
  rw [take_snocD xs k h]; simp
theorem idxL_at (s : Int) (xs : List Int) (k : Nat) (h : k < xs.length) (ha : (xs.take k).all (fun x => hasB s x) = true) (hk : hasB s (xs.getD k 0) = false) : idxL s xs = (k : Int) := by
  have e : xs.findIdx (fun x => !hasB s x) = k := by
    rw [List.findIdx_eq h]
    have g : xs.getD k 0 = xs[k] := by simp [List.getD, List.getElem?_eq_getElem h]
    refine ⟨by rw [← g, hk]; rfl, fun j hj => ?_⟩
    have := List.all_eq_true.1 ha xs[j] (by rw [List.mem_take_iff_getElem]; exact ⟨j, by omega, rfl⟩)
    simp [this]
  have n : xs.all (fun x => hasB s x) = false := by
    have g : xs.getD k 0 = xs[k] := by simp [List.getD, List.getElem?_eq_getElem h]
    rw [Bool.eq_false_iff]
    intro hh
    have := List.all_eq_true.1 hh xs[k] (List.getElem_mem h)
    rw [← g, hk] at this
    exact absurd this (by simp)
  unfold idxL
  rw [n, e]; simp
theorem idxL_none (s : Int) (xs : List Int) (ha : xs.all (fun x => hasB s x) = true) : idxL s xs = -1 := by unfold idxL; rw [ha]; rfl

theorem index_any (s : Int) (v : Value) (xs : List Int) (w : World) (hv : IntsAt w v xs) (hm : xs.length ≤ 1000000) :
    Calls Try.prog 64 #[v, .func (.func 47) #[.int .u8 s] #[]] w fun e w' => e = .returned (.int .i64 (idxL s xs)) ∧ w = w' := by
  obtain ⟨a, cap, rfl, hc⟩ := hv
  generalize hn : xs.length = n at *
  go_enter Try.func64, Try.ntmps64
  go_wp2
  go_loop [8] (fun i => ∃ k : Nat, k ≤ n ∧ i = .int .i64 k ∧ Hid ((xs.take k).all (fun x => hasB s x) = true)) (fun i => n - (intOf i).toNat)
  case atStart => exact ⟨0, Nat.zero_le _, rfl, by simp [Hid]⟩
  case round =>
    obtain ⟨k, hk, rfl, H⟩ := hrel
    by_cases hlt : k < n
    · obtain ⟨b, off, rfl, hcell⟩ := hc k hlt
      have HA : Hid (_) := all_take_snoc s xs k (by omega)
      have HX : hasB s (xs.getD k 0) = false → idxL s xs = (k : Int) := fun h => idxL_at s xs k (by omega) H.out h
      generalize xs.getD k 0 = x at *
      clear hc
      cases hx : hasB s x
      · have HX' : Hid (idxL s xs = (k : Int)) := HX hx
        clear HX
        go_wp2_with (go_at_call 47; refine (lacks_any _ _ _).mono ?_; rintro e w' ⟨rfl, rfl⟩)
        go_ret
        exact ⟨by rw [HX'.out]; rfl, rfl⟩
      · clear HX
        go_wp2_with (go_at_call 47; refine (lacks_any _ _ _).mono ?_; rintro e w' ⟨rfl, rfl⟩)
        go_round
        case rel => exact ⟨k + 1, by omega, by go_num, by rw [Hid, HA.out, H.out, hx]; rfl⟩
        case measure => simp [intOf]; omega
    · have HX : Hid (idxL s xs = -1) := by
        have e : xs.take k = xs := List.take_of_length_le (by omega)
        have := H.out
        rw [e] at this
        exact idxL_none s xs this
      go_wp2
      go_ret
      exact ⟨by rw [HX.out]; rfl, rfl⟩
end Go.Proofs.Ytdbhndieommkaaa.CrewW
