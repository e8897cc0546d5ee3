/- The walk of Send. -/
import Derived.Test.YtdbhndieommkaaaNetW
import Derived.Deep.Cut
import Derived.Deep.QuietTactic
import Derived.BigQuiet
namespace Go.Proofs.Ytdbhndieommkaaa.NetW
open Go.RowKit

/-- what Send says -/
def sendE (limit : Int) (n : Nat) (fro too : Int) (len : Nat) : Int :=
  if !repB fro || !repB too then 12 else if 512 < len then 11 else if limit ≤ (n : Int) then 14 else 0

set_option maxRecDepth 100000 in
theorem send_no {w : World} {p : Nat} {limit : Int} {fs : List Fr} {lv : Value} (h : NetIs w p limit fs lv) (fro too : Int) (v : Value) (xs : List Int) (hv : BytesAt w v xs) (hm : xs.length ≤ 9223372036854775807) (hn : fs.length ≤ 1000000)
    (he : sendE limit fs.length fro too xs.length ≠ 0) :
    Calls Try.prog 27 #[.pointer (some ⟨p, 0, none⟩), .agg #[.int .i64 fro, .int .i64 too, v]] w fun e w' => e = .returned (.int .i64 (sendE limit fs.length fro too xs.length)) ∧ Ext w w' := by
  obtain ⟨a, cap, rfl, _⟩ := hv
  obtain ⟨la, lcap, rfl⟩ := row_form h.row
  have BP : BlockIs (w.alloc (.cells #[.int .i64 fro, .int .i64 too, .slice a xs.length cap] 41)) p [.int .i64 limit, .slice la fs.length lcap] 85 := h.head.ext ((Ext.refl _).alloc _)
  have B1 : BlockIs (w.alloc (.cells #[.int .i64 fro, .int .i64 too, .slice a xs.length cap] 41)) w.heap.size [.int .i64 fro, .int .i64 too, .slice a xs.length cap] 41 := BlockIs.alloc w _ _
  have HE : Hid (Ext w (w.alloc (.cells #[.int .i64 fro, .int .i64 too, .slice a xs.length cap] 41))) := (Ext.refl _).alloc _
  obtain ⟨p0, p1, q0, q1, lp⟩ := BP.two
  obtain ⟨x0, x1, x2, f0, f1, f2, l1⟩ := B1.three
  clear BP B1 h
  unfold sendE at *
  generalize fs.length = n at *
  generalize xs.length = m at *
  cases hf : repB fro
  · simp only [Bool.not_false, Bool.true_or, if_true]
    go_enter Try.func27, Try.ntmps27
    go_upto_region 1 with (fail)
    generalize World.alloc w _ = W at *
    generalize w.heap.size = B at *
    go_wp2_with (go_at_call 48; refine (replica_any _ _).mono ?_; rw [hf]; rintro e w' ⟨rfl, rfl⟩)
    go_ret
    exact ⟨rfl, HE.out⟩
  cases ht : repB too
  · simp only [Bool.not_false, Bool.not_true, Bool.false_or, if_true]
    go_enter Try.func27, Try.ntmps27
    go_upto_region 1 with (fail)
    generalize World.alloc w _ = W at *
    generalize w.heap.size = B at *
    go_wp2_with fail
    refine (replica_any _ _).mono ?_
    rw [hf]
    rintro e _ ⟨rfl, rfl⟩
    go_wp2_with fail
    refine (replica_any _ _).mono ?_
    rw [ht]
    rintro e _ ⟨rfl, rfl⟩
    go_wp2_with fail
    go_ret
    exact ⟨rfl, HE.out⟩
  simp only [hf, ht, Bool.not_true, Bool.or_self, Bool.false_eq_true, if_false] at he ⊢
  by_cases hl : 512 < m
  · simp only [hl, if_true]
    go_enter Try.func27, Try.ntmps27
    go_upto_region 1 with (fail)
    generalize World.alloc w _ = W at *
    generalize w.heap.size = B at *
    go_wp2_with fail
    refine (replica_any _ _).mono ?_
    rw [hf]
    rintro e _ ⟨rfl, rfl⟩
    go_wp2_with fail
    refine (replica_any _ _).mono ?_
    rw [ht]
    rintro e _ ⟨rfl, rfl⟩
    go_wp2_with fail
    go_ret
    exact ⟨rfl, HE.out⟩
  · have hl' : limit ≤ (n : Int) := by
      simp only [hl, if_false] at he
      by_cases q : limit ≤ (n : Int)
      · exact q
      · simp [q] at he
    simp only [hl, hl', if_true, if_false]
    go_enter Try.func27, Try.ntmps27
    go_upto_region 1 with (fail)
    generalize World.alloc w _ = W at *
    generalize w.heap.size = B at *
    go_wp2_with fail
    refine (replica_any _ _).mono ?_
    rw [hf]
    rintro e _ ⟨rfl, rfl⟩
    go_wp2_with fail
    refine (replica_any _ _).mono ?_
    rw [ht]
    rintro e _ ⟨rfl, rfl⟩
    go_wp2_with fail
    go_quiet (fail)
    go_wp2_with fail
    go_ret
    exact ⟨rfl, HE.out.drewN _⟩
end Go.Proofs.Ytdbhndieommkaaa.NetW
