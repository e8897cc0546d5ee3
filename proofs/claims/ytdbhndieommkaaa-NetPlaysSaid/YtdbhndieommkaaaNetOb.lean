/- The walk of the law NetOwns. -/
import Derived.Test.YtdbhndieommkaaaNetA
import Derived.Deep.RegionHeld3
namespace Go.Proofs.Ytdbhndieommkaaa.NetW
open Go.RowKit

theorem bytes_open {w : World} {v : Value} {xs : List Int} (h : Bytes w v xs) (h0 : 0 < xs.length) :
    ∃ g cap, v = .slice (some ⟨g, 0, none⟩) xs.length cap ∧ g < w.heap.size ∧ (∀ j, j < xs.length → w.cell? ⟨g, j, none⟩ = some (.int .u8 (xs.getD j 0))) ∧ ∀ j, w.frozen? ⟨g, j, none⟩ = false := by
  obtain ⟨g, cap, rfl, _, hg⟩ := h.form h0
  obtain ⟨c, hB, _, _, _, ht, _⟩ := own_block h
  refine ⟨g, cap, rfl, hg, fun j hj => ?_, hB.free⟩
  have e : c[j]? = (xs.map (Value.int .u8))[j]? := by rw [← ht, List.getElem?_take, if_pos (by omega)]
  rw [hB.cell, e]
  simp [List.getD, List.getElem?_eq_getElem hj]
theorem infoByte : (Try.prog.info? 5).map (fun i => (i.zero, i.size, i.bytes)) = some (some (.int .u8 0), 1, 1) := by kernel_rfl

set_option maxRecDepth 100000 in
set_option maxHeartbeats 2000000 in
theorem owns_bad (fro too at_ : Int) (v : Value) (xs : List Int) (w : World) (hv : BytesAt w v xs) (hm : xs.length ≤ 9223372036854775807)
    (hb : fro < 0 ∨ 6 < fro ∨ too < 0 ∨ 6 < too ∨ 512 < xs.length ∨ at_ < 0 ∨ (xs.length : Int) ≤ at_) :
    Calls Try.prog 6 #[.agg #[.int .i64 fro, .int .i64 too, v], .int .i64 at_] w fun e w' => e = .returned (.bool true) ∧ Ext w w' := by
  obtain ⟨a, cap, rfl, _⟩ := hv
  generalize xs.length = n at *
  have hcases : (fro < 0) ∨ (0 ≤ fro ∧ 6 < fro) ∨ (0 ≤ fro ∧ fro ≤ 6 ∧ too < 0) ∨ (0 ≤ fro ∧ fro ≤ 6 ∧ 0 ≤ too ∧ 6 < too) ∨ (0 ≤ fro ∧ fro ≤ 6 ∧ 0 ≤ too ∧ too ≤ 6 ∧ 512 < n) ∨ (0 ≤ fro ∧ fro ≤ 6 ∧ 0 ≤ too ∧ too ≤ 6 ∧ n ≤ 512 ∧ at_ < 0) ∨ (0 ≤ fro ∧ fro ≤ 6 ∧ 0 ≤ too ∧ too ≤ 6 ∧ n ≤ 512 ∧ 0 ≤ at_ ∧ (n : Int) ≤ at_) := by omega
  clear hb
  have B0 : Hid (BlockIs (w.alloc (.cells #[.int .i64 fro, .int .i64 too, .slice a n cap] 41)) w.heap.size [.int .i64 fro, .int .i64 too, .slice a n cap] 41) := BlockIs.alloc w _ _
  have HE : Hid (Ext w (w.alloc (.cells #[.int .i64 fro, .int .i64 too, .slice a n cap] 41))) := (Ext.refl _).alloc _
  rcases hcases with h | ⟨h1, h⟩ | ⟨h1, h2, h⟩ | ⟨h1, h2, h3, h⟩ | ⟨h1, h2, h3, h4, h⟩ | ⟨h1, h2, h3, h4, h5, h⟩ | ⟨h1, h2, h3, h4, h5, h6, h⟩
  all_goals
    go_enter Try.func6, Try.ntmps6
    go_upto_region 1 with (fail)
    generalize World.alloc w _ = W at *
    generalize w.heap.size = B at *
    go_wp2_with fail
    refine (anchor_any _).mono ?_
    rintro e w1 ⟨rfl, e1⟩
    go_wp2_with fail
    refine (new_ok 4 (by omega) (by omega) _).mono ?_
    rintro e w2 hp
    obtain ⟨p, rfl, _, e2, _⟩ := hp
    obtain ⟨x0, x1, x2, _, _, _, _⟩ := ((B0.out.ext e1).ext e2).three
    have HE2 : Hid (Ext w w2) := (HE.out.trans e1).trans e2
    clear e1 e2
    go_wp2_with fail
    go_ret
    exact ⟨rfl, HE2.out⟩
end Go.Proofs.Ytdbhndieommkaaa.NetW
