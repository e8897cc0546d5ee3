/- The walks of the document's Same (where the frames are alike) and of the law's of. -/
import Derived.Test.YtdbhndieommkaaaNetLi
namespace Go.Proofs.Ytdbhndieommkaaa.NetW
open Go.RowKit

theorem of_any (fro too : Int) (v : Value) (n : Nat) (w : World) (hv : ∃ a cap, v = .slice a n cap) :
    Calls Try.prog 32 #[.agg #[.int .i64 fro, .int .i64 too, v]] w fun e w' => e = .returned (.agg #[.int .i64 fro, .int .i64 too, v]) ∧ Ext w w' := by
  obtain ⟨a, cap, rfl⟩ := hv
  go_enter Try.func32, Try.ntmps32
  go_wp2_with fail
  refine bodyPost_ret (v := .agg #[.int .i64 fro, .int .i64 too, .slice a n cap]) (by simp [results, Try.results32, go_sem]) rfl ⟨rfl, ?_⟩
  exact ((Ext.refl _).alloc _).alloc _

theorem same_true (fro too : Int) (v1 v2 : Value) (xs : List Int) (w : World) (h1 : BytesAt w v1 xs) (h2 : BytesAt w v2 xs) (hm : xs.length ≤ 100000000) :
    Calls Try.prog 31 #[.agg #[.int .i64 fro, .int .i64 too, v1], .agg #[.int .i64 fro, .int .i64 too, v2]] w fun e w' => e = .returned (.bool true) ∧ Ext w w' := by
  obtain ⟨a, ca, rfl, _, ha⟩ := h1
  obtain ⟨b, cb, rfl, _, hb⟩ := h2
  have HA : Hid (∀ W, Ext w W → ∀ j, j < xs.length → ∃ q off, a = some ⟨q, off, none⟩ ∧ W.cell? ⟨q, off + j, none⟩ = some (.int .u8 (xs.getD j 0))) := fun W he j hj => by
    obtain ⟨q, off, e, hx⟩ := ha j hj
    exact ⟨q, off, e, he.cell_of hx⟩
  have HB : Hid (∀ W, Ext w W → ∀ j, j < xs.length → ∃ q off, b = some ⟨q, off, none⟩ ∧ W.cell? ⟨q, off + j, none⟩ = some (.int .u8 (xs.getD j 0))) := fun W he j hj => by
    obtain ⟨q, off, e, hx⟩ := hb j hj
    exact ⟨q, off, e, he.cell_of hx⟩
  clear ha hb
  generalize xs.length = n at *
  have B1 : Hid (BlockIs ((w.alloc (.cells #[.int .i64 fro, .int .i64 too, .slice a n ca] 53)).alloc (.cells #[.int .i64 fro, .int .i64 too, .slice b n cb] 53)) w.heap.size [.int .i64 fro, .int .i64 too, .slice a n ca] 53) := (BlockIs.alloc w _ _).ext ((Ext.refl _).alloc _)
  have B2 : Hid (BlockIs ((w.alloc (.cells #[.int .i64 fro, .int .i64 too, .slice a n ca] 53)).alloc (.cells #[.int .i64 fro, .int .i64 too, .slice b n cb] 53)) (w.heap.size + 1) [.int .i64 fro, .int .i64 too, .slice b n cb] 53) := BlockIs.new (by simp)
  have HE : Hid (Ext w ((w.alloc (.cells #[.int .i64 fro, .int .i64 too, .slice a n ca] 53)).alloc (.cells #[.int .i64 fro, .int .i64 too, .slice b n cb] 53))) := ((Ext.refl _).alloc _).alloc _
  have hf : (fro != fro) = false := by simp
  have ht : (too != too) = false := by simp
  go_enter Try.func31, Try.ntmps31
  go_upto_region 1 with (fail)
  generalize World.alloc (World.alloc w _) _ = W at *
  generalize w.heap.size = B at *
  obtain ⟨x0, x1, x2, _, _, _, _⟩ := B1.out.three
  obtain ⟨y0, y1, y2, _, _, _, _⟩ := B2.out.three
  go_wp2_with fail
  clear x0 x1 x2 y0 y1 y2
  go_loopw [5] (fun i wr => ∃ k : Nat, k ≤ n ∧ i = .int .i64 k ∧ Hid (Ext W wr)) (fun i _ => n - (intOf i).toNat)
  case atStart => exact ⟨0, by omega, rfl, Ext.refl _⟩
  case round =>
    obtain ⟨k, hk, rfl, hE⟩ := hrel
    obtain ⟨x0, x1, x2, _, _, _, _⟩ := (B1.out.ext hE.out).three
    obtain ⟨y0, y1, y2, _, _, _, _⟩ := (B2.out.ext hE.out).three
    by_cases hlt : k < n
    · obtain ⟨q, o, rfl, hx⟩ := HA.out wr (HE.out.trans hE.out) k hlt
      obtain ⟨q', o', rfl, hy⟩ := HB.out wr (HE.out.trans hE.out) k hlt
      generalize xs.getD k 0 = x at *
      have hne : (x != x) = false := by simp
      have hlz : (k : Int) < (n : Int) := by omega
      have hk0 : (0 : Int) ≤ (k : Int) := by omega
      go_wp2_with fail
      go_quiet (fail)
      go_wp2_with fail
      go_roundw
      case rel => exact ⟨k + 1, by omega, by go_num, hE.out.drewN _⟩
      case measure => simp [intOf]; omega
    · go_wp2_with fail
      go_ret
      exact ⟨rfl, HE.out.trans hE.out⟩
end Go.Proofs.Ytdbhndieommkaaa.NetW
