/- The walk of the law's anchor (net). -/
import Derived.Test.YtdbhndieommkaaaNetSm
namespace Go.Proofs.Ytdbhndieommkaaa.NetW
open Go.RowKit

theorem nil_bytes (w : World) : BytesAt w (.slice none 0 0) [] := ⟨none, 0, rfl, fun _ => rfl, fun j hj => by simp at hj⟩

set_option maxRecDepth 100000 in
theorem anchor_any (w : World) : Calls Try.prog 25 #[] w fun e w' => e = .returned (.bool true) ∧ Ext w w' := by
  go_enter Try.func25, Try.ntmps25
  go_wp2_with fail
  refine (new_ok 9 (by omega) (by omega) _).mono ?_
  rintro e w1 hp
  obtain ⟨p, rfl, n1, e1, hp1⟩ := hp
  have HE1 : Hid (Ext w w1) := e1
  have hpf : w.heap.size ≤ p := hp1
  clear hp1 e1
  go_wp2_with fail
  refine (send_ok n1 1 0 _ [] (nil_bytes _) (by simp) rfl rfl (by simp) (by simp)).mono ?_
  rintro e w2 hp
  obtain ⟨l2, d2, rfl, n2, x2, f2, _⟩ := hp
  have X2 : Hid (Exc (fun k => w.heap.size ≤ k) w w2) := (HE1.out.exc _).trans (x2.mono fun k _ h => by rcases h with rfl | h; exact hpf; simp [Value.ownBlock] at h)
  have F2 : Hid (∀ g, l2.ownBlock = some g → w.heap.size ≤ g) := fun g hg => by
    rcases f2 g hg with h | h
    · simp [Value.ownBlock] at h
    · exact Nat.le_trans HE1.out.size h
  clear x2 f2 HE1 n1
  go_wp2_with fail
  refine (send_ok n2 2 0 _ [] (nil_bytes _) (by simp) rfl rfl (by simp) (by simp)).mono ?_
  rintro e w3 hp
  obtain ⟨l3, d3, rfl, n3, x3, f3, _⟩ := hp
  have X3 : Hid (Exc (fun k => w.heap.size ≤ k) w w3) := X2.out.trans (x3.mono fun k _ h => by rcases h with rfl | h; exact hpf; exact F2.out k h)
  have F3 : Hid (∀ g, l3.ownBlock = some g → w.heap.size ≤ g) := fun g hg => by
    rcases f3 g hg with h | h
    · exact F2.out g h
    · exact Nat.le_trans X2.out.size h
  clear x3 f3 X2 F2 n2
  go_wp2_with fail
  refine (twice_ok n3 0 (by simp) ⟨rfl, rfl, by simp⟩ (by simp) (by simp)).mono ?_
  rintro e w4 hp
  obtain ⟨l4, d4, rfl, n4, x4, f4, _⟩ := hp
  have X4 : Hid (Exc (fun k => w.heap.size ≤ k) w w4) := X3.out.trans (x4.mono fun k _ h => by rcases h with rfl | h; exact hpf; exact F3.out k h)
  have F4 : Hid (∀ g, l4.ownBlock = some g → w.heap.size ≤ g) := fun g hg => by
    rcases f4 g hg with h | h
    · exact F3.out g h
    · exact Nat.le_trans X3.out.size h
  clear x4 f4 X3 F3 n3
  go_wp2_with fail
  refine (take_ok n4 1 (by simp) (by simp)).mono ?_
  rintro e w5 hp
  obtain ⟨l5, rfl, n5, x5, f5⟩ := hp
  have X5 : Hid (Exc (fun k => w.heap.size ≤ k) w w5) := X4.out.trans (x5.mono fun k _ h => by rcases h with rfl | h; exact hpf; exact F4.out k h)
  clear x5 f5 X4 F4
  obtain ⟨da, dcap, hdv⟩ := row_form (n4.data ⟨2, 0, d3, []⟩ (by simp))
  simp only [List.nil_append, List.cons_append, List.getElem_cons_succ, List.getElem_cons_zero]
  simp only at hdv
  rw [hdv]
  have n5' : NetIs (w5.alloc (.cells #[.int .i64 2, .int .i64 0, .slice da ([] : List Int).length dcap] 41)) p 9 _ _ := n5.ext ((Ext.refl _).alloc _)
  clear n4 n5
  go_wp2_with fail
  refine (new_no 0 (by omega) _).mono ?_
  rintro e _ ⟨rfl, rfl⟩
  go_wp2_with fail
  refine (count_any n5').mono ?_
  rintro e _ ⟨rfl, rfl⟩
  go_wp2_with fail
  go_ret
  exact ⟨rfl, (X5.out.alloc _).ext (fun k hk => by omega)⟩
end Go.Proofs.Ytdbhndieommkaaa.NetW
