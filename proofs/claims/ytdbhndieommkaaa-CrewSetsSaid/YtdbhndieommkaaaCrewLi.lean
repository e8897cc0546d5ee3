/- The walk of a set's list. -/
import Derived.Test.YtdbhndieommkaaaCrewD
import Derived.Test.YtdbhndieommkaaaBase2
namespace Go.Proofs.Ytdbhndieommkaaa.CrewW
open Go.RowKit

def listOf (s : Int) : List Int := ([0, 1, 2, 3, 4, 5, 6] : List Int).filter fun x => hasB s x
def ints (k : Nat) : List Value := (List.range k).map fun (i : Nat) => Value.int .i64 (i : Int)
theorem ints_snoc (k : Nat) : ints (k + 1) = ints k ++ [.int .i64 k] := by simp [ints, List.range_succ]
def ListPost (s : Int) (w : World) (e : Ending) (w' : World) : Prop := ∃ v, e = .returned v ∧ IntsAt w' v (listOf s) ∧ Ext w w'
theorem infoInt : (Try.prog.info? 3).map (fun i => (i.zero, i.size, i.bytes)) = some (some (.int .i64 0), 1, 8) := by kernel_rfl

set_option maxRecDepth 100000 in
theorem list_any (s : Int) (w : World) : Calls Try.prog 22 #[.int .u8 s] w (ListPost s w) := by
  obtain ⟨i0, hi, hz0, hz1, hz2⟩ := info_parts infoInt
  go_enter Try.func22, Try.ntmps22
  go_wp2
  go_loopw [3, 5] (fun v i wr => ∃ k : Nat, k ≤ 7 ∧ i = .int .i64 k ∧ wr.ownsRow w.heap.size 3 1 v k (ints k) ∧ Hid (Ext w wr)) (fun _ i _ => 7 - (intOf i).toNat)
  case atStart => exact ⟨0, by omega, rfl, ⟨rfl, .inl ⟨rfl, rfl⟩⟩, Ext.refl _⟩
  case round =>
    obtain ⟨k, hk, rfl, hown, hE⟩ := hrel
    by_cases hlt : k < 7
    · have hbase : w.heap.size ≤ wr.heap.size := hE.out.size
      go_wp2_with (at_builtin; refine wpList_append_own _ rfl _ _ 22 rfl w.heap.size 3 i0 (.int .i64 0) 1 8 Try.underlying22 hi hz0 hz1 hz2 rfl (by decide) _ _ _ rfl (hown.alloc _) ⟨wr.heap.size, 0, none⟩ 1 1 [.int .i64 k] rfl rfl ?c1 ?c2 ?c3 ?c4 ?c5 ?_)
      case c1 => exact one_cell
      case c2 => intro u hu; simp at hu; subst hu; rfl
      case c3 => unfold maxLen; omega
      case c4 => omega
      case c5 => simp; omega
      intro v' w1 hown1 hgrow _
      have hE1 : Hid (Ext w w1) := (hE.out.alloc _).grown hgrow (own_block_le hown)
      clear hown hgrow
      go_wp2
      go_roundw
      case rel => exact ⟨k + 1, by omega, by go_num, by rw [ints_snoc]; exact hown1, hE1⟩
      case measure => simp [intOf]; omega
    · obtain rfl : k = 7 := by omega
      obtain ⟨g, cap, c, rfl, hg, hB, hcap, hcl, hc⟩ := own_open hown (by omega)
      have hd := delete_any s g 7 cap [0, 1, 2, 3, 4, 5, 6] c wr rfl hB (fun j hj => by
        rw [hc j hj]
        have hi' : j = 0 ∨ j = 1 ∨ j = 2 ∨ j = 3 ∨ j = 4 ∨ j = 5 ∨ j = 6 := by omega
        rcases hi' with rfl | rfl | rfl | rfl | rfl | rfl | rfl <;> rfl) hcap (by omega)
      have HP : Hid (∀ e w', DelPost s g [0, 1, 2, 3, 4, 5, 6] wr e w' → ListPost s w e w') := by
        rintro e w' ⟨v, rfl, h1, h2⟩
        refine ⟨v, rfl, h1, ?_⟩
        have h3 := (hE.out.exc (fun k => w.heap.size ≤ k)).trans (h2.mono (fun k _ h => by subst h; exact hg))
        exact h3.ext (fun k hk => by omega)
      clear hown hc hcl hB
      go_wp2_with (go_at_call 46; refine hd.mono ?_; rintro e w' hp; obtain ⟨v, rfl, hq⟩ := HP.out e w' hp)
      go_ret
      exact ⟨v, rfl, hq⟩
end Go.Proofs.Ytdbhndieommkaaa.CrewW
