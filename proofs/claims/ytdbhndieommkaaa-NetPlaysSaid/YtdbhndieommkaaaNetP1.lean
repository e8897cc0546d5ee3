/- The walks of Drop and Spoil. -/
import Derived.Test.YtdbhndieommkaaaNetO
import Derived.Test.YtdbhndieommkaaaNetM2
namespace Go.Proofs.Ytdbhndieommkaaa.NetW
open Go.RowKit

/-- what is known of a frame that was taken -/
theorem taken {w w' : World} {p : Nat} {limit : Int} {fs : List Fr} {lv : Value} (h : NetIs w p limit fs lv) (i : Nat) (hi : i < fs.length) (hx : Exc (Foot p lv) w w') :
    Bytes w' fs[i].dv fs[i].data ∧ fs[i].dv.ownBlock ≠ some p ∧ (∀ g, fs[i].dv.ownBlock = some g → lv.ownBlock ≠ some g) ∧ (∀ f ∈ fs.eraseIdx i, ∀ g, fs[i].dv.ownBlock = some g → f.dv.ownBlock ≠ some g) := by
  have hm := List.getElem_mem hi
  refine ⟨(h.data _ hm).same fun g hg => hx.block g ((h.data _ hm).lt hg) ?_, h.dp _ hm, h.dl _ hm, ?_⟩
  · rintro (e | e)
    · subst e; exact h.dp _ hm hg
    · exact h.dl _ hm g hg e
  · intro f hf g hg e
    obtain ⟨j, hj, hne, rfl⟩ := List.mem_eraseIdx_iff_getElem.1 hf
    have hp := List.pairwise_iff_getElem.1 h.dd
    rcases Nat.lt_or_ge j i with q | q
    · exact hp j i hj hi q g e hg
    · exact hp i j hi hj (by omega) g hg e

theorem drop_no {w : World} {p : Nat} {limit : Int} {fs : List Fr} {lv : Value} (h : NetIs w p limit fs lv) (i : Int) (hi : hasN i fs.length = false) :
    Calls Try.prog 52 #[.pointer (some ⟨p, 0, none⟩), .int .i64 i] w fun e w' => e = .returned (.int .i64 13) ∧ Ext w w' := by
  have ht := take_no h i hi
  go_enter Try.func52, Try.ntmps52
  go_wp2_with fail
  refine ht.mono ?_
  rintro e w1 ⟨rfl, e1⟩
  go_wp2_with fail
  go_ret
  exact ⟨rfl, e1.alloc _⟩
def DropPost (p : Nat) (limit : Int) (fs : List Fr) (lv : Value) (i : Nat) (w : World) (e : Ending) (w' : World) : Prop :=
  ∃ lv', e = .returned (.int .i64 0) ∧ NetIs w' p limit (fs.eraseIdx i) lv' ∧ Exc (Foot p lv) w w' ∧ lv'.ownBlock = lv.ownBlock
theorem drop_ok {w : World} {p : Nat} {limit : Int} {fs : List Fr} {lv : Value} (h : NetIs w p limit fs lv) (i : Nat) (hi : i < fs.length) (hmax : fs.length ≤ 1000000) :
    Calls Try.prog 52 #[.pointer (some ⟨p, 0, none⟩), .int .i64 i] w (DropPost p limit fs lv i w) := by
  have ht := take_ok h i hi hmax
  have hd := row_form (h.data _ (List.getElem_mem hi))
  obtain ⟨a, cap, hd⟩ := hd
  have HD : Hid (fs[i].dv = .slice a fs[i].data.length cap) := hd
  clear hd
  go_enter Try.func52, Try.ntmps52
  go_wp2_with fail
  refine ht.mono ?_
  rintro e w1 hp
  obtain ⟨lv', rfl, h1, h2, h3⟩ := hp
  rw [HD.out]
  have H1 : Hid (NetIs w1 p limit (fs.eraseIdx i) lv' ∧ Exc (Foot p lv) w w1 ∧ lv'.ownBlock = lv.ownBlock) := ⟨h1, h2, h3⟩
  clear h1 h2 h3
  go_wp2_with fail
  go_ret
  exact ⟨lv', rfl, H1.out.1.ext ((Ext.refl _).alloc _), H1.out.2.1.alloc _, H1.out.2.2⟩

theorem spoil_no {w : World} {p : Nat} {limit : Int} {fs : List Fr} {lv : Value} (h : NetIs w p limit fs lv) (i bit : Int) (hi : hasN i fs.length = false) :
    Calls Try.prog 53 #[.pointer (some ⟨p, 0, none⟩), .int .i64 i, .int .i64 bit] w fun e w' => e = .returned (.tuple #[.agg #[.int .i64 0, .int .i64 0, .slice none 0 0], .int .i64 13]) ∧ Ext w w' := by
  have ht := take_no (h.ext ((Ext.refl _).alloc (.cells #[.int .i64 0, .int .i64 0, .slice none 0 0] 41))) i hi
  go_enter Try.func53, Try.ntmps53
  go_wp2_with fail
  refine ht.mono ?_
  rintro e w1 ⟨rfl, e1⟩
  have B0 : BlockIs w1 w.heap.size [.int .i64 0, .int .i64 0, .slice none 0 0] 41 := (BlockIs.alloc w _ _).ext e1
  have B1 : BlockIs (w1.alloc (.cells #[.int .i64 0, .int .i64 0, .slice none 0 0] 41)) w.heap.size [.int .i64 0, .int .i64 0, .slice none 0 0] 41 := B0.ext ((Ext.refl _).alloc _)
  have B2 : BlockIs (w1.alloc (.cells #[.int .i64 0, .int .i64 0, .slice none 0 0] 41)) w1.heap.size [.int .i64 0, .int .i64 0, .slice none 0 0] 41 := BlockIs.alloc _ _ _
  have hlt := B0.lt
  have HE : Hid (Ext w (w1.alloc (.cells #[.int .i64 0, .int .i64 0, .slice none 0 0] 41))) := (((Ext.refl w).alloc _).trans e1).alloc _
  go_upto_region 2 with (fail)
  clear e1 B0
  generalize World.alloc w1 _ = W at *
  generalize w1.heap.size = C at *
  generalize hBB : w.heap.size = B at *
  obtain ⟨x0, x1, x2, f0, f1, f2, _⟩ := B1.three
  obtain ⟨y0, y1, y2, _, _, _, _⟩ := B2.three
  clear B1 B2
  go_wp2_with fail
  refine bodyPost_ret (v := .tuple #[.agg #[.int .i64 0, .int .i64 0, .slice none 0 0], .int .i64 13]) (by simp [results, Try.results53, go_sem, x0, x1, x2]) rfl ⟨rfl, ?_⟩
  exact ((HE.out.setCell (by simp; omega) _).setCell (by simp; omega) _).setCell (by simp; omega) _
end Go.Proofs.Ytdbhndieommkaaa.NetW
