/- Walks of package net: New, has, copied. -/
import Derived.Test.YtdbhndieommkaaaNetM
import Derived.Test.YtdbhndieommkaaaShelf
import Derived.WalkLawsBesides
import Derived.Deep.AppendLies
import Derived.Deep.RegionLaw
namespace Go.Proofs.Ytdbhndieommkaaa.NetW
open Go.RowKit

def repB (r : Int) : Bool := decide (0 ≤ r) && decide (r < 7)
theorem replica_any (r : Int) (w : World) : Calls Try.prog 48 #[.int .i64 r] w fun e w' => e = .returned (.bool (repB r)) ∧ w = w' := by
  unfold repB
  by_cases h : 0 ≤ r
  · go_enter Try.func48, Try.ntmps48
    go_wp2
    go_ret
    exact ⟨by first | (simp; done) | (simp; omega) | (simp [h]; done), rfl⟩
  · go_enter Try.func48, Try.ntmps48
    go_wp2
    go_ret
    exact ⟨by first | (simp; done) | (simp; omega) | (simp [h]; done), rfl⟩

theorem new_no (limit : Int) (h : limit < 1 ∨ 4096 < limit) (w : World) : Calls Try.prog 26 #[.int .i64 limit] w fun e w' => e = .returned (.tuple #[.pointer none, .int .i64 12]) ∧ w = w' := by
  rcases h with h | h
  all_goals
    go_enter Try.func26, Try.ntmps26
    go_wp2
    go_ret2
    exact ⟨rfl, rfl⟩
def NewPost (limit : Int) (w : World) (e : Ending) (w' : World) : Prop := ∃ p, e = .returned (.tuple #[.pointer (some ⟨p, 0, none⟩), .int .i64 0]) ∧ NetIs w' p limit [] (.slice none 0 0) ∧ Ext w w' ∧ w.heap.size ≤ p
theorem new_ok (limit : Int) (h0 : 1 ≤ limit) (h1 : limit ≤ 4096) (w : World) : Calls Try.prog 26 #[.int .i64 limit] w (NewPost limit w) := by
  go_enter Try.func26, Try.ntmps26
  go_wp2
  go_ret2
  refine ⟨w.heap.size, rfl, ⟨BlockIs.alloc w [.int .i64 limit, .slice none 0 0] _, ⟨rfl, .inl ⟨rfl, rfl⟩⟩, ?_, ?_, ?_, ?_, ?_⟩, (Ext.refl _).alloc _, Nat.le_refl _⟩
  · intro f hf; cases hf
  · simp [Value.ownBlock]
  · intro f hf; cases hf
  · intro f hf; cases hf
  · exact List.Pairwise.nil

def hasN (i : Int) (n : Nat) : Bool := decide (0 ≤ i) && decide (i < (n : Int))
theorem row_form {w : World} {base : Nat} {T : TypeId} {size : Nat} {v : Value} {n : Nat} {xs : List Value} (h : w.ownsRow base T size v n xs) : ∃ a cap, v = .slice a n cap := by
  obtain ⟨_, ⟨rfl, rfl⟩ | ⟨g, cap, cur, rfl, _⟩⟩ := h
  · exact ⟨none, 0, rfl⟩
  · exact ⟨_, cap, rfl⟩
theorem has_any (i : Int) {w : World} {p : Nat} {limit : Int} {fs : List Fr} {lv : Value} (h : NetIs w p limit fs lv) :
    Calls Try.prog 50 #[.pointer (some ⟨p, 0, none⟩), .int .i64 i] w fun e w' => e = .returned (.bool (hasN i fs.length)) ∧ w = w' := by
  have c1 : w.cell? ⟨p, 1, none⟩ = some lv := by rw [h.head.cell]; rfl
  obtain ⟨a, cap, rfl⟩ := row_form h.row
  unfold hasN
  generalize fs.length = n at *
  by_cases hi : 0 ≤ i
  · go_enter Try.func50, Try.ntmps50
    go_wp2
    go_ret
    exact ⟨by first | (simp; done) | (simp; omega) | (simp [hi]; done), rfl⟩
  · go_enter Try.func50, Try.ntmps50
    go_wp2
    go_ret
    exact ⟨by first | (simp; done) | (simp; omega) | (simp [hi]; done), rfl⟩
theorem count_any {w : World} {p : Nat} {limit : Int} {fs : List Fr} {lv : Value} (h : NetIs w p limit fs lv) :
    Calls Try.prog 34 #[.pointer (some ⟨p, 0, none⟩)] w fun e w' => e = .returned (.int .i64 fs.length) ∧ w = w' := by
  have c1 : w.cell? ⟨p, 1, none⟩ = some lv := by rw [h.head.cell]; rfl
  obtain ⟨a, cap, rfl⟩ := row_form h.row
  generalize fs.length = n at *
  go_enter Try.func34, Try.ntmps34
  go_wp2
  go_ret
  exact ⟨rfl, rfl⟩

/-- a copy of bytes: in a row of its own, made now -/
def ClonePost (xs : List Int) (w : World) (e : Ending) (w' : World) : Prop := ∃ v, e = .returned v ∧ Bytes w' v xs ∧ (∀ g, v.ownBlock = some g → w.heap.size ≤ g) ∧ Ext w w'
theorem own_zero {w : World} {base : Nat} {T : TypeId} {size : Nat} {v : Value} {n : Nat} {xs : List Value} (h : w.ownsRow base T size v n xs) : w.ownsRow 0 T size v n xs := by
  obtain ⟨h1, h2 | ⟨g, cap, cur, hv, hg, r⟩⟩ := h
  · exact ⟨h1, .inl h2⟩
  · exact ⟨h1, .inr ⟨g, cap, cur, hv, Nat.zero_le _, r⟩⟩
theorem clone_any (v : Value) (xs : List Int) (w : World) (hv : BytesAt w v xs) (hm : xs.length ≤ 1000000) : Calls Try.prog 65 #[v] w (ClonePost xs w) := by
  obtain ⟨a, cap, rfl, hn, hc⟩ := hv
  cases a with
  | none =>
    have h0 : xs = [] := by
      rcases xs with _ | ⟨x, r⟩
      · rfl
      · obtain ⟨b, off, h, _⟩ := hc 0 (by simp); cases h
    subst h0
    refine (Try.bytes_Clone_nil _ cap w).mono fun e w' h => ?_
    obtain ⟨he, hw⟩ := h
    subst he; subst hw
    exact ⟨_, rfl, ⟨rfl, .inl ⟨rfl, rfl⟩⟩, by intro g hg; simp [Value.ownBlock] at hg, Ext.refl _⟩
  | some a =>
    refine (Try.bytes_Clone_at a xs.length cap xs w rfl (by omega) ?_).mono fun e w' h => ?_
    · intro i hi
      obtain ⟨b, off, h, hx⟩ := hc i hi
      cases h
      by_cases q : i = 0
      · subst q; simpa [Addr.add] using hx
      · simpa [Addr.add, q] using hx
    · obtain ⟨v', he, hown, _, hb⟩ := h
      subst he
      exact ⟨v', rfl, own_zero hown, own_block_le hown, hb⟩

def CopyPost (fro too : Int) (xs : List Int) (w : World) (e : Ending) (w' : World) : Prop := ∃ v, e = .returned (.agg #[.int .i64 fro, .int .i64 too, v]) ∧ Bytes w' v xs ∧ (∀ g, v.ownBlock = some g → w.heap.size ≤ g) ∧ Ext w w'
theorem copied_any (fro too : Int) (v : Value) (xs : List Int) (w : World) (hv : BytesAt w v xs) (hm : xs.length ≤ 1000000) :
    Calls Try.prog 49 #[.agg #[.int .i64 fro, .int .i64 too, v]] w (CopyPost fro too xs w) := by
  have HV : Hid (BytesAt w v xs) := hv
  obtain ⟨a, cap, rfl, _⟩ := hv
  go_enter Try.func49, Try.ntmps49
  go_wp2_with fail
  refine (clone_any _ xs _ (HV.out.ext (((Ext.refl _).alloc _).alloc _)) hm).mono ?_
  rintro e w1 ⟨v', rfl, hb, hf, he⟩
  have HB : Hid (Bytes w1 v' xs) := hb
  have HF : Hid (∀ g, v'.ownBlock = some g → w.heap.size + 2 ≤ g) := fun g hg => by have := hf g hg; simp at this; omega
  have HE : Hid (Ext w w1) := (((Ext.refl w).alloc _).alloc _).trans he
  have B1 : BlockIs w1 w.heap.size [.int .i64 fro, .int .i64 too, .slice a xs.length cap] 41 := ((BlockIs.alloc w _ _).ext ((Ext.refl _).alloc _)).ext he
  have B2 : BlockIs w1 (w.heap.size + 1) [.int .i64 0, .int .i64 0, .slice none 0 0] 41 := (BlockIs.new (by simp)).ext he
  obtain ⟨x0, x1, x2, f0, f1, f2, l1⟩ := B1.three
  obtain ⟨y0, y1, y2, g0, g1, g2, l2⟩ := B2.three
  obtain ⟨a', cap', rfl⟩ := row_form hb
  clear he hf hb B1 B2
  go_wp2_with fail
  refine bodyPost_ret (v := .agg #[.int .i64 fro, .int .i64 too, .slice a' xs.length cap']) (by simp [results, Try.results49, go_sem, y0, y1, y2]) rfl ⟨_, rfl, ?_, ?_, ?_⟩
  · refine HB.out.same fun g hg => ?_
    have hx : w.heap.size + 2 ≤ g := HF.out g hg
    rw [Below.heap_setCell _ _ _ _ (by simp; omega), Below.heap_setCell _ _ _ _ (by simp; omega), Below.heap_setCell _ _ _ _ (by simp; omega), Below.heap_setCell _ _ _ _ (by simp; omega)]
  · intro g hg
    have hx : w.heap.size + 2 ≤ g := HF.out g hg
    omega
  · exact (((HE.out.setCell (Nat.le_refl _) _).setCell (by simp) _).setCell (by simp) _).setCell (by simp) _
end Go.Proofs.Ytdbhndieommkaaa.NetW
