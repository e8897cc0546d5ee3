/- Small words for worlds that have grown, and for slices that read as lists. No program in sight. -/
import Derived.WalkKit
import Derived.WalkSpells
import Derived.WalkLawsBesides
import Derived.Lib.Hide
namespace Go.Proofs.Ytdbhndieommkaaa
open Go.RowKit

/-- nothing that was there has turned; blocks may have come -/
def Ext (w w' : World) : Prop := Below w.heap.size w w'
theorem Ext.refl (w : World) : Ext w w := Below.refl _ _
theorem Ext.size {w w' : World} (h : Ext w w') : w.heap.size ≤ w'.heap.size := Below.size h
theorem Ext.trans {a b c : World} (h : Ext a b) (k : Ext b c) : Ext a c := Below.trans h (Below.mono k (Below.size h))
theorem Ext.drew {a b : World} (h : Ext a b) : Ext a b.drew := Below.drew h
theorem Ext.alloc {a b : World} (h : Ext a b) (o : Obj) : Ext a (b.alloc o) := Below.alloc h (Below.size h) o
theorem Ext.setCell {a b : World} (h : Ext a b) {p : Addr} (hp : a.heap.size ≤ p.block) (u : Value) : Ext a (b.setCell p u) := Below.setCell h hp u
theorem Ext.cell {w w' : World} (h : Ext w w') {p : Addr} (hp : p.block < w.heap.size) : w'.cell? p = w.cell? p := Below.cell h hp
theorem Ext.frozen {w w' : World} (h : Ext w w') {p : Addr} (hp : p.block < w.heap.size) : w'.frozen? p = w.frozen? p := Below.frozen h hp
theorem Ext.cells {w w' : World} (h : Ext w w') : ∀ b o, b < w.heap.size → w'.cell? ⟨b, o, none⟩ = w.cell? ⟨b, o, none⟩ := fun _ _ hb => h.cell hb
theorem Ext.marks {w w' : World} (h : Ext w w') : ∀ b o, b < w.heap.size → w'.frozen? ⟨b, o, none⟩ = w.frozen? ⟨b, o, none⟩ := fun _ _ hb => h.frozen hb
theorem Ext.of_grown {w w' : World} (h : Below w.heap.size w w') : Ext w w' := h
theorem cell_lt {w : World} {b o : Nat} {v : Value} (h : w.cell? ⟨b, o, none⟩ = some v) : b < w.heap.size := by
  by_cases hb : b < w.heap.size
  · exact hb
  · have : w.heap[b]? = none := by simp; omega
    simp [World.cell?, this] at h
theorem Ext.cell_of {w w' : World} (h : Ext w w') {b o : Nat} {v : Value} (hc : w.cell? ⟨b, o, none⟩ = some v) : w'.cell? ⟨b, o, none⟩ = some v := by
  rw [h.cell (cell_lt hc)]; exact hc

/-- a slice of ints reads as a list -/
def IntsAt (w : World) (v : Value) (xs : List Int) : Prop :=
  ∃ a cap, v = .slice a xs.length cap ∧ ∀ j, j < xs.length → ∃ b off, a = some ⟨b, off, none⟩ ∧ w.cell? ⟨b, off + j, none⟩ = some (.int .i64 (xs.getD j 0))
theorem IntsAt.ext {w w' : World} {v : Value} {xs : List Int} (h : IntsAt w v xs) (he : Ext w w') : IntsAt w' v xs := by
  obtain ⟨a, cap, hv, hc⟩ := h
  refine ⟨a, cap, hv, fun j hj => ?_⟩
  obtain ⟨b, off, ha, hx⟩ := hc j hj
  exact ⟨b, off, ha, he.cell_of hx⟩
theorem ints2 {w : World} {b cap : Nat} {x y : Int} (h0 : w.cell? ⟨b, 0, none⟩ = some (.int .i64 x)) (h1 : w.cell? ⟨b, 1, none⟩ = some (.int .i64 y)) : IntsAt w (.slice (some ⟨b, 0, none⟩) 2 cap) [x, y] := by
  refine ⟨_, cap, rfl, ?_⟩
  rintro (_ | _ | j) hj
  · exact ⟨b, 0, rfl, by simpa using h0⟩
  · exact ⟨b, 0, rfl, by simpa using h1⟩
  · simp at hj; omega
theorem spot_none {w : World} {a : Addr} {v : Value} (h : w.cell? a = some v) : a = ⟨a.block, a.off, none⟩ := by
  obtain ⟨b, o, s⟩ := a
  cases s with
  | none => rfl
  | some s =>
    unfold World.cell? at h
    split at h <;> simp at h
theorem row_at {w : World} {x : Addr} {n : Nat} {f : Nat → Value} (hc : ∀ i, i < n → w.cell? (x.add i) = some (f i)) : ∀ j, j < n → ∃ b off, some x = some (⟨b, off, none⟩ : Addr) ∧ w.cell? ⟨b, off + j, none⟩ = some (f j) := by
  intro j hj
  have h0 := hc 0 (by omega)
  have hx : x.add 0 = x := by simp [Addr.add]
  rw [hx] at h0
  have hs := spot_none h0
  refine ⟨x.block, x.off, congrArg some hs, ?_⟩
  have hj' := hc j hj
  by_cases h : j = 0
  · subst h; rw [hx] at hj'; rw [Nat.add_zero, ← hs]; exact hj'
  · simpa [Addr.add, h] using hj'
theorem intsAt_row {w : World} {x : Addr} {len cap : Nat} {zs : List Int} (hl : len ≤ cap) (hz : zs.length = cap) (hc : ∀ i, i < zs.length → w.cell? (x.add i) = some (.int .i64 (zs.getD i 0))) :
    IntsAt w (.slice (some x) len cap) (zs.take len) := by
  have hlen : (zs.take len).length = len := by simp; omega
  refine ⟨some x, cap, by rw [hlen], ?_⟩
  rw [hlen]
  intro j hj
  obtain ⟨b, off, h1, h2⟩ := row_at hc j (by omega)
  refine ⟨b, off, h1, ?_⟩
  rw [h2]
  simp [hj]
theorem intsAt_nil (w : World) : IntsAt w (.slice none 0 0) [] := ⟨none, 0, rfl, fun j hj => by simp at hj⟩
theorem take_snocD (xs : List Int) (k : Nat) (h : k < xs.length) : xs.take (k + 1) = xs.take k ++ [xs.getD k 0] := by
  rw [List.take_succ_eq_append_getElem h]; simp [List.getD, List.getElem?_eq_getElem h]
end Go.Proofs.Ytdbhndieommkaaa
