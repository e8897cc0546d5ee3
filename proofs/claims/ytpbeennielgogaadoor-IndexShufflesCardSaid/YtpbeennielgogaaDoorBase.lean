/- Small words for worlds that have grown, and for slices that read as lists. No program in sight. -/
import Derived.WalkKit
import Derived.WalkSpells
import Derived.WalkLawsBesides
import Derived.Lib.Hide
import Derived.Laws.IdiomCopy
namespace Go.Proofs.YtpbeennielgogaaDoor
open Go.RowKit
set_option linter.unusedVariables false
set_option linter.unusedSimpArgs false

/-- nothing that was there has turned; blocks may have come -/
def Ext (w w' : World) : Prop := Below w.heap.size w w'
theorem Ext.refl (w : World) : Ext w w := Below.refl _ _
theorem Ext.size {w w' : World} (h : Ext w w') : w.heap.size ≤ w'.heap.size := Below.size h
theorem Ext.trans {a b c : World} (h : Ext a b) (k : Ext b c) : Ext a c := Below.trans h (Below.mono k (Below.size h))
theorem Ext.drew {a b : World} (h : Ext a b) : Ext a b.drew := Below.drew h
theorem Ext.alloc {a b : World} (h : Ext a b) (o : Obj) : Ext a (b.alloc o) := Below.alloc h (Below.size h) o
theorem Ext.setCell {a b : World} (h : Ext a b) {p : Addr} (hp : a.heap.size ≤ p.block) (u : Value) : Ext a (b.setCell p u) := Below.setCell h hp u
theorem Ext.cell {w w' : World} (h : Ext w w') {p : Addr} (hp : p.block < w.heap.size) : w'.cell? p = w.cell? p := Below.cell h hp
theorem Ext.frozen {w w' : World} (h : Ext w w') {p : Addr} (hp : p.block < w.heap.size) : w'.frozen? p = w.frozen? p := Below.frozen h hp
theorem Ext.cells {w w' : World} (h : Ext w w') : ∀ b o, b < w.heap.size → w'.cell? ⟨b, o, none⟩ = w.cell? ⟨b, o, none⟩ := fun _ _ hb => h.cell hb
theorem Ext.marks {w w' : World} (h : Ext w w') : ∀ b o, b < w.heap.size → w'.frozen? ⟨b, o, none⟩ = w.frozen? ⟨b, o, none⟩ := fun _ _ hb => h.frozen hb
theorem Ext.of_grown {w w' : World} (h : Below w.heap.size w w') : Ext w w' := h
theorem cell_lt {w : World} {b o : Nat} {v : Value} (h : w.cell? ⟨b, o, none⟩ = some v) : b < w.heap.size := by
  by_cases hb : b < w.heap.size
  · exact hb
  · have : w.heap[b]? = none := by simp; omega
    simp [World.cell?, this] at h
theorem Ext.cell_of {w w' : World} (h : Ext w w') {b o : Nat} {v : Value} (hc : w.cell? ⟨b, o, none⟩ = some v) : w'.cell? ⟨b, o, none⟩ = some v := by
  rw [h.cell (cell_lt hc)]; exact hc

/-- but for the blocks of S nothing that was there has turned; blocks may have come -/
structure Exc (S : Nat → Prop) (w w' : World) : Prop where
  os : w'.os = w.os
  tape : w'.tape = w.tape
  output : w'.output = w.output
  size : w.heap.size ≤ w'.heap.size
  block : ∀ k, k < w.heap.size → ¬ S k → w'.heap[k]? = w.heap[k]?
theorem Exc.refl (S : Nat → Prop) (w : World) : Exc S w w := ⟨rfl, rfl, rfl, Nat.le_refl _, fun _ _ _ => rfl⟩
theorem Exc.trans {S : Nat → Prop} {a b c : World} (h : Exc S a b) (k : Exc S b c) : Exc S a c :=
  ⟨k.os.trans h.os, k.tape.trans h.tape, k.output.trans h.output, Nat.le_trans h.size k.size, fun i hi hs => (k.block i (Nat.lt_of_lt_of_le hi h.size) hs).trans (h.block i hi hs)⟩
theorem Exc.mono {S T : Nat → Prop} {a b : World} (h : Exc S a b) (hs : ∀ k, k < a.heap.size → S k → T k) : Exc T a b :=
  ⟨h.os, h.tape, h.output, h.size, fun k hk ht => h.block k hk (fun s => ht (hs k hk s))⟩
theorem Ext.exc {a b : World} (h : Ext a b) (S : Nat → Prop) : Exc S a b := ⟨Below.os h, Below.tape h, Below.output h, Below.size h, fun k hk _ => Below.block h k hk⟩
theorem Exc.ext {S : Nat → Prop} {a b : World} (h : Exc S a b) (hs : ∀ k, k < a.heap.size → ¬ S k) : Ext a b := ⟨h.os, h.tape, h.output, h.size, fun k hk => h.block k hk (hs k hk)⟩
theorem Exc.below {B : Nat} {a b : World} (h : Exc (fun k => B ≤ k) a b) (hB : B ≤ a.heap.size) : Below B a b := ⟨h.os, h.tape, h.output, h.size, fun k hk => h.block k (by omega) (by omega)⟩
theorem Exc.of_below {B : Nat} {a b : World} (h : Below B a b) : Exc (fun k => B ≤ k) a b := ⟨h.os, h.tape, h.output, h.size, fun k _ hs => h.block k (by omega)⟩
theorem Exc.drew {S : Nat → Prop} {a b : World} (h : Exc S a b) : Exc S a b.drew := ⟨h.os, h.tape, h.output, h.size, h.block⟩
theorem Exc.alloc {S : Nat → Prop} {a b : World} (h : Exc S a b) (o : Obj) : Exc S a (b.alloc o) :=
  h.trans (((Ext.refl b).alloc o).exc S)
theorem Exc.setCell {S : Nat → Prop} {a b : World} (h : Exc S a b) {p : Addr} (hp : S p.block ∨ a.heap.size ≤ p.block) (u : Value) : Exc S a (b.setCell p u) :=
  ⟨h.os, h.tape, h.output, by have := h.size; simpa [World.setCell] using this, fun k hk hs => by
    rw [Below.heap_setCell _ _ _ _ (fun e => by subst e; rcases hp with hp | hp; exact hs hp; omega)]; exact h.block k hk hs⟩
theorem Exc.cell {S : Nat → Prop} {w w' : World} (h : Exc S w w') {p : Addr} (hp : p.block < w.heap.size) (hs : ¬ S p.block) : w'.cell? p = w.cell? p := World.cell?_of_block (w := w) (h.block p.block hp hs)

/-- a slice of ints reads as a list -/
def IntsAt (w : World) (v : Value) (xs : List Int) : Prop :=
  ∃ a cap, v = .slice a xs.length cap ∧ ∀ j, j < xs.length → ∃ b off, a = some ⟨b, off, none⟩ ∧ w.cell? ⟨b, off + j, none⟩ = some (.int .i64 (xs.getD j 0))
theorem IntsAt.ext {w w' : World} {v : Value} {xs : List Int} (h : IntsAt w v xs) (he : Ext w w') : IntsAt w' v xs := by
  obtain ⟨a, cap, hv, hc⟩ := h
  refine ⟨a, cap, hv, fun j hj => ?_⟩
  obtain ⟨b, off, ha, hx⟩ := hc j hj
  exact ⟨b, off, ha, he.cell_of hx⟩
theorem ints2 {w : World} {b cap : Nat} {x y : Int} (h0 : w.cell? ⟨b, 0, none⟩ = some (.int .i64 x)) (h1 : w.cell? ⟨b, 1, none⟩ = some (.int .i64 y)) : IntsAt w (.slice (some ⟨b, 0, none⟩) 2 cap) [x, y] := by
  refine ⟨_, cap, rfl, ?_⟩
  rintro (_ | _ | j) hj
  · exact ⟨b, 0, rfl, by simpa using h0⟩
  · exact ⟨b, 0, rfl, by simpa using h1⟩
  · simp at hj; omega
theorem spot_none {w : World} {a : Addr} {v : Value} (h : w.cell? a = some v) : a = ⟨a.block, a.off, none⟩ := by
  obtain ⟨b, o, s⟩ := a
  cases s with
  | none => rfl
  | some s =>
    unfold World.cell? at h
    split at h <;> simp at h
theorem row_at {w : World} {x : Addr} {n : Nat} {f : Nat → Value} (hc : ∀ i, i < n → w.cell? (x.add i) = some (f i)) : ∀ j, j < n → ∃ b off, some x = some (⟨b, off, none⟩ : Addr) ∧ w.cell? ⟨b, off + j, none⟩ = some (f j) := by
  intro j hj
  have h0 := hc 0 (by omega)
  have hx : x.add 0 = x := by simp [Addr.add]
  rw [hx] at h0
  have hs := spot_none h0
  refine ⟨x.block, x.off, congrArg some hs, ?_⟩
  have hj' := hc j hj
  by_cases h : j = 0
  · subst h; rw [hx] at hj'; rw [Nat.add_zero, ← hs]; exact hj'
  · simpa [Addr.add, h] using hj'
theorem intsAt_row {w : World} {x : Addr} {len cap : Nat} {zs : List Int} (hl : len ≤ cap) (hz : zs.length = cap) (hc : ∀ i, i < zs.length → w.cell? (x.add i) = some (.int .i64 (zs.getD i 0))) :
    IntsAt w (.slice (some x) len cap) (zs.take len) := by
  have hlen : (zs.take len).length = len := by simp; omega
  refine ⟨some x, cap, by rw [hlen], ?_⟩
  rw [hlen]
  intro j hj
  obtain ⟨b, off, h1, h2⟩ := row_at hc j (by omega)
  refine ⟨b, off, h1, ?_⟩
  rw [h2]
  simp [hj]
theorem intsAt_nil (w : World) : IntsAt w (.slice none 0 0) [] := ⟨none, 0, rfl, fun j hj => by simp at hj⟩
theorem take_snocD (xs : List Int) (k : Nat) (h : k < xs.length) : xs.take (k + 1) = xs.take k ++ [xs.getD k 0] := by
  rw [List.take_succ_eq_append_getElem h]; simp [List.getD, List.getElem?_eq_getElem h]
/-- a block known whole -/
def BlockIs (w : World) (b : Nat) (c : List Value) (T : TypeId) : Prop := w.heap[b]? = some (.cells c.toArray T (0, 0))
theorem BlockIs.cell {w : World} {b : Nat} {c : List Value} {T : TypeId} (h : BlockIs w b c T) (j : Nat) : w.cell? ⟨b, j, none⟩ = c[j]? := by
  unfold BlockIs at h; simp [World.cell?, h]
theorem BlockIs.free {w : World} {b : Nat} {c : List Value} {T : TypeId} (h : BlockIs w b c T) (j : Nat) : w.frozen? ⟨b, j, none⟩ = false := by
  unfold BlockIs at h; simp [World.frozen?, h]
theorem BlockIs.lt {w : World} {b : Nat} {c : List Value} {T : TypeId} (h : BlockIs w b c T) : b < w.heap.size := by
  unfold BlockIs at h
  by_cases hb : b < w.heap.size
  · exact hb
  · simp [Array.getElem?_eq_none (by omega : w.heap.size ≤ b)] at h
theorem BlockIs.set {w : World} {b : Nat} {c : List Value} {T : TypeId} (h : BlockIs w b c T) (j : Nat) (v : Value) : BlockIs (w.setCell ⟨b, j, none⟩ v) b (c.set j v) T := by
  unfold BlockIs at *
  simp [World.setCell, Array.getElem?_modify, h]
theorem BlockIs.same {w w' : World} {b : Nat} {c : List Value} {T : TypeId} (h : BlockIs w b c T) (e : w'.heap[b]? = w.heap[b]?) : BlockIs w' b c T := by unfold BlockIs at *; rw [e]; exact h
theorem BlockIs.ext {w w' : World} {b : Nat} {c : List Value} {T : TypeId} (h : BlockIs w b c T) (e : Ext w w') : BlockIs w' b c T := h.same (Below.block e b h.lt)
theorem BlockIs.exc {S : Nat → Prop} {w w' : World} {b : Nat} {c : List Value} {T : TypeId} (h : BlockIs w b c T) (e : Exc S w w') (hs : ¬ S b) : BlockIs w' b c T := h.same (e.block b h.lt hs)
theorem BlockIs.alloc (w : World) (c : List Value) (T : TypeId) : BlockIs (w.alloc (.cells c.toArray T)) w.heap.size c T := by
  show (w.heap.push _)[w.heap.size]? = _
  simp
theorem BlockIs.other {w : World} {b : Nat} {c : List Value} {T : TypeId} (h : BlockIs w b c T) {p : Addr} (hp : b ≠ p.block) (v : Value) : BlockIs (w.setCell p v) b c T :=
  h.same (Below.heap_setCell _ _ _ _ hp)
/-- a row written from a place on -/
def setL : List Value → Nat → List Value → List Value
  | c, _, [] => c
  | c, o, v :: vs => setL (c.set o v) (o + 1) vs
theorem setL_length : ∀ (vs : List Value) (c : List Value) (o : Nat), (setL c o vs).length = c.length
  | [], _, _ => rfl
  | v :: vs, c, o => by rw [setL, setL_length vs]; simp
theorem setL_before : ∀ (vs : List Value) (c : List Value) (o j : Nat), j < o → (setL c o vs)[j]? = c[j]?
  | [], _, _, _, _ => rfl
  | v :: vs, c, o, j, h => by rw [setL, setL_before vs _ _ _ (by omega), List.getElem?_set_ne (by omega)]
theorem setL_after : ∀ (vs : List Value) (c : List Value) (o j : Nat), o + vs.length ≤ j → (setL c o vs)[j]? = c[j]?
  | [], _, _, _, _ => rfl
  | v :: vs, c, o, j, h => by rw [List.length_cons] at h; rw [setL, setL_after vs _ _ _ (by omega), List.getElem?_set_ne (by omega)]
theorem setL_in : ∀ (vs : List Value) (c : List Value) (o j : Nat), o + vs.length ≤ c.length → j < vs.length → (setL c o vs)[o + j]? = vs[j]?
  | [], _, _, _, _, h => by simp at h
  | v :: vs, c, o, j, hl, h => by
    rw [List.length_cons] at hl h
    rw [setL]
    cases j with
    | zero => rw [setL_before vs _ _ _ (by omega)]; simp [List.getElem?_set]; omega
    | succ j => rw [show o + (j + 1) = o + 1 + j by omega, setL_in vs _ (o + 1) j (by simp; omega) (by omega)]; simp
theorem BlockIs.setCells {b : Nat} {T : TypeId} : ∀ (vs : List Value) (o : Nat) {w : World} {c : List Value}, BlockIs w b c T → BlockIs (w.setCells b o vs) b (setL c o vs) T
  | [], _, _, _, h => h
  | v :: vs, o, w, c, h => BlockIs.setCells vs (o + 1) (h.set o v)
theorem Exc.setCells {S : Nat → Prop} {a : World} {b : Nat} (hb : S b ∨ a.heap.size ≤ b) : ∀ (vs : List Value) (o : Nat) (x : World), Exc S a x → Exc S a (x.setCells b o vs)
  | [], _, _, h => h
  | v :: vs, o, _, h => Exc.setCells hb vs (o + 1) _ (h.setCell (p := ⟨b, o, none⟩) hb v)
end Go.Proofs.YtpbeennielgogaaDoor
