/- Base, Base2, Base3, Sep, joined. -/
import Derived.WalkKit
import Derived.WalkSpells
import Derived.WalkLawsBesides
import Derived.Lib.Hide
import Derived.Laws.IdiomCopy
import Derived.Lib.SliceRun
set_option linter.unusedSimpArgs false
set_option linter.unusedVariables false
set_option maxRecDepth 100000
set_option maxHeartbeats 16000000
section
namespace Go.Proofs.YtpebabaigakagaaGreatDoor
open Go.RowKit
def Ext (w w' : World) : Prop := Below w.heap.size w w'
theorem Ext.refl (w : World) : Ext w w := Below.refl _ _
theorem Ext.size {w w' : World} (h : Ext w w') : w.heap.size ≤ w'.heap.size := Below.size h
theorem Ext.trans {a b c : World} (h : Ext a b) (k : Ext b c) : Ext a c := Below.trans h (Below.mono k (Below.size h))
theorem Ext.drew {a b : World} (h : Ext a b) : Ext a b.drew := Below.drew h
theorem Ext.alloc {a b : World} (h : Ext a b) (o : Obj) : Ext a (b.alloc o) := Below.alloc h (Below.size h) o
theorem Ext.setCell {a b : World} (h : Ext a b) {p : Addr} (hp : a.heap.size ≤ p.block) (u : Value) : Ext a (b.setCell p u) := Below.setCell h hp u
theorem Ext.cell {w w' : World} (h : Ext w w') {p : Addr} (hp : p.block < w.heap.size) : w'.cell? p = w.cell? p := Below.cell h hp
theorem Ext.frozen {w w' : World} (h : Ext w w') {p : Addr} (hp : p.block < w.heap.size) : w'.frozen? p = w.frozen? p := Below.frozen h hp
theorem Ext.cells {w w' : World} (h : Ext w w') : ∀ b o, b < w.heap.size → w'.cell? ⟨b, o, none⟩ = w.cell? ⟨b, o, none⟩ := fun _ _ hb => h.cell hb
theorem cell_lt {w : World} {b o : Nat} {v : Value} (h : w.cell? ⟨b, o, none⟩ = some v) : b < w.heap.size := by
 by_cases hb : b < w.heap.size
 · exact hb
 · have : w.heap[b]? = none := by simp; omega
   simp [World.cell?, this] at h
theorem Ext.cell_of {w w' : World} (h : Ext w w') {b o : Nat} {v : Value} (hc : w.cell? ⟨b, o, none⟩ = some v) : w'.cell? ⟨b, o, none⟩ = some v := by
 rw [h.cell (cell_lt hc)]; exact hc
structure Exc (S : Nat → Prop) (w w' : World) : Prop where
 os : w'.os = w.os
 tape : w'.tape = w.tape
 output : w'.output = w.output
 size : w.heap.size ≤ w'.heap.size
 block : ∀ k, k < w.heap.size → ¬ S k → w'.heap[k]? = w.heap[k]?
theorem Exc.refl (S : Nat → Prop) (w : World) : Exc S w w := ⟨rfl, rfl, rfl, Nat.le_refl _, fun _ _ _ => rfl⟩
theorem Exc.trans {S : Nat → Prop} {a b c : World} (h : Exc S a b) (k : Exc S b c) : Exc S a c :=
 ⟨k.os.trans h.os, k.tape.trans h.tape, k.output.trans h.output, Nat.le_trans h.size k.size, fun i hi hs => (k.block i (Nat.lt_of_lt_of_le hi h.size) hs).trans (h.block i hi hs)⟩
theorem Exc.mono {S T : Nat → Prop} {a b : World} (h : Exc S a b) (hs : ∀ k, k < a.heap.size → S k → T k) : Exc T a b :=
 ⟨h.os, h.tape, h.output, h.size, fun k hk ht => h.block k hk (fun s => ht (hs k hk s))⟩
theorem Ext.exc {a b : World} (h : Ext a b) (S : Nat → Prop) : Exc S a b := ⟨Below.os h, Below.tape h, Below.output h, Below.size h, fun k hk _ => Below.block h k hk⟩
theorem Exc.ext {S : Nat → Prop} {a b : World} (h : Exc S a b) (hs : ∀ k, k < a.heap.size → ¬ S k) : Ext a b := ⟨h.os, h.tape, h.output, h.size, fun k hk => h.block k hk (hs k hk)⟩
theorem Exc.drew {S : Nat → Prop} {a b : World} (h : Exc S a b) : Exc S a b.drew := ⟨h.os, h.tape, h.output, h.size, h.block⟩
theorem Exc.alloc {S : Nat → Prop} {a b : World} (h : Exc S a b) (o : Obj) : Exc S a (b.alloc o) :=
 h.trans (((Ext.refl b).alloc o).exc S)
theorem Exc.setCell {S : Nat → Prop} {a b : World} (h : Exc S a b) {p : Addr} (hp : S p.block ∨ a.heap.size ≤ p.block) (u : Value) : Exc S a (b.setCell p u) :=
 ⟨h.os, h.tape, h.output, by have := h.size; simpa [World.setCell] using this, fun k hk hs => by
   rw [Below.heap_setCell _ _ _ _ (fun e => by subst e; rcases hp with hp | hp; exact hs hp; omega)]; exact h.block k hk hs⟩
theorem Exc.cell {S : Nat → Prop} {w w' : World} (h : Exc S w w') {p : Addr} (hp : p.block < w.heap.size) (hs : ¬ S p.block) : w'.cell? p = w.cell? p := World.cell?_of_block (w := w) (h.block p.block hp hs)
def IntsAt (w : World) (v : Value) (xs : List Int) : Prop :=
 ∃ a cap, v = .slice a xs.length cap ∧ ∀ j, j < xs.length → ∃ b off, a = some ⟨b, off, none⟩ ∧ w.cell? ⟨b, off + j, none⟩ = some (.int .i64 (xs.getD j 0))
theorem IntsAt.ext {w w' : World} {v : Value} {xs : List Int} (h : IntsAt w v xs) (he : Ext w w') : IntsAt w' v xs := by
 obtain ⟨a, cap, hv, hc⟩ := h
 refine ⟨a, cap, hv, fun j hj => ?_⟩
 obtain ⟨b, off, ha, hx⟩ := hc j hj
 exact ⟨b, off, ha, he.cell_of hx⟩
theorem spot_none {w : World} {a : Addr} {v : Value} (h : w.cell? a = some v) : a = ⟨a.block, a.off, none⟩ := by
 obtain ⟨b, o, s⟩ := a
 cases s with
 | none => rfl
 | some s =>
  unfold World.cell? at h
  split at h <;> simp at h
def BlockIs (w : World) (b : Nat) (c : List Value) (T : TypeId) : Prop := w.heap[b]? = some (.cells c.toArray T (0, 0))
theorem BlockIs.cell {w : World} {b : Nat} {c : List Value} {T : TypeId} (h : BlockIs w b c T) (j : Nat) : w.cell? ⟨b, j, none⟩ = c[j]? := by
 unfold BlockIs at h; simp [World.cell?, h]
theorem BlockIs.free {w : World} {b : Nat} {c : List Value} {T : TypeId} (h : BlockIs w b c T) (j : Nat) : w.frozen? ⟨b, j, none⟩ = false := by
 unfold BlockIs at h; simp [World.frozen?, h]
theorem BlockIs.lt {w : World} {b : Nat} {c : List Value} {T : TypeId} (h : BlockIs w b c T) : b < w.heap.size := by
 unfold BlockIs at h
 by_cases hb : b < w.heap.size
 · exact hb
 · simp [Array.getElem?_eq_none (by omega : w.heap.size ≤ b)] at h
theorem BlockIs.set {w : World} {b : Nat} {c : List Value} {T : TypeId} (h : BlockIs w b c T) (j : Nat) (v : Value) : BlockIs (w.setCell ⟨b, j, none⟩ v) b (c.set j v) T := by
 unfold BlockIs at *
 simp [World.setCell, Array.getElem?_modify, h]
theorem BlockIs.same {w w' : World} {b : Nat} {c : List Value} {T : TypeId} (h : BlockIs w b c T) (e : w'.heap[b]? = w.heap[b]?) : BlockIs w' b c T := by unfold BlockIs at *; rw [e]; exact h
theorem BlockIs.ext {w w' : World} {b : Nat} {c : List Value} {T : TypeId} (h : BlockIs w b c T) (e : Ext w w') : BlockIs w' b c T := h.same (Below.block e b h.lt)
theorem BlockIs.exc {S : Nat → Prop} {w w' : World} {b : Nat} {c : List Value} {T : TypeId} (h : BlockIs w b c T) (e : Exc S w w') (hs : ¬ S b) : BlockIs w' b c T := h.same (e.block b h.lt hs)
theorem BlockIs.alloc (w : World) (c : List Value) (T : TypeId) : BlockIs (w.alloc (.cells c.toArray T)) w.heap.size c T := by
 show (w.heap.push _)[w.heap.size]? = _
 simp
theorem BlockIs.other {w : World} {b : Nat} {c : List Value} {T : TypeId} (h : BlockIs w b c T) {p : Addr} (hp : b ≠ p.block) (v : Value) : BlockIs (w.setCell p v) b c T :=
 h.same (Below.heap_setCell _ _ _ _ hp)
def setL : List Value → Nat → List Value → List Value
 | c, _, [] => c
 | c, o, v :: vs => setL (c.set o v) (o + 1) vs
theorem setL_length : ∀ (vs : List Value) (c : List Value) (o : Nat), (setL c o vs).length = c.length
 | [], _, _ => rfl
 | v :: vs, c, o => by rw [setL, setL_length vs]; simp
theorem setL_before : ∀ (vs : List Value) (c : List Value) (o j : Nat), j < o → (setL c o vs)[j]? = c[j]?
 | [], _, _, _, _ => rfl
 | v :: vs, c, o, j, h => by rw [setL, setL_before vs _ _ _ (by omega), List.getElem?_set_ne (by omega)]
theorem setL_in : ∀ (vs : List Value) (c : List Value) (o j : Nat), o + vs.length ≤ c.length → j < vs.length → (setL c o vs)[o + j]? = vs[j]?
 | [], _, _, _, _, h => by simp at h
 | v :: vs, c, o, j, hl, h => by
  rw [List.length_cons] at hl h
  rw [setL]
  cases j with
  | zero => rw [setL_before vs _ _ _ (by omega)]; simp [List.getElem?_set]; omega
  | succ j => rw [show o + (j + 1) = o + 1 + j by omega, setL_in vs _ (o + 1) j (by simp; omega) (by omega)]; simp
theorem BlockIs.setCells {b : Nat} {T : TypeId} : ∀ (vs : List Value) (o : Nat) {w : World} {c : List Value}, BlockIs w b c T → BlockIs (w.setCells b o vs) b (setL c o vs) T
 | [], _, _, _, h => h
 | v :: vs, o, w, c, h => BlockIs.setCells vs (o + 1) (h.set o v)
theorem Exc.setCells {S : Nat → Prop} {a : World} {b : Nat} (hb : S b ∨ a.heap.size ≤ b) : ∀ (vs : List Value) (o : Nat) (x : World), Exc S a x → Exc S a (x.setCells b o vs)
 | [], _, _, h => h
 | v :: vs, o, _, h => Exc.setCells hb vs (o + 1) _ (h.setCell (p := ⟨b, o, none⟩) hb v)
end Go.Proofs.YtpebabaigakagaaGreatDoor
end
section
namespace Go.Proofs.YtpebabaigakagaaGreatDoor
open Go.RowKit
theorem Ext.drewN {a b : World} (h : Ext a b) (n : Nat) : Ext a (b.drewN n) := ⟨h.os, h.tape, h.output, h.size, h.block⟩
theorem Exc.drewN {S : Nat → Prop} {a b : World} (h : Exc S a b) (n : Nat) : Exc S a (b.drewN n) := ⟨h.os, h.tape, h.output, h.size, h.block⟩
theorem Ext.grown {a w w' : World} {row : Option Nat} (h : Ext a w) (hg : w.grownBy w' row) (hr : ∀ k, row = some k → a.heap.size ≤ k) : Ext a w' := Below.grown h hg (Below.size h) hr
theorem BlockIs.new {w : World} {c : List Value} {T : TypeId} {b : Nat} (hb : b = w.heap.size) : BlockIs (w.alloc (.cells c.toArray T)) b c T := by subst hb; exact BlockIs.alloc w c T
end Go.Proofs.YtpebabaigakagaaGreatDoor
end
section
namespace Go.Proofs.YtpebabaigakagaaGreatDoor
open Go.RowKit
theorem own_of {w : World} {T : TypeId} {size : Nat} {g n cap : Nat} {c : List Value} (hb : BlockIs w g c T) (hl : c.length = cap * size) (hn : n ≤ cap) (hm : cap ≤ maxLen) :
 w.ownsRow 0 T size (.slice (some ⟨g, 0, none⟩) n cap) n (c.take (n * size)) := by
 refine ⟨?_, .inr ⟨g, cap, c.toArray, rfl, Nat.zero_le _, hb, hn, hm, by simpa using hl, by simp⟩⟩
 rw [List.length_take, hl]
 have : n * size ≤ cap * size := Nat.mul_le_mul_right _ hn
 omega
end Go.Proofs.YtpebabaigakagaaGreatDoor
end
section
namespace Go.Proofs.YtpebabaigakagaaGreatDoor
open Go.RowKit
structure Part where
 holds : World → Prop
 foot : Nat → Prop
 lt : ∀ w, holds w → ∀ b, foot b → b < w.heap.size
 stay : ∀ w w', holds w → (∀ b, foot b → w'.heap[b]? = w.heap[b]?) → holds w'
 facts : World → Prop := fun _ => True
 say : ∀ w, holds w → facts w := by intros; trivial
theorem lt_of_some {w : World} {b : Nat} {o : Obj} (h : w.heap[b]? = some o) : b < w.heap.size := by
 rcases Nat.lt_or_ge b w.heap.size with q | q
 · exact q
 · rw [Array.getElem?_eq_none q] at h; cases h
namespace Part
def cells (b : Nat) (c : List Value) (T : TypeId) : Part where
 holds w := BlockIs w b c T
 foot k := k = b
 lt := fun _ h _ e => by subst e; exact h.lt
 stay := fun _ _ h e => h.same (e b rfl)
 facts w := (∀ j, w.cell? ⟨b, j, none⟩ = c[j]?) ∧ (∀ j, w.frozen? ⟨b, j, none⟩ = false) ∧ b < w.heap.size
 say := fun _ h => ⟨h.cell, h.free, h.lt⟩
def obj (b : Nat) (o : Obj) : Part where
 holds w := w.heap[b]? = some o
 foot k := k = b
 lt := fun _ h _ e => by subst e; exact lt_of_some h
 stay := fun _ _ h e => (e b rfl).trans h
def old (W : World) : Part where
 holds w := ∀ b, b < W.heap.size → w.heap[b]? = W.heap[b]?
 foot k := k < W.heap.size
 lt := fun w h b hb => by
  have := h b hb
  rw [Array.getElem?_eq_getElem hb] at this
  exact lt_of_some this
 stay := fun _ _ h e b hb => (e b hb).trans (h b hb)
def fact (p : Prop) : Part where
 holds _ := p
 foot _ := False
 lt := fun _ _ _ e => e.elim
 stay := fun _ _ h _ => h
end Part
def Facts : List Part → World → Prop
 | [], _ => True
 | A :: L, w => A.facts w ∧ Facts L w
theorem facts_nil (w : World) : Facts [] w = True := rfl
theorem facts_cons (A : Part) (L : List Part) (w : World) : Facts (A :: L) w = (A.facts w ∧ Facts L w) := rfl
theorem facts_cells (b : Nat) (c : List Value) (T : TypeId) (w : World) : (Part.cells b c T).facts w = ((∀ j, w.cell? ⟨b, j, none⟩ = c[j]?) ∧ (∀ j, w.frozen? ⟨b, j, none⟩ = false) ∧ b < w.heap.size) := rfl
theorem facts_old (W w : World) : (Part.old W).facts w = True := rfl
theorem facts_fact (p : Prop) (w : World) : (Part.fact p).facts w = True := rfl
theorem facts_obj (b : Nat) (o : Obj) (w : World) : (Part.obj b o).facts w = True := rfl
def Sep : List Part → World → Prop
 | [], _ => True
 | A :: L, w => A.holds w ∧ Sep L w ∧ ∀ B ∈ L, ∀ b, A.foot b → ¬ B.foot b
namespace Sep
theorem get : ∀ {L : List Part} {w : World}, Sep L w → ∀ {A : Part}, A ∈ L → A.holds w
 | B :: L, w, h, A, hA => by
  rcases List.mem_cons.1 hA with rfl | hA
  · exact h.1
  · exact get h.2.1 hA
theorem at_ {L : List Part} {w : World} (h : Sep L w) (i : Nat) {A : Part} (hA : L[i]? = some A) : A.holds w := h.get (List.mem_of_getElem? hA)
theorem apart : ∀ {L : List Part} {w : World}, Sep L w → ∀ (i j : Nat) {A B : Part}, L[i]? = some A → L[j]? = some B → i ≠ j → ∀ b, A.foot b → ¬ B.foot b
 | C :: L, w, h, 0, 0, A, B, _, _, hne => absurd rfl hne
 | C :: L, w, h, 0, j + 1, A, B, hA, hB, _ => by
  simp at hA hB; subst hA
  exact h.2.2 B (List.mem_of_getElem? hB)
 | C :: L, w, h, i + 1, 0, A, B, hA, hB, _ => by
  simp at hA hB; subst hB
  exact fun b ha hb => h.2.2 A (List.mem_of_getElem? hA) b hb ha
 | C :: L, w, h, i + 1, j + 1, A, B, hA, hB, hne => by
  simp at hA hB
  exact apart h.2.1 i j hA hB (by omega)
theorem same : ∀ {L : List Part} {w w' : World}, Sep L w → (∀ b : Nat, (∃ A ∈ L, A.foot b) → w'.heap[b]? = w.heap[b]?) → Sep L w'
 | [], _, _, _, _ => trivial
 | A :: L, w, w', h, e => ⟨A.stay w w' h.1 (fun b hb => e b ⟨A, by simp, hb⟩), same h.2.1 (fun b ⟨B, hB, hb⟩ => e b ⟨B, by simp [hB], hb⟩), h.2.2⟩
theorem lt {L : List Part} {w : World} (h : Sep L w) {A : Part} (hA : A ∈ L) {b : Nat} (hb : A.foot b) : b < w.heap.size := A.lt w (h.get hA) b hb
theorem sub : ∀ {L L' : List Part} {w : World}, Sep L w → L'.Sublist L → Sep L' w
 | _, _, _, _, .slnil => trivial
 | _, _, _, h, .cons _ s => sub h.2.1 s
 | _, _, _, h, .cons_cons _ s => ⟨h.1, sub h.2.1 s, fun B hB => h.2.2 B (s.subset hB)⟩
theorem perm {L L' : List Part} (p : L.Perm L') {w : World} : Sep L w → Sep L' w := by
 induction p with
 | nil => exact fun h => h
 | cons A p ih => exact fun h => ⟨h.1, ih h.2.1, fun B hB => h.2.2 B (p.mem_iff.2 hB)⟩
 | swap A B L => exact fun h => ⟨h.2.1.1, ⟨h.1, h.2.1.2.1, fun C hC => h.2.2 C (by simp [hC])⟩, fun C hC b ha hc => by
  rcases List.mem_cons.1 hC with rfl | hC
  · exact h.2.2 A (by simp) b hc ha
  · exact h.2.1.2.2 C hC b ha hc⟩
 | trans _ _ i j => exact fun h => j (i h)
theorem facts : ∀ {L : List Part} {w : World}, Sep L w → Facts L w
 | [], _, _ => trivial
 | A :: L, w, h => ⟨A.say w h.1, facts h.2.1⟩
theorem turn : ∀ {L : List Part} {w w' : World}, Sep L w → ∀ (i : Nat) {A : Part}, L[i]? = some A → ∀ (A' : Part), A'.holds w' → (∀ b, A'.foot b → A.foot b ∨ w.heap.size ≤ b) →
 (∀ b : Nat, b < w.heap.size → ¬ A.foot b → w'.heap[b]? = w.heap[b]?) → Sep (L.set i A') w'
 | C :: L, w, w', h, 0, A, hA, A', h', hf, hx => by
  simp at hA; subst hA
  exact ⟨h', same h.2.1 (fun b ⟨B, hB, hb⟩ => hx b (h.2.1.lt hB hb) (fun hc => h.2.2 B hB b hc hb)), fun B hB b hb hb' => by
   rcases hf b hb with q | q
   · exact h.2.2 B hB b q hb'
   · have := h.2.1.lt hB hb'; omega⟩
 | C :: L, w, w', h, i + 1, A, hA, A', h', hf, hx => by
  simp at hA
  have hC : C.holds w' := C.stay w w' h.1 (fun b hb => hx b (C.lt w h.1 b hb) (fun ha => h.2.2 A (List.mem_of_getElem? hA) b hb ha))
  refine ⟨hC, turn h.2.1 i hA A' h' hf hx, fun B hB b hb hb' => ?_⟩
  rcases List.mem_or_eq_of_mem_set hB with hB | hB
  · exact h.2.2 B hB b hb hb'
  · subst hB
    rcases hf b hb' with q | q
    · exact h.2.2 A (List.mem_of_getElem? hA) b hb q
    · have := C.lt w h.1 b hb; omega
theorem new {L : List Part} {w w' : World} (h : Sep L w) (A : Part) (hA : A.holds w') (hf : ∀ b, A.foot b → w.heap.size ≤ b) (hx : ∀ b : Nat, b < w.heap.size → w'.heap[b]? = w.heap[b]?) : Sep (A :: L) w' :=
 ⟨hA, h.same (fun b ⟨B, hB, hb⟩ => hx b (h.lt hB hb)), fun B hB b hb hb' => by have := hf b hb; have := h.lt hB hb'; omega⟩
theorem join {A B C : Part} {L : List Part} {w : World} (h : Sep (A :: B :: L) w) (hC : C.holds w) (hf : ∀ b, C.foot b → A.foot b ∨ B.foot b) : Sep (C :: L) w :=
 ⟨hC, h.2.1.2.1, fun D hD b hb => by
   rcases hf b hb with q | q
   · exact h.2.2 D (by simp [hD]) b q
   · exact h.2.1.2.2 D hD b q⟩
theorem alloc {L : List Part} {w : World} (h : Sep L w) (c : List Value) (T : TypeId) : Sep (Part.cells w.heap.size c T :: L) (w.alloc (.cells c.toArray T)) :=
 h.new _ (BlockIs.alloc w c T) (fun b e => by cases e; exact Nat.le_refl _) (fun b hb => Below.heap_alloc w _ b hb)
theorem allocObj {L : List Part} {w : World} (h : Sep L w) (o : Obj) : Sep (Part.obj w.heap.size o :: L) (w.alloc o) :=
 h.new _ (heap_alloc_new w o) (fun b e => by cases e; exact Nat.le_refl _) (fun b hb => Below.heap_alloc w _ b hb)
theorem store {L : List Part} {w : World} (h : Sep L w) (i : Nat) {b : Nat} {c : List Value} {T : TypeId} (hA : L[i]? = some (Part.cells b c T)) (j : Nat) (v : Value) :
 Sep (L.set i (Part.cells b (c.set j v) T)) (w.setCell ⟨b, j, none⟩ v) := by
 have hb : BlockIs w b c T := h.at_ i hA
 exact h.turn i hA _ (hb.set j v) (fun _ e => .inl e) (fun k _ hk => Below.heap_setCell _ _ _ _ hk)
end Sep
def Part.all (L : List Part) : Part where
 holds w := Sep L w
 foot b := ∃ A ∈ L, A.foot b
 lt := fun _ h _ ⟨_, hA, hb⟩ => h.lt hA hb
 stay := fun _ _ h e => h.same e
 facts w := Facts L w
 say := fun _ h => h.facts
theorem Sep.apart2 : ∀ {K F : List Part} {w : World}, Sep (K ++ F) w → Sep K w ∧ Sep F w ∧ ∀ A ∈ K, ∀ B ∈ F, ∀ b, A.foot b → ¬ B.foot b
 | [], _, _, h => ⟨trivial, h, nofun⟩
 | A :: K, F, w, h => by
  obtain ⟨i0, i1, i2⟩ := apart2 h.2.1
  refine ⟨⟨h.1, i0, fun B hB => h.2.2 B (by simp [hB])⟩, i1, fun C hC B hB b hc hb => ?_⟩
  rcases List.mem_cons.1 hC with rfl | hC
  · exact h.2.2 B (by simp [hB]) b hc hb
  · exact i2 C hC B hB b hc hb
theorem Sep.join2 : ∀ {K F : List Part} {w : World}, Sep K w → Sep F w → (∀ A ∈ K, ∀ B ∈ F, ∀ b, A.foot b → ¬ B.foot b) → Sep (K ++ F) w
 | [], _, _, _, h, _ => h
 | A :: K, F, w, h1, h2, h3 => by
  refine ⟨h1.1, join2 h1.2.1 h2 (fun C hC => h3 C (by simp [hC])), fun B hB => ?_⟩
  rcases List.mem_append.1 hB with hB | hB
  · exact h1.2.2 B hB
  · exact h3 A (by simp) B hB
theorem Sep.unfold {K F : List Part} {w : World} (h : Sep (Part.all K :: F) w) : Sep (K ++ F) w :=
 h.1.join2 h.2.1 (fun A hA B hB b ha hb => h.2.2 B hB b ⟨A, hA, ha⟩ hb)
theorem Sep.fold {K F : List Part} {w : World} (h : Sep (K ++ F) w) : Sep (Part.all K :: F) w :=
 ⟨h.apart2.1, h.apart2.2.1, fun B hB b ⟨A, hA, ha⟩ hb => h.apart2.2.2 A hA B hB b ha hb⟩
inductive Sel (A : Part) : List Part → List Part → Prop
 | here {L : List Part} : Sel A (A :: L) L
 | there {B : Part} {L L' : List Part} : Sel A L L' → Sel A (B :: L) (B :: L')
theorem Sel.perm {A : Part} {L F : List Part} (s : Sel A L F) : L.Perm (A :: F) := by
 induction s with
 | here => exact .refl _
 | there _ ih => exact (ih.cons _).trans (.swap _ _ _)
theorem Sel.mem {A : Part} {L F : List Part} (s : Sel A L F) : A ∈ L := s.perm.mem_iff.2 (by simp)
def footL (L : List Part) (b : Nat) : Prop := ∃ A ∈ L, A.foot b
theorem Exc.trans' {S T : Nat → Prop} {a b c : World} (h : Exc S a b) (k : Exc T b c) (hs : ∀ i, i < b.heap.size → T i → S i ∨ a.heap.size ≤ i) : Exc S a c :=
 ⟨k.os.trans h.os, k.tape.trans h.tape, k.output.trans h.output, Nat.le_trans h.size k.size, fun i hi hn => (k.block i (Nat.lt_of_lt_of_le hi h.size) (fun t => by
   rcases hs i (Nat.lt_of_lt_of_le hi h.size) t with q | q
   · exact hn q
   · omega)).trans (h.block i hi hn)⟩
structure At (L0 : List Part) (w0 : World) (L : List Part) (w : World) : Prop where
 sep : Sep L w
 foot : ∀ b, footL L b → footL L0 b ∨ w0.heap.size ≤ b
 exc : Exc (footL L0) w0 w
namespace At
variable {L0 : List Part} {w0 w w' : World} {L : List Part}
theorem start {w0 : World} {L0 : List Part} (h : Sep L0 w0) : At L0 w0 L0 w0 := ⟨h, fun _ h => .inl h, Exc.refl _ w0⟩
theorem get (h : At L0 w0 L w) {A : Part} {F : List Part} (s : Sel A L F) : A.holds w := h.sep.get s.mem
theorem facts (h : At L0 w0 L w) : Facts L w := h.sep.facts
theorem size (h : At L0 w0 L w) : w0.heap.size ≤ w.heap.size := h.exc.size
theorem drewN (h : At L0 w0 L w) (n : Nat) : At L0 w0 L (w.drewN n) := ⟨h.sep.same (fun _ _ => rfl), h.foot, h.exc.drewN n⟩
theorem drew (h : At L0 w0 L w) : At L0 w0 L w.drew := ⟨h.sep.same (fun _ _ => rfl), h.foot, h.exc.drew⟩
theorem perm (h : At L0 w0 L w) {L' : List Part} (p : L.Perm L') : At L0 w0 L' w := ⟨h.sep.perm p, fun b ⟨A, hA, hb⟩ => h.foot b ⟨A, p.mem_iff.2 hA, hb⟩, h.exc⟩
theorem sub (h : At L0 w0 L w) {L' : List Part} (p : L'.Sublist L) : At L0 w0 L' w := ⟨h.sep.sub p, fun b ⟨A, hA, hb⟩ => h.foot b ⟨A, p.subset hA, hb⟩, h.exc⟩
theorem drop (h : At L0 w0 L w) {A : Part} {F : List Part} (s : Sel A L F) : At L0 w0 F w := (h.perm s.perm).sub (List.sublist_cons_self _ _)
theorem take (h : At L0 w0 L w) {A : Part} {F : List Part} (s : Sel A L F) : At L0 w0 (A :: F) w := h.perm s.perm
theorem ext (h : At L0 w0 L w) (he : Ext w w') : At L0 w0 L w' := ⟨h.sep.same (fun b ⟨_, hA, hb⟩ => Below.block he b (h.sep.lt hA hb)), h.foot, h.exc.trans (he.exc _)⟩
theorem new (h : At L0 w0 L w) (he : Ext w w') (A : Part) (hA : A.holds w') (hf : ∀ b, A.foot b → w.heap.size ≤ b) : At L0 w0 (A :: L) w' :=
 ⟨h.sep.new A hA hf (fun b hb => Below.block he b hb), fun b ⟨B, hB, hb⟩ => by
   rcases List.mem_cons.1 hB with rfl | hB
   · exact .inr (Nat.le_trans h.size (hf b hb))
   · exact h.foot b ⟨B, hB, hb⟩, h.exc.trans (he.exc _)⟩
theorem alloc (h : At L0 w0 L w) (c : List Value) (T : TypeId) : At L0 w0 (Part.cells w.heap.size c T :: L) (w.alloc (.cells c.toArray T)) :=
 h.new ((Ext.refl w).alloc _) _ (BlockIs.alloc w c T) (fun _ e => by cases e; exact Nat.le_refl _)
theorem allocObj (h : At L0 w0 L w) (o : Obj) : At L0 w0 (Part.obj w.heap.size o :: L) (w.alloc o) :=
 h.new ((Ext.refl w).alloc _) _ (heap_alloc_new w o) (fun _ e => by cases e; exact Nat.le_refl _)
theorem turn (h : At L0 w0 L w) {A : Part} {F : List Part} (s : Sel A L F) (A' : Part) (hA' : A'.holds w') (hf : ∀ b, A'.foot b → A.foot b ∨ w.heap.size ≤ b) (hx : Exc A.foot w w') : At L0 w0 (A' :: F) w' := by
 have h1 := h.take s
 refine ⟨h1.sep.turn 0 rfl A' hA' hf (fun b hb hn => hx.block b hb hn), fun b ⟨B, hB, hb⟩ => ?_, h1.exc.trans' hx (fun b _ hb => h1.foot b ⟨A, by simp, hb⟩)⟩
 rcases List.mem_cons.1 hB with rfl | hB
 · rcases hf b hb with q | q
   · exact h1.foot b ⟨A, by simp, q⟩
   · exact .inr (Nat.le_trans h.size q)
 · exact h1.foot b ⟨B, by simp [hB], hb⟩
theorem store (h : At L0 w0 L w) {b : Nat} {c : List Value} {T : TypeId} {F : List Part} (s : Sel (Part.cells b c T) L F) (j : Nat) (v : Value) :
 At L0 w0 (Part.cells b (c.set j v) T :: F) (w.setCell ⟨b, j, none⟩ v) :=
 h.turn s _ (BlockIs.set (h.get s) j v) (fun _ e => .inl e) (Exc.setCell (S := fun k => k = b) (p := ⟨b, j, none⟩) (Exc.refl _ _) (.inl rfl) v)
theorem stores (h : At L0 w0 L w) {b : Nat} {c : List Value} {T : TypeId} {F : List Part} (s : Sel (Part.cells b c T) L F) (j : Nat) (vs : List Value) :
 At L0 w0 (Part.cells b (setL c j vs) T :: F) (w.setCells b j vs) :=
 h.turn s _ (BlockIs.setCells vs j (h.get s)) (fun _ e => .inl e) (Exc.setCells (S := fun k => k = b) (b := b) (.inl rfl) _ _ _ (Exc.refl _ _))
theorem frame {K K' F : List Part} (h : At L0 w0 (K ++ F) w) (t : At K w K' w') : At L0 w0 (K' ++ F) w' := by
 have hK : ∀ b, footL K b → footL (K ++ F) b := fun b ⟨A, hA, hb⟩ => ⟨A, by simp [hA], hb⟩
 have apart : ∀ {K F : List Part} {w : World}, Sep (K ++ F) w → Sep F w ∧ ∀ A ∈ K, ∀ B ∈ F, ∀ b, A.foot b → ¬ B.foot b := by
  intro K
  induction K with
  | nil => exact fun h => ⟨h, nofun⟩
  | cons A K ih =>
   intro F w h
   obtain ⟨i1, i2⟩ := ih h.2.1
   refine ⟨i1, fun C hC B hB b hc hb => ?_⟩
   rcases List.mem_cons.1 hC with rfl | hC
   · exact h.2.2 B (by simp [hB]) b hc hb
   · exact i2 C hC B hB b hc hb
 have join : ∀ {K F : List Part} {w : World}, Sep K w → Sep F w → (∀ A ∈ K, ∀ B ∈ F, ∀ b, A.foot b → ¬ B.foot b) → Sep (K ++ F) w := by
  intro K
  induction K with
  | nil => exact fun _ h _ => h
  | cons A K ih =>
   intro F w h1 h2 h3
   refine ⟨h1.1, ih h1.2.1 h2 (fun C hC => h3 C (by simp [hC])), fun B hB => ?_⟩
   rcases List.mem_append.1 hB with hB | hB
   · exact h1.2.2 B hB
   · exact h3 A (by simp) B hB
 obtain ⟨hF, hap⟩ := apart h.sep
 have hF' : Sep F w' := hF.same (fun b ⟨B, hB, hb⟩ => t.exc.block b (hF.lt hB hb) (fun ⟨A, hA, ha⟩ => hap A hA B hB b ha hb))
 refine ⟨join t.sep hF' (fun A hA B hB b ha hb => ?_), fun b ⟨B, hB, hb⟩ => ?_, h.exc.trans' t.exc (fun b _ hb => h.foot b (hK b hb))⟩
 · rcases t.foot b ⟨A, hA, ha⟩ with ⟨C, hC, hc⟩ | q
   · exact hap C hC B hB b hc hb
   · have := hF.lt hB hb; omega
 · rcases List.mem_append.1 hB with hB | hB
   · rcases t.foot b ⟨B, hB, hb⟩ with q | q
     · exact h.foot b (hK b q)
     · exact .inr (Nat.le_trans h.size q)
   · exact h.foot b ⟨B, by simp [hB], hb⟩
theorem unfold {K F : List Part} (h : At L0 w0 (Part.all K :: F) w) : At L0 w0 (K ++ F) w := ⟨h.sep.unfold, fun b ⟨A, hA, hb⟩ => h.foot b (by
 rcases List.mem_append.1 hA with hA | hA
 · exact ⟨_, List.mem_cons_self, A, hA, hb⟩
 · exact ⟨A, by simp [hA], hb⟩), h.exc⟩
theorem fold {K F : List Part} (h : At L0 w0 (K ++ F) w) : At L0 w0 (Part.all K :: F) w := ⟨h.sep.fold, fun b ⟨A, hA, hb⟩ => h.foot b (by
 rcases List.mem_cons.1 hA with rfl | hA
 · obtain ⟨B, hB, hb⟩ := hb
   exact ⟨B, by simp [hB], hb⟩
 · exact ⟨A, by simp [hA], hb⟩), h.exc⟩
theorem call0 (h : At L0 w0 L w) {K' : List Part} (t : At [] w K' w') : At L0 w0 (K' ++ L) w' := frame (K := []) h t
theorem toExt (h : At [] w0 L w) : Ext w0 w := h.exc.ext (fun _ _ ⟨_, hA, _⟩ => by cases hA)
theorem call1 (h : At L0 w0 L w) {A : Part} {F K' : List Part} (s : Sel A L F) (t : At [A] w K' w') : At L0 w0 (K' ++ F) w' := frame (K := [A]) (h.take s) t
theorem call2 (h : At L0 w0 L w) {A B : Part} {F G K' : List Part} (s : Sel A L F) (r : Sel B F G) (t : At [A, B] w K' w') : At L0 w0 (K' ++ G) w' :=
 frame (K := [A, B]) (h.perm (s.perm.trans (r.perm.cons A))) t
theorem call3 (h : At L0 w0 L w) {A B C : Part} {F G H K' : List Part} (s : Sel A L F) (r : Sel B F G) (q : Sel C G H) (t : At [A, B, C] w K' w') : At L0 w0 (K' ++ H) w' :=
 frame (K := [A, B, C]) (h.perm (s.perm.trans ((r.perm.trans (q.perm.cons B)).cons A))) t
theorem sep1 (h : At L0 w0 L w) {A : Part} {F : List Part} (s : Sel A L F) : Sep [A] w := (h.take s).sep.sub (by simp)
theorem sep2 (h : At L0 w0 L w) {A B : Part} {F G : List Part} (s : Sel A L F) (r : Sel B F G) : Sep [A, B] w := (h.perm (s.perm.trans (r.perm.cons A))).sep.sub (by simp)
theorem sep3 (h : At L0 w0 L w) {A B C : Part} {F G H : List Part} (s : Sel A L F) (r : Sel B F G) (q : Sel C G H) : Sep [A, B, C] w := (h.perm (s.perm.trans ((r.perm.trans (q.perm.cons B)).cons A))).sep.sub (by simp)
theorem only1 (h : At L0 w0 L w) {A : Part} {F : List Part} (s : Sel A L F) : At L0 w0 [A] w := (h.perm s.perm).sub (by simp)
theorem only2 (h : At L0 w0 L w) {A B : Part} {F G : List Part} (s : Sel A L F) (r : Sel B F G) : At L0 w0 [A, B] w := (h.perm (s.perm.trans (r.perm.cons A))).sub (by simp)
theorem only3 (h : At L0 w0 L w) {A B C : Part} {F G H : List Part} (s : Sel A L F) (r : Sel B F G) (q : Sel C G H) : At L0 w0 [A, B, C] w :=
 (h.perm (s.perm.trans ((r.perm.trans (q.perm.cons B)).cons A))).sub (by simp)
theorem join (h : At L0 w0 L w) {A B C : Part} {F G : List Part} (s : Sel A L F) (r : Sel B F G) (hC : C.holds w) (hf : ∀ b, C.foot b → A.foot b ∨ B.foot b) : At L0 w0 (C :: G) w := by
 have h1 := h.perm (s.perm.trans (r.perm.cons A))
 refine ⟨h1.sep.join hC hf, fun b ⟨D, hD, hb⟩ => ?_, h1.exc⟩
 rcases List.mem_cons.1 hD with rfl | hD
 · rcases hf b hb with q | q
   · exact h1.foot b ⟨A, by simp, q⟩
   · exact h1.foot b ⟨B, by simp, q⟩
 · exact h1.foot b ⟨D, by simp [hD], hb⟩
end At
structure Eqv (L K : List Part) : Prop where
 sep : ∀ w, Sep L w ↔ Sep K w
 foot : ∀ b, footL L b ↔ footL K b
namespace Eqv
theorem refl (L : List Part) : Eqv L L := ⟨fun _ => .rfl, fun _ => .rfl⟩
theorem symm {L K : List Part} (h : Eqv L K) : Eqv K L := ⟨fun w => (h.sep w).symm, fun b => (h.foot b).symm⟩
theorem trans {L K M : List Part} (h : Eqv L K) (k : Eqv K M) : Eqv L M := ⟨fun w => (h.sep w).trans (k.sep w), fun b => (h.foot b).trans (k.foot b)⟩
theorem perm {L K : List Part} (p : L.Perm K) : Eqv L K := ⟨fun _ => ⟨Sep.perm p, Sep.perm p.symm⟩, fun _ => ⟨fun ⟨A, hA, hb⟩ => ⟨A, p.mem_iff.1 hA, hb⟩, fun ⟨A, hA, hb⟩ => ⟨A, p.mem_iff.2 hA, hb⟩⟩⟩
theorem all (K F : List Part) : Eqv (Part.all K :: F) (K ++ F) := ⟨fun _ => ⟨Sep.unfold, Sep.fold⟩, fun b => by
 constructor
 · rintro ⟨A, hA, hb⟩
   rcases List.mem_cons.1 hA with rfl | hA
   · obtain ⟨B, hB, hb⟩ := hb
     exact ⟨B, by simp [hB], hb⟩
   · exact ⟨A, by simp [hA], hb⟩
 · rintro ⟨A, hA, hb⟩
   rcases List.mem_append.1 hA with hA | hA
   · exact ⟨_, List.mem_cons_self, A, hA, hb⟩
   · exact ⟨A, by simp [hA], hb⟩⟩
theorem append {L K : List Part} (h : Eqv L K) (F : List Part) : Eqv (L ++ F) (K ++ F) := by
 have key : ∀ {L K : List Part}, Eqv L K → ∀ w, Sep (L ++ F) w → Sep (K ++ F) w := fun {L K} h w q => by
  obtain ⟨a, b, c⟩ := q.apart2
  refine ((h.sep w).1 a).join2 b (fun A hA B hB k ha hb => ?_)
  obtain ⟨A', hA', ha'⟩ := (h.foot k).2 ⟨A, hA, ha⟩
  exact c A' hA' B hB k ha' hb
 refine ⟨fun w => ⟨key h w, key h.symm w⟩, fun b => ?_⟩
 have f : ∀ {L K : List Part}, Eqv L K → footL (L ++ F) b → footL (K ++ F) b := fun {L K} h ⟨A, hA, hb⟩ => by
  rcases List.mem_append.1 hA with hA | hA
  · obtain ⟨B, hB, hb⟩ := (h.foot b).1 ⟨A, hA, hb⟩
    exact ⟨B, by simp [hB], hb⟩
  · exact ⟨A, by simp [hA], hb⟩
 exact ⟨f h, f h.symm⟩
theorem prepend {L K : List Part} (h : Eqv L K) (F : List Part) : Eqv (F ++ L) (F ++ K) := (perm List.perm_append_comm).trans ((h.append F).trans (perm List.perm_append_comm))
theorem cons {L K : List Part} (h : Eqv L K) (A : Part) : Eqv (A :: L) (A :: K) := h.prepend [A]
end Eqv
theorem At.eqv {L0 K0 L K : List Part} {w0 w : World} (h : At L0 w0 L w) (e0 : Eqv L0 K0) (e : Eqv L K) : At K0 w0 K w :=
 ⟨(e.sep w).1 h.sep, fun b hb => by
   rcases h.foot b ((e.foot b).2 hb) with q | q
   · exact .inl ((e0.foot b).1 q)
   · exact .inr q, h.exc.mono (fun b _ hb => (e0.foot b).1 hb)⟩
theorem At.to {L0 L K : List Part} {w0 w : World} (h : At L0 w0 L w) (e : Eqv L K) : At L0 w0 K w := h.eqv (.refl _) e
theorem At.through {L0 L K F : List Part} {w0 w : World} {P : Program} {f : FuncId} {args : Array Value} {v : Value} (h : At L0 w0 L w) (e : Eqv L (K ++ F)) (hc : Sep K w → Calls P f args w fun e w' => e = .returned v ∧ At K w K w') :
 Calls P f args w fun e w' => e = .returned v ∧ At L0 w0 L w' := by
 have h1 := h.to e
 exact (hc h1.sep.apart2.1).mono fun e' w' ⟨he, t⟩ => ⟨he, (h1.frame t).to e.symm⟩
theorem uA : (∀ (c : List Value) (o : Nat), setL c o [] = c) ∧ (∀ (c : List Value) (o : Nat) (v : Value) (vs : List Value), setL c o (v :: vs) = setL (c.set o v) (o + 1) vs) ∧ (∀ {α : Type} (x : α) (xs : List α) (v : α), (x :: xs).set 0 v = v :: xs) ∧ (∀ {α : Type} (x : α) (xs : List α) (n : Nat) (v : α), (x :: xs).set (n + 1) v = x :: xs.set n v) ∧ (∀ {α : Type} (x : α) (xs ys : List α), (x :: xs) ++ ys = x :: (xs ++ ys)) ∧ (∀ {α : Type} (ys : List α), [] ++ ys = ys) :=
 ⟨fun _ _ => rfl, fun _ _ _ _ => rfl, fun _ _ _ => rfl, fun _ _ _ _ => rfl, fun _ _ _ => rfl, fun _ => rfl⟩
theorem eV {α : Type} : (∀ (xs : Array α) (i : Nat) (d : α), xs.getD i d = xs[i]?.getD d) ∧ (∀ (l : List α) (i : Nat), l.toArray[i]? = l[i]?) ∧ (∀ (x : α) (xs : List α) (i : Nat), (x :: xs)[i + 1]? = xs[i]?) ∧ (∀ (x : α) (xs : List α), (x :: xs)[0]? = some x) ∧ (∀ (x d : α), (some x).getD d = x) :=
 ⟨fun _ _ _ => Array.getD_eq_getD_getElem?, fun _ _ => List.getElem?_toArray, fun _ _ _ => List.getElem?_cons_succ, fun _ _ => List.getElem?_cons_zero, fun _ _ => rfl⟩
end Go.Proofs.YtpebabaigakagaaGreatDoor
namespace Go.Proofs.YtpebabaigakagaaGreatDoor
theorem sZ {A : Part} {L F : List Part} (h : Sel A L F := by repeat (first | exact Sel.here | apply Sel.there)) : Sel A L F := h
theorem andH {p q : Prop} (h : p) (k : p → q) : p ∧ q := ⟨h, k h⟩
theorem At.ci {L0 L F : List Part} {w0 w : World} {b : Nat} {c : List Value} {T : TypeId} (h : At L0 w0 L w) (s : Sel (Part.cells b c T) L F := by repeat (first | exact Sel.here | apply Sel.there)) : BlockIs w b c T := h.get s
theorem sR {A : Part} {L F : List Part} (h : Sel A L F := by with_reducible repeat (first | exact Sel.here | apply Sel.there)) : Sel A L F := h
end Go.Proofs.YtpebabaigakagaaGreatDoor
end
