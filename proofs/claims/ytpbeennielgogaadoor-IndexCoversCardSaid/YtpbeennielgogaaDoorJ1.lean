/- Sep, Reg, SepW, joined. -/
import Derived.Test.YtpbeennielgogaaDoorJ0
import Derived.StillTail
import Derived.Deep.Quiet
import Derived.Deep.QuietTactic
import Derived.Deep.MidRow
import Derived.KernelRfl
import Derived.Maps.RangeWalk
section
namespace Go.Proofs.YtpbeennielgogaaDoor
open Go.RowKit
set_option linter.unusedVariables false
set_option linter.unusedSimpArgs false

/-- a part of a world: what holds of it hangs on the blocks of its footprint alone -/
structure Part where
  holds : World → Prop
  foot : Nat → Prop
  lt : ∀ w, holds w → ∀ b, foot b → b < w.heap.size
  stay : ∀ w w', holds w → (∀ b, foot b → w'.heap[b]? = w.heap[b]?) → holds w'
  facts : World → Prop := fun _ => True
  say : ∀ w, holds w → facts w := by intros; trivial

theorem lt_of_some {w : World} {b : Nat} {o : Obj} (h : w.heap[b]? = some o) : b < w.heap.size := by
  rcases Nat.lt_or_ge b w.heap.size with q | q
  · exact q
  · rw [Array.getElem?_eq_none q] at h; cases h

namespace Part
/-- a block of cells, known whole -/
def cells (b : Nat) (c : List Value) (T : TypeId) : Part where
  holds w := BlockIs w b c T
  foot k := k = b
  lt := fun _ h _ e => by subst e; exact h.lt
  stay := fun _ _ h e => h.same (e b rfl)
  facts w := (∀ j, w.cell? ⟨b, j, none⟩ = c[j]?) ∧ (∀ j, w.frozen? ⟨b, j, none⟩ = false) ∧ b < w.heap.size
  say := fun _ h => ⟨h.cell, h.free, h.lt⟩
/-- a block, whatever it is -/
def obj (b : Nat) (o : Obj) : Part where
  holds w := w.heap[b]? = some o
  foot k := k = b
  lt := fun _ h _ e => by subst e; exact lt_of_some h
  stay := fun _ _ h e => (e b rfl).trans h
/-- all that was there in a world W stands as it was -/
def old (W : World) : Part where
  holds w := ∀ b, b < W.heap.size → w.heap[b]? = W.heap[b]?
  foot k := k < W.heap.size
  lt := fun w h b hb => by
    have := h b hb
    rw [Array.getElem?_eq_getElem hb] at this
    exact lt_of_some this
  stay := fun _ _ h e b hb => (e b hb).trans (h b hb)
/-- a fact that hangs on no block -/
def fact (p : Prop) : Part where
  holds _ := p
  foot _ := False
  lt := fun _ _ _ e => e.elim
  stay := fun _ _ h _ => h
end Part

/-- many parts, as one (below: 'Sep') -/
def Facts : List Part → World → Prop
  | [], _ => True
  | A :: L, w => A.facts w ∧ Facts L w
theorem facts_nil (w : World) : Facts [] w = True := rfl
theorem facts_cons (A : Part) (L : List Part) (w : World) : Facts (A :: L) w = (A.facts w ∧ Facts L w) := rfl
theorem facts_cells (b : Nat) (c : List Value) (T : TypeId) (w : World) : (Part.cells b c T).facts w = ((∀ j, w.cell? ⟨b, j, none⟩ = c[j]?) ∧ (∀ j, w.frozen? ⟨b, j, none⟩ = false) ∧ b < w.heap.size) := rfl
theorem facts_old (W w : World) : (Part.old W).facts w = True := rfl
theorem facts_fact (p : Prop) (w : World) : (Part.fact p).facts w = True := rfl
theorem facts_obj (b : Nat) (o : Obj) (w : World) : (Part.obj b o).facts w = True := rfl

/-- the parts lie apart, and each holds -/
def Sep : List Part → World → Prop
  | [], _ => True
  | A :: L, w => A.holds w ∧ Sep L w ∧ ∀ B ∈ L, ∀ b, A.foot b → ¬ B.foot b

namespace Sep
theorem get : ∀ {L : List Part} {w : World}, Sep L w → ∀ {A : Part}, A ∈ L → A.holds w
  | B :: L, w, h, A, hA => by
    rcases List.mem_cons.1 hA with rfl | hA
    · exact h.1
    · exact get h.2.1 hA
theorem at_ {L : List Part} {w : World} (h : Sep L w) (i : Nat) {A : Part} (hA : L[i]? = some A) : A.holds w := h.get (List.mem_of_getElem? hA)
theorem apart : ∀ {L : List Part} {w : World}, Sep L w → ∀ (i j : Nat) {A B : Part}, L[i]? = some A → L[j]? = some B → i ≠ j → ∀ b, A.foot b → ¬ B.foot b
  | C :: L, w, h, 0, 0, A, B, _, _, hne => absurd rfl hne
  | C :: L, w, h, 0, j + 1, A, B, hA, hB, _ => by
    simp at hA hB; subst hA
    exact h.2.2 B (List.mem_of_getElem? hB)
  | C :: L, w, h, i + 1, 0, A, B, hA, hB, _ => by
    simp at hA hB; subst hB
    exact fun b ha hb => h.2.2 A (List.mem_of_getElem? hA) b hb ha
  | C :: L, w, h, i + 1, j + 1, A, B, hA, hB, hne => by
    simp at hA hB
    exact apart h.2.1 i j hA hB (by omega)
theorem same : ∀ {L : List Part} {w w' : World}, Sep L w → (∀ b : Nat, (∃ A ∈ L, A.foot b) → w'.heap[b]? = w.heap[b]?) → Sep L w'
  | [], _, _, _, _ => trivial
  | A :: L, w, w', h, e => ⟨A.stay w w' h.1 (fun b hb => e b ⟨A, by simp, hb⟩), same h.2.1 (fun b ⟨B, hB, hb⟩ => e b ⟨B, by simp [hB], hb⟩), h.2.2⟩
theorem lt {L : List Part} {w : World} (h : Sep L w) {A : Part} (hA : A ∈ L) {b : Nat} (hb : A.foot b) : b < w.heap.size := A.lt w (h.get hA) b hb
theorem sub : ∀ {L L' : List Part} {w : World}, Sep L w → L'.Sublist L → Sep L' w
  | _, _, _, _, .slnil => trivial
  | _, _, _, h, .cons _ s => sub h.2.1 s
  | _, _, _, h, .cons_cons _ s => ⟨h.1, sub h.2.1 s, fun B hB => h.2.2 B (s.subset hB)⟩
theorem perm {L L' : List Part} (p : L.Perm L') {w : World} : Sep L w → Sep L' w := by
  induction p with
  | nil => exact fun h => h
  | cons A p ih => exact fun h => ⟨h.1, ih h.2.1, fun B hB => h.2.2 B (p.mem_iff.2 hB)⟩
  | swap A B L => exact fun h => ⟨h.2.1.1, ⟨h.1, h.2.1.2.1, fun C hC => h.2.2 C (by simp [hC])⟩, fun C hC b ha hc => by
      rcases List.mem_cons.1 hC with rfl | hC
      · exact h.2.2 A (by simp) b hc ha
      · exact h.2.1.2.2 C hC b ha hc⟩
  | trans _ _ i j => exact fun h => j (i h)
theorem facts : ∀ {L : List Part} {w : World}, Sep L w → Facts L w
  | [], _, _ => trivial
  | A :: L, w, h => ⟨A.say w h.1, facts h.2.1⟩
/-- a part is turned, the others stand: the new one lies where the old one lay, and in new blocks -/
theorem turn : ∀ {L : List Part} {w w' : World}, Sep L w → ∀ (i : Nat) {A : Part}, L[i]? = some A → ∀ (A' : Part), A'.holds w' → (∀ b, A'.foot b → A.foot b ∨ w.heap.size ≤ b) →
    (∀ b : Nat, b < w.heap.size → ¬ A.foot b → w'.heap[b]? = w.heap[b]?) → Sep (L.set i A') w'
  | C :: L, w, w', h, 0, A, hA, A', h', hf, hx => by
    simp at hA; subst hA
    exact ⟨h', same h.2.1 (fun b ⟨B, hB, hb⟩ => hx b (h.2.1.lt hB hb) (fun hc => h.2.2 B hB b hc hb)), fun B hB b hb hb' => by
      rcases hf b hb with q | q
      · exact h.2.2 B hB b q hb'
      · have := h.2.1.lt hB hb'; omega⟩
  | C :: L, w, w', h, i + 1, A, hA, A', h', hf, hx => by
    simp at hA
    have hC : C.holds w' := C.stay w w' h.1 (fun b hb => hx b (C.lt w h.1 b hb) (fun ha => h.2.2 A (List.mem_of_getElem? hA) b hb ha))
    refine ⟨hC, turn h.2.1 i hA A' h' hf hx, fun B hB b hb hb' => ?_⟩
    rcases List.mem_or_eq_of_mem_set hB with hB | hB
    · exact h.2.2 B hB b hb hb'
    · subst hB
      rcases hf b hb' with q | q
      · exact h.2.2 A (List.mem_of_getElem? hA) b hb q
      · have := C.lt w h.1 b hb; omega
/-- a new part in new blocks -/
theorem new {L : List Part} {w w' : World} (h : Sep L w) (A : Part) (hA : A.holds w') (hf : ∀ b, A.foot b → w.heap.size ≤ b) (hx : ∀ b : Nat, b < w.heap.size → w'.heap[b]? = w.heap[b]?) : Sep (A :: L) w' :=
  ⟨hA, h.same (fun b ⟨B, hB, hb⟩ => hx b (h.lt hB hb)), fun B hB b hb hb' => by have := hf b hb; have := h.lt hB hb'; omega⟩
/-- two parts are one -/
theorem join {A B C : Part} {L : List Part} {w : World} (h : Sep (A :: B :: L) w) (hC : C.holds w) (hf : ∀ b, C.foot b → A.foot b ∨ B.foot b) : Sep (C :: L) w :=
  ⟨hC, h.2.1.2.1, fun D hD b hb => by
    rcases hf b hb with q | q
    · exact h.2.2 D (by simp [hD]) b q
    · exact h.2.1.2.2 D hD b q⟩
theorem alloc {L : List Part} {w : World} (h : Sep L w) (c : List Value) (T : TypeId) : Sep (Part.cells w.heap.size c T :: L) (w.alloc (.cells c.toArray T)) :=
  h.new _ (BlockIs.alloc w c T) (fun b e => by cases e; exact Nat.le_refl _) (fun b hb => Below.heap_alloc w _ b hb)
theorem allocObj {L : List Part} {w : World} (h : Sep L w) (o : Obj) : Sep (Part.obj w.heap.size o :: L) (w.alloc o) :=
  h.new _ (heap_alloc_new w o) (fun b e => by cases e; exact Nat.le_refl _) (fun b hb => Below.heap_alloc w _ b hb)
theorem store {L : List Part} {w : World} (h : Sep L w) (i : Nat) {b : Nat} {c : List Value} {T : TypeId} (hA : L[i]? = some (Part.cells b c T)) (j : Nat) (v : Value) :
    Sep (L.set i (Part.cells b (c.set j v) T)) (w.setCell ⟨b, j, none⟩ v) := by
  have hb : BlockIs w b c T := h.at_ i hA
  exact h.turn i hA _ (hb.set j v) (fun _ e => .inl e) (fun k _ hk => Below.heap_setCell _ _ _ _ hk)
end Sep

/-- some parts, seen as one -/
def Part.all (L : List Part) : Part where
  holds w := Sep L w
  foot b := ∃ A ∈ L, A.foot b
  lt := fun _ h _ ⟨_, hA, hb⟩ => h.lt hA hb
  stay := fun _ _ h e => h.same e
  facts w := Facts L w
  say := fun _ h => h.facts
theorem facts_all (L : List Part) (w : World) : (Part.all L).facts w = Facts L w := rfl
theorem Sep.apart2 : ∀ {K F : List Part} {w : World}, Sep (K ++ F) w → Sep K w ∧ Sep F w ∧ ∀ A ∈ K, ∀ B ∈ F, ∀ b, A.foot b → ¬ B.foot b
  | [], _, _, h => ⟨trivial, h, nofun⟩
  | A :: K, F, w, h => by
    obtain ⟨i0, i1, i2⟩ := apart2 h.2.1
    refine ⟨⟨h.1, i0, fun B hB => h.2.2 B (by simp [hB])⟩, i1, fun C hC B hB b hc hb => ?_⟩
    rcases List.mem_cons.1 hC with rfl | hC
    · exact h.2.2 B (by simp [hB]) b hc hb
    · exact i2 C hC B hB b hc hb
theorem Sep.join2 : ∀ {K F : List Part} {w : World}, Sep K w → Sep F w → (∀ A ∈ K, ∀ B ∈ F, ∀ b, A.foot b → ¬ B.foot b) → Sep (K ++ F) w
  | [], _, _, _, h, _ => h
  | A :: K, F, w, h1, h2, h3 => by
    refine ⟨h1.1, join2 h1.2.1 h2 (fun C hC => h3 C (by simp [hC])), fun B hB => ?_⟩
    rcases List.mem_append.1 hB with hB | hB
    · exact h1.2.2 B hB
    · exact h3 A (by simp) B hB
theorem Sep.unfold {K F : List Part} {w : World} (h : Sep (Part.all K :: F) w) : Sep (K ++ F) w :=
  h.1.join2 h.2.1 (fun A hA B hB b ha hb => h.2.2 B hB b ⟨A, hA, ha⟩ hb)
theorem Sep.fold {K F : List Part} {w : World} (h : Sep (K ++ F) w) : Sep (Part.all K :: F) w :=
  ⟨h.apart2.1, h.apart2.2.1, fun B hB b ⟨A, hA, ha⟩ hb => h.apart2.2.2 A hA B hB b ha hb⟩

/-- a part taken out of a list: the rest -/
inductive Sel (A : Part) : List Part → List Part → Prop
  | here {L : List Part} : Sel A (A :: L) L
  | there {B : Part} {L L' : List Part} : Sel A L L' → Sel A (B :: L) (B :: L')
theorem Sel.perm {A : Part} {L F : List Part} (s : Sel A L F) : L.Perm (A :: F) := by
  induction s with
  | here => exact .refl _
  | there _ ih => exact (ih.cons _).trans (.swap _ _ _)
theorem Sel.mem {A : Part} {L F : List Part} (s : Sel A L F) : A ∈ L := s.perm.mem_iff.2 (by simp)

/-- the blocks of a list of parts -/
def footL (L : List Part) (b : Nat) : Prop := ∃ A ∈ L, A.foot b
theorem Exc.trans' {S T : Nat → Prop} {a b c : World} (h : Exc S a b) (k : Exc T b c) (hs : ∀ i, i < b.heap.size → T i → S i ∨ a.heap.size ≤ i) : Exc S a c :=
  ⟨k.os.trans h.os, k.tape.trans h.tape, k.output.trans h.output, Nat.le_trans h.size k.size, fun i hi hn => (k.block i (Nat.lt_of_lt_of_le hi h.size) (fun t => by
    rcases hs i (Nat.lt_of_lt_of_le hi h.size) t with q | q
    · exact hn q
    · omega)).trans (h.block i hi hn)⟩

/-- from w0, where the parts L0 were, to w, where the parts L are: these lie where those lay, and in new blocks; nothing else has turned -/
structure At (L0 : List Part) (w0 : World) (L : List Part) (w : World) : Prop where
  sep : Sep L w
  foot : ∀ b, footL L b → footL L0 b ∨ w0.heap.size ≤ b
  exc : Exc (footL L0) w0 w

namespace At
variable {L0 : List Part} {w0 w w' : World} {L : List Part}
theorem start {w0 : World} {L0 : List Part} (h : Sep L0 w0) : At L0 w0 L0 w0 := ⟨h, fun _ h => .inl h, Exc.refl _ w0⟩
theorem get (h : At L0 w0 L w) {A : Part} {F : List Part} (s : Sel A L F) : A.holds w := h.sep.get s.mem
theorem facts (h : At L0 w0 L w) : Facts L w := h.sep.facts
theorem size (h : At L0 w0 L w) : w0.heap.size ≤ w.heap.size := h.exc.size
theorem drewN (h : At L0 w0 L w) (n : Nat) : At L0 w0 L (w.drewN n) := ⟨h.sep.same (fun _ _ => rfl), h.foot, h.exc.drewN n⟩
theorem drew (h : At L0 w0 L w) : At L0 w0 L w.drew := ⟨h.sep.same (fun _ _ => rfl), h.foot, h.exc.drew⟩
theorem perm (h : At L0 w0 L w) {L' : List Part} (p : L.Perm L') : At L0 w0 L' w := ⟨h.sep.perm p, fun b ⟨A, hA, hb⟩ => h.foot b ⟨A, p.mem_iff.2 hA, hb⟩, h.exc⟩
theorem sub (h : At L0 w0 L w) {L' : List Part} (p : L'.Sublist L) : At L0 w0 L' w := ⟨h.sep.sub p, fun b ⟨A, hA, hb⟩ => h.foot b ⟨A, p.subset hA, hb⟩, h.exc⟩
/-- a part is forgotten -/
theorem drop (h : At L0 w0 L w) {A : Part} {F : List Part} (s : Sel A L F) : At L0 w0 F w := (h.perm s.perm).sub (List.sublist_cons_self _ _)
theorem take (h : At L0 w0 L w) {A : Part} {F : List Part} (s : Sel A L F) : At L0 w0 (A :: F) w := h.perm s.perm
theorem ext (h : At L0 w0 L w) (he : Ext w w') : At L0 w0 L w' := ⟨h.sep.same (fun b ⟨_, hA, hb⟩ => Below.block he b (h.sep.lt hA hb)), h.foot, h.exc.trans (he.exc _)⟩
/-- something new -/
theorem new (h : At L0 w0 L w) (he : Ext w w') (A : Part) (hA : A.holds w') (hf : ∀ b, A.foot b → w.heap.size ≤ b) : At L0 w0 (A :: L) w' :=
  ⟨h.sep.new A hA hf (fun b hb => Below.block he b hb), fun b ⟨B, hB, hb⟩ => by
    rcases List.mem_cons.1 hB with rfl | hB
    · exact .inr (Nat.le_trans h.size (hf b hb))
    · exact h.foot b ⟨B, hB, hb⟩, h.exc.trans (he.exc _)⟩
theorem alloc (h : At L0 w0 L w) (c : List Value) (T : TypeId) : At L0 w0 (Part.cells w.heap.size c T :: L) (w.alloc (.cells c.toArray T)) :=
  h.new ((Ext.refl w).alloc _) _ (BlockIs.alloc w c T) (fun _ e => by cases e; exact Nat.le_refl _)
theorem allocObj (h : At L0 w0 L w) (o : Obj) : At L0 w0 (Part.obj w.heap.size o :: L) (w.alloc o) :=
  h.new ((Ext.refl w).alloc _) _ (heap_alloc_new w o) (fun _ e => by cases e; exact Nat.le_refl _)
/-- one part is turned into another one -/
theorem turn (h : At L0 w0 L w) {A : Part} {F : List Part} (s : Sel A L F) (A' : Part) (hA' : A'.holds w') (hf : ∀ b, A'.foot b → A.foot b ∨ w.heap.size ≤ b) (hx : Exc A.foot w w') : At L0 w0 (A' :: F) w' := by
  have h1 := h.take s
  refine ⟨h1.sep.turn 0 rfl A' hA' hf (fun b hb hn => hx.block b hb hn), fun b ⟨B, hB, hb⟩ => ?_, h1.exc.trans' hx (fun b _ hb => h1.foot b ⟨A, by simp, hb⟩)⟩
  rcases List.mem_cons.1 hB with rfl | hB
  · rcases hf b hb with q | q
    · exact h1.foot b ⟨A, by simp, q⟩
    · exact .inr (Nat.le_trans h.size q)
  · exact h1.foot b ⟨B, by simp [hB], hb⟩
theorem store (h : At L0 w0 L w) {b : Nat} {c : List Value} {T : TypeId} {F : List Part} (s : Sel (Part.cells b c T) L F) (j : Nat) (v : Value) :
    At L0 w0 (Part.cells b (c.set j v) T :: F) (w.setCell ⟨b, j, none⟩ v) :=
  h.turn s _ (BlockIs.set (h.get s) j v) (fun _ e => .inl e) (Exc.setCell (S := fun k => k = b) (p := ⟨b, j, none⟩) (Exc.refl _ _) (.inl rfl) v)
theorem stores (h : At L0 w0 L w) {b : Nat} {c : List Value} {T : TypeId} {F : List Part} (s : Sel (Part.cells b c T) L F) (j : Nat) (vs : List Value) :
    At L0 w0 (Part.cells b (setL c j vs) T :: F) (w.setCells b j vs) :=
  h.turn s _ (BlockIs.setCells vs j (h.get s)) (fun _ e => .inl e) (Exc.setCells (S := fun k => k = b) (b := b) (.inl rfl) _ _ _ (Exc.refl _ _))
/-- a call turned some parts -/
theorem frame {K K' F : List Part} (h : At L0 w0 (K ++ F) w) (t : At K w K' w') : At L0 w0 (K' ++ F) w' := by
  have hK : ∀ b, footL K b → footL (K ++ F) b := fun b ⟨A, hA, hb⟩ => ⟨A, by simp [hA], hb⟩
  have apart : ∀ {K F : List Part} {w : World}, Sep (K ++ F) w → Sep F w ∧ ∀ A ∈ K, ∀ B ∈ F, ∀ b, A.foot b → ¬ B.foot b := by
    intro K
    induction K with
    | nil => exact fun h => ⟨h, nofun⟩
    | cons A K ih =>
      intro F w h
      obtain ⟨i1, i2⟩ := ih h.2.1
      refine ⟨i1, fun C hC B hB b hc hb => ?_⟩
      rcases List.mem_cons.1 hC with rfl | hC
      · exact h.2.2 B (by simp [hB]) b hc hb
      · exact i2 C hC B hB b hc hb
  have join : ∀ {K F : List Part} {w : World}, Sep K w → Sep F w → (∀ A ∈ K, ∀ B ∈ F, ∀ b, A.foot b → ¬ B.foot b) → Sep (K ++ F) w := by
    intro K
    induction K with
    | nil => exact fun _ h _ => h
    | cons A K ih =>
      intro F w h1 h2 h3
      refine ⟨h1.1, ih h1.2.1 h2 (fun C hC => h3 C (by simp [hC])), fun B hB => ?_⟩
      rcases List.mem_append.1 hB with hB | hB
      · exact h1.2.2 B hB
      · exact h3 A (by simp) B hB
  obtain ⟨hF, hap⟩ := apart h.sep
  have hF' : Sep F w' := hF.same (fun b ⟨B, hB, hb⟩ => t.exc.block b (hF.lt hB hb) (fun ⟨A, hA, ha⟩ => hap A hA B hB b ha hb))
  refine ⟨join t.sep hF' (fun A hA B hB b ha hb => ?_), fun b ⟨B, hB, hb⟩ => ?_, h.exc.trans' t.exc (fun b _ hb => h.foot b (hK b hb))⟩
  · rcases t.foot b ⟨A, hA, ha⟩ with ⟨C, hC, hc⟩ | q
    · exact hap C hC B hB b hc hb
    · have := hF.lt hB hb; omega
  · rcases List.mem_append.1 hB with hB | hB
    · rcases t.foot b ⟨B, hB, hb⟩ with q | q
      · exact h.foot b (hK b q)
      · exact .inr (Nat.le_trans h.size q)
    · exact h.foot b ⟨B, by simp [hB], hb⟩
theorem unfold {K F : List Part} (h : At L0 w0 (Part.all K :: F) w) : At L0 w0 (K ++ F) w := ⟨h.sep.unfold, fun b ⟨A, hA, hb⟩ => h.foot b (by
  rcases List.mem_append.1 hA with hA | hA
  · exact ⟨_, List.mem_cons_self, A, hA, hb⟩
  · exact ⟨A, by simp [hA], hb⟩), h.exc⟩
theorem fold {K F : List Part} (h : At L0 w0 (K ++ F) w) : At L0 w0 (Part.all K :: F) w := ⟨h.sep.fold, fun b ⟨A, hA, hb⟩ => h.foot b (by
  rcases List.mem_cons.1 hA with rfl | hA
  · obtain ⟨B, hB, hb⟩ := hb
    exact ⟨B, by simp [hB], hb⟩
  · exact ⟨A, by simp [hA], hb⟩), h.exc⟩
/-- the same, begun from a list that is folded -/
theorem from_fold {K F : List Part} (h : At (K ++ F) w0 L w) : At (Part.all K :: F) w0 L w := by
  have e : ∀ b, footL (K ++ F) b ↔ footL (Part.all K :: F) b := fun b => by
    constructor
    · rintro ⟨A, hA, hb⟩
      rcases List.mem_append.1 hA with hA | hA
      · exact ⟨_, List.mem_cons_self, A, hA, hb⟩
      · exact ⟨A, by simp [hA], hb⟩
    · rintro ⟨A, hA, hb⟩
      rcases List.mem_cons.1 hA with rfl | hA
      · obtain ⟨B, hB, hb⟩ := hb
        exact ⟨B, by simp [hB], hb⟩
      · exact ⟨A, by simp [hA], hb⟩
  exact ⟨h.sep, fun b hb => by rw [← e]; exact h.foot b hb, h.exc.mono (fun b _ hb => by rw [← e]; exact hb)⟩
theorem call0 (h : At L0 w0 L w) {K' : List Part} (t : At [] w K' w') : At L0 w0 (K' ++ L) w' := frame (K := []) h t
theorem toExt (h : At [] w0 L w) : Ext w0 w := h.exc.ext (fun _ _ ⟨_, hA, _⟩ => by cases hA)
theorem call1 (h : At L0 w0 L w) {A : Part} {F K' : List Part} (s : Sel A L F) (t : At [A] w K' w') : At L0 w0 (K' ++ F) w' := frame (K := [A]) (h.take s) t
theorem call2 (h : At L0 w0 L w) {A B : Part} {F G K' : List Part} (s : Sel A L F) (r : Sel B F G) (t : At [A, B] w K' w') : At L0 w0 (K' ++ G) w' :=
  frame (K := [A, B]) (h.perm (s.perm.trans (r.perm.cons A))) t
theorem call3 (h : At L0 w0 L w) {A B C : Part} {F G H K' : List Part} (s : Sel A L F) (r : Sel B F G) (q : Sel C G H) (t : At [A, B, C] w K' w') : At L0 w0 (K' ++ H) w' :=
  frame (K := [A, B, C]) (h.perm (s.perm.trans ((r.perm.trans (q.perm.cons B)).cons A))) t
theorem sep1 (h : At L0 w0 L w) {A : Part} {F : List Part} (s : Sel A L F) : Sep [A] w := (h.take s).sep.sub (by simp)
theorem sep2 (h : At L0 w0 L w) {A B : Part} {F G : List Part} (s : Sel A L F) (r : Sel B F G) : Sep [A, B] w := (h.perm (s.perm.trans (r.perm.cons A))).sep.sub (by simp)
theorem sep3 (h : At L0 w0 L w) {A B C : Part} {F G H : List Part} (s : Sel A L F) (r : Sel B F G) (q : Sel C G H) : Sep [A, B, C] w := (h.perm (s.perm.trans ((r.perm.trans (q.perm.cons B)).cons A))).sep.sub (by simp)
/-- just these parts, in this order; the others are forgotten -/
theorem only1 (h : At L0 w0 L w) {A : Part} {F : List Part} (s : Sel A L F) : At L0 w0 [A] w := (h.perm s.perm).sub (by simp)
theorem only2 (h : At L0 w0 L w) {A B : Part} {F G : List Part} (s : Sel A L F) (r : Sel B F G) : At L0 w0 [A, B] w := (h.perm (s.perm.trans (r.perm.cons A))).sub (by simp)
theorem only3 (h : At L0 w0 L w) {A B C : Part} {F G H : List Part} (s : Sel A L F) (r : Sel B F G) (q : Sel C G H) : At L0 w0 [A, B, C] w :=
  (h.perm (s.perm.trans ((r.perm.trans (q.perm.cons B)).cons A))).sub (by simp)
theorem only4 (h : At L0 w0 L w) {A B C D : Part} {F G H I : List Part} (s : Sel A L F) (r : Sel B F G) (q : Sel C G H) (u : Sel D H I) : At L0 w0 [A, B, C, D] w :=
  (h.perm (s.perm.trans ((r.perm.trans ((q.perm.trans (u.perm.cons C)).cons B)).cons A))).sub (by simp)
theorem only5 (h : At L0 w0 L w) {A B C D E : Part} {F G H I J : List Part} (s : Sel A L F) (r : Sel B F G) (q : Sel C G H) (u : Sel D H I) (v : Sel E I J) : At L0 w0 [A, B, C, D, E] w :=
  (h.perm (s.perm.trans ((r.perm.trans ((q.perm.trans ((u.perm.trans (v.perm.cons D)).cons C)).cons B)).cons A))).sub (by simp)
/-- two parts are seen as one -/
theorem join (h : At L0 w0 L w) {A B C : Part} {F G : List Part} (s : Sel A L F) (r : Sel B F G) (hC : C.holds w) (hf : ∀ b, C.foot b → A.foot b ∨ B.foot b) : At L0 w0 (C :: G) w := by
  have h1 := h.perm (s.perm.trans (r.perm.cons A))
  refine ⟨h1.sep.join hC hf, fun b ⟨D, hD, hb⟩ => ?_, h1.exc⟩
  rcases List.mem_cons.1 hD with rfl | hD
  · rcases hf b hb with q | q
    · exact h1.foot b ⟨A, by simp, q⟩
    · exact h1.foot b ⟨B, by simp, q⟩
  · exact h1.foot b ⟨D, by simp [hD], hb⟩
end At

/-- two lists of parts say the same, and lie at the same places -/
structure Eqv (L K : List Part) : Prop where
  sep : ∀ w, Sep L w ↔ Sep K w
  foot : ∀ b, footL L b ↔ footL K b
namespace Eqv
theorem refl (L : List Part) : Eqv L L := ⟨fun _ => .rfl, fun _ => .rfl⟩
theorem symm {L K : List Part} (h : Eqv L K) : Eqv K L := ⟨fun w => (h.sep w).symm, fun b => (h.foot b).symm⟩
theorem trans {L K M : List Part} (h : Eqv L K) (k : Eqv K M) : Eqv L M := ⟨fun w => (h.sep w).trans (k.sep w), fun b => (h.foot b).trans (k.foot b)⟩
theorem perm {L K : List Part} (p : L.Perm K) : Eqv L K := ⟨fun _ => ⟨Sep.perm p, Sep.perm p.symm⟩, fun _ => ⟨fun ⟨A, hA, hb⟩ => ⟨A, p.mem_iff.1 hA, hb⟩, fun ⟨A, hA, hb⟩ => ⟨A, p.mem_iff.2 hA, hb⟩⟩⟩
theorem all (K F : List Part) : Eqv (Part.all K :: F) (K ++ F) := ⟨fun _ => ⟨Sep.unfold, Sep.fold⟩, fun b => by
  constructor
  · rintro ⟨A, hA, hb⟩
    rcases List.mem_cons.1 hA with rfl | hA
    · obtain ⟨B, hB, hb⟩ := hb
      exact ⟨B, by simp [hB], hb⟩
    · exact ⟨A, by simp [hA], hb⟩
  · rintro ⟨A, hA, hb⟩
    rcases List.mem_append.1 hA with hA | hA
    · exact ⟨_, List.mem_cons_self, A, hA, hb⟩
    · exact ⟨A, by simp [hA], hb⟩⟩
theorem append {L K : List Part} (h : Eqv L K) (F : List Part) : Eqv (L ++ F) (K ++ F) := by
  have key : ∀ {L K : List Part}, Eqv L K → ∀ w, Sep (L ++ F) w → Sep (K ++ F) w := fun {L K} h w q => by
    obtain ⟨a, b, c⟩ := q.apart2
    refine ((h.sep w).1 a).join2 b (fun A hA B hB k ha hb => ?_)
    obtain ⟨A', hA', ha'⟩ := (h.foot k).2 ⟨A, hA, ha⟩
    exact c A' hA' B hB k ha' hb
  refine ⟨fun w => ⟨key h w, key h.symm w⟩, fun b => ?_⟩
  have f : ∀ {L K : List Part}, Eqv L K → footL (L ++ F) b → footL (K ++ F) b := fun {L K} h ⟨A, hA, hb⟩ => by
    rcases List.mem_append.1 hA with hA | hA
    · obtain ⟨B, hB, hb⟩ := (h.foot b).1 ⟨A, hA, hb⟩
      exact ⟨B, by simp [hB], hb⟩
    · exact ⟨A, by simp [hA], hb⟩
  exact ⟨f h, f h.symm⟩
theorem prepend {L K : List Part} (h : Eqv L K) (F : List Part) : Eqv (F ++ L) (F ++ K) := (perm List.perm_append_comm).trans ((h.append F).trans (perm List.perm_append_comm))
theorem cons {L K : List Part} (h : Eqv L K) (A : Part) : Eqv (A :: L) (A :: K) := h.prepend [A]
end Eqv
theorem At.eqv {L0 K0 L K : List Part} {w0 w : World} (h : At L0 w0 L w) (e0 : Eqv L0 K0) (e : Eqv L K) : At K0 w0 K w :=
  ⟨(e.sep w).1 h.sep, fun b hb => by
    rcases h.foot b ((e.foot b).2 hb) with q | q
    · exact .inl ((e0.foot b).1 q)
    · exact .inr q, h.exc.mono (fun b _ hb => (e0.foot b).1 hb)⟩
theorem At.to {L0 L K : List Part} {w0 w : World} (h : At L0 w0 L w) (e : Eqv L K) : At L0 w0 K w := h.eqv (.refl _) e
/-- a call that leaves the parts as they were, within a larger list -/
theorem At.through {L0 L K F : List Part} {w0 w : World} {P : Program} {f : FuncId} {args : Array Value} {v : Value} (h : At L0 w0 L w) (e : Eqv L (K ++ F)) (hc : Sep K w → Calls P f args w fun e w' => e = .returned v ∧ At K w K w') :
    Calls P f args w fun e w' => e = .returned v ∧ At L0 w0 L w' := by
  have h1 := h.to e
  exact (hc h1.sep.apart2.1).mono fun e' w' ⟨he, t⟩ => ⟨he, (h1.frame t).to e.symm⟩
/-! ### Short names for what every walk's text says often -/
theorem uA : (∀ (c : List Value) (o : Nat), setL c o [] = c) ∧ (∀ (c : List Value) (o : Nat) (v : Value) (vs : List Value), setL c o (v :: vs) = setL (c.set o v) (o + 1) vs) ∧ (∀ {α : Type} (x : α) (xs : List α) (v : α), (x :: xs).set 0 v = v :: xs) ∧ (∀ {α : Type} (x : α) (xs : List α) (n : Nat) (v : α), (x :: xs).set (n + 1) v = x :: xs.set n v) ∧ (∀ {α : Type} (x : α) (xs ys : List α), (x :: xs) ++ ys = x :: (xs ++ ys)) ∧ (∀ {α : Type} (ys : List α), [] ++ ys = ys) :=
  ⟨fun _ _ => rfl, fun _ _ _ _ => rfl, fun _ _ _ => rfl, fun _ _ _ _ => rfl, fun _ _ _ => rfl, fun _ => rfl⟩
theorem eV {α : Type} : (∀ (xs : Array α) (i : Nat) (d : α), xs.getD i d = xs[i]?.getD d) ∧ (∀ (l : List α) (i : Nat), l.toArray[i]? = l[i]?) ∧ (∀ (x : α) (xs : List α) (i : Nat), (x :: xs)[i + 1]? = xs[i]?) ∧ (∀ (x : α) (xs : List α), (x :: xs)[0]? = some x) ∧ (∀ (x d : α), (some x).getD d = x) :=
  ⟨fun _ _ _ => Array.getD_eq_getD_getElem?, fun _ _ => List.getElem?_toArray, fun _ _ _ => List.getElem?_cons_succ, fun _ _ => List.getElem?_cons_zero, fun _ _ => rfl⟩
end Go.Proofs.YtpbeennielgogaaDoor
end

section
namespace Go
set_option linter.unusedVariables false
set_option linter.unusedSimpArgs false

section
variable {P : Program} {ops : Array Oper} {md : Region.Mode} {C : World → Prop}

def wpAnyLQ (P : Program) (md : Region.Mode) (ops : Array Oper) (C : World → Prop) (n : Nat) (L : Array Bool → Act → Prop) : Nat → Array Bool → Act → Prop
  | 0, listed, a => L listed a
  | f + 1, listed, a =>
    Region.ready md ops listed ≠ [] ∧ ∀ i ∈ Region.ready md ops listed, i < n ∧ qOp P ops C i (wpAnyLQ P md ops C n L f (listed.setIfInBounds i true)) a

theorem wpAny_of_headQ {n g : Nat} {L : Array Bool → Act → Prop} {Q' : Exit → Act → World → Prop} (hL : ∀ listed a w, C w → L listed a → wpAny P md ops Q' g listed a w) :
    ∀ (f : Nat) (listed : Array Bool) (a : Act) (w : World), C w → wpAnyLQ P md ops C n L f listed a → wpAny P md ops Q' (f + g) listed a w
  | 0, listed, a, w, hw, h => by rw [Nat.zero_add]; exact hL _ _ _ hw h
  | f + 1, listed, a, w, hw, h => by
    rw [show f + 1 + g = (f + g) + 1 by omega]
    exact ⟨fun h0 => absurd h0 h.1, fun i hi => wpOp_of_qOp hw (fun a' w' hw' h' => wpAny_of_headQ hL f _ a' w' hw' h') (h.2 i hi).2⟩

theorem wpAnyLQ_first {n i : Nat} {oi : Oper} {v : Value} {L : Array Bool → Act → Prop} (hi : ops[i]? = some oi) (hsel : ∀ (j : Nat) (o : Oper) cs b, ops[j]? = some o → o.op ≠ .select cs b)
    (hs : Region.sinkB md ops n = true) (hc : Region.chainB md ops n = true) (hn : n < ops.size) (hin : i < n)
    (hdone : ∀ listed a, L listed a → ∀ j ∈ Region.ready md ops listed, n ≤ j) :
    ∀ (f : Nat) (listed : Array Bool) (a : Act), HeadInv md ops n listed →
      (∀ j oj, ops[j]? = some oj → j ≠ i → listed.getD j true = false → (∀ e ∈ oj.after, Region.binds md e = true → e.on ≠ i) → oi.apart ops oj = true) →
      i ∈ Region.ready md ops listed → YieldsIn P ops C oi v a →
      wpAnyLQ P md ops C n L f (listed.setIfInBounds i true) (a.put oi.dst v) → wpAnyLQ P md ops C n L (f + 1) listed a := by
  intro f
  induction f with
  | zero =>
    intro listed a inv _ hr hy H
    have hun := (mem_ready.1 hr).1
    refine ⟨fun h => (by rw [h] at hr; cases hr), fun j hj => ?_⟩
    have hjn : j < n := by
      rcases Nat.lt_or_ge j n with h | h
      · exact h
      · exact absurd hj (tail_waits hs hc hn inv _ i rfl hin hun j h)
    refine ⟨hjn, ?_⟩
    by_cases hji : j = i
    · subst hji; exact hy.qOp hi H
    · have := hdone _ _ H j (ready_mono hj hji)
      omega
  | succ f ih =>
    intro listed a inv hfree hr hy H
    have hun := (mem_ready.1 hr).1
    refine ⟨fun h => (by rw [h] at hr; cases hr), fun j hj => ?_⟩
    have hjn : j < n := by
      rcases Nat.lt_or_ge j n with h | h
      · exact h
      · exact absurd hj (tail_waits hs hc hn inv _ i rfl hin hun j h)
    refine ⟨hjn, ?_⟩
    by_cases hji : j = i
    · subst hji; exact hy.qOp hi H
    · have h1 := (H.2 j (ready_mono hj hji)).2
      obtain ⟨hjun, oj, hoj, hall⟩ := mem_ready.1 hj
      have hnot : ∀ e ∈ oj.after, Region.binds md e = true → e.on ≠ i := fun e he hb heq => by
        have h1 := hall e he hb
        rw [heq, getD_both hun] at h1
        cases h1
      have h2 := qOp_put hoj (hfree j oj hoj hji hjun hnot) (fun cs b => hsel i oi cs b hi) (fun cs b => hsel j oj cs b hoj) hy h1
      have hfree' : ∀ k ok, ops[k]? = some ok → k ≠ i → (listed.setIfInBounds j true).getD k true = false →
          (∀ e ∈ ok.after, Region.binds md e = true → e.on ≠ i) → oi.apart ops ok = true := fun k ok hk hki hun hno => by
        refine hfree k ok hk hki ?_ hno
        by_cases hjk : j = k
        · subst hjk; exact hjun
        · rw [getD_set_ne true hjk] at hun; exact hun
      refine qOp_mono (fun a' h3 => ih (listed.setIfInBounds j true) a' (inv.set hj hjn) hfree' (ready_mono hr (Ne.symm hji)) h3.1 ?_) h2
      rw [Array.setIfInBounds_comm _ _ hji]
      exact h3.2

theorem wpAnyLQ_lex {n g : Nat} {Lq : Act → Prop} (hsel : Region.noSelect ops = true) (hs : Region.sinkB md ops n = true) (hc : Region.chainB md ops n = true) (hn : n < ops.size) :
    ∀ (l : List Oper) (k : Nat) (listed : Array Bool) (a : Act), (∀ j, j < l.length → l[j]? = ops[k + j]?) → k + l.length = n → HeadInv md ops n listed →
    Region.lexHead md ops g l.length k listed = true → wpQuiet P ops C Lq l a →
    wpAnyLQ P md ops C n (fun listed' a' => Region.seqB md ops g n listed' = true ∧ Lq a') l.length listed a
  | [], k, listed, a, _, hk, _, hB, h => by
    have : k = n := by simpa using hk
    subst this
    exact ⟨by simpa [Region.lexHead] using hB, h⟩
  | o :: l, k, listed, a, hl, hk, inv, hB, h => by
    have h0 : ops[k]? = some o := by simpa using (hl 0 (by simp)).symm
    simp only [List.length_cons, Region.lexHead, Bool.and_eq_true] at hB
    obtain ⟨⟨hr, hf⟩, hB'⟩ := hB
    have hkn : k < n := by simp only [List.length_cons] at hk; omega
    have hr' : k ∈ Region.ready md ops listed := by simpa using hr
    have hst : qOp P ops C k (wpQuiet P ops C Lq l) a := by unfold qOp; simp only [h0]; exact h
    obtain ⟨v, hy, hK⟩ := yieldsIn_of_qOp h0 hst
    exact wpAnyLQ_first h0 (Region.noSelect_spec hsel) hs hc hn hkn (fun listed' a' hL => seqB_ready hL.1) l.length listed a inv (Region.free_spec h0 hf) hr' hy
      (wpAnyLQ_lex hsel hs hc hn l (k + 1) _ _ (fun j hj => by have := hl (j + 1) (by simp; omega); simpa [Nat.add_assoc, Nat.add_comm 1 j] using this) (by simp only [List.length_cons] at hk; omega) (inv.set hr' hkn) hB' hK)

/-- QUIET FIRST, THEN A ROW: the first n operations are quiet in the class C; those behind them come one by one, in the text's order. -/
theorem wp_region_head {id : Nat} {Q : Exit → Act → World → Prop} {a : Act} {w : World} {l : List Oper} (n : Nat) (C : World → Prop) (hm : P.follows .mixedOrders = true) (hB : Region.lexTailB .any l.toArray n = true)
    (hC : C w.drew) (h : wpQuiet P l.toArray C (fun a' => ∀ w', C w' → wpList P l.toArray Q (l.drop n) a' w') (l.take n) a) : (Code.region id l.toArray true).wp P Q a w := by
  simp only [Region.lexTailB, Bool.and_eq_true, decide_eq_true_eq] at hB
  obtain ⟨⟨⟨⟨hsel, hn⟩, hs⟩, hc⟩, hlex⟩ := hB
  have hn' : n < l.length := by simpa using hn
  have htl : (l.take n).length = n := by simp; omega
  have hdl : (l.drop n).length = l.toArray.size - n := by simp
  have inv0 : HeadInv .any l.toArray n (Array.replicate l.toArray.size false) :=
    ⟨by simp, fun j oj _ hl => (by rw [getD_replicate_false] at hl; cases hl), fun t _ ht => getD_in (by simpa using ht) (getD_replicate_false _ _)⟩
  have H := wpAnyLQ_lex (C := C) (md := .any) (g := l.toArray.size - n) hsel hs hc hn (l.take n) 0 _ a (fun j hj => by
    have hj' : j < n := by rw [htl] at hj; exact hj
    simp [hj']) (by simpa using htl) inv0 (by rw [htl]; exact hlex) h
  refine wp_region_any hm ?_
  have := wpAny_of_headQ (Q' := Q) (g := l.toArray.size - n) (fun listed a' w' hw' hL => by
    have := wpAny_of_seq (md := .any) (Q' := Q) (l.drop n) n listed a' w' (fun j => by simp [List.getElem?_drop]) (by rw [hdl]; exact hL.1) (hL.2 w' hw')
    rwa [hdl] at this) _ _ _ _ hC H
  rw [htl, show n + (l.toArray.size - n) = l.toArray.size by omega] at this
  exact this

theorem wp_region_all {id : Nat} {Q : Exit → Act → World → Prop} {a : Act} {w : World} {l : List Oper} (C : World → Prop) (hm : P.follows .mixedOrders = true) (hB : Region.lexB .any l.toArray = true)
    (hC : C w.drew) (h : wpQuiet P l.toArray C (fun a' => ∀ w', C w' → Q .normal a' w') l a) : (Code.region id l.toArray true).wp P Q a w :=
  wp_region_quiet (C := C) hm hB hC (by simpa using h)
end
end Go
end

section
namespace Go.Proofs.YtpbeennielgogaaDoor
open Go.RowKit
set_option linter.unusedVariables false
set_option linter.unusedSimpArgs false

section
variable {P : Program} {ops : Array Oper} {rest : List Oper} {o : Oper} {a : Act} {Q : Exit → Act → World → Prop} {L0 L F : List Part} {w0 w : World}

theorem wpList_val (hg : o.guard = none) {v : Value} {w' : World} (hrun : (execOp a.eval o).run P w = .ok (.value v) w') (hK : wpList P ops Q rest (a.put o.dst v) w') : wpList P ops Q (o :: rest) a w :=
  wpList_plain hg fun _ hK' => by unfold Oper.wp; rw [hrun]; exact hK' _ _ hK
theorem wpList_unit (hg : o.guard = none) {w' : World} (hrun : (execOp a.eval o).run P w = .ok .skip w') (hK : wpList P ops Q rest (a.put o.dst undef) w') : wpList P ops Q (o :: rest) a w :=
  wpList_plain hg fun _ hK' => by unfold Oper.wp; rw [hrun]; exact hK' _ _ hK

theorem run_storeAt_cells (w : World) (b j : Nat) (ty : TypeId) (v : Value) (ht : w.there b j v.cells.size) (hi : (P.info? ty).map (·.size) = some v.cells.size) (h1 : v.cells.all (·.oneCell') = true) :
    (Instr.storeAt ty (.pointer (some ⟨b, j, none⟩)) v).run P w = .ok () (w.setCells b j v.cells.toList) := by
  have := run_storeCells_cells (P := P) b j v.cells.toList 0 w (fun k hk => by simpa using (ht k (by simpa using hk)).1) (fun k hk => by simpa using (ht k (by simpa using hk)).2)
    (fun u hu => (Array.all_eq_true_iff_forall_mem.1 h1) u (by simpa using hu))
  cases hq : P.info? ty with
  | none => simp [hq] at hi
  | some i =>
    have hs : v.cells.size = i.size := by simp [hq] at hi; omega
    simp only [Nat.add_zero] at this
    simp [Instr.storeAt, Instr.sureAddr, storeVar, sizeOf, typeInfo, hq, hs, this]

theorem BlockIs.there {b : Nat} {c : List Value} {T : TypeId} (h : BlockIs w b c T) (j n : Nat) (hj : j + n ≤ c.length) : w.there b j n := fun k hk =>
  ⟨by rw [h.cell, List.getElem?_eq_getElem (by omega)]; rfl, h.free _⟩

/-- a store -/
theorem wpList_store_at {ty : TypeId} {x y : Operand} (hg : o.guard = none) (hop : o.op = .store ty x y) {b j : Nat} (hx : a.eval x = .pointer (some ⟨b, j, none⟩)) {v : Value} (hy : a.eval y = v) {vs : List Value} (hv : v.cells = vs.toArray)
    (h : At L0 w0 L w) {c : List Value} {T : TypeId} (s : Sel (Part.cells b c T) L F) (hi : (P.info? ty).map (·.size) = some vs.length) (h1 : vs.all (·.oneCell') = true) (hj : j + vs.length ≤ c.length)
    (hK : ∀ w', At L0 w0 (Part.cells b (setL c j vs) T :: F) w' → wpList P ops Q rest (a.put o.dst undef) w') : wpList P ops Q (o :: rest) a w := by
  have hb : BlockIs w b c T := h.get s
  have hs : v.cells.size = vs.length := by rw [hv]; simp
  have h1' : v.cells.all (·.oneCell') = true := by
    rw [hv, Array.all_eq_true_iff_forall_mem]
    intro u hu
    exact List.all_eq_true.1 h1 u (by simpa using hu)
  have hrun := run_storeAt_cells (P := P) w b j ty v (hb.there j _ (by omega)) (by rw [hs]; exact hi) h1'
  rw [show v.cells.toList = vs from by rw [hv]] at hrun
  refine wpList_unit hg ?_ (hK _ (h.stores s j vs))
  simp [execOp, hop, hx, hy, hrun, Result.andThen]

/-- a box -/
theorem wpList_box_at {E : TypeId} {x : Operand} (hg : o.guard = none) (hop : o.op = .box E x) {v : Value} (hx : a.eval x = v) {vs : List Value} (hv : v.cells = vs.toArray) (h : At L0 w0 L w)
    (hK : ∀ b w', At L0 w0 (Part.cells b vs E :: L) w' → w0.heap.size ≤ b → wpList P ops Q rest (a.put o.dst (.pointer (some ⟨b, 0, none⟩))) w') : wpList P ops Q (o :: rest) a w := by
  refine wpList_val hg ?_ (hK _ _ (h.alloc vs E) h.size)
  simp [execOp, hop, hx, Instr.box, newVar, newRow, hv, Result.andThen]

/-- a new variable -/
theorem wpList_alloc_at {E : TypeId} (hg : o.guard = none) (hop : o.op = .alloc E) {z : Value} (hz : (P.info? E).map (·.zero) = some (some z)) {vs : List Value} (hv : z.cells = vs.toArray) (h : At L0 w0 L w)
    (hK : ∀ b w', At L0 w0 (Part.cells b vs E :: L) w' → w0.heap.size ≤ b → wpList P ops Q rest (a.put o.dst (.pointer (some ⟨b, 0, none⟩))) w') : wpList P ops Q (o :: rest) a w := by
  refine wpList_val hg ?_ (hK _ _ (h.alloc vs E) h.size)
  cases hq : P.info? E with
  | none => simp [hq] at hz
  | some i =>
    have hi : i.zero = some z := by simpa [hq] using hz
    simp [execOp, hop, Instr.alloc, zeroValue, typeInfo, hq, hi, newVar, newRow, hv, Result.andThen]

/-! ### Quiet in the class of the worlds in which the same parts stand -/
/-- the class -/
def Cl (L0 : List Part) (w0 : World) (L : List Part) (w : World) : Prop := At L0 w0 L w
theorem Cl.drew (h : At L0 w0 L w) : Cl L0 w0 L w.drew := At.drew h
theorem Cl.none (h : At L0 w0 L w) (p : Prop) : (∀ w', Cl L0 w0 L w' → p) = p := propext ⟨fun q => q w h, fun q _ _ => q⟩
theorem Cl.none2 (h : At L0 w0 L w) (p : Prop) : (∀ w', Cl L0 w0 L w' → w' = w' ∧ p) = p := propext ⟨fun q => (q w h).2, fun q _ _ => ⟨rfl, q⟩⟩
theorem quiet_at {K : Act → Prop} (v : Value) (hrun : ∀ w', At L0 w0 L w' → (execOp a.eval o).run P w' = .ok (.value v) w') (hk : K (a.put o.dst v)) : o.quiet P a (Cl L0 w0 L) K :=
  ⟨v, fun w hw => by unfold Oper.quietAt; rw [hrun w hw]; exact ⟨rfl, rfl⟩, hk⟩
theorem run_load_one {ty : TypeId} {x : Operand} (hop : o.op = .load ty x) {b j : Nat} (hx : a.eval x = .pointer (some ⟨b, j, none⟩)) {c : List Value} {T : TypeId} (hb : BlockIs w b c T) (hu : (P.underlying ty).map (·.isRow) = some false) {v : Value} (hv : c[j]? = some v) :
    (execOp a.eval o).run P w = .ok (.value v) w := by
  obtain ⟨d, hu, hd⟩ := Option.map_eq_some_iff.1 hu
  have hagg : (isAgg ty).run P w = .ok false w := by
    unfold isAgg
    rw [Sem.run_bind, run_underlying hu w]
    cases d <;> simp_all
  have hc : w.cell? ⟨b, j, none⟩ = some v := by rw [hb.cell, hv]
  simp [execOp, hop, hx, Instr.loadAt, Instr.sureAddr, loadVar, Sem.run_bind, hagg, Result.andThen, run_load, hc]
theorem run_load_row {ty : TypeId} {x : Operand} (hop : o.op = .load ty x) {b j : Nat} (hx : a.eval x = .pointer (some ⟨b, j, none⟩)) {c : List Value} {T : TypeId} (hb : BlockIs w b c T) (hu : (P.underlying ty).map (·.isRow) = some true) {n : Nat} (hi : (P.info? ty).map (·.size) = some n) {vs : List Value} (hv : (c.drop j).take n = vs) (hl : vs.length = n) : (execOp a.eval o).run P w = .ok (.value (.agg vs.toArray)) w := by
  obtain ⟨d, hu, hd⟩ := Option.map_eq_some_iff.1 hu
  subst hl
  have hr : w.rangeAt b j vs := fun k v hk => by
    have hlt := (List.getElem?_eq_some_iff.1 hk).1
    rw [← hv, List.getElem?_take, if_pos hlt, List.getElem?_drop] at hk
    rw [hb.cell, hk]
  simp [execOp, hop, hx, run_loadAt_mid w b j ty vs d hr hu hd hi, Result.andThen]
theorem quiet_load_at {K : Act → Prop} {ty : TypeId} {x : Operand} (hop : o.op = .load ty x) {b j : Nat} (hx : a.eval x = .pointer (some ⟨b, j, none⟩)) {c : List Value} {T : TypeId} (s : Sel (Part.cells b c T) L F) (hu : (P.underlying ty).map (·.isRow) = some false) {v : Value} (hv : c[j]? = some v)
    (hk : K (a.put o.dst v)) : o.quiet P a (Cl L0 w0 L) K := quiet_at v (fun _ hw => run_load_one hop hx (hw.get s) hu hv) hk
theorem quiet_loads_at {K : Act → Prop} {ty : TypeId} {x : Operand} (hop : o.op = .load ty x) {b j : Nat} (hx : a.eval x = .pointer (some ⟨b, j, none⟩)) {c : List Value} {T : TypeId} (s : Sel (Part.cells b c T) L F) (hu : (P.underlying ty).map (·.isRow) = some true) {n : Nat} (hi : (P.info? ty).map (·.size) = some n) {vs : List Value} (hv : (c.drop j).take n = vs) (hl : vs.length = n) (hk : K (a.put o.dst (.agg vs.toArray))) : o.quiet P a (Cl L0 w0 L) K := quiet_at _ (fun _ hw => run_load_row hop hx (hw.get s) hu hi hv hl) hk
/-- the worlds of the class, once the region is left -/
theorem Cl.out (h : Cl L0 w0 L w) : At L0 w0 L w := h
/-! ### The same rules in few words -/
theorem wS {ty : TypeId} {x y : Operand} {b j : Nat} {v : Value} {vs c : List Value} {T : TypeId} (h : At L0 w0 L w)
    (hK : ∀ w', At L0 w0 (Part.cells b (setL c j vs) T :: F) w' → wpList P ops Q rest (a.put o.dst undef) w')
    (hg : o.guard = none := by exact rfl) (hop : o.op = .store ty x y := by exact rfl) (hx : a.eval x = .pointer (some ⟨b, j, none⟩) := by exact rfl) (hy : a.eval y = v := by (try simp only [Act.eval, Go.Proofs.YtpbeennielgogaaDoor.eV]) <;> exact rfl)
    (hv : v.cells = vs.toArray := by exact rfl) (s : Sel (Part.cells b c T) L F := by with_reducible repeat (first | exact Go.Proofs.YtpbeennielgogaaDoor.Sel.here | apply Go.Proofs.YtpbeennielgogaaDoor.Sel.there)) (hi : (P.info? ty).map (·.size) = some vs.length := by kernel_rfl)
    (h1 : vs.all (·.oneCell') = true := by exact rfl) (hj : j + vs.length ≤ c.length := by first | decide | (simp; done) | omega) : wpList P ops Q (o :: rest) a w :=
  wpList_store_at hg hop hx hy hv h s hi h1 hj hK
theorem wB {E : TypeId} {x : Operand} {v : Value} {vs : List Value} (h : At L0 w0 L w)
    (hK : ∀ b w', At L0 w0 (Part.cells b vs E :: L) w' → w0.heap.size ≤ b → wpList P ops Q rest (a.put o.dst (.pointer (some ⟨b, 0, none⟩))) w')
    (hg : o.guard = none := by exact rfl) (hop : o.op = .box E x := by exact rfl) (hx : a.eval x = v := by (try simp only [Act.eval, Go.Proofs.YtpbeennielgogaaDoor.eV]) <;> exact rfl) (hv : v.cells = vs.toArray := by exact rfl) : wpList P ops Q (o :: rest) a w :=
  wpList_box_at hg hop hx hv h hK
theorem wX (E : TypeId) (v : Value) (vs : List Value) {x : Operand} (h : At L0 w0 L w)
    (hK : ∀ b w', At L0 w0 (Part.cells b vs E :: L) w' → w0.heap.size ≤ b → wpList P ops Q rest (a.put o.dst (.pointer (some ⟨b, 0, none⟩))) w')
    (hg : o.guard = none := by exact rfl) (hop : o.op = .box E x := by exact rfl) (hx : a.eval x = v := by first | (simp [Act.eval, Act.put]; done) | exact rfl) (hv : v.cells = vs.toArray := by first | exact rfl | kernel_rfl) : wpList P ops Q (o :: rest) a w :=
  wpList_box_at hg hop hx hv h hK
theorem wA (E : TypeId) (z : Value) (vs : List Value) (h : At L0 w0 L w)
    (hK : ∀ b w', At L0 w0 (Part.cells b vs E :: L) w' → w0.heap.size ≤ b → wpList P ops Q rest (a.put o.dst (.pointer (some ⟨b, 0, none⟩))) w')
    (hg : o.guard = none := by exact rfl) (hop : o.op = .alloc E := by exact rfl) (hz : (P.info? E).map (·.zero) = some (some z) := by kernel_rfl) (hv : z.cells = vs.toArray := by exact rfl) : wpList P ops Q (o :: rest) a w :=
  wpList_alloc_at hg hop hz hv h hK
theorem gst {d t p af g x y z} (h : wpList P ops Q ({ dst := d, op := .store x y z, type := t, pos := p, after := af, guard := g } :: rest) a w) : wpList P ops Q ({ dst := d, op := .store x y z, type := t, pos := p, after := af, guard := g } :: rest) a w := h
theorem gbx {d t p af g x y} (h : wpList P ops Q ({ dst := d, op := .box x y, type := t, pos := p, after := af, guard := g } :: rest) a w) : wpList P ops Q ({ dst := d, op := .box x y, type := t, pos := p, after := af, guard := g } :: rest) a w := h
theorem gal {d t p af g x} (h : wpList P ops Q ({ dst := d, op := .alloc x, type := t, pos := p, after := af, guard := g } :: rest) a w) : wpList P ops Q ({ dst := d, op := .alloc x, type := t, pos := p, after := af, guard := g } :: rest) a w := h
end
end Go.Proofs.YtpbeennielgogaaDoor
end
