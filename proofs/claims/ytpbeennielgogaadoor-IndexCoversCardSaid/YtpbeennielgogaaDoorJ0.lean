/- PathP, Base, Base2, Base3, Base4, joined. -/
import Derived.Lib.Join
import Derived.Lib.Bytealg
import Derived.Lib.Strings
import Derived.Lib.Small
import Derived.Lib.IndexLaws
import Derived.WalkKit
import Derived.WalkSpells
import Derived.WalkLawsBesides
import Derived.Lib.Hide
import Derived.Laws.IdiomCopy
import Derived.Lib.SliceRun
import Derived.Maps.AppendAt
import Derived.Deep.AppendLies
section
namespace Go.Proofs.YtpbeennielgogaaDoor.Path
open Go.Lib (compareBytes)
set_option linter.unusedVariables false
set_option linter.unusedSimpArgs false

abbrev Bs := List UInt8
def letB (c : UInt8) : Bool := (decide (97 ≤ c.toNat) && decide (c.toNat ≤ 122)) || (decide (48 ≤ c.toNat) && decide (c.toNat ≤ 57)) || decide (c.toNat = 45) || decide (c.toNat = 95)
def partB (p : Bs) : Bool := !p.isEmpty && p.all letB
/-- the texts between the slashes -/
def splits : Bs → List Bs
  | [] => [[]]
  | c :: r => if c = 47 then [] :: splits r else ((c :: (splits r).headD []) :: (splits r).tail)
def joinS (l : List Bs) : Bs := Lib.join l [47]
def rightB (s : Bs) : Bool := (splits s).all partB && decide ((splits s).length ≤ 8) && decide (s.length ≤ 64)
/-- one more text is taken -/
def stepW (acc : List Bs) (p : Bs) : Option (List Bs) :=
  if p = [] ∨ p = [46] then some acc else if p = [46, 46] then (if acc = [] then none else some acc.dropLast) else if p.all letB = true then some (acc ++ [p]) else none
def walkL : List Bs → List Bs → Option (List Bs)
  | acc, [] => some acc
  | acc, p :: ps => match stepW acc p with
    | none => none
    | some a => walkL a ps
def normL (s : Bs) : Bs × Int := match walkL [] (splits s) with
  | none => ([], 30)
  | some l => if l = [] then ([], 13) else if 8 < l.length then ([], 31) else if 64 < (joinS l).length then ([], 11) else (joinS l, 0)
def partsL (s : Bs) : List Bs := if rightB s = true then splits s else []
def aboveB (p q : Bs) : Bool := rightB p && rightB q && (decide (p = q) || (p ++ [47]).isPrefixOf q)
def overB (p q : Bs) : Bool := aboveB p q || aboveB q p

theorem splits_cons (c : UInt8) (r : Bs) : splits (c :: r) = if c = 47 then [] :: splits r else ((c :: (splits r).headD []) :: (splits r).tail) := rfl
theorem splits_ne (s : Bs) : splits s ≠ [] := by
  cases s with
  | nil => simp [splits]
  | cons c r => rw [splits_cons]; split <;> simp
theorem splits_len (s : Bs) : 1 ≤ (splits s).length := by have := splits_ne s; cases h : splits s <;> simp_all
theorem join_cons (p : Bs) (l : List Bs) (h : l ≠ []) : joinS (p :: l) = p ++ 47 :: joinS l := by
  cases l with
  | nil => exact absurd rfl h
  | cons q r => simp [joinS, Lib.join, List.intercalate, List.intersperse]
theorem join_one (p : Bs) : joinS [p] = p := by simp [joinS, Lib.join_one]
theorem join_splits : ∀ s : Bs, joinS (splits s) = s
  | [] => by simp [splits, join_one]
  | c :: r => by
    have ih := join_splits r
    rw [splits_cons]
    split
    · rename_i h; subst h
      rw [join_cons _ _ (splits_ne r), ih]; rfl
    · cases h : splits r with
      | nil => exact absurd h (splits_ne r)
      | cons p ps =>
        rw [h] at ih
        simp only [List.headD_cons, List.tail_cons]
        cases ps with
        | nil => rw [join_one] at ih ⊢; rw [ih]
        | cons q qs =>
          rw [join_cons _ _ (by simp)] at ih ⊢
          rw [List.cons_append, ih]
theorem splits_noslash : ∀ p : Bs, (∀ c ∈ p, c ≠ 47) → splits p = [p]
  | [], _ => rfl
  | c :: r, h => by
    have ih := splits_noslash r (fun x hx => h x (by simp [hx]))
    rw [splits_cons]
    rw [if_neg (h c (by simp)), ih]; rfl
theorem splits_app : ∀ (p r : Bs), (∀ c ∈ p, c ≠ 47) → splits (p ++ 47 :: r) = p :: splits r
  | [], r, _ => by simp [splits]
  | c :: p, r, h => by
    have ih := splits_app p r (fun x hx => h x (by simp [hx]))
    rw [List.cons_append]
    rw [splits_cons]
    rw [if_neg (h c (by simp)), ih]; rfl
theorem splits_slash : ∀ (p r : Bs), splits (p ++ 47 :: r) = splits p ++ splits r
  | [], r => by simp [splits]
  | c :: p, r => by
    have ih := splits_slash p r
    rw [List.cons_append, splits_cons, splits_cons]
    by_cases h : c = 47
    · rw [if_pos h, if_pos h, ih]; rfl
    · rw [if_neg h, if_neg h, ih]
      cases hs : splits p with
      | nil => exact absurd hs (splits_ne p)
      | cons a b => rfl
theorem splits_join : ∀ (l : List Bs), l ≠ [] → (∀ p ∈ l, ∀ c ∈ p, c ≠ 47) → splits (joinS l) = l
  | [], h, _ => absurd rfl h
  | [p], _, h => by rw [join_one]; exact splits_noslash p (h p (by simp))
  | p :: q :: r, _, h => by
    rw [join_cons _ _ (by simp), splits_app _ _ (h p (by simp)), splits_join (q :: r) (by simp) (fun x hx => h x (by simp [hx]))]
theorem let_noslash {c : UInt8} (h : letB c = true) : c ≠ 47 := by
  intro e; subst e; simp [letB] at h
theorem splits_free : ∀ (s : Bs), ∀ p ∈ splits s, ∀ c ∈ p, c ≠ 47
  | [], p, hp, c, hc => by simp [splits] at hp; subst hp; simp at hc
  | d :: r, p, hp, c, hc => by
    have ih := splits_free r
    rw [splits_cons] at hp
    split at hp
    · rcases List.mem_cons.1 hp with rfl | hp
      · simp at hc
      · exact ih p hp c hc
    · rename_i hd
      cases hs : splits r with
      | nil => exact absurd hs (splits_ne r)
      | cons a b =>
        rw [hs] at hp ih
        simp only [List.headD_cons, List.tail_cons] at hp
        rcases List.mem_cons.1 hp with rfl | hp
        · rcases List.mem_cons.1 hc with rfl | hc
          · exact hd
          · exact ih a (by simp) c hc
        · exact ih p (by simp [hp]) c hc
theorem splits_inj {s t : Bs} (h : splits s = splits t) : s = t := by rw [← join_splits s, h, join_splits]

theorem partB_iff {p : Bs} : partB p = true ↔ p ≠ [] ∧ p.all letB = true := by
  unfold partB; cases p <;> simp
theorem step_part {acc : List Bs} {p : Bs} (h : partB p = true) : stepW acc p = some (acc ++ [p]) := by
  obtain ⟨h1, h2⟩ := partB_iff.1 h
  unfold stepW
  rw [if_neg, if_neg, if_pos h2]
  · intro e; subst e; simp [letB] at h2
  · rintro (e | e)
    · exact h1 e
    · subst e; simp [letB] at h2
theorem walk_parts : ∀ (l acc : List Bs), (∀ p ∈ l, partB p = true) → walkL acc l = some (acc ++ l)
  | [], acc, _ => by simp [walkL]
  | p :: r, acc, h => by
    rw [walkL, step_part (h p (by simp))]
    simp only
    rw [walk_parts r _ (fun x hx => h x (by simp [hx]))]
    simp
theorem step_keeps {acc a : List Bs} {p : Bs} (h : stepW acc p = some a) (hacc : ∀ q ∈ acc, partB q = true) : ∀ q ∈ a, partB q = true := by
  unfold stepW at h
  split at h
  · cases h; exact hacc
  · split at h
    · split at h
      · cases h
      · cases h; exact fun q hq => hacc q (List.dropLast_subset _ hq)
    · split at h
      · cases h
        rename_i h1 h2 h3
        intro q hq
        rcases List.mem_append.1 hq with hq | hq
        · exact hacc q hq
        · rw [List.mem_singleton.1 hq, partB_iff]
          exact ⟨fun e => h1 (.inl e), h3⟩
      · cases h
theorem walk_keeps : ∀ {l acc a : List Bs}, walkL acc l = some a → (∀ q ∈ acc, partB q = true) → ∀ q ∈ a, partB q = true
  | [], acc, a, h, hacc => by simp [walkL] at h; subst h; exact hacc
  | p :: r, acc, a, h, hacc => by
    rw [walkL] at h
    cases hs : stepW acc p with
    | none => simp [hs] at h
    | some b => simp only [hs] at h; exact walk_keeps h (step_keeps hs hacc)
theorem part_free {p : Bs} (h : partB p = true) : ∀ c ∈ p, c ≠ 47 := fun c hc => let_noslash (List.all_eq_true.1 (partB_iff.1 h).2 c hc)
theorem right_norm (s : Bs) : ((normL s).2 = 0 ∧ (normL s).1 = s) ↔ rightB s = true := by
  constructor
  · rintro ⟨h1, h2⟩
    unfold normL at h1 h2
    cases hw : walkL [] (splits s) with
    | none => simp [hw] at h1
    | some l =>
      simp only [hw] at h1 h2
      by_cases e1 : l = []
      · simp [e1] at h1
      · rw [if_neg e1] at h1 h2
        by_cases e2 : 8 < l.length
        · simp [e2] at h1
        · rw [if_neg e2] at h1 h2
          by_cases e3 : 64 < (joinS l).length
          · simp [e3] at h1
          · rw [if_neg e3] at h1 h2
            simp only at h2
            have hp := walk_keeps hw (by simp)
            have hs : splits s = l := by rw [← h2]; exact splits_join l e1 (fun p hp' => part_free (hp p hp'))
            unfold rightB
            rw [hs]
            simp only [Bool.and_eq_true, decide_eq_true_eq, List.all_eq_true]
            rw [h2] at e3
            exact ⟨⟨hp, by omega⟩, by omega⟩
  · intro h
    unfold rightB at h
    simp only [Bool.and_eq_true, decide_eq_true_eq, List.all_eq_true] at h
    obtain ⟨⟨h1, h2⟩, h3⟩ := h
    have hw := walk_parts (splits s) [] h1
    unfold normL
    rw [hw]
    simp only [List.nil_append]
    rw [if_neg (splits_ne s), if_neg (by omega), join_splits, if_neg (by omega)]
    exact ⟨rfl, rfl⟩
theorem parts_right {s : Bs} (h : rightB s = true) : walkL [] (splits s) = some (splits s) := by
  unfold rightB at h
  simp only [Bool.and_eq_true, List.all_eq_true] at h
  simpa using walk_parts (splits s) [] h.1.1
theorem above_iff (p q : Bs) : splits p <+: splits q ↔ p = q ∨ (p ++ [47]) <+: q := by
  constructor
  · rintro ⟨r, hr⟩
    cases r with
    | nil => exact .inl (splits_inj (by simpa using hr))
    | cons a b =>
      right
      have e : q = p ++ 47 :: joinS (a :: b) := by
        apply splits_inj
        rw [splits_slash, ← hr, splits_join (a :: b) (by simp) (fun x hx => splits_free q x (by rw [← hr]; exact List.mem_append_right _ hx))]
      rw [e]
      exact ⟨joinS (a :: b), by simp⟩
  · rintro (rfl | ⟨t, rfl⟩)
    · exact List.prefix_refl _
    · rw [show p ++ [47] ++ t = p ++ 47 :: t by simp, splits_slash]
      exact List.prefix_append _ _
theorem aboveB_parts {p q : Bs} : aboveB p q = (rightB p && rightB q && decide (splits p <+: splits q)) := by
  unfold aboveB
  congr 1
  rw [Bool.eq_iff_iff]
  simp only [Bool.or_eq_true, decide_eq_true_eq, List.isPrefixOf_iff_prefix]
  exact (above_iff p q).symm
theorem over_comm (p q : Bs) : overB p q = overB q p := by unfold overB; exact Bool.or_comm _ _
theorem over_right {p q : Bs} (h : overB p q = true) : rightB p = true ∧ rightB q = true := by
  unfold overB aboveB at h
  cases hp : rightB p <;> cases hq : rightB q <;> simp_all
theorem over_self {p : Bs} (h : rightB p = true) : overB p p = true := by simp [overB, aboveB, h]

/-! ### The order -/
/-- texts, one by one -/
def cmpL : List Bs → List Bs → Int
  | [], [] => 0
  | [], _ :: _ => -1
  | _ :: _, [] => 1
  | a :: r, b :: t => if compareBytes a b = 0 then cmpL r t else compareBytes a b
def cmpP (p q : Bs) : Int := if rightB p = true ∧ rightB q = true then cmpL (splits p) (splits q) else compareBytes p q
theorem u8_eq {x y : UInt8} (h1 : ¬ x < y) (h2 : ¬ y < x) : x = y := by
  apply UInt8.toNat_inj.1
  have a1 : ¬ x.toNat < y.toNat := fun q => h1 (UInt8.lt_iff_toNat_lt.2 q)
  have a2 : ¬ y.toNat < x.toNat := fun q => h2 (UInt8.lt_iff_toNat_lt.2 q)
  omega
theorem cb_eq : ∀ {a b : Bs}, compareBytes a b = 0 → a = b
  | [], [], _ => rfl
  | [], _ :: _, h => by simp [compareBytes] at h
  | _ :: _, [], h => by simp [compareBytes] at h
  | x :: a, y :: b, h => by
    rw [compareBytes] at h
    by_cases h1 : x < y
    · simp [h1] at h
    · by_cases h2 : y < x
      · simp [h1, h2] at h
      · rw [if_neg h1, if_neg h2] at h
        have : x = y := u8_eq h1 h2
        rw [this, cb_eq h]
theorem cb_self : ∀ a : Bs, compareBytes a a = 0
  | [] => rfl
  | x :: a => by
    rw [compareBytes, if_neg (fun q => by have := UInt8.lt_iff_toNat_lt.1 q; omega), if_neg (fun q => by have := UInt8.lt_iff_toNat_lt.1 q; omega), cb_self a]
theorem cb_anti : ∀ a b : Bs, compareBytes a b = - compareBytes b a
  | [], [] => rfl
  | [], _ :: _ => rfl
  | _ :: _, [] => rfl
  | x :: a, y :: b => by
    rw [compareBytes, compareBytes, cb_anti a b]
    by_cases h1 : x < y
    · have h2 : ¬ y < x := fun q => by have := UInt8.lt_iff_toNat_lt.1 q; have := UInt8.lt_iff_toNat_lt.1 h1; omega
      simp [h1, h2]
    · by_cases h2 : y < x <;> simp [h1, h2]
theorem cb_three (a b : Bs) : compareBytes a b = -1 ∨ compareBytes a b = 0 ∨ compareBytes a b = 1 := by
  induction a generalizing b with
  | nil => cases b <;> simp [compareBytes]
  | cons x a ih =>
    cases b with
    | nil => simp [compareBytes]
    | cons y b =>
      rw [compareBytes]
      split
      · simp
      · split
        · simp
        · exact ih b
theorem cb_trans : ∀ {a b c : Bs}, compareBytes a b < 0 → compareBytes b c < 0 → compareBytes a c < 0
  | [], _ :: _, _ :: _, _, _ => by simp [compareBytes]
  | [], [], _, h, _ => by simp [compareBytes] at h
  | _ :: _, [], _, h, _ => by simp [compareBytes] at h
  | _, _ :: _, [], _, h => by simp [compareBytes] at h
  | x :: a, y :: b, z :: c, h1, h2 => by
    rw [compareBytes] at h1 h2 ⊢
    by_cases q1 : x < y
    · by_cases q2 : y < z
      · have : x < z := UInt8.lt_iff_toNat_lt.2 (by have := UInt8.lt_iff_toNat_lt.1 q1; have := UInt8.lt_iff_toNat_lt.1 q2; omega)
        simp [this]
      · by_cases q3 : z < y
        · simp [q2, q3] at h2
        · have : y = z := u8_eq q2 q3
          subst this
          simp [q1]
    · by_cases q4 : y < x
      · simp [q1, q4] at h1
      · have : x = y := u8_eq q1 q4
        subst this
        rw [if_neg q1, if_neg q1] at h1
        by_cases q2 : x < z
        · simp [q2]
        · by_cases q3 : z < x
          · simp [q2, q3] at h2
          · rw [if_neg q2, if_neg q3] at h2 ⊢
            exact cb_trans h1 h2
theorem cl_eq : ∀ {a b : List Bs}, cmpL a b = 0 → a = b
  | [], [], _ => rfl
  | [], _ :: _, h => by simp [cmpL] at h
  | _ :: _, [], h => by simp [cmpL] at h
  | x :: a, y :: b, h => by
    rw [cmpL] at h
    by_cases h1 : compareBytes x y = 0
    · rw [if_pos h1] at h
      rw [cb_eq h1, cl_eq h]
    · rw [if_neg h1] at h; exact absurd h h1
theorem cl_self : ∀ a : List Bs, cmpL a a = 0
  | [] => rfl
  | x :: a => by rw [cmpL, if_pos (cb_self x), cl_self a]
theorem cl_anti : ∀ a b : List Bs, cmpL a b = - cmpL b a
  | [], [] => rfl
  | [], _ :: _ => rfl
  | _ :: _, [] => rfl
  | x :: a, y :: b => by
    rw [cmpL, cmpL, cl_anti a b, cb_anti x y]
    by_cases h : compareBytes y x = 0 <;> simp [h]
theorem cl_three (a b : List Bs) : cmpL a b = -1 ∨ cmpL a b = 0 ∨ cmpL a b = 1 := by
  induction a generalizing b with
  | nil => cases b <;> simp [cmpL]
  | cons x a ih =>
    cases b with
    | nil => simp [cmpL]
    | cons y b =>
      rw [cmpL]
      split
      · exact ih b
      · exact cb_three x y
theorem cl_trans : ∀ {a b c : List Bs}, cmpL a b < 0 → cmpL b c < 0 → cmpL a c < 0
  | [], _ :: _, _ :: _, _, _ => by simp [cmpL]
  | [], [], _, h, _ => by simp [cmpL] at h
  | _ :: _, [], _, h, _ => by simp [cmpL] at h
  | _, _ :: _, [], _, h => by simp [cmpL] at h
  | x :: a, y :: b, z :: c, h1, h2 => by
    rw [cmpL] at h1 h2 ⊢
    by_cases q1 : compareBytes x y = 0
    · have := cb_eq q1
      subst this
      rw [if_pos q1] at h1
      by_cases q2 : compareBytes x z = 0
      · rw [if_pos q2] at h2 ⊢
        exact cl_trans h1 h2
      · rw [if_neg q2] at h2 ⊢; exact h2
    · rw [if_neg q1] at h1
      by_cases q2 : compareBytes y z = 0
      · have := cb_eq q2
        subst this
        rw [if_neg q1]; exact h1
      · rw [if_neg q2] at h2
        have h3 := cb_trans h1 h2
        rw [if_neg (by omega)]; exact h3
end Go.Proofs.YtpbeennielgogaaDoor.Path
end

section
namespace Go.Proofs.YtpbeennielgogaaDoor
open Go.RowKit
set_option linter.unusedVariables false
set_option linter.unusedSimpArgs false

/-- nothing that was there has turned; blocks may have come -/
def Ext (w w' : World) : Prop := Below w.heap.size w w'
theorem Ext.refl (w : World) : Ext w w := Below.refl _ _
theorem Ext.size {w w' : World} (h : Ext w w') : w.heap.size ≤ w'.heap.size := Below.size h
theorem Ext.trans {a b c : World} (h : Ext a b) (k : Ext b c) : Ext a c := Below.trans h (Below.mono k (Below.size h))
theorem Ext.drew {a b : World} (h : Ext a b) : Ext a b.drew := Below.drew h
theorem Ext.alloc {a b : World} (h : Ext a b) (o : Obj) : Ext a (b.alloc o) := Below.alloc h (Below.size h) o
theorem Ext.setCell {a b : World} (h : Ext a b) {p : Addr} (hp : a.heap.size ≤ p.block) (u : Value) : Ext a (b.setCell p u) := Below.setCell h hp u
theorem Ext.cell {w w' : World} (h : Ext w w') {p : Addr} (hp : p.block < w.heap.size) : w'.cell? p = w.cell? p := Below.cell h hp
theorem Ext.frozen {w w' : World} (h : Ext w w') {p : Addr} (hp : p.block < w.heap.size) : w'.frozen? p = w.frozen? p := Below.frozen h hp
theorem Ext.cells {w w' : World} (h : Ext w w') : ∀ b o, b < w.heap.size → w'.cell? ⟨b, o, none⟩ = w.cell? ⟨b, o, none⟩ := fun _ _ hb => h.cell hb
theorem Ext.marks {w w' : World} (h : Ext w w') : ∀ b o, b < w.heap.size → w'.frozen? ⟨b, o, none⟩ = w.frozen? ⟨b, o, none⟩ := fun _ _ hb => h.frozen hb
theorem Ext.of_grown {w w' : World} (h : Below w.heap.size w w') : Ext w w' := h
theorem cell_lt {w : World} {b o : Nat} {v : Value} (h : w.cell? ⟨b, o, none⟩ = some v) : b < w.heap.size := by
  by_cases hb : b < w.heap.size
  · exact hb
  · have : w.heap[b]? = none := by simp; omega
    simp [World.cell?, this] at h
theorem Ext.cell_of {w w' : World} (h : Ext w w') {b o : Nat} {v : Value} (hc : w.cell? ⟨b, o, none⟩ = some v) : w'.cell? ⟨b, o, none⟩ = some v := by
  rw [h.cell (cell_lt hc)]; exact hc

/-- but for the blocks of S nothing that was there has turned; blocks may have come -/
structure Exc (S : Nat → Prop) (w w' : World) : Prop where
  os : w'.os = w.os
  tape : w'.tape = w.tape
  output : w'.output = w.output
  size : w.heap.size ≤ w'.heap.size
  block : ∀ k, k < w.heap.size → ¬ S k → w'.heap[k]? = w.heap[k]?
theorem Exc.refl (S : Nat → Prop) (w : World) : Exc S w w := ⟨rfl, rfl, rfl, Nat.le_refl _, fun _ _ _ => rfl⟩
theorem Exc.trans {S : Nat → Prop} {a b c : World} (h : Exc S a b) (k : Exc S b c) : Exc S a c :=
  ⟨k.os.trans h.os, k.tape.trans h.tape, k.output.trans h.output, Nat.le_trans h.size k.size, fun i hi hs => (k.block i (Nat.lt_of_lt_of_le hi h.size) hs).trans (h.block i hi hs)⟩
theorem Exc.mono {S T : Nat → Prop} {a b : World} (h : Exc S a b) (hs : ∀ k, k < a.heap.size → S k → T k) : Exc T a b :=
  ⟨h.os, h.tape, h.output, h.size, fun k hk ht => h.block k hk (fun s => ht (hs k hk s))⟩
theorem Ext.exc {a b : World} (h : Ext a b) (S : Nat → Prop) : Exc S a b := ⟨Below.os h, Below.tape h, Below.output h, Below.size h, fun k hk _ => Below.block h k hk⟩
theorem Exc.ext {S : Nat → Prop} {a b : World} (h : Exc S a b) (hs : ∀ k, k < a.heap.size → ¬ S k) : Ext a b := ⟨h.os, h.tape, h.output, h.size, fun k hk => h.block k hk (hs k hk)⟩
theorem Exc.below {B : Nat} {a b : World} (h : Exc (fun k => B ≤ k) a b) (hB : B ≤ a.heap.size) : Below B a b := ⟨h.os, h.tape, h.output, h.size, fun k hk => h.block k (by omega) (by omega)⟩
theorem Exc.of_below {B : Nat} {a b : World} (h : Below B a b) : Exc (fun k => B ≤ k) a b := ⟨h.os, h.tape, h.output, h.size, fun k _ hs => h.block k (by omega)⟩
theorem Exc.drew {S : Nat → Prop} {a b : World} (h : Exc S a b) : Exc S a b.drew := ⟨h.os, h.tape, h.output, h.size, h.block⟩
theorem Exc.alloc {S : Nat → Prop} {a b : World} (h : Exc S a b) (o : Obj) : Exc S a (b.alloc o) :=
  h.trans (((Ext.refl b).alloc o).exc S)
theorem Exc.setCell {S : Nat → Prop} {a b : World} (h : Exc S a b) {p : Addr} (hp : S p.block ∨ a.heap.size ≤ p.block) (u : Value) : Exc S a (b.setCell p u) :=
  ⟨h.os, h.tape, h.output, by have := h.size; simpa [World.setCell] using this, fun k hk hs => by
    rw [Below.heap_setCell _ _ _ _ (fun e => by subst e; rcases hp with hp | hp; exact hs hp; omega)]; exact h.block k hk hs⟩
theorem Exc.cell {S : Nat → Prop} {w w' : World} (h : Exc S w w') {p : Addr} (hp : p.block < w.heap.size) (hs : ¬ S p.block) : w'.cell? p = w.cell? p := World.cell?_of_block (w := w) (h.block p.block hp hs)

/-- a slice of ints reads as a list -/
def IntsAt (w : World) (v : Value) (xs : List Int) : Prop :=
  ∃ a cap, v = .slice a xs.length cap ∧ ∀ j, j < xs.length → ∃ b off, a = some ⟨b, off, none⟩ ∧ w.cell? ⟨b, off + j, none⟩ = some (.int .i64 (xs.getD j 0))
theorem IntsAt.ext {w w' : World} {v : Value} {xs : List Int} (h : IntsAt w v xs) (he : Ext w w') : IntsAt w' v xs := by
  obtain ⟨a, cap, hv, hc⟩ := h
  refine ⟨a, cap, hv, fun j hj => ?_⟩
  obtain ⟨b, off, ha, hx⟩ := hc j hj
  exact ⟨b, off, ha, he.cell_of hx⟩
theorem ints2 {w : World} {b cap : Nat} {x y : Int} (h0 : w.cell? ⟨b, 0, none⟩ = some (.int .i64 x)) (h1 : w.cell? ⟨b, 1, none⟩ = some (.int .i64 y)) : IntsAt w (.slice (some ⟨b, 0, none⟩) 2 cap) [x, y] := by
  refine ⟨_, cap, rfl, ?_⟩
  rintro (_ | _ | j) hj
  · exact ⟨b, 0, rfl, by simpa using h0⟩
  · exact ⟨b, 0, rfl, by simpa using h1⟩
  · simp at hj; omega
theorem spot_none {w : World} {a : Addr} {v : Value} (h : w.cell? a = some v) : a = ⟨a.block, a.off, none⟩ := by
  obtain ⟨b, o, s⟩ := a
  cases s with
  | none => rfl
  | some s =>
    unfold World.cell? at h
    split at h <;> simp at h
theorem row_at {w : World} {x : Addr} {n : Nat} {f : Nat → Value} (hc : ∀ i, i < n → w.cell? (x.add i) = some (f i)) : ∀ j, j < n → ∃ b off, some x = some (⟨b, off, none⟩ : Addr) ∧ w.cell? ⟨b, off + j, none⟩ = some (f j) := by
  intro j hj
  have h0 := hc 0 (by omega)
  have hx : x.add 0 = x := by simp [Addr.add]
  rw [hx] at h0
  have hs := spot_none h0
  refine ⟨x.block, x.off, congrArg some hs, ?_⟩
  have hj' := hc j hj
  by_cases h : j = 0
  · subst h; rw [hx] at hj'; rw [Nat.add_zero, ← hs]; exact hj'
  · simpa [Addr.add, h] using hj'
theorem intsAt_row {w : World} {x : Addr} {len cap : Nat} {zs : List Int} (hl : len ≤ cap) (hz : zs.length = cap) (hc : ∀ i, i < zs.length → w.cell? (x.add i) = some (.int .i64 (zs.getD i 0))) :
    IntsAt w (.slice (some x) len cap) (zs.take len) := by
  have hlen : (zs.take len).length = len := by simp; omega
  refine ⟨some x, cap, by rw [hlen], ?_⟩
  rw [hlen]
  intro j hj
  obtain ⟨b, off, h1, h2⟩ := row_at hc j (by omega)
  refine ⟨b, off, h1, ?_⟩
  rw [h2]
  simp [hj]
theorem intsAt_nil (w : World) : IntsAt w (.slice none 0 0) [] := ⟨none, 0, rfl, fun j hj => by simp at hj⟩
theorem take_snocD (xs : List Int) (k : Nat) (h : k < xs.length) : xs.take (k + 1) = xs.take k ++ [xs.getD k 0] := by
  rw [List.take_succ_eq_append_getElem h]; simp [List.getD, List.getElem?_eq_getElem h]
/-- a block known whole -/
def BlockIs (w : World) (b : Nat) (c : List Value) (T : TypeId) : Prop := w.heap[b]? = some (.cells c.toArray T (0, 0))
theorem BlockIs.cell {w : World} {b : Nat} {c : List Value} {T : TypeId} (h : BlockIs w b c T) (j : Nat) : w.cell? ⟨b, j, none⟩ = c[j]? := by
  unfold BlockIs at h; simp [World.cell?, h]
theorem BlockIs.free {w : World} {b : Nat} {c : List Value} {T : TypeId} (h : BlockIs w b c T) (j : Nat) : w.frozen? ⟨b, j, none⟩ = false := by
  unfold BlockIs at h; simp [World.frozen?, h]
theorem BlockIs.lt {w : World} {b : Nat} {c : List Value} {T : TypeId} (h : BlockIs w b c T) : b < w.heap.size := by
  unfold BlockIs at h
  by_cases hb : b < w.heap.size
  · exact hb
  · simp [Array.getElem?_eq_none (by omega : w.heap.size ≤ b)] at h
theorem BlockIs.set {w : World} {b : Nat} {c : List Value} {T : TypeId} (h : BlockIs w b c T) (j : Nat) (v : Value) : BlockIs (w.setCell ⟨b, j, none⟩ v) b (c.set j v) T := by
  unfold BlockIs at *
  simp [World.setCell, Array.getElem?_modify, h]
theorem BlockIs.same {w w' : World} {b : Nat} {c : List Value} {T : TypeId} (h : BlockIs w b c T) (e : w'.heap[b]? = w.heap[b]?) : BlockIs w' b c T := by unfold BlockIs at *; rw [e]; exact h
theorem BlockIs.ext {w w' : World} {b : Nat} {c : List Value} {T : TypeId} (h : BlockIs w b c T) (e : Ext w w') : BlockIs w' b c T := h.same (Below.block e b h.lt)
theorem BlockIs.exc {S : Nat → Prop} {w w' : World} {b : Nat} {c : List Value} {T : TypeId} (h : BlockIs w b c T) (e : Exc S w w') (hs : ¬ S b) : BlockIs w' b c T := h.same (e.block b h.lt hs)
theorem BlockIs.alloc (w : World) (c : List Value) (T : TypeId) : BlockIs (w.alloc (.cells c.toArray T)) w.heap.size c T := by
  show (w.heap.push _)[w.heap.size]? = _
  simp
theorem BlockIs.other {w : World} {b : Nat} {c : List Value} {T : TypeId} (h : BlockIs w b c T) {p : Addr} (hp : b ≠ p.block) (v : Value) : BlockIs (w.setCell p v) b c T :=
  h.same (Below.heap_setCell _ _ _ _ hp)
/-- a row written from a place on -/
def setL : List Value → Nat → List Value → List Value
  | c, _, [] => c
  | c, o, v :: vs => setL (c.set o v) (o + 1) vs
theorem setL_length : ∀ (vs : List Value) (c : List Value) (o : Nat), (setL c o vs).length = c.length
  | [], _, _ => rfl
  | v :: vs, c, o => by rw [setL, setL_length vs]; simp
theorem setL_before : ∀ (vs : List Value) (c : List Value) (o j : Nat), j < o → (setL c o vs)[j]? = c[j]?
  | [], _, _, _, _ => rfl
  | v :: vs, c, o, j, h => by rw [setL, setL_before vs _ _ _ (by omega), List.getElem?_set_ne (by omega)]
theorem setL_after : ∀ (vs : List Value) (c : List Value) (o j : Nat), o + vs.length ≤ j → (setL c o vs)[j]? = c[j]?
  | [], _, _, _, _ => rfl
  | v :: vs, c, o, j, h => by rw [List.length_cons] at h; rw [setL, setL_after vs _ _ _ (by omega), List.getElem?_set_ne (by omega)]
theorem setL_in : ∀ (vs : List Value) (c : List Value) (o j : Nat), o + vs.length ≤ c.length → j < vs.length → (setL c o vs)[o + j]? = vs[j]?
  | [], _, _, _, _, h => by simp at h
  | v :: vs, c, o, j, hl, h => by
    rw [List.length_cons] at hl h
    rw [setL]
    cases j with
    | zero => rw [setL_before vs _ _ _ (by omega)]; simp [List.getElem?_set]; omega
    | succ j => rw [show o + (j + 1) = o + 1 + j by omega, setL_in vs _ (o + 1) j (by simp; omega) (by omega)]; simp
theorem BlockIs.setCells {b : Nat} {T : TypeId} : ∀ (vs : List Value) (o : Nat) {w : World} {c : List Value}, BlockIs w b c T → BlockIs (w.setCells b o vs) b (setL c o vs) T
  | [], _, _, _, h => h
  | v :: vs, o, w, c, h => BlockIs.setCells vs (o + 1) (h.set o v)
theorem Exc.setCells {S : Nat → Prop} {a : World} {b : Nat} (hb : S b ∨ a.heap.size ≤ b) : ∀ (vs : List Value) (o : Nat) (x : World), Exc S a x → Exc S a (x.setCells b o vs)
  | [], _, _, h => h
  | v :: vs, o, _, h => Exc.setCells hb vs (o + 1) _ (h.setCell (p := ⟨b, o, none⟩) hb v)
end Go.Proofs.YtpbeennielgogaaDoor
end

section
namespace Go.Proofs.YtpbeennielgogaaDoor
open Go.RowKit
set_option linter.unusedVariables false
set_option linter.unusedSimpArgs false
theorem Ext.drewN {a b : World} (h : Ext a b) (n : Nat) : Ext a (b.drewN n) := ⟨h.os, h.tape, h.output, h.size, h.block⟩
theorem Exc.drewN {S : Nat → Prop} {a b : World} (h : Exc S a b) (n : Nat) : Exc S a (b.drewN n) := ⟨h.os, h.tape, h.output, h.size, h.block⟩
theorem own_block_le {w : World} {base : Nat} {T : TypeId} {size : Nat} {v : Value} {n : Nat} {xs : List Value} (h : w.ownsRow base T size v n xs) : ∀ k, v.ownBlock = some k → base ≤ k := by
  obtain ⟨_, ⟨rfl, _⟩ | ⟨g, cap, cur, rfl, hg, _⟩⟩ := h
  · intro k hk; simp [Value.ownBlock] at hk
  · intro k hk; simp [Value.ownBlock] at hk; omega
theorem Ext.grown {a w w' : World} {row : Option Nat} (h : Ext a w) (hg : w.grownBy w' row) (hr : ∀ k, row = some k → a.heap.size ≤ k) : Ext a w' := Below.grown h hg (Below.size h) hr
theorem one_cell {w : World} {v : Value} {T : TypeId} (j : Nat) (u : Value) (h : [v][j]? = some u) : (w.alloc (.cells #[v] T)).cell? ((⟨w.heap.size, 0, none⟩ : Addr).add j) = some u := by
  cases j with
  | zero => simp at h; subst h; simp [Addr.add]
  | succ j => simp at h
theorem grown_base {w w' : World} {T : TypeId} {c : Array Value} {base : Nat} (h : base ≤ w.heap.size) : base ≤ (w.alloc (.cells c T)).heap.size := by simp; omega
/-- an owned row of one-cell elements: its block -/
theorem own_open {w : World} {base : Nat} {T : TypeId} {v : Value} {n : Nat} {xs : List Value} (h : w.ownsRow base T 1 v n xs) (hn : 0 < n) :
    ∃ g cap c, v = .slice (some ⟨g, 0, none⟩) n cap ∧ base ≤ g ∧ BlockIs w g c T ∧ n ≤ cap ∧ c.length = cap ∧ (∀ j, j < n → c[j]? = xs[j]?) := by
  obtain ⟨hl, ⟨_, h0⟩ | ⟨g, cap, cur, hv, hg, hh, hc, _, hs, ht⟩⟩ := h
  · omega
  · refine ⟨g, cap, cur.toList, hv, hg, by unfold BlockIs; simpa using hh, hc, by simpa using hs, fun j hj => ?_⟩
    rw [← ht, List.getElem?_take, if_pos (by omega)]
theorem BlockIs.three {w : World} {b : Nat} {x y z : Value} {T : TypeId} (h : BlockIs w b [x, y, z] T) :
    w.cell? ⟨b, 0, none⟩ = some x ∧ w.cell? ⟨b, 1, none⟩ = some y ∧ w.cell? ⟨b, 2, none⟩ = some z ∧ w.frozen? ⟨b, 0, none⟩ = false ∧ w.frozen? ⟨b, 1, none⟩ = false ∧ w.frozen? ⟨b, 2, none⟩ = false ∧ b < w.heap.size :=
  ⟨by rw [h.cell]; rfl, by rw [h.cell]; rfl, by rw [h.cell]; rfl, h.free _, h.free _, h.free _, h.lt⟩
theorem BlockIs.two {w : World} {b : Nat} {x y : Value} {T : TypeId} (h : BlockIs w b [x, y] T) :
    w.cell? ⟨b, 0, none⟩ = some x ∧ w.cell? ⟨b, 1, none⟩ = some y ∧ w.frozen? ⟨b, 0, none⟩ = false ∧ w.frozen? ⟨b, 1, none⟩ = false ∧ b < w.heap.size :=
  ⟨by rw [h.cell]; rfl, by rw [h.cell]; rfl, h.free _, h.free _, h.lt⟩
theorem BlockIs.new {w : World} {c : List Value} {T : TypeId} {b : Nat} (hb : b = w.heap.size) : BlockIs (w.alloc (.cells c.toArray T)) b c T := by subst hb; exact BlockIs.alloc w c T
end Go.Proofs.YtpbeennielgogaaDoor
end

section
namespace Go.Proofs.YtpbeennielgogaaDoor
open Go.RowKit
set_option linter.unusedVariables false
set_option linter.unusedSimpArgs false
theorem run_clear_any {P : Program} (w : World) (t e ty : TypeId) (z : Value) (ht : P.underlying t = some (.slice e)) (hv : ∀ w, (zeroValue e).run P w = .ok z w) (h1 : ∀ v ∈ (Builtin.zeroCells z.cells 1).toList, v.oneCell' = true) (b o c : Nat)
    (hc : ∀ j, j < z.cells.size → (w.cell? ⟨b, o + j, none⟩).isSome = true) (hf : ∀ j, j < z.cells.size → w.frozen? ⟨b, o + j, none⟩ = false) :
    (Builtin.clear_ #[t] ty #[.slice (some ⟨b, o, none⟩) 1 c]).run P w = .ok (.tuple #[]) (w.setCells b o (Builtin.zeroCells z.cells 1).toList) := by
  have hl : (Builtin.zeroCells z.cells 1).toList.length = z.cells.size := by simp [Builtin.zeroCells]
  have hst := run_storeCells_cells (P := P) b o (Builtin.zeroCells z.cells 1).toList 0 w (by intro j hj; simpa using hc j (by omega)) (by intro j hj; simpa using hf j (by omega)) h1
  simp only [Nat.add_zero] at hst
  simp [Builtin.clear_, run_underlying ht, hv, hst]
theorem Exc.setB (S : Nat → Prop) {a w : World} {b : Nat} (hb : S b) (h : Exc S a w) (o : Nat) (v : Value) : Exc S a (w.setCell ⟨b, o, none⟩ v) := h.setCell (.inl hb) v
/-- an owned row's block, known whole -/
theorem own_block {w : World} {base : Nat} {T : TypeId} {size : Nat} {g n cap : Nat} {xs : List Value} (h : w.ownsRow base T size (.slice (some ⟨g, 0, none⟩) n cap) n xs) :
    ∃ c, BlockIs w g c T ∧ c.length = cap * size ∧ n ≤ cap ∧ cap ≤ maxLen ∧ c.take (n * size) = xs ∧ xs.length = n * size := by
  obtain ⟨hl, ⟨h0, _⟩ | ⟨g', cap', cur, hv, _, hh, hc, hm, hs, ht⟩⟩ := h
  · cases h0
  · cases hv
    exact ⟨cur.toList, by unfold BlockIs; simpa using hh, by simpa using hs, hc, hm, ht, hl⟩
theorem own_of {w : World} {T : TypeId} {size : Nat} {g n cap : Nat} {c : List Value} (hb : BlockIs w g c T) (hl : c.length = cap * size) (hn : n ≤ cap) (hm : cap ≤ maxLen) :
    w.ownsRow 0 T size (.slice (some ⟨g, 0, none⟩) n cap) n (c.take (n * size)) := by
  refine ⟨?_, .inr ⟨g, cap, c.toArray, rfl, Nat.zero_le _, hb, hn, hm, by simpa using hl, by simp⟩⟩
  rw [List.length_take, hl]
  have : n * size ≤ cap * size := Nat.mul_le_mul_right _ hn
  omega
end Go.Proofs.YtpbeennielgogaaDoor
end

section
namespace Go.Proofs.YtpbeennielgogaaDoor
open Go.RowKit
set_option linter.unusedVariables false
set_option linter.unusedSimpArgs false

section
variable {P : Program}
theorem run_append_none (w : World) (base : Nat) (t ty e : TypeId) (i : TypeInfo) (size : Nat) (ht : P.underlying t = some (.slice e)) (hi : P.info? e = some i)
    (v : Value) (n : Nat) (xs : List Value) (hown : w.ownsRow base e size v n xs) (c : Nat) :
    (Builtin.append_ #[t, t] ty #[v, .slice none 0 c]).run P w = .ok v w := by
  rcases hown.2 with ⟨rfl, rfl⟩ | ⟨g, cap, cur, rfl, hbg, hg, hnc, hcm, hcs, htake⟩
  · simp [Builtin.append_, run_underlying ht, sizeOf, typeInfo, hi, Builtin.lenOf, Builtin.firstCells]
  · simp [Builtin.append_, run_underlying ht, sizeOf, typeInfo, hi, Builtin.lenOf, Builtin.firstCells, hnc, storeCells]
/-- a row that is read: its cells -/
def Reads (w : World) (x : Value) (m : Nat) (news : List Value) : Prop :=
  ∃ ax c, x = .slice ax m c ∧ (ax = none → m = 0) ∧ ∀ j u, news[j]? = some u → ∃ b off, ax = some ⟨b, off, none⟩ ∧ w.cell? ⟨b, off + j, none⟩ = some u
theorem run_append_all (w : World) (base : Nat) (t ty e : TypeId) (i : TypeInfo) (z : Value) (size bytes : Nat) (ht : P.underlying t = some (.slice e)) (hi : P.info? e = some i) (hz : i.zero = some z)
    (hsize : i.size = size) (hby : i.bytes = bytes) (hzs : z.cells.size = size) (hsz : 0 < size)
    (v : Value) (n : Nat) (xs : List Value) (hown : w.ownsRow base e size v n xs)
    (x : Value) (m : Nat) (news : List Value) (hl : news.length = m * size) (hx : Reads w x m news) (h1 : ∀ u ∈ news, u.oneCell' = true)
    (h63 : n + m ≤ maxLen) (hbytes : (n + m) * bytes ≤ 140737488355328) (hbase : base ≤ w.heap.size) :
    ∃ v' w', (Builtin.append_ #[t, t] ty #[v, x]).run P w = .ok v' w' ∧ w'.ownsRow base e size v' (n + m) (xs ++ news) ∧ w.grownBy w' v.ownBlock ∧
      (v'.ownBlock = v.ownBlock ∨ v'.ownBlock = some w.heap.size) := by
  obtain ⟨ax, c, rfl, hax, hnews⟩ := hx
  cases ax with
  | none =>
    have hm : m = 0 := hax rfl
    subst hm
    have hn : news = [] := List.eq_nil_of_length_eq_zero (by simpa using hl)
    subst hn
    exact ⟨v, w, run_append_none w base t ty e i size ht hi v n xs hown c, by simpa using hown, ⟨rfl, rfl, rfl, Nat.le_refl _, fun _ _ _ => rfl⟩, .inl rfl⟩
  | some ad =>
    obtain ⟨v', w', h1, h2, h3, _, h5⟩ := run_append_own_at (P := P) w base t ty e i z size bytes ht hi hz hsize hby hzs hsz v n xs hown ad m c news hl (fun j u hj => by
      obtain ⟨b', off', e', hc⟩ := hnews j u hj
      cases e'
      rw [Addr.add_lit]
      exact hc) h1 h63 hbytes hbase
    exact ⟨v', w', h1, h2, h3, h5⟩
theorem wp_append_all (w : World) {o : Oper} {a : Act} {K : Act → World → Prop} {Q : Exit → Act → World → Prop} (s x : Operand) (t : TypeId)
    (ho : o.op = .call { callee := .builtin .append, args := #[s, x], argTypes := #[t, t] })
    (base : Nat) (e : TypeId) (i : TypeInfo) (z : Value) (size bytes : Nat) (ht : P.underlying t = some (.slice e)) (hi : P.info? e = some i) (hz : i.zero = some z)
    (hsize : i.size = size) (hby : i.bytes = bytes) (hzs : z.cells.size = size) (hsz : 0 < size)
    (v : Value) (n : Nat) (xs : List Value) (hs : a.eval s = v) (hown : w.ownsRow base e size v n xs)
    (xv : Value) (m : Nat) (news : List Value) (hxv : a.eval x = xv) (hl : news.length = m * size) (hx : Reads w xv m news) (h1 : ∀ u ∈ news, u.oneCell' = true)
    (h63 : n + m ≤ maxLen) (hbytes : (n + m) * bytes ≤ 140737488355328) (hbase : base ≤ w.heap.size)
    (h : ∀ v' w', w'.ownsRow base e size v' (n + m) (xs ++ news) → w.grownBy w' v.ownBlock → (v'.ownBlock = v.ownBlock ∨ v'.ownBlock = some w.heap.size) → K (a.put o.dst v') w') : o.wp P a w K Q := by
  obtain ⟨v', w', hr, h2, h3, h4⟩ := run_append_all (P := P) w base t o.type e i z size bytes ht hi hz hsize hby hzs hsz v n xs hown xv m news hl hx h1 h63 hbytes hbase
  unfold Oper.wp execOp
  simp only [ho, resolve, invoke, builtin, Sem.run_bind, Sem.run_pure, Result.andThen_ok, List.map_toArray, List.map_cons, List.map_nil, hs, hxv, hr]
  exact h v' w' h2 h3 h4
theorem wpList_append_all (w : World) {ops : Array Oper} {rest : List Oper} {o : Oper} {a : Act} {Q : Exit → Act → World → Prop} (hgd : o.guard = none) (s x : Operand) (t : TypeId)
    (ho : o.op = .call { callee := .builtin .append, args := #[s, x], argTypes := #[t, t] })
    (base : Nat) (e : TypeId) (i : TypeInfo) (z : Value) (size bytes : Nat) (ht : P.underlying t = some (.slice e)) (hi : P.info? e = some i) (hz : i.zero = some z)
    (hsize : i.size = size) (hby : i.bytes = bytes) (hzs : z.cells.size = size) (hsz : 0 < size)
    (v : Value) (n : Nat) (xs : List Value) (hs : a.eval s = v) (hown : w.ownsRow base e size v n xs)
    (xv : Value) (m : Nat) (news : List Value) (hxv : a.eval x = xv) (hl : news.length = m * size) (hx : Reads w xv m news) (h1 : ∀ u ∈ news, u.oneCell' = true)
    (h63 : n + m ≤ maxLen) (hbytes : (n + m) * bytes ≤ 140737488355328) (hbase : base ≤ w.heap.size)
    (h : ∀ v' w', w'.ownsRow base e size v' (n + m) (xs ++ news) → w.grownBy w' v.ownBlock → (v'.ownBlock = v.ownBlock ∨ v'.ownBlock = some w.heap.size) → wpList P ops Q rest (a.put o.dst v') w') : wpList P ops Q (o :: rest) a w :=
  wpList_plain hgd fun _ hK => wp_append_all w s x t ho base e i z size bytes ht hi hz hsize hby hzs hsz v n xs hs hown xv m news hxv hl hx h1 h63 hbytes hbase fun v' w' h2 h3 h4 => hK _ _ (h v' w' h2 h3 h4)
theorem step_append_all (w : World) {ops : Array Oper} {o : Oper} {a : Act} {K : Act → World → Prop} {Q : Exit → Act → World → Prop} {E : Prop} (hgd : o.guard = none) (s x : Operand) (t : TypeId)
    (ho : o.op = .call { callee := .builtin .append, args := #[s, x], argTypes := #[t, t] })
    (base : Nat) (e : TypeId) (i : TypeInfo) (z : Value) (size bytes : Nat) (ht : P.underlying t = some (.slice e)) (hi : P.info? e = some i) (hz : i.zero = some z)
    (hsize : i.size = size) (hby : i.bytes = bytes) (hzs : z.cells.size = size) (hsz : 0 < size)
    (v : Value) (n : Nat) (xs : List Value) (hs : a.eval s = v) (hown : w.ownsRow base e size v n xs)
    (xv : Value) (m : Nat) (news : List Value) (hxv : a.eval x = xv) (hl : news.length = m * size) (hx : Reads w xv m news) (h1 : ∀ u ∈ news, u.oneCell' = true)
    (h63 : n + m ≤ maxLen) (hbytes : (n + m) * bytes ≤ 140737488355328) (hbase : base ≤ w.heap.size)
    (h : ∀ v' w', w'.ownsRow base e size v' (n + m) (xs ++ news) → w.grownBy w' v.ownBlock → (v'.ownBlock = v.ownBlock ∨ v'.ownBlock = some w.heap.size) → K (a.put o.dst v') w') :
    if Region.wanted o (yielded ops a.tmps) = true then Oper.wp P o a w K Q else E := by
  have hw : Region.wanted o (yielded ops a.tmps) = true := by simp [Region.wanted, hgd]
  rw [if_pos hw]
  exact wp_append_all w s x t ho base e i z size bytes ht hi hz hsize hby hzs hsz v n xs hs hown xv m news hxv hl hx h1 h63 hbytes hbase h
end

theorem own_reads {w : World} {base : Nat} {T : TypeId} {size : Nat} {v : Value} {n : Nat} {xs : List Value} (h : w.ownsRow base T size v n xs) : Reads w v n xs := by
  rcases h.2 with ⟨rfl, rfl⟩ | ⟨g, cap, cur, rfl, _⟩
  · have : xs = [] := List.eq_nil_of_length_eq_zero (by simpa using h.1)
    subst this
    exact ⟨none, 0, rfl, fun _ => rfl, fun j u hj => by simp at hj⟩
  · refine ⟨some ⟨g, 0, none⟩, cap, rfl, nofun, fun j u hj => ⟨g, 0, rfl, ?_⟩⟩
    have := h.cells (g := g) rfl j u hj
    rw [Addr.add_lit] at this
    exact this
theorem Reads.ext {w w' : World} {x : Value} {m : Nat} {news : List Value} (h : Reads w x m news) (e : Ext w w') : Reads w' x m news := by
  obtain ⟨ax, c, hx, ha, hn⟩ := h
  refine ⟨ax, c, hx, ha, fun j u hj => ?_⟩
  obtain ⟨b, off, h1, h2⟩ := hn j u hj
  exact ⟨b, off, h1, e.cell_of h2⟩
theorem Reads.new (w : World) (c : List Value) (T : TypeId) (m cap : Nat) : Reads (w.alloc (.cells c.toArray T)) (.slice (some ⟨w.heap.size, 0, none⟩) m cap) m c := by
  refine ⟨_, _, rfl, nofun, fun j u hj => ⟨_, 0, rfl, ?_⟩⟩
  rw [Nat.zero_add]
  exact ((BlockIs.alloc w c T).cell j).trans hj
/-- a new row without elements -/
theorem own_new0 (w : World) (T : TypeId) (size : Nat) : (w.alloc (.cells #[] T)).ownsRow w.heap.size T size (.slice (some ⟨w.heap.size, 0, none⟩) 0 0) 0 [] :=
  ⟨by simp, .inr ⟨w.heap.size, 0, #[], rfl, Nat.le_refl _, heap_alloc_new w _, Nat.le_refl _, Nat.zero_le _, by simp, by simp⟩⟩
theorem own_base {w : World} {base b : Nat} {T : TypeId} {size : Nat} {v : Value} {n : Nat} {xs : List Value} (h : w.ownsRow base T size v n xs) (hb : b ≤ base) : w.ownsRow b T size v n xs := by
  obtain ⟨h1, h2 | ⟨g, cap, cur, hv, hg, r⟩⟩ := h
  · exact ⟨h1, .inl h2⟩
  · exact ⟨h1, .inr ⟨g, cap, cur, hv, Nat.le_trans hb hg, r⟩⟩
theorem own_ge {w : World} {base : Nat} {T : TypeId} {size : Nat} {v : Value} {n : Nat} {xs : List Value} (h : w.ownsRow base T size v n xs) (g : Nat) (hg : v.ownBlock = some g) : base ≤ g := by
  rcases h.2 with ⟨rfl, _⟩ | ⟨q, cap, cur, rfl, hb, _⟩
  · exact nomatch hg
  · cases hg
    exact hb
theorem own_ext {w w' : World} {base : Nat} {T : TypeId} {size : Nat} {v : Value} {n : Nat} {xs : List Value} (h : w.ownsRow base T size v n xs) (e : Ext w w') : w'.ownsRow base T size v n xs := by
  rcases h.2 with h2 | ⟨g, cap, cur, hv, hg, hh, r⟩
  · exact ⟨h.1, .inl h2⟩
  · refine ⟨h.1, .inr ⟨g, cap, cur, hv, hg, ?_, r⟩⟩
    have hlt : g < w.heap.size := by
      rcases Nat.lt_or_ge g w.heap.size with q | q
      · exact q
      · rw [Array.getElem?_eq_none q] at hh; cases hh
    rw [Below.block e g hlt]
    exact hh
end Go.Proofs.YtpbeennielgogaaDoor
end
