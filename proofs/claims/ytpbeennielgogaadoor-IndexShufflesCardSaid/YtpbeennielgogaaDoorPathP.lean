/- The plain law of paths: a text's parts between slashes, when it is a path, which path lies above which. No program in sight. -/
import Derived.Lib.Join
import Derived.Lib.Bytealg
import Derived.Lib.Strings
import Derived.Lib.Small
import Derived.Lib.IndexLaws
namespace Go.Proofs.YtpbeennielgogaaDoor.Path
open Go.Lib (compareBytes)
set_option linter.unusedVariables false
set_option linter.unusedSimpArgs false

abbrev Bs := List UInt8
def letB (c : UInt8) : Bool := (decide (97 ≤ c.toNat) && decide (c.toNat ≤ 122)) || (decide (48 ≤ c.toNat) && decide (c.toNat ≤ 57)) || decide (c.toNat = 45) || decide (c.toNat = 95)
def partB (p : Bs) : Bool := !p.isEmpty && p.all letB
/-- the texts between the slashes -/
def splits : Bs → List Bs
  | [] => [[]]
  | c :: r => if c = 47 then [] :: splits r else ((c :: (splits r).headD []) :: (splits r).tail)
def joinS (l : List Bs) : Bs := Lib.join l [47]
def rightB (s : Bs) : Bool := (splits s).all partB && decide ((splits s).length ≤ 8) && decide (s.length ≤ 64)
/-- one more text is taken -/
def stepW (acc : List Bs) (p : Bs) : Option (List Bs) :=
  if p = [] ∨ p = [46] then some acc else if p = [46, 46] then (if acc = [] then none else some acc.dropLast) else if p.all letB = true then some (acc ++ [p]) else none
def walkL : List Bs → List Bs → Option (List Bs)
  | acc, [] => some acc
  | acc, p :: ps => match stepW acc p with
    | none => none
    | some a => walkL a ps
def normL (s : Bs) : Bs × Int := match walkL [] (splits s) with
  | none => ([], 30)
  | some l => if l = [] then ([], 13) else if 8 < l.length then ([], 31) else if 64 < (joinS l).length then ([], 11) else (joinS l, 0)
def partsL (s : Bs) : List Bs := if rightB s = true then splits s else []
def aboveB (p q : Bs) : Bool := rightB p && rightB q && (decide (p = q) || (p ++ [47]).isPrefixOf q)
def overB (p q : Bs) : Bool := aboveB p q || aboveB q p

theorem splits_cons (c : UInt8) (r : Bs) : splits (c :: r) = if c = 47 then [] :: splits r else ((c :: (splits r).headD []) :: (splits r).tail) := rfl
theorem splits_ne (s : Bs) : splits s ≠ [] := by
  cases s with
  | nil => simp [splits]
  | cons c r => rw [splits_cons]; split <;> simp
theorem splits_len (s : Bs) : 1 ≤ (splits s).length := by have := splits_ne s; cases h : splits s <;> simp_all
theorem join_cons (p : Bs) (l : List Bs) (h : l ≠ []) : joinS (p :: l) = p ++ 47 :: joinS l := by
  cases l with
  | nil => exact absurd rfl h
  | cons q r => simp [joinS, Lib.join, List.intercalate, List.intersperse]
theorem join_one (p : Bs) : joinS [p] = p := by simp [joinS, Lib.join_one]
theorem join_splits : ∀ s : Bs, joinS (splits s) = s
  | [] => by simp [splits, join_one]
  | c :: r => by
    have ih := join_splits r
    rw [splits_cons]
    split
    · rename_i h; subst h
      rw [join_cons _ _ (splits_ne r), ih]; rfl
    · cases h : splits r with
      | nil => exact absurd h (splits_ne r)
      | cons p ps =>
        rw [h] at ih
        simp only [List.headD_cons, List.tail_cons]
        cases ps with
        | nil => rw [join_one] at ih ⊢; rw [ih]
        | cons q qs =>
          rw [join_cons _ _ (by simp)] at ih ⊢
          rw [List.cons_append, ih]
theorem splits_noslash : ∀ p : Bs, (∀ c ∈ p, c ≠ 47) → splits p = [p]
  | [], _ => rfl
  | c :: r, h => by
    have ih := splits_noslash r (fun x hx => h x (by simp [hx]))
    rw [splits_cons]
    rw [if_neg (h c (by simp)), ih]; rfl
theorem splits_app : ∀ (p r : Bs), (∀ c ∈ p, c ≠ 47) → splits (p ++ 47 :: r) = p :: splits r
  | [], r, _ => by simp [splits]
  | c :: p, r, h => by
    have ih := splits_app p r (fun x hx => h x (by simp [hx]))
    rw [List.cons_append]
    rw [splits_cons]
    rw [if_neg (h c (by simp)), ih]; rfl
theorem splits_slash : ∀ (p r : Bs), splits (p ++ 47 :: r) = splits p ++ splits r
  | [], r => by simp [splits]
  | c :: p, r => by
    have ih := splits_slash p r
    rw [List.cons_append, splits_cons, splits_cons]
    by_cases h : c = 47
    · rw [if_pos h, if_pos h, ih]; rfl
    · rw [if_neg h, if_neg h, ih]
      cases hs : splits p with
      | nil => exact absurd hs (splits_ne p)
      | cons a b => rfl
theorem splits_join : ∀ (l : List Bs), l ≠ [] → (∀ p ∈ l, ∀ c ∈ p, c ≠ 47) → splits (joinS l) = l
  | [], h, _ => absurd rfl h
  | [p], _, h => by rw [join_one]; exact splits_noslash p (h p (by simp))
  | p :: q :: r, _, h => by
    rw [join_cons _ _ (by simp), splits_app _ _ (h p (by simp)), splits_join (q :: r) (by simp) (fun x hx => h x (by simp [hx]))]
theorem let_noslash {c : UInt8} (h : letB c = true) : c ≠ 47 := by
  intro e; subst e; simp [letB] at h
theorem splits_free : ∀ (s : Bs), ∀ p ∈ splits s, ∀ c ∈ p, c ≠ 47
  | [], p, hp, c, hc => by simp [splits] at hp; subst hp; simp at hc
  | d :: r, p, hp, c, hc => by
    have ih := splits_free r
    rw [splits_cons] at hp
    split at hp
    · rcases List.mem_cons.1 hp with rfl | hp
      · simp at hc
      · exact ih p hp c hc
    · rename_i hd
      cases hs : splits r with
      | nil => exact absurd hs (splits_ne r)
      | cons a b =>
        rw [hs] at hp ih
        simp only [List.headD_cons, List.tail_cons] at hp
        rcases List.mem_cons.1 hp with rfl | hp
        · rcases List.mem_cons.1 hc with rfl | hc
          · exact hd
          · exact ih a (by simp) c hc
        · exact ih p (by simp [hp]) c hc
theorem splits_inj {s t : Bs} (h : splits s = splits t) : s = t := by rw [← join_splits s, h, join_splits]

theorem partB_iff {p : Bs} : partB p = true ↔ p ≠ [] ∧ p.all letB = true := by
  unfold partB; cases p <;> simp
theorem step_part {acc : List Bs} {p : Bs} (h : partB p = true) : stepW acc p = some (acc ++ [p]) := by
  obtain ⟨h1, h2⟩ := partB_iff.1 h
  unfold stepW
  rw [if_neg, if_neg, if_pos h2]
  · intro e; subst e; simp [letB] at h2
  · rintro (e | e)
    · exact h1 e
    · subst e; simp [letB] at h2
theorem walk_parts : ∀ (l acc : List Bs), (∀ p ∈ l, partB p = true) → walkL acc l = some (acc ++ l)
  | [], acc, _ => by simp [walkL]
  | p :: r, acc, h => by
    rw [walkL, step_part (h p (by simp))]
    simp only
    rw [walk_parts r _ (fun x hx => h x (by simp [hx]))]
    simp
theorem step_keeps {acc a : List Bs} {p : Bs} (h : stepW acc p = some a) (hacc : ∀ q ∈ acc, partB q = true) : ∀ q ∈ a, partB q = true := by
  unfold stepW at h
  split at h
  · cases h; exact hacc
  · split at h
    · split at h
      · cases h
      · cases h; exact fun q hq => hacc q (List.dropLast_subset _ hq)
    · split at h
      · cases h
        rename_i h1 h2 h3
        intro q hq
        rcases List.mem_append.1 hq with hq | hq
        · exact hacc q hq
        · rw [List.mem_singleton.1 hq, partB_iff]
          exact ⟨fun e => h1 (.inl e), h3⟩
      · cases h
theorem walk_keeps : ∀ {l acc a : List Bs}, walkL acc l = some a → (∀ q ∈ acc, partB q = true) → ∀ q ∈ a, partB q = true
  | [], acc, a, h, hacc => by simp [walkL] at h; subst h; exact hacc
  | p :: r, acc, a, h, hacc => by
    rw [walkL] at h
    cases hs : stepW acc p with
    | none => simp [hs] at h
    | some b => simp only [hs] at h; exact walk_keeps h (step_keeps hs hacc)
theorem part_free {p : Bs} (h : partB p = true) : ∀ c ∈ p, c ≠ 47 := fun c hc => let_noslash (List.all_eq_true.1 (partB_iff.1 h).2 c hc)
theorem right_norm (s : Bs) : ((normL s).2 = 0 ∧ (normL s).1 = s) ↔ rightB s = true := by
  constructor
  · rintro ⟨h1, h2⟩
    unfold normL at h1 h2
    cases hw : walkL [] (splits s) with
    | none => simp [hw] at h1
    | some l =>
      simp only [hw] at h1 h2
      by_cases e1 : l = []
      · simp [e1] at h1
      · rw [if_neg e1] at h1 h2
        by_cases e2 : 8 < l.length
        · simp [e2] at h1
        · rw [if_neg e2] at h1 h2
          by_cases e3 : 64 < (joinS l).length
          · simp [e3] at h1
          · rw [if_neg e3] at h1 h2
            simp only at h2
            have hp := walk_keeps hw (by simp)
            have hs : splits s = l := by rw [← h2]; exact splits_join l e1 (fun p hp' => part_free (hp p hp'))
            unfold rightB
            rw [hs]
            simp only [Bool.and_eq_true, decide_eq_true_eq, List.all_eq_true]
            rw [h2] at e3
            exact ⟨⟨hp, by omega⟩, by omega⟩
  · intro h
    unfold rightB at h
    simp only [Bool.and_eq_true, decide_eq_true_eq, List.all_eq_true] at h
    obtain ⟨⟨h1, h2⟩, h3⟩ := h
    have hw := walk_parts (splits s) [] h1
    unfold normL
    rw [hw]
    simp only [List.nil_append]
    rw [if_neg (splits_ne s), if_neg (by omega), join_splits, if_neg (by omega)]
    exact ⟨rfl, rfl⟩
theorem parts_right {s : Bs} (h : rightB s = true) : walkL [] (splits s) = some (splits s) := by
  unfold rightB at h
  simp only [Bool.and_eq_true, List.all_eq_true] at h
  simpa using walk_parts (splits s) [] h.1.1
theorem above_iff (p q : Bs) : splits p <+: splits q ↔ p = q ∨ (p ++ [47]) <+: q := by
  constructor
  · rintro ⟨r, hr⟩
    cases r with
    | nil => exact .inl (splits_inj (by simpa using hr))
    | cons a b =>
      right
      have e : q = p ++ 47 :: joinS (a :: b) := by
        apply splits_inj
        rw [splits_slash, ← hr, splits_join (a :: b) (by simp) (fun x hx => splits_free q x (by rw [← hr]; exact List.mem_append_right _ hx))]
      rw [e]
      exact ⟨joinS (a :: b), by simp⟩
  · rintro (rfl | ⟨t, rfl⟩)
    · exact List.prefix_refl _
    · rw [show p ++ [47] ++ t = p ++ 47 :: t by simp, splits_slash]
      exact List.prefix_append _ _
theorem aboveB_parts {p q : Bs} : aboveB p q = (rightB p && rightB q && decide (splits p <+: splits q)) := by
  unfold aboveB
  congr 1
  rw [Bool.eq_iff_iff]
  simp only [Bool.or_eq_true, decide_eq_true_eq, List.isPrefixOf_iff_prefix]
  exact (above_iff p q).symm
theorem over_comm (p q : Bs) : overB p q = overB q p := by unfold overB; exact Bool.or_comm _ _
theorem over_right {p q : Bs} (h : overB p q = true) : rightB p = true ∧ rightB q = true := by
  unfold overB aboveB at h
  cases hp : rightB p <;> cases hq : rightB q <;> simp_all
theorem over_self {p : Bs} (h : rightB p = true) : overB p p = true := by simp [overB, aboveB, h]

/-! ### The order -/
/-- texts, one by one -/
def cmpL : List Bs → List Bs → Int
  | [], [] => 0
  | [], _ :: _ => -1
  | _ :: _, [] => 1
  | a :: r, b :: t => if compareBytes a b = 0 then cmpL r t else compareBytes a b
def cmpP (p q : Bs) : Int := if rightB p = true ∧ rightB q = true then cmpL (splits p) (splits q) else compareBytes p q
theorem u8_eq {x y : UInt8} (h1 : ¬ x < y) (h2 : ¬ y < x) : x = y := by
  apply UInt8.toNat_inj.1
  have a1 : ¬ x.toNat < y.toNat := fun q => h1 (UInt8.lt_iff_toNat_lt.2 q)
  have a2 : ¬ y.toNat < x.toNat := fun q => h2 (UInt8.lt_iff_toNat_lt.2 q)
  omega
theorem cb_eq : ∀ {a b : Bs}, compareBytes a b = 0 → a = b
  | [], [], _ => rfl
  | [], _ :: _, h => by simp [compareBytes] at h
  | _ :: _, [], h => by simp [compareBytes] at h
  | x :: a, y :: b, h => by
    rw [compareBytes] at h
    by_cases h1 : x < y
    · simp [h1] at h
    · by_cases h2 : y < x
      · simp [h1, h2] at h
      · rw [if_neg h1, if_neg h2] at h
        have : x = y := u8_eq h1 h2
        rw [this, cb_eq h]
theorem cb_self : ∀ a : Bs, compareBytes a a = 0
  | [] => rfl
  | x :: a => by
    rw [compareBytes, if_neg (fun q => by have := UInt8.lt_iff_toNat_lt.1 q; omega), if_neg (fun q => by have := UInt8.lt_iff_toNat_lt.1 q; omega), cb_self a]
theorem cb_anti : ∀ a b : Bs, compareBytes a b = - compareBytes b a
  | [], [] => rfl
  | [], _ :: _ => rfl
  | _ :: _, [] => rfl
  | x :: a, y :: b => by
    rw [compareBytes, compareBytes, cb_anti a b]
    by_cases h1 : x < y
    · have h2 : ¬ y < x := fun q => by have := UInt8.lt_iff_toNat_lt.1 q; have := UInt8.lt_iff_toNat_lt.1 h1; omega
      simp [h1, h2]
    · by_cases h2 : y < x <;> simp [h1, h2]
theorem cb_three (a b : Bs) : compareBytes a b = -1 ∨ compareBytes a b = 0 ∨ compareBytes a b = 1 := by
  induction a generalizing b with
  | nil => cases b <;> simp [compareBytes]
  | cons x a ih =>
    cases b with
    | nil => simp [compareBytes]
    | cons y b =>
      rw [compareBytes]
      split
      · simp
      · split
        · simp
        · exact ih b
theorem cb_trans : ∀ {a b c : Bs}, compareBytes a b < 0 → compareBytes b c < 0 → compareBytes a c < 0
  | [], _ :: _, _ :: _, _, _ => by simp [compareBytes]
  | [], [], _, h, _ => by simp [compareBytes] at h
  | _ :: _, [], _, h, _ => by simp [compareBytes] at h
  | _, _ :: _, [], _, h => by simp [compareBytes] at h
  | x :: a, y :: b, z :: c, h1, h2 => by
    rw [compareBytes] at h1 h2 ⊢
    by_cases q1 : x < y
    · by_cases q2 : y < z
      · have : x < z := UInt8.lt_iff_toNat_lt.2 (by have := UInt8.lt_iff_toNat_lt.1 q1; have := UInt8.lt_iff_toNat_lt.1 q2; omega)
        simp [this]
      · by_cases q3 : z < y
        · simp [q2, q3] at h2
        · have : y = z := u8_eq q2 q3
          subst this
          simp [q1]
    · by_cases q4 : y < x
      · simp [q1, q4] at h1
      · have : x = y := u8_eq q1 q4
        subst this
        rw [if_neg q1, if_neg q1] at h1
        by_cases q2 : x < z
        · simp [q2]
        · by_cases q3 : z < x
          · simp [q2, q3] at h2
          · rw [if_neg q2, if_neg q3] at h2 ⊢
            exact cb_trans h1 h2
theorem cl_eq : ∀ {a b : List Bs}, cmpL a b = 0 → a = b
  | [], [], _ => rfl
  | [], _ :: _, h => by simp [cmpL] at h
  | _ :: _, [], h => by simp [cmpL] at h
  | x :: a, y :: b, h => by
    rw [cmpL] at h
    by_cases h1 : compareBytes x y = 0
    · rw [if_pos h1] at h
      rw [cb_eq h1, cl_eq h]
    · rw [if_neg h1] at h; exact absurd h h1
theorem cl_self : ∀ a : List Bs, cmpL a a = 0
  | [] => rfl
  | x :: a => by rw [cmpL, if_pos (cb_self x), cl_self a]
theorem cl_anti : ∀ a b : List Bs, cmpL a b = - cmpL b a
  | [], [] => rfl
  | [], _ :: _ => rfl
  | _ :: _, [] => rfl
  | x :: a, y :: b => by
    rw [cmpL, cmpL, cl_anti a b, cb_anti x y]
    by_cases h : compareBytes y x = 0 <;> simp [h]
theorem cl_three (a b : List Bs) : cmpL a b = -1 ∨ cmpL a b = 0 ∨ cmpL a b = 1 := by
  induction a generalizing b with
  | nil => cases b <;> simp [cmpL]
  | cons x a ih =>
    cases b with
    | nil => simp [cmpL]
    | cons y b =>
      rw [cmpL]
      split
      · exact ih b
      · exact cb_three x y
theorem cl_trans : ∀ {a b c : List Bs}, cmpL a b < 0 → cmpL b c < 0 → cmpL a c < 0
  | [], _ :: _, _ :: _, _, _ => by simp [cmpL]
  | [], [], _, h, _ => by simp [cmpL] at h
  | _ :: _, [], _, h, _ => by simp [cmpL] at h
  | _, _ :: _, [], _, h => by simp [cmpL] at h
  | x :: a, y :: b, z :: c, h1, h2 => by
    rw [cmpL] at h1 h2 ⊢
    by_cases q1 : compareBytes x y = 0
    · have := cb_eq q1
      subst this
      rw [if_pos q1] at h1
      by_cases q2 : compareBytes x z = 0
      · rw [if_pos q2] at h2 ⊢
        exact cl_trans h1 h2
      · rw [if_neg q2] at h2 ⊢; exact h2
    · rw [if_neg q1] at h1
      by_cases q2 : compareBytes y z = 0
      · have := cb_eq q2
        subst this
        rw [if_neg q1]; exact h1
      · rw [if_neg q2] at h2
        have h3 := cb_trans h1 h2
        rw [if_neg (by omega)]; exact h3
end Go.Proofs.YtpbeennielgogaaDoor.Path
