/- TarB, TarC, GraM, Row4, joined. -/
import Derived.Test.YtgicohkmfbbbdaaJ7
import Derived.Test.YtgicohkmfbbbdaaJ2
import Derived.Test.YtgicohkmfbbbdaaJ6
section
namespace Go.Proofs.Ytgicohkmfbbbdaa.Tar
set_option linter.unusedVariables false
set_option linter.unusedSimpArgs false

/-- each node's knot -/
structure Kn (nx : Nat → List Nat) (n : Nat) (kn : Nat → Nat) (found : Nat) : Prop where
  hn : ∀ x, x < n → ∀ y ∈ nx x, y < n
  pos : ∀ x, x < n → kn x ≠ 0
  le : ∀ x, kn x ≤ found
  edge : ∀ x, x < n → ∀ y ∈ nx x, kn y ≤ kn x
  same : ∀ x y, x < n → kn x = kn y → R nx x y
theorem kn_final {nx : Nat → List Nat} {n : Nat} {s : TS} (hn : ∀ x, x < n → ∀ y ∈ nx x, y < n) (hi : Inv nx n s) (hw : s.wk = []) (hall : ∀ x, x < n → s.num x ≠ 0) : Kn nx n s.knot s.found := by
  have hst : s.stk = [] := by
    have := hi.seg
    rw [hw] at this
    generalize s.stk = st at this
    cases this
    rfl
  have hp : ∀ x, x < n → s.knot x ≠ 0 := fun x hx => hi.done x hx (hall x hx) (by
    cases ho : s.on x with
    | false => rfl
    | true => have := (hi.onI x).1 ho; rw [hst] at this; cases this)
  exact ⟨hn, hp, hi.kf, fun x hx y hy => (hi.edge x (hp x hx) y hy).2, fun x y hx e => hi.same x y (hp x hx) e⟩
section
variable {nx : Nat → List Nat} {n : Nat} {kn : Nat → Nat} {found : Nat}
theorem Kn.reach (h : Kn nx n kn found) {x y : Nat} (r : R nx x y) (hx : x < n) : kn y ≤ kn x := by
  induction r with
  | refl _ => exact Nat.le_refl _
  | step e _ ih => exact Nat.le_trans (ih (h.hn _ hx _ e)) (h.edge _ hx _ e)
theorem Kn.both (h : Kn nx n kn found) {x y : Nat} (hx : x < n) (hy : y < n) : kn x = kn y ↔ R nx x y ∧ R nx y x :=
  ⟨fun e => ⟨h.same x y hx e, h.same y x hy e.symm⟩, fun ⟨a, b⟩ => Nat.le_antisymm (h.reach b hy) (h.reach a hx)⟩

/-- a node whose knot has not come, and leads only to those that have -/
def freeP (nx : Nat → List Nat) (n : Nat) (kn : Nat → Nat) (gone : List Nat) (i : Nat) : Bool :=
  !gone.contains (kn i) && (List.range n).all fun x => !(kn x == kn i) || (nx x).all fun y => kn y == kn i || gone.contains (kn y)
def freeD (n : Nat) (t : Nat → Nat → Bool) (come : Nat → Bool) (i : Nat) : Bool :=
  !come i && (List.range n).all fun k => come k || !t i k || t k i
theorem freeP_iff {gone : List Nat} {i : Nat} : freeP nx n kn gone i = true ↔ kn i ∉ gone ∧ ∀ x, x < n → kn x = kn i → ∀ y ∈ nx x, kn y = kn i ∨ kn y ∈ gone := by
  unfold freeP
  simp only [Bool.and_eq_true, Bool.not_eq_true', List.all_eq_true, List.mem_range, Bool.or_eq_true, beq_iff_eq, beq_eq_false_iff_ne, List.contains_iff_mem, ne_eq]
  constructor
  · rintro ⟨h1, h2⟩
    refine ⟨fun q => ?_, fun x hx e y hy => ?_⟩
    · rw [List.contains_iff_mem.2 q] at h1; cases h1
    · rcases h2 x hx with q | q
      · exact absurd e q
      · exact q y hy
  · rintro ⟨h1, h2⟩
    refine ⟨?_, fun x hx => ?_⟩
    · cases hq : gone.contains (kn i) with
      | false => rfl
      | true => exact absurd (List.contains_iff_mem.1 hq) h1
    · by_cases e : kn x = kn i
      · exact .inr fun y hy => h2 x hx e y hy
      · exact .inl e
theorem freeD_iff {t : Nat → Nat → Bool} {come : Nat → Bool} {i : Nat} : freeD n t come i = true ↔ come i = false ∧ ∀ k, k < n → come k = true ∨ t i k = false ∨ t k i = true := by
  unfold freeD
  simp only [Bool.and_eq_true, Bool.not_eq_true', List.all_eq_true, List.mem_range, Bool.or_eq_true, or_assoc]
/-- what has come is closed -/
def Shut (nx : Nat → List Nat) (n : Nat) (kn : Nat → Nat) (gone : List Nat) : Prop := ∀ x, x < n → kn x ∈ gone → ∀ y ∈ nx x, kn y ∈ gone
theorem shut_reach (h : Kn nx n kn found) {gone : List Nat} (hs : Shut nx n kn gone) {x y : Nat} (r : R nx x y) (hx : x < n) (hg : kn x ∈ gone) : kn y ∈ gone := by
  induction r with
  | refl _ => exact hg
  | step e _ ih => exact ih (h.hn _ hx _ e) (hs _ hx hg _ e)
theorem shut_next (h : Kn nx n kn found) {gone : List Nat} (hs : Shut nx n kn gone) {i : Nat} (hf : freeP nx n kn gone i = true) : Shut nx n kn (kn i :: gone) := by
  have hf := freeP_iff.1 hf
  intro x hx hg y hy
  rcases List.mem_cons.1 hg with q | q
  · rcases hf.2 x hx q y hy with r | r <;> simp [r]
  · simp [hs x hx q y hy]
theorem free_same (h : Kn nx n kn found) {gone : List Nat} (hs : Shut nx n kn gone) {t : Nat → Nat → Bool} {come : Nat → Bool} (ht : ∀ i k, i < n → k < n → (t i k = true ↔ R nx i k)) (hc : ∀ k, k < n → (come k = true ↔ kn k ∈ gone)) {i : Nat} (hi : i < n) :
    freeP nx n kn gone i = freeD n t come i := by
  rw [Bool.eq_iff_iff, freeP_iff, freeD_iff]
  constructor
  · rintro ⟨h1, h2⟩
    have hci : come i = false := by
      cases q : come i with
      | false => rfl
      | true => exact absurd ((hc i hi).1 q) h1
    refine ⟨hci, fun k hk => ?_⟩
    cases htk : t i k with
    | false => exact .inr (.inl rfl)
    | true =>
      have key : ∀ {x y : Nat}, R nx x y → x < n → kn x = kn i → kn y = kn i ∨ kn y ∈ gone := by
        intro x y r
        induction r with
        | refl _ => intro _ e; exact .inl e
        | step e r ih =>
          intro hx ex
          have hb := h.hn _ hx _ e
          rcases h2 _ hx ex _ e with q | q
          · exact ih hb q
          · exact .inr (shut_reach h hs r hb q)
      rcases key ((ht i k hi hk).1 htk) hi rfl with q | q
      · exact .inr (.inr ((ht k i hk hi).2 (h.same k i hk q)))
      · exact .inl ((hc k hk).2 q)
  · rintro ⟨h1, h2⟩
    refine ⟨fun q => (by rw [(hc i hi).2 q] at h1; cases h1), fun x hx e y hy => ?_⟩
    have hyn := h.hn x hx y hy
    have r : R nx i y := (h.same i x hi e.symm).trans (.one hy)
    rcases h2 y hyn with q | q | q
    · exact .inr ((hc y hyn).1 q)
    · rw [(ht i y hi hyn).2 r] at q; cases q
    · exact .inl ((h.both hyn hi).2 ⟨(ht y i hyn hi).1 q, r⟩)
/-- there is one -/
theorem free_some (h : Kn nx n kn found) {gone : List Nat} (hs : Shut nx n kn gone) {i : Nat} (hi : i < n) (hg : kn i ∉ gone) : ∃ k, k < n ∧ freeP nx n kn gone k = true := by
  suffices H : ∀ m, ∀ i, i < n → kn i ≤ m → kn i ∉ gone → ∃ k, k < n ∧ freeP nx n kn gone k = true from H (kn i) i hi (Nat.le_refl _) hg
  intro m
  induction m with
  | zero => intro i hi hm _; exact absurd (Nat.le_zero.1 hm) (h.pos i hi)
  | succ m ih =>
    intro i hi hm hg
    by_cases hq : ∃ k, k < n ∧ kn k < kn i ∧ kn k ∉ gone
    · obtain ⟨k, hk, hlt, hkg⟩ := hq
      exact ih k hk (by omega) hkg
    · refine ⟨i, hi, freeP_iff.2 ⟨hg, fun x hx e y hy => ?_⟩⟩
      have hyn := h.hn x hx y hy
      have hle := h.edge x hx y hy
      rw [e] at hle
      rcases Nat.lt_or_ge (kn y) (kn i) with hlt | hge
      · right
        exact Classical.byContradiction fun q => hq ⟨y, hyn, hlt, q⟩
      · left; omega

/-! ### A knot's nodes, by their numbers -/
/-- behind all that are not greater -/
def insS (sq : Nat → Int) (x : Nat) : List Nat → List Nat
  | [] => [x]
  | y :: l => if sq y ≤ sq x then y :: insS sq x l else x :: y :: l
def sortS (sq : Nat → Int) (l : List Nat) : List Nat := l.foldl (fun out x => insS sq x out) []
def ltS (sq : Nat → Int) (a b : Nat) : Prop := sq a < sq b ∨ sq a = sq b ∧ a < b
theorem insS_perm (sq : Nat → Int) (x : Nat) : ∀ l, (insS sq x l).Perm (x :: l)
  | [] => .refl _
  | y :: l => by
    unfold insS
    split
    · exact ((insS_perm sq x l).cons y).trans (.swap x y l)
    · exact .refl _
theorem insS_sorted {sq : Nat → Int} {x : Nat} : ∀ {l}, l.Pairwise (ltS sq) → (∀ y ∈ l, y < x) → (insS sq x l).Pairwise (ltS sq)
  | [], _, _ => by simp [insS]
  | y :: l, h, hx => by
    have h1 := List.pairwise_cons.1 h
    unfold insS
    split
    · rename_i q
      refine List.pairwise_cons.2 ⟨fun z hz => ?_, insS_sorted h1.2 fun z hz => hx z (by simp [hz])⟩
      rcases List.mem_cons.1 ((insS_perm sq x l).mem_iff.1 hz) with rfl | hz
      · have := hx y (by simp)
        unfold ltS; omega
      · exact h1.1 z hz
    · rename_i q
      refine List.pairwise_cons.2 ⟨fun z hz => ?_, h⟩
      rcases List.mem_cons.1 hz with rfl | hz
      · unfold ltS; omega
      · have := h1.1 z hz
        unfold ltS at *; omega
theorem sortS_foldl {sq : Nat → Int} : ∀ (l out : List Nat), l.Pairwise (· < ·) → out.Pairwise (ltS sq) → (∀ y ∈ out, ∀ x ∈ l, y < x) →
    (l.foldl (fun out x => insS sq x out) out).Pairwise (ltS sq) ∧ (l.foldl (fun out x => insS sq x out) out).Perm (out ++ l)
  | [], out, _, h, _ => ⟨h, by simp⟩
  | x :: l, out, hl, h, hx => by
    have h1 := List.pairwise_cons.1 hl
    have ih := sortS_foldl l (insS sq x out) h1.2 (insS_sorted h fun y hy => hx y hy x (by simp)) fun y hy z hz => by
      rcases List.mem_cons.1 ((insS_perm sq x out).mem_iff.1 hy) with rfl | hy
      · exact h1.1 z hz
      · exact hx y hy z (by simp [hz])
    refine ⟨ih.1, ih.2.trans ?_⟩
    exact ((insS_perm sq x out).append_right l).trans (by simpa using List.perm_middle.symm)
theorem sortS_spec {sq : Nat → Int} {l : List Nat} (h : l.Pairwise (· < ·)) : (sortS sq l).Pairwise (ltS sq) ∧ (sortS sq l).Perm l := by
  have := sortS_foldl (sq := sq) l [] h .nil nofun
  simpa [sortS] using this
theorem sortS_eq {sq : Nat → Int} {l m : List Nat} (h : l.Pairwise (· < ·)) (hp : m.Perm l) (hm : m.Pairwise (ltS sq)) : m = sortS sq l := by
  have hs := sortS_spec (sq := sq) h
  refine List.Perm.eq_of_pairwise (le := ltS sq) (fun a b _ _ h1 h2 => ?_) hm hs.1 (hp.trans hs.2.symm)
  unfold ltS at *
  omega
/-- a knot's nodes -/
def knotL (n : Nat) (kn : Nat → Nat) (k : Nat) : List Nat := (List.range n).filter fun x => kn x == k
theorem knotL_inc (n : Nat) (kn : Nat → Nat) (k : Nat) : (knotL n kn k).Pairwise (· < ·) := List.Pairwise.filter _ List.pairwise_lt_range
theorem knotL_mem {k x : Nat} : x ∈ knotL n kn k ↔ x < n ∧ kn x = k := by simp [knotL]
theorem knotL_filter (p : Nat → Bool) : ((List.range n).filter p).Pairwise (· < ·) := List.Pairwise.filter _ List.pairwise_lt_range

/-- the order, by knots' numbers -/
def ordP (nx : Nat → List Nat) (n : Nat) (kn : Nat → Nat) (sq : Nat → Int) : Nat → List Nat → List Nat
  | 0, _ => []
  | f + 1, gone => match (List.range n).find? (freeP nx n kn gone) with
    | none => []
    | some i => sortS sq (knotL n kn (kn i)) ++ ordP nx n kn sq f (kn i :: gone)
/-- the order, by who leads to whom -/
def ordD (n : Nat) (t : Nat → Nat → Bool) (sq : Nat → Int) : Nat → (Nat → Bool) → List Nat
  | 0, _ => []
  | f + 1, come => match (List.range n).find? (freeD n t come) with
    | none => []
    | some i => sortS sq ((List.range n).filter fun k => t i k && t k i) ++ ordD n t sq f (fun k => come k || (t i k && t k i))
theorem find_congr {p q : Nat → Bool} : ∀ {l : List Nat}, (∀ x ∈ l, p x = q x) → l.find? p = l.find? q
  | [], _ => rfl
  | x :: l, h => by
    rw [List.find?_cons, List.find?_cons, h x (by simp), find_congr fun y hy => h y (by simp [hy])]
theorem ord_same (h : Kn nx n kn found) {t : Nat → Nat → Bool} (ht : ∀ i k, i < n → k < n → (t i k = true ↔ R nx i k)) (sq : Nat → Int) : ∀ (f : Nat) (gone : List Nat) (come : Nat → Bool), Shut nx n kn gone → (∀ k, k < n → (come k = true ↔ kn k ∈ gone)) →
    ordP nx n kn sq f gone = ordD n t sq f come
  | 0, _, _, _, _ => rfl
  | f + 1, gone, come, hs, hc => by
    have he : (List.range n).find? (freeP nx n kn gone) = (List.range n).find? (freeD n t come) := find_congr fun x hx => free_same h hs ht hc (List.mem_range.1 hx)
    unfold ordP ordD
    rw [← he]
    cases hq : (List.range n).find? (freeP nx n kn gone) with
    | none => rfl
    | some i =>
      have hi : i < n := List.mem_range.1 (List.mem_of_find?_eq_some hq)
      have hf := List.find?_some hq
      have hk : knotL n kn (kn i) = (List.range n).filter fun k => t i k && t k i := by
        unfold knotL
        apply List.filter_congr
        intro x hx
        have hx := List.mem_range.1 hx
        rw [Bool.eq_iff_iff]
        simp only [beq_iff_eq, Bool.and_eq_true]
        rw [ht i x hi hx, ht x i hx hi, h.both hx hi]
        exact ⟨fun ⟨a, b⟩ => ⟨b, a⟩, fun ⟨a, b⟩ => ⟨b, a⟩⟩
      simp only [hk]
      rw [ord_same h ht sq f (kn i :: gone) _ (shut_next h hs hf) fun k hk => ?_]
      simp only [Bool.or_eq_true, Bool.and_eq_true, List.mem_cons]
      rw [hc k hk, ht i k hi hk, ht k i hk hi, h.both hk hi]
      exact ⟨fun q => q.elim .inr fun ⟨a, b⟩ => .inl ⟨b, a⟩, fun q => q.elim (fun ⟨a, b⟩ => .inr ⟨b, a⟩) .inl⟩
end
end Go.Proofs.Ytgicohkmfbbbdaa.Tar
end

section
namespace Go.Proofs.Ytgicohkmfbbbdaa.Tar
set_option linter.unusedVariables false
set_option linter.unusedSimpArgs false

/-- leads to, by way of those below m alone -/
def T (nx : Nat → List Nat) : Nat → Nat → Nat → Prop
  | 0, i, k => i = k ∨ k ∈ nx i
  | m + 1, i, k => T nx m i k ∨ (T nx m i m ∧ T nx m m k)
section
variable {nx : Nat → List Nat} {n : Nat}
theorem T_trans : ∀ {m i j k : Nat}, j < m → T nx m i j → T nx m j k → T nx m i k
  | m + 1, i, j, k, hj, h1, h2 => by
    by_cases e : j = m
    · subst e
      have a : T nx j i j := h1.elim id fun q => q.1
      have b : T nx j j k := h2.elim id fun q => q.2
      exact .inr ⟨a, b⟩
    · have hj' : j < m := by omega
      rcases h1 with a | ⟨a, b⟩ <;> rcases h2 with c | ⟨c, d⟩
      · exact .inl (T_trans hj' a c)
      · exact .inr ⟨T_trans hj' a c, d⟩
      · exact .inr ⟨a, T_trans hj' b c⟩
      · exact .inr ⟨a, d⟩
theorem T_zero : ∀ {m i k : Nat}, T nx 0 i k → T nx m i k
  | 0, _, _, h => h
  | m + 1, _, _, h => .inl (T_zero h)
theorem T_of (hn : ∀ x, x < n → ∀ y ∈ nx x, y < n) {i k : Nat} (h : R nx i k) (hi : i < n) : T nx n i k := by
  induction h with
  | refl _ => exact T_zero (.inl rfl)
  | step e _ ih =>
    have hb := hn _ hi _ e
    exact T_trans hb (T_zero (.inr e)) (ih hb)
/-- the table, as it is filled: row m is gone through up to i, k -/
structure Fill (nx : Nat → List Nat) (n : Nat) (m i k : Nat) (t : Nat → Nat → Bool) : Prop where
  ok : ∀ x y, x < n → y < n → t x y = true → R nx x y
  low : ∀ x y, x < n → y < n → T nx m x y → t x y = true
  row : ∀ x y, x < i → x < n → y < n → T nx (m + 1) x y → t x y = true
  cell : ∀ y, y < k → y < n → i < n → T nx (m + 1) i y → t i y = true
def up2 (t : Nat → Nat → Bool) (i k : Nat) (v : Bool) : Nat → Nat → Bool := fun x y => if x = i ∧ y = k then v else t x y
theorem up2_ge {t : Nat → Nat → Bool} {i k x y : Nat} {b : Bool} (h : t x y = true) : up2 t i k (t i k || b) x y = true := by
  unfold up2
  split
  · rename_i q
    obtain ⟨rfl, rfl⟩ := q
    rw [h]; rfl
  · exact h
theorem fill_start {t : Nat → Nat → Bool} (ht : ∀ x y, x < n → y < n → (t x y = true ↔ x = y ∨ y ∈ nx x)) : Fill nx n 0 0 0 t :=
  ⟨fun x y hx hy h => by
    rcases (ht x y hx hy).1 h with rfl | q
    · exact .refl _
    · exact .one q, fun x y hx hy h => (ht x y hx hy).2 h, nofun, nofun⟩
theorem fill_cell {m i k : Nat} {t : Nat → Nat → Bool} (hm : m < n) (hi : i < n) (hk : k < n) (h : Fill nx n m i k t) : Fill nx n m i (k + 1) (up2 t i k (t i k || (t i m && t m k))) := by
  refine ⟨fun x y hx hy hq => ?_, fun x y hx hy hq => up2_ge (h.low x y hx hy hq), fun x y h1 hx hy hq => up2_ge (h.row x y h1 hx hy hq), fun y hy1 hy _ hq => ?_⟩
  · unfold up2 at hq
    split at hq
    · rename_i e
      obtain ⟨rfl, rfl⟩ := e
      simp only [Bool.or_eq_true, Bool.and_eq_true] at hq
      rcases hq with q | ⟨a, b⟩
      · exact h.ok _ _ hx hy q
      · exact (h.ok _ _ hx hm a).trans (h.ok _ _ hm hy b)
    · exact h.ok x y hx hy hq
  · by_cases e : y = k
    · subst e
      unfold up2
      simp only [and_self, if_true, Bool.or_eq_true, Bool.and_eq_true]
      rcases hq with q | ⟨a, b⟩
      · exact .inl (h.low _ _ hi hk q)
      · exact .inr ⟨h.low _ _ hi hm a, h.low _ _ hm hk b⟩
    · exact up2_ge (h.cell y (by omega) hy hi hq)
theorem fill_row {m i : Nat} {t : Nat → Nat → Bool} (h : Fill nx n m i n t) : Fill nx n m (i + 1) 0 t :=
  ⟨h.ok, h.low, fun x y h1 hx hy hq => by
    by_cases e : x = i
    · subst e; exact h.cell y hy hy hx hq
    · exact h.row x y (by omega) hx hy hq, nofun⟩
theorem fill_all {m : Nat} {t : Nat → Nat → Bool} (h : Fill nx n m n 0 t) : Fill nx n (m + 1) 0 0 t :=
  ⟨h.ok, fun x y hx hy hq => h.row x y hx hx hy hq, nofun, nofun⟩
theorem fill_end (hn : ∀ x, x < n → ∀ y ∈ nx x, y < n) {t : Nat → Nat → Bool} (h : Fill nx n n 0 0 t) {i k : Nat} (hi : i < n) (hk : k < n) : t i k = true ↔ R nx i k :=
  ⟨h.ok i k hi hk, fun r => h.low i k hi hk (T_of hn r hi)⟩
end
end Go.Proofs.Ytgicohkmfbbbdaa.Tar
end

section
namespace Go.Proofs.Ytgicohkmfbbbdaa.Gr
open Go.RowKit
open Go.Maps (Keyed)
open Attr (A8 rightI)
set_option linter.unusedSimpArgs false
set_option linter.unusedVariables false

abbrev I2 := Int × Int
def idV (x : I2) : Value := .agg #[.int .i64 x.1, .int .i64 x.2]
def ent (e : I2 × A8) : Value × Value := (idV e.1, e.2.val)
def ents (l : List (I2 × A8)) : List (Value × Value) := l.map ent
abbrev headC (p m : Nat) : Part := Part.cells p [.map (some m)] 84
abbrev mapC (m : Nat) (es : List (Value × Value)) : Part := Part.map Try.prog 38 m es
def GrP (p m : Nat) (es : List (I2 × A8)) : Part := Part.all [headC p m, mapC m (ents es)]
theorem eqv0 (p m : Nat) (es : List (I2 × A8)) (F : List Part) : Eqv (GrP p m es :: F) (headC p m :: mapC m (ents es) :: F) := Eqv.all [headC p m, mapC m (ents es)] F
theorem begin0 {w : World} {p m : Nat} {es : List (I2 × A8)} (h : Sep [GrP p m es] w) : At [GrP p m es] w [headC p m, mapC m (ents es)] w := (At.start h).to (eqv0 p m es [])
theorem fold0 {L0 L F G : List Part} {w0 w : World} {p m : Nat} {es : List (I2 × A8)} (h : At L0 w0 L w) (s1 : Sel (headC p m) L F) (s2 : Sel (mapC m (ents es)) F G) : At L0 w0 (GrP p m es :: G) w :=
  (h.perm (s1.perm.trans (s2.perm.cons _))).to (eqv0 p m es G).symm
theorem close0 {L0 L F G : List Part} {w0 w : World} {p m : Nat} {es : List (I2 × A8)} (h : At L0 w0 L w) (s1 : Sel (headC p m) L F) (s2 : Sel (mapC m (ents es)) F G) : At L0 w0 [GrP p m es] w := (fold0 h s1 s2).only1 .here

-- the keys
theorem laidOut : laidOutB Try.prog = true := by kernel_rfl
theorem wideI : (match Try.prog.underlying 38 with | some (.array _ _) | some (.struct _) => true | _ => false) = true := by kernel_rfl
theorem rowI : (38 : TypeId) < Try.prog.types.size := of_decide_eq_true (by kernel_rfl)
set_option maxRecDepth 100000 in
theorem lawI : Keyed Try.prog 38 := Keyed.of_law (deep_law_laid laidOut (m := 2) (by omega) rowI (by kernel_rfl) wideI)
theorem keyTypeI : Try.prog.keyType 38 = true := by kernel_rfl
theorem cellsI : Try.prog.cellsOf 38 = 2 := by kernel_rfl
theorem cellsInt : Try.prog.cellsOf 3 = 1 := by kernel_rfl
theorem formedI (c0 c1 : Value) : (Value.agg #[c0, c1]).formed Try.prog 38 = true := by simp [Value.formed, Try.underlying38, cellsI]
/-- a number that fits -/
def okI (n : Int) : Prop := -9223372036854775808 ≤ n ∧ n ≤ 9223372036854775807
def okD (x : I2) : Prop := okI x.1 ∧ okI x.2
theorem keyI {x : I2} (h : okD x) : ∃ l, keyOf Try.prog 38 (idV x) = some l := by
  have hw : ∀ n, okI n → (Lit.int .i64 n).wf = true := fun n hn => by unfold okI at hn; simp [Lit.wf, IntKind.min, IntKind.max, IntKind.signed, IntKind.bits]; omega
  obtain ⟨d, hd⟩ : ∃ d, Try.prog.types.size = d + 1 := Nat.exists_eq_succ_of_ne_zero (Nat.ne_of_gt (Nat.lt_of_le_of_lt (Nat.zero_le _) rowI))
  have hl : Try.prog.keyLits (Try.prog.types.size + 1) 38 [.int .i64 x.1, .int .i64 x.2] = some [.int .i64 x.1, .int .i64 x.2] := by
    rw [hd]
    simp [Program.keyLits, Try.underlying38, Try.underlying3, cellsI, cellsInt, hw _ h.1, hw _ h.2]
  exact ⟨.string (keyBytes [.int .i64 x.1, .int .i64 x.2]), by
    unfold keyOf
    rw [Try.underlying38]
    simp only [keyTypeI, idV, formedI, Bool.and_self, if_true]
    rw [show (Value.agg #[.int .i64 x.1, .int .i64 x.2]).cells.toList = [.int .i64 x.1, .int .i64 x.2] from rfl, hl]
    rfl⟩

/-! ### The plain model -/
def getA (es : List (I2 × A8)) (x : I2) : Option A8 := (es.find? (fun e => decide (e.1 = x))).map (·.2)
theorem getA_none {es : List (I2 × A8)} {x : I2} (h : getA es x = none) : ∀ q ∈ ents es, q.1 ≠ idV x := by
  intro q hq e
  obtain ⟨y, hy, rfl⟩ := List.mem_map.1 hq
  have h1 : es.find? (fun e => decide (e.1 = x)) = none := by simpa [getA] using h
  have h2 := List.find?_eq_none.1 h1 y hy
  obtain ⟨⟨a, b⟩, v⟩ := y
  obtain ⟨c, d⟩ := x
  simp [ent, idV] at e
  simp [e] at h2
theorem getA_mem {es : List (I2 × A8)} {x : I2} {a : A8} (h : getA es x = some a) : (x, a) ∈ es := by
  unfold getA at h
  obtain ⟨y, hy, e⟩ := Option.map_eq_some_iff.1 h
  have h1 := List.find?_some hy
  have h2 := List.mem_of_find?_eq_some hy
  obtain ⟨z, v⟩ := y
  simp only [decide_eq_true_eq] at h1
  simp only at e
  subst h1 e
  exact h2
theorem getA_ent {es : List (I2 × A8)} {x : I2} {a : A8} (h : getA es x = some a) : (idV x, a.val) ∈ ents es := List.mem_map.2 ⟨(x, a), getA_mem h, rfl⟩
theorem getA_isNone {es : List (I2 × A8)} {x : I2} : getA es x = none ↔ x ∉ es.map (·.1) := by
  unfold getA
  rw [Option.map_eq_none_iff, List.find?_eq_none]
  constructor
  · intro h hx
    obtain ⟨e, he, rfl⟩ := List.mem_map.1 hx
    exact h e he (by simp)
  · intro h e he q
    exact h (List.mem_map.2 ⟨e, he, of_decide_eq_true q⟩)
/-- names are each there once -/
def Uq (es : List (I2 × A8)) : Prop := (es.map (·.1)).Nodup
theorem getA_of_mem : ∀ {es : List (I2 × A8)}, Uq es → ∀ {x : I2} {a : A8}, (x, a) ∈ es → getA es x = some a
  | (y, b) :: es, h, x, a, hm => by
    have h' : y ∉ es.map (·.1) ∧ Uq es := by simpa [Uq] using h
    unfold getA
    rw [List.find?_cons]
    rcases List.mem_cons.1 hm with e | hm
    · cases e; simp
    · have : y ≠ x := fun e => h'.1 (List.mem_map.2 ⟨(x, a), hm, e.symm⟩)
      simp only [decide_eq_false this]
      exact getA_of_mem h'.2 hm
/-- an instance is taken in: the entries, and what is told -/
def addG (es : List (I2 × A8)) (x : I2) (a : A8) : List (I2 × A8) × Int :=
  if Attr.ownsB a x.1 x.2 then (match getA es x with
    | some b => if Attr.eqA b a then (es, 0) else (es, 15)
    | none => (es ++ [(x, a)], 0))
  else (es, 10)
/-- a front -/
structure F7 where
  f0 : Int
  f1 : Int
  f2 : Int
  f3 : Int
  f4 : Int
  f5 : Int
  f6 : Int
deriving DecidableEq
def F7.cells (f : F7) : List Value := [.int .i64 f.f0, .int .i64 f.f1, .int .i64 f.f2, .int .i64 f.f3, .int .i64 f.f4, .int .i64 f.f5, .int .i64 f.f6]
def F7.val (f : F7) : Value := .agg #[.int .i64 f.f0, .int .i64 f.f1, .int .i64 f.f2, .int .i64 f.f3, .int .i64 f.f4, .int .i64 f.f5, .int .i64 f.f6]
def F7.at (f : F7) (q : Nat) : Int := match q with
  | 0 => f.f0
  | 1 => f.f1
  | 2 => f.f2
  | 3 => f.f3
  | 4 => f.f4
  | 5 => f.f5
  | _ => f.f6
def F7.set (f : F7) (q : Nat) (v : Int) : F7 := match q with
  | 0 => { f with f0 := v }
  | 1 => { f with f1 := v }
  | 2 => { f with f2 := v }
  | 3 => { f with f3 := v }
  | 4 => { f with f4 := v }
  | 5 => { f with f5 := v }
  | _ => { f with f6 := v }
/-- is a name behind a front? -/
def behind (f : F7) (x : I2) : Bool := rightI x.1 x.2 && decide (x.2 < f.at x.1.toNat)
/-- what attributes lead to, of the first so many replicas -/
def leadsU (f : F7) (a : A8) (m : Nat) : List I2 := ((List.range m).filter fun (q : Nat) => decide (f.at q < a.dep q)).map fun (q : Nat) => ((q : Int), a.dep q - 1)
def leads (f : F7) (a : A8) : List I2 := leadsU f a 7
def leadsG (es : List (I2 × A8)) (f : F7) (x : I2) : List I2 := match getA es x with
  | some a => leads f a
  | none => []
theorem leadsU_succ (f : F7) (a : A8) (m : Nat) : leadsU f a (m + 1) = leadsU f a m ++ (if f.at m < a.dep m then [((m : Int), a.dep m - 1)] else []) := by
  unfold leadsU
  rw [List.range_succ, List.filter_append, List.map_append]
  by_cases h : f.at m < a.dep m
  · simp [h]
  · simp [h]
theorem leadsU_len (f : F7) (a : A8) (m : Nat) : (leadsU f a m).length ≤ m := by
  unfold leadsU
  rw [List.length_map]
  exact Nat.le_trans (List.length_filter_le _ _) (by simp)
theorem leads_len (f : F7) (a : A8) : (leads f a).length ≤ 7 := leadsU_len f a 7
theorem leadsG_len (es : List (I2 × A8)) (f : F7) (x : I2) : (leadsG es f x).length ≤ 7 := by
  unfold leadsG
  split
  · exact leads_len _ _
  · simp
def idL (x : I2) : List Value := [.int .i64 x.1, .int .i64 x.2]
theorem idL_len (x : I2) : (idL x).length = 2 := rfl
theorem idL_one (x : I2) : ∀ v ∈ idL x, v.oneCell' = true := by
  intro u hu
  simp only [idL, List.mem_cons, List.not_mem_nil, or_false] at hu
  rcases hu with rfl | rfl <;> rfl
def flatI (l : List I2) : List Value := l.flatMap idL
theorem flatI_len (l : List I2) : (flatI l).length = l.length * 2 := flat_len _ _ idL_len _
theorem flatI_one (l : List I2) : ∀ u ∈ flatI l, u.oneCell' = true := by
  intro u hu
  obtain ⟨x, _, hx⟩ := List.mem_flatMap.1 hu
  exact idL_one x u hx
theorem flatI_snoc (l : List I2) (x : I2) : flatI l ++ idL x = flatI (l ++ [x]) := by simp [flatI]
/-- a row of names -/
abbrev rowI2 (v : Value) (l : List I2) : Part := Part.row 38 2 v l.length (flatI l)
theorem rowI2_snoc (v : Value) (l : List I2) (x : I2) : Part.row 38 2 v (l.length + 1) (flatI l ++ idL x) = rowI2 v (l ++ [x]) := by
  rw [flatI_snoc]
  unfold rowI2
  rw [List.length_append]
  rfl
theorem infoI : (Try.prog.info? 38).map (fun i => (i.zero, i.size, i.bytes)) = some (some (.agg #[.int .i64 0, .int .i64 0]), 2, 16) := by kernel_rfl
end Go.Proofs.Ytgicohkmfbbbdaa.Gr
end

section
namespace Go.Proofs.Ytgicohkmfbbbdaa
open Go.RowKit
set_option linter.unusedVariables false
set_option linter.unusedSimpArgs false

section
variable {α : Type} {enc : α → List Value} {size : Nat}
theorem flat_take (hs : ∀ x, (enc x).length = size) : ∀ (l : List α) (k : Nat), (l.flatMap enc).take (k * size) = (l.take k).flatMap enc
  | [], k => by simp
  | x :: l, 0 => by simp
  | x :: l, k + 1 => by
    rw [List.take_succ_cons, List.flatMap_cons, List.flatMap_cons, ← flat_take hs l k, List.take_append, List.take_of_length_le (by rw [hs, Nat.add_mul]; omega), hs, show (k + 1) * size - size = k * size by rw [Nat.add_mul]; omega]
theorem flat_drop (hs : ∀ x, (enc x).length = size) : ∀ (l : List α) (k : Nat), (l.flatMap enc).drop (k * size) = (l.drop k).flatMap enc
  | [], k => by simp
  | x :: l, 0 => by simp
  | x :: l, k + 1 => by
    rw [List.drop_succ_cons, List.flatMap_cons, ← flat_drop hs l k, List.drop_append, List.drop_eq_nil_of_le (by rw [hs, Nat.add_mul]; omega), hs, show (k + 1) * size - size = k * size by rw [Nat.add_mul]; omega, List.nil_append]
theorem flat_one (h : ∀ x, ∀ u ∈ enc x, u.oneCell' = true) (l : List α) : ∀ u ∈ l.flatMap enc, u.oneCell' = true := by
  intro u hu
  obtain ⟨x, _, hx⟩ := List.mem_flatMap.1 hu
  exact h x u hx
theorem rows_app (E : TypeId) (v : Value) (l1 l2 : List α) : Part.row E size v (l1.length + l2.length) (l1.flatMap enc ++ l2.flatMap enc) = Part.row E size v (l1 ++ l2).length ((l1 ++ l2).flatMap enc) := by simp
theorem rows_snoc (E : TypeId) (v : Value) (l : List α) (x : α) : Part.row E size v (l.length + 1) (l.flatMap enc ++ enc x) = Part.row E size v (l ++ [x]).length ((l ++ [x]).flatMap enc) := by simp
end

/-- some parts of a list, in this order -/
inductive Picks : List Part → List Part → Prop
  | nil {L : List Part} : Picks L []
  | cons {A : Part} {L F K : List Part} : Sel A L F → Picks F K → Picks L (A :: K)
theorem Picks.perm {L K : List Part} (p : Picks L K) : ∃ F, L.Perm (K ++ F) := by
  induction p with
  | nil => exact ⟨_, .refl _⟩
  | cons s _ ih =>
    obtain ⟨F, hF⟩ := ih
    exact ⟨F, s.perm.trans (hF.cons _)⟩
theorem At.pick {L0 L K : List Part} {w0 w : World} (h : At L0 w0 L w) (p : Picks L K) : At L0 w0 K w := by
  obtain ⟨F, hF⟩ := p.perm
  exact (h.perm hF).sub (List.sublist_append_left _ _)
theorem At.seps {L0 L K : List Part} {w0 w : World} (h : At L0 w0 L w) (p : Picks L K) : Sep K w := (h.pick p).sep
theorem Sep.pick {L K : List Part} {w : World} (h : Sep L w) (p : Picks L K) : Sep K w := (At.start h).seps p
/-- a row's value, its length behind a letter -/
theorem At.row_hid {L0 L F : List Part} {w0 w : World} {e : TypeId} {size n : Nat} {v : Value} {xs : List Value} (h : At L0 w0 L w) (s : Sel (Part.row e size v n xs) L F) : ∃ ax k cap, v = .slice ax k cap ∧ Hid (k = n) := by
  obtain ⟨ax, cap, rfl, _, _, _⟩ := h.row_form s
  exact ⟨ax, n, cap, rfl, Lib.hid rfl⟩
section
variable {α : Type} {p : α → Bool}
theorem while_at : ∀ {l : List α} {i : Nat}, i ≤ l.length → (∀ x ∈ l.take i, p x = true) → (∀ h : i < l.length, p l[i] = false) → l.takeWhile p = l.take i ∧ l.dropWhile p = l.drop i
  | [], i, _, _, _ => by simp
  | y :: l, 0, _, _, h2 => by
    have := h2 (by simp)
    simp at this
    simp [this]
  | y :: l, i + 1, hi, h1, h2 => by
    have hy := h1 y (by simp)
    have := while_at (l := l) (i := i) (by simpa using hi) (fun x hx => h1 x (by simp [hx])) (fun h => h2 (by simp; exact h))
    simp [hy, this]
end
end Go.Proofs.Ytgicohkmfbbbdaa
end
