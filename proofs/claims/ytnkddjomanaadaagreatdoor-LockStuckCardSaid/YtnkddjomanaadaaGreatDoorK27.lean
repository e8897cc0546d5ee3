/- LockLe, LockSa, LockAa, LockTa, LockTb, SessC, joined. -/
import Derived.Test.YtnkddjomanaadaaGreatDoorK26
import Derived.Test.YtnkddjomanaadaaGreatDoorK24
import Derived.Test.YtnkddjomanaadaaGreatDoorK19
import Derived.Test.YtnkddjomanaadaaGreatDoorShelf
import Derived.Test.YtnkddjomanaadaaGreatDoorSort
import Derived.Deep.QuietTactic
import Derived.BigQuiet
import Derived.WalkLawsBesides
section
namespace Go.Proofs.YtnkddjomanaadaaGreatDoor.Lock
open Go.RowKit
open Go.Maps (Keyed)
open Path (bl rightB overB cmpP cmpL)
set_option linter.unusedSimpArgs false
set_option linter.unusedVariables false

/-! ### An element of a row is loaded, in the class of the worlds in which the row stands -/
theorem row_block {w : World} {E : TypeId} {size n cap : Nat} {ax : Option Addr} {xs : List Value} (h : (Part.row E size (.slice ax n cap) n xs).holds w) (hn : 0 < n) : ∃ g c, ax = some ⟨g, 0, none⟩ ∧ BlockIs w g c E ∧ c.take (n * size) = xs := by
  have hr : w.ownsRow 0 E size (.slice ax n cap) n xs := h
  rcases hr.2 with ⟨hv, rfl⟩ | ⟨g, cap', cur, hv, _, hh, hc, hm, hs, ht⟩
  · omega
  · cases hv
    exact ⟨g, cur.toList, rfl, (by unfold BlockIs; simpa using hh), ht⟩
theorem At.row_some {L0 L F : List Part} {w0 w : World} {E : TypeId} {size n cap : Nat} {ax : Option Addr} {xs : List Value} (h : At L0 w0 L w) (s : Sel (Part.row E size (.slice ax n cap) n xs) L F) (hn : 0 < n) : ∃ g, ax = some ⟨g, 0, none⟩ := by
  obtain ⟨g, _, h1, _⟩ := row_block (h.get s) hn
  exact ⟨g, h1⟩
theorem quiet_rowload_at {P : Program} {o : Oper} {a : Act} {L0 L F : List Part} {w0 : World} {K : Act → Prop} {ty : TypeId} {x : Operand} {E : TypeId} {size n cap g off : Nat} {xs : List Value} (hop : o.op = .load ty x) (hx : a.eval x = .pointer (some ⟨g, off, none⟩))
    (s : Sel (Part.row E size (.slice (some ⟨g, 0, none⟩) n cap) n xs) L F) (hn : 0 < n) (hu : (P.underlying ty).map (·.isRow) = some true) {m : Nat} (hi : (P.info? ty).map (·.size) = some m) {vs : List Value} (hv : (xs.drop off).take m = vs) (hl : vs.length = m) (hle : off + m ≤ n * size)
    (hk : K (a.put o.dst (.agg vs.toArray))) : o.quiet P a (Cl L0 w0 L) K :=
  quiet_at _ (fun w' hw => by
    obtain ⟨g', c, hg, hb, ht⟩ := row_block (At.get hw s) hn
    cases hg
    refine run_load_row hop hx hb hu hi (vs := vs) ?_ hl
    rw [← hv, ← ht]
    apply List.ext_getElem?
    intro j
    by_cases hj : j < m
    · rw [List.getElem?_take_of_lt hj, List.getElem?_take_of_lt hj, List.getElem?_drop, List.getElem?_drop, List.getElem?_take_of_lt (by omega)]
    · rw [List.getElem?_take_eq_none (by omega), List.getElem?_take_eq_none (by omega)]) hk

/-! ### What a list of all entries tells -/
theorem place_of_mem {s : S3} {k : Nat} (h : Inv s k) {e : Ent} (he : e ∈ s.es) : ∃ i, ∃ hi : i < s.es.length, s.es[i] = e ∧ idxD s.es e.path e.num e.foot = i ∧ find s.es e.path e.num e.foot = some e := by
  obtain ⟨l1, l2, hl⟩ := List.append_of_mem he
  have hk := h.keys
  rw [hl, List.pairwise_append] at hk
  have hn : ∀ x ∈ l1, x.is e.path e.num e.foot = false := fun x hx => by
    have := hk.2.2 x hx e (by simp)
    simp only [Ent.is, decide_eq_false_iff_not]
    exact this
  have hi : l1.length < s.es.length := by rw [hl]; simp
  have he1 : s.es[l1.length] = e := by simp [hl]
  refine ⟨l1.length, hi, he1, ?_, ?_⟩
  · have ht : s.es.take l1.length = l1 := by simp [hl]
    exact idx_at hi (by rw [ht]; exact hn) (by rw [he1]; simp [Ent.is])
  · unfold find
    rw [List.find?_eq_some_iff_append]
    exact ⟨by simp [Ent.is], l1, l2, hl, fun x hx => by simp [hn x hx]⟩
theorem granted_place {s : S3} {k : Nat} (h : Inv s k) {e : Ent} {i : Nat} (hi : i < s.es.length) (he : s.es[i] = e) (hf : find s.es e.path e.num e.foot = some e) : grantedB s.es e = grantD s.es i := by
  unfold grantedB
  rw [hf]
  simp only [decide_true, Bool.true_and]
  exact clear_grant h.order (by rw [List.getElem?_eq_getElem hi, he])
theorem granted_more {es : List Ent} {e : Ent} (hf : find es e.path e.num e.foot = some e) : grantedB es ⟨e.path, e.num, e.foot, e.mode, e.n + 1, e.stamp⟩ = false := by
  unfold grantedB
  rw [Bool.and_eq_false_iff]
  left
  simp only
  rw [hf]
  simp only [decide_eq_false_iff_not, Option.some.injEq]
  intro q
  have := congrArg Ent.n q
  simp only at this
  omega
theorem lt_compare {x y : Ent} (hx : rightB (bl x.path) = true) (hy : rightB (bl y.path) = true) (h : ltE x y) : cmpP (bl x.path) (bl y.path) ≤ 0 ∧ (x.path = y.path → x.stamp < y.stamp) := by
  have hc : cmpP (bl x.path) (bl y.path) = cmpL (keyL x) (keyL y) := by unfold cmpP keyL; rw [if_pos ⟨hx, hy⟩]
  rw [hc]
  rcases h with h | ⟨h, h2⟩
  · refine ⟨by omega, fun q => ?_⟩
    exfalso
    have : keyL x = keyL y := by unfold keyL; rw [q]
    rw [this, Path.cl_self] at h
    omega
  · exact ⟨by rw [h, Path.cl_self]; omega, fun _ => h2⟩
end Go.Proofs.YtnkddjomanaadaaGreatDoor.Lock
end

section
namespace Go.Proofs.YtnkddjomanaadaaGreatDoor.Lock
open Path (bl rightB overB cmpP cmpL)
set_option linter.unusedSimpArgs false
set_option linter.unusedVariables false

theorem clear_iff {l : List Ent} {e : Ent} : clearB l e = true ↔ ∀ x ∈ l, x.stamp < e.stamp → wayB x e = false := by
  unfold clearB
  simp only [List.all_eq_true]
  constructor
  · intro h x hx hs
    have := h x hx
    simpa [hs] using this
  · intro h x hx
    by_cases hs : x.stamp < e.stamp
    · simp [h x hx hs]
    · simp [hs]
/-- one that is granted stays so, while it is there -/
theorem clear_step {s : S3} {k : Nat} (h : Inv s k) {o : Op} {e : Ent} (he : e ∈ s.es) (hc : clearB s.es e = true) : clearB (s.step o).es e = true := by
  rw [clear_iff] at hc ⊢
  intro x hx hs
  have hmem : x ∈ s.es ∨ x = s.newE o.path o.num o.foot o.mode := by
    unfold S3.step at hx
    split at hx
    · unfold S3.add at hx
      split at hx
      · unfold S3.added at hx
        simp at hx
        exact hx
      · exact .inl hx
    split at hx
    · exact .inl (List.mem_filter.1 hx).1
    split at hx
    · exact .inl (List.mem_filter.1 hx).1
    · exact .inl hx
  rcases hmem with hm | rfl
  · exact hc x hm hs
  · cases hw : wayB (s.newE o.path o.num o.foot o.mode) e with
    | false => rfl
    | true =>
      have ho := way_over hw
      rw [Path.over_comm] at ho
      have := maxS_ge (p := o.path) he ho
      simp only [S3.newE] at hs
      omega
/-- no two that are granted are in each other's way -/
theorem two_granted {s : S3} {k : Nat} (h : Inv s k) {e f : Ent} (he : e ∈ s.es) (hf : f ∈ s.es) (hn : e ≠ f) (hc : clearB s.es e = true) (hd : clearB s.es f = true) : wayB e f = false := by
  rw [clear_iff] at hc hd
  cases hw : wayB e f with
  | false => rfl
  | true =>
    have ho := way_over hw
    have hw2 : wayB f e = true := by rw [← hw]; unfold wayB; rw [Path.over_comm, Bool.or_comm]
    obtain ⟨i, hi, rfl⟩ := List.getElem_of_mem he
    obtain ⟨j, hj, rfl⟩ := List.getElem_of_mem hf
    rcases Nat.lt_trichotomy i j with q | q | q
    · have := List.pairwise_iff_getElem.1 h.order i j hi hj q ho
      rw [hd _ he this] at hw
      cases hw
    · subst q; exact absurd rfl hn
    · have := List.pairwise_iff_getElem.1 h.order j i hj hi q (by rw [Path.over_comm]; exact ho)
      rw [hc _ hf this] at hw2
      cases hw2
theorem ltE_ne {x y : Ent} (h : ltE x y) : x ≠ y := by
  rintro rfl
  rcases h with h | ⟨_, h⟩
  · rw [Path.cl_self] at h; omega
  · omega
/-- of one path those that came later have greater numbers -/
theorem nums_rise {s : S3} {k : Nat} (h : Inv s k) {x y : Ent} (hx : x ∈ s.es) (hy : y ∈ s.es) (hl : ltE x y) (hp : x.path = y.path) : x.n < y.n := by
  have hs := (lt_compare (h.right _ hx) (h.right _ hy) hl).2 hp
  obtain ⟨i, hi, rfl⟩ := List.getElem_of_mem hx
  obtain ⟨j, hj, rfl⟩ := List.getElem_of_mem hy
  rcases Nat.lt_trichotomy i j with q | q | q
  · exact List.pairwise_iff_getElem.1 h.nums i j hi hj q hp
  · subst q; omega
  · have := List.pairwise_iff_getElem.1 h.order j i hj hi q (by rw [hp]; exact Path.over_self (h.right _ hy))
    omega
/-- what was granted, behind a step: gone, another one, or granted -/
theorem held_step {s : S3} {k : Nat} (h : Inv s k) {o : Op} {e x : Ent} (he : e ∈ s.es) (hg : grantedB s.es e = true) (hf : find (s.step o).es e.path e.num e.foot = some x) : x ≠ e ∨ grantedB (s.step o).es e = true := by
  by_cases hx : x = e
  · subst hx
    refine .inr ?_
    unfold grantedB at hg ⊢
    rw [hf]
    simp only [Bool.and_eq_true, decide_eq_true_eq] at hg ⊢
    exact ⟨trivial, clear_step h he hg.2⟩
  · exact .inl hx
theorem granted_parts {es : List Ent} {e : Ent} (h : grantedB es e = true) : find es e.path e.num e.foot = some e ∧ clearB es e = true := by
  unfold grantedB at h
  simpa using h
theorem first_step (s : S3) (o : Op) : (s.step o).first = s.first := by
  unfold S3.step
  split
  · unfold S3.add; split <;> rfl
  split
  · rfl
  split <;> rfl
end Go.Proofs.YtnkddjomanaadaaGreatDoor.Lock
end

section
namespace Go.Proofs.YtnkddjomanaadaaGreatDoor.Lock
open Path (bl rightB overB cmpP cmpL)
set_option linter.unusedSimpArgs false
set_option linter.unusedVariables false

theorem ahead_mem {l : List Ent} {e a : Ent} : a ∈ keepF (offF e) l ↔ a ∈ l ∧ a.stamp < e.stamp ∧ wayB a e = true := by
  unfold keepF offF
  rw [List.mem_filter]
  constructor
  · rintro ⟨h1, h2⟩
    simp at h2
    exact ⟨h1, by omega, h2.2⟩
  · rintro ⟨h1, h2, h3⟩
    refine ⟨h1, ?_⟩
    simp [h3]
    omega
/-- one that came earlier, and is in the way, is ahead -/
theorem early_ahead {s : S3} {k : Nat} (h : Inv s k) {i j : Nat} (hi : i < s.es.length) (hj : j < i) (hw : wayB (s.es[j]'(by omega)) s.es[i] = true) : (s.es[j]'(by omega)).stamp < s.es[i].stamp :=
  List.pairwise_iff_getElem.1 h.order j i (by omega) hi hj (way_over hw)
theorem ahead_filter {l : List Ent} (ho : l.Pairwise (fun a b => overB (bl a.path) (bl b.path) = true → a.stamp < b.stamp)) {i : Nat} (hi : i < l.length) : keepF (offF l[i]) l = (l.take i).filter (fun x => wayB x l[i]) := by
  have hl : l = l.take i ++ l[i] :: l.drop (i + 1) := by rw [List.getElem_cons_drop hi, List.take_append_drop]
  have ho2 := ho
  rw [hl, List.pairwise_append, List.pairwise_cons] at ho2
  obtain ⟨_, ⟨h2, _⟩, h3⟩ := ho2
  unfold keepF
  obtain ⟨e, he⟩ : ∃ e, l[i] = e := ⟨_, rfl⟩
  rw [he] at hl h2 h3 ⊢
  obtain ⟨l1, hl1⟩ : ∃ r, l.take i = r := ⟨_, rfl⟩
  obtain ⟨l2, hl2⟩ : ∃ r, l.drop (i + 1) = r := ⟨_, rfl⟩
  rw [hl1, hl2] at hl
  rw [hl1] at h3 ⊢
  rw [hl2] at h2 h3
  rw [hl]
  rw [List.filter_append, List.filter_cons]
  have e1 : l2.filter (fun x => !offF e x) = [] := by
    rw [List.filter_eq_nil_iff]
    intro x hx
    unfold offF
    cases hw : wayB x e with
    | false => simp
    | true =>
      have := h2 x hx (by rw [Path.over_comm]; exact way_over hw)
      simp
      omega
  have e2 : (!offF e e) = false := by unfold offF; simp
  have e3 : l1.filter (fun x => !offF e x) = l1.filter (fun x => wayB x e) := by
    refine List.filter_congr fun x hx => ?_
    unfold offF
    cases hw : wayB x e with
    | false => simp
    | true =>
      have := h3 x hx e (List.mem_cons_self ..) (way_over hw)
      simp
      omega
  rw [e1, e2, e3]
  simp
theorem keepF_perm {f : Ent → Bool} {l r : List Ent} (h : l.Perm r) : (keepF f l).Perm (keepF f r) := h.filter _
/-- how many are ahead -/
theorem ahead_len {s : S3} {k : Nat} (h : Inv s k) {l : List Ent} (hp : l.Perm s.es) {i : Nat} (hi : i < s.es.length) : (keepF (offF s.es[i]) l).length = ((s.es.take i).filter (fun x => wayB x s.es[i])).length := by
  rw [(keepF_perm hp).length_eq, ahead_filter h.order hi]
/-- granted just if nobody is ahead -/
theorem grant_none {s : S3} {i : Nat} (hi : i < s.es.length) : grantD s.es i = decide (((s.es.take i).filter (fun x => wayB x s.es[i])).length = 0) := by
  unfold grantD
  rw [List.getElem?_eq_getElem hi]
  simp only
  rw [Bool.eq_iff_iff, decide_eq_true_iff, List.length_eq_zero_iff, List.filter_eq_nil_iff]
  simp
/-- all of these gone -/
def goneS (s : S3) (rs : List Ent) : S3 := rs.foldl (fun t a => t.remove a.path a.num a.foot) s
theorem gone_es (rs : List Ent) : ∀ (s : S3), (goneS s rs).es = s.es.filter (fun x => rs.all (fun a => !x.is a.path a.num a.foot)) ∧ (goneS s rs).first = s.first ∧ (goneS s rs).cs = s.cs := by
  induction rs with
  | nil => intro s; exact ⟨(List.filter_eq_self.2 (fun x hx => by simp)).symm, rfl, rfl⟩
  | cons a rs ih =>
    intro s
    obtain ⟨h1, h2, h3⟩ := ih (s.remove a.path a.num a.foot)
    have e : goneS s (a :: rs) = goneS (s.remove a.path a.num a.foot) rs := rfl
    rw [e]
    refine ⟨?_, h2, h3⟩
    rw [h1]
    simp only [S3.remove, List.filter_filter, List.all_cons]
    congr 1
    funext x
    rw [Bool.and_comm]
theorem gone_inv {s : S3} {k : Nat} (h : Inv s k) (rs : List Ent) : Inv (goneS s rs) k := by
  obtain ⟨h1, h2, h3⟩ := gone_es rs s
  have e : goneS s rs = ⟨s.first, (goneS s rs).es, s.cs⟩ := by rw [← h2, ← h3]
  rw [e]
  exact h.sub (by rw [h1]; exact List.filter_sublist)
theorem gone_grant {s : S3} {k : Nat} (h : Inv s k) {l : List Ent} (hp : l.Perm s.es) {e : Ent} (he : e ∈ s.es) : grantedB (goneS s (keepF (offF e) l)).es e = true := by
  obtain ⟨h1, h2, h3⟩ := gone_es (keepF (offF e) l) s
  have hI := gone_inv h (keepF (offF e) l)
  have key : ∀ {x y : Ent}, x ∈ s.es → y ∈ s.es → x.is y.path y.num y.foot = true → x = y := by
    intro x y hx hy hxy
    have hxy : x.path = y.path ∧ x.num = y.num ∧ x.foot = y.foot := by simpa [Ent.is] using hxy
    obtain ⟨i, hi, rfl⟩ := List.getElem_of_mem hx
    obtain ⟨j, hj, rfl⟩ := List.getElem_of_mem hy
    rcases Nat.lt_trichotomy i j with q | q | q
    · exact absurd hxy (List.pairwise_iff_getElem.1 h.keys i j hi hj q)
    · subst q; rfl
    · exact absurd ⟨hxy.1.symm, hxy.2.1.symm, hxy.2.2.symm⟩ (List.pairwise_iff_getElem.1 h.keys j i hj hi q)
  have hm : e ∈ (goneS s (keepF (offF e) l)).es := by
    rw [h1, List.mem_filter]
    refine ⟨he, ?_⟩
    rw [List.all_eq_true]
    intro a ha
    obtain ⟨a1, a2, a3⟩ := ahead_mem.1 ha
    cases hq : e.is a.path a.num a.foot with
    | false => rfl
    | true =>
      have := key he (hp.mem_iff.1 a1) hq
      subst this
      omega
  obtain ⟨i, hi, hie, _, hf⟩ := place_of_mem hI hm
  unfold grantedB
  rw [hf]
  simp only [decide_true, Bool.true_and]
  rw [clear_iff]
  intro x hx hs
  cases hw : wayB x e with
  | false => rfl
  | true =>
    rw [h1, List.mem_filter, List.all_eq_true] at hx
    have := hx.2 x (ahead_mem.2 ⟨hp.mem_iff.2 hx.1, hs, hw⟩)
    simp [Ent.is] at this
end Go.Proofs.YtnkddjomanaadaaGreatDoor.Lock
end

section
namespace Go.Proofs.YtnkddjomanaadaaGreatDoor.Lock
open Path (bl rightB overB)
set_option linter.unusedSimpArgs false
set_option linter.unusedVariables false

/-! ### Who leads to whom -/
section
variable {α : Type}
/-- some steps, one at least -/
inductive Conn (E : List (α × α)) : α → α → Prop
  | one {x y} : (x, y) ∈ E → Conn E x y
  | more {x y z} : Conn E x y → (y, z) ∈ E → Conn E x z
theorem Conn.sub {E F : List (α × α)} (h : ∀ p ∈ E, p ∈ F) {x y : α} (c : Conn E x y) : Conn F x y := by
  induction c with
  | one e => exact .one (h _ e)
  | more _ e ih => exact .more ih (h _ e)
theorem Conn.first {E : List (α × α)} {x y : α} (c : Conn E x y) : ∃ z, (x, z) ∈ E := by
  induction c with
  | one e => exact ⟨_, e⟩
  | more _ _ ih => exact ih
/-- what holds where one starts, and goes on by steps, holds wherever one comes -/
theorem Conn.all {E : List (α × α)} {s : α} {P : α → Prop} (h0 : ∀ y, (s, y) ∈ E → P y) (h1 : ∀ x y, P x → (x, y) ∈ E → P y) {y : α} (c : Conn E s y) : P y := by
  induction c with
  | one e => exact h0 _ e
  | more _ e ih => exact h1 _ _ ih e
theorem nodup_len : ∀ {l r : List α}, l.Nodup → (∀ x ∈ l, x ∈ r) → l.length ≤ r.length
  | [], r, _, _ => by simp
  | x :: l, r, h, hs => by
    rw [List.nodup_cons] at h
    obtain ⟨r1, r2, e⟩ := List.append_of_mem (hs x (List.mem_cons_self ..))
    have := nodup_len (r := r1 ++ r2) h.2 (fun y hy => by
      have h1 := hs y (List.mem_cons_of_mem _ hy)
      rw [e] at h1
      rcases List.mem_append.1 h1 with q | q
      · exact List.mem_append_left _ q
      · rcases List.mem_cons.1 q with q | q
        · subst q; exact absurd hy h.1
        · exact List.mem_append_right _ q)
    rw [e]
    simp only [List.length_append, List.length_cons] at *
    omega
/-- the document's look: those that were seen, one behind the other -/
structure Looks (E : List (α × α)) (s : α) (seen : List α) (i : Nat) : Prop where
  nodup : seen.Nodup
  from_ : ∀ x ∈ seen, x = s ∨ Conn E s x
  start : s ∈ seen
  below : ∀ x ∈ seen, x = s ∨ x ∈ E.map (·.2)
  done : ∀ x ∈ seen.take i, ∀ y, (x, y) ∈ E → y ∈ seen ∧ y ≠ s
theorem looks_start (E : List (α × α)) (s : α) : Looks E s [s] 0 := ⟨by simp, by simp, by simp, by simp, by simp⟩
theorem Looks.len {E : List (α × α)} {s : α} {seen : List α} {i : Nat} (h : Looks E s seen i) : seen.length ≤ E.length + 1 := by
  have h1 : ∀ x ∈ seen, x ∈ s :: E.map (·.2) := fun x hx => by
    rcases h.below x hx with q | q
    · exact q ▸ List.mem_cons_self ..
    · exact List.mem_cons_of_mem _ q
  have := nodup_len h.nodup h1
  simpa using this
theorem Looks.no {E : List (α × α)} {s : α} {seen : List α} (h : Looks E s seen seen.length) : ¬ Conn E s s := by
  intro c
  have hd : ∀ x ∈ seen, ∀ y, (x, y) ∈ E → y ∈ seen ∧ y ≠ s := fun x hx => h.done x (by rw [List.take_length]; exact hx)
  exact (Conn.all (P := fun y => y ∈ seen ∧ y ≠ s) (fun y he => hd s h.start y he) (fun x y hx he => hd x hx.1 y he) c).2 rfl
theorem Looks.yes {E : List (α × α)} {s : α} {seen : List α} {i : Nat} (h : Looks E s seen i) {x : α} (hx : x ∈ seen) (he : (x, s) ∈ E) : Conn E s s := by
  rcases h.from_ x hx with q | q
  · subst q; exact .one he
  · exact .more q he
/-- within a round: the first k pairs were looked at -/
structure LookAt (E : List (α × α)) (s : α) (seen : List α) (i : Nat) (x : α) (k : Nat) : Prop where
  base : Looks E s seen i
  at_ : seen[i]? = some x
  upto : ∀ y, (x, y) ∈ E.take k → y ∈ seen ∧ y ≠ s
theorem LookAt.start {E : List (α × α)} {s : α} {seen : List α} {i : Nat} (h : Looks E s seen i) (hi : i < seen.length) : LookAt E s seen i seen[i] 0 := ⟨h, List.getElem?_eq_getElem hi, by simp⟩
theorem LookAt.skip {E : List (α × α)} {s : α} {seen : List α} {i : Nat} {x : α} {k : Nat} (h : LookAt E s seen i x k) (hk : k < E.length) (hne : E[k].1 ≠ x) : LookAt E s seen i x (k + 1) := by
  refine ⟨h.base, h.at_, fun y hy => ?_⟩
  rw [List.take_succ_eq_append_getElem hk] at hy
  rcases List.mem_append.1 hy with hy | hy
  · exact h.upto y hy
  · rw [← List.mem_singleton.1 hy] at hne; exact absurd rfl hne
theorem LookAt.known {E : List (α × α)} {s : α} {seen : List α} {i : Nat} {x : α} {k : Nat} (h : LookAt E s seen i x k) (hk : k < E.length) (hm : E[k].2 ∈ seen) (hs : E[k].2 ≠ s) : LookAt E s seen i x (k + 1) := by
  refine ⟨h.base, h.at_, fun y hy => ?_⟩
  rw [List.take_succ_eq_append_getElem hk] at hy
  rcases List.mem_append.1 hy with hy | hy
  · exact h.upto y hy
  · have := List.mem_singleton.1 hy
    rw [← this] at hm hs
    exact ⟨hm, hs⟩
theorem LookAt.mem {E : List (α × α)} {s : α} {seen : List α} {i : Nat} {x : α} {k : Nat} (h : LookAt E s seen i x k) : x ∈ seen := List.mem_of_getElem? h.at_
theorem LookAt.hit {E : List (α × α)} {s : α} {seen : List α} {i : Nat} {x : α} {k : Nat} (h : LookAt E s seen i x k) (hk : k < E.length) (h1 : E[k].1 = x) (h2 : E[k].2 = s) : Conn E s s :=
  h.base.yes h.mem (by rw [← h1, ← h2]; exact List.getElem_mem hk)
theorem LookAt.new {E : List (α × α)} {s : α} {seen : List α} {i : Nat} {x : α} {k : Nat} (h : LookAt E s seen i x k) (hk : k < E.length) (h1 : E[k].1 = x) (hm : E[k].2 ∉ seen) (hs : E[k].2 ≠ s) : LookAt E s (seen ++ [E[k].2]) i x (k + 1) := by
  obtain ⟨b, ha, hu⟩ := h
  have hxm : x ∈ seen := List.mem_of_getElem? ha
  have he : (x, E[k].2) ∈ E := by rw [← h1]; exact List.getElem_mem hk
  have hi : i < seen.length := (List.getElem?_eq_some_iff.1 ha).1
  refine ⟨⟨?_, ?_, by simp [b.start], ?_, ?_⟩, ?_, ?_⟩
  · rw [List.nodup_append]
    refine ⟨b.nodup, by simp, fun a ha c hc => ?_⟩
    rw [List.mem_singleton.1 hc]
    exact fun q => hm (q ▸ ha)
  · intro y hy
    rcases List.mem_append.1 hy with hy | hy
    · exact b.from_ y hy
    · rw [List.mem_singleton.1 hy]
      rcases b.from_ x hxm with q | q
      · subst q; exact .inr (.one he)
      · exact .inr (.more q he)
  · intro y hy
    rcases List.mem_append.1 hy with hy | hy
    · exact b.below y hy
    · rw [List.mem_singleton.1 hy]; exact .inr (List.mem_map_of_mem (List.getElem_mem hk))
  · intro z hz y hy
    rw [List.take_append_of_le_length (by omega)] at hz
    have := b.done z hz y hy
    exact ⟨List.mem_append_left _ this.1, this.2⟩
  · rw [List.getElem?_append_left hi]; exact ha
  · intro y hy
    rw [List.take_succ_eq_append_getElem hk] at hy
    rcases List.mem_append.1 hy with hy | hy
    · have := hu y hy
      exact ⟨List.mem_append_left _ this.1, this.2⟩
    · have := List.mem_singleton.1 hy
      have e : y = E[k].2 := by rw [← this]
      rw [e]
      exact ⟨by simp, hs⟩
theorem LookAt.end_ {E : List (α × α)} {s : α} {seen : List α} {i : Nat} {x : α} (h : LookAt E s seen i x E.length) : Looks E s seen (i + 1) := by
  obtain ⟨b, ha, hu⟩ := h
  rw [List.take_length] at hu
  have hi : i < seen.length := (List.getElem?_eq_some_iff.1 ha).1
  refine ⟨b.nodup, b.from_, b.start, b.below, fun z hz y hy => ?_⟩
  rw [List.take_succ_eq_append_getElem hi] at hz
  rcases List.mem_append.1 hz with hz | hz
  · exact b.done z hz y hy
  · have : z = x := by
      rw [List.mem_singleton.1 hz]
      rw [List.getElem?_eq_getElem hi] at ha
      exact Option.some.inj ha
    subst this
    exact hu y hy
/-- the program's look: those that were seen (S), those still to be seen (T) -/
structure Digs (E : List (α × α)) (s : α) (S T : List α) : Prop where
  nodup : S.Nodup
  reach : ∀ x, x ∈ S ∨ x ∈ T → Conn E s x
  ne : ∀ x ∈ S, x ≠ s
  next : ∀ x, x = s ∨ x ∈ S → ∀ y, (x, y) ∈ E → y ∈ S ∨ y ∈ T
  below : ∀ x ∈ S, x ∈ E.map (·.2)
theorem Digs.hit {E : List (α × α)} {s : α} {S T : List α} (h : Digs E s S (T ++ [s])) : Conn E s s := h.reach s (.inr (by simp))
theorem Digs.no {E : List (α × α)} {s : α} {S : List α} (h : Digs E s S []) : ¬ Conn E s s := by
  intro c
  have : s ∈ S := Conn.all (P := fun y => y ∈ S) (fun y he => by simpa using h.next s (.inl rfl) y he) (fun x y hx he => by simpa using h.next x (.inr hx) y he) c
  exact h.ne s this rfl
theorem Digs.pop {E : List (α × α)} {s : α} {S T : List α} {x : α} (h : Digs E s S (T ++ [x])) (hx : x ∈ S) : Digs E s S T :=
  ⟨h.nodup, fun y hy => h.reach y (hy.imp id (List.mem_append_left _)), h.ne, fun z hz y hy => by
    rcases h.next z hz y hy with q | q
    · exact .inl q
    · rcases List.mem_append.1 q with q | q
      · exact .inr q
      · exact .inl ((List.mem_singleton.1 q) ▸ hx), h.below⟩
theorem Digs.len {E : List (α × α)} {s : α} {S T : List α} (h : Digs E s S T) : S.length ≤ E.length := by
  have := nodup_len h.nodup (fun x hx => h.below x hx)
  simpa using this
/-- how long it may last -/
def digM (E : List (α × α)) (S T : List α) : Nat := (E.length - S.length) * (E.length + 1) + T.length
theorem digM_pop (E : List (α × α)) (S T : List α) (x : α) : digM E S (T ++ [x]) = digM E S T + 1 := by unfold digM; simp; omega
variable [DecidableEq α]
/-- whom one leads to, by the pairs in their order -/
def nexts (E : List (α × α)) (x : α) : List α := (E.filter (fun p => decide (p.1 = x))).map (·.2)
theorem mem_nexts {E : List (α × α)} {x y : α} : y ∈ nexts E x ↔ (x, y) ∈ E := by
  unfold nexts
  simp [List.mem_map, List.mem_filter]
theorem nexts_len (E : List (α × α)) (x : α) : (nexts E x).length ≤ E.length := by unfold nexts; rw [List.length_map]; exact List.length_filter_le ..
theorem nexts_snoc (E : List (α × α)) (x y z : α) : nexts (E ++ [(x, y)]) z = if x = z then nexts E z ++ [y] else nexts E z := by
  unfold nexts
  rw [List.filter_append]
  by_cases h : x = z <;> simp [h]
theorem digs_start (E : List (α × α)) (s : α) : Digs E s [] (nexts E s) :=
  ⟨by simp, fun x hx => by rcases hx with q | q; · simp at q
                           · exact .one (mem_nexts.1 q), by simp, fun x hx y hy => by
    rcases hx with q | q
    · subst q; exact .inr (mem_nexts.2 hy)
    · simp at q, by simp⟩
theorem Digs.push {E : List (α × α)} {s : α} {S T : List α} {x : α} (h : Digs E s S (T ++ [x])) (hx : x ∉ S) (hs : x ≠ s) : Digs E s (S ++ [x]) (T ++ nexts E x) := by
  have hxc : Conn E s x := h.reach x (.inr (by simp))
  refine ⟨?_, ?_, ?_, ?_, ?_⟩
  · rw [List.nodup_append]
    refine ⟨h.nodup, by simp, fun a ha c hc => ?_⟩
    rw [List.mem_singleton.1 hc]
    exact fun q => hx (q ▸ ha)
  · intro y hy
    rcases hy with q | q
    · rcases List.mem_append.1 q with q | q
      · exact h.reach y (.inl q)
      · rw [List.mem_singleton.1 q]; exact hxc
    · rcases List.mem_append.1 q with q | q
      · exact h.reach y (.inr (List.mem_append_left _ q))
      · exact .more hxc (mem_nexts.1 q)
  · intro y hy
    rcases List.mem_append.1 hy with q | q
    · exact h.ne y q
    · rw [List.mem_singleton.1 q]; exact hs
  · intro z hz y hy
    by_cases e : z = x
    · subst e; exact .inr (List.mem_append_right _ (mem_nexts.2 hy))
    · have hz' : z = s ∨ z ∈ S := by
        rcases hz with q | q
        · exact .inl q
        · rcases List.mem_append.1 q with q | q
          · exact .inr q
          · exact absurd (List.mem_singleton.1 q) e
      rcases h.next z hz' y hy with q | q
      · exact .inl (List.mem_append_left _ q)
      · rcases List.mem_append.1 q with q | q
        · exact .inr (List.mem_append_left _ q)
        · exact .inl (List.mem_append_right _ q)
  · intro y hy
    rcases List.mem_append.1 hy with q | q
    · exact h.below y q
    · rw [List.mem_singleton.1 q]
      cases hxc with
      | one e => exact List.mem_map_of_mem e
      | more _ e => exact List.mem_map_of_mem e
theorem digM_push {E : List (α × α)} {s : α} {S T : List α} {x : α} (h : Digs E s (S ++ [x]) (T ++ nexts E x)) : digM E (S ++ [x]) (T ++ nexts E x) < digM E S (T ++ [x]) := by
  have h1 := h.len
  have h2 := nexts_len E x
  unfold digM
  rw [List.length_append, List.length_append, List.length_append]
  rw [List.length_append] at h1
  simp only [List.length_singleton] at *
  have e : E.length - S.length = (E.length - (S.length + 1)) + 1 := by omega
  rw [e, Nat.add_mul]
  omega
end
end Go.Proofs.YtnkddjomanaadaaGreatDoor.Lock
end

section
namespace Go.Proofs.YtnkddjomanaadaaGreatDoor.Lock
open Path (bl rightB overB)
set_option linter.unusedSimpArgs false
set_option linter.unusedVariables false

abbrev Ses := Int × ByteArray
def sesOf (e : Ent) : Ses := (e.num, e.foot)
def edgesOf (l m : List Ent) : List (Ses × Ses) := l.flatMap (fun e => (keepF (offF e) m).map (fun a => (sesOf e, sesOf a)))
theorem mem_edges {l m : List Ent} {x y : Ses} : (x, y) ∈ edgesOf l m ↔ ∃ e ∈ l, ∃ a ∈ m, a.stamp < e.stamp ∧ wayB a e = true ∧ sesOf e = x ∧ sesOf a = y := by
  unfold edgesOf
  simp only [List.mem_flatMap, List.mem_map, ahead_mem, Prod.mk.injEq]
  constructor
  · rintro ⟨e, he, a, ⟨h1, h2, h3⟩, h4, h5⟩; exact ⟨e, he, a, h1, h2, h3, h4, h5⟩
  · rintro ⟨e, he, a, h1, h2, h3, h4, h5⟩; exact ⟨e, he, a, ⟨h1, h2, h3⟩, h4, h5⟩
theorem edges_snoc (l m : List Ent) (e : Ent) : edgesOf (l ++ [e]) m = edgesOf l m ++ (keepF (offF e) m).map (fun a => (sesOf e, sesOf a)) := by
  unfold edgesOf; simp
theorem keepF_len (f : Ent → Bool) (m : List Ent) : (keepF f m).length ≤ m.length := List.length_filter_le ..
theorem edges_len (l m : List Ent) : (edgesOf l m).length ≤ l.length * m.length := by
  induction l with
  | nil => simp [edgesOf]
  | cons e l ih =>
    have h : edgesOf (e :: l) m = (keepF (offF e) m).map (fun a => (sesOf e, sesOf a)) ++ edgesOf l m := by unfold edgesOf; simp
    have h2 := keepF_len (offF e) m
    rw [h, List.length_append, List.length_map, List.length_cons, Nat.add_mul]
    omega
theorem edges_perm {l l' m m' : List Ent} (h1 : l.Perm l') (h2 : m.Perm m') {x y : Ses} : Conn (edgesOf l m) x y → Conn (edgesOf l' m') x y :=
  Conn.sub fun p hp => by
    obtain ⟨a, b⟩ := p
    obtain ⟨e, he, c, hc, h⟩ := mem_edges.1 hp
    exact mem_edges.2 ⟨e, h1.mem_iff.1 he, c, h2.mem_iff.1 hc, h⟩
/-- all of these sessions gone -/
def goneA (s : S3) (ss : List Ses) : S3 := ss.foldl (fun t x => t.dropAll x.1 x.2) s
theorem goneA_es (ss : List Ses) : ∀ (s : S3), (goneA s ss).es = s.es.filter (fun e => ss.all (fun x => !e.of x.1 x.2)) ∧ (goneA s ss).first = s.first ∧ (goneA s ss).cs = s.cs := by
  induction ss with
  | nil => intro s; exact ⟨(List.filter_eq_self.2 (fun x hx => by simp)).symm, rfl, rfl⟩
  | cons a rs ih =>
    intro s
    obtain ⟨h1, h2, h3⟩ := ih (s.dropAll a.1 a.2)
    have e : goneA s (a :: rs) = goneA (s.dropAll a.1 a.2) rs := rfl
    rw [e]
    refine ⟨?_, h2, h3⟩
    rw [h1]
    simp only [S3.dropAll, List.filter_filter, List.all_cons]
    congr 1
    funext x
    rw [Bool.and_comm]
theorem goneA_snoc (s : S3) (ss : List Ses) (x : Ses) : goneA s (ss ++ [x]) = (goneA s ss).dropAll x.1 x.2 := by unfold goneA; rw [List.foldl_append]; rfl
theorem goneA_inv {s : S3} {k : Nat} (h : Inv s k) (ss : List Ses) : Inv (goneA s ss) k := by
  obtain ⟨h1, h2, h3⟩ := goneA_es ss s
  have e : goneA s ss = ⟨s.first, (goneA s ss).es, s.cs⟩ := by rw [← h2, ← h3]
  rw [e]
  exact h.sub (by rw [h1]; exact List.filter_sublist)
theorem goneA_none {s : S3} {ss : List Ses} {l m l' m' : List Ent} (hl : l.Perm s.es) (hm : m.Perm s.es) (hs : ∀ x, Conn (edgesOf l m) x x → x ∈ ss) (hl' : l'.Perm (goneA s ss).es) (hm' : m'.Perm (goneA s ss).es) (x : Ses) : ¬ Conn (edgesOf l' m') x x := by
  intro c
  obtain ⟨z, hz⟩ := c.first
  obtain ⟨e, he, _, _, _, _, hx, _⟩ := mem_edges.1 hz
  have h1 := (goneA_es ss s).1
  have he := hl'.mem_iff.1 he
  rw [h1, List.mem_filter, List.all_eq_true] at he
  have hin : x ∈ ss := by
    refine hs x (c.sub fun p hp => ?_)
    obtain ⟨a, b⟩ := p
    obtain ⟨e1, he1, e2, he2, h⟩ := mem_edges.1 hp
    have m1 := hl'.mem_iff.1 he1
    have m2 := hm'.mem_iff.1 he2
    rw [h1] at m1 m2
    exact mem_edges.2 ⟨e1, hl.mem_iff.2 (List.mem_filter.1 m1).1, e2, hm.mem_iff.2 (List.mem_filter.1 m2).1, h⟩
  have := he.2 x hin
  subst hx
  simp [Ent.of, sesOf] at this
end Go.Proofs.YtnkddjomanaadaaGreatDoor.Lock
end

section
namespace Go.Proofs.YtnkddjomanaadaaGreatDoor.Sess
open Go.RowKit
open Go.Sort Go.Shelf
open Go.Lib (compareBytes compareInt)
open _root_.Go.Proofs.YtnkddjomanaadaaGreatDoor.Mark (orI or2 three_grow new_cell)
set_option linter.unusedSimpArgs false
set_option linter.unusedVariables false

def seV (x : Int × ByteArray) : Value := .agg #[.int .u64 x.1, .string x.2]
def seL (x : Int × ByteArray) : List Value := [.int .u64 x.1, .string x.2]
/-! ### Bytes -/
theorem cb_three : ∀ (a b : List UInt8), compareBytes a b = -1 ∨ compareBytes a b = 0 ∨ compareBytes a b = 1
  | [], [] => by simp [compareBytes]
  | [], _ :: _ => by simp [compareBytes]
  | _ :: _, [] => by simp [compareBytes]
  | a :: x, b :: y => by
    have := cb_three x y
    unfold compareBytes
    split
    · simp
    · split
      · simp
      · exact this
theorem cb_flip : ∀ (a b : List UInt8), compareBytes b a = - compareBytes a b
  | [], [] => by simp [compareBytes]
  | [], _ :: _ => by simp [compareBytes]
  | _ :: _, [] => by simp [compareBytes]
  | a :: x, b :: y => by
    have := cb_flip x y
    simp only [compareBytes]
    rcases Nat.lt_trichotomy a.toNat b.toNat with h | h | h
    · have h1 : a < b := UInt8.lt_iff_toNat_lt.2 h
      have h2 : ¬ b < a := fun q => by have := UInt8.lt_iff_toNat_lt.1 q; omega
      simp [h1, h2]
    · have e : a = b := UInt8.toNat_inj.1 h
      subst e
      have h1 : ¬ a < a := fun q => by have := UInt8.lt_iff_toNat_lt.1 q; omega
      simp [h1, this]
    · have h1 : b < a := UInt8.lt_iff_toNat_lt.2 h
      have h2 : ¬ a < b := fun q => by have := UInt8.lt_iff_toNat_lt.1 q; omega
      simp [h1, h2]
theorem cb_zero : ∀ (a b : List UInt8), compareBytes a b = 0 → a = b
  | [], [], _ => rfl
  | [], _ :: _, h => by simp [compareBytes] at h
  | _ :: _, [], h => by simp [compareBytes] at h
  | a :: x, b :: y, h => by
    simp only [compareBytes] at h
    rcases Nat.lt_trichotomy a.toNat b.toNat with q | q | q
    · have h1 : a < b := UInt8.lt_iff_toNat_lt.2 q
      simp [h1] at h
    · have e : a = b := UInt8.toNat_inj.1 q
      subst e
      have h1 : ¬ a < a := fun q => by have := UInt8.lt_iff_toNat_lt.1 q; omega
      simp [h1] at h
      rw [cb_zero x y h]
    · have h1 : b < a := UInt8.lt_iff_toNat_lt.2 q
      have h2 : ¬ a < b := fun q => by have := UInt8.lt_iff_toNat_lt.1 q; omega
      simp [h1, h2] at h
theorem cb_trans : ∀ (a b c : List UInt8), compareBytes a b < 0 → compareBytes b c < 0 → compareBytes a c < 0
  | [], _, [], h1, h2 => by
    rename_i b
    have := cb_flip [] b
    omega
  | [], _, _ :: _, _, _ => by simp [compareBytes]
  | _ :: _, [], _, h1, _ => by simp [compareBytes] at h1
  | _ :: _, _ :: _, [], _, h2 => by simp [compareBytes] at h2
  | a :: x, b :: y, c :: z, h1, h2 => by
    have ih := cb_trans x y z
    simp only [compareBytes] at *
    simp only [UInt8.lt_iff_toNat_lt] at *
    split at h1
    · split at h2
      · rw [if_pos (by omega)]; omega
      · split at h2
        · simp at h2
        · rw [if_pos (by omega)]; omega
    · split at h1
      · simp at h1
      · split at h2
        · rw [if_pos (by omega)]; omega
        · split at h2
          · simp at h2
          · rw [if_neg (by omega), if_neg (by omega)]
            exact ih h1 h2

set_option maxRecDepth 100000 in
theorem isNaN_u64 (x : Int) (w : World) : Calls Tryz.prog 79 #[.int .u64 x] w fun e w' => e = .returned (.bool false) ∧ w' = w := by
  go_enter Tryz.func79, Tryz.ntmps79
  go_wp2
  go_ret
  exact ⟨by simp, rfl⟩
set_option maxRecDepth 100000 in
theorem compare_u64 (x y : Int) (w : World) : Calls Tryz.prog 50 #[.int .u64 x, .int .u64 y] w fun e w' => e = .returned (.int .i64 (compareInt x y)) ∧ w' = w := by
  unfold compareInt
  by_cases h1 : x < y
  · go_enter Tryz.func50, Tryz.ntmps50
    go_wp2_with (go_at_call 79; refine (isNaN_u64 _ _).mono ?_; rintro e w' ⟨rfl, rfl⟩)
    refine bodyPost_ret (results_tmp rfl _ _ _) rfl ?_
    exact ⟨by simp [h1], rfl⟩
  · by_cases h2 : y < x
    · go_enter Tryz.func50, Tryz.ntmps50
      go_wp2_with (go_at_call 79; refine (isNaN_u64 _ _).mono ?_; rintro e w' ⟨rfl, rfl⟩)
      refine bodyPost_ret (results_tmp rfl _ _ _) rfl ?_
      exact ⟨by simp [h1, h2], rfl⟩
    · go_enter Tryz.func50, Tryz.ntmps50
      go_wp2_with (go_at_call 79; refine (isNaN_u64 _ _).mono ?_; rintro e w' ⟨rfl, rfl⟩)
      go_ret
      exact ⟨by simp [h1, h2], rfl⟩
def cbS (a b : ByteArray) : Int := compareBytes a.data.toList b.data.toList
def cmpS (x y : Int × ByteArray) : Int := orI (compareInt x.1 y.1) (cbS x.2 y.2)
/-! ### The order is one -/
def ltS (x y : Int × ByteArray) : Prop := x.1 < y.1 ∨ (x.1 = y.1 ∧ cbS x.2 y.2 < 0)
instance (x y : Int × ByteArray) : Decidable (ltS x y) := by unfold ltS; infer_instance
theorem cmpS_lt (x y : Int × ByteArray) : ltOf cmpS x y = decide (ltS x y) := by
  unfold ltOf cmpS orI compareInt ltS
  by_cases h1 : x.1 < y.1
  · simp [h1]
  · by_cases h2 : y.1 < x.1
    · have : x.1 ≠ y.1 := by omega
      simp [h1, h2, this]
    · have : x.1 = y.1 := by omega
      simp [this]
theorem cbS_flip (a b : ByteArray) : cbS b a = - cbS a b := cb_flip _ _
theorem cbS_trans {a b c : ByteArray} (h1 : cbS a b < 0) (h2 : cbS b c < 0) : cbS a c < 0 := cb_trans _ _ _ h1 h2
theorem cbS_zero {a b : ByteArray} (h : cbS a b = 0) : a = b := by
  have := cb_zero _ _ h
  obtain ⟨⟨x⟩⟩ := a
  obtain ⟨⟨y⟩⟩ := b
  simp at this
  rw [this]
theorem ltS_trans {x y z : Int × ByteArray} (h1 : ltS x y) (h2 : ltS y z) : ltS x z := by
  unfold ltS at *
  rcases h1 with h1 | ⟨h1, h1'⟩
  · rcases h2 with h2 | ⟨h2, _⟩ <;> left <;> omega
  · rcases h2 with h2 | ⟨h2, h2'⟩
    · left; omega
    · exact .inr ⟨by omega, cbS_trans h1' h2'⟩
theorem ltS_irrefl (x : Int × ByteArray) : ¬ ltS x x := by
  unfold ltS
  have := cbS_flip x.2 x.2
  omega
theorem ltS_tri (x y : Int × ByteArray) : ltS x y ∨ x = y ∨ ltS y x := by
  unfold ltS
  have h := cbS_flip x.2 y.2
  by_cases h0 : cbS x.2 y.2 = 0
  · have e := cbS_zero h0
    rcases Int.lt_trichotomy x.1 y.1 with q | q | q
    · exact .inl (.inl q)
    · exact .inr (.inl (Prod.ext q e))
    · exact .inr (.inr (.inl q))
  · rcases Int.lt_trichotomy x.1 y.1 with q | q | q
    · exact .inl (.inl q)
    · by_cases hl : cbS x.2 y.2 < 0
      · exact .inl (.inr ⟨q, hl⟩)
      · exact .inr (.inr (.inr ⟨q.symm, by omega⟩))
    · exact .inr (.inr (.inl q))
theorem swoS : SWO (ltOf cmpS) where
  irrefl x := by rw [cmpS_lt]; exact decide_eq_false (ltS_irrefl x)
  trans x y z h1 h2 := by rw [cmpS_lt] at *; exact decide_eq_true (ltS_trans (of_decide_eq_true h1) (of_decide_eq_true h2))
  ntrans x y z h1 h2 := by
    rw [cmpS_lt] at *
    refine decide_eq_false fun h => ?_
    have n1 := of_decide_eq_false h1
    have n2 := of_decide_eq_false h2
    rcases ltS_tri x y with q | q | q
    · exact n1 q
    · subst q; exact n2 h
    · exact n2 (ltS_trans q h)
theorem totS (x y : Int × ByteArray) (h1 : ltOf cmpS x y = false) (h2 : ltOf cmpS y x = false) : x = y := by
  rw [cmpS_lt] at *
  rcases ltS_tri x y with q | q | q
  · exact absurd q (of_decide_eq_false h1)
  · exact q
  · exact absurd q (of_decide_eq_false h2)
/-- sessions, sorted -/
def sortS (l : List (Int × ByteArray)) : List (Int × ByteArray) := l.mergeSort fun x y => !ltOf cmpS y x
end Go.Proofs.YtnkddjomanaadaaGreatDoor.Sess
end
