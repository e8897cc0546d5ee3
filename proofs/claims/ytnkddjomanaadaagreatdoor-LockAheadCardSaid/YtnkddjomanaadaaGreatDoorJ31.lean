/- LockLe, LockSa, LockAa, joined. -/
import Derived.Test.YtnkddjomanaadaaGreatDoorJ30
import Derived.Test.YtnkddjomanaadaaGreatDoorJ28
section
namespace Go.Proofs.YtnkddjomanaadaaGreatDoor.Lock
open Go.RowKit
open Go.Maps (Keyed)
open Path (bl rightB overB cmpP cmpL)
set_option linter.unusedSimpArgs false
set_option linter.unusedVariables false

/-! ### An element of a row is loaded, in the class of the worlds in which the row stands -/
theorem row_block {w : World} {E : TypeId} {size n cap : Nat} {ax : Option Addr} {xs : List Value} (h : (Part.row E size (.slice ax n cap) n xs).holds w) (hn : 0 < n) : ∃ g c, ax = some ⟨g, 0, none⟩ ∧ BlockIs w g c E ∧ c.take (n * size) = xs := by
  have hr : w.ownsRow 0 E size (.slice ax n cap) n xs := h
  rcases hr.2 with ⟨hv, rfl⟩ | ⟨g, cap', cur, hv, _, hh, hc, hm, hs, ht⟩
  · omega
  · cases hv
    exact ⟨g, cur.toList, rfl, (by unfold BlockIs; simpa using hh), ht⟩
theorem At.row_some {L0 L F : List Part} {w0 w : World} {E : TypeId} {size n cap : Nat} {ax : Option Addr} {xs : List Value} (h : At L0 w0 L w) (s : Sel (Part.row E size (.slice ax n cap) n xs) L F) (hn : 0 < n) : ∃ g, ax = some ⟨g, 0, none⟩ := by
  obtain ⟨g, _, h1, _⟩ := row_block (h.get s) hn
  exact ⟨g, h1⟩
theorem quiet_rowload_at {P : Program} {o : Oper} {a : Act} {L0 L F : List Part} {w0 : World} {K : Act → Prop} {ty : TypeId} {x : Operand} {E : TypeId} {size n cap g off : Nat} {xs : List Value} (hop : o.op = .load ty x) (hx : a.eval x = .pointer (some ⟨g, off, none⟩))
    (s : Sel (Part.row E size (.slice (some ⟨g, 0, none⟩) n cap) n xs) L F) (hn : 0 < n) (hu : (P.underlying ty).map (·.isRow) = some true) {m : Nat} (hi : (P.info? ty).map (·.size) = some m) {vs : List Value} (hv : (xs.drop off).take m = vs) (hl : vs.length = m) (hle : off + m ≤ n * size)
    (hk : K (a.put o.dst (.agg vs.toArray))) : o.quiet P a (Cl L0 w0 L) K :=
  quiet_at _ (fun w' hw => by
    obtain ⟨g', c, hg, hb, ht⟩ := row_block (At.get hw s) hn
    cases hg
    refine run_load_row hop hx hb hu hi (vs := vs) ?_ hl
    rw [← hv, ← ht]
    apply List.ext_getElem?
    intro j
    by_cases hj : j < m
    · rw [List.getElem?_take_of_lt hj, List.getElem?_take_of_lt hj, List.getElem?_drop, List.getElem?_drop, List.getElem?_take_of_lt (by omega)]
    · rw [List.getElem?_take_eq_none (by omega), List.getElem?_take_eq_none (by omega)]) hk

/-! ### What a list of all entries tells -/
theorem place_of_mem {s : S3} {k : Nat} (h : Inv s k) {e : Ent} (he : e ∈ s.es) : ∃ i, ∃ hi : i < s.es.length, s.es[i] = e ∧ idxD s.es e.path e.num e.foot = i ∧ find s.es e.path e.num e.foot = some e := by
  obtain ⟨l1, l2, hl⟩ := List.append_of_mem he
  have hk := h.keys
  rw [hl, List.pairwise_append] at hk
  have hn : ∀ x ∈ l1, x.is e.path e.num e.foot = false := fun x hx => by
    have := hk.2.2 x hx e (by simp)
    simp only [Ent.is, decide_eq_false_iff_not]
    exact this
  have hi : l1.length < s.es.length := by rw [hl]; simp
  have he1 : s.es[l1.length] = e := by simp [hl]
  refine ⟨l1.length, hi, he1, ?_, ?_⟩
  · have ht : s.es.take l1.length = l1 := by simp [hl]
    exact idx_at hi (by rw [ht]; exact hn) (by rw [he1]; simp [Ent.is])
  · unfold find
    rw [List.find?_eq_some_iff_append]
    exact ⟨by simp [Ent.is], l1, l2, hl, fun x hx => by simp [hn x hx]⟩
theorem granted_place {s : S3} {k : Nat} (h : Inv s k) {e : Ent} {i : Nat} (hi : i < s.es.length) (he : s.es[i] = e) (hf : find s.es e.path e.num e.foot = some e) : grantedB s.es e = grantD s.es i := by
  unfold grantedB
  rw [hf]
  simp only [decide_true, Bool.true_and]
  exact clear_grant h.order (by rw [List.getElem?_eq_getElem hi, he])
theorem granted_more {es : List Ent} {e : Ent} (hf : find es e.path e.num e.foot = some e) : grantedB es ⟨e.path, e.num, e.foot, e.mode, e.n + 1, e.stamp⟩ = false := by
  unfold grantedB
  rw [Bool.and_eq_false_iff]
  left
  simp only
  rw [hf]
  simp only [decide_eq_false_iff_not, Option.some.injEq]
  intro q
  have := congrArg Ent.n q
  simp only at this
  omega
theorem lt_compare {x y : Ent} (hx : rightB (bl x.path) = true) (hy : rightB (bl y.path) = true) (h : ltE x y) : cmpP (bl x.path) (bl y.path) ≤ 0 ∧ (x.path = y.path → x.stamp < y.stamp) := by
  have hc : cmpP (bl x.path) (bl y.path) = cmpL (keyL x) (keyL y) := by unfold cmpP keyL; rw [if_pos ⟨hx, hy⟩]
  rw [hc]
  rcases h with h | ⟨h, h2⟩
  · refine ⟨by omega, fun q => ?_⟩
    exfalso
    have : keyL x = keyL y := by unfold keyL; rw [q]
    rw [this, Path.cl_self] at h
    omega
  · exact ⟨by rw [h, Path.cl_self]; omega, fun _ => h2⟩
end Go.Proofs.YtnkddjomanaadaaGreatDoor.Lock
end

section
namespace Go.Proofs.YtnkddjomanaadaaGreatDoor.Lock
open Path (bl rightB overB cmpP cmpL)
set_option linter.unusedSimpArgs false
set_option linter.unusedVariables false

theorem clear_iff {l : List Ent} {e : Ent} : clearB l e = true ↔ ∀ x ∈ l, x.stamp < e.stamp → wayB x e = false := by
  unfold clearB
  simp only [List.all_eq_true]
  constructor
  · intro h x hx hs
    have := h x hx
    simpa [hs] using this
  · intro h x hx
    by_cases hs : x.stamp < e.stamp
    · simp [h x hx hs]
    · simp [hs]
/-- one that is granted stays so, while it is there -/
theorem clear_step {s : S3} {k : Nat} (h : Inv s k) {o : Op} {e : Ent} (he : e ∈ s.es) (hc : clearB s.es e = true) : clearB (s.step o).es e = true := by
  rw [clear_iff] at hc ⊢
  intro x hx hs
  have hmem : x ∈ s.es ∨ x = s.newE o.path o.num o.foot o.mode := by
    unfold S3.step at hx
    split at hx
    · unfold S3.add at hx
      split at hx
      · unfold S3.added at hx
        simp at hx
        exact hx
      · exact .inl hx
    split at hx
    · exact .inl (List.mem_filter.1 hx).1
    split at hx
    · exact .inl (List.mem_filter.1 hx).1
    · exact .inl hx
  rcases hmem with hm | rfl
  · exact hc x hm hs
  · cases hw : wayB (s.newE o.path o.num o.foot o.mode) e with
    | false => rfl
    | true =>
      have ho := way_over hw
      rw [Path.over_comm] at ho
      have := maxS_ge (p := o.path) he ho
      simp only [S3.newE] at hs
      omega
/-- no two that are granted are in each other's way -/
theorem two_granted {s : S3} {k : Nat} (h : Inv s k) {e f : Ent} (he : e ∈ s.es) (hf : f ∈ s.es) (hn : e ≠ f) (hc : clearB s.es e = true) (hd : clearB s.es f = true) : wayB e f = false := by
  rw [clear_iff] at hc hd
  cases hw : wayB e f with
  | false => rfl
  | true =>
    have ho := way_over hw
    have hw2 : wayB f e = true := by rw [← hw]; unfold wayB; rw [Path.over_comm, Bool.or_comm]
    obtain ⟨i, hi, rfl⟩ := List.getElem_of_mem he
    obtain ⟨j, hj, rfl⟩ := List.getElem_of_mem hf
    rcases Nat.lt_trichotomy i j with q | q | q
    · have := List.pairwise_iff_getElem.1 h.order i j hi hj q ho
      rw [hd _ he this] at hw
      cases hw
    · subst q; exact absurd rfl hn
    · have := List.pairwise_iff_getElem.1 h.order j i hj hi q (by rw [Path.over_comm]; exact ho)
      rw [hc _ hf this] at hw2
      cases hw2
theorem ltE_ne {x y : Ent} (h : ltE x y) : x ≠ y := by
  rintro rfl
  rcases h with h | ⟨_, h⟩
  · rw [Path.cl_self] at h; omega
  · omega
/-- of one path those that came later have greater numbers -/
theorem nums_rise {s : S3} {k : Nat} (h : Inv s k) {x y : Ent} (hx : x ∈ s.es) (hy : y ∈ s.es) (hl : ltE x y) (hp : x.path = y.path) : x.n < y.n := by
  have hs := (lt_compare (h.right _ hx) (h.right _ hy) hl).2 hp
  obtain ⟨i, hi, rfl⟩ := List.getElem_of_mem hx
  obtain ⟨j, hj, rfl⟩ := List.getElem_of_mem hy
  rcases Nat.lt_trichotomy i j with q | q | q
  · exact List.pairwise_iff_getElem.1 h.nums i j hi hj q hp
  · subst q; omega
  · have := List.pairwise_iff_getElem.1 h.order j i hj hi q (by rw [hp]; exact Path.over_self (h.right _ hy))
    omega
/-- what was granted, behind a step: gone, another one, or granted -/
theorem held_step {s : S3} {k : Nat} (h : Inv s k) {o : Op} {e x : Ent} (he : e ∈ s.es) (hg : grantedB s.es e = true) (hf : find (s.step o).es e.path e.num e.foot = some x) : x ≠ e ∨ grantedB (s.step o).es e = true := by
  by_cases hx : x = e
  · subst hx
    refine .inr ?_
    unfold grantedB at hg ⊢
    rw [hf]
    simp only [Bool.and_eq_true, decide_eq_true_eq] at hg ⊢
    exact ⟨trivial, clear_step h he hg.2⟩
  · exact .inl hx
theorem granted_parts {es : List Ent} {e : Ent} (h : grantedB es e = true) : find es e.path e.num e.foot = some e ∧ clearB es e = true := by
  unfold grantedB at h
  simpa using h
theorem first_step (s : S3) (o : Op) : (s.step o).first = s.first := by
  unfold S3.step
  split
  · unfold S3.add; split <;> rfl
  split
  · rfl
  split <;> rfl
end Go.Proofs.YtnkddjomanaadaaGreatDoor.Lock
end

section
namespace Go.Proofs.YtnkddjomanaadaaGreatDoor.Lock
open Path (bl rightB overB cmpP cmpL)
set_option linter.unusedSimpArgs false
set_option linter.unusedVariables false

theorem ahead_mem {l : List Ent} {e a : Ent} : a ∈ keepF (offF e) l ↔ a ∈ l ∧ a.stamp < e.stamp ∧ wayB a e = true := by
  unfold keepF offF
  rw [List.mem_filter]
  constructor
  · rintro ⟨h1, h2⟩
    simp at h2
    exact ⟨h1, by omega, h2.2⟩
  · rintro ⟨h1, h2, h3⟩
    refine ⟨h1, ?_⟩
    simp [h3]
    omega
/-- one that came earlier, and is in the way, is ahead -/
theorem early_ahead {s : S3} {k : Nat} (h : Inv s k) {i j : Nat} (hi : i < s.es.length) (hj : j < i) (hw : wayB (s.es[j]'(by omega)) s.es[i] = true) : (s.es[j]'(by omega)).stamp < s.es[i].stamp :=
  List.pairwise_iff_getElem.1 h.order j i (by omega) hi hj (way_over hw)
theorem ahead_filter {l : List Ent} (ho : l.Pairwise (fun a b => overB (bl a.path) (bl b.path) = true → a.stamp < b.stamp)) {i : Nat} (hi : i < l.length) : keepF (offF l[i]) l = (l.take i).filter (fun x => wayB x l[i]) := by
  have hl : l = l.take i ++ l[i] :: l.drop (i + 1) := by rw [List.getElem_cons_drop hi, List.take_append_drop]
  have ho2 := ho
  rw [hl, List.pairwise_append, List.pairwise_cons] at ho2
  obtain ⟨_, ⟨h2, _⟩, h3⟩ := ho2
  unfold keepF
  obtain ⟨e, he⟩ : ∃ e, l[i] = e := ⟨_, rfl⟩
  rw [he] at hl h2 h3 ⊢
  obtain ⟨l1, hl1⟩ : ∃ r, l.take i = r := ⟨_, rfl⟩
  obtain ⟨l2, hl2⟩ : ∃ r, l.drop (i + 1) = r := ⟨_, rfl⟩
  rw [hl1, hl2] at hl
  rw [hl1] at h3 ⊢
  rw [hl2] at h2 h3
  rw [hl]
  rw [List.filter_append, List.filter_cons]
  have e1 : l2.filter (fun x => !offF e x) = [] := by
    rw [List.filter_eq_nil_iff]
    intro x hx
    unfold offF
    cases hw : wayB x e with
    | false => simp
    | true =>
      have := h2 x hx (by rw [Path.over_comm]; exact way_over hw)
      simp
      omega
  have e2 : (!offF e e) = false := by unfold offF; simp
  have e3 : l1.filter (fun x => !offF e x) = l1.filter (fun x => wayB x e) := by
    refine List.filter_congr fun x hx => ?_
    unfold offF
    cases hw : wayB x e with
    | false => simp
    | true =>
      have := h3 x hx e (List.mem_cons_self ..) (way_over hw)
      simp
      omega
  rw [e1, e2, e3]
  simp
theorem keepF_perm {f : Ent → Bool} {l r : List Ent} (h : l.Perm r) : (keepF f l).Perm (keepF f r) := h.filter _
/-- how many are ahead -/
theorem ahead_len {s : S3} {k : Nat} (h : Inv s k) {l : List Ent} (hp : l.Perm s.es) {i : Nat} (hi : i < s.es.length) : (keepF (offF s.es[i]) l).length = ((s.es.take i).filter (fun x => wayB x s.es[i])).length := by
  rw [(keepF_perm hp).length_eq, ahead_filter h.order hi]
/-- granted just if nobody is ahead -/
theorem grant_none {s : S3} {i : Nat} (hi : i < s.es.length) : grantD s.es i = decide (((s.es.take i).filter (fun x => wayB x s.es[i])).length = 0) := by
  unfold grantD
  rw [List.getElem?_eq_getElem hi]
  simp only
  rw [Bool.eq_iff_iff, decide_eq_true_iff, List.length_eq_zero_iff, List.filter_eq_nil_iff]
  simp
/-- all of these gone -/
def goneS (s : S3) (rs : List Ent) : S3 := rs.foldl (fun t a => t.remove a.path a.num a.foot) s
theorem gone_es (rs : List Ent) : ∀ (s : S3), (goneS s rs).es = s.es.filter (fun x => rs.all (fun a => !x.is a.path a.num a.foot)) ∧ (goneS s rs).first = s.first ∧ (goneS s rs).cs = s.cs := by
  induction rs with
  | nil => intro s; exact ⟨(List.filter_eq_self.2 (fun x hx => by simp)).symm, rfl, rfl⟩
  | cons a rs ih =>
    intro s
    obtain ⟨h1, h2, h3⟩ := ih (s.remove a.path a.num a.foot)
    have e : goneS s (a :: rs) = goneS (s.remove a.path a.num a.foot) rs := rfl
    rw [e]
    refine ⟨?_, h2, h3⟩
    rw [h1]
    simp only [S3.remove, List.filter_filter, List.all_cons]
    congr 1
    funext x
    rw [Bool.and_comm]
theorem gone_inv {s : S3} {k : Nat} (h : Inv s k) (rs : List Ent) : Inv (goneS s rs) k := by
  obtain ⟨h1, h2, h3⟩ := gone_es rs s
  have e : goneS s rs = ⟨s.first, (goneS s rs).es, s.cs⟩ := by rw [← h2, ← h3]
  rw [e]
  exact h.sub (by rw [h1]; exact List.filter_sublist)
theorem gone_grant {s : S3} {k : Nat} (h : Inv s k) {l : List Ent} (hp : l.Perm s.es) {e : Ent} (he : e ∈ s.es) : grantedB (goneS s (keepF (offF e) l)).es e = true := by
  obtain ⟨h1, h2, h3⟩ := gone_es (keepF (offF e) l) s
  have hI := gone_inv h (keepF (offF e) l)
  have key : ∀ {x y : Ent}, x ∈ s.es → y ∈ s.es → x.is y.path y.num y.foot = true → x = y := by
    intro x y hx hy hxy
    have hxy : x.path = y.path ∧ x.num = y.num ∧ x.foot = y.foot := by simpa [Ent.is] using hxy
    obtain ⟨i, hi, rfl⟩ := List.getElem_of_mem hx
    obtain ⟨j, hj, rfl⟩ := List.getElem_of_mem hy
    rcases Nat.lt_trichotomy i j with q | q | q
    · exact absurd hxy (List.pairwise_iff_getElem.1 h.keys i j hi hj q)
    · subst q; rfl
    · exact absurd ⟨hxy.1.symm, hxy.2.1.symm, hxy.2.2.symm⟩ (List.pairwise_iff_getElem.1 h.keys j i hj hi q)
  have hm : e ∈ (goneS s (keepF (offF e) l)).es := by
    rw [h1, List.mem_filter]
    refine ⟨he, ?_⟩
    rw [List.all_eq_true]
    intro a ha
    obtain ⟨a1, a2, a3⟩ := ahead_mem.1 ha
    cases hq : e.is a.path a.num a.foot with
    | false => rfl
    | true =>
      have := key he (hp.mem_iff.1 a1) hq
      subst this
      omega
  obtain ⟨i, hi, hie, _, hf⟩ := place_of_mem hI hm
  unfold grantedB
  rw [hf]
  simp only [decide_true, Bool.true_and]
  rw [clear_iff]
  intro x hx hs
  cases hw : wayB x e with
  | false => rfl
  | true =>
    rw [h1, List.mem_filter, List.all_eq_true] at hx
    have := hx.2 x (ahead_mem.2 ⟨hp.mem_iff.2 hx.1, hs, hw⟩)
    simp [Ent.is] at this
end Go.Proofs.YtnkddjomanaadaaGreatDoor.Lock
end
