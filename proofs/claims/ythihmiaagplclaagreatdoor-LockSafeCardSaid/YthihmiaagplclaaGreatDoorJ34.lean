/- LockSa, joined. -/
import Derived.Test.YthihmiaagplclaaGreatDoorJ31
section
namespace Go.Proofs.YthihmiaagplclaaGreatDoor.Lock
open Path (bl rightB overB cmpP cmpL)
set_option linter.unusedSimpArgs false
set_option linter.unusedVariables false

theorem clear_iff {l : List Ent} {e : Ent} : clearB l e = true ↔ ∀ x ∈ l, x.stamp < e.stamp → wayB x e = false := by
  unfold clearB
  simp only [List.all_eq_true]
  constructor
  · intro h x hx hs
    have := h x hx
    simpa [hs] using this
  · intro h x hx
    by_cases hs : x.stamp < e.stamp
    · simp [h x hx hs]
    · simp [hs]
/-- one that is granted stays so, while it is there -/
theorem clear_step {s : S3} {k : Nat} (h : Inv s k) {o : Op} {e : Ent} (he : e ∈ s.es) (hc : clearB s.es e = true) : clearB (s.step o).es e = true := by
  rw [clear_iff] at hc ⊢
  intro x hx hs
  have hmem : x ∈ s.es ∨ x = s.newE o.path o.num o.foot o.mode := by
    unfold S3.step at hx
    split at hx
    · unfold S3.add at hx
      split at hx
      · unfold S3.added at hx
        simp at hx
        exact hx
      · exact .inl hx
    split at hx
    · exact .inl (List.mem_filter.1 hx).1
    split at hx
    · exact .inl (List.mem_filter.1 hx).1
    · exact .inl hx
  rcases hmem with hm | rfl
  · exact hc x hm hs
  · cases hw : wayB (s.newE o.path o.num o.foot o.mode) e with
    | false => rfl
    | true =>
      have ho := way_over hw
      rw [Path.over_comm] at ho
      have := maxS_ge (p := o.path) he ho
      simp only [S3.newE] at hs
      omega
/-- no two that are granted are in each other's way -/
theorem two_granted {s : S3} {k : Nat} (h : Inv s k) {e f : Ent} (he : e ∈ s.es) (hf : f ∈ s.es) (hn : e ≠ f) (hc : clearB s.es e = true) (hd : clearB s.es f = true) : wayB e f = false := by
  rw [clear_iff] at hc hd
  cases hw : wayB e f with
  | false => rfl
  | true =>
    have ho := way_over hw
    have hw2 : wayB f e = true := by rw [← hw]; unfold wayB; rw [Path.over_comm, Bool.or_comm]
    obtain ⟨i, hi, rfl⟩ := List.getElem_of_mem he
    obtain ⟨j, hj, rfl⟩ := List.getElem_of_mem hf
    rcases Nat.lt_trichotomy i j with q | q | q
    · have := List.pairwise_iff_getElem.1 h.order i j hi hj q ho
      rw [hd _ he this] at hw
      cases hw
    · subst q; exact absurd rfl hn
    · have := List.pairwise_iff_getElem.1 h.order j i hj hi q (by rw [Path.over_comm]; exact ho)
      rw [hc _ hf this] at hw2
      cases hw2
theorem ltE_ne {x y : Ent} (h : ltE x y) : x ≠ y := by
  rintro rfl
  rcases h with h | ⟨_, h⟩
  · rw [Path.cl_self] at h; omega
  · omega
/-- of one path those that came later have greater numbers -/
theorem nums_rise {s : S3} {k : Nat} (h : Inv s k) {x y : Ent} (hx : x ∈ s.es) (hy : y ∈ s.es) (hl : ltE x y) (hp : x.path = y.path) : x.n < y.n := by
  have hs := (lt_compare (h.right _ hx) (h.right _ hy) hl).2 hp
  obtain ⟨i, hi, rfl⟩ := List.getElem_of_mem hx
  obtain ⟨j, hj, rfl⟩ := List.getElem_of_mem hy
  rcases Nat.lt_trichotomy i j with q | q | q
  · exact List.pairwise_iff_getElem.1 h.nums i j hi hj q hp
  · subst q; omega
  · have := List.pairwise_iff_getElem.1 h.order j i hj hi q (by rw [hp]; exact Path.over_self (h.right _ hy))
    omega
/-- what was granted, behind a step: gone, another one, or granted -/
theorem held_step {s : S3} {k : Nat} (h : Inv s k) {o : Op} {e x : Ent} (he : e ∈ s.es) (hg : grantedB s.es e = true) (hf : find (s.step o).es e.path e.num e.foot = some x) : x ≠ e ∨ grantedB (s.step o).es e = true := by
  by_cases hx : x = e
  · subst hx
    refine .inr ?_
    unfold grantedB at hg ⊢
    rw [hf]
    simp only [Bool.and_eq_true, decide_eq_true_eq] at hg ⊢
    exact ⟨trivial, clear_step h he hg.2⟩
  · exact .inl hx
theorem granted_parts {es : List Ent} {e : Ent} (h : grantedB es e = true) : find es e.path e.num e.foot = some e ∧ clearB es e = true := by
  unfold grantedB at h
  simpa using h
theorem first_step (s : S3) (o : Op) : (s.step o).first = s.first := by
  unfold S3.step
  split
  · unfold S3.add; split <;> rfl
  split
  · rfl
  split <;> rfl
end Go.Proofs.YthihmiaagplclaaGreatDoor.Lock
end
