/- The plain law of ClockPlays: the document's list and the clock's map hold the same. No walk in sight. -/
import Derived.Test.YticmopnbfpgaiaaClockA
namespace Go.Proofs.Yticmopnbfpgaiaa.Clk
open Go.RowKit
open _root_.Go.Proofs.Yticmopnbfpgaiaa.Mark (idV idL ltID sortID idL_len sort_len idL_one cmpID cmpID_lt sort_perm)
set_option linter.unusedSimpArgs false
set_option linter.unusedVariables false

def SortedW (L : List WR) : Prop := L.Pairwise (fun x y => ltID x.1 y.1)
structure Good (mp L : List WR) (now : Int) : Prop where
  mem : ∀ x, x ∈ mp ↔ x ∈ L
  sorted : SortedW L
  past : Past mp now
theorem lt_ne {x y : I2} (h : ltID x y) : x ≠ y := by
  rintro rfl
  unfold ltID at h
  omega
theorem lt_trans {x y z : I2} (h1 : ltID x y) (h2 : ltID y z) : ltID x z := by
  unfold ltID at *
  omega
theorem lt_total {x y : I2} (h : ¬ ltID x y) (hne : x ≠ y) : ltID y x := by
  unfold ltID at *
  obtain ⟨a, b⟩ := x
  obtain ⟨c, d⟩ := y
  simp only [ne_eq, Prod.mk.injEq] at *
  omega
theorem sort_self {L : List WR} (h : SortedW L) : sortID (keysL L) = keysL L := by
  unfold sortID
  refine List.mergeSort_of_pairwise ?_
  unfold keysL
  rw [List.pairwise_map]
  refine h.imp ?_
  intro x y hxy
  rw [cmpID_lt]
  simp only [Bool.not_eq_true', decide_eq_false_iff_not]
  intro hyx
  exact lt_ne (lt_trans hxy hyx) rfl
theorem Good.agree {mp L : List WR} {now : Int} (h : Good mp L now) (nd : mp.Pairwise (fun x y => x.1 ≠ y.1)) : Agree mp L now := by
  refine ⟨?_, fun x hx => (h.mem x).2 hx, h.past⟩
  have n1 : mp.Nodup := nd.imp (fun h e => h (by rw [e]))
  have n2 : L.Nodup := by
    have q : L.Pairwise (fun x y => ltID x.1 y.1) := h.sorted
    exact q.imp (fun q e => lt_ne q (congrArg Prod.fst e))
  have hp : mp.Perm L := (List.perm_ext_iff_of_nodup n1 n2).2 h.mem
  have e : (keysL mp).Perm (keysL L) := hp.map (fun x : WR => x.1)
  rw [sort_perm e]
  exact sort_self h.sorted
theorem sorted_key {L : List WR} (h : SortedW L) {x y : WR} (hx : x ∈ L) (hy : y ∈ L) (e : x.1 = y.1) : x = y := by
  by_cases hne : x = y
  · exact hne
  · exfalso
    obtain ⟨i, hi⟩ := List.mem_iff_getElem?.1 hx
    obtain ⟨j, hj⟩ := List.mem_iff_getElem?.1 hy
    obtain ⟨hi1, hi2⟩ := List.getElem?_eq_some_iff.1 hi
    obtain ⟨hj1, hj2⟩ := List.getElem?_eq_some_iff.1 hj
    have hij : i ≠ j := by
      intro q; subst q; exact hne (hi2.symm.trans hj2)
    have hp := List.pairwise_iff_getElem.1 h
    rcases Nat.lt_or_gt_of_ne hij with q | q
    · have := hp i j hi1 hj1 q
      rw [hi2, hj2] at this
      exact lt_ne this e
    · have := hp j i hj1 hi1 q
      rw [hi2, hj2] at this
      exact lt_ne this e.symm
theorem since_in {L : List WR} (h : SortedW L) {x : WR} (hx : x ∈ L) : sinceL L x.1 = x.2 := by
  unfold sinceL
  cases hf : L.find? (fun y => y.1 == x.1) with
  | none =>
    have := List.find?_eq_none.1 hf x hx
    simp at this
  | some y =>
    rw [sorted_key h (List.mem_of_find?_eq_some hf) hx (by simpa using List.find?_some hf)]
theorem since_out {L : List WR} {id : I2} (h : ∀ x ∈ L, x.1 ≠ id) : sinceL L id = -1 := since_none (fun x hx => by simpa using h x hx)

theorem mem_forget {L : List WR} {id : I2} {x : WR} : x ∈ forgetL L id ↔ x ∈ L ∧ x.1 ≠ id := by
  unfold forgetL
  rw [List.mem_filter]
  simp
theorem mem_again {L : List WR} {id : I2} {t : Int} {x : WR} : x ∈ againL L id t ↔ (x ∈ L ∧ x.1 ≠ id) ∨ x = (id, t) := by
  unfold againL putL
  rw [← mem_forget]
  generalize forgetL L id = m
  have e : m = m.takeWhile (ahead id) ++ m.dropWhile (ahead id) := List.takeWhile_append_dropWhile.symm
  constructor
  · intro h
    rcases List.mem_append.1 h with h | h
    · left; rw [e]; exact List.mem_append_left _ h
    · rcases List.mem_cons.1 h with h | h
      · exact .inr h
      · left; rw [e]; exact List.mem_append_right _ h
  · rintro (h | h)
    · rw [e] at h
      rcases List.mem_append.1 h with h | h
      · exact List.mem_append_left _ h
      · exact List.mem_append_right _ (List.mem_cons_of_mem _ h)
    · subst h
      exact List.mem_append_right _ List.mem_cons_self
theorem sorted_forget {L : List WR} (h : SortedW L) (id : I2) : SortedW (forgetL L id) := h.sublist List.filter_sublist
theorem drop_head {id : I2} : ∀ {m : List WR}, ∀ {y : WR} {r : List WR}, m.dropWhile (ahead id) = y :: r → ahead id y = false
  | x :: m, y, r, h => by
    cases hx : ahead id x
    · simp [hx] at h
      rw [← h.1]; exact hx
    · simp [hx] at h
      exact drop_head h
theorem sorted_again {L : List WR} (h : SortedW L) (id : I2) (t : Int) : SortedW (againL L id t) := by
  have hs := sorted_forget h id
  have hne : ∀ x ∈ forgetL L id, x.1 ≠ id := fun x hx => (mem_forget.1 hx).2
  unfold againL putL
  generalize forgetL L id = m at *
  have e : m = m.takeWhile (ahead id) ++ m.dropWhile (ahead id) := List.takeWhile_append_dropWhile.symm
  have hs2 : SortedW (m.takeWhile (ahead id) ++ m.dropWhile (ahead id)) := by rw [← e]; exact hs
  obtain ⟨p1, p2, p3⟩ := List.pairwise_append.1 hs2
  have hlow : ∀ x ∈ m.takeWhile (ahead id), ltID x.1 id := fun x hx => by
    have : ∀ {m : List WR}, ∀ x ∈ m.takeWhile (ahead id), ahead id x = true := by
      intro m
      induction m with
      | nil => intro x hx; cases hx
      | cons y m ih =>
        intro x hx
        rw [List.takeWhile_cons] at hx
        split at hx
        · rename_i hy
          rcases List.mem_cons.1 hx with rfl | hx
          · exact hy
          · exact ih x hx
        · cases hx
    exact of_decide_eq_true (this x hx)
  have hhigh : ∀ x ∈ m.dropWhile (ahead id), ltID id x.1 := by
    cases hd : m.dropWhile (ahead id) with
    | nil => nofun
    | cons y r =>
      have hy := drop_head hd
      have hym : y ∈ m := by rw [e, hd]; simp
      have h1 : ltID id y.1 := lt_total (of_decide_eq_false hy) (hne y hym)
      rw [hd] at p2
      intro x hx
      rcases List.mem_cons.1 hx with rfl | hx
      · exact h1
      · exact lt_trans h1 ((List.pairwise_cons.1 p2).1 x hx)
  refine List.pairwise_append.2 ⟨p1, List.pairwise_cons.2 ⟨hhigh, p2⟩, ?_⟩
  intro x hx y hy
  rcases List.mem_cons.1 hy with rfl | hy
  · exact hlow x hx
  · exact p3 x hx y hy
theorem again_le (L : List WR) (id : I2) (t : Int) : (againL L id t).length ≤ L.length + 1 := by
  have h := forget_le L id
  unfold againL putL
  generalize forgetL L id = m at *
  have e := congrArg List.length (List.takeWhile_append_dropWhile (p := ahead id) (l := m))
  rw [List.length_append] at e
  rw [List.length_append, List.length_cons]
  omega

/-! ### The steps -/
theorem Good.nil (now : Int) : Good [] [] now := ⟨fun _ => .rfl, List.Pairwise.nil, nofun⟩
theorem Good.tick {mp L : List WR} {now : Int} (h : Good mp L now) : Good mp L (now + 1) :=
  ⟨h.mem, h.sorted, fun x hx => by obtain ⟨a, b, c⟩ := h.past x hx; exact ⟨a, b, by omega⟩⟩
theorem Good.fresh {mp L : List WR} {now : Int} (h : Good mp L now) (id : I2) : (sinceL L id < 0) ↔ ∀ x ∈ mp, x.1 ≠ id := by
  constructor
  · intro hs x hx e
    have := since_in h.sorted ((h.mem x).1 hx)
    rw [e] at this
    have := (h.past x hx).2.1
    omega
  · intro hn
    rw [since_out (fun x hx => hn x ((h.mem x).2 hx))]
    omega
theorem Good.again_new {mp L : List WR} {now : Int} (h : Good mp L now) (h0 : 0 ≤ now) {id : I2} (hok : okI id) (hn : ∀ x ∈ mp, x.1 ≠ id) : Good (mp ++ [(id, now)]) (againL L id now) now := by
  refine ⟨fun x => ?_, sorted_again h.sorted _ _, fun x hx => ?_⟩
  · rw [mem_again, List.mem_append, List.mem_singleton, ← h.mem]
    constructor
    · rintro (q | q)
      · exact .inl ⟨q, hn x q⟩
      · exact .inr q
    · rintro (⟨q, _⟩ | q)
      · exact .inl q
      · exact .inr q
  · rcases List.mem_append.1 hx with q | q
    · exact h.past x q
    · rw [List.mem_singleton.1 q]; exact ⟨hok, h0, Int.le_refl _⟩
theorem key_mid {l1 l2 : List WR} {x : WR} (nd : (l1 ++ x :: l2).Pairwise (fun x y => x.1 ≠ y.1)) : ∀ y, (y ∈ l1 ∨ y ∈ l2) → y.1 ≠ x.1 := by
  obtain ⟨_, h2, h3⟩ := List.pairwise_append.1 nd
  rintro y (q | q)
  · exact h3 y q x List.mem_cons_self
  · exact ((List.pairwise_cons.1 h2).1 y q).symm
theorem Good.again_there {L l1 l2 : List WR} {now t : Int} {id : I2} (h : Good (l1 ++ (id, t) :: l2) L now) (h0 : 0 ≤ now) (hok : okI id) (nd : (l1 ++ (id, t) :: l2).Pairwise (fun x y => x.1 ≠ y.1)) : Good (l1 ++ (id, now) :: l2) (againL L id now) now := by
  have hk := key_mid nd
  refine ⟨fun x => ?_, sorted_again h.sorted _ _, fun x hx => ?_⟩
  · rw [mem_again, ← h.mem]
    simp only [List.mem_append, List.mem_cons]
    constructor
    · rintro (q | q | q)
      · exact .inl ⟨.inl q, hk x (.inl q)⟩
      · exact .inr q
      · exact .inl ⟨.inr (.inr q), hk x (.inr q)⟩
    · rintro (⟨q | q | q, hne⟩ | q)
      · exact .inl q
      · subst q; exact absurd rfl hne
      · exact .inr (.inr q)
      · exact .inr (.inl q)
  · simp only [List.mem_append, List.mem_cons] at hx
    rcases hx with q | q | q
    · exact h.past x (by simp [q])
    · subst q; exact ⟨hok, h0, Int.le_refl _⟩
    · exact h.past x (by simp [q])
theorem Good.forget_none {mp L : List WR} {now : Int} (h : Good mp L now) {id : I2} (hn : ∀ x ∈ mp, x.1 ≠ id) : Good mp (forgetL L id) now :=
  ⟨fun x => by
    rw [mem_forget, ← h.mem]
    exact ⟨fun q => ⟨q, hn x q⟩, fun q => q.1⟩, sorted_forget h.sorted id, h.past⟩
theorem Good.forget_there {L l1 l2 : List WR} {now t : Int} {id : I2} (h : Good (l1 ++ (id, t) :: l2) L now) (nd : (l1 ++ (id, t) :: l2).Pairwise (fun x y => x.1 ≠ y.1)) : Good (l1 ++ l2) (forgetL L id) now := by
  have hk := key_mid nd
  refine ⟨fun x => ?_, sorted_forget h.sorted id, fun x hx => h.past x (by simp only [List.mem_append, List.mem_cons] at hx ⊢; rcases hx with q | q <;> simp [q])⟩
  rw [mem_forget, ← h.mem]
  simp only [List.mem_append, List.mem_cons]
  constructor
  · rintro (q | q)
    · exact ⟨.inl q, hk x (.inl q)⟩
    · exact ⟨.inr (.inr q), hk x (.inr q)⟩
  · rintro ⟨q | q | q, hne⟩
    · exact .inl q
    · subst q; exact absurd rfl hne
    · exact .inr q

/-! ### Keep -/
def sinceOr (L : List WR) (id : I2) (now : Int) : Int := if sinceL L id < 0 then now else sinceL L id
/-- the document's list once a list's first names are kept -/
def keepL (L : List WR) (now : Int) (l : List I2) : List WR := l.foldl (fun nx y => againL nx y (sinceOr L y now)) []
theorem keepL_snoc (L : List WR) (now : Int) (l : List I2) (y : I2) : keepL L now (l ++ [y]) = againL (keepL L now l) y (sinceOr L y now) := by simp [keepL]
theorem keepL_mem (L : List WR) (now : Int) (l : List I2) : (∀ x, x ∈ keepL L now l ↔ x.1 ∈ l ∧ x.2 = sinceOr L x.1 now) ∧ SortedW (keepL L now l) ∧ (keepL L now l).length ≤ l.length := by
  rw [← List.reverse_reverse l]
  induction l.reverse with
  | nil => exact ⟨by simp [keepL], List.Pairwise.nil, by simp [keepL]⟩
  | cons y r ih =>
    rw [List.reverse_cons]
    obtain ⟨h1, h2, h3⟩ := ih
    generalize r.reverse = l at *
    rw [keepL_snoc]
    refine ⟨fun x => ?_, sorted_again h2 _ _, by have := again_le (keepL L now l) y (sinceOr L y now); simp; omega⟩
    rw [mem_again, h1, List.mem_append, List.mem_singleton]
    constructor
    · rintro (⟨⟨q1, q2⟩, q3⟩ | q)
      · exact ⟨.inl q1, q2⟩
      · subst q; exact ⟨.inr rfl, rfl⟩
    · rintro ⟨q1, q2⟩
      by_cases e : x.1 = y
      · right; exact Prod.ext e (by rw [q2, e])
      · rcases q1 with q1 | q1
        · exact .inl ⟨⟨q1, q2⟩, e⟩
        · exact absurd q1 e
theorem Good.keep {mp mk L : List WR} {now : Int} (h : Good mp L now) (h0 : 0 ≤ now) {l : List I2} (hol : ∀ x ∈ l, okI x) (hk : KeptTo mp mk l l.length now) : Good mk (keepL L now l) now := by
  rw [KeptTo, List.take_length] at hk
  refine ⟨fun x => ?_, (keepL_mem L now l).2.1, fun x hx => ?_⟩
  · rw [hk, (keepL_mem L now l).1]
    constructor
    · rintro (⟨q1, q2⟩ | ⟨q1, q2, q3⟩)
      · refine ⟨q2, ?_⟩
        have e := since_in h.sorted ((h.mem x).1 q1)
        have := (h.past x q1).2.1
        unfold sinceOr
        rw [e, if_neg (by omega)]
      · refine ⟨q1, ?_⟩
        unfold sinceOr
        rw [since_out (fun y hy => q3 y ((h.mem y).2 hy)), if_pos (by omega)]
        exact q2
    · rintro ⟨q1, q2⟩
      by_cases hin : ∃ y ∈ mp, y.1 = x.1
      · obtain ⟨y, hy, e⟩ := hin
        have e1 := since_in h.sorted ((h.mem y).1 hy)
        have := (h.past y hy).2.1
        unfold sinceOr at q2
        rw [← e, e1, if_neg (by omega)] at q2
        have : x = y := Prod.ext e.symm q2
        subst this
        exact .inl ⟨hy, q1⟩
      · have hno : ∀ y ∈ mp, y.1 ≠ x.1 := fun y hy e => hin ⟨y, hy, e⟩
        refine .inr ⟨q1, ?_, hno⟩
        unfold sinceOr at q2
        rw [since_out (fun y hy => hno y ((h.mem y).2 hy)), if_pos (by omega)] at q2
        exact q2
  · rcases (hk x).1 hx with ⟨q1, _⟩ | ⟨q1, q2, _⟩
    · exact h.past x q1
    · exact ⟨hol _ q1, by omega, by omega⟩
end Go.Proofs.Yticmopnbfpgaiaa.Clk
