/- GraL, GrbA, GrbB, GraA, GrbD, joined. -/
import Derived.Test.YtgicohkmfbbbdaaK19
import Derived.Test.YtgicohkmfbbbdaaK6
import Derived.Test.YtgicohkmfbbbdaaK9
import Derived.Test.YtgicohkmfbbbdaaK13
section
namespace Go.Proofs.Ytgicohkmfbbbdaa.Gr
open Go.RowKit
open Tar (freeP freeP_iff knotL)
set_option linter.unusedSimpArgs false
set_option linter.unusedVariables false

structure OrIn (N : List Nd) (n : Nat) (gone : List Nat) (O : List Wt) (H : List Hs) : Prop where
  lo : O.length = n + 1
  lh : H.length = n + 1
  come : ∀ k x, H[k]? = some x → k ∈ gone → x.ha = none
  has : ∀ k x, H[k]? = some x → k ∉ gone → x.hs = knotL N.length (knF N) k ∧ (x.ha = none ↔ x.hs = [])
  open_ : ∀ k o, O[k]? = some o → (∀ z, z ∈ o.ws ↔ WaitOf N N.length k z ∧ z ∉ gone) ∧ (o.mb = none → o.ws = [])
theorem WtIn.start {N : List Nd} {n : Nat} {O : List Wt} {H : List Hs} (h : WtIn N n N.length O H) : OrIn N n [] O H := by
  refine ⟨h.lo, h.lh, nofun, fun k x hx _ => ?_, fun k o ho => ⟨fun z => by rw [(h.open_ k o ho).1 z]; simp, (h.open_ k o ho).2⟩⟩
  exact h.has k x hx
theorem knF_at {N : List Nd} {i : Nat} {d : Nd} (h : N[i]? = some d) : knF N i = d.knot := by unfold knF; rw [h]
theorem OrIn.free {N : List Nd} {n : Nat} {gone : List Nat} {O : List Wt} {H : List Hs} (h : OrIn N n gone O H) {i : Nat} {d : Nd} (hd : N[i]? = some d) (hk : d.knot ≤ n) :
    freeN O H d = freeP (nxF N) N.length (knF N) gone i := by
  obtain ⟨x, hx⟩ : ∃ x, H[d.knot]? = some x := ⟨_, List.getElem?_eq_getElem (by rw [h.lh]; omega)⟩
  obtain ⟨o, ho⟩ : ∃ o, O[d.knot]? = some o := ⟨_, List.getElem?_eq_getElem (by rw [h.lo]; omega)⟩
  have hkn := knF_at hd
  have hi := (List.getElem?_eq_some_iff.1 hd).1
  rw [Bool.eq_iff_iff, freeP_iff, hkn]
  unfold freeN
  rw [hx, ho]
  simp only [freeV, Bool.and_eq_true, Bool.or_eq_true, decide_eq_true_eq]
  have hws : (o.mb.isNone = true ∨ (o.ws.length : Int) = 0) ↔ o.ws = [] := by
    constructor
    · rintro (q | q)
      · exact (h.open_ _ _ ho).2 (by simpa using q)
      · exact List.eq_nil_of_length_eq_zero (by omega)
    · intro q
      right
      rw [q]
      rfl
  have hnil : o.ws = [] ↔ ∀ j, j < N.length → knF N j = d.knot → ∀ y ∈ nxF N j, knF N y = d.knot ∨ knF N y ∈ gone := by
    constructor
    · intro q j hj e y hy
      by_cases hg : knF N y ∈ gone
      · exact .inr hg
      · by_cases hz : knF N y = d.knot
        · exact .inl hz
        · have := ((h.open_ _ _ ho).1 (knF N y)).2 ⟨⟨j, hj, e, y, hy, rfl, hz⟩, hg⟩
          rw [q] at this
          cases this
    · intro q
      refine List.eq_nil_iff_forall_not_mem.2 fun z hz => ?_
      obtain ⟨⟨j, hj, e, y, hy, h1, h2⟩, hg⟩ := ((h.open_ _ _ ho).1 z).1 hz
      rcases q j hj e y hy with r | r
      · exact h2 (by rw [← h1, r])
      · exact hg (by rw [← h1]; exact r)
  rw [hws, hnil]
  refine and_congr ?_ Iff.rfl
  constructor
  · intro q hg
    rw [h.come _ _ hx hg] at q
    cases q
  · intro hg
    have h2 := h.has _ _ hx hg
    have hne : x.hs ≠ [] := by
      rw [h2.1]
      intro e
      have : i ∈ knotL N.length (knF N) d.knot := by unfold knotL; simp [hi, hkn]
      rw [e] at this
      cases this
    cases hh : x.ha with
    | none => exact absurd (h2.2.1 hh) hne
    | some _ => rfl
/-- the first -/
theorem find_first {p : Nat → Bool} {n i : Nat} (hi : i < n) (h : p i = true) (hno : ∀ j, j < i → p j = false) : (List.range n).find? p = some i := by
  rw [List.find?_range_eq_some]
  exact ⟨h, List.mem_range.2 hi, fun j hj => by rw [hno j hj]; rfl⟩
/-- what IndexFunc finds is what the order takes next -/
theorem OrIn.next {N : List Nd} {n : Nat} {gone : List Nat} {O : List Wt} {H : List Hs} (h : OrIn N n gone O H) (hk : ∀ (i : Nat) (d : Nd), N[i]? = some d → d.knot ≤ n) {i : Nat} {d : Nd} (hd : N[i]? = some d) (hf : freeN O H d = true) (hno : ∀ y ∈ N.take i, freeN O H y = false) :
    (List.range N.length).find? (freeP (nxF N) N.length (knF N) gone) = some i := by
  refine find_first (List.getElem?_eq_some_iff.1 hd).1 (by rw [← h.free hd (hk i d hd)]; exact hf) fun j hj => ?_
  have hjN : j < N.length := by have := (List.getElem?_eq_some_iff.1 hd).1; omega
  have e : N[j]? = some N[j] := List.getElem?_eq_getElem hjN
  rw [← h.free e (hk j _ e)]
  refine hno _ (List.mem_of_getElem? (i := j) ?_)
  rw [List.getElem?_take_of_lt hj, e]
/-- a knot comes -/
theorem OrIn.go {N : List Nd} {n : Nat} {gone : List Nat} {O O2 : List Wt} {H : List Hs} (h : OrIn N n gone O H) {k : Nat} (hO : ∀ (j : Nat) (o : Wt), O2[j]? = some o → ∃ o1 : Wt, O[j]? = some o1 ∧ o.mb = o1.mb ∧ ∀ z, z ∈ o.ws ↔ z ∈ o1.ws ∧ z ≠ k) (hl : O2.length = O.length) (c : Nat) (hs : List Nat) :
    OrIn N n (k :: gone) O2 (H.set k ⟨none, c, hs⟩) := by
  refine ⟨by rw [hl, h.lo], by rw [List.length_set, h.lh], fun j x hx hj => ?_, fun j x hx hj => ?_, fun j o ho => ?_⟩
  · by_cases e : k = j
    · subst e
      rw [List.getElem?_set_self (by have := (List.getElem?_eq_some_iff.1 hx).1; rwa [List.length_set] at this)] at hx
      cases hx
      rfl
    · rw [List.getElem?_set_ne e] at hx
      rcases List.mem_cons.1 hj with q | q
      · exact absurd q.symm e
      · exact h.come j x hx q
  · have e : k ≠ j := fun e => hj (by simp [e])
    rw [List.getElem?_set_ne e] at hx
    exact h.has j x hx fun q => hj (by simp [q])
  · obtain ⟨o1, h1, h2, h3⟩ := hO j o ho
    have h4 := h.open_ j o1 h1
    refine ⟨fun z => ?_, fun q => ?_⟩
    · rw [h3 z, h4.1 z]
      simp only [List.mem_cons, not_or]
      constructor
      · rintro ⟨⟨a, b⟩, c⟩; exact ⟨a, c, b⟩
      · rintro ⟨a, c, b⟩; exact ⟨⟨a, b⟩, c⟩
    · refine List.eq_nil_iff_forall_not_mem.2 fun z hz => ?_
      have := ((h3 z).1 hz).1
      rw [h4.2 (by rw [← h2]; exact q)] at this
      cases this
/-- a knot taken out of whom another one waits for -/
def Wt.less (k : Nat) (o : Wt) : Wt := ⟨o.mb, o.ws.filter fun z => z != k⟩
theorem wsE_del {l : List Nat} {k : Nat} (hk : k ∈ l) (hn : l.Nodup) : ∃ l1 l2, wsE l = wsE l1 ++ (.int .i64 (k : Int), .int .i64 1) :: wsE l2 ∧ wsE (l.filter fun z => z != k) = wsE l1 ++ wsE l2 := by
  obtain ⟨a, b, e⟩ := List.append_of_mem hk
  subst e
  have h1 := List.nodup_append.1 hn
  have ha : k ∉ a := fun q => h1.2.2 k q k (by simp) rfl
  have hb : k ∉ b := (List.nodup_cons.1 h1.2.1).1
  have fa : a.filter (fun z => z != k) = a := List.filter_eq_self.2 fun z hz => by have : z ≠ k := fun e => ha (by rw [← e]; exact hz); simpa using this
  have fb : b.filter (fun z => z != k) = b := List.filter_eq_self.2 fun z hz => by have : z ≠ k := fun e => hb (by rw [← e]; exact hz); simpa using this
  refine ⟨a, b, by simp [wsE], ?_⟩
  rw [List.filter_append, List.filter_cons, fa, fb]
  simp [wsE]
theorem less_no {l : List Nat} {k : Nat} (hk : k ∉ l) : (l.filter fun z => z != k) = l := List.filter_eq_self.2 fun z hz => by have : z ≠ k := fun e => hk (by rw [← e]; exact hz); simpa using this
theorem OrIn.gone {N : List Nd} {n : Nat} {gone : List Nat} {O : List Wt} {H : List Hs} (h : OrIn N n gone O H) (k : Nat) : OrIn N n (k :: gone) (O.map (Wt.less k)) (H.set k ⟨none, 0, []⟩) :=
  h.go (fun j o ho => by
    rw [List.getElem?_map] at ho
    obtain ⟨o1, h1, rfl⟩ := Option.map_eq_some_iff.1 ho
    exact ⟨o1, h1, rfl, fun z => by simp [Wt.less]⟩) (by simp) 0 []
end Go.Proofs.Ytgicohkmfbbbdaa.Gr
end

section
namespace Go.Proofs.Ytgicohkmfbbbdaa.Tar
set_option linter.unusedVariables false
set_option linter.unusedSimpArgs false

theorem filter_or {α : Type} {p q : α → Bool} (h : ∀ x, p x = true → q x = false) : ∀ l : List α, (l.filter fun x => q x || p x).Perm (l.filter p ++ l.filter q)
  | [] => .refl _
  | x :: l => by
    have ih := filter_or h l
    by_cases hp : p x = true
    · have hq := h x hp
      simp only [List.filter_cons, hp, hq, Bool.false_or, if_true, List.cons_append]
      exact ih.cons x
    · have hp : p x = false := by simpa using hp
      cases hq : q x with
      | false => simpa [List.filter_cons, hp, hq] using ih
      | true =>
        simp only [List.filter_cons, hp, hq, Bool.true_or, if_true]
        exact (ih.cons x).trans List.perm_middle.symm
section
variable {nx : Nat → List Nat} {n : Nat} {kn : Nat → Nat} {found : Nat} {sq : Nat → Int}
/-- what has come, and what is to come -/
structure OrdS (nx : Nat → List Nat) (n : Nat) (kn : Nat → Nat) (sq : Nat → Int) (gone pre : List Nat) (fuel : Nat) : Prop where
  whole : pre ++ ordP nx n kn sq fuel gone = ordP nx n kn sq n []
  sum : gone.length + fuel = n
  less : gone.length ≤ pre.length
  perm : pre.Perm ((List.range n).filter fun i => decide (kn i ∈ gone))
  shut : Shut nx n kn gone
theorem OrdS.start : OrdS nx n kn sq [] [] n := ⟨rfl, by simp, Nat.le_refl _, by simp, nofun⟩
theorem OrdS.le {gone pre : List Nat} {fuel : Nat} (h : OrdS nx n kn sq gone pre fuel) : pre.length ≤ n := by
  rw [h.perm.length_eq]
  exact Nat.le_trans (List.length_filter_le _ _) (by simp)
theorem OrdS.sub {gone pre : List Nat} {fuel : Nat} (h : OrdS nx n kn sq gone pre fuel) : ∀ i ∈ pre, i < n := fun i hi => by
  have := h.perm.mem_iff.1 hi
  simp at this
  exact this.1
theorem OrdS.done {gone pre : List Nat} {fuel : Nat} (h : OrdS nx n kn sq gone pre fuel) (hl : n ≤ pre.length) : pre = ordP nx n kn sq n [] := by
  have hall : ∀ i, i < n → kn i ∈ gone := fun i hi => by
    have h1 : ((List.range n).filter fun i => decide (kn i ∈ gone)) = List.range n := by
      refine List.Sublist.eq_of_length List.filter_sublist ?_
      have := h.perm.length_eq
      have h2 := List.length_filter_le (fun i => decide (kn i ∈ gone)) (List.range n)
      rw [List.length_range] at h2 ⊢
      omega
    have h2 : i ∈ (List.range n).filter fun i => decide (kn i ∈ gone) := by rw [h1]; exact List.mem_range.2 hi
    simpa using (List.mem_filter.1 h2).2
  rw [← h.whole]
  suffices e : ordP nx n kn sq fuel gone = [] by rw [e, List.append_nil]
  cases fuel with
  | zero => rfl
  | succ f =>
    unfold ordP
    have : (List.range n).find? (freeP nx n kn gone) = none := by
      rw [List.find?_eq_none]
      intro x hx hf
      exact (freeP_iff.1 hf).1 (hall x (List.mem_range.1 hx))
    rw [this]
theorem OrdS.more (hk : Kn nx n kn found) {gone pre : List Nat} {fuel : Nat} (h : OrdS nx n kn sq gone pre fuel) (hl : pre.length < n) : ∃ k, k < n ∧ freeP nx n kn gone k = true := by
  suffices H : ∃ i, i < n ∧ kn i ∉ gone by
    obtain ⟨i, hi, hg⟩ := H
    exact free_some hk h.shut hi hg
  refine Classical.byContradiction fun q => ?_
  have h1 : ((List.range n).filter fun i => decide (kn i ∈ gone)) = List.range n := List.filter_eq_self.2 fun i hi => by
    refine decide_eq_true (Classical.byContradiction fun q2 => q ⟨i, List.mem_range.1 hi, q2⟩)
  have := h.perm.length_eq
  rw [h1, List.length_range] at this
  omega
theorem OrdS.step (hk : Kn nx n kn found) {gone pre : List Nat} {fuel i : Nat} (h : OrdS nx n kn sq gone pre fuel) (hl : pre.length < n) (hf : (List.range n).find? (freeP nx n kn gone) = some i) :
    0 < fuel ∧ OrdS nx n kn sq (kn i :: gone) (pre ++ sortS sq (knotL n kn (kn i))) (fuel - 1) := by
  have hi : i < n := List.mem_range.1 (List.mem_of_find?_eq_some hf)
  have hfr := List.find?_some hf
  have hfi := freeP_iff.1 hfr
  have h0 : 0 < fuel := by have := h.sum; have := h.less; omega
  obtain ⟨f, rfl⟩ : ∃ f, fuel = f + 1 := ⟨fuel - 1, by omega⟩
  have hs := sortS_spec (sq := sq) (knotL_inc n kn (kn i))
  have hne : 0 < (knotL n kn (kn i)).length := List.length_pos_of_mem (knotL_mem.2 ⟨hi, rfl⟩)
  refine ⟨h0, ?_, ?_, ?_, ?_, shut_next hk h.shut hfr⟩
  · rw [← h.whole]
    show _ = pre ++ ordP nx n kn sq (f + 1) gone
    rw [ordP, hf, List.append_assoc]
    rfl
  · have := h.sum
    simp only [List.length_cons]
    omega
  · have := h.less
    rw [List.length_append, hs.2.length_eq, List.length_cons]
    omega
  · refine ((h.perm.append hs.2).trans (filter_or (p := fun i => decide (kn i ∈ gone)) (q := fun x => kn x == kn i) (fun x hx => ?_) (List.range n)).symm).trans (.of_eq ?_)
    · have hx : kn x ∈ gone := by simpa using hx
      cases hq : kn x == kn i with
      | false => rfl
      | true => rw [beq_iff_eq.1 hq] at hx; exact absurd hx hfi.1
    · refine List.filter_congr fun x _ => ?_
      rw [Bool.eq_iff_iff]
      simp
theorem knot_len {k : Nat} : (knotL n kn k).length ≤ n := Nat.le_trans (List.length_filter_le _ _) (by simp)
end
/-- who leads to whom -/
noncomputable def tR (nx : Nat → List Nat) (i k : Nat) : Bool := @decide (R nx i k) (Classical.propDecidable _)
theorem tR_iff {nx : Nat → List Nat} {i k : Nat} : tR nx i k = true ↔ R nx i k := by unfold tR; exact @decide_eq_true_iff _ (Classical.propDecidable _)
/-- the order, by who leads to whom -/
noncomputable def ordR (nx : Nat → List Nat) (n : Nat) (sq : Nat → Int) : List Nat := ordD n (tR nx) sq n fun _ => false
theorem ordP_R {nx : Nat → List Nat} {n : Nat} {kn : Nat → Nat} {found : Nat} (hk : Kn nx n kn found) (sq : Nat → Int) : ordP nx n kn sq n [] = ordR nx n sq :=
  ord_same hk (fun i k _ _ => tR_iff) sq n [] _ nofun fun k _ => by simp
/-- any table that says who leads to whom -/
theorem ordD_R {nx : Nat → List Nat} {n : Nat} {t : Nat → Nat → Bool} (hn : ∀ x, x < n → ∀ y ∈ nx x, y < n) (ht : ∀ i k, i < n → k < n → (t i k = true ↔ R nx i k)) (sq : Nat → Int) : ∀ (f : Nat) (come come' : Nat → Bool), (∀ k, k < n → come k = come' k) → ordD n t sq f come = ordD n (tR nx) sq f come'
  | 0, _, _, _ => rfl
  | f + 1, come, come', hc => by
    have htt : ∀ i k, i < n → k < n → t i k = tR nx i k := fun i k hi hk => by rw [Bool.eq_iff_iff, ht i k hi hk, tR_iff]
    have he : (List.range n).find? (freeD n t come) = (List.range n).find? (freeD n (tR nx) come') := find_congr fun x hx => by
      have hx := List.mem_range.1 hx
      rw [Bool.eq_iff_iff, freeD_iff, freeD_iff, hc x hx]
      refine and_congr Iff.rfl (forall_congr' fun k => ?_)
      constructor
      · intro q hk
        have := q hk
        rwa [hc k hk, htt x k hx hk, htt k x hk hx] at this
      · intro q hk
        have := q hk
        rwa [hc k hk, htt x k hx hk, htt k x hk hx]
    unfold ordD
    rw [← he]
    cases hq : (List.range n).find? (freeD n t come) with
    | none => rfl
    | some i =>
      have hi : i < n := List.mem_range.1 (List.mem_of_find?_eq_some hq)
      have e1 : ((List.range n).filter fun k => t i k && t k i) = (List.range n).filter fun k => tR nx i k && tR nx k i := List.filter_congr fun k hk => by
        have hk := List.mem_range.1 hk
        rw [htt i k hi hk, htt k i hk hi]
      simp only [e1]
      rw [ordD_R hn ht sq f _ _ fun k hk => by rw [hc k hk, htt i k hi hk, htt k i hk hi]]
/-- each comes once -/
theorem ordR_perm {nx : Nat → List Nat} {n : Nat} {kn : Nat → Nat} {found : Nat} (hk : Kn nx n kn found) (sq : Nat → Int) : (ordR nx n sq).Perm (List.range n) := by
  rw [← ordP_R hk]
  suffices H : ∀ (fuel : Nat) (gone pre : List Nat), OrdS nx n kn sq gone pre fuel → (ordP nx n kn sq n []).Perm (List.range n) from H n [] [] OrdS.start
  intro fuel
  induction fuel with
  | zero =>
    intro gone pre h
    have h1 : n ≤ pre.length := by have := h.sum; have := h.less; omega
    rw [← h.done h1]
    have h2 := h.perm
    have h3 : ((List.range n).filter fun i => decide (kn i ∈ gone)) = List.range n := by
      refine List.Sublist.eq_of_length List.filter_sublist ?_
      have := h2.length_eq
      have h4 := List.length_filter_le (fun i => decide (kn i ∈ gone)) (List.range n)
      rw [List.length_range] at h4 ⊢
      omega
    rwa [h3] at h2
  | succ f ih =>
    intro gone pre h
    by_cases hl : pre.length < n
    · obtain ⟨k, hkn, hkf⟩ := h.more hk hl
      cases hq : (List.range n).find? (freeP nx n kn gone) with
      | none => exact absurd hkf (List.find?_eq_none.1 hq k (List.mem_range.2 hkn))
      | some i => exact ih _ _ (h.step hk hl hq).2
    · have h1 : n ≤ pre.length := by omega
      rw [← h.done h1]
      have h2 := h.perm
      have h3 : ((List.range n).filter fun i => decide (kn i ∈ gone)) = List.range n := by
        refine List.Sublist.eq_of_length List.filter_sublist ?_
        have := h2.length_eq
        have h4 := List.length_filter_le (fun i => decide (kn i ∈ gone)) (List.range n)
        rw [List.length_range] at h4 ⊢
        omega
      rwa [h3] at h2
/-- the knots are there to be found -/
theorem kn_steps {nx : Nat → List Nat} {n : Nat} (hn : ∀ x, x < n → ∀ y ∈ nx x, y < n) : ∀ (k : Nat) (s : TS), M nx n s ≤ k → Inv nx n s → ∃ s', Inv nx n s' ∧ s'.wk = [] ∧ ∀ x, s.num x ≠ 0 → s'.num x ≠ 0
  | 0, s, hk, hi => by
    by_cases hw : s.wk = []
    · exact ⟨s, hi, hw, fun _ q => q⟩
    · have := (went_step hn hi hw).less
      omega
  | k + 1, s, hk, hi => by
    by_cases hw : s.wk = []
    · exact ⟨s, hi, hw, fun _ q => q⟩
    · have h := went_step hn hi hw
      obtain ⟨s', h1, h2, h3⟩ := kn_steps hn k (step nx s) (by have := h.less; omega) h.inv
      exact ⟨s', h1, h2, fun x q => h3 x (h.seen x q)⟩
theorem kn_upto {nx : Nat → List Nat} {n : Nat} (hn : ∀ x, x < n → ∀ y ∈ nx x, y < n) : ∀ i, i ≤ n → ∃ s, Inv nx n s ∧ s.wk = [] ∧ ∀ x, x < i → s.num x ≠ 0
  | 0, _ => ⟨TS.start, inv_start nx n, rfl, nofun⟩
  | i + 1, hi => by
    obtain ⟨s, h1, h2, h3⟩ := kn_upto hn i (by omega)
    by_cases hz : s.num i = 0
    · obtain ⟨s', g1, g2, g3⟩ := kn_steps hn _ (enter s i) (Nat.le_refl _) (inv_enter h1 (by omega) hz (fun u b w' e => by rw [h2] at e; cases e))
      refine ⟨s', g1, g2, fun x hx => g3 x ?_⟩
      show up s.num i (s.count + 1) x ≠ 0
      by_cases e : x = i
      · subst e; rw [up_same]; omega
      · rw [up_other _ _ e]; exact h3 x (by omega)
    · exact ⟨s, h1, h2, fun x hx => if e : x = i then by rw [e]; exact hz else h3 x (by omega)⟩
theorem kn_exists {nx : Nat → List Nat} {n : Nat} (hn : ∀ x, x < n → ∀ y ∈ nx x, y < n) : ∃ kn found, Kn nx n kn found := by
  obtain ⟨s, h1, h2, h3⟩ := kn_upto hn n (Nat.le_refl _)
  exact ⟨_, _, kn_final hn h1 h2 h3⟩
end Go.Proofs.Ytgicohkmfbbbdaa.Tar
end

section
namespace Go.Proofs.Ytgicohkmfbbbdaa.Gr
open _root_.Go.Proofs.Ytgicohkmfbbbdaa.Mark (ltID sortID)
open Go.RowKit
open Attr (A8)
open Tar (TS ordR OrdS knotL sortS)
set_option linter.unusedSimpArgs false
set_option linter.unusedVariables false

/-- those that the graph has, by names -/
def lstG (es : List (I2 × A8)) (l : List I2) : List I2 := dd (sortID (keepF (lackF es) l))
theorem lstG_sorted (es : List (I2 × A8)) (l : List I2) : (lstG es l).Pairwise ltID := dd_strict (sort_pair _)
theorem lstG_mem {es : List (I2 × A8)} {l : List I2} {x : I2} : x ∈ lstG es l ↔ x ∈ l ∧ (getA es x).isSome = true := by
  unfold lstG
  rw [dd_mem, sort_mem]
  unfold keepF lackF
  rw [List.mem_filter]
  simp
theorem lstG_len (es : List (I2 × A8)) (l : List I2) : (lstG es l).length ≤ l.length := by
  unfold lstG
  have h1 := dd_len (sortID (keepF (lackF es) l))
  have h2 : (sortID (keepF (lackF es) l)).length = (keepF (lackF es) l).length := Mark.sort_len _
  have h3 : (keepF (lackF es) l).length ≤ l.length := List.length_filter_le _ _
  omega
def nxL (es : List (I2 × A8)) (f : F7) (Lk : List I2) (i : Nat) : List Nat := match Lk[i]? with
  | some x => nextP Lk (leadsG es f x)
  | none => []
def enL (es : List (I2 × A8)) (Lk : List I2) (i : Nat) : I2 × A8 := match Lk[i]? with
  | some x => (x, (getA es x).getD A8.zero)
  | none => ((0, 0), A8.zero)
theorem enL_id {es : List (I2 × A8)} {Lk : List I2} {i : Nat} {x : I2} (h : Lk[i]? = some x) : (enL es Lk i).1 = x := by unfold enL; rw [h]
noncomputable def ordN (es : List (I2 × A8)) (f : F7) (Lk : List I2) : List Nat := ordR (nxL es f Lk) Lk.length (sqE (enL es Lk))
noncomputable def ordG (es : List (I2 × A8)) (f : F7) (Lk : List I2) : List I2 := (ordN es f Lk).map (idK (enL es Lk))
/-- the nodes are those of the names -/
structure NdIn (es : List (I2 × A8)) (f : F7) (Lk : List I2) (N : List Nd) : Prop where
  len : N.length = Lk.length
  at_ : ∀ (j : Nat) x, Lk[j]? = some x → ∃ d, N[j]? = some d ∧ DoneN es f Lk x d
theorem nextP_lt {Lk ls : List I2} {y : Nat} (h : y ∈ nextP Lk ls) : y < Lk.length := by
  unfold nextP at h
  obtain ⟨z, _, hz⟩ := List.mem_filterMap.1 h
  split at hz
  · rename_i q
    cases hz
    exact List.idxOf_lt_length_of_mem q
  · cases hz
theorem NdIn.nx {es : List (I2 × A8)} {f : F7} {Lk : List I2} {N : List Nd} (h : NdIn es f Lk N) : nxF N = nxL es f Lk := by
  funext i
  unfold nxL
  cases hx : Lk[i]? with
  | none =>
    unfold nxF
    rw [List.getElem?_eq_none (by rw [h.len]; exact List.getElem?_eq_none_iff.1 hx)]
  | some x =>
    obtain ⟨d, hd, hdn⟩ := h.at_ i x hx
    rw [nxF_get hd, hdn.2.1]
theorem nxL_lt {es : List (I2 × A8)} {f : F7} {Lk : List I2} {x y : Nat} (h : y ∈ nxL es f Lk x) : y < Lk.length := by
  unfold nxL at h
  split at h
  · exact nextP_lt h
  · cases h
theorem nxL_len (es : List (I2 × A8)) (f : F7) (Lk : List I2) (i : Nat) : (nxL es f Lk i).length ≤ 7 := by
  unfold nxL
  split
  · exact Nat.le_trans (nextP_len _ _) (leadsG_len _ _ _)
  · simp
theorem NdIn.back {es : List (I2 × A8)} {f : F7} {Lk : List I2} {N : List Nd} (h : NdIn es f Lk N) {i : Nat} {d : Nd} (hd : N[i]? = some d) : ∃ x, Lk[i]? = some x ∧ DoneN es f Lk x d := by
  have hi := (List.getElem?_eq_some_iff.1 hd).1
  obtain ⟨x, hx⟩ : ∃ x, Lk[i]? = some x := ⟨_, List.getElem?_eq_getElem (by rw [← h.len]; exact hi)⟩
  obtain ⟨d', hd', hdn⟩ := h.at_ i x hx
  rw [hd] at hd'
  cases hd'
  exact ⟨x, hx, hdn⟩
theorem NdIn.zero {es : List (I2 × A8)} {f : F7} {Lk : List I2} {N : List Nd} (h : NdIn es f Lk N) : ∀ d ∈ N, d.low = 0 ∧ d.num = 0 ∧ d.on = false ∧ d.knot = 0 := by
  intro d hd
  obtain ⟨i, hi⟩ := List.mem_iff_getElem?.1 hd
  obtain ⟨x, _, hdn⟩ := h.back hi
  exact hdn.2.2
theorem NdIn.seven {es : List (I2 × A8)} {f : F7} {Lk : List I2} {N : List Nd} (h : NdIn es f Lk N) (i : Nat) (d : Nd) (hd : N[i]? = some d) : d.nx.length ≤ 7 := by
  have := nxL_len es f Lk i
  rw [← h.nx, nxF_get hd] at this
  exact this
theorem NdIn.lt {es : List (I2 × A8)} {f : F7} {Lk : List I2} {N : List Nd} (h : NdIn es f Lk N) : ∀ x, x < N.length → ∀ y ∈ nxF N x, y < N.length := by
  intro x _ y hy
  rw [h.nx] at hy
  rw [h.len]
  exact nxL_lt hy
theorem ndL_back {N : List Nd} {s : TS} {i : Nat} {e : Nd} (h : (ndL N s)[i]? = some e) : ∃ d, N[i]? = some d ∧ e = ⟨d.id, d.na, d.nc, d.nx, s.low i, s.num i, s.on i, s.knot i⟩ := by
  have hi := (List.getElem?_eq_some_iff.1 h).1
  rw [ndL_len] at hi
  obtain ⟨d, hd⟩ : ∃ d, N[i]? = some d := ⟨_, List.getElem?_eq_getElem hi⟩
  refine ⟨d, hd, ?_⟩
  rw [ndL_get hd] at h
  cases h
  rfl
theorem ndL_nx (N : List Nd) (s : TS) : nxF (ndL N s) = nxF N := by
  funext i
  unfold nxF
  cases hd : N[i]? with
  | none => rw [List.getElem?_eq_none (by rw [ndL_len]; exact List.getElem?_eq_none_iff.1 hd)]
  | some d => rw [ndL_get hd]
theorem ndL_kn (N : List Nd) (s : TS) {i : Nat} (hi : i < N.length) : knF (ndL N s) i = s.knot i := by
  obtain ⟨d, hd⟩ : ∃ d, N[i]? = some d := ⟨_, List.getElem?_eq_getElem hi⟩
  exact knF_at (ndL_get hd s)
/-- the nodes' knots -/
theorem kn_nd {N : List Nd} {s : TS} {n : Nat} (h : Tar.Kn (nxF N) N.length s.knot n) : Tar.Kn (nxF (ndL N s)) (ndL N s).length (knF (ndL N s)) n := by
  rw [ndL_nx, ndL_len]
  refine ⟨h.hn, fun x hx => by rw [ndL_kn N s hx]; exact h.pos x hx, fun x => ?_, fun x hx y hy => by rw [ndL_kn N s hx, ndL_kn N s (h.hn x hx y hy)]; exact h.edge x hx y hy, fun x y hx e => ?_⟩
  · by_cases hx : x < N.length
    · rw [ndL_kn N s hx]; exact h.le x
    · unfold knF
      rw [List.getElem?_eq_none (by rw [ndL_len]; omega)]
      exact Nat.zero_le _
  · by_cases hy : y < N.length
    · rw [ndL_kn N s hx, ndL_kn N s hy] at e
      exact h.same x y hx e
    · rw [ndL_kn N s hx] at e
      have : knF (ndL N s) y = 0 := by
        unfold knF
        rw [List.getElem?_eq_none (by rw [ndL_len]; omega)]
      rw [this] at e
      exact absurd e (h.pos x hx)
/-- a knot's places in the graph -/
theorem NdIn.kt {es : List (I2 × A8)} {f : F7} {Lk : List I2} {N : List Nd} (h : NdIn es f Lk N) (hs : Lk.Pairwise ltID) (hg : ∀ x ∈ Lk, (getA es x).isSome = true) (s : TS) {ks : List Nat} (hk : ks.Pairwise (· < ·)) (hl : ∀ i ∈ ks, i < N.length) :
    KtIn es (ndL N s) ks (enL es Lk) := by
  have ha : ∀ i ∈ ks, ∃ x, Lk[i]? = some x := fun i hi => ⟨_, List.getElem?_eq_getElem (by rw [← h.len]; exact hl i hi)⟩
  refine ⟨fun i hi => ?_, fun i hi => ?_, hk, fun i hi j hj hij => ?_⟩
  · obtain ⟨x, hx⟩ := ha i hi
    obtain ⟨d, hd, hdn⟩ := h.at_ i x hx
    exact ⟨_, ndL_get hd s, by rw [enL_id hx]; exact hdn.1⟩
  · obtain ⟨x, hx⟩ := ha i hi
    have h1 := hg x (List.mem_of_getElem? hx)
    unfold enL
    rw [hx]
    cases hq : getA es x with
    | none => rw [hq] at h1; cases h1
    | some a => simpa [hq] using getA_mem hq
  · obtain ⟨x, hx⟩ := ha i hi
    obtain ⟨y, hy⟩ := ha j hj
    rw [enL_id hx, enL_id hy]
    obtain ⟨hi', rfl⟩ := List.getElem?_eq_some_iff.1 hx
    obtain ⟨hj', rfl⟩ := List.getElem?_eq_some_iff.1 hy
    exact List.pairwise_iff_getElem.1 hs i j hi' hj' hij
/-- the nodes, their knots found -/
structure LIn (es : List (I2 × A8)) (f : F7) (Lk : List I2) (L : List Nd) (n : Nat) : Prop where
  len : L.length = Lk.length
  kn : Tar.Kn (nxF L) L.length (knF L) n
  nx : nxF L = nxL es f Lk
  kt : ∀ ks : List Nat, ks.Pairwise (· < ·) → (∀ i ∈ ks, i < L.length) → KtIn es L ks (enL es Lk)
  seven : ∀ (i : Nat) (d : Nd), L[i]? = some d → d.nx.length ≤ 7
  kle : ∀ (i : Nat) (d : Nd), L[i]? = some d → d.knot ≤ n
theorem NdIn.after {es : List (I2 × A8)} {f : F7} {Lk : List I2} {N : List Nd} (h : NdIn es f Lk N) (hs : Lk.Pairwise ltID) (hg : ∀ x ∈ Lk, (getA es x).isSome = true) {s : TS} (hk : Tar.Kn (nxF N) N.length s.knot s.found) : LIn es f Lk (ndL N s) s.found := by
  refine ⟨by rw [ndL_len, h.len], kn_nd hk, by rw [ndL_nx, h.nx], fun ks h1 h2 => h.kt hs hg s h1 fun i hi => by have := h2 i hi; rwa [ndL_len] at this, fun i d hd => ?_, fun i d hd => ?_⟩
  · obtain ⟨d', hd', rfl⟩ := ndL_back hd
    exact h.seven i d' hd'
  · obtain ⟨d', hd', rfl⟩ := ndL_back hd
    exact hk.le i
theorem LIn.order {es : List (I2 × A8)} {f : F7} {Lk : List I2} {L : List Nd} {n : Nat} (h : LIn es f Lk L n) : Tar.ordP (nxF L) L.length (knF L) (sqE (enL es Lk)) L.length [] = ordN es f Lk := by
  rw [Tar.ordP_R h.kn]
  unfold ordN
  rw [h.nx, h.len]
end Go.Proofs.Ytgicohkmfbbbdaa.Gr
end

section
namespace Go.Proofs.Ytgicohkmfbbbdaa.Gr
open _root_.Go.Proofs.Ytgicohkmfbbbdaa.Mark (ltID sortID)
open Go.RowKit
open Attr (A8 rightI thro)
set_option linter.unusedSimpArgs false
set_option linter.unusedVariables false
attribute [-go_sem] run_eql_struct run_neq_struct run_eqGuard_agg

theorem index7F (d : Nat → Int) (q : Nat) (hq : q < 7) (w : World) : (Instr.index 24 (.agg #[.int .i64 (d 0), .int .i64 (d 1), .int .i64 (d 2), .int .i64 (d 3), .int .i64 (d 4), .int .i64 (d 5), .int .i64 (d 6)]) (.int .i64 q)).run Try.prog w = .ok (.int .i64 (d q)) w := by
  rcases (show q = 0 ∨ q = 1 ∨ q = 2 ∨ q = 3 ∨ q = 4 ∨ q = 5 ∨ q = 6 by omega) with rfl | rfl | rfl | rfl | rfl | rfl | rfl <;> kernel_rfl
/-- the name of a replica's next slot -/
def nextAt (f : F7) (q : Nat) : I2 := ((q : Int), f.at q)
/-- the first that is ready, and what it needs -/
def FirstIs (es : List (I2 × A8)) (f : F7) : Option (List I2) → Prop
  | some l => ∃ q, q < 7 ∧ (∀ k, k < q → NeedsIs es f (nextAt f k) none) ∧ NeedsIs es f (nextAt f q) (some l)
  | none => ∀ k, k < 7 → NeedsIs es f (nextAt f k) none
def ReadyPost (p m : Nat) (es : List (I2 × A8)) (f : F7) (w : World) (e : Ending) (w' : World) : Prop :=
  (∃ l v, e = .returned (.tuple #[v, .bool true]) ∧ FirstIs es f (some l) ∧ At [GrP p m es] w [rowI2 v l, GrP p m es] w') ∨
  (e = .returned (.tuple #[.slice none 0 0, .bool false]) ∧ FirstIs es f none ∧ At [GrP p m es] w [GrP p m es] w')
def RyRel (w : World) (p m bF : Nat) (es : List (I2 × A8)) (f : F7) (k : Nat) (u : Value) (wr : World) : Prop :=
  ∃ q : Nat, u = .int .i64 q ∧ q + k = 7 ∧ (∀ j, j < q → NeedsIs es f (nextAt f j) none) ∧ At [GrP p m es] w [Part.cells bF [.int .i64 f.f0, .int .i64 f.f1, .int .i64 f.f2, .int .i64 f.f3, .int .i64 f.f4, .int .i64 f.f5, .int .i64 f.f6] 24, GrP p m es] wr
set_option maxRecDepth 100000 in
set_option maxHeartbeats 4000000 in
theorem ready_any {w : World} {p m : Nat} {es : List (I2 × A8)} (h : Sep [GrP p m es] w) (f : F7) (hf : ∀ q, q < 7 → okI (f.at q)) (hd : Deps es) (hn : es.length ≤ 1000) :
    Calls Try.prog 40 #[.pointer (some ⟨p, 0, none⟩), f.val] w (ReadyPost p m es f w) := by
  have hA := At.start h
  have hd0 := Lib.hid hd
  have hf0 := Lib.hid hf
  clear h hd hf
  simp only [F7.val] at *
  (try simp only [uA] at hA); have hF := hA.facts; (try simp only [fZ] at hF)
  go_enter Try.func40, Try.ntmps40
  go_wp2_with (first | ((with_reducible refine gbx ?_); refine wX 24 (.agg #[.int .i64 f.f0, .int .i64 f.f1, .int .i64 f.f2, .int .i64 f.f3, .int .i64 f.f4, .int .i64 f.f5, .int .i64 f.f6]) [.int .i64 f.f0, .int .i64 f.f1, .int .i64 f.f2, .int .i64 f.f3, .int .i64 f.f4, .int .i64 f.f5, .int .i64 f.f6] hA ?_; clear hF hA; intro bF w1 hA hbF; (try simp only [uA] at hA); have hF := hA.facts; (try simp only [fZ] at hF)) | ((with_reducible refine gst ?_); refine wS hA ?_; clear hF hA; intro w1 hA; (try simp only [uA] at hA); have hF := hA.facts; (try simp only [fZ] at hF)) | ((with_reducible refine gbx ?_); refine wB hA ?_; clear hF hA; intro b1 w1 hA hb1; (try simp only [uA] at hA); have hF := hA.facts; (try simp only [fZ] at hF)))
  try go_frame
  go_loopg [11] 7 (RyRel w p m bF es f)
  case atStart => exact ⟨0, rfl, rfl, nofun, hA.pick (by repeat (first | exact Picks.nil | refine Picks.cons (by repeat (first | exact Sel.here | apply Sel.there)) ?_))⟩
  case round =>
    obtain ⟨q, rfl, hqk, hno, hB⟩ := hrel
    have hno' := Lib.hid hno
    clear hF hA hno; have hA := hB; clear hB
    by_cases hq7 : q < 7
    · have hix : ∀ w, (Instr.index 24 (.agg #[.int .i64 f.f0, .int .i64 f.f1, .int .i64 f.f2, .int .i64 f.f3, .int .i64 f.f4, .int .i64 f.f5, .int .i64 f.f6]) (.int .i64 q)).run Try.prog w = .ok (.int .i64 (f.at q)) w := fun w => index7F (fun q => f.at q) q hq7 w
      have hqo : okI (q : Int) := by unfold okI; omega
      have hnd := fun (w1 : World) (h1 : Sep [GrP p m es] w1) => needs_any h1 f ((q : Int), f.at q) ⟨hqo, hf0.out q hq7⟩ hd0.out hn
      simp only [F7.val, idV] at hnd
      have hnx := Lib.hid (show nextAt f q = ((q : Int), f.at q) from rfl)
      generalize f.at q = fq at *
      (try simp only [uA] at hA); have hF := hA.facts; (try simp only [fZ] at hF)
      go_wp2_with (first | ((with_reducible refine gst ?_); refine wS hA ?_; clear hF hA; intro w1 hA; (try simp only [uA] at hA); have hF := hA.facts; (try simp only [fZ] at hF)) | ((with_reducible refine gbx ?_); refine wB hA ?_; clear hF hA; intro b1 w1 hA hb1; (try simp only [uA] at hA); have hF := hA.facts; (try simp only [fZ] at hF)))
      refine (hnd _ (hA.sep1 (A := GrP p m es) (by repeat (first | exact Sel.here | apply Sel.there)))).mono ?_
      rintro e w1 (⟨l, v, rfl, hnl, hT⟩ | ⟨rfl, hnl, hT⟩)
      · have hB := hA.call1 (A := GrP p m es) (by repeat (first | exact Sel.here | apply Sel.there)) hT
        clear hF hA hT; have hA := hB; clear hB
        simp only [List.cons_append, List.nil_append] at hA
        (try simp only [uA] at hA); have hF := hA.facts; (try simp only [fZ] at hF)
        go_wp2_with (first | ((with_reducible refine gst ?_); refine wS hA ?_; clear hF hA; intro w1 hA; (try simp only [uA] at hA); have hF := hA.facts; (try simp only [fZ] at hF)) | ((with_reducible refine gbx ?_); refine wB hA ?_; clear hF hA; intro b1 w1 hA hb1; (try simp only [uA] at hA); have hF := hA.facts; (try simp only [fZ] at hF)))
        refine bodyPost_ret (v := .tuple #[v, .bool true]) (by simp [results, Try.results40, go_sem]) rfl ?_
        exact .inl ⟨l, v, rfl, ⟨q, hq7, hno'.out, by rw [hnx.out]; exact hnl⟩, hA.only2 (by repeat (first | exact Sel.here | apply Sel.there)) (by repeat (first | exact Sel.here | apply Sel.there))⟩
      · have hB := hA.call1 (A := GrP p m es) (by repeat (first | exact Sel.here | apply Sel.there)) hT
        clear hF hA hT; have hA := hB; clear hB
        simp only [List.cons_append, List.nil_append] at hA
        have hnl' := Lib.hid hnl
        clear hnl
        (try simp only [uA] at hA); have hF := hA.facts; (try simp only [fZ] at hF)
        go_wp2_with (first | ((with_reducible refine gst ?_); refine wS hA ?_; clear hF hA; intro w1 hA; (try simp only [uA] at hA); have hF := hA.facts; (try simp only [fZ] at hF)) | ((with_reducible refine gbx ?_); refine wB hA ?_; clear hF hA; intro b1 w1 hA hb1; (try simp only [uA] at hA); have hF := hA.facts; (try simp only [fZ] at hF)))
        go_roundg (gk - 1)
        case measure => omega
        case rel =>
          refine ⟨q + 1, by simp, by omega, fun j hj => ?_, hA.pick (by repeat (first | exact Picks.nil | refine Picks.cons (by repeat (first | exact Sel.here | apply Sel.there)) ?_))⟩
          rcases Nat.lt_succ_iff_lt_or_eq.1 hj with hj | rfl
          · exact hno'.out j hj
          · rw [hnx.out]; exact hnl'.out
    · have hq : q = 7 := by omega
      subst hq
      (try simp only [uA] at hA); have hF := hA.facts; (try simp only [fZ] at hF)
      go_wp2_with (first | ((with_reducible refine gst ?_); refine wS hA ?_; clear hF hA; intro w1 hA; (try simp only [uA] at hA); have hF := hA.facts; (try simp only [fZ] at hF)) | ((with_reducible refine gbx ?_); refine wB hA ?_; clear hF hA; intro b1 w1 hA hb1; (try simp only [uA] at hA); have hF := hA.facts; (try simp only [fZ] at hF)))
      refine bodyPost_ret (v := .tuple #[.slice none 0 0, .bool false]) (by simp [results, Try.results40, go_sem]) rfl ?_
      exact .inr ⟨rfl, hno'.out, hA.only1 (by repeat (first | exact Sel.here | apply Sel.there))⟩
end Go.Proofs.Ytgicohkmfbbbdaa.Gr
end

section
namespace Go.Proofs.Ytgicohkmfbbbdaa.Gr
open _root_.Go.Proofs.Ytgicohkmfbbbdaa.Mark (ltID sortID)
open Go.RowKit
open Attr (A8 rightI)
set_option linter.unusedSimpArgs false
set_option linter.unusedVariables false

/-- a name that may be -/
def RtI (x : I2) : Prop := 0 ≤ x.1 ∧ x.1 < 7 ∧ 0 ≤ x.2 ∧ x.2 < 1024
/-- a graph's entries -/
structure Own (es : List (I2 × A8)) : Prop where
  uq : Uq es
  deps : Deps es
  right : ∀ e ∈ es, RtI e.1
theorem RtI.ok {x : I2} (h : RtI x) : okD x := by obtain ⟨h1, h2, h3, h4⟩ := h; unfold okD okI; omega
theorem Own.ok {es : List (I2 × A8)} (h : Own es) : ∀ e ∈ es, okD e.1 := fun e he => (h.right e he).ok
theorem Own.of_get {es : List (I2 × A8)} (h : Own es) {x : I2} (hx : (getA es x).isSome = true) : RtI x := by
  cases hq : getA es x with
  | none => rw [hq] at hx; cases hx
  | some a => exact h.right _ (getA_mem hq)
/-- a front that may be -/
def FOk (f : F7) : Prop := ∀ q, q < 7 → 0 ≤ f.at q ∧ f.at q ≤ 1024
theorem F7.at_set (f : F7) {q k : Nat} (hq : q < 7) (hk : k < 7) (v : Int) : (f.set q v).at k = if k = q then v else f.at k := by
  rcases (show q = 0 ∨ q = 1 ∨ q = 2 ∨ q = 3 ∨ q = 4 ∨ q = 5 ∨ q = 6 by omega) with rfl | rfl | rfl | rfl | rfl | rfl | rfl <;>
  rcases (show k = 0 ∨ k = 1 ∨ k = 2 ∨ k = 3 ∨ k = 4 ∨ k = 5 ∨ k = 6 by omega) with rfl | rfl | rfl | rfl | rfl | rfl | rfl <;> rfl
def upF1 (f : F7) (x : I2) : F7 := f.set x.1.toNat (max (f.at x.1.toNat) (x.2 + 1))
def upF (f : F7) (l : List I2) : F7 := l.foldl upF1 f
def mF (f : F7) : Nat := (1024 - f.f0).toNat + (1024 - f.f1).toNat + (1024 - f.f2).toNat + (1024 - f.f3).toNat + (1024 - f.f4).toNat + (1024 - f.f5).toNat + (1024 - f.f6).toNat
theorem tn_le {a b : Int} (h : a ≤ b) : (1024 - b).toNat ≤ (1024 - a).toNat := by omega
theorem tn_lt {a b : Int} (h : a < b) (hb : b ≤ 1024) : (1024 - b).toNat < (1024 - a).toNat := by omega
theorem tn_max {a : Int} (h : 0 ≤ a) : (1024 - a).toNat ≤ 1024 := by omega
theorem mF_le {f g : F7} (h : ∀ q, q < 7 → f.at q ≤ g.at q) : mF g ≤ mF f := by
  have h0 := tn_le (show f.f0 ≤ g.f0 from h 0 (by decide))
  have h1 := tn_le (show f.f1 ≤ g.f1 from h 1 (by decide))
  have h2 := tn_le (show f.f2 ≤ g.f2 from h 2 (by decide))
  have h3 := tn_le (show f.f3 ≤ g.f3 from h 3 (by decide))
  have h4 := tn_le (show f.f4 ≤ g.f4 from h 4 (by decide))
  have h5 := tn_le (show f.f5 ≤ g.f5 from h 5 (by decide))
  have h6 := tn_le (show f.f6 ≤ g.f6 from h 6 (by decide))
  unfold mF
  omega
theorem mF_lt {f g : F7} (h : ∀ q, q < 7 → f.at q ≤ g.at q) (hg : FOk g) {q : Nat} (hq : q < 7) (hlt : f.at q < g.at q) : mF g < mF f := by
  have h0 := tn_le (show f.f0 ≤ g.f0 from h 0 (by decide))
  have h1 := tn_le (show f.f1 ≤ g.f1 from h 1 (by decide))
  have h2 := tn_le (show f.f2 ≤ g.f2 from h 2 (by decide))
  have h3 := tn_le (show f.f3 ≤ g.f3 from h 3 (by decide))
  have h4 := tn_le (show f.f4 ≤ g.f4 from h 4 (by decide))
  have h5 := tn_le (show f.f5 ≤ g.f5 from h 5 (by decide))
  have h6 := tn_le (show f.f6 ≤ g.f6 from h 6 (by decide))
  have hb := (hg q hq).2
  clear h hg
  rcases (show q = 0 ∨ q = 1 ∨ q = 2 ∨ q = 3 ∨ q = 4 ∨ q = 5 ∨ q = 6 by omega) with rfl | rfl | rfl | rfl | rfl | rfl | rfl
  · have h9 := tn_lt (show f.f0 < g.f0 from hlt) (show g.f0 ≤ 1024 from hb)
    unfold mF
    omega
  · have h9 := tn_lt (show f.f1 < g.f1 from hlt) (show g.f1 ≤ 1024 from hb)
    unfold mF
    omega
  · have h9 := tn_lt (show f.f2 < g.f2 from hlt) (show g.f2 ≤ 1024 from hb)
    unfold mF
    omega
  · have h9 := tn_lt (show f.f3 < g.f3 from hlt) (show g.f3 ≤ 1024 from hb)
    unfold mF
    omega
  · have h9 := tn_lt (show f.f4 < g.f4 from hlt) (show g.f4 ≤ 1024 from hb)
    unfold mF
    omega
  · have h9 := tn_lt (show f.f5 < g.f5 from hlt) (show g.f5 ≤ 1024 from hb)
    unfold mF
    omega
  · have h9 := tn_lt (show f.f6 < g.f6 from hlt) (show g.f6 ≤ 1024 from hb)
    unfold mF
    omega
theorem mF_max {f : F7} (h : FOk f) : mF f ≤ 7168 := by
  have h0 := tn_max (show 0 ≤ f.f0 from (h 0 (by decide)).1)
  have h1 := tn_max (show 0 ≤ f.f1 from (h 1 (by decide)).1)
  have h2 := tn_max (show 0 ≤ f.f2 from (h 2 (by decide)).1)
  have h3 := tn_max (show 0 ≤ f.f3 from (h 3 (by decide)).1)
  have h4 := tn_max (show 0 ≤ f.f4 from (h 4 (by decide)).1)
  have h5 := tn_max (show 0 ≤ f.f5 from (h 5 (by decide)).1)
  have h6 := tn_max (show 0 ≤ f.f6 from (h 6 (by decide)).1)
  unfold mF
  omega
theorem upF1_at {f : F7} {x : I2} (hx : RtI x) {k : Nat} (hk : k < 7) : (upF1 f x).at k = if k = x.1.toNat then max (f.at k) (x.2 + 1) else f.at k := by
  obtain ⟨h1, h2, h3, h4⟩ := hx
  unfold upF1
  rw [F7.at_set f (by omega) hk]
  split
  · rename_i e; rw [e]
  · rfl
theorem upF1_ge {f : F7} {x : I2} (hx : RtI x) {k : Nat} (hk : k < 7) : f.at k ≤ (upF1 f x).at k := by
  rw [upF1_at hx hk]
  split <;> omega
theorem upF1_ok {f : F7} (hf : FOk f) {x : I2} (hx : RtI x) : FOk (upF1 f x) := by
  intro k hk
  rw [upF1_at hx hk]
  have := hf k hk
  obtain ⟨h1, h2, h3, h4⟩ := hx
  split <;> omega
theorem upF_ok : ∀ {l : List I2} {f : F7}, FOk f → (∀ x ∈ l, RtI x) → FOk (upF f l)
  | [], _, hf, _ => hf
  | x :: l, f, hf, hl => upF_ok (l := l) (f := upF1 f x) (upF1_ok hf (hl x (by simp))) fun y hy => hl y (by simp [hy])
theorem upF_ge : ∀ {l : List I2} {f : F7}, (∀ x ∈ l, RtI x) → ∀ {k : Nat}, k < 7 → f.at k ≤ (upF f l).at k
  | [], _, _, _, _ => Int.le_refl _
  | x :: l, f, hl, k, hk => Int.le_trans (upF1_ge (hl x (by simp)) hk) (upF_ge (l := l) (f := upF1 f x) (fun y hy => hl y (by simp [hy])) hk)
theorem upF_mem : ∀ {l : List I2} {f : F7}, (∀ x ∈ l, RtI x) → ∀ {x : I2}, x ∈ l → x.2 < (upF f l).at x.1.toNat
  | y :: l, f, hl, x, hx => by
    rcases List.mem_cons.1 hx with rfl | hx
    · have h := hl x (by simp)
      have h7 : x.1.toNat < 7 := by obtain ⟨h1, h2, _⟩ := h; omega
      have h1 := upF_ge (l := l) (f := upF1 f x) (fun y hy => hl y (by simp [hy])) h7
      have h2 := upF1_at (f := f) h h7
      rw [if_pos rfl] at h2
      show x.2 < (upF (upF1 f x) l).at _
      omega
    · exact upF_mem (l := l) (f := upF1 f y) (fun z hz => hl z (by simp [hz])) hx
/-- what is ready is all there -/
theorem first_in {es : List (I2 × A8)} {f : F7} {l : List I2} (h : FirstIs es f (some l)) : l.Pairwise ltID ∧ (∀ x ∈ l, (getA es x).isSome = true) ∧ ∃ q, q < 7 ∧ nextAt f q ∈ l := by
  obtain ⟨q, hq, _, h1, h2, h3, h4⟩ := h
  exact ⟨h2, h4, q, hq, (h3 _).2 .refl⟩
theorem first_one {es : List (I2 × A8)} {f : F7} {r s : Option (List I2)} (h : FirstIs es f r) (k : FirstIs es f s) : r = s := by
  cases r with
  | none =>
    cases s with
    | none => rfl
    | some m =>
      obtain ⟨q, hq, _, hm⟩ := k
      cases needs_one (h q hq) hm
  | some l =>
    cases s with
    | none =>
      obtain ⟨q, hq, _, hm⟩ := h
      cases needs_one (k q hq) hm
    | some m =>
      obtain ⟨q, hq, hno, hm⟩ := h
      obtain ⟨r, hr, kno, km⟩ := k
      rcases Nat.lt_trichotomy q r with hlt | rfl | hlt
      · cases needs_one (kno q hlt) hm
      · exact needs_one hm km
      · cases needs_one (hno r hlt) km
theorem lstG_of {es : List (I2 × A8)} {l : List I2} (h : l.Pairwise ltID) (hg : ∀ x ∈ l, (getA es x).isSome = true) : lstG es l = l :=
  strict_eq (lstG_sorted es l) h fun x => by rw [lstG_mem]; exact ⟨fun q => q.1, fun q => ⟨q, hg x q⟩⟩
theorem in_len {es : List (I2 × A8)} {l : List I2} (h : l.Pairwise ltID) (hg : ∀ x ∈ l, (getA es x).isSome = true) : l.length ≤ es.length := by
  have h1 : l.length ≤ (es.map (·.1)).length := nodup_le (h.imp fun q e => by rw [e] at q; exact lt_irr q) fun x hx => by
    have := hg x hx
    cases hq : getA es x with
    | none => rw [hq] at this; cases this
    | some a => exact List.mem_map.2 ⟨_, getA_mem hq, rfl⟩
  rwa [List.length_map] at h1
theorem up_less {es : List (I2 × A8)} (ho : Own es) {f : F7} (hf : FOk f) {l : List I2} (h : FirstIs es f (some l)) : FOk (upF f l) ∧ mF (upF f l) < mF f := by
  obtain ⟨h1, h2, q, hq, hm⟩ := first_in h
  have hr : ∀ x ∈ l, RtI x := fun x hx => ho.of_get (h2 x hx)
  have hk := upF_ok hf hr
  have h3 := upF_mem (f := f) hr hm
  refine ⟨hk, mF_lt (fun k hk => upF_ge hr hk) hk hq ?_⟩
  have e : (nextAt f q).1.toNat = q := by simp [nextAt]
  rw [e] at h3
  exact h3
/-- what Run carries out -/
inductive RunR (es : List (I2 × A8)) : F7 → List I2 → F7 → Prop
  | stop {f : F7} (h : FirstIs es f none) : RunR es f [] f
  | go {f g : F7} {l r : List I2} (h : FirstIs es f (some l)) (t : RunR es (upF f l) r g) : RunR es f (ordG es f l ++ r) g
theorem run_one {es : List (I2 × A8)} {f g g' : F7} {r r' : List I2} (h : RunR es f r g) (k : RunR es f r' g') : r = r' ∧ g = g' := by
  induction h generalizing r' g' with
  | stop h =>
    cases k with
    | stop _ => exact ⟨rfl, rfl⟩
    | go h' _ => cases first_one h h'
  | go h t ih =>
    cases k with
    | stop h' => cases first_one h h'
    | go h' t' =>
      cases first_one h h'
      obtain ⟨rfl, rfl⟩ := ih t'
      exact ⟨rfl, rfl⟩
/-- each comes once -/
theorem ordN_perm (es : List (I2 × A8)) (f : F7) (Lk : List I2) : (ordN es f Lk).Perm (List.range Lk.length) := by
  obtain ⟨kn, n, hk⟩ := Tar.kn_exists (nx := nxL es f Lk) (n := Lk.length) (fun x _ y hy => nxL_lt hy)
  exact Tar.ordR_perm hk _
theorem ordG_perm (es : List (I2 × A8)) (f : F7) (Lk : List I2) : (ordG es f Lk).Perm Lk := by
  have h := (ordN_perm es f Lk).map (idK (enL es Lk))
  refine h.trans (.of_eq ?_)
  apply List.ext_getElem?
  intro i
  by_cases hi : i < Lk.length
  · rw [List.getElem?_map, List.getElem?_range hi]
    obtain ⟨x, hx⟩ : ∃ x, Lk[i]? = some x := ⟨_, List.getElem?_eq_getElem hi⟩
    rw [hx, Option.map_some]
    exact congrArg some (enL_id hx)
  · rw [List.getElem?_eq_none (by simp; omega), List.getElem?_eq_none (by omega)]
end Go.Proofs.Ytgicohkmfbbbdaa.Gr
end
