/- GraL, GrbA, GrbB, MapD, joined. -/
import Derived.Test.YtgicohkmfbbbdaaK17
import Derived.Test.YtgicohkmfbbbdaaK6
import Derived.Test.YtgicohkmfbbbdaaK1
section
namespace Go.Proofs.Ytgicohkmfbbbdaa.Gr
open Go.RowKit
open Tar (freeP freeP_iff knotL)
set_option linter.unusedSimpArgs false
set_option linter.unusedVariables false

structure OrIn (N : List Nd) (n : Nat) (gone : List Nat) (O : List Wt) (H : List Hs) : Prop where
  lo : O.length = n + 1
  lh : H.length = n + 1
  come : ∀ k x, H[k]? = some x → k ∈ gone → x.ha = none
  has : ∀ k x, H[k]? = some x → k ∉ gone → x.hs = knotL N.length (knF N) k ∧ (x.ha = none ↔ x.hs = [])
  open_ : ∀ k o, O[k]? = some o → (∀ z, z ∈ o.ws ↔ WaitOf N N.length k z ∧ z ∉ gone) ∧ (o.mb = none → o.ws = [])
theorem WtIn.start {N : List Nd} {n : Nat} {O : List Wt} {H : List Hs} (h : WtIn N n N.length O H) : OrIn N n [] O H := by
  refine ⟨h.lo, h.lh, nofun, fun k x hx _ => ?_, fun k o ho => ⟨fun z => by rw [(h.open_ k o ho).1 z]; simp, (h.open_ k o ho).2⟩⟩
  exact h.has k x hx
theorem knF_at {N : List Nd} {i : Nat} {d : Nd} (h : N[i]? = some d) : knF N i = d.knot := by unfold knF; rw [h]
theorem OrIn.free {N : List Nd} {n : Nat} {gone : List Nat} {O : List Wt} {H : List Hs} (h : OrIn N n gone O H) {i : Nat} {d : Nd} (hd : N[i]? = some d) (hk : d.knot ≤ n) :
    freeN O H d = freeP (nxF N) N.length (knF N) gone i := by
  obtain ⟨x, hx⟩ : ∃ x, H[d.knot]? = some x := ⟨_, List.getElem?_eq_getElem (by rw [h.lh]; omega)⟩
  obtain ⟨o, ho⟩ : ∃ o, O[d.knot]? = some o := ⟨_, List.getElem?_eq_getElem (by rw [h.lo]; omega)⟩
  have hkn := knF_at hd
  have hi := (List.getElem?_eq_some_iff.1 hd).1
  rw [Bool.eq_iff_iff, freeP_iff, hkn]
  unfold freeN
  rw [hx, ho]
  simp only [freeV, Bool.and_eq_true, Bool.or_eq_true, decide_eq_true_eq]
  have hws : (o.mb.isNone = true ∨ (o.ws.length : Int) = 0) ↔ o.ws = [] := by
    constructor
    · rintro (q | q)
      · exact (h.open_ _ _ ho).2 (by simpa using q)
      · exact List.eq_nil_of_length_eq_zero (by omega)
    · intro q
      right
      rw [q]
      rfl
  have hnil : o.ws = [] ↔ ∀ j, j < N.length → knF N j = d.knot → ∀ y ∈ nxF N j, knF N y = d.knot ∨ knF N y ∈ gone := by
    constructor
    · intro q j hj e y hy
      by_cases hg : knF N y ∈ gone
      · exact .inr hg
      · by_cases hz : knF N y = d.knot
        · exact .inl hz
        · have := ((h.open_ _ _ ho).1 (knF N y)).2 ⟨⟨j, hj, e, y, hy, rfl, hz⟩, hg⟩
          rw [q] at this
          cases this
    · intro q
      refine List.eq_nil_iff_forall_not_mem.2 fun z hz => ?_
      obtain ⟨⟨j, hj, e, y, hy, h1, h2⟩, hg⟩ := ((h.open_ _ _ ho).1 z).1 hz
      rcases q j hj e y hy with r | r
      · exact h2 (by rw [← h1, r])
      · exact hg (by rw [← h1]; exact r)
  rw [hws, hnil]
  refine and_congr ?_ Iff.rfl
  constructor
  · intro q hg
    rw [h.come _ _ hx hg] at q
    cases q
  · intro hg
    have h2 := h.has _ _ hx hg
    have hne : x.hs ≠ [] := by
      rw [h2.1]
      intro e
      have : i ∈ knotL N.length (knF N) d.knot := by unfold knotL; simp [hi, hkn]
      rw [e] at this
      cases this
    cases hh : x.ha with
    | none => exact absurd (h2.2.1 hh) hne
    | some _ => rfl
/-- the first -/
theorem find_first {p : Nat → Bool} {n i : Nat} (hi : i < n) (h : p i = true) (hno : ∀ j, j < i → p j = false) : (List.range n).find? p = some i := by
  rw [List.find?_range_eq_some]
  exact ⟨h, List.mem_range.2 hi, fun j hj => by rw [hno j hj]; rfl⟩
/-- what IndexFunc finds is what the order takes next -/
theorem OrIn.next {N : List Nd} {n : Nat} {gone : List Nat} {O : List Wt} {H : List Hs} (h : OrIn N n gone O H) (hk : ∀ (i : Nat) (d : Nd), N[i]? = some d → d.knot ≤ n) {i : Nat} {d : Nd} (hd : N[i]? = some d) (hf : freeN O H d = true) (hno : ∀ y ∈ N.take i, freeN O H y = false) :
    (List.range N.length).find? (freeP (nxF N) N.length (knF N) gone) = some i := by
  refine find_first (List.getElem?_eq_some_iff.1 hd).1 (by rw [← h.free hd (hk i d hd)]; exact hf) fun j hj => ?_
  have hjN : j < N.length := by have := (List.getElem?_eq_some_iff.1 hd).1; omega
  have e : N[j]? = some N[j] := List.getElem?_eq_getElem hjN
  rw [← h.free e (hk j _ e)]
  refine hno _ (List.mem_of_getElem? (i := j) ?_)
  rw [List.getElem?_take_of_lt hj, e]
/-- a knot comes -/
theorem OrIn.go {N : List Nd} {n : Nat} {gone : List Nat} {O O2 : List Wt} {H : List Hs} (h : OrIn N n gone O H) {k : Nat} (hO : ∀ (j : Nat) (o : Wt), O2[j]? = some o → ∃ o1 : Wt, O[j]? = some o1 ∧ o.mb = o1.mb ∧ ∀ z, z ∈ o.ws ↔ z ∈ o1.ws ∧ z ≠ k) (hl : O2.length = O.length) (c : Nat) (hs : List Nat) :
    OrIn N n (k :: gone) O2 (H.set k ⟨none, c, hs⟩) := by
  refine ⟨by rw [hl, h.lo], by rw [List.length_set, h.lh], fun j x hx hj => ?_, fun j x hx hj => ?_, fun j o ho => ?_⟩
  · by_cases e : k = j
    · subst e
      rw [List.getElem?_set_self (by have := (List.getElem?_eq_some_iff.1 hx).1; rwa [List.length_set] at this)] at hx
      cases hx
      rfl
    · rw [List.getElem?_set_ne e] at hx
      rcases List.mem_cons.1 hj with q | q
      · exact absurd q.symm e
      · exact h.come j x hx q
  · have e : k ≠ j := fun e => hj (by simp [e])
    rw [List.getElem?_set_ne e] at hx
    exact h.has j x hx fun q => hj (by simp [q])
  · obtain ⟨o1, h1, h2, h3⟩ := hO j o ho
    have h4 := h.open_ j o1 h1
    refine ⟨fun z => ?_, fun q => ?_⟩
    · rw [h3 z, h4.1 z]
      simp only [List.mem_cons, not_or]
      constructor
      · rintro ⟨⟨a, b⟩, c⟩; exact ⟨a, c, b⟩
      · rintro ⟨a, c, b⟩; exact ⟨⟨a, b⟩, c⟩
    · refine List.eq_nil_iff_forall_not_mem.2 fun z hz => ?_
      have := ((h3 z).1 hz).1
      rw [h4.2 (by rw [← h2]; exact q)] at this
      cases this
/-- a knot taken out of whom another one waits for -/
def Wt.less (k : Nat) (o : Wt) : Wt := ⟨o.mb, o.ws.filter fun z => z != k⟩
theorem wsE_del {l : List Nat} {k : Nat} (hk : k ∈ l) (hn : l.Nodup) : ∃ l1 l2, wsE l = wsE l1 ++ (.int .i64 (k : Int), .int .i64 1) :: wsE l2 ∧ wsE (l.filter fun z => z != k) = wsE l1 ++ wsE l2 := by
  obtain ⟨a, b, e⟩ := List.append_of_mem hk
  subst e
  have h1 := List.nodup_append.1 hn
  have ha : k ∉ a := fun q => h1.2.2 k q k (by simp) rfl
  have hb : k ∉ b := (List.nodup_cons.1 h1.2.1).1
  have fa : a.filter (fun z => z != k) = a := List.filter_eq_self.2 fun z hz => by have : z ≠ k := fun e => ha (by rw [← e]; exact hz); simpa using this
  have fb : b.filter (fun z => z != k) = b := List.filter_eq_self.2 fun z hz => by have : z ≠ k := fun e => hb (by rw [← e]; exact hz); simpa using this
  refine ⟨a, b, by simp [wsE], ?_⟩
  rw [List.filter_append, List.filter_cons, fa, fb]
  simp [wsE]
theorem less_no {l : List Nat} {k : Nat} (hk : k ∉ l) : (l.filter fun z => z != k) = l := List.filter_eq_self.2 fun z hz => by have : z ≠ k := fun e => hk (by rw [← e]; exact hz); simpa using this
theorem OrIn.gone {N : List Nd} {n : Nat} {gone : List Nat} {O : List Wt} {H : List Hs} (h : OrIn N n gone O H) (k : Nat) : OrIn N n (k :: gone) (O.map (Wt.less k)) (H.set k ⟨none, 0, []⟩) :=
  h.go (fun j o ho => by
    rw [List.getElem?_map] at ho
    obtain ⟨o1, h1, rfl⟩ := Option.map_eq_some_iff.1 ho
    exact ⟨o1, h1, rfl, fun z => by simp [Wt.less]⟩) (by simp) 0 []
end Go.Proofs.Ytgicohkmfbbbdaa.Gr
end

section
namespace Go.Proofs.Ytgicohkmfbbbdaa.Tar
set_option linter.unusedVariables false
set_option linter.unusedSimpArgs false

theorem filter_or {α : Type} {p q : α → Bool} (h : ∀ x, p x = true → q x = false) : ∀ l : List α, (l.filter fun x => q x || p x).Perm (l.filter p ++ l.filter q)
  | [] => .refl _
  | x :: l => by
    have ih := filter_or h l
    by_cases hp : p x = true
    · have hq := h x hp
      simp only [List.filter_cons, hp, hq, Bool.false_or, if_true, List.cons_append]
      exact ih.cons x
    · have hp : p x = false := by simpa using hp
      cases hq : q x with
      | false => simpa [List.filter_cons, hp, hq] using ih
      | true =>
        simp only [List.filter_cons, hp, hq, Bool.true_or, if_true]
        exact (ih.cons x).trans List.perm_middle.symm
section
variable {nx : Nat → List Nat} {n : Nat} {kn : Nat → Nat} {found : Nat} {sq : Nat → Int}
/-- what has come, and what is to come -/
structure OrdS (nx : Nat → List Nat) (n : Nat) (kn : Nat → Nat) (sq : Nat → Int) (gone pre : List Nat) (fuel : Nat) : Prop where
  whole : pre ++ ordP nx n kn sq fuel gone = ordP nx n kn sq n []
  sum : gone.length + fuel = n
  less : gone.length ≤ pre.length
  perm : pre.Perm ((List.range n).filter fun i => decide (kn i ∈ gone))
  shut : Shut nx n kn gone
theorem OrdS.start : OrdS nx n kn sq [] [] n := ⟨rfl, by simp, Nat.le_refl _, by simp, nofun⟩
theorem OrdS.le {gone pre : List Nat} {fuel : Nat} (h : OrdS nx n kn sq gone pre fuel) : pre.length ≤ n := by
  rw [h.perm.length_eq]
  exact Nat.le_trans (List.length_filter_le _ _) (by simp)
theorem OrdS.sub {gone pre : List Nat} {fuel : Nat} (h : OrdS nx n kn sq gone pre fuel) : ∀ i ∈ pre, i < n := fun i hi => by
  have := h.perm.mem_iff.1 hi
  simp at this
  exact this.1
theorem OrdS.done {gone pre : List Nat} {fuel : Nat} (h : OrdS nx n kn sq gone pre fuel) (hl : n ≤ pre.length) : pre = ordP nx n kn sq n [] := by
  have hall : ∀ i, i < n → kn i ∈ gone := fun i hi => by
    have h1 : ((List.range n).filter fun i => decide (kn i ∈ gone)) = List.range n := by
      refine List.Sublist.eq_of_length List.filter_sublist ?_
      have := h.perm.length_eq
      have h2 := List.length_filter_le (fun i => decide (kn i ∈ gone)) (List.range n)
      rw [List.length_range] at h2 ⊢
      omega
    have h2 : i ∈ (List.range n).filter fun i => decide (kn i ∈ gone) := by rw [h1]; exact List.mem_range.2 hi
    simpa using (List.mem_filter.1 h2).2
  rw [← h.whole]
  suffices e : ordP nx n kn sq fuel gone = [] by rw [e, List.append_nil]
  cases fuel with
  | zero => rfl
  | succ f =>
    unfold ordP
    have : (List.range n).find? (freeP nx n kn gone) = none := by
      rw [List.find?_eq_none]
      intro x hx hf
      exact (freeP_iff.1 hf).1 (hall x (List.mem_range.1 hx))
    rw [this]
theorem OrdS.more (hk : Kn nx n kn found) {gone pre : List Nat} {fuel : Nat} (h : OrdS nx n kn sq gone pre fuel) (hl : pre.length < n) : ∃ k, k < n ∧ freeP nx n kn gone k = true := by
  suffices H : ∃ i, i < n ∧ kn i ∉ gone by
    obtain ⟨i, hi, hg⟩ := H
    exact free_some hk h.shut hi hg
  refine Classical.byContradiction fun q => ?_
  have h1 : ((List.range n).filter fun i => decide (kn i ∈ gone)) = List.range n := List.filter_eq_self.2 fun i hi => by
    refine decide_eq_true (Classical.byContradiction fun q2 => q ⟨i, List.mem_range.1 hi, q2⟩)
  have := h.perm.length_eq
  rw [h1, List.length_range] at this
  omega
theorem OrdS.step (hk : Kn nx n kn found) {gone pre : List Nat} {fuel i : Nat} (h : OrdS nx n kn sq gone pre fuel) (hl : pre.length < n) (hf : (List.range n).find? (freeP nx n kn gone) = some i) :
    0 < fuel ∧ OrdS nx n kn sq (kn i :: gone) (pre ++ sortS sq (knotL n kn (kn i))) (fuel - 1) := by
  have hi : i < n := List.mem_range.1 (List.mem_of_find?_eq_some hf)
  have hfr := List.find?_some hf
  have hfi := freeP_iff.1 hfr
  have h0 : 0 < fuel := by have := h.sum; have := h.less; omega
  obtain ⟨f, rfl⟩ : ∃ f, fuel = f + 1 := ⟨fuel - 1, by omega⟩
  have hs := sortS_spec (sq := sq) (knotL_inc n kn (kn i))
  have hne : 0 < (knotL n kn (kn i)).length := List.length_pos_of_mem (knotL_mem.2 ⟨hi, rfl⟩)
  refine ⟨h0, ?_, ?_, ?_, ?_, shut_next hk h.shut hfr⟩
  · rw [← h.whole]
    show _ = pre ++ ordP nx n kn sq (f + 1) gone
    rw [ordP, hf, List.append_assoc]
    rfl
  · have := h.sum
    simp only [List.length_cons]
    omega
  · have := h.less
    rw [List.length_append, hs.2.length_eq, List.length_cons]
    omega
  · refine ((h.perm.append hs.2).trans (filter_or (p := fun i => decide (kn i ∈ gone)) (q := fun x => kn x == kn i) (fun x hx => ?_) (List.range n)).symm).trans (.of_eq ?_)
    · have hx : kn x ∈ gone := by simpa using hx
      cases hq : kn x == kn i with
      | false => rfl
      | true => rw [beq_iff_eq.1 hq] at hx; exact absurd hx hfi.1
    · refine List.filter_congr fun x _ => ?_
      rw [Bool.eq_iff_iff]
      simp
theorem knot_len {k : Nat} : (knotL n kn k).length ≤ n := Nat.le_trans (List.length_filter_le _ _) (by simp)
end
/-- who leads to whom -/
noncomputable def tR (nx : Nat → List Nat) (i k : Nat) : Bool := @decide (R nx i k) (Classical.propDecidable _)
theorem tR_iff {nx : Nat → List Nat} {i k : Nat} : tR nx i k = true ↔ R nx i k := by unfold tR; exact @decide_eq_true_iff _ (Classical.propDecidable _)
/-- the order, by who leads to whom -/
noncomputable def ordR (nx : Nat → List Nat) (n : Nat) (sq : Nat → Int) : List Nat := ordD n (tR nx) sq n fun _ => false
theorem ordP_R {nx : Nat → List Nat} {n : Nat} {kn : Nat → Nat} {found : Nat} (hk : Kn nx n kn found) (sq : Nat → Int) : ordP nx n kn sq n [] = ordR nx n sq :=
  ord_same hk (fun i k _ _ => tR_iff) sq n [] _ nofun fun k _ => by simp
/-- any table that says who leads to whom -/
theorem ordD_R {nx : Nat → List Nat} {n : Nat} {t : Nat → Nat → Bool} (hn : ∀ x, x < n → ∀ y ∈ nx x, y < n) (ht : ∀ i k, i < n → k < n → (t i k = true ↔ R nx i k)) (sq : Nat → Int) : ∀ (f : Nat) (come come' : Nat → Bool), (∀ k, k < n → come k = come' k) → ordD n t sq f come = ordD n (tR nx) sq f come'
  | 0, _, _, _ => rfl
  | f + 1, come, come', hc => by
    have htt : ∀ i k, i < n → k < n → t i k = tR nx i k := fun i k hi hk => by rw [Bool.eq_iff_iff, ht i k hi hk, tR_iff]
    have he : (List.range n).find? (freeD n t come) = (List.range n).find? (freeD n (tR nx) come') := find_congr fun x hx => by
      have hx := List.mem_range.1 hx
      rw [Bool.eq_iff_iff, freeD_iff, freeD_iff, hc x hx]
      refine and_congr Iff.rfl (forall_congr' fun k => ?_)
      constructor
      · intro q hk
        have := q hk
        rwa [hc k hk, htt x k hx hk, htt k x hk hx] at this
      · intro q hk
        have := q hk
        rwa [hc k hk, htt x k hx hk, htt k x hk hx]
    unfold ordD
    rw [← he]
    cases hq : (List.range n).find? (freeD n t come) with
    | none => rfl
    | some i =>
      have hi : i < n := List.mem_range.1 (List.mem_of_find?_eq_some hq)
      have e1 : ((List.range n).filter fun k => t i k && t k i) = (List.range n).filter fun k => tR nx i k && tR nx k i := List.filter_congr fun k hk => by
        have hk := List.mem_range.1 hk
        rw [htt i k hi hk, htt k i hk hi]
      simp only [e1]
      rw [ordD_R hn ht sq f _ _ fun k hk => by rw [hc k hk, htt i k hi hk, htt k i hk hi]]
/-- each comes once -/
theorem ordR_perm {nx : Nat → List Nat} {n : Nat} {kn : Nat → Nat} {found : Nat} (hk : Kn nx n kn found) (sq : Nat → Int) : (ordR nx n sq).Perm (List.range n) := by
  rw [← ordP_R hk]
  suffices H : ∀ (fuel : Nat) (gone pre : List Nat), OrdS nx n kn sq gone pre fuel → (ordP nx n kn sq n []).Perm (List.range n) from H n [] [] OrdS.start
  intro fuel
  induction fuel with
  | zero =>
    intro gone pre h
    have h1 : n ≤ pre.length := by have := h.sum; have := h.less; omega
    rw [← h.done h1]
    have h2 := h.perm
    have h3 : ((List.range n).filter fun i => decide (kn i ∈ gone)) = List.range n := by
      refine List.Sublist.eq_of_length List.filter_sublist ?_
      have := h2.length_eq
      have h4 := List.length_filter_le (fun i => decide (kn i ∈ gone)) (List.range n)
      rw [List.length_range] at h4 ⊢
      omega
    rwa [h3] at h2
  | succ f ih =>
    intro gone pre h
    by_cases hl : pre.length < n
    · obtain ⟨k, hkn, hkf⟩ := h.more hk hl
      cases hq : (List.range n).find? (freeP nx n kn gone) with
      | none => exact absurd hkf (List.find?_eq_none.1 hq k (List.mem_range.2 hkn))
      | some i => exact ih _ _ (h.step hk hl hq).2
    · have h1 : n ≤ pre.length := by omega
      rw [← h.done h1]
      have h2 := h.perm
      have h3 : ((List.range n).filter fun i => decide (kn i ∈ gone)) = List.range n := by
        refine List.Sublist.eq_of_length List.filter_sublist ?_
        have := h2.length_eq
        have h4 := List.length_filter_le (fun i => decide (kn i ∈ gone)) (List.range n)
        rw [List.length_range] at h4 ⊢
        omega
      rwa [h3] at h2
/-- the knots are there to be found -/
theorem kn_steps {nx : Nat → List Nat} {n : Nat} (hn : ∀ x, x < n → ∀ y ∈ nx x, y < n) : ∀ (k : Nat) (s : TS), M nx n s ≤ k → Inv nx n s → ∃ s', Inv nx n s' ∧ s'.wk = [] ∧ ∀ x, s.num x ≠ 0 → s'.num x ≠ 0
  | 0, s, hk, hi => by
    by_cases hw : s.wk = []
    · exact ⟨s, hi, hw, fun _ q => q⟩
    · have := (went_step hn hi hw).less
      omega
  | k + 1, s, hk, hi => by
    by_cases hw : s.wk = []
    · exact ⟨s, hi, hw, fun _ q => q⟩
    · have h := went_step hn hi hw
      obtain ⟨s', h1, h2, h3⟩ := kn_steps hn k (step nx s) (by have := h.less; omega) h.inv
      exact ⟨s', h1, h2, fun x q => h3 x (h.seen x q)⟩
theorem kn_upto {nx : Nat → List Nat} {n : Nat} (hn : ∀ x, x < n → ∀ y ∈ nx x, y < n) : ∀ i, i ≤ n → ∃ s, Inv nx n s ∧ s.wk = [] ∧ ∀ x, x < i → s.num x ≠ 0
  | 0, _ => ⟨TS.start, inv_start nx n, rfl, nofun⟩
  | i + 1, hi => by
    obtain ⟨s, h1, h2, h3⟩ := kn_upto hn i (by omega)
    by_cases hz : s.num i = 0
    · obtain ⟨s', g1, g2, g3⟩ := kn_steps hn _ (enter s i) (Nat.le_refl _) (inv_enter h1 (by omega) hz (fun u b w' e => by rw [h2] at e; cases e))
      refine ⟨s', g1, g2, fun x hx => g3 x ?_⟩
      show up s.num i (s.count + 1) x ≠ 0
      by_cases e : x = i
      · subst e; rw [up_same]; omega
      · rw [up_other _ _ e]; exact h3 x (by omega)
    · exact ⟨s, h1, h2, fun x hx => if e : x = i then by rw [e]; exact hz else h3 x (by omega)⟩
theorem kn_exists {nx : Nat → List Nat} {n : Nat} (hn : ∀ x, x < n → ∀ y ∈ nx x, y < n) : ∃ kn found, Kn nx n kn found := by
  obtain ⟨s, h1, h2, h3⟩ := kn_upto hn n (Nat.le_refl _)
  exact ⟨_, _, kn_final hn h1 h2 h3⟩
end Go.Proofs.Ytgicohkmfbbbdaa.Tar
end

section
namespace Go.Proofs.Ytgicohkmfbbbdaa.Gr
open _root_.Go.Proofs.Ytgicohkmfbbbdaa.Mark (ltID sortID)
open Go.RowKit
open Attr (A8)
open Tar (TS ordR OrdS knotL sortS)
set_option linter.unusedSimpArgs false
set_option linter.unusedVariables false

/-- those that the graph has, by names -/
def lstG (es : List (I2 × A8)) (l : List I2) : List I2 := dd (sortID (keepF (lackF es) l))
theorem lstG_sorted (es : List (I2 × A8)) (l : List I2) : (lstG es l).Pairwise ltID := dd_strict (sort_pair _)
theorem lstG_mem {es : List (I2 × A8)} {l : List I2} {x : I2} : x ∈ lstG es l ↔ x ∈ l ∧ (getA es x).isSome = true := by
  unfold lstG
  rw [dd_mem, sort_mem]
  unfold keepF lackF
  rw [List.mem_filter]
  simp
theorem lstG_len (es : List (I2 × A8)) (l : List I2) : (lstG es l).length ≤ l.length := by
  unfold lstG
  have h1 := dd_len (sortID (keepF (lackF es) l))
  have h2 : (sortID (keepF (lackF es) l)).length = (keepF (lackF es) l).length := Mark.sort_len _
  have h3 : (keepF (lackF es) l).length ≤ l.length := List.length_filter_le _ _
  omega
def nxL (es : List (I2 × A8)) (f : F7) (Lk : List I2) (i : Nat) : List Nat := match Lk[i]? with
  | some x => nextP Lk (leadsG es f x)
  | none => []
def enL (es : List (I2 × A8)) (Lk : List I2) (i : Nat) : I2 × A8 := match Lk[i]? with
  | some x => (x, (getA es x).getD A8.zero)
  | none => ((0, 0), A8.zero)
theorem enL_id {es : List (I2 × A8)} {Lk : List I2} {i : Nat} {x : I2} (h : Lk[i]? = some x) : (enL es Lk i).1 = x := by unfold enL; rw [h]
noncomputable def ordN (es : List (I2 × A8)) (f : F7) (Lk : List I2) : List Nat := ordR (nxL es f Lk) Lk.length (sqE (enL es Lk))
noncomputable def ordG (es : List (I2 × A8)) (f : F7) (Lk : List I2) : List I2 := (ordN es f Lk).map (idK (enL es Lk))
/-- the nodes are those of the names -/
structure NdIn (es : List (I2 × A8)) (f : F7) (Lk : List I2) (N : List Nd) : Prop where
  len : N.length = Lk.length
  at_ : ∀ (j : Nat) x, Lk[j]? = some x → ∃ d, N[j]? = some d ∧ DoneN es f Lk x d
theorem nextP_lt {Lk ls : List I2} {y : Nat} (h : y ∈ nextP Lk ls) : y < Lk.length := by
  unfold nextP at h
  obtain ⟨z, _, hz⟩ := List.mem_filterMap.1 h
  split at hz
  · rename_i q
    cases hz
    exact List.idxOf_lt_length_of_mem q
  · cases hz
theorem NdIn.nx {es : List (I2 × A8)} {f : F7} {Lk : List I2} {N : List Nd} (h : NdIn es f Lk N) : nxF N = nxL es f Lk := by
  funext i
  unfold nxL
  cases hx : Lk[i]? with
  | none =>
    unfold nxF
    rw [List.getElem?_eq_none (by rw [h.len]; exact List.getElem?_eq_none_iff.1 hx)]
  | some x =>
    obtain ⟨d, hd, hdn⟩ := h.at_ i x hx
    rw [nxF_get hd, hdn.2.1]
theorem nxL_lt {es : List (I2 × A8)} {f : F7} {Lk : List I2} {x y : Nat} (h : y ∈ nxL es f Lk x) : y < Lk.length := by
  unfold nxL at h
  split at h
  · exact nextP_lt h
  · cases h
theorem nxL_len (es : List (I2 × A8)) (f : F7) (Lk : List I2) (i : Nat) : (nxL es f Lk i).length ≤ 7 := by
  unfold nxL
  split
  · exact Nat.le_trans (nextP_len _ _) (leadsG_len _ _ _)
  · simp
theorem NdIn.back {es : List (I2 × A8)} {f : F7} {Lk : List I2} {N : List Nd} (h : NdIn es f Lk N) {i : Nat} {d : Nd} (hd : N[i]? = some d) : ∃ x, Lk[i]? = some x ∧ DoneN es f Lk x d := by
  have hi := (List.getElem?_eq_some_iff.1 hd).1
  obtain ⟨x, hx⟩ : ∃ x, Lk[i]? = some x := ⟨_, List.getElem?_eq_getElem (by rw [← h.len]; exact hi)⟩
  obtain ⟨d', hd', hdn⟩ := h.at_ i x hx
  rw [hd] at hd'
  cases hd'
  exact ⟨x, hx, hdn⟩
theorem NdIn.zero {es : List (I2 × A8)} {f : F7} {Lk : List I2} {N : List Nd} (h : NdIn es f Lk N) : ∀ d ∈ N, d.low = 0 ∧ d.num = 0 ∧ d.on = false ∧ d.knot = 0 := by
  intro d hd
  obtain ⟨i, hi⟩ := List.mem_iff_getElem?.1 hd
  obtain ⟨x, _, hdn⟩ := h.back hi
  exact hdn.2.2
theorem NdIn.seven {es : List (I2 × A8)} {f : F7} {Lk : List I2} {N : List Nd} (h : NdIn es f Lk N) (i : Nat) (d : Nd) (hd : N[i]? = some d) : d.nx.length ≤ 7 := by
  have := nxL_len es f Lk i
  rw [← h.nx, nxF_get hd] at this
  exact this
theorem NdIn.lt {es : List (I2 × A8)} {f : F7} {Lk : List I2} {N : List Nd} (h : NdIn es f Lk N) : ∀ x, x < N.length → ∀ y ∈ nxF N x, y < N.length := by
  intro x _ y hy
  rw [h.nx] at hy
  rw [h.len]
  exact nxL_lt hy
theorem ndL_back {N : List Nd} {s : TS} {i : Nat} {e : Nd} (h : (ndL N s)[i]? = some e) : ∃ d, N[i]? = some d ∧ e = ⟨d.id, d.na, d.nc, d.nx, s.low i, s.num i, s.on i, s.knot i⟩ := by
  have hi := (List.getElem?_eq_some_iff.1 h).1
  rw [ndL_len] at hi
  obtain ⟨d, hd⟩ : ∃ d, N[i]? = some d := ⟨_, List.getElem?_eq_getElem hi⟩
  refine ⟨d, hd, ?_⟩
  rw [ndL_get hd] at h
  cases h
  rfl
theorem ndL_nx (N : List Nd) (s : TS) : nxF (ndL N s) = nxF N := by
  funext i
  unfold nxF
  cases hd : N[i]? with
  | none => rw [List.getElem?_eq_none (by rw [ndL_len]; exact List.getElem?_eq_none_iff.1 hd)]
  | some d => rw [ndL_get hd]
theorem ndL_kn (N : List Nd) (s : TS) {i : Nat} (hi : i < N.length) : knF (ndL N s) i = s.knot i := by
  obtain ⟨d, hd⟩ : ∃ d, N[i]? = some d := ⟨_, List.getElem?_eq_getElem hi⟩
  exact knF_at (ndL_get hd s)
/-- the nodes' knots -/
theorem kn_nd {N : List Nd} {s : TS} {n : Nat} (h : Tar.Kn (nxF N) N.length s.knot n) : Tar.Kn (nxF (ndL N s)) (ndL N s).length (knF (ndL N s)) n := by
  rw [ndL_nx, ndL_len]
  refine ⟨h.hn, fun x hx => by rw [ndL_kn N s hx]; exact h.pos x hx, fun x => ?_, fun x hx y hy => by rw [ndL_kn N s hx, ndL_kn N s (h.hn x hx y hy)]; exact h.edge x hx y hy, fun x y hx e => ?_⟩
  · by_cases hx : x < N.length
    · rw [ndL_kn N s hx]; exact h.le x
    · unfold knF
      rw [List.getElem?_eq_none (by rw [ndL_len]; omega)]
      exact Nat.zero_le _
  · by_cases hy : y < N.length
    · rw [ndL_kn N s hx, ndL_kn N s hy] at e
      exact h.same x y hx e
    · rw [ndL_kn N s hx] at e
      have : knF (ndL N s) y = 0 := by
        unfold knF
        rw [List.getElem?_eq_none (by rw [ndL_len]; omega)]
      rw [this] at e
      exact absurd e (h.pos x hx)
/-- a knot's places in the graph -/
theorem NdIn.kt {es : List (I2 × A8)} {f : F7} {Lk : List I2} {N : List Nd} (h : NdIn es f Lk N) (hs : Lk.Pairwise ltID) (hg : ∀ x ∈ Lk, (getA es x).isSome = true) (s : TS) {ks : List Nat} (hk : ks.Pairwise (· < ·)) (hl : ∀ i ∈ ks, i < N.length) :
    KtIn es (ndL N s) ks (enL es Lk) := by
  have ha : ∀ i ∈ ks, ∃ x, Lk[i]? = some x := fun i hi => ⟨_, List.getElem?_eq_getElem (by rw [← h.len]; exact hl i hi)⟩
  refine ⟨fun i hi => ?_, fun i hi => ?_, hk, fun i hi j hj hij => ?_⟩
  · obtain ⟨x, hx⟩ := ha i hi
    obtain ⟨d, hd, hdn⟩ := h.at_ i x hx
    exact ⟨_, ndL_get hd s, by rw [enL_id hx]; exact hdn.1⟩
  · obtain ⟨x, hx⟩ := ha i hi
    have h1 := hg x (List.mem_of_getElem? hx)
    unfold enL
    rw [hx]
    cases hq : getA es x with
    | none => rw [hq] at h1; cases h1
    | some a => simpa [hq] using getA_mem hq
  · obtain ⟨x, hx⟩ := ha i hi
    obtain ⟨y, hy⟩ := ha j hj
    rw [enL_id hx, enL_id hy]
    obtain ⟨hi', rfl⟩ := List.getElem?_eq_some_iff.1 hx
    obtain ⟨hj', rfl⟩ := List.getElem?_eq_some_iff.1 hy
    exact List.pairwise_iff_getElem.1 hs i j hi' hj' hij
/-- the nodes, their knots found -/
structure LIn (es : List (I2 × A8)) (f : F7) (Lk : List I2) (L : List Nd) (n : Nat) : Prop where
  len : L.length = Lk.length
  kn : Tar.Kn (nxF L) L.length (knF L) n
  nx : nxF L = nxL es f Lk
  kt : ∀ ks : List Nat, ks.Pairwise (· < ·) → (∀ i ∈ ks, i < L.length) → KtIn es L ks (enL es Lk)
  seven : ∀ (i : Nat) (d : Nd), L[i]? = some d → d.nx.length ≤ 7
  kle : ∀ (i : Nat) (d : Nd), L[i]? = some d → d.knot ≤ n
theorem NdIn.after {es : List (I2 × A8)} {f : F7} {Lk : List I2} {N : List Nd} (h : NdIn es f Lk N) (hs : Lk.Pairwise ltID) (hg : ∀ x ∈ Lk, (getA es x).isSome = true) {s : TS} (hk : Tar.Kn (nxF N) N.length s.knot s.found) : LIn es f Lk (ndL N s) s.found := by
  refine ⟨by rw [ndL_len, h.len], kn_nd hk, by rw [ndL_nx, h.nx], fun ks h1 h2 => h.kt hs hg s h1 fun i hi => by have := h2 i hi; rwa [ndL_len] at this, fun i d hd => ?_, fun i d hd => ?_⟩
  · obtain ⟨d', hd', rfl⟩ := ndL_back hd
    exact h.seven i d' hd'
  · obtain ⟨d', hd', rfl⟩ := ndL_back hd
    exact hk.le i
theorem LIn.order {es : List (I2 × A8)} {f : F7} {Lk : List I2} {L : List Nd} {n : Nat} (h : LIn es f Lk L n) : Tar.ordP (nxF L) L.length (knF L) (sqE (enL es Lk)) L.length [] = ordN es f Lk := by
  rw [Tar.ordP_R h.kn]
  unfold ordN
  rw [h.nx, h.len]
section
variable {es : List (I2 × A8)}
/-- leads to, by names and by places -/
theorem place_edge {Lk : List I2} {f : F7} {i k : Nat} {x y : I2} (hx : Lk[i]? = some x) (hy : y ∈ leadsG es f x) (hk : Lk[k]? = some y) (hn : Lk.Nodup) : k ∈ nxL es f Lk i := by
  unfold nxL
  rw [hx]
  unfold nextP
  refine List.mem_filterMap.2 ⟨y, hy, ?_⟩
  rw [if_pos (List.mem_of_getElem? hk)]
  obtain ⟨hl, rfl⟩ := List.getElem?_eq_some_iff.1 hk
  rw [List.Nodup.idxOf_getElem hn]
theorem edge_place {Lk : List I2} {f : F7} {i k : Nat} (h : k ∈ nxL es f Lk i) : ∃ x y, Lk[i]? = some x ∧ Lk[k]? = some y ∧ y ∈ leadsG es f x := by
  unfold nxL at h
  split at h
  · rename_i x hx
    unfold nextP at h
    obtain ⟨y, hy, e⟩ := List.mem_filterMap.1 h
    split at e
    · rename_i hm
      cases e
      exact ⟨x, y, hx, by rw [List.getElem?_eq_getElem (List.idxOf_lt_length_of_mem hm), List.getElem_idxOf], hy⟩
    · cases e
  · cases h
end
end Go.Proofs.Ytgicohkmfbbbdaa.Gr
end

section
namespace Go.Proofs.Ytgicohkmfbbbdaa
open Go.RowKit
open Go.Maps (Keyed)
set_option linter.unusedVariables false
set_option linter.unusedSimpArgs false

section
variable {P : Program} {k : TypeId} {w : World} {b : Nat} {es : List (Value × Value)}
theorem eraseList {α : Type} (a : Array α) (i : Nat) (h : i < a.size) : (a.eraseIdxIfInBounds i).toList = a.toList.eraseIdx i := by
  rw [Array.eraseIdxIfInBounds_eq]
  rw [dif_pos h, Array.toList_eraseIdx]
theorem erase_mid {α : Type} (l1 l2 : List α) (x : α) : (l1 ++ x :: l2).eraseIdx l1.length = l1 ++ l2 := by
  rw [List.eraseIdx_append_of_length_le (Nat.le_refl _)]
  simp
theorem MapAt.erased {l1 l2 : List (Value × Value)} {key u : Value} (h : MapAt P k w b (l1 ++ (key, u) :: l2)) {ents : Array MapEntry} {clock : Nat} (hb : w.heap[b]? = some (.map ents clock)) :
    MapAt P k (ChangeMaps.setBlock w b (.map (ents.eraseIdxIfInBounds l1.length) clock)) b (l1 ++ l2) := by
  obtain ⟨ents', clock', hb', he, hbn, hdn, hkeys, hpw⟩ := h
  rw [hb] at hb'; cases hb'
  have hlt : l1.length < ents.size := by
    have := congrArg List.length he
    simp at this
    omega
  have hs : ((l1 ++ l2)).Sublist (l1 ++ (key, u) :: l2) := List.Sublist.append (List.Sublist.refl _) (List.sublist_cons_self _ _)
  have hes : (ents.toList.eraseIdx l1.length).Sublist ents.toList := List.eraseIdx_sublist _ _
  refine ⟨_, clock, ChangeMaps.heap_setBlock_same hb _, ?_, ?_, ?_, ?_, ?_⟩
  · rw [eraseList _ _ hlt, List.eraseIdx_eq_take_drop_succ, List.map_append, List.map_take, List.map_drop, he, ← List.eraseIdx_eq_take_drop_succ, erase_mid]
  · intro e hm
    rw [eraseList _ _ hlt] at hm
    exact hbn e (hes.subset hm)
  · rw [eraseList _ _ hlt]
    exact hdn.sublist hes
  · exact fun p hp => hkeys p (hs.subset hp)
  · exact hpw.sublist hs
/-- an entry is taken away -/
theorem MapAt.del_there {t e : TypeId} {l1 l2 : List (Value × Value)} {key u : Value} (h : MapAt P k w b (l1 ++ (key, u) :: l2)) (K : Keyed P k) (ht : P.underlying t = some (.map k e)) {kl : Lit} (hk : keyOf P k key = some kl) (t2 ty : TypeId) :
    ∃ w', (Builtin.delete_ #[t, t2] ty #[.map (some b), key]).run P w = .ok (.tuple #[]) w' ∧ MapAt P k w' b (l1 ++ l2) ∧ Exc (fun q => q = b) w w' ∧ ∃ ents clock, w.heap[b]? = some (.map ents clock) ∧ w'.heap[b]? = some (.map (ents.eraseIdxIfInBounds l1.length) clock) := by
  have h0 := h
  obtain ⟨ents, clock, hb, _⟩ := h0
  obtain ⟨e0, h1, h2, h3, h4⟩ := h.find_at K hk w hb
  exact ⟨ChangeMaps.setBlock w b (.map (ents.eraseIdxIfInBounds l1.length) clock), by simp [Builtin.delete_, run_underlying ht, MapKept.run_getObj_map hb, K.check w _ hk, h1, MapKept.run_setObj_map _ hb, Result.andThen, ChangeMaps.setBlock], h.erased hb,
    ⟨rfl, rfl, rfl, by simp [ChangeMaps.setBlock], fun i _ hi => ChangeMaps.heap_setBlock_other hb _ (fun e => hi e)⟩, ents, clock, hb, ChangeMaps.heap_setBlock_same hb _⟩
/-- there was none -/
theorem MapAt.del_none {t e : TypeId} {key : Value} (h : MapAt P k w b es) (K : Keyed P k) (ht : P.underlying t = some (.map k e)) {kl : Lit} (hk : keyOf P k key = some kl) (hn : ∀ p ∈ es, p.1 ≠ key) (t2 ty : TypeId) :
    ∃ w', (Builtin.delete_ #[t, t2] ty #[.map (some b), key]).run P w = .ok (.tuple #[]) w' ∧ MapAt P k w' b es ∧ Exc (fun q => q = b) w w' := by
  have h0 := h
  obtain ⟨ents, clock, hb, hrest⟩ := h0
  obtain ⟨ents', clock', hb', hf⟩ := h.find K hk w
  rw [hb] at hb'
  cases hb'
  rcases hf with ⟨h1, _⟩ | ⟨j, v, h1, h2⟩
  · exact ⟨ChangeMaps.setBlock w b (.map ents clock), by simp [Builtin.delete_, run_underlying ht, MapKept.run_getObj_map hb, K.check w _ hk, h1, MapKept.run_setObj_map _ hb, Result.andThen, ChangeMaps.setBlock], ⟨ents, clock, ChangeMaps.heap_setBlock_same hb _, hrest⟩,
      ⟨rfl, rfl, rfl, by simp [ChangeMaps.setBlock], fun i _ hi => ChangeMaps.heap_setBlock_other hb _ (fun e => hi e)⟩⟩
  · exact absurd rfl (hn _ h2)

/-- an iterator r over map b, of which these have come; entries may have been taken away since -/
def IterD (P : Program) (k : TypeId) (w : World) (r b : Nat) (es done : List (Value × Value)) : Prop :=
  MapAt P k w b es ∧ r ≠ b ∧ ∃ (ents : Array MapEntry) (clock c0 : Nat) (vs : List MapEntry), w.heap[b]? = some (.map ents clock) ∧ w.heap[r]? = some (.mapIter (some b) clock (vs.map (·.born)).toArray c0) ∧ clock ≤ c0 ∧
    vs.map (fun e => (e.key, e.val)) = done ∧ (vs ≠ [] → c0 = clock) ∧ (∀ x ∈ vs, ∀ y ∈ ents.toList, x.key = y.key → x = y) ∧ (∀ x ∈ vs, ∀ y ∈ ents.toList, x.born = y.born → x = y)
theorem IterD.start {r : Nat} (h : IterAt P k w r b es []) : IterD P k w r b es [] := by
  obtain ⟨hm, hrb, ents, clock, c0, vs, hb, hr, hc, hd, hin, hpw, hc1⟩ := h
  have : vs = [] := by simpa using hd
  subst this
  exact ⟨hm, hrb, ents, clock, c0, [], hb, hr, hc, rfl, hc1, nofun, nofun⟩
theorem IterD.same {r : Nat} {done : List (Value × Value)} (h : IterD P k w r b es done) {w' : World} (e1 : w'.heap[b]? = w.heap[b]?) (e2 : w'.heap[r]? = w.heap[r]?) : IterD P k w' r b es done := by
  obtain ⟨hm, hrb, ents, clock, c0, vs, hb, hr, rest⟩ := h
  exact ⟨hm.same e1, hrb, ents, clock, c0, vs, e1.trans hb, e2.trans hr, rest⟩
theorem apart_of {l : List (Value × Value)} (h : l.Pairwise (fun p q => p.1 ≠ q.1)) {i j : Nat} {p q : Value × Value} (hi : l[i]? = some p) (hj : l[j]? = some q) (hk : p.1 = q.1) : i = j := by
  by_cases hij : i = j
  · exact hij
  · exfalso
    obtain ⟨hi1, hi2⟩ := List.getElem?_eq_some_iff.1 hi
    obtain ⟨hj1, hj2⟩ := List.getElem?_eq_some_iff.1 hj
    have hp := List.pairwise_iff_getElem.1 h
    rcases Nat.lt_or_gt_of_ne hij with q | q
    · exact hp i j hi1 hj1 q (by rw [hi2, hj2]; exact hk)
    · exact hp j i hj1 hi1 q (by rw [hi2, hj2]; exact hk.symm)
theorem IterD.next {r : Nat} {done : List (Value × Value)} (h : IterD P k w r b es done) (ty : TypeId) :
    ((∀ p ∈ es, p ∈ done) ∧ (Instr.next (.pointer (some ⟨r, 0, none⟩)) false ty).run P w = .ok (.tuple #[.bool false]) w) ∨
    ∃ p w', p ∈ es ∧ (∀ q ∈ done, q.1 ≠ p.1) ∧ (Instr.next (.pointer (some ⟨r, 0, none⟩)) false ty).run P w = .ok (.tuple #[.bool true, p.1, p.2]) w' ∧ IterD P k w' r b es (done ++ [p]) ∧ Exc (fun q => q = r) w w' := by
  obtain ⟨hm, hrb, ents, clock, c0, vs, hb, hr, hc, hd, hc1, hkey, hbo⟩ := h
  have hm0 := hm
  obtain ⟨ents', clock', hb', he, hbn, hdn, hkeys, hkp⟩ := hm0
  rw [hb] at hb'; cases hb'
  have hone : ∀ x ∈ ents.toList, ∀ y ∈ ents.toList, x.key = y.key → x = y := by
    intro x hx y hy e
    obtain ⟨i, hi⟩ := List.mem_iff_getElem?.1 hx
    obtain ⟨j, hj⟩ := List.mem_iff_getElem?.1 hy
    have g1 : es[i]? = some (x.key, x.val) := by rw [← he, List.getElem?_map, hi]; rfl
    have g2 : es[j]? = some (y.key, y.val) := by rw [← he, List.getElem?_map, hj]; rfl
    have := apart_of hkp g1 g2 e
    subst this
    rw [hi] at hj
    exact Option.some.inj hj
  have hborn : ∀ x ∈ ents.toList, ∀ y ∈ ents.toList, x.born = y.born → x = y := by
    intro x hx y hy e
    obtain ⟨i, hi⟩ := List.mem_iff_getElem?.1 hx
    obtain ⟨j, hj⟩ := List.mem_iff_getElem?.1 hy
    by_cases hij : i = j
    · subst hij; rw [hi] at hj; exact Option.some.inj hj
    · exfalso
      obtain ⟨hi1, hi2⟩ := List.getElem?_eq_some_iff.1 hi
      obtain ⟨hj1, hj2⟩ := List.getElem?_eq_some_iff.1 hj
      have hp := List.pairwise_iff_getElem.1 hdn
      rcases Nat.lt_or_gt_of_ne hij with q | q
      · exact hp i j hi1 hj1 q (by rw [hi2, hj2, e])
      · exact hp j i hj1 hi1 q (by rw [hi2, hj2, e])
  rcases run_next_at (P := P) w ty r b clock c0 (vs.map (·.born)).toArray ents clock hr hb hbn hc with ⟨h0, hrun⟩ | ⟨e, he1, w1, hw1, hrun⟩
  · refine .inl ⟨?_, hrun⟩
    intro p hp
    rw [← he] at hp
    obtain ⟨x, hx, rfl⟩ := List.mem_map.1 hp
    have h1 : leftOf ents (vs.map (·.born)).toArray = #[] := Array.eq_empty_of_size_eq_zero h0
    unfold leftOf at h1
    rw [Array.filter_eq_empty_iff] at h1
    have h2 := h1 x (by simpa using hx)
    simp at h2
    obtain ⟨y, hy, hyb⟩ := h2
    have := hbo y hy x hx hyb
    subst this
    rw [← hd]
    exact List.mem_map.2 ⟨y, hy, rfl⟩
  · have he2 : e ∈ ents.toList ∧ ∀ y ∈ vs, y.born ≠ e.born := by
      unfold leftOf at he1
      simp at he1
      exact ⟨by simpa using he1.1, fun y hy hb => he1.2 y hy hb⟩
    have hh1 : w1.heap = w.heap := by rcases hw1 with rfl | rfl <;> rfl
    refine .inr ⟨(e.key, e.val), ChangeMaps.setBlock w1 r (.mapIter (some b) clock ((vs.map (·.born)).toArray.push e.born) clock), entry_of he he2.1, ?_, hrun, ?_, ?_⟩
    · intro q hq
      rw [← hd] at hq
      obtain ⟨y, hy, rfl⟩ := List.mem_map.1 hq
      intro hk
      have := hkey y hy e he2.1 hk
      subst this
      exact he2.2 y hy rfl
    · have hr1 : w1.heap[r]? = some (.mapIter (some b) clock (vs.map (·.born)).toArray c0) := by rw [hh1]; exact hr
      have k1 : ∀ (o : Obj) (i : Nat), i ≠ r → (ChangeMaps.setBlock w1 r o).heap[i]? = w.heap[i]? := fun o i hi => by
        rw [← hh1]; simp [ChangeMaps.setBlock, Ne.symm hi]
      have k2 : ∀ (o : Obj), (ChangeMaps.setBlock w1 r o).heap[r]? = some o := fun o => by
        have hlt := lt_of_some hr1
        simp [ChangeMaps.setBlock, hlt]
      refine ⟨hm.same (k1 _ b (Ne.symm hrb)), hrb, ents, clock, clock, vs ++ [e], by rw [k1 _ b (Ne.symm hrb)]; exact hb, by rw [k2]; simp, Nat.le_refl _, by simp [hd], fun _ => rfl, ?_, ?_⟩
      · intro x hx y hy hk
        rcases List.mem_append.1 hx with hx | hx
        · exact hkey x hx y hy hk
        · rw [List.mem_singleton.1 hx] at hk ⊢
          exact hone e he2.1 y hy hk
      · intro x hx y hy hk
        rcases List.mem_append.1 hx with hx | hx
        · exact hbo x hx y hy hk
        · rw [List.mem_singleton.1 hx] at hk ⊢
          exact hborn e he2.1 y hy hk
    · have g : ∀ (o : Obj), Exc (fun q => q = r) w (ChangeMaps.setBlock w1 r o) := fun o => by
        rcases hw1 with rfl | rfl
        · exact ⟨rfl, rfl, rfl, by simp [ChangeMaps.setBlock], fun i _ hi => by simp [ChangeMaps.setBlock, Ne.symm hi]⟩
        · exact ⟨rfl, rfl, rfl, by simp [ChangeMaps.setBlock], fun i _ hi => by simp [ChangeMaps.setBlock, Ne.symm hi]; rfl⟩
      exact g _
theorem IterD.entry {r : Nat} {done : List (Value × Value)} {p : Value × Value} (h : IterD P k w r b es (done ++ [p])) (hp : p ∈ es) : (Instr.entry (.pointer (some ⟨r, 0, none⟩))).run P w = .ok (.tuple #[p.1, p.2]) w := by
  obtain ⟨hm, hrb, ents, clock, c0, vs, hb, hr, hc, hd, hc1, hkey, hbo⟩ := h
  obtain ⟨ents', clock', hb', he, hbn, hdn, hkeys, hkp⟩ := hm
  rw [hb] at hb'; cases hb'
  rcases List.eq_nil_or_concat vs with rfl | ⟨vs', e, rfl⟩
  · simp at hd
  · have h1 : c0 = clock := hc1 (by simp)
    subst h1
    simp at hd
    obtain ⟨hd1, hd2⟩ := hd
    subst hd2
    rw [← he] at hp
    obtain ⟨y, hy, hye⟩ := List.mem_map.1 hp
    have hk0 : e.key = y.key := (congrArg Prod.fst hye).symm
    have := hkey e (by simp) y hy hk0
    subst this
    exact run_entry_at (P := P) w r b c0 (vs'.map (·.born)).toArray ents c0 e (by rw [hr]; simp) hb hy (List.pairwise_map.2 hdn)
theorem IterD.del {t e : TypeId} {r : Nat} {done l1 l2 : List (Value × Value)} {key u : Value} (h : IterD P k w r b (l1 ++ (key, u) :: l2) done) (K : Keyed P k) (ht : P.underlying t = some (.map k e)) {kl : Lit} (hk : keyOf P k key = some kl) (t2 ty : TypeId) :
    ∃ w', (Builtin.delete_ #[t, t2] ty #[.map (some b), key]).run P w = .ok (.tuple #[]) w' ∧ IterD P k w' r b (l1 ++ l2) done ∧ Exc (fun q => q = b) w w' := by
  obtain ⟨hm, hrb, ents, clock, c0, vs, hb, hr, hc, hd, hc1, hkey, hbo⟩ := h
  obtain ⟨w', h1, h2, h3, ents', clock', h4, h5⟩ := hm.del_there K ht hk t2 ty
  rw [hb] at h4; cases h4
  have hsub : ∀ y ∈ (ents.eraseIdxIfInBounds l1.length).toList, y ∈ ents.toList := by
    intro y hy
    by_cases hlt : l1.length < ents.size
    · rw [eraseList _ _ hlt] at hy
      exact (List.eraseIdx_sublist _ _).subset hy
    · rw [Array.eraseIdxIfInBounds_eq, dif_neg hlt] at hy
      exact hy
  exact ⟨w', h1, ⟨h2, hrb, _, clock, c0, vs, h5, (h3.block r (lt_of_some hr) hrb).trans hr, hc, hd, hc1, fun x hx y hy => hkey x hx y (hsub y hy), fun x hx y hy => hbo x hx y (hsub y hy)⟩, h3⟩
theorem IterD.keys {r : Nat} {done : List (Value × Value)} (h : IterD P k w r b es done) : es.Pairwise (fun p q => p.1 ≠ q.1) := h.1.keys
def Part.iterD (P : Program) (k : TypeId) (r b : Nat) (es done : List (Value × Value)) : Part where
  holds w := IterD P k w r b es done
  foot q := q = b ∨ q = r
  lt := fun _ h q e => by
    rcases e with e | e
    · subst e; exact h.1.lt
    · subst e; obtain ⟨_, _, _, _, _, _, _, hr, _⟩ := h; exact lt_of_some hr
  stay := fun _ _ h e => h.same (e b (.inl rfl)) (e r (.inr rfl))
theorem facts_iterD {r : Nat} {done : List (Value × Value)} (w : World) : (Part.iterD P k r b es done).facts w = True := rfl
end

section
variable {P : Program} {ops : Array Oper} {rest : List Oper} {o : Oper} {a : Act} {Q : Exit → Act → World → Prop} {L0 L F : List Part} {w0 w : World} {k : TypeId} {b : Nat} {es : List (Value × Value)}
theorem wpList_del_there_at {t t2 : TypeId} {m x : Operand} (hg : o.guard = none) (hop : o.op = .call { callee := .builtin .delete, args := #[m, x], argTypes := #[t, t2] }) (hm : a.eval m = .map (some b)) {key u : Value} {l1 l2 : List (Value × Value)} (hx : a.eval x = key)
    (h : At L0 w0 L w) (s : Sel (Part.map P k b (l1 ++ (key, u) :: l2)) L F) {e : TypeId} (K : Keyed P k) (ht : P.underlying t = some (.map k e)) {kl : Lit} (hk : keyOf P k key = some kl)
    (hK : ∀ w', At L0 w0 (Part.map P k b (l1 ++ l2) :: F) w' → wpList P ops Q rest (a.put o.dst (.tuple #[])) w') : wpList P ops Q (o :: rest) a w := by
  have hM : MapAt P k w b (l1 ++ (key, u) :: l2) := h.get s
  obtain ⟨w', h1, h2, h3, _⟩ := hM.del_there K ht hk t2 o.type
  refine wpList_val hg ?_ (hK w' (h.turn s _ h2 (fun _ e => .inl e) h3))
  simp [execOp, hop, resolve, invoke, builtin, hm, hx, h1, Result.andThen]
theorem wpList_del_none_at {t t2 : TypeId} {m x : Operand} (hg : o.guard = none) (hop : o.op = .call { callee := .builtin .delete, args := #[m, x], argTypes := #[t, t2] }) (hm : a.eval m = .map (some b)) {key : Value} (hx : a.eval x = key)
    (h : At L0 w0 L w) (s : Sel (Part.map P k b es) L F) {e : TypeId} (K : Keyed P k) (ht : P.underlying t = some (.map k e)) {kl : Lit} (hk : keyOf P k key = some kl) (hn : ∀ p ∈ es, p.1 ≠ key)
    (hK : ∀ w', At L0 w0 (Part.map P k b es :: F) w' → wpList P ops Q rest (a.put o.dst (.tuple #[])) w') : wpList P ops Q (o :: rest) a w := by
  have hM : MapAt P k w b es := h.get s
  obtain ⟨w', h1, h2, h3⟩ := hM.del_none K ht hk hn t2 o.type
  refine wpList_val hg ?_ (hK w' (h.turn s _ h2 (fun _ e => .inl e) h3))
  simp [execOp, hop, resolve, invoke, builtin, hm, hx, h1, Result.andThen]
/-- the same, of a map that is ranged over -/
theorem wpList_del_iter_at {t t2 : TypeId} {m x : Operand} {r : Nat} {done : List (Value × Value)} (hg : o.guard = none) (hop : o.op = .call { callee := .builtin .delete, args := #[m, x], argTypes := #[t, t2] }) (hm : a.eval m = .map (some b)) {key u : Value} {l1 l2 : List (Value × Value)} (hx : a.eval x = key)
    (h : At L0 w0 L w) (s : Sel (Part.iterD P k r b (l1 ++ (key, u) :: l2) done) L F) {e : TypeId} (K : Keyed P k) (ht : P.underlying t = some (.map k e)) {kl : Lit} (hk : keyOf P k key = some kl)
    (hK : ∀ w', At L0 w0 (Part.iterD P k r b (l1 ++ l2) done :: F) w' → wpList P ops Q rest (a.put o.dst (.tuple #[])) w') : wpList P ops Q (o :: rest) a w := by
  have hI : IterD P k w r b (l1 ++ (key, u) :: l2) done := h.get s
  obtain ⟨w', h1, h2, h3⟩ := hI.del K ht hk t2 o.type
  refine wpList_val hg ?_ (hK w' (h.turn s (Part.iterD P k r b (l1 ++ l2) done) h2 (fun _ e => .inl e) (h3.mono (fun _ _ e => .inl e))))
  simp [execOp, hop, resolve, invoke, builtin, hm, hx, h1, Result.andThen]
theorem wpList_nextD_at {r : Nat} {done : List (Value × Value)} {it : Operand} (hg : o.guard = none) (hop : o.op = .next it false) (hi : a.eval it = .pointer (some ⟨r, 0, none⟩)) (h : At L0 w0 L w) (s : Sel (Part.iterD P k r b es done) L F)
    (hEnd : (∀ p ∈ es, p ∈ done) → wpList P ops Q rest (a.put o.dst (.tuple #[.bool false])) w)
    (hK : ∀ p w', p ∈ es → (∀ q ∈ done, q.1 ≠ p.1) → At L0 w0 (Part.iterD P k r b es (done ++ [p]) :: F) w' → wpList P ops Q rest (a.put o.dst (.tuple #[.bool true, p.1, p.2])) w') : wpList P ops Q (o :: rest) a w := by
  have hI : IterD P k w r b es done := h.get s
  rcases hI.next o.type with ⟨h1, h2⟩ | ⟨p, w', h1, h2, h3, h4, h5⟩
  · refine wpList_val hg ?_ (hEnd h1)
    simp [execOp, hop, hi, h2, Result.andThen]
  · refine wpList_val hg ?_ (hK p w' h1 h2 (h.turn s (Part.iterD P k r b es (done ++ [p])) h4 (fun q e => .inl e) (h5.mono (fun _ _ e => .inr e))))
    simp [execOp, hop, hi, h3, Result.andThen]
theorem At.rangedD {r : Nat} {done : List (Value × Value)} (h : At L0 w0 L w) (s : Sel (Part.iterD P k r b es done) L F) : At L0 w0 (Part.map P k b es :: F) w := by
  have hI : IterD P k w r b es done := h.get s
  exact h.turn s (Part.map P k b es) hI.1 (fun _ e => .inl (.inl e)) (Exc.refl _ _)
theorem At.rangeD {r : Nat} (h : At L0 w0 L w) (s : Sel (Part.iter P k r b es []) L F) : At L0 w0 (Part.iterD P k r b es [] :: F) w := by
  have hI : IterAt P k w r b es [] := h.get s
  exact h.turn s (Part.iterD P k r b es []) (IterD.start hI) (fun _ e => .inl e) (Exc.refl _ _)
end
end Go.Proofs.Ytgicohkmfbbbdaa
end
