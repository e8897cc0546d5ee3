/- RegA, joined. -/
import Derived.Test.YtgicohkmfbbbdaaJ1
section
namespace Go
set_option linter.unusedVariables false
set_option linter.unusedSimpArgs false

section
variable {P : Program} {ops : Array Oper} {md : Region.Mode} {C : World → Prop}

/-- each behind the first n waits for one of these that stands ahead of it -/
def tailB (md : Region.Mode) (ops : Array Oper) (n : Nat) : Bool :=
  (List.range ops.size).all fun t => decide (t ≤ n) || (List.range t).any fun j => decide (n ≤ j) && Region.waitsFor md ops t j
theorem tail_waitsA {n : Nat} {listed : Array Bool} (hs : Region.sinkB md ops n = true) (hc : tailB md ops n = true) (hn : n < ops.size) (inv : HeadInv md ops n listed) :
    ∀ (d i : Nat), n - i = d → i < n → listed.getD i true = false → ∀ t, n ≤ t → t ∉ Region.ready md ops listed := by
  intro d
  induction d using Nat.strongRecOn with
  | _ d ih =>
    intro i hd hi hun t ht hr
    obtain ⟨_, ot, hot, hall⟩ := mem_ready.1 hr
    have htlt : t < ops.size := (Array.getElem?_eq_some_iff.1 hot).1
    by_cases htn : t = n
    · subst htn
      have h1 := List.all_eq_true.1 hs i (List.mem_range.2 hi)
      obtain ⟨j, hj, hj2⟩ := List.any_eq_true.1 h1
      simp only [Bool.and_eq_true, decide_eq_true_eq] at hj2
      obtain ⟨oj, hoj, e, he, hb, hon⟩ := Region.waitsFor_spec hj2.2
      have hjle : j ≤ t := by have := List.mem_range.1 hj; omega
      by_cases hjt : j = t
      · subst hjt
        have : oj = ot := Option.some.inj (hoj.symm.trans hot)
        subst this
        have h2 := hall e he hb
        rw [hon, getD_both hun] at h2
        cases h2
      · cases hl : listed.getD j false with
        | true =>
          have h2 := inv.closed j oj hoj hl e he hb
          rw [hon, getD_both hun] at h2
          cases h2
        | false =>
          have hjs : j < listed.size := by rw [inv.size]; omega
          exact ih (t - j) (by omega) j rfl (by omega) (getD_in hjs hl) t (Nat.le_refl _) hr
    · have h1 := List.all_eq_true.1 hc t (List.mem_range.2 htlt)
      simp only [Bool.or_eq_true, decide_eq_true_eq] at h1
      rcases h1 with h1 | h1
      · omega
      · obtain ⟨j, hj, hj2⟩ := List.any_eq_true.1 h1
        simp only [Bool.and_eq_true, decide_eq_true_eq] at hj2
        obtain ⟨o', ho', e, he, hb, hon⟩ := Region.waitsFor_spec hj2.2
        have : o' = ot := Option.some.inj (ho'.symm.trans hot)
        subst this
        have h2 := hall e he hb
        have hjt := List.mem_range.1 hj
        rw [hon, getD_both (inv.tail j hj2.1 (by omega))] at h2
        cases h2

/-- the first n have come, the others have not -/
def firstN (m n : Nat) : Array Bool := ((List.range m).map fun j => decide (j < n)).toArray
theorem firstN_eq {n : Nat} {listed : Array Bool} (hsz : listed.size = ops.size) (h1 : ∀ j, j < n → listed.getD j false = true) (h2 : ∀ t, n ≤ t → t < ops.size → listed.getD t true = false) : listed = firstN ops.size n := by
  apply Array.ext
  · simp [firstN, hsz]
  · intro i hi hi2
    have e1 : (firstN ops.size n)[i] = decide (i < n) := by simp [firstN]
    rw [e1]
    by_cases h : i < n
    · have := h1 i h
      simp [hi] at this
      simp [this, h]
    · have := h2 i (by omega) (by omega)
      simp [hi] at this
      simp [this, h]
/-- the same, for the head: op after op may be taken first -/
def headB (md : Region.Mode) (ops : Array Oper) : Nat → Nat → Array Bool → Bool
  | 0, _, _ => true
  | f + 1, k, listed => ((Region.ready md ops listed).contains k && Region.free md ops listed k) && headB md ops f (k + 1) (listed.setIfInBounds k true)
theorem wpAnyLQ_firstA {n i : Nat} {oi : Oper} {v : Value} {L : Array Bool → Act → Prop} (hi : ops[i]? = some oi) (hsel : ∀ (j : Nat) (o : Oper) cs b, ops[j]? = some o → o.op ≠ .select cs b)
    (tw : ∀ listed, HeadInv md ops n listed → ∀ i, i < n → listed.getD i true = false → ∀ t, n ≤ t → t ∉ Region.ready md ops listed) (hin : i < n)
    (hdone : ∀ listed a, L listed a → ∀ j ∈ Region.ready md ops listed, n ≤ j) :
    ∀ (f : Nat) (listed : Array Bool) (a : Act), HeadInv md ops n listed →
      (∀ j oj, ops[j]? = some oj → j ≠ i → listed.getD j true = false → (∀ e ∈ oj.after, Region.binds md e = true → e.on ≠ i) → oi.apart ops oj = true) →
      i ∈ Region.ready md ops listed → YieldsIn P ops C oi v a →
      wpAnyLQ P md ops C n L f (listed.setIfInBounds i true) (a.put oi.dst v) → wpAnyLQ P md ops C n L (f + 1) listed a := by
  intro f
  induction f with
  | zero =>
    intro listed a inv _ hr hy H
    have hun := (mem_ready.1 hr).1
    refine ⟨fun h => (by rw [h] at hr; cases hr), fun j hj => ?_⟩
    have hjn : j < n := by
      rcases Nat.lt_or_ge j n with h | h
      · exact h
      · exact absurd hj (tw listed inv i hin hun j h)
    refine ⟨hjn, ?_⟩
    by_cases hji : j = i
    · subst hji; exact hy.qOp hi H
    · have := hdone _ _ H j (ready_mono hj hji)
      omega
  | succ f ih =>
    intro listed a inv hfree hr hy H
    have hun := (mem_ready.1 hr).1
    refine ⟨fun h => (by rw [h] at hr; cases hr), fun j hj => ?_⟩
    have hjn : j < n := by
      rcases Nat.lt_or_ge j n with h | h
      · exact h
      · exact absurd hj (tw listed inv i hin hun j h)
    refine ⟨hjn, ?_⟩
    by_cases hji : j = i
    · subst hji; exact hy.qOp hi H
    · have h1 := (H.2 j (ready_mono hj hji)).2
      obtain ⟨hjun, oj, hoj, hall⟩ := mem_ready.1 hj
      have hnot : ∀ e ∈ oj.after, Region.binds md e = true → e.on ≠ i := fun e he hb heq => by
        have h1 := hall e he hb
        rw [heq, getD_both hun] at h1
        cases h1
      have h2 := qOp_put hoj (hfree j oj hoj hji hjun hnot) (fun cs b => hsel i oi cs b hi) (fun cs b => hsel j oj cs b hoj) hy h1
      have hfree' : ∀ k ok, ops[k]? = some ok → k ≠ i → (listed.setIfInBounds j true).getD k true = false →
          (∀ e ∈ ok.after, Region.binds md e = true → e.on ≠ i) → oi.apart ops ok = true := fun k ok hk hki hun hno => by
        refine hfree k ok hk hki ?_ hno
        by_cases hjk : j = k
        · subst hjk; exact hjun
        · rw [getD_set_ne true hjk] at hun; exact hun
      refine qOp_mono (fun a' h3 => ih (listed.setIfInBounds j true) a' (inv.set hj hjn) hfree' (ready_mono hr (Ne.symm hji)) h3.1 ?_) h2
      rw [Array.setIfInBounds_comm _ _ hji]
      exact h3.2
theorem firstN_ready {n : Nat} : ∀ j ∈ Region.ready md ops (firstN ops.size n), n ≤ j := fun j hj => by
  obtain ⟨hun, oj, hoj, _⟩ := mem_ready.1 hj
  have hjs : j < ops.size := (Array.getElem?_eq_some_iff.1 hoj).1
  rcases Nat.lt_or_ge j n with h | h
  · simp [firstN, hjs, h] at hun
  · exact h
theorem wpAnyLQ_lexA {n : Nat} {Lq : Act → Prop} (hsel : Region.noSelect ops = true) (hs : Region.sinkB md ops n = true) (hc : tailB md ops n = true) (hn : n < ops.size) :
    ∀ (l : List Oper) (k : Nat) (listed : Array Bool) (a : Act), (∀ j, j < l.length → l[j]? = ops[k + j]?) → k + l.length = n → HeadInv md ops n listed → (∀ j, j < k → listed.getD j false = true) →
    headB md ops l.length k listed = true → wpQuiet P ops C Lq l a →
    wpAnyLQ P md ops C n (fun listed' a' => listed' = firstN ops.size n ∧ Lq a') l.length listed a
  | [], k, listed, a, _, hk, inv, hd, _, h => by
    have : k = n := by simpa using hk
    subst this
    exact ⟨firstN_eq inv.size hd inv.tail, h⟩
  | o :: l, k, listed, a, hl, hk, inv, hd, hB, h => by
    have h0 : ops[k]? = some o := by simpa using (hl 0 (by simp)).symm
    simp only [List.length_cons, headB, Bool.and_eq_true] at hB
    obtain ⟨⟨hr, hf⟩, hB'⟩ := hB
    have hkn : k < n := by simp only [List.length_cons] at hk; omega
    have hr' : k ∈ Region.ready md ops listed := by simpa using hr
    have hst : qOp P ops C k (wpQuiet P ops C Lq l) a := by unfold qOp; simp only [h0]; exact h
    obtain ⟨v, hy, hK⟩ := yieldsIn_of_qOp h0 hst
    have hks : k < listed.size := by rw [inv.size]; omega
    exact wpAnyLQ_firstA h0 (Region.noSelect_spec hsel) (fun listed inv i hi hun => tail_waitsA hs hc hn inv _ i rfl hi hun) hkn (fun listed' a' hL => by rw [hL.1]; exact firstN_ready) l.length listed a inv (Region.free_spec h0 hf) hr' hy
      (wpAnyLQ_lexA hsel hs hc hn l (k + 1) _ _ (fun j hj => by have := hl (j + 1) (by simp; omega); simpa [Nat.add_assoc, Nat.add_comm 1 j] using this) (by simp only [List.length_cons] at hk; omega) (inv.set hr' hkn)
        (fun j hj => by
          by_cases hjk : j = k
          · subst hjk; simp [hks]
          · rw [getD_set_ne false (Ne.symm hjk)]; exact hd j (by omega)) hB' hK)

/-- QUIET FIRST, THEN WHATEVER ORDER THE OTHERS MAY COME IN. -/
theorem wp_region_headA {id : Nat} {Q : Exit → Act → World → Prop} {a : Act} {w : World} {l : List Oper} (n : Nat) (C : World → Prop) (hm : P.follows .mixedOrders = true)
    (hB : (Region.noSelect l.toArray && decide (n < l.toArray.size) && Region.sinkB .any l.toArray n && tailB .any l.toArray n && headB .any l.toArray n 0 (Array.replicate l.toArray.size false)) = true)
    (hC : C w.drew) (h : wpQuiet P l.toArray C (fun a' => ∀ w', C w' → wpAny P .any l.toArray Q (l.toArray.size - n) (firstN l.toArray.size n) a' w') (l.take n) a) : (Code.region id l.toArray true).wp P Q a w := by
  simp only [Bool.and_eq_true, decide_eq_true_eq] at hB
  obtain ⟨⟨⟨⟨hsel, hn⟩, hs⟩, hc⟩, hhead⟩ := hB
  have hn' : n < l.length := by simpa using hn
  have htl : (l.take n).length = n := by simp; omega
  have inv0 : HeadInv .any l.toArray n (Array.replicate l.toArray.size false) :=
    ⟨by simp, fun j oj _ hl => (by rw [getD_replicate_false] at hl; cases hl), fun t _ ht => getD_in (by simpa using ht) (getD_replicate_false _ _)⟩
  have H := wpAnyLQ_lexA (C := C) (md := .any) hsel hs hc hn (l.take n) 0 _ a (fun j hj => by
    have hj' : j < n := by rw [htl] at hj; exact hj
    simp [hj']) (by simpa using htl) inv0 (fun j hj => by omega) (by rw [htl]; exact hhead) h
  refine wp_region_any hm ?_
  have := wpAny_of_headQ (Q' := Q) (g := l.toArray.size - n) (fun listed a' w' hw' hL => by
    rw [hL.1]
    exact hL.2 w' hw') _ _ _ _ hC H
  rw [htl, show n + (l.toArray.size - n) = l.toArray.size by omega] at this
  exact this

/-- one step: just these may come -/
theorem wpAny_step {Q : Exit → Act → World → Prop} {f : Nat} {listed : Array Bool} {a : Act} {w : World} (r : List Nat) (hr : Region.ready md ops listed = r) (hne : r ≠ []) (h : ∀ i ∈ r, wpOp P ops Q i (wpAny P md ops Q f (listed.setIfInBounds i true)) a w) : wpAny P md ops Q (f + 1) listed a w := by
  refine ⟨fun h0 => absurd (hr.symm.trans h0) hne, fun i hi => h i (by rw [← hr]; exact hi)⟩
theorem wpAny_end {Q : Exit → Act → World → Prop} {listed : Array Bool} {a : Act} {w : World} (hr : Region.ready md ops listed = []) (h : Q .normal a w) : wpAny P md ops Q 0 listed a w := ⟨hr, h⟩
theorem wpOp_val {Q : Exit → Act → World → Prop} {i : Nat} {o : Oper} {K : Act → World → Prop} {a : Act} {w : World} (ho : ops[i]? = some o) (hw : Region.wanted o (yielded ops a.tmps) = true) {v : Value} {w' : World} (hrun : (execOp a.eval o).run P w = .ok (.value v) w') (hK : K (a.put o.dst v) w') : wpOp P ops Q i K a w := by
  unfold wpOp
  simp only [ho, hw, if_true]
  left
  unfold Oper.wp
  rw [hrun]
  exact hK
theorem wpOp_unit {Q : Exit → Act → World → Prop} {i : Nat} {o : Oper} {K : Act → World → Prop} {a : Act} {w : World} (ho : ops[i]? = some o) (hw : Region.wanted o (yielded ops a.tmps) = true) {w' : World} (hrun : (execOp a.eval o).run P w = .ok .skip w') (hK : K (a.put o.dst undef) w') : wpOp P ops Q i K a w := by
  unfold wpOp
  simp only [ho, hw, if_true]
  left
  unfold Oper.wp
  rw [hrun]
  exact hK
theorem wpOp_call {Q : Exit → Act → World → Prop} {i : Nat} {o : Oper} {K : Act → World → Prop} {a : Act} {w : World} (ho : ops[i]? = some o) (hw : Region.wanted o (yielded ops a.tmps) = true) {fn : FuncId} {args : Array Value} (hrun : (execOp a.eval o).run P w = .ok (.enter fn args) w) {R : Ending → World → Prop} (hc : Calls P fn args w R) (hK : ∀ e w', R e w' → ∃ v, e = .returned v ∧ K (a.put o.dst v) w') : wpOp P ops Q i K a w := by
  unfold wpOp
  simp only [ho, hw, if_true]
  left
  unfold Oper.wp
  rw [hrun]
  exact hc.mono fun e w' h => by
    obtain ⟨v, rfl, h2⟩ := hK e w' h
    exact h2
end
end Go
end
