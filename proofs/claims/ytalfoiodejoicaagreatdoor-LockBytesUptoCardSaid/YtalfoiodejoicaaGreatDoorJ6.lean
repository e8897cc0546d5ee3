/- RegA, RegT, SepT, joined. -/
import Derived.Test.YtalfoiodejoicaaGreatDoorJ1
import Derived.Test.YtalfoiodejoicaaGreatDoorJ3
section
namespace Go
set_option linter.unusedVariables false
set_option linter.unusedSimpArgs false

section
variable {P : Program} {ops : Array Oper} {md : Region.Mode} {C : World → Prop}

/-- each behind the first n waits for one of these that stands ahead of it -/
def tailB (md : Region.Mode) (ops : Array Oper) (n : Nat) : Bool :=
  (List.range ops.size).all fun t => decide (t ≤ n) || (List.range t).any fun j => decide (n ≤ j) && Region.waitsFor md ops t j
theorem tail_waitsA {n : Nat} {listed : Array Bool} (hs : Region.sinkB md ops n = true) (hc : tailB md ops n = true) (hn : n < ops.size) (inv : HeadInv md ops n listed) :
    ∀ (d i : Nat), n - i = d → i < n → listed.getD i true = false → ∀ t, n ≤ t → t ∉ Region.ready md ops listed := by
  intro d
  induction d using Nat.strongRecOn with
  | _ d ih =>
    intro i hd hi hun t ht hr
    obtain ⟨_, ot, hot, hall⟩ := mem_ready.1 hr
    have htlt : t < ops.size := (Array.getElem?_eq_some_iff.1 hot).1
    by_cases htn : t = n
    · subst htn
      have h1 := List.all_eq_true.1 hs i (List.mem_range.2 hi)
      obtain ⟨j, hj, hj2⟩ := List.any_eq_true.1 h1
      simp only [Bool.and_eq_true, decide_eq_true_eq] at hj2
      obtain ⟨oj, hoj, e, he, hb, hon⟩ := Region.waitsFor_spec hj2.2
      have hjle : j ≤ t := by have := List.mem_range.1 hj; omega
      by_cases hjt : j = t
      · subst hjt
        have : oj = ot := Option.some.inj (hoj.symm.trans hot)
        subst this
        have h2 := hall e he hb
        rw [hon, getD_both hun] at h2
        cases h2
      · cases hl : listed.getD j false with
        | true =>
          have h2 := inv.closed j oj hoj hl e he hb
          rw [hon, getD_both hun] at h2
          cases h2
        | false =>
          have hjs : j < listed.size := by rw [inv.size]; omega
          exact ih (t - j) (by omega) j rfl (by omega) (getD_in hjs hl) t (Nat.le_refl _) hr
    · have h1 := List.all_eq_true.1 hc t (List.mem_range.2 htlt)
      simp only [Bool.or_eq_true, decide_eq_true_eq] at h1
      rcases h1 with h1 | h1
      · omega
      · obtain ⟨j, hj, hj2⟩ := List.any_eq_true.1 h1
        simp only [Bool.and_eq_true, decide_eq_true_eq] at hj2
        obtain ⟨o', ho', e, he, hb, hon⟩ := Region.waitsFor_spec hj2.2
        have : o' = ot := Option.some.inj (ho'.symm.trans hot)
        subst this
        have h2 := hall e he hb
        have hjt := List.mem_range.1 hj
        rw [hon, getD_both (inv.tail j hj2.1 (by omega))] at h2
        cases h2

/-- the first n have come, the others have not -/
def firstN (m n : Nat) : Array Bool := ((List.range m).map fun j => decide (j < n)).toArray
theorem firstN_eq {n : Nat} {listed : Array Bool} (hsz : listed.size = ops.size) (h1 : ∀ j, j < n → listed.getD j false = true) (h2 : ∀ t, n ≤ t → t < ops.size → listed.getD t true = false) : listed = firstN ops.size n := by
  apply Array.ext
  · simp [firstN, hsz]
  · intro i hi hi2
    have e1 : (firstN ops.size n)[i] = decide (i < n) := by simp [firstN]
    rw [e1]
    by_cases h : i < n
    · have := h1 i h
      simp [hi] at this
      simp [this, h]
    · have := h2 i (by omega) (by omega)
      simp [hi] at this
      simp [this, h]
/-- the same, for the head: op after op may be taken first -/
def headB (md : Region.Mode) (ops : Array Oper) : Nat → Nat → Array Bool → Bool
  | 0, _, _ => true
  | f + 1, k, listed => ((Region.ready md ops listed).contains k && Region.free md ops listed k) && headB md ops f (k + 1) (listed.setIfInBounds k true)
theorem wpAnyLQ_firstA {n i : Nat} {oi : Oper} {v : Value} {L : Array Bool → Act → Prop} (hi : ops[i]? = some oi) (hsel : ∀ (j : Nat) (o : Oper) cs b, ops[j]? = some o → o.op ≠ .select cs b)
    (tw : ∀ listed, HeadInv md ops n listed → ∀ i, i < n → listed.getD i true = false → ∀ t, n ≤ t → t ∉ Region.ready md ops listed) (hin : i < n)
    (hdone : ∀ listed a, L listed a → ∀ j ∈ Region.ready md ops listed, n ≤ j) :
    ∀ (f : Nat) (listed : Array Bool) (a : Act), HeadInv md ops n listed →
      (∀ j oj, ops[j]? = some oj → j ≠ i → listed.getD j true = false → (∀ e ∈ oj.after, Region.binds md e = true → e.on ≠ i) → oi.apart ops oj = true) →
      i ∈ Region.ready md ops listed → YieldsIn P ops C oi v a →
      wpAnyLQ P md ops C n L f (listed.setIfInBounds i true) (a.put oi.dst v) → wpAnyLQ P md ops C n L (f + 1) listed a := by
  intro f
  induction f with
  | zero =>
    intro listed a inv _ hr hy H
    have hun := (mem_ready.1 hr).1
    refine ⟨fun h => (by rw [h] at hr; cases hr), fun j hj => ?_⟩
    have hjn : j < n := by
      rcases Nat.lt_or_ge j n with h | h
      · exact h
      · exact absurd hj (tw listed inv i hin hun j h)
    refine ⟨hjn, ?_⟩
    by_cases hji : j = i
    · subst hji; exact hy.qOp hi H
    · have := hdone _ _ H j (ready_mono hj hji)
      omega
  | succ f ih =>
    intro listed a inv hfree hr hy H
    have hun := (mem_ready.1 hr).1
    refine ⟨fun h => (by rw [h] at hr; cases hr), fun j hj => ?_⟩
    have hjn : j < n := by
      rcases Nat.lt_or_ge j n with h | h
      · exact h
      · exact absurd hj (tw listed inv i hin hun j h)
    refine ⟨hjn, ?_⟩
    by_cases hji : j = i
    · subst hji; exact hy.qOp hi H
    · have h1 := (H.2 j (ready_mono hj hji)).2
      obtain ⟨hjun, oj, hoj, hall⟩ := mem_ready.1 hj
      have hnot : ∀ e ∈ oj.after, Region.binds md e = true → e.on ≠ i := fun e he hb heq => by
        have h1 := hall e he hb
        rw [heq, getD_both hun] at h1
        cases h1
      have h2 := qOp_put hoj (hfree j oj hoj hji hjun hnot) (fun cs b => hsel i oi cs b hi) (fun cs b => hsel j oj cs b hoj) hy h1
      have hfree' : ∀ k ok, ops[k]? = some ok → k ≠ i → (listed.setIfInBounds j true).getD k true = false →
          (∀ e ∈ ok.after, Region.binds md e = true → e.on ≠ i) → oi.apart ops ok = true := fun k ok hk hki hun hno => by
        refine hfree k ok hk hki ?_ hno
        by_cases hjk : j = k
        · subst hjk; exact hjun
        · rw [getD_set_ne true hjk] at hun; exact hun
      refine qOp_mono (fun a' h3 => ih (listed.setIfInBounds j true) a' (inv.set hj hjn) hfree' (ready_mono hr (Ne.symm hji)) h3.1 ?_) h2
      rw [Array.setIfInBounds_comm _ _ hji]
      exact h3.2
theorem firstN_ready {n : Nat} : ∀ j ∈ Region.ready md ops (firstN ops.size n), n ≤ j := fun j hj => by
  obtain ⟨hun, oj, hoj, _⟩ := mem_ready.1 hj
  have hjs : j < ops.size := (Array.getElem?_eq_some_iff.1 hoj).1
  rcases Nat.lt_or_ge j n with h | h
  · simp [firstN, hjs, h] at hun
  · exact h
theorem wpAnyLQ_lexA {n : Nat} {Lq : Act → Prop} (hsel : Region.noSelect ops = true) (hs : Region.sinkB md ops n = true) (hc : tailB md ops n = true) (hn : n < ops.size) :
    ∀ (l : List Oper) (k : Nat) (listed : Array Bool) (a : Act), (∀ j, j < l.length → l[j]? = ops[k + j]?) → k + l.length = n → HeadInv md ops n listed → (∀ j, j < k → listed.getD j false = true) →
    headB md ops l.length k listed = true → wpQuiet P ops C Lq l a →
    wpAnyLQ P md ops C n (fun listed' a' => listed' = firstN ops.size n ∧ Lq a') l.length listed a
  | [], k, listed, a, _, hk, inv, hd, _, h => by
    have : k = n := by simpa using hk
    subst this
    exact ⟨firstN_eq inv.size hd inv.tail, h⟩
  | o :: l, k, listed, a, hl, hk, inv, hd, hB, h => by
    have h0 : ops[k]? = some o := by simpa using (hl 0 (by simp)).symm
    simp only [List.length_cons, headB, Bool.and_eq_true] at hB
    obtain ⟨⟨hr, hf⟩, hB'⟩ := hB
    have hkn : k < n := by simp only [List.length_cons] at hk; omega
    have hr' : k ∈ Region.ready md ops listed := by simpa using hr
    have hst : qOp P ops C k (wpQuiet P ops C Lq l) a := by unfold qOp; simp only [h0]; exact h
    obtain ⟨v, hy, hK⟩ := yieldsIn_of_qOp h0 hst
    have hks : k < listed.size := by rw [inv.size]; omega
    exact wpAnyLQ_firstA h0 (Region.noSelect_spec hsel) (fun listed inv i hi hun => tail_waitsA hs hc hn inv _ i rfl hi hun) hkn (fun listed' a' hL => by rw [hL.1]; exact firstN_ready) l.length listed a inv (Region.free_spec h0 hf) hr' hy
      (wpAnyLQ_lexA hsel hs hc hn l (k + 1) _ _ (fun j hj => by have := hl (j + 1) (by simp; omega); simpa [Nat.add_assoc, Nat.add_comm 1 j] using this) (by simp only [List.length_cons] at hk; omega) (inv.set hr' hkn)
        (fun j hj => by
          by_cases hjk : j = k
          · subst hjk; simp [hks]
          · rw [getD_set_ne false (Ne.symm hjk)]; exact hd j (by omega)) hB' hK)

/-- QUIET FIRST, THEN WHATEVER ORDER THE OTHERS MAY COME IN. -/
theorem wp_region_headA {id : Nat} {Q : Exit → Act → World → Prop} {a : Act} {w : World} {l : List Oper} (n : Nat) (C : World → Prop) (hm : P.follows .mixedOrders = true)
    (hB : (Region.noSelect l.toArray && decide (n < l.toArray.size) && Region.sinkB .any l.toArray n && tailB .any l.toArray n && headB .any l.toArray n 0 (Array.replicate l.toArray.size false)) = true)
    (hC : C w.drew) (h : wpQuiet P l.toArray C (fun a' => ∀ w', C w' → wpAny P .any l.toArray Q (l.toArray.size - n) (firstN l.toArray.size n) a' w') (l.take n) a) : (Code.region id l.toArray true).wp P Q a w := by
  simp only [Bool.and_eq_true, decide_eq_true_eq] at hB
  obtain ⟨⟨⟨⟨hsel, hn⟩, hs⟩, hc⟩, hhead⟩ := hB
  have hn' : n < l.length := by simpa using hn
  have htl : (l.take n).length = n := by simp; omega
  have inv0 : HeadInv .any l.toArray n (Array.replicate l.toArray.size false) :=
    ⟨by simp, fun j oj _ hl => (by rw [getD_replicate_false] at hl; cases hl), fun t _ ht => getD_in (by simpa using ht) (getD_replicate_false _ _)⟩
  have H := wpAnyLQ_lexA (C := C) (md := .any) hsel hs hc hn (l.take n) 0 _ a (fun j hj => by
    have hj' : j < n := by rw [htl] at hj; exact hj
    simp [hj']) (by simpa using htl) inv0 (fun j hj => by omega) (by rw [htl]; exact hhead) h
  refine wp_region_any hm ?_
  have := wpAny_of_headQ (Q' := Q) (g := l.toArray.size - n) (fun listed a' w' hw' hL => by
    rw [hL.1]
    exact hL.2 w' hw') _ _ _ _ hC H
  rw [htl, show n + (l.toArray.size - n) = l.toArray.size by omega] at this
  exact this

/-- one step: just these may come -/
theorem wpAny_step {Q : Exit → Act → World → Prop} {f : Nat} {listed : Array Bool} {a : Act} {w : World} (r : List Nat) (hr : Region.ready md ops listed = r) (hne : r ≠ []) (h : ∀ i ∈ r, wpOp P ops Q i (wpAny P md ops Q f (listed.setIfInBounds i true)) a w) : wpAny P md ops Q (f + 1) listed a w := by
  refine ⟨fun h0 => absurd (hr.symm.trans h0) hne, fun i hi => h i (by rw [← hr]; exact hi)⟩
theorem wpAny_end {Q : Exit → Act → World → Prop} {listed : Array Bool} {a : Act} {w : World} (hr : Region.ready md ops listed = []) (h : Q .normal a w) : wpAny P md ops Q 0 listed a w := ⟨hr, h⟩
theorem wpOp_val {Q : Exit → Act → World → Prop} {i : Nat} {o : Oper} {K : Act → World → Prop} {a : Act} {w : World} (ho : ops[i]? = some o) (hw : Region.wanted o (yielded ops a.tmps) = true) {v : Value} {w' : World} (hrun : (execOp a.eval o).run P w = .ok (.value v) w') (hK : K (a.put o.dst v) w') : wpOp P ops Q i K a w := by
  unfold wpOp
  simp only [ho, hw, if_true]
  left
  unfold Oper.wp
  rw [hrun]
  exact hK
theorem wpOp_unit {Q : Exit → Act → World → Prop} {i : Nat} {o : Oper} {K : Act → World → Prop} {a : Act} {w : World} (ho : ops[i]? = some o) (hw : Region.wanted o (yielded ops a.tmps) = true) {w' : World} (hrun : (execOp a.eval o).run P w = .ok .skip w') (hK : K (a.put o.dst undef) w') : wpOp P ops Q i K a w := by
  unfold wpOp
  simp only [ho, hw, if_true]
  left
  unfold Oper.wp
  rw [hrun]
  exact hK
theorem wpOp_call {Q : Exit → Act → World → Prop} {i : Nat} {o : Oper} {K : Act → World → Prop} {a : Act} {w : World} (ho : ops[i]? = some o) (hw : Region.wanted o (yielded ops a.tmps) = true) {fn : FuncId} {args : Array Value} (hrun : (execOp a.eval o).run P w = .ok (.enter fn args) w) {R : Ending → World → Prop} (hc : Calls P fn args w R) (hK : ∀ e w', R e w' → ∃ v, e = .returned v ∧ K (a.put o.dst v) w') : wpOp P ops Q i K a w := by
  unfold wpOp
  simp only [ho, hw, if_true]
  left
  unfold Oper.wp
  rw [hrun]
  exact hc.mono fun e w' h => by
    obtain ⟨v, rfl, h2⟩ := hK e w' h
    exact h2
end
end Go
end

section
namespace Go
set_option linter.unusedVariables false
set_option linter.unusedSimpArgs false

section
variable {P : Program} {ops : Array Oper} {md : Region.Mode} {C : Bool → World → Prop} {k : Nat}

/-- does operation i wait for operation k? -/
def waitsB (md : Region.Mode) (ops : Array Oper) (k : Nat) : Nat → Nat → Bool
  | 0, _ => false
  | f + 1, i => match ops[i]? with
    | some o => o.after.any fun e => Region.binds md e && (e.on == k || waitsB md ops k f e.on)
    | none => false
/-- from which class to which class an operation may lead -/
def leg (md : Region.Mode) (ops : Array Oper) (k i : Nat) (c c' : Bool) : Prop :=
  if i = k then c = false ∧ c' = true else if waitsB md ops k ops.size i = true then c = true ∧ c' = true else c = c'

/-- it yields v in the world that it got, which is of the class; or a call that hands back v and leaves a world of the class -/
def Oper.turnUpon (P : Program) (C : World → Prop) (w : World) (v : Value) : Result Next → Prop
  | .ok (.value u) w' => w' = w ∧ u = v ∧ C w
  | .ok .skip w' => w' = w ∧ v = undef ∧ C w
  | .ok (.enter f args) w' => w' = w ∧ Calls P f args w (fun e w'' => e = .returned v ∧ C w'')
  | _ => False
def Oper.turnAt (P : Program) (o : Oper) (a : Act) (C : World → Prop) (w : World) (v : Value) : Prop := Oper.turnUpon P C w v ((execOp a.eval o).run P w)
def Oper.quietL (P : Program) (o : Oper) (a : Act) (C : Bool → World → Prop) (R : Bool → Bool → Prop) (next : Act → Prop) : Prop :=
  ∃ v, (∀ c c', R c c' → ∀ w, C c w → o.turnAt P a (C c') w v) ∧ next (a.put o.dst v)

def wpQuietL (P : Program) (md : Region.Mode) (ops : Array Oper) (C : Bool → World → Prop) (k : Nat) (Q : Act → Prop) : Nat → List Oper → Act → Prop
  | _, [], a => Q a
  | n, o :: rest, a => if Region.wanted o (yielded ops a.tmps) then o.quietL P a C (leg md ops k n) (wpQuietL P md ops C k Q (n + 1) rest) else n ≠ k ∧ wpQuietL P md ops C k Q (n + 1) rest (a.put o.dst undef)
theorem wpQuietL_nil {Q : Act → Prop} {n : Nat} {a : Act} (h : Q a) : wpQuietL P md ops C k Q n [] a := h
theorem wpQuietL_step {Q : Act → Prop} {n : Nat} {a : Act} {o : Oper} {rest : List Oper}
    (h : ∀ K : Act → Prop, (∀ a, wpQuietL P md ops C k Q (n + 1) rest a → K a) → if Region.wanted o (yielded ops a.tmps) then o.quietL P a C (leg md ops k n) K else n ≠ k ∧ K (a.put o.dst undef)) : wpQuietL P md ops C k Q n (o :: rest) a := h _ (fun _ h => h)

def qOpL (P : Program) (md : Region.Mode) (ops : Array Oper) (C : Bool → World → Prop) (k i : Nat) (K : Act → Prop) (a : Act) : Prop :=
  match ops[i]? with
  | none => i ≠ k ∧ K a
  | some o => if Region.wanted o (yielded ops a.tmps) then o.quietL P a C (leg md ops k i) K else i ≠ k ∧ K (a.put o.dst undef)
theorem Oper.quietL_mono {o : Oper} {a : Act} {R : Bool → Bool → Prop} {K K' : Act → Prop} (h : ∀ a, K a → K' a) (hh : o.quietL P a C R K) : o.quietL P a C R K' :=
  let ⟨v, h1, h2⟩ := hh
  ⟨v, h1, h _ h2⟩
theorem qOpL_mono {i : Nat} {a : Act} {K K' : Act → Prop} (h : ∀ a, K a → K' a) (hh : qOpL P md ops C k i K a) : qOpL P md ops C k i K' a := by
  unfold qOpL at *
  split
  · rename_i ho
    simp only [ho] at hh
    exact ⟨hh.1, h _ hh.2⟩
  · rename_i o ho
    simp only [ho] at hh
    split
    · rename_i hw; simp only [hw, if_true] at hh; exact Oper.quietL_mono h hh
    · rename_i hw; simp only [hw] at hh; exact ⟨hh.1, h _ hh.2⟩
def YieldsL (P : Program) (md : Region.Mode) (ops : Array Oper) (C : Bool → World → Prop) (k i : Nat) (o : Oper) (v : Value) (a : Act) : Prop :=
  (Region.wanted o (yielded ops a.tmps) = true ∧ ∀ c c', leg md ops k i c c' → ∀ w, C c w → o.turnAt P a (C c') w v) ∨
  (Region.wanted o (yielded ops a.tmps) = false ∧ i ≠ k ∧ v = undef)
theorem YieldsL.qOp {i : Nat} {o : Oper} {v : Value} {a : Act} (hi : ops[i]? = some o) (hy : YieldsL P md ops C k i o v a) {K : Act → Prop} (h : K (a.put o.dst v)) : qOpL P md ops C k i K a := by
  unfold qOpL
  simp only [hi]
  rcases hy with ⟨hw, hv⟩ | ⟨hw, hik, rfl⟩
  · simp only [hw, if_true]; exact ⟨v, hv, h⟩
  · simp only [hw, Bool.false_eq_true, if_false]; exact ⟨hik, h⟩
theorem YieldsL.of_same {i : Nat} {o : Oper} {v : Value} {a a' : Act} (hy : YieldsL P md ops C k i o v a) (he : execOp a'.eval o = execOp a.eval o)
    (hw : Region.wanted o (yielded ops a'.tmps) = Region.wanted o (yielded ops a.tmps)) : YieldsL P md ops C k i o v a' := by
  unfold YieldsL Oper.turnAt at *
  rw [he, hw]
  exact hy
theorem yieldsL_of_qOp {i : Nat} {o : Oper} {a : Act} {K : Act → Prop} (hi : ops[i]? = some o) (h : qOpL P md ops C k i K a) : ∃ v, YieldsL P md ops C k i o v a ∧ K (a.put o.dst v) := by
  unfold qOpL at h
  simp only [hi] at h
  by_cases hw : Region.wanted o (yielded ops a.tmps) = true
  · simp only [hw, if_true] at h
    obtain ⟨v, h1, h2⟩ := h
    exact ⟨v, .inl ⟨hw, h1⟩, h2⟩
  · simp only [hw] at h
    exact ⟨undef, .inr ⟨by simpa using hw, h.1, rfl⟩, h.2⟩
theorem qOpL_put {i j : Nat} {oi oj : Oper} {v : Value} (hj : ops[j]? = some oj) (hap : oi.apart ops oj = true)
    (hsi : ∀ cs b, oi.op ≠ .select cs b) (hsj : ∀ cs b, oj.op ≠ .select cs b) {K : Act → Prop} {a : Act}
    (hy : YieldsL P md ops C k i oi v a) (h : qOpL P md ops C k j K (a.put oi.dst v)) :
    qOpL P md ops C k j (fun a' => YieldsL P md ops C k i oi v a' ∧ K (a'.put oi.dst v)) a := by
  obtain ⟨h1, h2, h3⟩ := Oper.apart_spec hap
  have keep : ∀ (a : Act), YieldsL P md ops C k i oi v a → ∀ u, YieldsL P md ops C k i oi v (a.put oj.dst u) := fun a hy u =>
    hy.of_same (execOp_put oi hsi a oj.dst u h3) (wanted_put oi a oj.dst u h3)
  unfold qOpL at *
  simp only [hj] at *
  rw [wanted_put oj a oi.dst v h1] at h
  split
  · rename_i hw
    simp only [hw, if_true] at h
    obtain ⟨u, hu, hn⟩ := h
    refine ⟨u, fun c c' hR w hw' => ?_, keep a hy u, by rw [← Act.put_comm a v u h2]; exact hn⟩
    have := hu c c' hR w hw'
    unfold Oper.turnAt at *
    rwa [execOp_put oj hsj a oi.dst v h1] at this
  · rename_i hw
    simp only [hw] at h
    exact ⟨h.1, keep a hy _, by rw [← Act.put_comm a v undef h2]; exact h.2⟩

/-- whoever waits for k comes behind it -/
theorem waits_listed {n : Nat} {listed : Array Bool} (inv : HeadInv md ops n listed) : ∀ (f i : Nat), waitsB md ops k f i = true → listed.getD i false = true → listed.getD k false = true
  | 0, _, h, _ => by simp [waitsB] at h
  | f + 1, i, h, hi => by
    unfold waitsB at h
    split at h
    · rename_i o ho
      obtain ⟨e, he, hb⟩ := Array.any_eq_true'.1 h
      simp only [Bool.and_eq_true, Bool.or_eq_true, beq_iff_eq] at hb
      have hl := inv.closed i o ho hi e he hb.1
      rcases hb.2 with hk | hk
      · rw [← hk]; exact hl
      · exact waits_listed inv f e.on hk hl
    · exact absurd h (by simp)
theorem waits_ready {n : Nat} {listed : Array Bool} (inv : HeadInv md ops n listed) {i : Nat} (hr : i ∈ Region.ready md ops listed) : ∀ (f : Nat), waitsB md ops k f i = true → listed.getD k false = true
  | 0, h => by simp [waitsB] at h
  | f + 1, h => by
    obtain ⟨_, oi, hoi, hall⟩ := mem_ready.1 hr
    unfold waitsB at h
    simp only [hoi] at h
    obtain ⟨e, he, hb⟩ := Array.any_eq_true'.1 h
    simp only [Bool.and_eq_true, Bool.or_eq_true, beq_iff_eq] at hb
    have hl := hall e he hb.1
    rcases hb.2 with hk | hk
    · rw [← hk]; exact hl
    · exact waits_listed inv f e.on hk hl

def wpAnyLL (P : Program) (md : Region.Mode) (ops : Array Oper) (C : Bool → World → Prop) (k n : Nat) (L : Array Bool → Act → Prop) : Nat → Array Bool → Act → Prop
  | 0, listed, a => L listed a
  | f + 1, listed, a =>
    Region.ready md ops listed ≠ [] ∧ ∀ i ∈ Region.ready md ops listed, i < n ∧ qOpL P md ops C k i (wpAnyLL P md ops C k n L f (listed.setIfInBounds i true)) a

theorem Oper.wp_of_quietL {o : Oper} {a : Act} {R : Bool → Bool → Prop} {K : Act → Prop} {K' : Act → World → Prop} {Q' : Exit → Act → World → Prop} {w : World} {c c' : Bool} (hR : R c c') (hw : C c w) (h : ∀ a w', C c' w' → K a → K' a w') (hh : o.quietL P a C R K) : o.wp P a w K' Q' := by
  obtain ⟨v, h1, h2⟩ := hh
  have h3 := h1 c c' hR w hw
  unfold Oper.turnAt at h3
  unfold Oper.wp
  generalize (execOp a.eval o).run P w = r at *
  cases r with
  | ok n w' =>
    cases n <;> simp only [Oper.turnUpon] at h3 <;> simp only [Oper.upon]
    case value u =>
      obtain ⟨e1, e2, e3⟩ := h3
      rw [e1, e2]
      exact h _ _ e3 h2
    case skip =>
      obtain ⟨e1, e2, e3⟩ := h3
      rw [e1, ← e2]
      exact h _ _ e3 h2
    case enter f args =>
      obtain ⟨e1, hc⟩ := h3
      rw [e1]
      exact hc.mono fun e w'' ⟨he, hw''⟩ => by subst he; exact h _ _ hw'' h2
  | halt x w' => simp only [Oper.turnUpon] at h3
theorem wpOp_of_qOpL {n i : Nat} {listed : Array Bool} (inv : HeadInv md ops n listed) (hr : i ∈ Region.ready md ops listed) {a : Act} {K : Act → Prop} {K' : Act → World → Prop} {Q' : Exit → Act → World → Prop} {w : World} (hC : C (listed.getD k false) w)
    (h : ∀ a w', C ((listed.setIfInBounds i true).getD k false) w' → K a → K' a w') (hh : qOpL P md ops C k i K a) : wpOp P ops Q' i K' a w := by
  have hun := (mem_ready.1 hr).1
  have his : i < listed.size := by
    rcases Nat.lt_or_ge i listed.size with q | q
    · exact q
    · rw [Array.getD_eq_getD_getElem?, Array.getElem?_eq_none q] at hun; cases hun
  have key : i ≠ k → (listed.setIfInBounds i true).getD k false = listed.getD k false := fun hne => getD_set_ne false hne
  unfold qOpL at hh
  unfold wpOp
  split
  · rename_i ho
    simp only [ho] at hh
    exact h _ _ (by rw [key hh.1]; exact hC) hh.2
  · rename_i o ho
    simp only [ho] at hh
    split
    · rename_i hw
      simp only [hw, if_true] at hh
      refine .inl (Oper.wp_of_quietL (c := listed.getD k false) (c' := (listed.setIfInBounds i true).getD k false) ?_ hC h hh)
      unfold leg
      by_cases hik : i = k
      · subst hik
        rw [if_pos rfl]
        exact ⟨getD_both hun, by simp [his]⟩
      · rw [if_neg hik, key hik]
        by_cases hwt : waitsB md ops k ops.size i = true
        · rw [if_pos hwt]
          have := waits_ready inv hr _ hwt
          exact ⟨this, this⟩
        · rw [if_neg hwt]
    · rename_i hw
      simp only [hw] at hh
      exact h _ _ (by rw [key hh.1]; exact hC) hh.2

theorem wpAny_of_headL {n g : Nat} {L : Array Bool → Act → Prop} {Q' : Exit → Act → World → Prop} (hL : ∀ listed a w, C (listed.getD k false) w → L listed a → wpAny P md ops Q' g listed a w) :
    ∀ (f : Nat) (listed : Array Bool) (a : Act) (w : World), HeadInv md ops n listed → C (listed.getD k false) w → wpAnyLL P md ops C k n L f listed a → wpAny P md ops Q' (f + g) listed a w
  | 0, listed, a, w, _, hw, h => by rw [Nat.zero_add]; exact hL _ _ _ hw h
  | f + 1, listed, a, w, inv, hw, h => by
    rw [show f + 1 + g = (f + g) + 1 by omega]
    exact ⟨fun h0 => absurd h0 h.1, fun i hi => wpOp_of_qOpL inv hi hw (fun a' w' hw' h' => wpAny_of_headL hL f _ a' w' (inv.set hi (h.2 i hi).1) hw' h') (h.2 i hi).2⟩

theorem wpAnyLL_first {n i : Nat} {oi : Oper} {v : Value} {L : Array Bool → Act → Prop} (hi : ops[i]? = some oi) (hsel : ∀ (j : Nat) (o : Oper) cs b, ops[j]? = some o → o.op ≠ .select cs b)
    (hs : Region.sinkB md ops n = true) (hc : Region.chainB md ops n = true) (hn : n < ops.size) (hin : i < n)
    (hdone : ∀ listed a, L listed a → ∀ j ∈ Region.ready md ops listed, n ≤ j) :
    ∀ (f : Nat) (listed : Array Bool) (a : Act), HeadInv md ops n listed →
      (∀ j oj, ops[j]? = some oj → j ≠ i → listed.getD j true = false → (∀ e ∈ oj.after, Region.binds md e = true → e.on ≠ i) → oi.apart ops oj = true) →
      i ∈ Region.ready md ops listed → YieldsL P md ops C k i oi v a →
      wpAnyLL P md ops C k n L f (listed.setIfInBounds i true) (a.put oi.dst v) → wpAnyLL P md ops C k n L (f + 1) listed a := by
  intro f
  induction f with
  | zero =>
    intro listed a inv _ hr hy H
    have hun := (mem_ready.1 hr).1
    refine ⟨fun h => (by rw [h] at hr; cases hr), fun j hj => ?_⟩
    have hjn : j < n := by
      rcases Nat.lt_or_ge j n with h | h
      · exact h
      · exact absurd hj (tail_waits hs hc hn inv _ i rfl hin hun j h)
    refine ⟨hjn, ?_⟩
    by_cases hji : j = i
    · subst hji; exact hy.qOp hi H
    · have := hdone _ _ H j (ready_mono hj hji)
      omega
  | succ f ih =>
    intro listed a inv hfree hr hy H
    have hun := (mem_ready.1 hr).1
    refine ⟨fun h => (by rw [h] at hr; cases hr), fun j hj => ?_⟩
    have hjn : j < n := by
      rcases Nat.lt_or_ge j n with h | h
      · exact h
      · exact absurd hj (tail_waits hs hc hn inv _ i rfl hin hun j h)
    refine ⟨hjn, ?_⟩
    by_cases hji : j = i
    · subst hji; exact hy.qOp hi H
    · have h1 := (H.2 j (ready_mono hj hji)).2
      obtain ⟨hjun, oj, hoj, hall⟩ := mem_ready.1 hj
      have hnot : ∀ e ∈ oj.after, Region.binds md e = true → e.on ≠ i := fun e he hb heq => by
        have h1 := hall e he hb
        rw [heq, getD_both hun] at h1
        cases h1
      have h2 := qOpL_put (i := i) hoj (hfree j oj hoj hji hjun hnot) (fun cs b => hsel i oi cs b hi) (fun cs b => hsel j oj cs b hoj) hy h1
      have hfree' : ∀ t ot, ops[t]? = some ot → t ≠ i → (listed.setIfInBounds j true).getD t true = false →
          (∀ e ∈ ot.after, Region.binds md e = true → e.on ≠ i) → oi.apart ops ot = true := fun t ot ht hti hun hno => by
        refine hfree t ot ht hti ?_ hno
        by_cases hjt : j = t
        · subst hjt; exact hjun
        · rw [getD_set_ne true hjt] at hun; exact hun
      refine qOpL_mono (fun a' h3 => ih (listed.setIfInBounds j true) a' (inv.set hj hjn) hfree' (ready_mono hr (Ne.symm hji)) h3.1 ?_) h2
      rw [Array.setIfInBounds_comm _ _ hji]
      exact h3.2

theorem wpAnyLL_lex {n g : Nat} {Lq : Act → Prop} (hsel : Region.noSelect ops = true) (hs : Region.sinkB md ops n = true) (hc : Region.chainB md ops n = true) (hn : n < ops.size) (hkn : k < n) :
    ∀ (l : List Oper) (t : Nat) (listed : Array Bool) (a : Act), (∀ j, j < l.length → l[j]? = ops[t + j]?) → t + l.length = n → HeadInv md ops n listed → (∀ j, j < t → listed.getD j false = true) →
    Region.lexHead md ops g l.length t listed = true → wpQuietL P md ops C k Lq t l a →
    wpAnyLL P md ops C k n (fun listed' a' => Region.seqB md ops g n listed' = true ∧ listed'.getD k false = true ∧ Lq a') l.length listed a
  | [], t, listed, a, _, ht, _, hd, hB, h => by
    have : t = n := by simpa using ht
    subst this
    exact ⟨by simpa [Region.lexHead] using hB, hd k hkn, h⟩
  | o :: l, t, listed, a, hl, ht, inv, hd, hB, h => by
    have h0 : ops[t]? = some o := by simpa using (hl 0 (by simp)).symm
    simp only [List.length_cons, Region.lexHead, Bool.and_eq_true] at hB
    obtain ⟨⟨hr, hf⟩, hB'⟩ := hB
    have htn : t < n := by simp only [List.length_cons] at ht; omega
    have hr' : t ∈ Region.ready md ops listed := by simpa using hr
    have hst : qOpL P md ops C k t (wpQuietL P md ops C k Lq (t + 1) l) a := by unfold qOpL; simp only [h0]; exact h
    obtain ⟨v, hy, hK⟩ := yieldsL_of_qOp h0 hst
    have hts : t < listed.size := by rw [inv.size]; omega
    exact wpAnyLL_first h0 (Region.noSelect_spec hsel) hs hc hn htn (fun listed' a' hL => seqB_ready hL.1) l.length listed a inv (Region.free_spec h0 hf) hr' hy
      (wpAnyLL_lex hsel hs hc hn hkn l (t + 1) _ _ (fun j hj => by have := hl (j + 1) (by simp; omega); simpa [Nat.add_assoc, Nat.add_comm 1 j] using this) (by simp only [List.length_cons] at ht; omega) (inv.set hr' htn)
        (fun j hj => by
          by_cases hjt : j = t
          · subst hjt; simp [hts]
          · rw [getD_set_ne false (Ne.symm hjt)]; exact hd j (by omega)) hB' hK)

/-- QUIET FIRST, ONE OPERATION OF IT TURNING THE WORLD, THEN A ROW. -/
theorem wp_region_turn {id : Nat} {Q : Exit → Act → World → Prop} {a : Act} {w : World} {l : List Oper} (n k : Nat) (C : Bool → World → Prop) (hm : P.follows .mixedOrders = true) (hB : Region.lexTailB .any l.toArray n = true) (hkn : k < n)
    (hC : C false w.drew) (h : wpQuietL P .any l.toArray C k (fun a' => ∀ w', C true w' → wpList P l.toArray Q (l.drop n) a' w') 0 (l.take n) a) : (Code.region id l.toArray true).wp P Q a w := by
  simp only [Region.lexTailB, Bool.and_eq_true, decide_eq_true_eq] at hB
  obtain ⟨⟨⟨⟨hsel, hn⟩, hs⟩, hc⟩, hlex⟩ := hB
  have hn' : n < l.length := by simpa using hn
  have htl : (l.take n).length = n := by simp; omega
  have hdl : (l.drop n).length = l.toArray.size - n := by simp
  have inv0 : HeadInv .any l.toArray n (Array.replicate l.toArray.size false) :=
    ⟨by simp, fun j oj _ hl => (by rw [getD_replicate_false] at hl; cases hl), fun t _ ht => getD_in (by simpa using ht) (getD_replicate_false _ _)⟩
  have H := wpAnyLL_lex (C := C) (md := .any) (g := l.toArray.size - n) hsel hs hc hn hkn (l.take n) 0 _ a (fun j hj => by
    have hj' : j < n := by rw [htl] at hj; exact hj
    simp [hj']) (by simpa using htl) inv0 (fun j hj => by omega) (by rw [htl]; exact hlex) h
  refine wp_region_any hm ?_
  have := wpAny_of_headL (Q' := Q) (g := l.toArray.size - n) (fun listed a' w' hw' hL => by
    rw [hL.2.1] at hw'
    have := wpAny_of_seq (md := .any) (Q' := Q) (l.drop n) n listed a' w' (fun j => by simp [List.getElem?_drop]) (by rw [hdl]; exact hL.1) (hL.2.2 w' hw')
    rwa [hdl] at this) _ _ _ _ inv0 (by rw [getD_replicate_false]; exact hC) H
  rw [htl, show n + (l.toArray.size - n) = l.toArray.size by omega] at this
  exact this
end
end Go
end

section
namespace Go.Proofs.YtalfoiodejoicaaGreatDoor
open Go.RowKit
set_option linter.unusedVariables false
set_option linter.unusedSimpArgs false

section
variable {P : Program} {ops : Array Oper} {rest : List Oper} {o : Oper} {a : Act} {Q : Exit → Act → World → Prop} {L0 L F : List Part} {w0 w : World} {S : Nat}
theorem wpList_box_sz {E : TypeId} {x : Operand} (hg : o.guard = none) (hop : o.op = .box E x) {v : Value} (hx : a.eval x = v) {vs : List Value} (hv : v.cells = vs.toArray) (h : At L0 w0 L w) (hS : w.heap.size = S)
    (hK : ∀ w', At L0 w0 (Part.cells S vs E :: L) w' → w'.heap.size = S + 1 → wpList P ops Q rest (a.put o.dst (.pointer (some ⟨S, 0, none⟩))) w') : wpList P ops Q (o :: rest) a w := by
  subst hS
  refine wpList_val hg ?_ (hK _ (h.alloc vs E) (by simp))
  simp [execOp, hop, hx, Instr.box, newVar, newRow, hv, Result.andThen]
theorem wpList_makeMap_sz {t : TypeId} (P : Program) (k : TypeId) (hg : o.guard = none) (hop : o.op = .makeMap t none) (h : At L0 w0 L w) (hS : w.heap.size = S)
    (hK : ∀ w', At L0 w0 (Part.map P k S [] :: L) w' → w'.heap.size = S + 1 → wpList P ops Q rest (a.put o.dst (.map (some S))) w') : wpList P ops Q (o :: rest) a w := by
  subst hS
  refine wpList_val hg ?_ (hK _ (h.new ((Ext.refl w).alloc (.map #[] 0)) _ (MapAt.made P k w) (fun _ e => by cases e; exact Nat.le_refl _)) (by simp))
  simp [execOp, hop, run_makeMap, Result.andThen]
end

section
variable {P : Program} {ops : Array Oper} {i : Nat} {o : Oper} {a : Act} {Q : Exit → Act → World → Prop} {K : Act → World → Prop} {L0 L F : List Part} {w0 w : World}
theorem wpOp_store_at {ty : TypeId} {x y : Operand} (ho : ops[i]? = some o) (hw : Region.wanted o (yielded ops a.tmps) = true) (hop : o.op = .store ty x y) {b j : Nat} (hx : a.eval x = .pointer (some ⟨b, j, none⟩)) {v : Value} (hy : a.eval y = v) {vs : List Value} (hv : v.cells = vs.toArray)
    (h : At L0 w0 L w) {c : List Value} {T : TypeId} (s : Sel (Part.cells b c T) L F) (hi : (P.info? ty).map (·.size) = some vs.length) (h1 : vs.all (·.oneCell') = true) (hj : j + vs.length ≤ c.length)
    (hK : ∀ w', At L0 w0 (Part.cells b (setL c j vs) T :: F) w' → K (a.put o.dst undef) w') : wpOp P ops Q i K a w := by
  have hb : BlockIs w b c T := h.get s
  have hs : v.cells.size = vs.length := by rw [hv]; simp
  have h1' : v.cells.all (·.oneCell') = true := by
    rw [hv, Array.all_eq_true_iff_forall_mem]
    intro u hu
    exact List.all_eq_true.1 h1 u (by simpa using hu)
  have hrun := run_storeAt_cells (P := P) w b j ty v (hb.there j _ (by omega)) (by rw [hs]; exact hi) h1'
  rw [show v.cells.toList = vs from by rw [hv]] at hrun
  refine wpOp_unit ho hw ?_ (hK _ (h.stores s j vs))
  simp [execOp, hop, hx, hy, hrun, Result.andThen]
end

/-- the class: ahead of the turn the parts L (and so many blocks), behind it the parts L' -/
def TurnC (L0 : List Part) (w0 : World) (L : List Part) (N : Nat) (L' : List Part) (c : Bool) (w : World) : Prop := if c = true then At L0 w0 L' w else At L0 w0 L w ∧ w.heap.size = N
section
variable {P : Program} {md : Region.Mode} {ops : Array Oper} {k n : Nat} {rest : List Oper} {o : Oper} {a : Act} {Q : Act → Prop} {L0 L L' : List Part} {w0 : World} {N : Nat}
theorem turnC_start {w : World} (h : At L0 w0 L w) (hN : w.heap.size = N) : TurnC L0 w0 L N L' false w.drew := by
  unfold TurnC
  rw [if_neg (by simp)]
  exact ⟨h.drew, hN⟩
theorem turnC_end {w : World} (h : TurnC L0 w0 L N L' true w) : At L0 w0 L' w := by unfold TurnC at h; rwa [if_pos rfl] at h
theorem turn_pure {C : Bool → World → Prop} (hw : Region.wanted o (yielded ops a.tmps) = true) (hnk : n ≠ k) {v : Value} (hrun : ∀ w, (execOp a.eval o).run P w = .ok (.value v) w) (hK : wpQuietL P md ops C k Q (n + 1) rest (a.put o.dst v)) :
    wpQuietL P md ops C k Q n (o :: rest) a := by
  refine wpQuietL_step fun K hh => ?_
  rw [hw]
  simp only [if_true]
  refine ⟨v, fun c c' hR w hC => ?_, hh _ hK⟩
  unfold Oper.turnAt
  rw [hrun w]
  refine ⟨rfl, rfl, ?_⟩
  unfold leg at hR
  rw [if_neg hnk] at hR
  split at hR
  · obtain ⟨rfl, rfl⟩ := hR; exact hC
  · subst hR; exact hC
/-- an operation that reads, in both classes -/
theorem turn_both (hw : Region.wanted o (yielded ops a.tmps) = true) (hnk : n ≠ k) {v : Value} (h1 : ∀ w, At L0 w0 L w → (execOp a.eval o).run P w = .ok (.value v) w) (h2 : ∀ w, At L0 w0 L' w → (execOp a.eval o).run P w = .ok (.value v) w)
    (hK : wpQuietL P md ops (TurnC L0 w0 L N L') k Q (n + 1) rest (a.put o.dst v)) : wpQuietL P md ops (TurnC L0 w0 L N L') k Q n (o :: rest) a := by
  refine wpQuietL_step fun K hh => ?_
  rw [hw]
  simp only [if_true]
  refine ⟨v, fun c c' hR w hC => ?_, hh _ hK⟩
  have hrun : (execOp a.eval o).run P w = .ok (.value v) w := by
    unfold TurnC at hC
    cases c
    · exact h1 w (by simpa using hC.1)
    · exact h2 w (by simpa using hC)
  unfold Oper.turnAt
  rw [hrun]
  refine ⟨rfl, rfl, ?_⟩
  unfold leg at hR
  rw [if_neg hnk] at hR
  split at hR
  · obtain ⟨rfl, rfl⟩ := hR; exact hC
  · subst hR; exact hC
/-- an operation that waits for the turn -/
theorem turn_wait (hw : Region.wanted o (yielded ops a.tmps) = true) (hnk : n ≠ k) (hwt : waitsB md ops k ops.size n = true) {v : Value} (h2 : ∀ w, At L0 w0 L' w → (execOp a.eval o).run P w = .ok (.value v) w)
    (hK : wpQuietL P md ops (TurnC L0 w0 L N L') k Q (n + 1) rest (a.put o.dst v)) : wpQuietL P md ops (TurnC L0 w0 L N L') k Q n (o :: rest) a := by
  refine wpQuietL_step fun K hh => ?_
  rw [hw]
  simp only [if_true]
  refine ⟨v, fun c c' hR w hC => ?_, hh _ hK⟩
  unfold leg at hR
  rw [if_neg hnk, if_pos hwt] at hR
  obtain ⟨rfl, rfl⟩ := hR
  unfold Oper.turnAt
  rw [h2 w (turnC_end hC)]
  exact ⟨rfl, rfl, hC⟩
/-- the turn: a call -/
theorem turn_call (hw : Region.wanted o (yielded ops a.tmps) = true) (hnk : n = k) {v : Value} {f : FuncId} {args : Array Value} (hrun : ∀ w, (execOp a.eval o).run P w = .ok (.enter f args) w)
    (hc : ∀ w, At L0 w0 L w → w.heap.size = N → Calls P f args w fun e w' => e = .returned v ∧ At L0 w0 L' w')
    (hK : wpQuietL P md ops (TurnC L0 w0 L N L') k Q (n + 1) rest (a.put o.dst v)) : wpQuietL P md ops (TurnC L0 w0 L N L') k Q n (o :: rest) a := by
  refine wpQuietL_step fun K hh => ?_
  rw [hw]
  simp only [if_true]
  refine ⟨v, fun c c' hR w hC => ?_, hh _ hK⟩
  unfold leg at hR
  rw [if_pos hnk] at hR
  obtain ⟨rfl, rfl⟩ := hR
  unfold Oper.turnAt
  rw [hrun w]
  unfold TurnC at hC
  simp only [Bool.false_eq_true, if_false] at hC
  refine ⟨rfl, (hc w hC.1 hC.2).mono fun e w' ⟨he, h⟩ => ⟨he, ?_⟩⟩
  unfold TurnC
  rw [if_pos rfl]
  exact h
end
end Go.Proofs.YtalfoiodejoicaaGreatDoor
end
