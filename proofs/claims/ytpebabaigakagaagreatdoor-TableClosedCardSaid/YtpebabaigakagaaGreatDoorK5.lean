/- RegA, SepT, Base4, Row, Row2, joined. -/
import Derived.Test.YtpebabaigakagaaGreatDoorK1
import Derived.Test.YtpebabaigakagaaGreatDoorK4
import Derived.Test.YtpebabaigakagaaGreatDoorK2
import Derived.Test.YtpebabaigakagaaGreatDoorK0
import Derived.Maps.AppendAt
import Derived.Deep.AppendLies
section
namespace Go
set_option linter.unusedVariables false
set_option linter.unusedSimpArgs false

section
variable {P : Program} {ops : Array Oper} {md : Region.Mode} {C : World → Prop}

/-- each behind the first n waits for one of these that stands ahead of it -/
def tailB (md : Region.Mode) (ops : Array Oper) (n : Nat) : Bool :=
  (List.range ops.size).all fun t => decide (t ≤ n) || (List.range t).any fun j => decide (n ≤ j) && Region.waitsFor md ops t j
theorem tail_waitsA {n : Nat} {listed : Array Bool} (hs : Region.sinkB md ops n = true) (hc : tailB md ops n = true) (hn : n < ops.size) (inv : HeadInv md ops n listed) :
    ∀ (d i : Nat), n - i = d → i < n → listed.getD i true = false → ∀ t, n ≤ t → t ∉ Region.ready md ops listed := by
  intro d
  induction d using Nat.strongRecOn with
  | _ d ih =>
    intro i hd hi hun t ht hr
    obtain ⟨_, ot, hot, hall⟩ := mem_ready.1 hr
    have htlt : t < ops.size := (Array.getElem?_eq_some_iff.1 hot).1
    by_cases htn : t = n
    · subst htn
      have h1 := List.all_eq_true.1 hs i (List.mem_range.2 hi)
      obtain ⟨j, hj, hj2⟩ := List.any_eq_true.1 h1
      simp only [Bool.and_eq_true, decide_eq_true_eq] at hj2
      obtain ⟨oj, hoj, e, he, hb, hon⟩ := Region.waitsFor_spec hj2.2
      have hjle : j ≤ t := by have := List.mem_range.1 hj; omega
      by_cases hjt : j = t
      · subst hjt
        have : oj = ot := Option.some.inj (hoj.symm.trans hot)
        subst this
        have h2 := hall e he hb
        rw [hon, getD_both hun] at h2
        cases h2
      · cases hl : listed.getD j false with
        | true =>
          have h2 := inv.closed j oj hoj hl e he hb
          rw [hon, getD_both hun] at h2
          cases h2
        | false =>
          have hjs : j < listed.size := by rw [inv.size]; omega
          exact ih (t - j) (by omega) j rfl (by omega) (getD_in hjs hl) t (Nat.le_refl _) hr
    · have h1 := List.all_eq_true.1 hc t (List.mem_range.2 htlt)
      simp only [Bool.or_eq_true, decide_eq_true_eq] at h1
      rcases h1 with h1 | h1
      · omega
      · obtain ⟨j, hj, hj2⟩ := List.any_eq_true.1 h1
        simp only [Bool.and_eq_true, decide_eq_true_eq] at hj2
        obtain ⟨o', ho', e, he, hb, hon⟩ := Region.waitsFor_spec hj2.2
        have : o' = ot := Option.some.inj (ho'.symm.trans hot)
        subst this
        have h2 := hall e he hb
        have hjt := List.mem_range.1 hj
        rw [hon, getD_both (inv.tail j hj2.1 (by omega))] at h2
        cases h2

/-- the first n have come, the others have not -/
def firstN (m n : Nat) : Array Bool := ((List.range m).map fun j => decide (j < n)).toArray
theorem firstN_eq {n : Nat} {listed : Array Bool} (hsz : listed.size = ops.size) (h1 : ∀ j, j < n → listed.getD j false = true) (h2 : ∀ t, n ≤ t → t < ops.size → listed.getD t true = false) : listed = firstN ops.size n := by
  apply Array.ext
  · simp [firstN, hsz]
  · intro i hi hi2
    have e1 : (firstN ops.size n)[i] = decide (i < n) := by simp [firstN]
    rw [e1]
    by_cases h : i < n
    · have := h1 i h
      simp [hi] at this
      simp [this, h]
    · have := h2 i (by omega) (by omega)
      simp [hi] at this
      simp [this, h]
/-- the same, for the head: op after op may be taken first -/
def headB (md : Region.Mode) (ops : Array Oper) : Nat → Nat → Array Bool → Bool
  | 0, _, _ => true
  | f + 1, k, listed => ((Region.ready md ops listed).contains k && Region.free md ops listed k) && headB md ops f (k + 1) (listed.setIfInBounds k true)
theorem wpAnyLQ_firstA {n i : Nat} {oi : Oper} {v : Value} {L : Array Bool → Act → Prop} (hi : ops[i]? = some oi) (hsel : ∀ (j : Nat) (o : Oper) cs b, ops[j]? = some o → o.op ≠ .select cs b)
    (tw : ∀ listed, HeadInv md ops n listed → ∀ i, i < n → listed.getD i true = false → ∀ t, n ≤ t → t ∉ Region.ready md ops listed) (hin : i < n)
    (hdone : ∀ listed a, L listed a → ∀ j ∈ Region.ready md ops listed, n ≤ j) :
    ∀ (f : Nat) (listed : Array Bool) (a : Act), HeadInv md ops n listed →
      (∀ j oj, ops[j]? = some oj → j ≠ i → listed.getD j true = false → (∀ e ∈ oj.after, Region.binds md e = true → e.on ≠ i) → oi.apart ops oj = true) →
      i ∈ Region.ready md ops listed → YieldsIn P ops C oi v a →
      wpAnyLQ P md ops C n L f (listed.setIfInBounds i true) (a.put oi.dst v) → wpAnyLQ P md ops C n L (f + 1) listed a := by
  intro f
  induction f with
  | zero =>
    intro listed a inv _ hr hy H
    have hun := (mem_ready.1 hr).1
    refine ⟨fun h => (by rw [h] at hr; cases hr), fun j hj => ?_⟩
    have hjn : j < n := by
      rcases Nat.lt_or_ge j n with h | h
      · exact h
      · exact absurd hj (tw listed inv i hin hun j h)
    refine ⟨hjn, ?_⟩
    by_cases hji : j = i
    · subst hji; exact hy.qOp hi H
    · have := hdone _ _ H j (ready_mono hj hji)
      omega
  | succ f ih =>
    intro listed a inv hfree hr hy H
    have hun := (mem_ready.1 hr).1
    refine ⟨fun h => (by rw [h] at hr; cases hr), fun j hj => ?_⟩
    have hjn : j < n := by
      rcases Nat.lt_or_ge j n with h | h
      · exact h
      · exact absurd hj (tw listed inv i hin hun j h)
    refine ⟨hjn, ?_⟩
    by_cases hji : j = i
    · subst hji; exact hy.qOp hi H
    · have h1 := (H.2 j (ready_mono hj hji)).2
      obtain ⟨hjun, oj, hoj, hall⟩ := mem_ready.1 hj
      have hnot : ∀ e ∈ oj.after, Region.binds md e = true → e.on ≠ i := fun e he hb heq => by
        have h1 := hall e he hb
        rw [heq, getD_both hun] at h1
        cases h1
      have h2 := qOp_put hoj (hfree j oj hoj hji hjun hnot) (fun cs b => hsel i oi cs b hi) (fun cs b => hsel j oj cs b hoj) hy h1
      have hfree' : ∀ k ok, ops[k]? = some ok → k ≠ i → (listed.setIfInBounds j true).getD k true = false →
          (∀ e ∈ ok.after, Region.binds md e = true → e.on ≠ i) → oi.apart ops ok = true := fun k ok hk hki hun hno => by
        refine hfree k ok hk hki ?_ hno
        by_cases hjk : j = k
        · subst hjk; exact hjun
        · rw [getD_set_ne true hjk] at hun; exact hun
      refine qOp_mono (fun a' h3 => ih (listed.setIfInBounds j true) a' (inv.set hj hjn) hfree' (ready_mono hr (Ne.symm hji)) h3.1 ?_) h2
      rw [Array.setIfInBounds_comm _ _ hji]
      exact h3.2
theorem firstN_ready {n : Nat} : ∀ j ∈ Region.ready md ops (firstN ops.size n), n ≤ j := fun j hj => by
  obtain ⟨hun, oj, hoj, _⟩ := mem_ready.1 hj
  have hjs : j < ops.size := (Array.getElem?_eq_some_iff.1 hoj).1
  rcases Nat.lt_or_ge j n with h | h
  · simp [firstN, hjs, h] at hun
  · exact h
theorem wpAnyLQ_lexA {n : Nat} {Lq : Act → Prop} (hsel : Region.noSelect ops = true) (hs : Region.sinkB md ops n = true) (hc : tailB md ops n = true) (hn : n < ops.size) :
    ∀ (l : List Oper) (k : Nat) (listed : Array Bool) (a : Act), (∀ j, j < l.length → l[j]? = ops[k + j]?) → k + l.length = n → HeadInv md ops n listed → (∀ j, j < k → listed.getD j false = true) →
    headB md ops l.length k listed = true → wpQuiet P ops C Lq l a →
    wpAnyLQ P md ops C n (fun listed' a' => listed' = firstN ops.size n ∧ Lq a') l.length listed a
  | [], k, listed, a, _, hk, inv, hd, _, h => by
    have : k = n := by simpa using hk
    subst this
    exact ⟨firstN_eq inv.size hd inv.tail, h⟩
  | o :: l, k, listed, a, hl, hk, inv, hd, hB, h => by
    have h0 : ops[k]? = some o := by simpa using (hl 0 (by simp)).symm
    simp only [List.length_cons, headB, Bool.and_eq_true] at hB
    obtain ⟨⟨hr, hf⟩, hB'⟩ := hB
    have hkn : k < n := by simp only [List.length_cons] at hk; omega
    have hr' : k ∈ Region.ready md ops listed := by simpa using hr
    have hst : qOp P ops C k (wpQuiet P ops C Lq l) a := by unfold qOp; simp only [h0]; exact h
    obtain ⟨v, hy, hK⟩ := yieldsIn_of_qOp h0 hst
    have hks : k < listed.size := by rw [inv.size]; omega
    exact wpAnyLQ_firstA h0 (Region.noSelect_spec hsel) (fun listed inv i hi hun => tail_waitsA hs hc hn inv _ i rfl hi hun) hkn (fun listed' a' hL => by rw [hL.1]; exact firstN_ready) l.length listed a inv (Region.free_spec h0 hf) hr' hy
      (wpAnyLQ_lexA hsel hs hc hn l (k + 1) _ _ (fun j hj => by have := hl (j + 1) (by simp; omega); simpa [Nat.add_assoc, Nat.add_comm 1 j] using this) (by simp only [List.length_cons] at hk; omega) (inv.set hr' hkn)
        (fun j hj => by
          by_cases hjk : j = k
          · subst hjk; simp [hks]
          · rw [getD_set_ne false (Ne.symm hjk)]; exact hd j (by omega)) hB' hK)

/-- QUIET FIRST, THEN WHATEVER ORDER THE OTHERS MAY COME IN. -/
theorem wp_region_headA {id : Nat} {Q : Exit → Act → World → Prop} {a : Act} {w : World} {l : List Oper} (n : Nat) (C : World → Prop) (hm : P.follows .mixedOrders = true)
    (hB : (Region.noSelect l.toArray && decide (n < l.toArray.size) && Region.sinkB .any l.toArray n && tailB .any l.toArray n && headB .any l.toArray n 0 (Array.replicate l.toArray.size false)) = true)
    (hC : C w.drew) (h : wpQuiet P l.toArray C (fun a' => ∀ w', C w' → wpAny P .any l.toArray Q (l.toArray.size - n) (firstN l.toArray.size n) a' w') (l.take n) a) : (Code.region id l.toArray true).wp P Q a w := by
  simp only [Bool.and_eq_true, decide_eq_true_eq] at hB
  obtain ⟨⟨⟨⟨hsel, hn⟩, hs⟩, hc⟩, hhead⟩ := hB
  have hn' : n < l.length := by simpa using hn
  have htl : (l.take n).length = n := by simp; omega
  have inv0 : HeadInv .any l.toArray n (Array.replicate l.toArray.size false) :=
    ⟨by simp, fun j oj _ hl => (by rw [getD_replicate_false] at hl; cases hl), fun t _ ht => getD_in (by simpa using ht) (getD_replicate_false _ _)⟩
  have H := wpAnyLQ_lexA (C := C) (md := .any) hsel hs hc hn (l.take n) 0 _ a (fun j hj => by
    have hj' : j < n := by rw [htl] at hj; exact hj
    simp [hj']) (by simpa using htl) inv0 (fun j hj => by omega) (by rw [htl]; exact hhead) h
  refine wp_region_any hm ?_
  have := wpAny_of_headQ (Q' := Q) (g := l.toArray.size - n) (fun listed a' w' hw' hL => by
    rw [hL.1]
    exact hL.2 w' hw') _ _ _ _ hC H
  rw [htl, show n + (l.toArray.size - n) = l.toArray.size by omega] at this
  exact this

/-- one step: just these may come -/
theorem wpAny_step {Q : Exit → Act → World → Prop} {f : Nat} {listed : Array Bool} {a : Act} {w : World} (r : List Nat) (hr : Region.ready md ops listed = r) (hne : r ≠ []) (h : ∀ i ∈ r, wpOp P ops Q i (wpAny P md ops Q f (listed.setIfInBounds i true)) a w) : wpAny P md ops Q (f + 1) listed a w := by
  refine ⟨fun h0 => absurd (hr.symm.trans h0) hne, fun i hi => h i (by rw [← hr]; exact hi)⟩
theorem wpAny_end {Q : Exit → Act → World → Prop} {listed : Array Bool} {a : Act} {w : World} (hr : Region.ready md ops listed = []) (h : Q .normal a w) : wpAny P md ops Q 0 listed a w := ⟨hr, h⟩
theorem wpOp_val {Q : Exit → Act → World → Prop} {i : Nat} {o : Oper} {K : Act → World → Prop} {a : Act} {w : World} (ho : ops[i]? = some o) (hw : Region.wanted o (yielded ops a.tmps) = true) {v : Value} {w' : World} (hrun : (execOp a.eval o).run P w = .ok (.value v) w') (hK : K (a.put o.dst v) w') : wpOp P ops Q i K a w := by
  unfold wpOp
  simp only [ho, hw, if_true]
  left
  unfold Oper.wp
  rw [hrun]
  exact hK
theorem wpOp_unit {Q : Exit → Act → World → Prop} {i : Nat} {o : Oper} {K : Act → World → Prop} {a : Act} {w : World} (ho : ops[i]? = some o) (hw : Region.wanted o (yielded ops a.tmps) = true) {w' : World} (hrun : (execOp a.eval o).run P w = .ok .skip w') (hK : K (a.put o.dst undef) w') : wpOp P ops Q i K a w := by
  unfold wpOp
  simp only [ho, hw, if_true]
  left
  unfold Oper.wp
  rw [hrun]
  exact hK
theorem wpOp_call {Q : Exit → Act → World → Prop} {i : Nat} {o : Oper} {K : Act → World → Prop} {a : Act} {w : World} (ho : ops[i]? = some o) (hw : Region.wanted o (yielded ops a.tmps) = true) {fn : FuncId} {args : Array Value} (hrun : (execOp a.eval o).run P w = .ok (.enter fn args) w) {R : Ending → World → Prop} (hc : Calls P fn args w R) (hK : ∀ e w', R e w' → ∃ v, e = .returned v ∧ K (a.put o.dst v) w') : wpOp P ops Q i K a w := by
  unfold wpOp
  simp only [ho, hw, if_true]
  left
  unfold Oper.wp
  rw [hrun]
  exact hc.mono fun e w' h => by
    obtain ⟨v, rfl, h2⟩ := hK e w' h
    exact h2
end
end Go
end

section
namespace Go.Proofs.YtpebabaigakagaaGreatDoor
open Go.RowKit
set_option linter.unusedVariables false
set_option linter.unusedSimpArgs false

section
variable {P : Program} {ops : Array Oper} {rest : List Oper} {o : Oper} {a : Act} {Q : Exit → Act → World → Prop} {L0 L F : List Part} {w0 w : World} {S : Nat}
theorem wpList_box_sz {E : TypeId} {x : Operand} (hg : o.guard = none) (hop : o.op = .box E x) {v : Value} (hx : a.eval x = v) {vs : List Value} (hv : v.cells = vs.toArray) (h : At L0 w0 L w) (hS : w.heap.size = S)
    (hK : ∀ w', At L0 w0 (Part.cells S vs E :: L) w' → w'.heap.size = S + 1 → wpList P ops Q rest (a.put o.dst (.pointer (some ⟨S, 0, none⟩))) w') : wpList P ops Q (o :: rest) a w := by
  subst hS
  refine wpList_val hg ?_ (hK _ (h.alloc vs E) (by simp))
  simp [execOp, hop, hx, Instr.box, newVar, newRow, hv, Result.andThen]
theorem wpList_makeMap_sz {t : TypeId} (P : Program) (k : TypeId) (hg : o.guard = none) (hop : o.op = .makeMap t none) (h : At L0 w0 L w) (hS : w.heap.size = S)
    (hK : ∀ w', At L0 w0 (Part.map P k S [] :: L) w' → w'.heap.size = S + 1 → wpList P ops Q rest (a.put o.dst (.map (some S))) w') : wpList P ops Q (o :: rest) a w := by
  subst hS
  refine wpList_val hg ?_ (hK _ (h.new ((Ext.refl w).alloc (.map #[] 0)) _ (MapAt.made P k w) (fun _ e => by cases e; exact Nat.le_refl _)) (by simp))
  simp [execOp, hop, run_makeMap, Result.andThen]
end

section
variable {P : Program} {ops : Array Oper} {i : Nat} {o : Oper} {a : Act} {Q : Exit → Act → World → Prop} {K : Act → World → Prop} {L0 L F : List Part} {w0 w : World}
theorem wpOp_store_at {ty : TypeId} {x y : Operand} (ho : ops[i]? = some o) (hw : Region.wanted o (yielded ops a.tmps) = true) (hop : o.op = .store ty x y) {b j : Nat} (hx : a.eval x = .pointer (some ⟨b, j, none⟩)) {v : Value} (hy : a.eval y = v) {vs : List Value} (hv : v.cells = vs.toArray)
    (h : At L0 w0 L w) {c : List Value} {T : TypeId} (s : Sel (Part.cells b c T) L F) (hi : (P.info? ty).map (·.size) = some vs.length) (h1 : vs.all (·.oneCell') = true) (hj : j + vs.length ≤ c.length)
    (hK : ∀ w', At L0 w0 (Part.cells b (setL c j vs) T :: F) w' → K (a.put o.dst undef) w') : wpOp P ops Q i K a w := by
  have hb : BlockIs w b c T := h.get s
  have hs : v.cells.size = vs.length := by rw [hv]; simp
  have h1' : v.cells.all (·.oneCell') = true := by
    rw [hv, Array.all_eq_true_iff_forall_mem]
    intro u hu
    exact List.all_eq_true.1 h1 u (by simpa using hu)
  have hrun := run_storeAt_cells (P := P) w b j ty v (hb.there j _ (by omega)) (by rw [hs]; exact hi) h1'
  rw [show v.cells.toList = vs from by rw [hv]] at hrun
  refine wpOp_unit ho hw ?_ (hK _ (h.stores s j vs))
  simp [execOp, hop, hx, hy, hrun, Result.andThen]
end

/-- the class: ahead of the turn the parts L (and so many blocks), behind it the parts L' -/
def TurnC (L0 : List Part) (w0 : World) (L : List Part) (N : Nat) (L' : List Part) (c : Bool) (w : World) : Prop := if c = true then At L0 w0 L' w else At L0 w0 L w ∧ w.heap.size = N
section
variable {P : Program} {md : Region.Mode} {ops : Array Oper} {k n : Nat} {rest : List Oper} {o : Oper} {a : Act} {Q : Act → Prop} {L0 L L' : List Part} {w0 : World} {N : Nat}
theorem turnC_start {w : World} (h : At L0 w0 L w) (hN : w.heap.size = N) : TurnC L0 w0 L N L' false w.drew := by
  unfold TurnC
  rw [if_neg (by simp)]
  exact ⟨h.drew, hN⟩
theorem turnC_end {w : World} (h : TurnC L0 w0 L N L' true w) : At L0 w0 L' w := by unfold TurnC at h; rwa [if_pos rfl] at h
theorem turn_pure {C : Bool → World → Prop} (hw : Region.wanted o (yielded ops a.tmps) = true) (hnk : n ≠ k) {v : Value} (hrun : ∀ w, (execOp a.eval o).run P w = .ok (.value v) w) (hK : wpQuietL P md ops C k Q (n + 1) rest (a.put o.dst v)) :
    wpQuietL P md ops C k Q n (o :: rest) a := by
  refine wpQuietL_step fun K hh => ?_
  rw [hw]
  simp only [if_true]
  refine ⟨v, fun c c' hR w hC => ?_, hh _ hK⟩
  unfold Oper.turnAt
  rw [hrun w]
  refine ⟨rfl, rfl, ?_⟩
  unfold leg at hR
  rw [if_neg hnk] at hR
  split at hR
  · obtain ⟨rfl, rfl⟩ := hR; exact hC
  · subst hR; exact hC
/-- an operation that reads, in both classes -/
theorem turn_both (hw : Region.wanted o (yielded ops a.tmps) = true) (hnk : n ≠ k) {v : Value} (h1 : ∀ w, At L0 w0 L w → (execOp a.eval o).run P w = .ok (.value v) w) (h2 : ∀ w, At L0 w0 L' w → (execOp a.eval o).run P w = .ok (.value v) w)
    (hK : wpQuietL P md ops (TurnC L0 w0 L N L') k Q (n + 1) rest (a.put o.dst v)) : wpQuietL P md ops (TurnC L0 w0 L N L') k Q n (o :: rest) a := by
  refine wpQuietL_step fun K hh => ?_
  rw [hw]
  simp only [if_true]
  refine ⟨v, fun c c' hR w hC => ?_, hh _ hK⟩
  have hrun : (execOp a.eval o).run P w = .ok (.value v) w := by
    unfold TurnC at hC
    cases c
    · exact h1 w (by simpa using hC.1)
    · exact h2 w (by simpa using hC)
  unfold Oper.turnAt
  rw [hrun]
  refine ⟨rfl, rfl, ?_⟩
  unfold leg at hR
  rw [if_neg hnk] at hR
  split at hR
  · obtain ⟨rfl, rfl⟩ := hR; exact hC
  · subst hR; exact hC
/-- an operation that waits for the turn -/
theorem turn_wait (hw : Region.wanted o (yielded ops a.tmps) = true) (hnk : n ≠ k) (hwt : waitsB md ops k ops.size n = true) {v : Value} (h2 : ∀ w, At L0 w0 L' w → (execOp a.eval o).run P w = .ok (.value v) w)
    (hK : wpQuietL P md ops (TurnC L0 w0 L N L') k Q (n + 1) rest (a.put o.dst v)) : wpQuietL P md ops (TurnC L0 w0 L N L') k Q n (o :: rest) a := by
  refine wpQuietL_step fun K hh => ?_
  rw [hw]
  simp only [if_true]
  refine ⟨v, fun c c' hR w hC => ?_, hh _ hK⟩
  unfold leg at hR
  rw [if_neg hnk, if_pos hwt] at hR
  obtain ⟨rfl, rfl⟩ := hR
  unfold Oper.turnAt
  rw [h2 w (turnC_end hC)]
  exact ⟨rfl, rfl, hC⟩
/-- the turn: a call -/
theorem turn_call (hw : Region.wanted o (yielded ops a.tmps) = true) (hnk : n = k) {v : Value} {f : FuncId} {args : Array Value} (hrun : ∀ w, (execOp a.eval o).run P w = .ok (.enter f args) w)
    (hc : ∀ w, At L0 w0 L w → w.heap.size = N → Calls P f args w fun e w' => e = .returned v ∧ At L0 w0 L' w')
    (hK : wpQuietL P md ops (TurnC L0 w0 L N L') k Q (n + 1) rest (a.put o.dst v)) : wpQuietL P md ops (TurnC L0 w0 L N L') k Q n (o :: rest) a := by
  refine wpQuietL_step fun K hh => ?_
  rw [hw]
  simp only [if_true]
  refine ⟨v, fun c c' hR w hC => ?_, hh _ hK⟩
  unfold leg at hR
  rw [if_pos hnk] at hR
  obtain ⟨rfl, rfl⟩ := hR
  unfold Oper.turnAt
  rw [hrun w]
  unfold TurnC at hC
  simp only [Bool.false_eq_true, if_false] at hC
  refine ⟨rfl, (hc w hC.1 hC.2).mono fun e w' ⟨he, h⟩ => ⟨he, ?_⟩⟩
  unfold TurnC
  rw [if_pos rfl]
  exact h
end
end Go.Proofs.YtpebabaigakagaaGreatDoor
end

section
namespace Go.Proofs.YtpebabaigakagaaGreatDoor
open Go.RowKit
set_option linter.unusedVariables false
set_option linter.unusedSimpArgs false

section
variable {P : Program}
theorem run_append_none (w : World) (base : Nat) (t ty e : TypeId) (i : TypeInfo) (size : Nat) (ht : P.underlying t = some (.slice e)) (hi : P.info? e = some i)
    (v : Value) (n : Nat) (xs : List Value) (hown : w.ownsRow base e size v n xs) (c : Nat) :
    (Builtin.append_ #[t, t] ty #[v, .slice none 0 c]).run P w = .ok v w := by
  rcases hown.2 with ⟨rfl, rfl⟩ | ⟨g, cap, cur, rfl, hbg, hg, hnc, hcm, hcs, htake⟩
  · simp [Builtin.append_, run_underlying ht, sizeOf, typeInfo, hi, Builtin.lenOf, Builtin.firstCells]
  · simp [Builtin.append_, run_underlying ht, sizeOf, typeInfo, hi, Builtin.lenOf, Builtin.firstCells, hnc, storeCells]
/-- a row that is read: its cells -/
def Reads (w : World) (x : Value) (m : Nat) (news : List Value) : Prop :=
  ∃ ax c, x = .slice ax m c ∧ (ax = none → m = 0) ∧ ∀ j u, news[j]? = some u → ∃ b off, ax = some ⟨b, off, none⟩ ∧ w.cell? ⟨b, off + j, none⟩ = some u
theorem run_append_all (w : World) (base : Nat) (t ty e : TypeId) (i : TypeInfo) (z : Value) (size bytes : Nat) (ht : P.underlying t = some (.slice e)) (hi : P.info? e = some i) (hz : i.zero = some z)
    (hsize : i.size = size) (hby : i.bytes = bytes) (hzs : z.cells.size = size) (hsz : 0 < size)
    (v : Value) (n : Nat) (xs : List Value) (hown : w.ownsRow base e size v n xs)
    (x : Value) (m : Nat) (news : List Value) (hl : news.length = m * size) (hx : Reads w x m news) (h1 : ∀ u ∈ news, u.oneCell' = true)
    (h63 : n + m ≤ maxLen) (hbytes : (n + m) * bytes ≤ 140737488355328) (hbase : base ≤ w.heap.size) :
    ∃ v' w', (Builtin.append_ #[t, t] ty #[v, x]).run P w = .ok v' w' ∧ w'.ownsRow base e size v' (n + m) (xs ++ news) ∧ w.grownBy w' v.ownBlock ∧
      (v'.ownBlock = v.ownBlock ∨ v'.ownBlock = some w.heap.size) := by
  obtain ⟨ax, c, rfl, hax, hnews⟩ := hx
  cases ax with
  | none =>
    have hm : m = 0 := hax rfl
    subst hm
    have hn : news = [] := List.eq_nil_of_length_eq_zero (by simpa using hl)
    subst hn
    exact ⟨v, w, run_append_none w base t ty e i size ht hi v n xs hown c, by simpa using hown, ⟨rfl, rfl, rfl, Nat.le_refl _, fun _ _ _ => rfl⟩, .inl rfl⟩
  | some ad =>
    obtain ⟨v', w', h1, h2, h3, _, h5⟩ := run_append_own_at (P := P) w base t ty e i z size bytes ht hi hz hsize hby hzs hsz v n xs hown ad m c news hl (fun j u hj => by
      obtain ⟨b', off', e', hc⟩ := hnews j u hj
      cases e'
      rw [Addr.add_lit]
      exact hc) h1 h63 hbytes hbase
    exact ⟨v', w', h1, h2, h3, h5⟩
theorem wp_append_all (w : World) {o : Oper} {a : Act} {K : Act → World → Prop} {Q : Exit → Act → World → Prop} (s x : Operand) (t : TypeId)
    (ho : o.op = .call { callee := .builtin .append, args := #[s, x], argTypes := #[t, t] })
    (base : Nat) (e : TypeId) (i : TypeInfo) (z : Value) (size bytes : Nat) (ht : P.underlying t = some (.slice e)) (hi : P.info? e = some i) (hz : i.zero = some z)
    (hsize : i.size = size) (hby : i.bytes = bytes) (hzs : z.cells.size = size) (hsz : 0 < size)
    (v : Value) (n : Nat) (xs : List Value) (hs : a.eval s = v) (hown : w.ownsRow base e size v n xs)
    (xv : Value) (m : Nat) (news : List Value) (hxv : a.eval x = xv) (hl : news.length = m * size) (hx : Reads w xv m news) (h1 : ∀ u ∈ news, u.oneCell' = true)
    (h63 : n + m ≤ maxLen) (hbytes : (n + m) * bytes ≤ 140737488355328) (hbase : base ≤ w.heap.size)
    (h : ∀ v' w', w'.ownsRow base e size v' (n + m) (xs ++ news) → w.grownBy w' v.ownBlock → (v'.ownBlock = v.ownBlock ∨ v'.ownBlock = some w.heap.size) → K (a.put o.dst v') w') : o.wp P a w K Q := by
  obtain ⟨v', w', hr, h2, h3, h4⟩ := run_append_all (P := P) w base t o.type e i z size bytes ht hi hz hsize hby hzs hsz v n xs hown xv m news hl hx h1 h63 hbytes hbase
  unfold Oper.wp execOp
  simp only [ho, resolve, invoke, builtin, Sem.run_bind, Sem.run_pure, Result.andThen_ok, List.map_toArray, List.map_cons, List.map_nil, hs, hxv, hr]
  exact h v' w' h2 h3 h4
theorem wpList_append_all (w : World) {ops : Array Oper} {rest : List Oper} {o : Oper} {a : Act} {Q : Exit → Act → World → Prop} (hgd : o.guard = none) (s x : Operand) (t : TypeId)
    (ho : o.op = .call { callee := .builtin .append, args := #[s, x], argTypes := #[t, t] })
    (base : Nat) (e : TypeId) (i : TypeInfo) (z : Value) (size bytes : Nat) (ht : P.underlying t = some (.slice e)) (hi : P.info? e = some i) (hz : i.zero = some z)
    (hsize : i.size = size) (hby : i.bytes = bytes) (hzs : z.cells.size = size) (hsz : 0 < size)
    (v : Value) (n : Nat) (xs : List Value) (hs : a.eval s = v) (hown : w.ownsRow base e size v n xs)
    (xv : Value) (m : Nat) (news : List Value) (hxv : a.eval x = xv) (hl : news.length = m * size) (hx : Reads w xv m news) (h1 : ∀ u ∈ news, u.oneCell' = true)
    (h63 : n + m ≤ maxLen) (hbytes : (n + m) * bytes ≤ 140737488355328) (hbase : base ≤ w.heap.size)
    (h : ∀ v' w', w'.ownsRow base e size v' (n + m) (xs ++ news) → w.grownBy w' v.ownBlock → (v'.ownBlock = v.ownBlock ∨ v'.ownBlock = some w.heap.size) → wpList P ops Q rest (a.put o.dst v') w') : wpList P ops Q (o :: rest) a w :=
  wpList_plain hgd fun _ hK => wp_append_all w s x t ho base e i z size bytes ht hi hz hsize hby hzs hsz v n xs hs hown xv m news hxv hl hx h1 h63 hbytes hbase fun v' w' h2 h3 h4 => hK _ _ (h v' w' h2 h3 h4)
theorem step_append_all (w : World) {ops : Array Oper} {o : Oper} {a : Act} {K : Act → World → Prop} {Q : Exit → Act → World → Prop} {E : Prop} (hgd : o.guard = none) (s x : Operand) (t : TypeId)
    (ho : o.op = .call { callee := .builtin .append, args := #[s, x], argTypes := #[t, t] })
    (base : Nat) (e : TypeId) (i : TypeInfo) (z : Value) (size bytes : Nat) (ht : P.underlying t = some (.slice e)) (hi : P.info? e = some i) (hz : i.zero = some z)
    (hsize : i.size = size) (hby : i.bytes = bytes) (hzs : z.cells.size = size) (hsz : 0 < size)
    (v : Value) (n : Nat) (xs : List Value) (hs : a.eval s = v) (hown : w.ownsRow base e size v n xs)
    (xv : Value) (m : Nat) (news : List Value) (hxv : a.eval x = xv) (hl : news.length = m * size) (hx : Reads w xv m news) (h1 : ∀ u ∈ news, u.oneCell' = true)
    (h63 : n + m ≤ maxLen) (hbytes : (n + m) * bytes ≤ 140737488355328) (hbase : base ≤ w.heap.size)
    (h : ∀ v' w', w'.ownsRow base e size v' (n + m) (xs ++ news) → w.grownBy w' v.ownBlock → (v'.ownBlock = v.ownBlock ∨ v'.ownBlock = some w.heap.size) → K (a.put o.dst v') w') :
    if Region.wanted o (yielded ops a.tmps) = true then Oper.wp P o a w K Q else E := by
  have hw : Region.wanted o (yielded ops a.tmps) = true := by simp [Region.wanted, hgd]
  rw [if_pos hw]
  exact wp_append_all w s x t ho base e i z size bytes ht hi hz hsize hby hzs hsz v n xs hs hown xv m news hxv hl hx h1 h63 hbytes hbase h
end

theorem own_reads {w : World} {base : Nat} {T : TypeId} {size : Nat} {v : Value} {n : Nat} {xs : List Value} (h : w.ownsRow base T size v n xs) : Reads w v n xs := by
  rcases h.2 with ⟨rfl, rfl⟩ | ⟨g, cap, cur, rfl, _⟩
  · have : xs = [] := List.eq_nil_of_length_eq_zero (by simpa using h.1)
    subst this
    exact ⟨none, 0, rfl, fun _ => rfl, fun j u hj => by simp at hj⟩
  · refine ⟨some ⟨g, 0, none⟩, cap, rfl, nofun, fun j u hj => ⟨g, 0, rfl, ?_⟩⟩
    have := h.cells (g := g) rfl j u hj
    rw [Addr.add_lit] at this
    exact this
theorem Reads.ext {w w' : World} {x : Value} {m : Nat} {news : List Value} (h : Reads w x m news) (e : Ext w w') : Reads w' x m news := by
  obtain ⟨ax, c, hx, ha, hn⟩ := h
  refine ⟨ax, c, hx, ha, fun j u hj => ?_⟩
  obtain ⟨b, off, h1, h2⟩ := hn j u hj
  exact ⟨b, off, h1, e.cell_of h2⟩
theorem Reads.new (w : World) (c : List Value) (T : TypeId) (m cap : Nat) : Reads (w.alloc (.cells c.toArray T)) (.slice (some ⟨w.heap.size, 0, none⟩) m cap) m c := by
  refine ⟨_, _, rfl, nofun, fun j u hj => ⟨_, 0, rfl, ?_⟩⟩
  rw [Nat.zero_add]
  exact ((BlockIs.alloc w c T).cell j).trans hj
/-- a new row without elements -/
theorem own_new0 (w : World) (T : TypeId) (size : Nat) : (w.alloc (.cells #[] T)).ownsRow w.heap.size T size (.slice (some ⟨w.heap.size, 0, none⟩) 0 0) 0 [] :=
  ⟨by simp, .inr ⟨w.heap.size, 0, #[], rfl, Nat.le_refl _, heap_alloc_new w _, Nat.le_refl _, Nat.zero_le _, by simp, by simp⟩⟩
theorem own_base {w : World} {base b : Nat} {T : TypeId} {size : Nat} {v : Value} {n : Nat} {xs : List Value} (h : w.ownsRow base T size v n xs) (hb : b ≤ base) : w.ownsRow b T size v n xs := by
  obtain ⟨h1, h2 | ⟨g, cap, cur, hv, hg, r⟩⟩ := h
  · exact ⟨h1, .inl h2⟩
  · exact ⟨h1, .inr ⟨g, cap, cur, hv, Nat.le_trans hb hg, r⟩⟩
theorem own_ge {w : World} {base : Nat} {T : TypeId} {size : Nat} {v : Value} {n : Nat} {xs : List Value} (h : w.ownsRow base T size v n xs) (g : Nat) (hg : v.ownBlock = some g) : base ≤ g := by
  rcases h.2 with ⟨rfl, _⟩ | ⟨q, cap, cur, rfl, hb, _⟩
  · exact nomatch hg
  · cases hg
    exact hb
theorem own_ext {w w' : World} {base : Nat} {T : TypeId} {size : Nat} {v : Value} {n : Nat} {xs : List Value} (h : w.ownsRow base T size v n xs) (e : Ext w w') : w'.ownsRow base T size v n xs := by
  rcases h.2 with h2 | ⟨g, cap, cur, hv, hg, hh, r⟩
  · exact ⟨h.1, .inl h2⟩
  · refine ⟨h.1, .inr ⟨g, cap, cur, hv, hg, ?_, r⟩⟩
    have hlt : g < w.heap.size := by
      rcases Nat.lt_or_ge g w.heap.size with q | q
      · exact q
      · rw [Array.getElem?_eq_none q] at hh; cases hh
    rw [Below.block e g hlt]
    exact hh
end Go.Proofs.YtpebabaigakagaaGreatDoor
end

section
namespace Go.Proofs.YtpebabaigakagaaGreatDoor
open Go.RowKit
set_option linter.unusedVariables false
set_option linter.unusedSimpArgs false

/-- a slice that owns its row -/
def Part.row (e : TypeId) (size : Nat) (v : Value) (n : Nat) (xs : List Value) : Part where
  holds w := w.ownsRow 0 e size v n xs
  foot b := v.ownBlock = some b
  lt := fun w h b hb => by
    rcases h.2 with ⟨rfl, _⟩ | ⟨g, cap, cur, rfl, _, hh, _⟩
    · exact nomatch hb
    · cases hb
      exact lt_of_some hh
  stay := fun w w' h q => by
    rcases h.2 with h2 | ⟨g, cap, cur, hv, hg, hh, r⟩
    · exact ⟨h.1, .inl h2⟩
    · exact ⟨h.1, .inr ⟨g, cap, cur, hv, hg, (q g (by rw [hv]; rfl)).trans hh, r⟩⟩
theorem facts_row (e : TypeId) (size : Nat) (v : Value) (n : Nat) (xs : List Value) (w : World) : (Part.row e size v n xs).facts w = True := rfl
theorem exc_grown {w w' : World} {row : Option Nat} (h : w.grownBy w' row) : Exc (fun k => row = some k) w w' := by
  obtain ⟨h1, h2, h3, h4, h5⟩ := h
  exact ⟨h1, h2, h3, h4, fun k hk hn => h5 k hk (fun e => hn e.symm)⟩

section
variable {P : Program} {ops : Array Oper} {rest : List Oper} {o : Oper} {a : Act} {Q : Exit → Act → World → Prop} {L0 L F : List Part} {w0 w : World} {e : TypeId} {size n : Nat} {v : Value} {xs : List Value}

theorem At.row_form (h : At L0 w0 L w) (s : Sel (Part.row e size v n xs) L F) : ∃ ax cap, v = .slice ax n cap ∧ (ax = none → n = 0) ∧ n ≤ cap ∧ xs.length = n * size := by
  have hr : w.ownsRow 0 e size v n xs := h.get s
  rcases hr.2 with ⟨rfl, rfl⟩ | ⟨g, cap, cur, rfl, _, _, hc, _⟩
  · exact ⟨none, 0, rfl, fun _ => rfl, Nat.le_refl _, hr.1⟩
  · exact ⟨_, cap, rfl, nofun, hc, hr.1⟩
theorem At.row_open {ax : Option Addr} {cap : Nat} (h : At L0 w0 L w) (s : Sel (Part.row e size (.slice ax n cap) n xs) L F) (hn : 0 < n) :
    ∃ g c, ax = some ⟨g, 0, none⟩ ∧ n ≤ cap ∧ cap ≤ maxLen ∧ c.length = cap * size ∧ c.take (n * size) = xs ∧ At L0 w0 (Part.cells g c e :: F) w := by
  have hr : w.ownsRow 0 e size (.slice ax n cap) n xs := h.get s
  rcases hr.2 with ⟨hv, rfl⟩ | ⟨g, cap', cur, hv, _, hh, hc, hm, hs, ht⟩
  · omega
  · cases hv
    exact ⟨g, cur.toList, rfl, hc, hm, by simpa using hs, ht, h.turn s (Part.cells g cur.toList e) (show BlockIs w g _ e from (by unfold BlockIs; simpa using hh)) (fun b hb => .inl (by cases hb; rfl)) (Exc.refl _ _)⟩
theorem At.row_shut {g cap : Nat} {c : List Value} (h : At L0 w0 L w) (s : Sel (Part.cells g c e) L F) (hl : c.length = cap * size) (hn : n ≤ cap) (hm : cap ≤ maxLen) (ht : c.take (n * size) = xs) :
    At L0 w0 (Part.row e size (.slice (some ⟨g, 0, none⟩) n cap) n xs :: F) w := by
  subst ht
  exact h.turn s (Part.row e size (.slice (some ⟨g, 0, none⟩) n cap) n (c.take (n * size))) (own_of (h.get s : BlockIs w g c e) hl hn hm) (fun b hb => .inl (by simp [Part.row, Value.ownBlock] at hb; exact hb.symm)) (Exc.refl _ _)
theorem At.row_nil (h : At L0 w0 L w) (e : TypeId) (size : Nat) : At L0 w0 (Part.row e size (.slice none 0 0) 0 [] :: L) w :=
  h.new (Ext.refl w) _ ⟨by simp, .inl ⟨rfl, rfl⟩⟩ (fun b hb => nomatch hb)
theorem At.row_new {w' : World} (h : At L0 w0 L w) (hx : Ext w w') (ho : w'.ownsRow w.heap.size e size v n xs) : At L0 w0 (Part.row e size v n xs :: L) w' :=
  h.new hx _ (own_base ho (Nat.zero_le _)) (fun b hb => own_ge ho b hb)
theorem At.row_reads (h : At L0 w0 L w) (s : Sel (Part.row e size v n xs) L F) : Reads w v n xs := own_reads (h.get s : w.ownsRow 0 e size v n xs)
theorem At.cells_reads {b : Nat} {c : List Value} {T : TypeId} (h : At L0 w0 L w) (s : Sel (Part.cells b c T) L F) (m cap : Nat) : Reads w (.slice (some ⟨b, 0, none⟩) m cap) m c :=
  ⟨_, _, rfl, nofun, fun j u hj => ⟨b, 0, rfl, by rw [Nat.zero_add]; exact ((h.get s : BlockIs w b c T).cell j).trans hj⟩⟩
/-- a row of rows of cells, taken by cells -/
theorem flat_at {α : Type} (enc : α → List Value) (size : Nat) (hs : ∀ x, (enc x).length = size) : ∀ (l : List α) (k : Nat) (x : α), l[k]? = some x → ∀ j, j < size → (l.flatMap enc)[k * size + j]? = (enc x)[j]?
  | y :: l, 0, x, hx, j, hj => by
    simp at hx; subst hx
    rw [List.flatMap_cons, Nat.zero_mul, Nat.zero_add, List.getElem?_append_left (by rw [hs]; exact hj)]
  | y :: l, k + 1, x, hx, j, hj => by
    rw [List.flatMap_cons, List.getElem?_append_right (by rw [hs, Nat.add_mul]; omega), hs, show (k + 1) * size + j - size = k * size + j by rw [Nat.add_mul]; omega]
    exact flat_at enc size hs l k x (by simpa using hx) j hj
  | [], k, x, hx, j, hj => by simp at hx
theorem flat_len {α : Type} (enc : α → List Value) (size : Nat) (hs : ∀ x, (enc x).length = size) : ∀ (l : List α), (l.flatMap enc).length = l.length * size
  | [] => by simp
  | x :: l => by rw [List.flatMap_cons, List.length_append, flat_len enc size hs l, hs, List.length_cons, Nat.add_mul]; omega
theorem cells_at {α : Type} {enc : α → List Value} {size : Nat} (hs : ∀ x, (enc x).length = size) {c : List Value} {l : List α} (ht : c.take (l.length * size) = l.flatMap enc) {k : Nat} {x : α} (hx : l[k]? = some x) (j : Nat) (hj : j < size) : c[k * size + j]? = (enc x)[j]? := by
  rw [← flat_at enc size hs l k x hx j hj, ← ht, List.getElem?_take_of_lt]
  have := (List.getElem?_eq_some_iff.1 hx).1
  calc k * size + j < k * size + size := by omega
    _ = (k + 1) * size := by rw [Nat.add_mul]; omega
    _ ≤ _ := Nat.mul_le_mul_right _ this

/-- append of a row that is read -/
theorem wpList_append_at {i : TypeInfo} {z : Value} {bytes : Nat} (hg : o.guard = none) (s' x : Operand) (t : TypeId) (ho : o.op = .call { callee := .builtin .append, args := #[s', x], argTypes := #[t, t] })
    (ht : P.underlying t = some (.slice e)) (hi : P.info? e = some i) (hz : i.zero = some z) (hsize : i.size = size) (hby : i.bytes = bytes) (hzs : z.cells.size = size) (hsz : 0 < size)
    (h : At L0 w0 L w) (s : Sel (Part.row e size v n xs) L F) (hs : a.eval s' = v) {xv : Value} {m : Nat} {news : List Value} (hxv : a.eval x = xv) (hl : news.length = m * size) (hx : Reads w xv m news) (h1 : ∀ u ∈ news, u.oneCell' = true)
    (h63 : n + m ≤ maxLen) (hbytes : (n + m) * bytes ≤ 140737488355328)
    (hK : ∀ v' w', At L0 w0 (Part.row e size v' (n + m) (xs ++ news) :: F) w' → wpList P ops Q rest (a.put o.dst v') w') : wpList P ops Q (o :: rest) a w :=
  wpList_append_all w hg s' x t ho 0 e i z size bytes ht hi hz hsize hby hzs hsz v n xs hs (h.get s) xv m news hxv hl hx h1 h63 hbytes (Nat.zero_le _) fun v' w' h2 h3 h4 =>
    hK v' w' (h.turn s _ h2 (fun b hb => by
      rcases h4 with h4 | h4
      · exact .inl (show v.ownBlock = some b from by rw [← h4]; exact hb)
      · right
        have hb' : v'.ownBlock = some b := hb
        rw [h4] at hb'
        cases hb'
        exact Nat.le_refl _) (exc_grown h3))
/-- a row of one element is laid -/
theorem wpList_one_at {t : TypeId} {x : Operand} (hg : o.guard = none) (hop : o.op = .buildSlice t 1 #[(0, x)]) {xv : Value} (hx : a.eval x = xv) {vs : List Value}
    (hrun : ∀ w, (Instr.buildSlice t 1 #[(0, xv)]).run P w = .ok (.slice (some ⟨w.heap.size, 0, none⟩) 1 1) (w.alloc (.cells vs.toArray e)))
    (h : At L0 w0 L w)
    (hK : ∀ b w', At L0 w0 (Part.cells b vs e :: L) w' → w0.heap.size ≤ b → wpList P ops Q rest (a.put o.dst (.slice (some ⟨b, 0, none⟩) 1 1)) w') : wpList P ops Q (o :: rest) a w := by
  refine wpList_val hg ?_ (hK _ _ (h.alloc vs e) h.size)
  simp [execOp, hop, hx, hrun, Result.andThen]
end
end Go.Proofs.YtpebabaigakagaaGreatDoor
end
section
namespace Go.Proofs.YtpebabaigakagaaGreatDoor
open Go
theorem fZ : type_of% fA ∧ type_of% @facts_row ∧ (∀ p : Prop, (p ∧ True) = p) ∧ (∀ p : Prop, (True ∧ p) = p) := ⟨fA, @facts_row, and_true, true_and⟩
end Go.Proofs.YtpebabaigakagaaGreatDoor
end

section
namespace Go.Proofs.YtpebabaigakagaaGreatDoor
open Go.RowKit
set_option linter.unusedVariables false
set_option linter.unusedSimpArgs false

section
variable {P : Program} {ops : Array Oper} {rest : List Oper} {o : Oper} {a : Act} {Q : Exit → Act → World → Prop} {w : World} {e : TypeId} {size n : Nat} {v : Value} {xs : List Value}
theorem own_form {base : Nat} (h : w.ownsRow base e size v n xs) : ∃ ax cap, v = .slice ax n cap ∧ n ≤ cap ∧ cap ≤ maxLen ∧ xs.length = n * size ∧ (ax = none ∧ n = 0 ∧ cap = 0 ∨ ∃ g, ax = some ⟨g, 0, none⟩ ∧ ∀ j u, xs[j]? = some u → w.cell? ⟨g, j, none⟩ = some u) := by
  rcases h.2 with ⟨rfl, rfl⟩ | ⟨g, cap, cur, rfl, hb, hh, hc, hm, hs, ht⟩
  · exact ⟨none, 0, rfl, Nat.le_refl _, Nat.zero_le _, h.1, .inl ⟨rfl, rfl, rfl⟩⟩
  · refine ⟨_, cap, rfl, hc, hm, h.1, .inr ⟨g, rfl, fun j u hj => ?_⟩⟩
    have := h.cells (g := g) rfl j u hj
    rw [Addr.add_lit, Nat.zero_add] at this
    exact this
theorem run_slice_to {t : TypeId} {i : TypeInfo} (ht : P.underlying t = some (.slice e)) (hi : P.info? e = some i) (hsize : i.size = size) (hr : w.ownsRow 0 e size v n xs) (k : Nat) (hk : k ≤ n) :
    ∃ xv, (Instr.sliceAt t v none (some (.int .i64 k)) none).run P w = .ok xv w ∧ Reads w xv k (xs.take (k * size)) := by
  obtain ⟨ax, cap, rfl, hc, hm, hl, hx⟩ := own_form hr
  have hz : ∀ w, (sizeOf e).run P w = .ok size w := fun w => by simp [sizeOf, typeInfo, hi, hsize]
  refine ⟨.slice (if cap = 0 then ax else ax.map (·.add (0 * size))) k cap, ?_, ?_⟩
  · simp [Instr.sliceAt, Instr.slice, run_underlying ht, Instr.sliceBounds, run_sliceBound, hz, Result.andThen, show (k : Int) ≤ cap by omega]
  · rcases hx with ⟨rfl, rfl, rfl⟩ | ⟨g, rfl, hcell⟩
    · have : xs = [] := List.eq_nil_of_length_eq_zero (by simpa using hl)
      subst this
      exact ⟨_, _, rfl, fun _ => by omega, fun j u hj => by simp at hj⟩
    · refine ⟨_, _, rfl, ?_, fun j u hj => ⟨g, 0, ?_, ?_⟩⟩
      · intro h; split at h <;> simp at h
      · split <;> simp [Addr.add]
      · rw [Nat.zero_add]
        rw [List.getElem?_take] at hj
        split at hj
        · exact hcell j u hj
        · exact nomatch hj
theorem run_slice_from {t : TypeId} {i : TypeInfo} (ht : P.underlying t = some (.slice e)) (hi : P.info? e = some i) (hsize : i.size = size) (hr : w.ownsRow 0 e size v n xs) (k : Nat) (hk : k ≤ n) :
    ∃ xv, (Instr.sliceAt t v (some (.int .i64 k)) none none).run P w = .ok xv w ∧ Reads w xv (n - k) (xs.drop (k * size)) := by
  obtain ⟨ax, cap, rfl, hc, hm, hl, hx⟩ := own_form hr
  have hz : ∀ w, (sizeOf e).run P w = .ok size w := fun w => by simp [sizeOf, typeInfo, hi, hsize]
  refine ⟨.slice (if cap = k then ax else ax.map (·.add (k * size))) (n - k) (cap - k), ?_, ?_⟩
  · simp [Instr.sliceAt, Instr.slice, run_underlying ht, Instr.sliceBounds, run_sliceBound, hz, Result.andThen, show (k : Int) ≤ n by omega]
  · rcases hx with ⟨rfl, rfl, rfl⟩ | ⟨g, rfl, hcell⟩
    · have : xs = [] := List.eq_nil_of_length_eq_zero (by simpa using hl)
      subst this
      exact ⟨_, _, rfl, fun _ => by omega, fun j u hj => by simp at hj⟩
    · refine ⟨_, _, rfl, ?_, fun j u hj => ⟨g, if cap = k then 0 else k * size, ?_, ?_⟩⟩
      · intro h; split at h <;> simp at h
      · split
        · rfl
        · rw [Option.map_some, Addr.add_lit, Nat.zero_add]
      · have hjl := (List.getElem?_eq_some_iff.1 hj).1
        rw [List.length_drop, hl] at hjl
        have hne : cap ≠ k := by
          intro h
          have : n = k := by omega
          subst this
          omega
        rw [if_neg hne]
        rw [List.getElem?_drop] at hj
        exact hcell _ u hj
theorem wpList_slice_to {t : TypeId} {i : TypeInfo} {x hi' : Operand} {k : Nat} (hg : o.guard = none) (hop : o.op = .slice t x none (some hi') none) (ht : P.underlying t = some (.slice e)) (hi : P.info? e = some i) (hsize : i.size = size) (hx : a.eval x = v) (hh : a.eval hi' = .int .i64 k)
    (hr : w.ownsRow 0 e size v n xs) (hk : k ≤ n) (hK : ∀ xv, Reads w xv k (xs.take (k * size)) → wpList P ops Q rest (a.put o.dst xv) w) : wpList P ops Q (o :: rest) a w := by
  obtain ⟨xv, h1, h2⟩ := run_slice_to (P := P) ht hi hsize hr k hk
  refine wpList_val hg ?_ (hK xv h2)
  simp [execOp, hop, hx, hh, h1, Result.andThen]
theorem wpList_slice_from {t : TypeId} {i : TypeInfo} {x lo : Operand} {k : Nat} (hg : o.guard = none) (hop : o.op = .slice t x (some lo) none none) (ht : P.underlying t = some (.slice e)) (hi : P.info? e = some i) (hsize : i.size = size) (hx : a.eval x = v) (hh : a.eval lo = .int .i64 k)
    (hr : w.ownsRow 0 e size v n xs) (hk : k ≤ n) (hK : ∀ xv, Reads w xv (n - k) (xs.drop (k * size)) → wpList P ops Q rest (a.put o.dst xv) w) : wpList P ops Q (o :: rest) a w := by
  obtain ⟨xv, h1, h2⟩ := run_slice_from (P := P) ht hi hsize hr k hk
  refine wpList_val hg ?_ (hK xv h2)
  simp [execOp, hop, hx, hh, h1, Result.andThen]
end
end Go.Proofs.YtpebabaigakagaaGreatDoor
end
