/- RegC, LockLa, joined. -/
import Derived.Test.YtalfoiodejoicaaGreatDoorJ10
import Derived.Test.YtalfoiodejoicaaGreatDoorJ6
import Derived.Test.YtalfoiodejoicaaGreatDoorJ17
import Derived.Test.YtalfoiodejoicaaGreatDoorJ20
section
namespace Go
set_option linter.unusedVariables false
set_option linter.unusedSimpArgs false

section
variable {P : Program} {ops : Array Oper} {md : Region.Mode} {ι : Type} {D : ι → Bool → World → Prop} {k : Nat}
def Oper.quietG (P : Program) (o : Oper) (a : Act) (D : ι → Bool → World → Prop) (R : Bool → Bool → Prop) (next : Act → Prop) : Prop :=
  ∃ v, (∀ i c c', R c c' → ∀ w, D i c w → o.turnAt P a (D i c') w v) ∧ next (a.put o.dst v)
def wpQuietG (P : Program) (md : Region.Mode) (ops : Array Oper) (D : ι → Bool → World → Prop) (k : Nat) (Q : Act → Prop) : Nat → List Oper → Act → Prop
  | _, [], a => Q a
  | n, o :: rest, a => if Region.wanted o (yielded ops a.tmps) then o.quietG P a D (leg md ops k n) (wpQuietG P md ops D k Q (n + 1) rest) else n ≠ k ∧ wpQuietG P md ops D k Q (n + 1) rest (a.put o.dst undef)
def qOpG (P : Program) (md : Region.Mode) (ops : Array Oper) (D : ι → Bool → World → Prop) (k i : Nat) (K : Act → Prop) (a : Act) : Prop :=
  match ops[i]? with
  | none => i ≠ k ∧ K a
  | some o => if Region.wanted o (yielded ops a.tmps) then o.quietG P a D (leg md ops k i) K else i ≠ k ∧ K (a.put o.dst undef)
theorem Oper.quietG_mono {o : Oper} {a : Act} {R : Bool → Bool → Prop} {K K' : Act → Prop} (h : ∀ a, K a → K' a) (hh : o.quietG P a D R K) : o.quietG P a D R K' :=
  let ⟨v, h1, h2⟩ := hh
  ⟨v, h1, h _ h2⟩
theorem qOpG_mono {i : Nat} {a : Act} {K K' : Act → Prop} (h : ∀ a, K a → K' a) (hh : qOpG P md ops D k i K a) : qOpG P md ops D k i K' a := by
  unfold qOpG at *
  split
  · rename_i ho
    simp only [ho] at hh
    exact ⟨hh.1, h _ hh.2⟩
  · rename_i o ho
    simp only [ho] at hh
    split
    · rename_i hw; simp only [hw, if_true] at hh; exact Oper.quietG_mono h hh
    · rename_i hw; simp only [hw] at hh; exact ⟨hh.1, h _ hh.2⟩
def YieldsG (P : Program) (md : Region.Mode) (ops : Array Oper) (D : ι → Bool → World → Prop) (k i : Nat) (o : Oper) (v : Value) (a : Act) : Prop :=
  (Region.wanted o (yielded ops a.tmps) = true ∧ ∀ j c c', leg md ops k i c c' → ∀ w, D j c w → o.turnAt P a (D j c') w v) ∨
  (Region.wanted o (yielded ops a.tmps) = false ∧ i ≠ k ∧ v = undef)
theorem YieldsG.qOp {i : Nat} {o : Oper} {v : Value} {a : Act} (hi : ops[i]? = some o) (hy : YieldsG P md ops D k i o v a) {K : Act → Prop} (h : K (a.put o.dst v)) : qOpG P md ops D k i K a := by
  unfold qOpG
  simp only [hi]
  rcases hy with ⟨hw, hv⟩ | ⟨hw, hik, rfl⟩
  · simp only [hw, if_true]; exact ⟨v, hv, h⟩
  · simp only [hw, Bool.false_eq_true, if_false]; exact ⟨hik, h⟩
theorem YieldsG.of_same {i : Nat} {o : Oper} {v : Value} {a a' : Act} (hy : YieldsG P md ops D k i o v a) (he : execOp a'.eval o = execOp a.eval o)
    (hw : Region.wanted o (yielded ops a'.tmps) = Region.wanted o (yielded ops a.tmps)) : YieldsG P md ops D k i o v a' := by
  unfold YieldsG Oper.turnAt at *
  rw [he, hw]
  exact hy
theorem yieldsG_of_qOp {i : Nat} {o : Oper} {a : Act} {K : Act → Prop} (hi : ops[i]? = some o) (h : qOpG P md ops D k i K a) : ∃ v, YieldsG P md ops D k i o v a ∧ K (a.put o.dst v) := by
  unfold qOpG at h
  simp only [hi] at h
  by_cases hw : Region.wanted o (yielded ops a.tmps) = true
  · simp only [hw, if_true] at h
    obtain ⟨v, h1, h2⟩ := h
    exact ⟨v, .inl ⟨hw, h1⟩, h2⟩
  · simp only [hw] at h
    exact ⟨undef, .inr ⟨by simpa using hw, h.1, rfl⟩, h.2⟩
theorem qOpG_put {i j : Nat} {oi oj : Oper} {v : Value} (hj : ops[j]? = some oj) (hap : oi.apart ops oj = true)
    (hsi : ∀ cs b, oi.op ≠ .select cs b) (hsj : ∀ cs b, oj.op ≠ .select cs b) {K : Act → Prop} {a : Act}
    (hy : YieldsG P md ops D k i oi v a) (h : qOpG P md ops D k j K (a.put oi.dst v)) :
    qOpG P md ops D k j (fun a' => YieldsG P md ops D k i oi v a' ∧ K (a'.put oi.dst v)) a := by
  obtain ⟨h1, h2, h3⟩ := Oper.apart_spec hap
  have keep : ∀ (a : Act), YieldsG P md ops D k i oi v a → ∀ u, YieldsG P md ops D k i oi v (a.put oj.dst u) := fun a hy u =>
    hy.of_same (execOp_put oi hsi a oj.dst u h3) (wanted_put oi a oj.dst u h3)
  unfold qOpG at *
  simp only [hj] at *
  rw [wanted_put oj a oi.dst v h1] at h
  split
  · rename_i hw
    simp only [hw, if_true] at h
    obtain ⟨u, hu, hn⟩ := h
    refine ⟨u, fun t c c' hR w hw' => ?_, keep a hy u, by rw [← Act.put_comm a v u h2]; exact hn⟩
    have := hu t c c' hR w hw'
    unfold Oper.turnAt at *
    rwa [execOp_put oj hsj a oi.dst v h1] at this
  · rename_i hw
    simp only [hw] at h
    exact ⟨h.1, keep a hy _, by rw [← Act.put_comm a v undef h2]; exact h.2⟩

def wpAnyG (P : Program) (md : Region.Mode) (ops : Array Oper) (D : ι → Bool → World → Prop) (k n : Nat) (L : Array Bool → Act → Prop) : Nat → Array Bool → Act → Prop
  | 0, listed, a => L listed a
  | f + 1, listed, a => (∃ i ∈ Region.ready md ops listed, i < n) ∧ ∀ i ∈ Region.ready md ops listed, i ≠ n → i < n ∧ qOpG P md ops D k i (wpAnyG P md ops D k n L f (listed.setIfInBounds i true)) a
theorem wpAnyG_first {n i : Nat} {oi : Oper} {v : Value} {L : Array Bool → Act → Prop} (hi : ops[i]? = some oi) (hsel : ∀ (j : Nat) (o : Oper) cs b, ops[j]? = some o → o.op ≠ .select cs b)
    (hfar : ∀ listed : Array Bool, listed.getD n false = false → ∀ i ∈ Region.ready md ops listed, i ≤ n) (hns : n < ops.size) (hin : i < n) (hdone : ∀ listed a, L listed a → ∀ j ∈ Region.ready md ops listed, n ≤ j) :
    ∀ (f : Nat) (listed : Array Bool) (a : Act), HeadInv md ops n listed →
      (∀ j oj, ops[j]? = some oj → j ≠ i → listed.getD j true = false → (∀ e ∈ oj.after, Region.binds md e = true → e.on ≠ i) → oi.apart ops oj = true) →
      i ∈ Region.ready md ops listed → YieldsG P md ops D k i oi v a →
      wpAnyG P md ops D k n L f (listed.setIfInBounds i true) (a.put oi.dst v) → wpAnyG P md ops D k n L (f + 1) listed a := by
  intro f
  induction f with
  | zero =>
    intro listed a inv _ hr hy H
    have hun := (mem_ready.1 hr).1
    refine ⟨⟨i, hr, hin⟩, fun j hj hjx => ?_⟩
    have hjn : j < n := by
      have := hfar _ (getD_both (inv.tail n (Nat.le_refl _) hns)) j hj
      omega
    refine ⟨hjn, ?_⟩
    by_cases hji : j = i
    · subst hji; exact hy.qOp hi H
    · have := hdone _ _ H j (ready_mono hj hji)
      omega
  | succ f ih =>
    intro listed a inv hfree hr hy H
    have hun := (mem_ready.1 hr).1
    refine ⟨⟨i, hr, hin⟩, fun j hj hjx => ?_⟩
    have hjn : j < n := by
      have := hfar _ (getD_both (inv.tail n (Nat.le_refl _) hns)) j hj
      omega
    refine ⟨hjn, ?_⟩
    by_cases hji : j = i
    · subst hji; exact hy.qOp hi H
    · have h1 := (H.2 j (ready_mono hj hji) hjx).2
      obtain ⟨hjun, oj, hoj, hall⟩ := mem_ready.1 hj
      have hnot : ∀ e ∈ oj.after, Region.binds md e = true → e.on ≠ i := fun e he hb heq => by
        have h1 := hall e he hb
        rw [heq, getD_both hun] at h1
        cases h1
      have h2 := qOpG_put hoj (hfree j oj hoj hji hjun hnot) (fun cs b => hsel i oi cs b hi) (fun cs b => hsel j oj cs b hoj) hy h1
      have hfree' : ∀ t ot, ops[t]? = some ot → t ≠ i → (listed.setIfInBounds j true).getD t true = false →
          (∀ e ∈ ot.after, Region.binds md e = true → e.on ≠ i) → oi.apart ops ot = true := fun t ot ht hti hun hno => by
        refine hfree t ot ht hti ?_ hno
        by_cases hjt : j = t
        · subst hjt; exact hjun
        · rw [getD_set_ne true hjt] at hun; exact hun
      refine qOpG_mono (fun a' h3 => ih (listed.setIfInBounds j true) a' (inv.set hj hjn) hfree' (ready_mono hr (Ne.symm hji)) h3.1 ?_) h2
      rw [Array.setIfInBounds_comm _ _ hji]
      exact h3.2
theorem wpAnyG_lex {n : Nat} {Lq : Act → Prop} (hsel : Region.noSelect ops = true) (hfar : ∀ listed : Array Bool, listed.getD n false = false → ∀ i ∈ Region.ready md ops listed, i ≤ n) (hn : n < ops.size) :
    ∀ (l : List Oper) (t : Nat) (listed : Array Bool) (a : Act), (∀ j, j < l.length → l[j]? = ops[t + j]?) → t + l.length = n → HeadInv md ops n listed → (∀ j, j < t → listed.getD j false = true) →
    headB md ops l.length t listed = true → wpQuietG P md ops D k Lq t l a →
    wpAnyG P md ops D k n (fun listed' a' => listed' = firstN ops.size n ∧ Lq a') l.length listed a
  | [], t, listed, a, _, ht, inv, hd, _, h => by
    have : t = n := by simpa using ht
    subst this
    exact ⟨firstN_eq inv.size hd inv.tail, h⟩
  | o :: l, t, listed, a, hl, ht, inv, hd, hB, h => by
    have h0 : ops[t]? = some o := by simpa using (hl 0 (by simp)).symm
    simp only [List.length_cons, headB, Bool.and_eq_true] at hB
    obtain ⟨⟨hr, hf⟩, hB'⟩ := hB
    have htn : t < n := by simp only [List.length_cons] at ht; omega
    have hr' : t ∈ Region.ready md ops listed := by simpa using hr
    have hst : qOpG P md ops D k t (wpQuietG P md ops D k Lq (t + 1) l) a := by unfold qOpG; simp only [h0]; exact h
    obtain ⟨v, hy, hK⟩ := yieldsG_of_qOp h0 hst
    have hts : t < listed.size := by rw [inv.size]; omega
    exact wpAnyG_first h0 (Region.noSelect_spec hsel) hfar hn htn (fun listed' a' hL => by rw [hL.1]; exact firstN_ready) l.length listed a inv (Region.free_spec h0 hf) hr' hy
      (wpAnyG_lex hsel hfar hn l (t + 1) _ _ (fun j hj => by have := hl (j + 1) (by simp; omega); simpa [Nat.add_assoc, Nat.add_comm 1 j] using this) (by simp only [List.length_cons] at ht; omega) (inv.set hr' htn)
        (fun j hj => by
          by_cases hjt : j = t
          · subst hjt; simp [hts]
          · rw [getD_set_ne false (Ne.symm hjt)]; exact hd j (by omega)) hB' hK)

theorem wpOp_of_qOpG {n i : Nat} {listed : Array Bool} (inv : HeadInv md ops n listed) (hr : i ∈ Region.ready md ops listed) {a : Act} {K : Act → Prop} {K' : Act → World → Prop} {Q' : Exit → Act → World → Prop} {w : World} {R : ι} (hC : D R (listed.getD k false) w)
    (h : ∀ a w', D R ((listed.setIfInBounds i true).getD k false) w' → K a → K' a w') (hh : qOpG P md ops D k i K a) : wpOp P ops Q' i K' a w :=
  wpOp_of_qOpL (C := D R) inv hr hC h (by
    unfold qOpG at hh
    unfold qOpL
    split
    · rename_i ho; simpa only [ho] using hh
    · rename_i o ho
      simp only [ho] at hh
      split
      · rename_i hw
        simp only [hw, if_true] at hh
        obtain ⟨v, hv, hn⟩ := hh
        exact ⟨v, fun c c' hR w hw => hv R c c' hR w hw, hn⟩
      · rename_i hw
        rw [if_neg hw] at hh
        exact hh)
theorem slot_keepG {n : Nat} {a1 : Act} {d : Tmp} : ∀ (f : Nat) (listed : Array Bool) (a : Act),
    (∀ i o, i < n → ops[i]? = some o → listed.getD i false = false → o.dst ≠ some d) → wpAnyG P md ops D k n (fun listed' a' => listed' = firstN ops.size n ∧ a' = a1) f listed a → a.tmps[d]? = a1.tmps[d]?
  | 0, listed, a, _, h => by rw [h.2]
  | f + 1, listed, a, hd, h => by
    obtain ⟨⟨i, hi, hin⟩, h⟩ := h
    obtain ⟨hun, o, ho, _⟩ := mem_ready.1 hi
    have h1 := (h i hi (by omega)).2
    have hne := hd i o hin ho (getD_both hun)
    have key : ∀ v, (a.put o.dst v).tmps[d]? = a.tmps[d]? := fun v => by
      cases hq : o.dst with
      | none => rfl
      | some t =>
        have : t ≠ d := fun e => hne (by rw [hq, e])
        simp [Act.put, Array.getElem?_setIfInBounds_ne this]
    have hd' : ∀ j o', j < n → ops[j]? = some o' → (listed.setIfInBounds i true).getD j false = false → o'.dst ≠ some d := fun j o' hj hjo hl => by
      by_cases hij : i = j
      · subst hij
        rw [hjo] at ho
        cases ho
        exact hne
      · rw [getD_set_ne false hij] at hl
        exact hd j o' hj hjo hl
    unfold qOpG at h1
    simp only [ho] at h1
    split at h1
    · obtain ⟨v, _, h2⟩ := h1
      rw [← slot_keepG f _ _ hd' h2, key]
    · rw [← slot_keepG f _ _ hd' h1.2, key]

section
variable {n g : Nat} {os : Oper} {a1 : Act} {Q' : Exit → Act → World → Prop}
theorem anyG_done {R : ι} (hX : FreeS md ops n os) (hx : tailX md ops n = true) (hkn : k < n)
    (hfin : ∀ w', D R true w' → wpAny P md ops Q' g ((firstN ops.size n).setIfInBounds n true) a1 w') :
    ∀ (f : Nat) (listed : Array Bool) (a : Act) (w : World), HeadInv md ops n listed → D R (listed.getD k false) w → wpAnyG P md ops D k n (fun listed' a' => listed' = firstN ops.size n ∧ a' = a1) f listed a → wpAny P md ops Q' (f + g) (listed.setIfInBounds n true) a w
  | 0, listed, a, w, _, hC, h => by
    have hss : n < ops.size := (Array.getElem?_eq_some_iff.1 hX.hos).1
    obtain ⟨rfl, h⟩ := h
    rw [Nat.zero_add, h]
    refine hfin _ ?_
    have : (firstN ops.size n).getD k false = true := by simp [firstN, show k < ops.size by omega, hkn]
    rwa [this] at hC
  | f + 1, listed, a, w, inv, hC, h => by
    rw [show f + 1 + g = (f + g) + 1 by omega]
    obtain ⟨⟨i0, hi0, hi0n⟩, h⟩ := h
    have hun := (mem_ready.1 hi0).1
    refine ⟨fun h0 => ?_, fun i hi => ?_⟩
    · have := ready_mono (i := n) hi0 (by omega)
      rw [h0] at this
      cases this
    · obtain ⟨hiun, o, ho, hall⟩ := mem_ready.1 hi
      have hin : i ≠ n := by
        rintro rfl
        rcases Nat.lt_or_ge i listed.size with q | q
        · simp [q] at hiun
        · rw [Array.getD_eq_getD_getElem?, Array.getElem?_eq_none (by simpa using q)] at hiun; cases hiun
      rw [getD_set_ne true (Ne.symm hin)] at hiun
      have hlt : i < n := by
        rcases Nat.lt_or_ge i n with q | q
        · exact q
        · refine absurd hi (tailX_out hx (i := i0) (by omega) ?_ (by omega))
          rw [getD_set_ne false (by omega)]
          exact getD_both hun
      have hi' : i ∈ Region.ready md ops listed := by
        rw [mem_ready]
        refine ⟨hiun, o, ho, fun e he hb => ?_⟩
        have := hall e he hb
        rwa [getD_set_ne false (Ne.symm (hX.no i o hlt ho e he hb))] at this
      refine wpOp_of_qOpG inv hi' hC (fun a' w' hC' h' => ?_) (h i hi' hin).2
      rw [Array.setIfInBounds_comm _ _ (Ne.symm hin)]
      exact anyG_done hX hx hkn hfin f _ a' w' (inv.set hi' hlt) hC' h'
theorem anyG_new {R : ι} (hX : FreeS md ops n os) (hsel : ∀ (j : Nat) (o : Oper) cs b, ops[j]? = some o → o.op ≠ .select cs b) (hx : tailX md ops n = true) (hkn : k < n) (hwk : Region.waitsFor md ops n k = true)
    (hst : ∀ w, D R true w → ∃ (R2 : ι) (w' : World), (execOp (Act.eval a1) os).run P w = .ok .skip w' ∧ D R2 true w' ∧
      ∀ w'', D R2 true w'' → wpAny P md ops Q' g ((firstN ops.size n).setIfInBounds n true) a1 w'') :
    ∀ (f : Nat) (listed : Array Bool) (a : Act) (w : World), HeadInv md ops n listed → D R (listed.getD k false) w → wpAnyG P md ops D k n (fun listed' a' => listed' = firstN ops.size n ∧ a' = a1) f listed a → wpAny P md ops Q' (f + 1 + g) listed a w := by
  intro f
  induction f with
  | zero => ?_
  | succ f ih => ?_
  all_goals
    intro listed a w inv hC h
    have hss : n < ops.size := (Array.getElem?_eq_some_iff.1 hX.hos).1
    have hnun : listed.getD n false = false := getD_both (inv.tail n (Nat.le_refl _) hss)
    have store : ∀ f', wpAnyG P md ops D k n (fun listed' a' => listed' = firstN ops.size n ∧ a' = a1) f' listed a → n ∈ Region.ready md ops listed →
        wpOp P ops Q' n (wpAny P md ops Q' (f' + g) (listed.setIfInBounds n true)) a w := fun f' h hr => by
      obtain ⟨_, os', hos', hall⟩ := mem_ready.1 hr
      have hoe : os' = os := Option.some.inj (hos'.symm.trans hX.hos)
      subst hoe
      have hkl : listed.getD k false = true := by
        obtain ⟨oj, hoj, e, he, hb, hon⟩ := Region.waitsFor_spec hwk
        have : oj = os' := Option.some.inj (hoj.symm.trans hos')
        subst this
        rw [← hon]
        exact hall e he hb
      obtain ⟨R2, w', hrun, hR2, hfin⟩ := hst w (by rw [hkl] at hC; exact hC)
      have hev : execOp (Act.eval a) os' = execOp (Act.eval a1) os' := execOp_congr os' (fun cs b => hsel _ _ cs b hos') fun x hxm => by
        cases x with
        | tmp t =>
          have hlook : t ∈ os'.looksAt ops := List.mem_append_left _ (List.mem_filterMap.2 ⟨.tmp t, by simpa using hxm, rfl⟩)
          have hk : a.tmps[t]? = a1.tmps[t]? := slot_keepG f' listed a (fun i o hi ho hl hd => by
            rcases hX.reads i o hi ho with q | q
            · obtain ⟨oj, hoj, e, he, hb, hon⟩ := Region.waitsFor_spec q
              have : oj = os' := Option.some.inj (hoj.symm.trans hos')
              subst this
              have := hall e he hb
              rw [hon, hl] at this
              cases this
            · exact q t hd hlook) h
          show a.tmps.getD t undef = a1.tmps.getD t undef
          rw [Array.getD_eq_getD_getElem?, Array.getD_eq_getD_getElem?, hk]
        | _ => rfl
      refine wpOp_unit hos' (by unfold Region.wanted; rw [hX.guards]) (by rw [hev]; exact hrun) ?_
      rw [hX.dst]
      exact anyG_done hX hx hkn hfin f' listed a w' inv (by rw [hkl]; exact hR2) h
    have far : ∀ i, i ∈ Region.ready md ops listed → ¬ n < i := fun i hi q => absurd hi (tailX_out hx (Nat.le_refl _) hnun q)
  · rw [show 0 + 1 + g = (0 + g) + 1 by omega]
    have hrs : n ∈ Region.ready md ops listed := by
      rw [mem_ready]
      refine ⟨inv.tail n (Nat.le_refl _) hss, os, hX.hos, fun e he hb => ?_⟩
      have := hX.back e he hb
      rw [h.1]
      simp [firstN, show e.on < ops.size by omega, this]
    refine ⟨fun h0 => by rw [h0] at hrs; (cases hrs), fun i hi => ?_⟩
    have h1 := far i hi
    have h2 := firstN_ready i (by rw [← h.1]; exact hi)
    obtain rfl : i = n := by omega
    exact store 0 h hi
  · rw [show f + 1 + 1 + g = (f + 1 + g) + 1 by omega]
    obtain ⟨⟨i0, hi0, hi0n⟩, h'⟩ := id h
    refine ⟨fun h0 => by rw [h0] at hi0; (cases hi0), fun i hi => ?_⟩
    have hfar := far i hi
    by_cases hs : i = n
    · subst hs
      exact store (f + 1) h hi
    · have hlt : i < n := by omega
      refine wpOp_of_qOpG inv hi hC (fun a' w' hC' hh => ?_) (h' i hi hs).2
      exact ih _ a' w' (inv.set hi hlt) hC' hh
end

theorem wpQuietL_slot {C : Bool → World → Prop} {a1 : Act} {d : Tmp} : ∀ (l : List Oper) (t : Nat) (a : Act), l.all (fun p => p.dst != some d) = true → wpQuietL P md ops C k (fun a' => a' = a1) t l a → a1.tmps[d]? = a.tmps[d]?
  | [], t, a, _, h => by rw [show a = a1 from h]
  | o :: l, t, a, hd, h => by
    simp only [List.all_cons, Bool.and_eq_true, bne_iff_ne, ne_eq] at hd
    have key : ∀ v, (a.put o.dst v).tmps[d]? = a.tmps[d]? := fun v => by
      cases ho : o.dst with
      | none => rfl
      | some u =>
        have : u ≠ d := fun e => hd.1 (by rw [ho, e])
        simp [Act.put, Array.getElem?_setIfInBounds_ne this]
    unfold wpQuietL at h
    split at h
    · obtain ⟨v, _, h⟩ := h
      rw [wpQuietL_slot l _ _ hd.2 h, key]
    · rw [wpQuietL_slot l _ _ hd.2 h.2, key]
theorem wpQuietG_of {a1 : Act} (i0 : ι) : ∀ (l : List Oper) (t : Nat) (a : Act), (∀ i, wpQuietL P md ops (D i) k (fun a' => a' = a1) t l a) → dstB a.tmps.size l = true → wpQuietG P md ops D k (fun a' => a' = a1) t l a
  | [], t, a, h, _ => h i0
  | o :: l, t, a, h, hd => by
    unfold dstB at hd
    simp only [Bool.and_eq_true] at hd
    obtain ⟨hd1, hd2⟩ := hd
    unfold wpQuietG
    unfold wpQuietL at h
    split
    · rename_i hw
      simp only [hw, if_true] at h
      cases ho : o.dst with
      | none => rw [ho] at hd1; cases hd1
      | some d =>
        rw [ho] at hd1
        simp only [Bool.and_eq_true, decide_eq_true_eq] at hd1
        have hv : ∀ i v, wpQuietL P md ops (D i) k (fun a' => a' = a1) (t + 1) l (a.put o.dst v) → a1.tmps[d]? = some v := fun i v hq => by
          rw [wpQuietL_slot l _ _ hd1.2 hq, ho]
          simp [Act.put, hd1.1]
        obtain ⟨v0, _, hr0⟩ := h i0
        have e0 := hv i0 v0 hr0
        have hall : ∀ i, (∀ c c', leg md ops k t c c' → ∀ w, D i c w → o.turnAt P a (D i c') w v0) ∧ wpQuietL P md ops (D i) k (fun a' => a' = a1) (t + 1) l (a.put o.dst v0) := fun i => by
          obtain ⟨v, hq, hr⟩ := h i
          have e := hv i v hr
          rw [e0] at e
          cases e
          exact ⟨hq, hr⟩
        refine ⟨v0, fun i => (hall i).1, wpQuietG_of i0 l _ _ (fun i => (hall i).2) (by rw [put_size]; exact hd2)⟩
    · rename_i hw
      simp only [hw] at h
      exact ⟨(h i0).1, wpQuietG_of i0 l _ _ (fun i => (h i).2) (by rw [put_size]; exact hd2)⟩
end
end Go
namespace Go.Proofs.YtalfoiodejoicaaGreatDoor
section
variable {P : Program} {L0 F F' : List Part} {w0 : World} {N : Nat}
/-- QUIET, ONE OPERATION TURNING THE WORLD, A STORE THAT WAITS FOR IT AND FOR WHAT IT READS, THEN A ROW. -/
theorem wp_region_turn_store {id : Nat} {Q : Exit → Act → World → Prop} {a a1 : Act} {w : World} {l : List Oper} (n k : Nat) (T : TypeId) (x y : Operand) (hm : P.follows .mixedOrders = true)
    (hB : (Region.noSelect l.toArray && tailX .any l.toArray n && freeS .any l.toArray n && headB .any l.toArray n 0 (Array.replicate l.toArray.size false) && dstB a.tmps.size (l.take n) && decide (k < n) && Region.waitsFor .any l.toArray n k && Region.seqB .any l.toArray (l.length - (n + 1)) (n + 1) ((firstN l.toArray.size n).setIfInBounds n true)) = true)
    (hs : (l[n]?).map (fun o => o.op) = some (.store T x y)) {b j : Nat} {c : List Value} {E : TypeId} {L : List Part}
    (hA0 : At L0 w0 L w) (s : Sel (Part.cells b c E) L F) (hN : w.heap.size = N)
    (h1 : ∀ (R : Part), wpQuietL P .any l.toArray (TurnC L0 w0 (R :: F) N (R :: F')) k (fun a' => a' = a1) 0 (l.take n) a)
    (hx : a1.eval x = .pointer (some ⟨b, j, none⟩)) {v : Value} {us : List Value} (hy : a1.eval y = v) (hu : v.cells = us.toArray) (hsz : (P.info? T).map (·.size) = some us.length) (hus : us.all (·.oneCell') = true) (hl : j + us.length ≤ c.length)
    (h2 : ∀ w', At L0 w0 (Part.cells b (setL c j us) E :: F') w' → wpList P l.toArray Q (l.drop (n + 1)) a1 w') : (Code.region id l.toArray true).wp P Q a w := by
  simp only [Bool.and_eq_true, decide_eq_true_eq] at hB
  obtain ⟨⟨⟨⟨⟨⟨⟨hsel, htx⟩, hfx⟩, hhead⟩, hdst⟩, hkn⟩, hwk⟩, hseq⟩ := hB
  obtain ⟨os, hX⟩ := freeS_spec hfx
  have hss : n < l.length := by simpa using (Array.getElem?_eq_some_iff.1 hX.hos).1
  have hos' : l[n]? = some os := by simpa using hX.hos
  rw [hos'] at hs
  simp only [Option.map_some, Option.some.injEq] at hs
  have htl : (l.take n).length = n := by simp; omega
  let D : Part → Bool → World → Prop := fun R => TurnC L0 w0 (R :: F) N (R :: F')
  have hA : D (Part.cells b c E) false w.drew := turnC_start (hA0.take s) hN
  have inv0 : HeadInv .any l.toArray n (Array.replicate l.toArray.size false) :=
    ⟨by simp, fun j oj _ hl => (by rw [getD_replicate_false] at hl; cases hl), fun t _ ht => getD_in (by simpa using ht) (getD_replicate_false _ _)⟩
  have hq : wpQuietG P .any l.toArray D k (fun a' => a' = a1) 0 (l.take n) a := wpQuietG_of (Part.cells b c E) _ _ _ h1 hdst
  have H := wpAnyG_lex (D := D) (md := .any) hsel (fun listed hun i hi => by
    rcases Nat.lt_or_ge n i with q | q
    · exact absurd hi (tailX_out htx (Nat.le_refl _) hun q)
    · exact q) (by simpa using hss) (l.take n) 0 _ a (fun j hj => by
    have hj' : j < n := by rw [htl] at hj; exact hj
    simp [hj']) (by simpa using htl) inv0 (fun j hj => by omega) (by rw [htl]; exact hhead) hq
  refine wp_region_any hm ?_
  have hdl : (l.drop (n + 1)).length = l.length - (n + 1) := by simp
  have key := anyG_new (D := D) (Q' := Q) (R := Part.cells b c E) (g := l.length - (n + 1)) (a1 := a1) hX (Region.noSelect_spec hsel) htx hkn hwk (fun w1 hw1 => by
    have hw2 : At L0 w0 (Part.cells b c E :: F') w1 := turnC_end hw1
    have hb : BlockIs w1 b c E := At.get (A := Part.cells b c E) hw2 .here
    have hsto := At.stores hw2 (b := b) (c := c) (T := E) .here j us
    have hvs : v.cells.size = us.length := by rw [hu]; simp
    have hrun := run_storeAt_cells (P := P) w1 b j T v (hb.there j _ (by omega)) (by rw [hvs]; exact hsz) (by
      rw [hu, Array.all_eq_true_iff_forall_mem]
      intro u hu'
      exact List.all_eq_true.1 hus u (by simpa using hu'))
    rw [show v.cells.toList = us from by rw [hu]] at hrun
    have hT : D (Part.cells b (setL c j us) E) true (w1.setCells b j us) := by
      show TurnC L0 w0 _ N _ true _
      unfold TurnC
      rw [if_pos rfl]
      exact hsto
    refine ⟨Part.cells b (setL c j us) E, w1.setCells b j us, ?_, hT, fun w'' hw'' => ?_⟩
    · simp [execOp, hs, hx, hy, hrun, Result.andThen]
    · have := wpAny_of_seq (P := P) (ops := l.toArray) (md := .any) (Q' := Q) (l.drop (n + 1)) (n + 1) ((firstN l.toArray.size n).setIfInBounds n true) a1 w'' (fun j => by simp [List.getElem?_drop]) (by rw [hdl]; exact hseq) (h2 _ (turnC_end hw''))
      rwa [hdl] at this) _ _ _ _ inv0 (by rw [getD_replicate_false]; exact hA) H
  rw [htl, show n + 1 + (l.length - (n + 1)) = l.toArray.size by simp; omega] at key
  exact key
end
end Go.Proofs.YtalfoiodejoicaaGreatDoor
end

section
namespace Go.Proofs.YtalfoiodejoicaaGreatDoor.Lock
open Go.RowKit
open Go.Maps (Keyed)
open Path (bl rightB overB)
set_option linter.unusedSimpArgs false
set_option linter.unusedVariables false

theorem sameR (x y : Ent) (w : World) : (Go.Op.equalIn 10000 79 x.val y.val).run Tryz.prog w = .ok (decide (x = y)) w := by
  unfold Ent.val
  rw [run_equalIn_agg _ 9999 _ _ _ (by kernel_rfl) (by kernel_rfl)]
  obtain ⟨p1, n1, f1, m1, k1, s1⟩ := x
  obtain ⟨p2, n2, f2, m2, k2, s2⟩ := y
  simp [go_sem, Go.Op.eqFields, same_ba]
  by_cases h1 : p1 = p2 <;> by_cases h2 : n1 = n2 <;> by_cases h3 : f1 = f2 <;> by_cases h4 : m1 = m2 <;> by_cases h5 : k1 = k2 <;> by_cases h6 : s1 = s2 <;> simp [h1, h2, h3, h4, h5, h6]
theorem guardR (op : BinOp) (x y : Operand) (c1 c2 c3 c4 c5 c6 d1 d2 d3 d4 d5 d6 : Value) (w : World) : (eqGuard op 79 x y (.agg #[c1, c2, c3, c4, c5, c6]) (.agg #[d1, d2, d3, d4, d5, d6])).run Tryz.prog w = .ok () w := run_eqGuard_agg _ _ _ _ _ _ _ (by kernel_rfl)
theorem eqlR (x y : Ent) (w : World) : (binOp .eql 79 x.val y.val).run Tryz.prog w = .ok (.bool (decide (x = y))) w := by
  have := sameR x y w
  unfold Ent.val at *
  rw [run_eql_struct, this]; rfl
theorem neqR (x y : Ent) (w : World) : (binOp .neq 79 x.val y.val).run Tryz.prog w = .ok (.bool (!decide (x = y))) w := by
  have := sameR x y w
  unfold Ent.val at *
  rw [run_neq_struct, this]; rfl
set_option maxRecDepth 100000 in
theorem of_any (e : Ent) (w : World) : Calls Tryz.prog 55 #[e.val] w fun o w' => o = .returned e.val ∧ Ext w w' := by
  have hA : At [] w [] w := At.start (L0 := []) trivial
  have hF := hA.facts
  obtain ⟨p, n, f, m, k, s⟩ := e
  simp only [Ent.val]
  go_enter Tryz.func55, Tryz.ntmps55
  go_wp2_with (first | ((with_reducible show wpList _ _ _ ({ dst := _, op := Op.alloc _, type := _, pos := _, after := _, guard := _ } :: _) _ _); refine wpList_alloc_at (E := 79) (z := .agg #[.string .empty, .int .u64 0, .string .empty, .int .i64 0, .int .u64 0, .int .i64 0]) (vs := [.string .empty, .int .u64 0, .string .empty, .int .i64 0, .int .u64 0, .int .i64 0]) rfl rfl (by kernel_rfl) rfl hA ?_; intro bE w1 hB hbE; clear hF hA; have hA := hB; clear hB; (try simp only [setL, List.set_cons_zero, List.set_cons_succ, List.cons_append, List.nil_append] at hA); (have hF := hA.facts); (try simp only [facts_cons, facts_nil, facts_cells, facts_old, facts_fact, facts_obj, facts_map, facts_iter, facts_row, and_true, true_and] at hF)) | ((with_reducible show wpList _ _ _ ({ dst := _, op := Op.store _ _ _, type := _, pos := _, after := _, guard := _ } :: _) _ _); refine wpList_store_at rfl rfl rfl (by (try simp only [Act.eval, Array.getD_eq_getD_getElem?, List.getElem?_toArray, List.getElem?_cons_succ, List.getElem?_cons_zero, Option.getD_some]) <;> exact rfl) (by exact rfl) hA (by with_reducible repeat (first | exact Sel.here | apply Sel.there)) (by kernel_rfl) rfl (by first | decide | (simp; done) | omega) ?_; intro w1 hB; clear hF hA; have hA := hB; clear hB; (try simp only [setL, List.set_cons_zero, List.set_cons_succ, List.cons_append, List.nil_append] at hA); (have hF := hA.facts); (try simp only [facts_cons, facts_nil, facts_cells, facts_old, facts_fact, facts_obj, facts_map, facts_iter, facts_row, and_true, true_and] at hF)) | ((with_reducible show wpList _ _ _ ({ dst := _, op := Op.box _ _, type := _, pos := _, after := _, guard := _ } :: _) _ _); refine wpList_box_at rfl rfl (by (try simp only [Act.eval, Array.getD_eq_getD_getElem?, List.getElem?_toArray, List.getElem?_cons_succ, List.getElem?_cons_zero, Option.getD_some]) <;> exact rfl) (by exact rfl) hA ?_; intro b1 w1 hB hb1; clear hF hA; have hA := hB; clear hB; (try simp only [setL, List.set_cons_zero, List.set_cons_succ, List.cons_append, List.nil_append] at hA); (have hF := hA.facts); (try simp only [facts_cons, facts_nil, facts_cells, facts_old, facts_fact, facts_obj, facts_map, facts_iter, facts_row, and_true, true_and] at hF)))
  refine bodyPost_ret (v := .agg #[.string p, .int .u64 n, .string f, .int .i64 m, .int .u64 k, .int .i64 s]) (by simp [results, Tryz.results55, go_sem, hF]) rfl ⟨rfl, hA.toExt⟩

/-! ### The steps that come in -/
def OpsAt (W : World) (v : Value) (os : List Op) : Prop :=
  ∃ sa sc, v = .slice sa os.length sc ∧ ∀ j (hj : j < os.length), ∃ b off, sa = some ⟨b, off, none⟩ ∧
    (W.cell? ⟨b, off + j * 5, none⟩ = some (.int .i64 os[j].kind) ∧ W.cell? ⟨b, off + j * 5 + 1, none⟩ = some (.int .i64 os[j].mode) ∧ W.cell? ⟨b, off + j * 5 + 2, none⟩ = some (.string os[j].path) ∧ W.cell? ⟨b, off + j * 5 + 3, none⟩ = some (.int .u64 os[j].num) ∧ W.cell? ⟨b, off + j * 5 + 4, none⟩ = some (.string os[j].foot)) ∧
    (0 ≤ os[j].num ∧ os[j].num < big64 ∧ os[j].foot.size ≤ maxLen ∧ os[j].path.size ≤ maxLen)
theorem old_cell {W w : World} (h : (Part.old W).holds w) {b off : Nat} {u : Value} (hc : W.cell? ⟨b, off, none⟩ = some u) : w.cell? ⟨b, off, none⟩ = some u := by
  have hb : b < W.heap.size := by
    rcases Nat.lt_or_ge b W.heap.size with q | q
    · exact q
    · simp [World.cell?, Array.getElem?_eq_none q] at hc
  have := h b hb
  rw [← hc]
  simp [World.cell?, this]
theorem below_old {w w' : World} {L F : List Part} (h : At [Part.old w] w L w') (s : Sel (Part.old w) L F) : Below w.heap.size w w' := by
  have ho : (Part.old w).holds w' := h.get s
  exact ⟨h.exc.os, h.exc.tape, h.exc.output, h.exc.size, fun b hb => ho b hb⟩
def fitsB (os : List Op) (most : Int) : Bool := os.all (fun o => decide (o.path.size ≤ 100)) && decide ((os.length : Int) ≤ most)
def FitRel (W w : World) (os : List Op) (k : Nat) (u : Value) (wr : World) : Prop :=
  ∃ i : Nat, u = .int .i64 i ∧ i + k = os.length ∧ At [Part.old W] w [Part.old W] wr ∧ ∀ o ∈ os.take i, o.path.size ≤ 100
set_option maxRecDepth 100000 in
set_option maxHeartbeats 1000000 in
theorem fits_any {W w : World} {v : Value} {os : List Op} (h : Sep [Part.old W] w) (ho : OpsAt W v os) (most : Int) (hl : os.length ≤ 9223372036854775807) :
    Calls Tryz.prog 18 #[v, .int .i64 most] w fun e w' => e = .returned (.bool (fitsB os most)) ∧ At [Part.old W] w [Part.old W] w' := by
  obtain ⟨sa, sc, rfl, hel⟩ := ho
  have hel' := Lib.hid hel
  have hA := At.start h
  have hF := hA.facts
  clear h hel
  (try simp only [setL, List.set_cons_zero, List.set_cons_succ, List.cons_append, List.nil_append] at hA); (have hF := hA.facts); (try simp only [facts_cons, facts_nil, facts_cells, facts_old, facts_fact, facts_obj, facts_map, facts_iter, facts_row, and_true, true_and] at hF)
  go_enter Tryz.func18, Tryz.ntmps18
  go_wp2_with (first | ((with_reducible show wpList _ _ _ ({ dst := _, op := Op.store _ _ _, type := _, pos := _, after := _, guard := _ } :: _) _ _); refine wpList_store_at rfl rfl rfl (by (try simp only [Act.eval, Array.getD_eq_getD_getElem?, List.getElem?_toArray, List.getElem?_cons_succ, List.getElem?_cons_zero, Option.getD_some]) <;> exact rfl) (by exact rfl) hA (by with_reducible repeat (first | exact Sel.here | apply Sel.there)) (by kernel_rfl) rfl (by first | decide | (simp; done) | omega) ?_; intro w1 hB; clear hF hA; have hA := hB; clear hB; (try simp only [setL, List.set_cons_zero, List.set_cons_succ, List.cons_append, List.nil_append] at hA); (have hF := hA.facts); (try simp only [facts_cons, facts_nil, facts_cells, facts_old, facts_fact, facts_obj, facts_map, facts_iter, facts_row, and_true, true_and] at hF)) | ((with_reducible show wpList _ _ _ ({ dst := _, op := Op.box _ _, type := _, pos := _, after := _, guard := _ } :: _) _ _); refine wpList_box_at rfl rfl (by (try simp only [Act.eval, Array.getD_eq_getD_getElem?, List.getElem?_toArray, List.getElem?_cons_succ, List.getElem?_cons_zero, Option.getD_some]) <;> exact rfl) (by exact rfl) hA ?_; intro b1 w1 hB hb1; clear hF hA; have hA := hB; clear hB; (try simp only [setL, List.set_cons_zero, List.set_cons_succ, List.cons_append, List.nil_append] at hA); (have hF := hA.facts); (try simp only [facts_cons, facts_nil, facts_cells, facts_old, facts_fact, facts_obj, facts_map, facts_iter, facts_row, and_true, true_and] at hF)))
  try go_frame
  go_loopg [9] os.length (FitRel W w os)
  case atStart => exact ⟨0, rfl, by simp, hA, by simp⟩
  case round =>
    obtain ⟨i, rfl, hik, hB, hno⟩ := hrel
    have hno' := Lib.hid hno
    clear hF hA hno
    have hA := hB
    clear hB
    by_cases hi : i < os.length
    · obtain ⟨b, off, rfl, ⟨c0, c1, c2, c3, c4⟩, _⟩ := hel'.out i hi
      have hm := fun (q : os[i].path.size ≤ 100) => show ∀ o ∈ os.take (i + 1), o.path.size ≤ 100 from fun o ho => by
        rw [List.take_succ_eq_append_getElem hi] at ho
        rcases List.mem_append.1 ho with ho | ho
        · exact hno'.out o ho
        · rw [List.mem_singleton.1 ho]; exact q
      have hbad := fun (q : ¬ os[i].path.size ≤ 100) => show fitsB os most = false by
        unfold fitsB
        rw [Bool.and_eq_false_iff]
        left
        simp only [List.all_eq_false]
        exact ⟨os[i], List.getElem_mem hi, by simpa using q⟩
      obtain ⟨o, hoi⟩ : ∃ o, os[i] = o := ⟨_, rfl⟩
      simp only [hoi] at c0 c1 c2 c3 c4 hm hbad
      clear hoi
      have c0 := old_cell (hA.get (A := Part.old W) (by with_reducible repeat (first | exact Sel.here | apply Sel.there))) c0
      have c1 := old_cell (hA.get (A := Part.old W) (by with_reducible repeat (first | exact Sel.here | apply Sel.there))) c1
      have c2 := old_cell (hA.get (A := Part.old W) (by with_reducible repeat (first | exact Sel.here | apply Sel.there))) c2
      have c3 := old_cell (hA.get (A := Part.old W) (by with_reducible repeat (first | exact Sel.here | apply Sel.there))) c3
      have c4 := old_cell (hA.get (A := Part.old W) (by with_reducible repeat (first | exact Sel.here | apply Sel.there))) c4
      have hF := hA.facts
      (try simp only [setL, List.set_cons_zero, List.set_cons_succ, List.cons_append, List.nil_append] at hA); (have hF := hA.facts); (try simp only [facts_cons, facts_nil, facts_cells, facts_old, facts_fact, facts_obj, facts_map, facts_iter, facts_row, and_true, true_and] at hF)
      by_cases hq : o.path.size ≤ 100
      · have hm' := Lib.hid (hm hq)
        have hq' : ¬ (100 : Int) < (o.path.size : Int) := by omega
        clear hm hbad
        go_wp2_with (first | ((with_reducible show wpList _ _ _ ({ dst := _, op := Op.store _ _ _, type := _, pos := _, after := _, guard := _ } :: _) _ _); refine wpList_store_at rfl rfl rfl (by (try simp only [Act.eval, Array.getD_eq_getD_getElem?, List.getElem?_toArray, List.getElem?_cons_succ, List.getElem?_cons_zero, Option.getD_some]) <;> exact rfl) (by exact rfl) hA (by with_reducible repeat (first | exact Sel.here | apply Sel.there)) (by kernel_rfl) rfl (by first | decide | (simp; done) | omega) ?_; intro w1 hB; clear hF hA; have hA := hB; clear hB; (try simp only [setL, List.set_cons_zero, List.set_cons_succ, List.cons_append, List.nil_append] at hA); (have hF := hA.facts); (try simp only [facts_cons, facts_nil, facts_cells, facts_old, facts_fact, facts_obj, facts_map, facts_iter, facts_row, and_true, true_and] at hF)) | ((with_reducible show wpList _ _ _ ({ dst := _, op := Op.box _ _, type := _, pos := _, after := _, guard := _ } :: _) _ _); refine wpList_box_at rfl rfl (by (try simp only [Act.eval, Array.getD_eq_getD_getElem?, List.getElem?_toArray, List.getElem?_cons_succ, List.getElem?_cons_zero, Option.getD_some]) <;> exact rfl) (by exact rfl) hA ?_; intro b1 w1 hB hb1; clear hF hA; have hA := hB; clear hB; (try simp only [setL, List.set_cons_zero, List.set_cons_succ, List.cons_append, List.nil_append] at hA); (have hF := hA.facts); (try simp only [facts_cons, facts_nil, facts_cells, facts_old, facts_fact, facts_obj, facts_map, facts_iter, facts_row, and_true, true_and] at hF)) | ((with_reducible show wpList _ _ _ ({ dst := _, op := Op.alloc _, type := _, pos := _, after := _, guard := _ } :: _) _ _); refine wpList_alloc_at (E := 70) (z := .agg #[.int .i64 0, .int .i64 0, .string .empty, .int .u64 0, .string .empty]) (vs := [.int .i64 0, .int .i64 0, .string .empty, .int .u64 0, .string .empty]) rfl rfl (by kernel_rfl) rfl hA ?_; intro b1 w1 hB hb1; clear hF hA; have hA := hB; clear hB; (try simp only [setL, List.set_cons_zero, List.set_cons_succ, List.cons_append, List.nil_append] at hA); (have hF := hA.facts); (try simp only [facts_cons, facts_nil, facts_cells, facts_old, facts_fact, facts_obj, facts_map, facts_iter, facts_row, and_true, true_and] at hF)))
        go_roundg (gk - 1)
        case measure => omega
        case rel => exact ⟨i + 1, by simp, by omega, hA.pick (by with_reducible repeat (first | exact Picks.nil | refine Picks.cons (by with_reducible repeat (first | exact Sel.here | apply Sel.there)) ?_)), hm'.out⟩
      · have hb' := Lib.hid (hbad hq)
        have hq' : (100 : Int) < (o.path.size : Int) := by omega
        clear hm hbad
        go_wp2_with (first | ((with_reducible show wpList _ _ _ ({ dst := _, op := Op.store _ _ _, type := _, pos := _, after := _, guard := _ } :: _) _ _); refine wpList_store_at rfl rfl rfl (by (try simp only [Act.eval, Array.getD_eq_getD_getElem?, List.getElem?_toArray, List.getElem?_cons_succ, List.getElem?_cons_zero, Option.getD_some]) <;> exact rfl) (by exact rfl) hA (by with_reducible repeat (first | exact Sel.here | apply Sel.there)) (by kernel_rfl) rfl (by first | decide | (simp; done) | omega) ?_; intro w1 hB; clear hF hA; have hA := hB; clear hB; (try simp only [setL, List.set_cons_zero, List.set_cons_succ, List.cons_append, List.nil_append] at hA); (have hF := hA.facts); (try simp only [facts_cons, facts_nil, facts_cells, facts_old, facts_fact, facts_obj, facts_map, facts_iter, facts_row, and_true, true_and] at hF)) | ((with_reducible show wpList _ _ _ ({ dst := _, op := Op.box _ _, type := _, pos := _, after := _, guard := _ } :: _) _ _); refine wpList_box_at rfl rfl (by (try simp only [Act.eval, Array.getD_eq_getD_getElem?, List.getElem?_toArray, List.getElem?_cons_succ, List.getElem?_cons_zero, Option.getD_some]) <;> exact rfl) (by exact rfl) hA ?_; intro b1 w1 hB hb1; clear hF hA; have hA := hB; clear hB; (try simp only [setL, List.set_cons_zero, List.set_cons_succ, List.cons_append, List.nil_append] at hA); (have hF := hA.facts); (try simp only [facts_cons, facts_nil, facts_cells, facts_old, facts_fact, facts_obj, facts_map, facts_iter, facts_row, and_true, true_and] at hF)) | ((with_reducible show wpList _ _ _ ({ dst := _, op := Op.alloc _, type := _, pos := _, after := _, guard := _ } :: _) _ _); refine wpList_alloc_at (E := 70) (z := .agg #[.int .i64 0, .int .i64 0, .string .empty, .int .u64 0, .string .empty]) (vs := [.int .i64 0, .int .i64 0, .string .empty, .int .u64 0, .string .empty]) rfl rfl (by kernel_rfl) rfl hA ?_; intro b1 w1 hB hb1; clear hF hA; have hA := hB; clear hB; (try simp only [setL, List.set_cons_zero, List.set_cons_succ, List.cons_append, List.nil_append] at hA); (have hF := hA.facts); (try simp only [facts_cons, facts_nil, facts_cells, facts_old, facts_fact, facts_obj, facts_map, facts_iter, facts_row, and_true, true_and] at hF)))
        go_ret
        exact ⟨by rw [hb'.out]; rfl, hA.only1 (by with_reducible repeat (first | exact Sel.here | apply Sel.there))⟩
    · have hall : os.all (fun o => decide (o.path.size ≤ 100)) = true := by
        rw [List.all_eq_true]
        intro o ho
        exact decide_eq_true (hno'.out o (by rw [List.take_of_length_le (by omega)]; exact ho))
      have hall' := Lib.hid hall
      clear hall
      have hF := hA.facts
      (try simp only [setL, List.set_cons_zero, List.set_cons_succ, List.cons_append, List.nil_append] at hA); (have hF := hA.facts); (try simp only [facts_cons, facts_nil, facts_cells, facts_old, facts_fact, facts_obj, facts_map, facts_iter, facts_row, and_true, true_and] at hF)
      go_wp2_with (first | ((with_reducible show wpList _ _ _ ({ dst := _, op := Op.store _ _ _, type := _, pos := _, after := _, guard := _ } :: _) _ _); refine wpList_store_at rfl rfl rfl (by (try simp only [Act.eval, Array.getD_eq_getD_getElem?, List.getElem?_toArray, List.getElem?_cons_succ, List.getElem?_cons_zero, Option.getD_some]) <;> exact rfl) (by exact rfl) hA (by with_reducible repeat (first | exact Sel.here | apply Sel.there)) (by kernel_rfl) rfl (by first | decide | (simp; done) | omega) ?_; intro w1 hB; clear hF hA; have hA := hB; clear hB; (try simp only [setL, List.set_cons_zero, List.set_cons_succ, List.cons_append, List.nil_append] at hA); (have hF := hA.facts); (try simp only [facts_cons, facts_nil, facts_cells, facts_old, facts_fact, facts_obj, facts_map, facts_iter, facts_row, and_true, true_and] at hF)) | ((with_reducible show wpList _ _ _ ({ dst := _, op := Op.box _ _, type := _, pos := _, after := _, guard := _ } :: _) _ _); refine wpList_box_at rfl rfl (by (try simp only [Act.eval, Array.getD_eq_getD_getElem?, List.getElem?_toArray, List.getElem?_cons_succ, List.getElem?_cons_zero, Option.getD_some]) <;> exact rfl) (by exact rfl) hA ?_; intro b1 w1 hB hb1; clear hF hA; have hA := hB; clear hB; (try simp only [setL, List.set_cons_zero, List.set_cons_succ, List.cons_append, List.nil_append] at hA); (have hF := hA.facts); (try simp only [facts_cons, facts_nil, facts_cells, facts_old, facts_fact, facts_obj, facts_map, facts_iter, facts_row, and_true, true_and] at hF)))
      go_ret
      exact ⟨by unfold fitsB; rw [hall'.out]; rfl, hA.only1 (by with_reducible repeat (first | exact Sel.here | apply Sel.there))⟩

/-! ### The example -/
def pAB : ByteArray := ⟨#[97, 47, 98]⟩
def pA : ByteArray := ⟨#[97]⟩
def pAC : ByteArray := ⟨#[97, 47, 99]⟩
def e1 : Ent := ⟨pAB, 1, pA, 2, 1, 1⟩
def e2 : Ent := ⟨pA, 1, pA, 2, 1, 2⟩
def e3 : Ent := ⟨pAC, 1, pA, 1, 1, 3⟩
def s0 : S3 := ⟨0, [], []⟩
def s1 : S3 := ⟨0, [e1], [(pAB, 1)]⟩
def s2 : S3 := ⟨0, [e1, e2], [(pAB, 1), (pA, 1)]⟩
def s3 : S3 := ⟨0, [e1, e2, e3], [(pAB, 1), (pA, 1), (pAC, 1)]⟩
def s4 : S3 := ⟨0, [e2, e3], [(pAB, 1), (pA, 1), (pAC, 1)]⟩
theorem ex1 : s0.may pAB 1 pA 2 = 0 ∧ s0.addE pAB 1 pA 2 = e1 ∧ s0.add pAB 1 pA 2 = s1 := ⟨by kernel_rfl, by kernel_rfl, by kernel_rfl⟩
theorem ex2 : s1.may pA 1 pA 2 = 0 ∧ s1.addE pA 1 pA 2 = e2 ∧ s1.add pA 1 pA 2 = s2 := ⟨by kernel_rfl, by kernel_rfl, by kernel_rfl⟩
theorem ex3 : s2.may pAC 1 pA 1 = 0 ∧ s2.addE pAC 1 pA 1 = e3 ∧ s2.add pAC 1 pA 1 = s3 := ⟨by kernel_rfl, by kernel_rfl, by kernel_rfl⟩
theorem ex4 : s3.remove pAB 1 pA = s4 ∧ (find s3.es pAB 1 pA).isSome = true := ⟨by kernel_rfl, by kernel_rfl⟩
theorem exG : grantedB s3.es e1 = true ∧ grantedB s3.es e2 = false ∧ grantedB s3.es e3 = false ∧ grantedB s4.es e2 = true ∧ grantedB s4.es e3 = false := ⟨by kernel_rfl, by kernel_rfl, by kernel_rfl, by kernel_rfl, by kernel_rfl⟩
end Go.Proofs.YtalfoiodejoicaaGreatDoor.Lock
end
