/- RegT, RegA, SepT, Base4, Row, Row2, Row4, joined. -/
import Derived.Test.YtpebabaigakagaaGreatDoorP1
import Derived.Test.YtpebabaigakagaaGreatDoorP2
import Derived.Test.YtpebabaigakagaaGreatDoorP0
import Derived.Maps.AppendAt
import Derived.Deep.AppendLies
set_option linter.unusedSimpArgs false
set_option linter.unusedVariables false
set_option maxRecDepth 100000
set_option maxHeartbeats 16000000
section
namespace Go
section
variable {P : Program} {ops : Array Oper} {md : Region.Mode} {C : Bool → World → Prop} {k : Nat}
def waitsB (md : Region.Mode) (ops : Array Oper) (k : Nat) : Nat → Nat → Bool
 | 0, _ => false
 | f + 1, i => match ops[i]? with
  | some o => o.after.any fun e => Region.binds md e && (e.on == k || waitsB md ops k f e.on)
  | none => false
def leg (md : Region.Mode) (ops : Array Oper) (k i : Nat) (c c' : Bool) : Prop :=
 if i = k then c = false ∧ c' = true else if waitsB md ops k ops.size i = true then c = true ∧ c' = true else c = c'
def Oper.turnUpon (P : Program) (C : World → Prop) (w : World) (v : Value) : Result Next → Prop
 | .ok (.value u) w' => w' = w ∧ u = v ∧ C w
 | .ok .skip w' => w' = w ∧ v = undef ∧ C w
 | .ok (.enter f args) w' => w' = w ∧ Calls P f args w (fun e w'' => e = .returned v ∧ C w'')
 | _ => False
def Oper.turnAt (P : Program) (o : Oper) (a : Act) (C : World → Prop) (w : World) (v : Value) : Prop := Oper.turnUpon P C w v ((execOp a.eval o).run P w)
def Oper.quietL (P : Program) (o : Oper) (a : Act) (C : Bool → World → Prop) (R : Bool → Bool → Prop) (next : Act → Prop) : Prop :=
 ∃ v, (∀ c c', R c c' → ∀ w, C c w → o.turnAt P a (C c') w v) ∧ next (a.put o.dst v)
def wpQuietL (P : Program) (md : Region.Mode) (ops : Array Oper) (C : Bool → World → Prop) (k : Nat) (Q : Act → Prop) : Nat → List Oper → Act → Prop
 | _, [], a => Q a
 | n, o :: rest, a => if Region.wanted o (yielded ops a.tmps) then o.quietL P a C (leg md ops k n) (wpQuietL P md ops C k Q (n + 1) rest) else n ≠ k ∧ wpQuietL P md ops C k Q (n + 1) rest (a.put o.dst undef)
theorem wpQuietL_nil {Q : Act → Prop} {n : Nat} {a : Act} (h : Q a) : wpQuietL P md ops C k Q n [] a := h
theorem wpQuietL_step {Q : Act → Prop} {n : Nat} {a : Act} {o : Oper} {rest : List Oper}
 (h : ∀ K : Act → Prop, (∀ a, wpQuietL P md ops C k Q (n + 1) rest a → K a) → if Region.wanted o (yielded ops a.tmps) then o.quietL P a C (leg md ops k n) K else n ≠ k ∧ K (a.put o.dst undef)) : wpQuietL P md ops C k Q n (o :: rest) a := h _ (fun _ h => h)
def qOpL (P : Program) (md : Region.Mode) (ops : Array Oper) (C : Bool → World → Prop) (k i : Nat) (K : Act → Prop) (a : Act) : Prop :=
 match ops[i]? with
 | none => i ≠ k ∧ K a
 | some o => if Region.wanted o (yielded ops a.tmps) then o.quietL P a C (leg md ops k i) K else i ≠ k ∧ K (a.put o.dst undef)
theorem Oper.quietL_mono {o : Oper} {a : Act} {R : Bool → Bool → Prop} {K K' : Act → Prop} (h : ∀ a, K a → K' a) (hh : o.quietL P a C R K) : o.quietL P a C R K' :=
 let ⟨v, h1, h2⟩ := hh
 ⟨v, h1, h _ h2⟩
theorem qOpL_mono {i : Nat} {a : Act} {K K' : Act → Prop} (h : ∀ a, K a → K' a) (hh : qOpL P md ops C k i K a) : qOpL P md ops C k i K' a := by
 unfold qOpL at *
 split
 · rename_i ho
   simp only [ho] at hh
   exact ⟨hh.1, h _ hh.2⟩
 · rename_i o ho
   simp only [ho] at hh
   split
   · rename_i hw; simp only [hw, if_true] at hh; exact Oper.quietL_mono h hh
   · rename_i hw; simp only [hw] at hh; exact ⟨hh.1, h _ hh.2⟩
def YieldsL (P : Program) (md : Region.Mode) (ops : Array Oper) (C : Bool → World → Prop) (k i : Nat) (o : Oper) (v : Value) (a : Act) : Prop :=
 (Region.wanted o (yielded ops a.tmps) = true ∧ ∀ c c', leg md ops k i c c' → ∀ w, C c w → o.turnAt P a (C c') w v) ∨
 (Region.wanted o (yielded ops a.tmps) = false ∧ i ≠ k ∧ v = undef)
theorem YieldsL.qOp {i : Nat} {o : Oper} {v : Value} {a : Act} (hi : ops[i]? = some o) (hy : YieldsL P md ops C k i o v a) {K : Act → Prop} (h : K (a.put o.dst v)) : qOpL P md ops C k i K a := by
 unfold qOpL
 simp only [hi]
 rcases hy with ⟨hw, hv⟩ | ⟨hw, hik, rfl⟩
 · simp only [hw, if_true]; exact ⟨v, hv, h⟩
 · simp only [hw, Bool.false_eq_true, if_false]; exact ⟨hik, h⟩
theorem YieldsL.of_same {i : Nat} {o : Oper} {v : Value} {a a' : Act} (hy : YieldsL P md ops C k i o v a) (he : execOp a'.eval o = execOp a.eval o)
 (hw : Region.wanted o (yielded ops a'.tmps) = Region.wanted o (yielded ops a.tmps)) : YieldsL P md ops C k i o v a' := by
 unfold YieldsL Oper.turnAt at *
 rw [he, hw]
 exact hy
theorem yieldsL_of_qOp {i : Nat} {o : Oper} {a : Act} {K : Act → Prop} (hi : ops[i]? = some o) (h : qOpL P md ops C k i K a) : ∃ v, YieldsL P md ops C k i o v a ∧ K (a.put o.dst v) := by
 unfold qOpL at h
 simp only [hi] at h
 by_cases hw : Region.wanted o (yielded ops a.tmps) = true
 · simp only [hw, if_true] at h
   obtain ⟨v, h1, h2⟩ := h
   exact ⟨v, .inl ⟨hw, h1⟩, h2⟩
 · simp only [hw] at h
   exact ⟨undef, .inr ⟨by simpa using hw, h.1, rfl⟩, h.2⟩
theorem qOpL_put {i j : Nat} {oi oj : Oper} {v : Value} (hj : ops[j]? = some oj) (hap : oi.apart ops oj = true)
 (hsi : ∀ cs b, oi.op ≠ .select cs b) (hsj : ∀ cs b, oj.op ≠ .select cs b) {K : Act → Prop} {a : Act}
 (hy : YieldsL P md ops C k i oi v a) (h : qOpL P md ops C k j K (a.put oi.dst v)) :
 qOpL P md ops C k j (fun a' => YieldsL P md ops C k i oi v a' ∧ K (a'.put oi.dst v)) a := by
 obtain ⟨h1, h2, h3⟩ := Oper.apart_spec hap
 have keep : ∀ (a : Act), YieldsL P md ops C k i oi v a → ∀ u, YieldsL P md ops C k i oi v (a.put oj.dst u) := fun a hy u =>
  hy.of_same (execOp_put oi hsi a oj.dst u h3) (wanted_put oi a oj.dst u h3)
 unfold qOpL at *
 simp only [hj] at *
 rw [wanted_put oj a oi.dst v h1] at h
 split
 · rename_i hw
   simp only [hw, if_true] at h
   obtain ⟨u, hu, hn⟩ := h
   refine ⟨u, fun c c' hR w hw' => ?_, keep a hy u, by rw [← Act.put_comm a v u h2]; exact hn⟩
   have := hu c c' hR w hw'
   unfold Oper.turnAt at *
   rwa [execOp_put oj hsj a oi.dst v h1] at this
 · rename_i hw
   simp only [hw] at h
   exact ⟨h.1, keep a hy _, by rw [← Act.put_comm a v undef h2]; exact h.2⟩
theorem waits_listed {n : Nat} {listed : Array Bool} (inv : HeadInv md ops n listed) : ∀ (f i : Nat), waitsB md ops k f i = true → listed.getD i false = true → listed.getD k false = true
 | 0, _, h, _ => by simp [waitsB] at h
 | f + 1, i, h, hi => by
  unfold waitsB at h
  split at h
  · rename_i o ho
    obtain ⟨e, he, hb⟩ := Array.any_eq_true'.1 h
    simp only [Bool.and_eq_true, Bool.or_eq_true, beq_iff_eq] at hb
    have hl := inv.closed i o ho hi e he hb.1
    rcases hb.2 with hk | hk
    · rw [← hk]; exact hl
    · exact waits_listed inv f e.on hk hl
  · exact absurd h (by simp)
theorem waits_ready {n : Nat} {listed : Array Bool} (inv : HeadInv md ops n listed) {i : Nat} (hr : i ∈ Region.ready md ops listed) : ∀ (f : Nat), waitsB md ops k f i = true → listed.getD k false = true
 | 0, h => by simp [waitsB] at h
 | f + 1, h => by
  obtain ⟨_, oi, hoi, hall⟩ := mem_ready.1 hr
  unfold waitsB at h
  simp only [hoi] at h
  obtain ⟨e, he, hb⟩ := Array.any_eq_true'.1 h
  simp only [Bool.and_eq_true, Bool.or_eq_true, beq_iff_eq] at hb
  have hl := hall e he hb.1
  rcases hb.2 with hk | hk
  · rw [← hk]; exact hl
  · exact waits_listed inv f e.on hk hl
def wpAnyLL (P : Program) (md : Region.Mode) (ops : Array Oper) (C : Bool → World → Prop) (k n : Nat) (L : Array Bool → Act → Prop) : Nat → Array Bool → Act → Prop
 | 0, listed, a => L listed a
 | f + 1, listed, a =>
  Region.ready md ops listed ≠ [] ∧ ∀ i ∈ Region.ready md ops listed, i < n ∧ qOpL P md ops C k i (wpAnyLL P md ops C k n L f (listed.setIfInBounds i true)) a
theorem Oper.wp_of_quietL {o : Oper} {a : Act} {R : Bool → Bool → Prop} {K : Act → Prop} {K' : Act → World → Prop} {Q' : Exit → Act → World → Prop} {w : World} {c c' : Bool} (hR : R c c') (hw : C c w) (h : ∀ a w', C c' w' → K a → K' a w') (hh : o.quietL P a C R K) : o.wp P a w K' Q' := by
 obtain ⟨v, h1, h2⟩ := hh
 have h3 := h1 c c' hR w hw
 unfold Oper.turnAt at h3
 unfold Oper.wp
 generalize (execOp a.eval o).run P w = r at *
 cases r with
 | ok n w' =>
  cases n <;> simp only [Oper.turnUpon] at h3 <;> simp only [Oper.upon]
  case value u =>
   obtain ⟨e1, e2, e3⟩ := h3
   rw [e1, e2]
   exact h _ _ e3 h2
  case skip =>
   obtain ⟨e1, e2, e3⟩ := h3
   rw [e1, ← e2]
   exact h _ _ e3 h2
  case enter f args =>
   obtain ⟨e1, hc⟩ := h3
   rw [e1]
   exact hc.mono fun e w'' ⟨he, hw''⟩ => by subst he; exact h _ _ hw'' h2
 | halt x w' => simp only [Oper.turnUpon] at h3
theorem wpOp_of_qOpL {n i : Nat} {listed : Array Bool} (inv : HeadInv md ops n listed) (hr : i ∈ Region.ready md ops listed) {a : Act} {K : Act → Prop} {K' : Act → World → Prop} {Q' : Exit → Act → World → Prop} {w : World} (hC : C (listed.getD k false) w)
 (h : ∀ a w', C ((listed.setIfInBounds i true).getD k false) w' → K a → K' a w') (hh : qOpL P md ops C k i K a) : wpOp P ops Q' i K' a w := by
 have hun := (mem_ready.1 hr).1
 have his : i < listed.size := by
  rcases Nat.lt_or_ge i listed.size with q | q
  · exact q
  · rw [Array.getD_eq_getD_getElem?, Array.getElem?_eq_none q] at hun; cases hun
 have key : i ≠ k → (listed.setIfInBounds i true).getD k false = listed.getD k false := fun hne => getD_set_ne false hne
 unfold qOpL at hh
 unfold wpOp
 split
 · rename_i ho
   simp only [ho] at hh
   exact h _ _ (by rw [key hh.1]; exact hC) hh.2
 · rename_i o ho
   simp only [ho] at hh
   split
   · rename_i hw
     simp only [hw, if_true] at hh
     refine .inl (Oper.wp_of_quietL (c := listed.getD k false) (c' := (listed.setIfInBounds i true).getD k false) ?_ hC h hh)
     unfold leg
     by_cases hik : i = k
     · subst hik
       rw [if_pos rfl]
       exact ⟨getD_both hun, by simp [his]⟩
     · rw [if_neg hik, key hik]
       by_cases hwt : waitsB md ops k ops.size i = true
       · rw [if_pos hwt]
         have := waits_ready inv hr _ hwt
         exact ⟨this, this⟩
       · rw [if_neg hwt]
   · rename_i hw
     simp only [hw] at hh
     exact h _ _ (by rw [key hh.1]; exact hC) hh.2
theorem wpAny_of_headL {n g : Nat} {L : Array Bool → Act → Prop} {Q' : Exit → Act → World → Prop} (hL : ∀ listed a w, C (listed.getD k false) w → L listed a → wpAny P md ops Q' g listed a w) :
 ∀ (f : Nat) (listed : Array Bool) (a : Act) (w : World), HeadInv md ops n listed → C (listed.getD k false) w → wpAnyLL P md ops C k n L f listed a → wpAny P md ops Q' (f + g) listed a w
 | 0, listed, a, w, _, hw, h => by rw [Nat.zero_add]; exact hL _ _ _ hw h
 | f + 1, listed, a, w, inv, hw, h => by
  rw [show f + 1 + g = (f + g) + 1 by omega]
  exact ⟨fun h0 => absurd h0 h.1, fun i hi => wpOp_of_qOpL inv hi hw (fun a' w' hw' h' => wpAny_of_headL hL f _ a' w' (inv.set hi (h.2 i hi).1) hw' h') (h.2 i hi).2⟩
theorem wpAnyLL_first {n i : Nat} {oi : Oper} {v : Value} {L : Array Bool → Act → Prop} (hi : ops[i]? = some oi) (hsel : ∀ (j : Nat) (o : Oper) cs b, ops[j]? = some o → o.op ≠ .select cs b)
 (hs : Region.sinkB md ops n = true) (hc : Region.chainB md ops n = true) (hn : n < ops.size) (hin : i < n)
 (hdone : ∀ listed a, L listed a → ∀ j ∈ Region.ready md ops listed, n ≤ j) :
 ∀ (f : Nat) (listed : Array Bool) (a : Act), HeadInv md ops n listed →
  (∀ j oj, ops[j]? = some oj → j ≠ i → listed.getD j true = false → (∀ e ∈ oj.after, Region.binds md e = true → e.on ≠ i) → oi.apart ops oj = true) →
  i ∈ Region.ready md ops listed → YieldsL P md ops C k i oi v a →
  wpAnyLL P md ops C k n L f (listed.setIfInBounds i true) (a.put oi.dst v) → wpAnyLL P md ops C k n L (f + 1) listed a := by
 intro f
 induction f with
 | zero =>
  intro listed a inv _ hr hy H
  have hun := (mem_ready.1 hr).1
  refine ⟨fun h => (by rw [h] at hr; cases hr), fun j hj => ?_⟩
  have hjn : j < n := by
   rcases Nat.lt_or_ge j n with h | h
   · exact h
   · exact absurd hj (tail_waits hs hc hn inv _ i rfl hin hun j h)
  refine ⟨hjn, ?_⟩
  by_cases hji : j = i
  · subst hji; exact hy.qOp hi H
  · have := hdone _ _ H j (ready_mono hj hji)
    omega
 | succ f ih =>
  intro listed a inv hfree hr hy H
  have hun := (mem_ready.1 hr).1
  refine ⟨fun h => (by rw [h] at hr; cases hr), fun j hj => ?_⟩
  have hjn : j < n := by
   rcases Nat.lt_or_ge j n with h | h
   · exact h
   · exact absurd hj (tail_waits hs hc hn inv _ i rfl hin hun j h)
  refine ⟨hjn, ?_⟩
  by_cases hji : j = i
  · subst hji; exact hy.qOp hi H
  · have h1 := (H.2 j (ready_mono hj hji)).2
    obtain ⟨hjun, oj, hoj, hall⟩ := mem_ready.1 hj
    have hnot : ∀ e ∈ oj.after, Region.binds md e = true → e.on ≠ i := fun e he hb heq => by
     have h1 := hall e he hb
     rw [heq, getD_both hun] at h1
     cases h1
    have h2 := qOpL_put (i := i) hoj (hfree j oj hoj hji hjun hnot) (fun cs b => hsel i oi cs b hi) (fun cs b => hsel j oj cs b hoj) hy h1
    have hfree' : ∀ t ot, ops[t]? = some ot → t ≠ i → (listed.setIfInBounds j true).getD t true = false →
     (∀ e ∈ ot.after, Region.binds md e = true → e.on ≠ i) → oi.apart ops ot = true := fun t ot ht hti hun hno => by
     refine hfree t ot ht hti ?_ hno
     by_cases hjt : j = t
     · subst hjt; exact hjun
     · rw [getD_set_ne true hjt] at hun; exact hun
    refine qOpL_mono (fun a' h3 => ih (listed.setIfInBounds j true) a' (inv.set hj hjn) hfree' (ready_mono hr (Ne.symm hji)) h3.1 ?_) h2
    rw [Array.setIfInBounds_comm _ _ hji]
    exact h3.2
theorem wpAnyLL_lex {n g : Nat} {Lq : Act → Prop} (hsel : Region.noSelect ops = true) (hs : Region.sinkB md ops n = true) (hc : Region.chainB md ops n = true) (hn : n < ops.size) (hkn : k < n) :
 ∀ (l : List Oper) (t : Nat) (listed : Array Bool) (a : Act), (∀ j, j < l.length → l[j]? = ops[t + j]?) → t + l.length = n → HeadInv md ops n listed → (∀ j, j < t → listed.getD j false = true) →
 Region.lexHead md ops g l.length t listed = true → wpQuietL P md ops C k Lq t l a →
 wpAnyLL P md ops C k n (fun listed' a' => Region.seqB md ops g n listed' = true ∧ listed'.getD k false = true ∧ Lq a') l.length listed a
 | [], t, listed, a, _, ht, _, hd, hB, h => by
  have : t = n := by simpa using ht
  subst this
  exact ⟨by simpa [Region.lexHead] using hB, hd k hkn, h⟩
 | o :: l, t, listed, a, hl, ht, inv, hd, hB, h => by
  have h0 : ops[t]? = some o := by simpa using (hl 0 (by simp)).symm
  simp only [List.length_cons, Region.lexHead, Bool.and_eq_true] at hB
  obtain ⟨⟨hr, hf⟩, hB'⟩ := hB
  have htn : t < n := by simp only [List.length_cons] at ht; omega
  have hr' : t ∈ Region.ready md ops listed := by simpa using hr
  have hst : qOpL P md ops C k t (wpQuietL P md ops C k Lq (t + 1) l) a := by unfold qOpL; simp only [h0]; exact h
  obtain ⟨v, hy, hK⟩ := yieldsL_of_qOp h0 hst
  have hts : t < listed.size := by rw [inv.size]; omega
  exact wpAnyLL_first h0 (Region.noSelect_spec hsel) hs hc hn htn (fun listed' a' hL => seqB_ready hL.1) l.length listed a inv (Region.free_spec h0 hf) hr' hy
   (wpAnyLL_lex hsel hs hc hn hkn l (t + 1) _ _ (fun j hj => by have := hl (j + 1) (by simp; omega); simpa [Nat.add_assoc, Nat.add_comm 1 j] using this) (by simp only [List.length_cons] at ht; omega) (inv.set hr' htn)
     (fun j hj => by
       by_cases hjt : j = t
       · subst hjt; simp [hts]
       · rw [getD_set_ne false (Ne.symm hjt)]; exact hd j (by omega)) hB' hK)
theorem wp_region_turn {id : Nat} {Q : Exit → Act → World → Prop} {a : Act} {w : World} {l : List Oper} (n k : Nat) (C : Bool → World → Prop) (hm : P.follows .mixedOrders = true) (hB : Region.lexTailB .any l.toArray n = true) (hkn : k < n)
 (hC : C false w.drew) (h : wpQuietL P .any l.toArray C k (fun a' => ∀ w', C true w' → wpList P l.toArray Q (l.drop n) a' w') 0 (l.take n) a) : (Code.region id l.toArray true).wp P Q a w := by
 simp only [Region.lexTailB, Bool.and_eq_true, decide_eq_true_eq] at hB
 obtain ⟨⟨⟨⟨hsel, hn⟩, hs⟩, hc⟩, hlex⟩ := hB
 have hn' : n < l.length := by simpa using hn
 have htl : (l.take n).length = n := by simp; omega
 have hdl : (l.drop n).length = l.toArray.size - n := by simp
 have inv0 : HeadInv .any l.toArray n (Array.replicate l.toArray.size false) :=
  ⟨by simp, fun j oj _ hl => (by rw [getD_replicate_false] at hl; cases hl), fun t _ ht => getD_in (by simpa using ht) (getD_replicate_false _ _)⟩
 have H := wpAnyLL_lex (C := C) (md := .any) (g := l.toArray.size - n) hsel hs hc hn hkn (l.take n) 0 _ a (fun j hj => by
  have hj' : j < n := by rw [htl] at hj; exact hj
  simp [hj']) (by simpa using htl) inv0 (fun j hj => by omega) (by rw [htl]; exact hlex) h
 refine wp_region_any hm ?_
 have := wpAny_of_headL (Q' := Q) (g := l.toArray.size - n) (fun listed a' w' hw' hL => by
  rw [hL.2.1] at hw'
  have := wpAny_of_seq (md := .any) (Q' := Q) (l.drop n) n listed a' w' (fun j => by simp [List.getElem?_drop]) (by rw [hdl]; exact hL.1) (hL.2.2 w' hw')
  rwa [hdl] at this) _ _ _ _ inv0 (by rw [getD_replicate_false]; exact hC) H
 rw [htl, show n + (l.toArray.size - n) = l.toArray.size by omega] at this
 exact this
end
end Go
end
section
namespace Go
section
variable {P : Program} {ops : Array Oper} {md : Region.Mode} {C : World → Prop}
def firstN (m n : Nat) : Array Bool := ((List.range m).map fun j => decide (j < n)).toArray
theorem firstN_eq {n : Nat} {listed : Array Bool} (hsz : listed.size = ops.size) (h1 : ∀ j, j < n → listed.getD j false = true) (h2 : ∀ t, n ≤ t → t < ops.size → listed.getD t true = false) : listed = firstN ops.size n := by
 apply Array.ext
 · simp [firstN, hsz]
 · intro i hi hi2
   have e1 : (firstN ops.size n)[i] = decide (i < n) := by simp [firstN]
   rw [e1]
   by_cases h : i < n
   · have := h1 i h
     simp [hi] at this
     simp [this, h]
   · have := h2 i (by omega) (by omega)
     simp [hi] at this
     simp [this, h]
def headB (md : Region.Mode) (ops : Array Oper) : Nat → Nat → Array Bool → Bool
 | 0, _, _ => true
 | f + 1, k, listed => ((Region.ready md ops listed).contains k && Region.free md ops listed k) && headB md ops f (k + 1) (listed.setIfInBounds k true)
theorem firstN_ready {n : Nat} : ∀ j ∈ Region.ready md ops (firstN ops.size n), n ≤ j := fun j hj => by
 obtain ⟨hun, oj, hoj, _⟩ := mem_ready.1 hj
 have hjs : j < ops.size := (Array.getElem?_eq_some_iff.1 hoj).1
 rcases Nat.lt_or_ge j n with h | h
 · simp [firstN, hjs, h] at hun
 · exact h
theorem wpOp_val {Q : Exit → Act → World → Prop} {i : Nat} {o : Oper} {K : Act → World → Prop} {a : Act} {w : World} (ho : ops[i]? = some o) (hw : Region.wanted o (yielded ops a.tmps) = true) {v : Value} {w' : World} (hrun : (execOp a.eval o).run P w = .ok (.value v) w') (hK : K (a.put o.dst v) w') : wpOp P ops Q i K a w := by
 unfold wpOp
 simp only [ho, hw, if_true]
 left
 unfold Oper.wp
 rw [hrun]
 exact hK
theorem wpOp_unit {Q : Exit → Act → World → Prop} {i : Nat} {o : Oper} {K : Act → World → Prop} {a : Act} {w : World} (ho : ops[i]? = some o) (hw : Region.wanted o (yielded ops a.tmps) = true) {w' : World} (hrun : (execOp a.eval o).run P w = .ok .skip w') (hK : K (a.put o.dst undef) w') : wpOp P ops Q i K a w := by
 unfold wpOp
 simp only [ho, hw, if_true]
 left
 unfold Oper.wp
 rw [hrun]
 exact hK
theorem wpOp_call {Q : Exit → Act → World → Prop} {i : Nat} {o : Oper} {K : Act → World → Prop} {a : Act} {w : World} (ho : ops[i]? = some o) (hw : Region.wanted o (yielded ops a.tmps) = true) {fn : FuncId} {args : Array Value} (hrun : (execOp a.eval o).run P w = .ok (.enter fn args) w) {R : Ending → World → Prop} (hc : Calls P fn args w R) (hK : ∀ e w', R e w' → ∃ v, e = .returned v ∧ K (a.put o.dst v) w') : wpOp P ops Q i K a w := by
 unfold wpOp
 simp only [ho, hw, if_true]
 left
 unfold Oper.wp
 rw [hrun]
 exact hc.mono fun e w' h => by
  obtain ⟨v, rfl, h2⟩ := hK e w' h
  exact h2
end
end Go
end
section
namespace Go.Proofs.YtpebabaigakagaaGreatDoor
open Go.RowKit
section
variable {P : Program} {ops : Array Oper} {rest : List Oper} {o : Oper} {a : Act} {Q : Exit → Act → World → Prop} {L0 L F : List Part} {w0 w : World} {S : Nat}
theorem wpList_box_sz {E : TypeId} {x : Operand} (hg : o.guard = none) (hop : o.op = .box E x) {v : Value} (hx : a.eval x = v) {vs : List Value} (hv : v.cells = vs.toArray) (h : At L0 w0 L w) (hS : w.heap.size = S)
 (hK : ∀ w', At L0 w0 (Part.cells S vs E :: L) w' → w'.heap.size = S + 1 → wpList P ops Q rest (a.put o.dst (.pointer (some ⟨S, 0, none⟩))) w') : wpList P ops Q (o :: rest) a w := by
 subst hS
 refine wpList_val hg ?_ (hK _ (h.alloc vs E) (by simp))
 simp [execOp, hop, hx, Instr.box, newVar, newRow, hv, Result.andThen]
theorem wpList_makeMap_sz {t : TypeId} (P : Program) (k : TypeId) (hg : o.guard = none) (hop : o.op = .makeMap t none) (h : At L0 w0 L w) (hS : w.heap.size = S)
 (hK : ∀ w', At L0 w0 (Part.map P k S [] :: L) w' → w'.heap.size = S + 1 → wpList P ops Q rest (a.put o.dst (.map (some S))) w') : wpList P ops Q (o :: rest) a w := by
 subst hS
 refine wpList_val hg ?_ (hK _ (h.new ((Ext.refl w).alloc (.map #[] 0)) _ (MapAt.made P k w) (fun _ e => by cases e; exact Nat.le_refl _)) (by simp))
 simp [execOp, hop, run_makeMap, Result.andThen]
end
section
variable {P : Program} {ops : Array Oper} {i : Nat} {o : Oper} {a : Act} {Q : Exit → Act → World → Prop} {K : Act → World → Prop} {L0 L F : List Part} {w0 w : World}
end
def TurnC (L0 : List Part) (w0 : World) (L : List Part) (N : Nat) (L' : List Part) (c : Bool) (w : World) : Prop := if c = true then At L0 w0 L' w else At L0 w0 L w ∧ w.heap.size = N
section
variable {P : Program} {md : Region.Mode} {ops : Array Oper} {k n : Nat} {rest : List Oper} {o : Oper} {a : Act} {Q : Act → Prop} {L0 L L' : List Part} {w0 : World} {N : Nat}
theorem turnC_start {w : World} (h : At L0 w0 L w) (hN : w.heap.size = N) : TurnC L0 w0 L N L' false w.drew := by
 unfold TurnC
 rw [if_neg (by simp)]
 exact ⟨h.drew, hN⟩
theorem turnC_end {w : World} (h : TurnC L0 w0 L N L' true w) : At L0 w0 L' w := by unfold TurnC at h; rwa [if_pos rfl] at h
theorem turn_pure {C : Bool → World → Prop} (hw : Region.wanted o (yielded ops a.tmps) = true) (hnk : n ≠ k) {v : Value} (hrun : ∀ w, (execOp a.eval o).run P w = .ok (.value v) w) (hK : wpQuietL P md ops C k Q (n + 1) rest (a.put o.dst v)) :
 wpQuietL P md ops C k Q n (o :: rest) a := by
 refine wpQuietL_step fun K hh => ?_
 rw [hw]
 simp only [if_true]
 refine ⟨v, fun c c' hR w hC => ?_, hh _ hK⟩
 unfold Oper.turnAt
 rw [hrun w]
 refine ⟨rfl, rfl, ?_⟩
 unfold leg at hR
 rw [if_neg hnk] at hR
 split at hR
 · obtain ⟨rfl, rfl⟩ := hR; exact hC
 · subst hR; exact hC
theorem turn_both (hw : Region.wanted o (yielded ops a.tmps) = true) (hnk : n ≠ k) {v : Value} (h1 : ∀ w, At L0 w0 L w → (execOp a.eval o).run P w = .ok (.value v) w) (h2 : ∀ w, At L0 w0 L' w → (execOp a.eval o).run P w = .ok (.value v) w)
 (hK : wpQuietL P md ops (TurnC L0 w0 L N L') k Q (n + 1) rest (a.put o.dst v)) : wpQuietL P md ops (TurnC L0 w0 L N L') k Q n (o :: rest) a := by
 refine wpQuietL_step fun K hh => ?_
 rw [hw]
 simp only [if_true]
 refine ⟨v, fun c c' hR w hC => ?_, hh _ hK⟩
 have hrun : (execOp a.eval o).run P w = .ok (.value v) w := by
  unfold TurnC at hC
  cases c
  · exact h1 w (by simpa using hC.1)
  · exact h2 w (by simpa using hC)
 unfold Oper.turnAt
 rw [hrun]
 refine ⟨rfl, rfl, ?_⟩
 unfold leg at hR
 rw [if_neg hnk] at hR
 split at hR
 · obtain ⟨rfl, rfl⟩ := hR; exact hC
 · subst hR; exact hC
theorem turn_wait (hw : Region.wanted o (yielded ops a.tmps) = true) (hnk : n ≠ k) (hwt : waitsB md ops k ops.size n = true) {v : Value} (h2 : ∀ w, At L0 w0 L' w → (execOp a.eval o).run P w = .ok (.value v) w)
 (hK : wpQuietL P md ops (TurnC L0 w0 L N L') k Q (n + 1) rest (a.put o.dst v)) : wpQuietL P md ops (TurnC L0 w0 L N L') k Q n (o :: rest) a := by
 refine wpQuietL_step fun K hh => ?_
 rw [hw]
 simp only [if_true]
 refine ⟨v, fun c c' hR w hC => ?_, hh _ hK⟩
 unfold leg at hR
 rw [if_neg hnk, if_pos hwt] at hR
 obtain ⟨rfl, rfl⟩ := hR
 unfold Oper.turnAt
 rw [h2 w (turnC_end hC)]
 exact ⟨rfl, rfl, hC⟩
theorem turn_call (hw : Region.wanted o (yielded ops a.tmps) = true) (hnk : n = k) {v : Value} {f : FuncId} {args : Array Value} (hrun : ∀ w, (execOp a.eval o).run P w = .ok (.enter f args) w)
 (hc : ∀ w, At L0 w0 L w → w.heap.size = N → Calls P f args w fun e w' => e = .returned v ∧ At L0 w0 L' w')
 (hK : wpQuietL P md ops (TurnC L0 w0 L N L') k Q (n + 1) rest (a.put o.dst v)) : wpQuietL P md ops (TurnC L0 w0 L N L') k Q n (o :: rest) a := by
 refine wpQuietL_step fun K hh => ?_
 rw [hw]
 simp only [if_true]
 refine ⟨v, fun c c' hR w hC => ?_, hh _ hK⟩
 unfold leg at hR
 rw [if_pos hnk] at hR
 obtain ⟨rfl, rfl⟩ := hR
 unfold Oper.turnAt
 rw [hrun w]
 unfold TurnC at hC
 simp only [Bool.false_eq_true, if_false] at hC
 refine ⟨rfl, (hc w hC.1 hC.2).mono fun e w' ⟨he, h⟩ => ⟨he, ?_⟩⟩
 unfold TurnC
 rw [if_pos rfl]
 exact h
end
end Go.Proofs.YtpebabaigakagaaGreatDoor
end
section
namespace Go.Proofs.YtpebabaigakagaaGreatDoor
open Go.RowKit
section
variable {P : Program}
theorem run_append_none (w : World) (base : Nat) (t ty e : TypeId) (i : TypeInfo) (size : Nat) (ht : P.underlying t = some (.slice e)) (hi : P.info? e = some i)
 (v : Value) (n : Nat) (xs : List Value) (hown : w.ownsRow base e size v n xs) (c : Nat) :
 (Builtin.append_ #[t, t] ty #[v, .slice none 0 c]).run P w = .ok v w := by
 rcases hown.2 with ⟨rfl, rfl⟩ | ⟨g, cap, cur, rfl, hbg, hg, hnc, hcm, hcs, htake⟩
 · simp [Builtin.append_, run_underlying ht, sizeOf, typeInfo, hi, Builtin.lenOf, Builtin.firstCells]
 · simp [Builtin.append_, run_underlying ht, sizeOf, typeInfo, hi, Builtin.lenOf, Builtin.firstCells, hnc, storeCells]
def Reads (w : World) (x : Value) (m : Nat) (news : List Value) : Prop :=
 ∃ ax c, x = .slice ax m c ∧ (ax = none → m = 0) ∧ ∀ j u, news[j]? = some u → ∃ b off, ax = some ⟨b, off, none⟩ ∧ w.cell? ⟨b, off + j, none⟩ = some u
theorem run_append_all (w : World) (base : Nat) (t ty e : TypeId) (i : TypeInfo) (z : Value) (size bytes : Nat) (ht : P.underlying t = some (.slice e)) (hi : P.info? e = some i) (hz : i.zero = some z)
 (hsize : i.size = size) (hby : i.bytes = bytes) (hzs : z.cells.size = size) (hsz : 0 < size)
 (v : Value) (n : Nat) (xs : List Value) (hown : w.ownsRow base e size v n xs)
 (x : Value) (m : Nat) (news : List Value) (hl : news.length = m * size) (hx : Reads w x m news) (h1 : ∀ u ∈ news, u.oneCell' = true)
 (h63 : n + m ≤ maxLen) (hbytes : (n + m) * bytes ≤ 140737488355328) (hbase : base ≤ w.heap.size) :
 ∃ v' w', (Builtin.append_ #[t, t] ty #[v, x]).run P w = .ok v' w' ∧ w'.ownsRow base e size v' (n + m) (xs ++ news) ∧ w.grownBy w' v.ownBlock ∧
  (v'.ownBlock = v.ownBlock ∨ v'.ownBlock = some w.heap.size) := by
 obtain ⟨ax, c, rfl, hax, hnews⟩ := hx
 cases ax with
 | none =>
  have hm : m = 0 := hax rfl
  subst hm
  have hn : news = [] := List.eq_nil_of_length_eq_zero (by simpa using hl)
  subst hn
  exact ⟨v, w, run_append_none w base t ty e i size ht hi v n xs hown c, by simpa using hown, ⟨rfl, rfl, rfl, Nat.le_refl _, fun _ _ _ => rfl⟩, .inl rfl⟩
 | some ad =>
  obtain ⟨v', w', h1, h2, h3, _, h5⟩ := run_append_own_at (P := P) w base t ty e i z size bytes ht hi hz hsize hby hzs hsz v n xs hown ad m c news hl (fun j u hj => by
   obtain ⟨b', off', e', hc⟩ := hnews j u hj
   cases e'
   rw [Addr.add_lit]
   exact hc) h1 h63 hbytes hbase
  exact ⟨v', w', h1, h2, h3, h5⟩
theorem wp_append_all (w : World) {o : Oper} {a : Act} {K : Act → World → Prop} {Q : Exit → Act → World → Prop} (s x : Operand) (t : TypeId)
 (ho : o.op = .call { callee := .builtin .append, args := #[s, x], argTypes := #[t, t] })
 (base : Nat) (e : TypeId) (i : TypeInfo) (z : Value) (size bytes : Nat) (ht : P.underlying t = some (.slice e)) (hi : P.info? e = some i) (hz : i.zero = some z)
 (hsize : i.size = size) (hby : i.bytes = bytes) (hzs : z.cells.size = size) (hsz : 0 < size)
 (v : Value) (n : Nat) (xs : List Value) (hs : a.eval s = v) (hown : w.ownsRow base e size v n xs)
 (xv : Value) (m : Nat) (news : List Value) (hxv : a.eval x = xv) (hl : news.length = m * size) (hx : Reads w xv m news) (h1 : ∀ u ∈ news, u.oneCell' = true)
 (h63 : n + m ≤ maxLen) (hbytes : (n + m) * bytes ≤ 140737488355328) (hbase : base ≤ w.heap.size)
 (h : ∀ v' w', w'.ownsRow base e size v' (n + m) (xs ++ news) → w.grownBy w' v.ownBlock → (v'.ownBlock = v.ownBlock ∨ v'.ownBlock = some w.heap.size) → K (a.put o.dst v') w') : o.wp P a w K Q := by
 obtain ⟨v', w', hr, h2, h3, h4⟩ := run_append_all (P := P) w base t o.type e i z size bytes ht hi hz hsize hby hzs hsz v n xs hown xv m news hl hx h1 h63 hbytes hbase
 unfold Oper.wp execOp
 simp only [ho, resolve, invoke, builtin, Sem.run_bind, Sem.run_pure, Result.andThen_ok, List.map_toArray, List.map_cons, List.map_nil, hs, hxv, hr]
 exact h v' w' h2 h3 h4
theorem wpList_append_all (w : World) {ops : Array Oper} {rest : List Oper} {o : Oper} {a : Act} {Q : Exit → Act → World → Prop} (hgd : o.guard = none) (s x : Operand) (t : TypeId)
 (ho : o.op = .call { callee := .builtin .append, args := #[s, x], argTypes := #[t, t] })
 (base : Nat) (e : TypeId) (i : TypeInfo) (z : Value) (size bytes : Nat) (ht : P.underlying t = some (.slice e)) (hi : P.info? e = some i) (hz : i.zero = some z)
 (hsize : i.size = size) (hby : i.bytes = bytes) (hzs : z.cells.size = size) (hsz : 0 < size)
 (v : Value) (n : Nat) (xs : List Value) (hs : a.eval s = v) (hown : w.ownsRow base e size v n xs)
 (xv : Value) (m : Nat) (news : List Value) (hxv : a.eval x = xv) (hl : news.length = m * size) (hx : Reads w xv m news) (h1 : ∀ u ∈ news, u.oneCell' = true)
 (h63 : n + m ≤ maxLen) (hbytes : (n + m) * bytes ≤ 140737488355328) (hbase : base ≤ w.heap.size)
 (h : ∀ v' w', w'.ownsRow base e size v' (n + m) (xs ++ news) → w.grownBy w' v.ownBlock → (v'.ownBlock = v.ownBlock ∨ v'.ownBlock = some w.heap.size) → wpList P ops Q rest (a.put o.dst v') w') : wpList P ops Q (o :: rest) a w :=
 wpList_plain hgd fun _ hK => wp_append_all w s x t ho base e i z size bytes ht hi hz hsize hby hzs hsz v n xs hs hown xv m news hxv hl hx h1 h63 hbytes hbase fun v' w' h2 h3 h4 => hK _ _ (h v' w' h2 h3 h4)
theorem step_append_all (w : World) {ops : Array Oper} {o : Oper} {a : Act} {K : Act → World → Prop} {Q : Exit → Act → World → Prop} {E : Prop} (hgd : o.guard = none) (s x : Operand) (t : TypeId)
 (ho : o.op = .call { callee := .builtin .append, args := #[s, x], argTypes := #[t, t] })
 (base : Nat) (e : TypeId) (i : TypeInfo) (z : Value) (size bytes : Nat) (ht : P.underlying t = some (.slice e)) (hi : P.info? e = some i) (hz : i.zero = some z)
 (hsize : i.size = size) (hby : i.bytes = bytes) (hzs : z.cells.size = size) (hsz : 0 < size)
 (v : Value) (n : Nat) (xs : List Value) (hs : a.eval s = v) (hown : w.ownsRow base e size v n xs)
 (xv : Value) (m : Nat) (news : List Value) (hxv : a.eval x = xv) (hl : news.length = m * size) (hx : Reads w xv m news) (h1 : ∀ u ∈ news, u.oneCell' = true)
 (h63 : n + m ≤ maxLen) (hbytes : (n + m) * bytes ≤ 140737488355328) (hbase : base ≤ w.heap.size)
 (h : ∀ v' w', w'.ownsRow base e size v' (n + m) (xs ++ news) → w.grownBy w' v.ownBlock → (v'.ownBlock = v.ownBlock ∨ v'.ownBlock = some w.heap.size) → K (a.put o.dst v') w') :
 if Region.wanted o (yielded ops a.tmps) = true then Oper.wp P o a w K Q else E := by
 have hw : Region.wanted o (yielded ops a.tmps) = true := by simp [Region.wanted, hgd]
 rw [if_pos hw]
 exact wp_append_all w s x t ho base e i z size bytes ht hi hz hsize hby hzs hsz v n xs hs hown xv m news hxv hl hx h1 h63 hbytes hbase h
end
theorem own_reads {w : World} {base : Nat} {T : TypeId} {size : Nat} {v : Value} {n : Nat} {xs : List Value} (h : w.ownsRow base T size v n xs) : Reads w v n xs := by
 rcases h.2 with ⟨rfl, rfl⟩ | ⟨g, cap, cur, rfl, _⟩
 · have : xs = [] := List.eq_nil_of_length_eq_zero (by simpa using h.1)
   subst this
   exact ⟨none, 0, rfl, fun _ => rfl, fun j u hj => by simp at hj⟩
 · refine ⟨some ⟨g, 0, none⟩, cap, rfl, nofun, fun j u hj => ⟨g, 0, rfl, ?_⟩⟩
   have := h.cells (g := g) rfl j u hj
   rw [Addr.add_lit] at this
   exact this
theorem Reads.ext {w w' : World} {x : Value} {m : Nat} {news : List Value} (h : Reads w x m news) (e : Ext w w') : Reads w' x m news := by
 obtain ⟨ax, c, hx, ha, hn⟩ := h
 refine ⟨ax, c, hx, ha, fun j u hj => ?_⟩
 obtain ⟨b, off, h1, h2⟩ := hn j u hj
 exact ⟨b, off, h1, e.cell_of h2⟩
theorem Reads.new (w : World) (c : List Value) (T : TypeId) (m cap : Nat) : Reads (w.alloc (.cells c.toArray T)) (.slice (some ⟨w.heap.size, 0, none⟩) m cap) m c := by
 refine ⟨_, _, rfl, nofun, fun j u hj => ⟨_, 0, rfl, ?_⟩⟩
 rw [Nat.zero_add]
 exact ((BlockIs.alloc w c T).cell j).trans hj
theorem own_base {w : World} {base b : Nat} {T : TypeId} {size : Nat} {v : Value} {n : Nat} {xs : List Value} (h : w.ownsRow base T size v n xs) (hb : b ≤ base) : w.ownsRow b T size v n xs := by
 obtain ⟨h1, h2 | ⟨g, cap, cur, hv, hg, r⟩⟩ := h
 · exact ⟨h1, .inl h2⟩
 · exact ⟨h1, .inr ⟨g, cap, cur, hv, Nat.le_trans hb hg, r⟩⟩
theorem own_ge {w : World} {base : Nat} {T : TypeId} {size : Nat} {v : Value} {n : Nat} {xs : List Value} (h : w.ownsRow base T size v n xs) (g : Nat) (hg : v.ownBlock = some g) : base ≤ g := by
 rcases h.2 with ⟨rfl, _⟩ | ⟨q, cap, cur, rfl, hb, _⟩
 · exact nomatch hg
 · cases hg
   exact hb
end Go.Proofs.YtpebabaigakagaaGreatDoor
end
section
namespace Go.Proofs.YtpebabaigakagaaGreatDoor
open Go.RowKit
def Part.row (e : TypeId) (size : Nat) (v : Value) (n : Nat) (xs : List Value) : Part where
 holds w := w.ownsRow 0 e size v n xs
 foot b := v.ownBlock = some b
 lt := fun w h b hb => by
  rcases h.2 with ⟨rfl, _⟩ | ⟨g, cap, cur, rfl, _, hh, _⟩
  · exact nomatch hb
  · cases hb
    exact lt_of_some hh
 stay := fun w w' h q => by
  rcases h.2 with h2 | ⟨g, cap, cur, hv, hg, hh, r⟩
  · exact ⟨h.1, .inl h2⟩
  · exact ⟨h.1, .inr ⟨g, cap, cur, hv, hg, (q g (by rw [hv]; rfl)).trans hh, r⟩⟩
theorem facts_row (e : TypeId) (size : Nat) (v : Value) (n : Nat) (xs : List Value) (w : World) : (Part.row e size v n xs).facts w = True := rfl
theorem exc_grown {w w' : World} {row : Option Nat} (h : w.grownBy w' row) : Exc (fun k => row = some k) w w' := by
 obtain ⟨h1, h2, h3, h4, h5⟩ := h
 exact ⟨h1, h2, h3, h4, fun k hk hn => h5 k hk (fun e => hn e.symm)⟩
section
variable {P : Program} {ops : Array Oper} {rest : List Oper} {o : Oper} {a : Act} {Q : Exit → Act → World → Prop} {L0 L F : List Part} {w0 w : World} {e : TypeId} {size n : Nat} {v : Value} {xs : List Value}
theorem At.row_form (h : At L0 w0 L w) (s : Sel (Part.row e size v n xs) L F) : ∃ ax cap, v = .slice ax n cap ∧ (ax = none → n = 0) ∧ n ≤ cap ∧ xs.length = n * size := by
 have hr : w.ownsRow 0 e size v n xs := h.get s
 rcases hr.2 with ⟨rfl, rfl⟩ | ⟨g, cap, cur, rfl, _, _, hc, _⟩
 · exact ⟨none, 0, rfl, fun _ => rfl, Nat.le_refl _, hr.1⟩
 · exact ⟨_, cap, rfl, nofun, hc, hr.1⟩
theorem At.row_open {ax : Option Addr} {cap : Nat} (h : At L0 w0 L w) (s : Sel (Part.row e size (.slice ax n cap) n xs) L F) (hn : 0 < n) :
 ∃ g c, ax = some ⟨g, 0, none⟩ ∧ n ≤ cap ∧ cap ≤ maxLen ∧ c.length = cap * size ∧ c.take (n * size) = xs ∧ At L0 w0 (Part.cells g c e :: F) w := by
 have hr : w.ownsRow 0 e size (.slice ax n cap) n xs := h.get s
 rcases hr.2 with ⟨hv, rfl⟩ | ⟨g, cap', cur, hv, _, hh, hc, hm, hs, ht⟩
 · omega
 · cases hv
   exact ⟨g, cur.toList, rfl, hc, hm, by simpa using hs, ht, h.turn s (Part.cells g cur.toList e) (show BlockIs w g _ e from (by unfold BlockIs; simpa using hh)) (fun b hb => .inl (by cases hb; rfl)) (Exc.refl _ _)⟩
theorem At.row_shut {g cap : Nat} {c : List Value} (h : At L0 w0 L w) (s : Sel (Part.cells g c e) L F) (hl : c.length = cap * size) (hn : n ≤ cap) (hm : cap ≤ maxLen) (ht : c.take (n * size) = xs) :
 At L0 w0 (Part.row e size (.slice (some ⟨g, 0, none⟩) n cap) n xs :: F) w := by
 subst ht
 exact h.turn s (Part.row e size (.slice (some ⟨g, 0, none⟩) n cap) n (c.take (n * size))) (own_of (h.get s : BlockIs w g c e) hl hn hm) (fun b hb => .inl (by simp [Part.row, Value.ownBlock] at hb; exact hb.symm)) (Exc.refl _ _)
theorem At.row_nil (h : At L0 w0 L w) (e : TypeId) (size : Nat) : At L0 w0 (Part.row e size (.slice none 0 0) 0 [] :: L) w :=
 h.new (Ext.refl w) _ ⟨by simp, .inl ⟨rfl, rfl⟩⟩ (fun b hb => nomatch hb)
theorem At.row_new {w' : World} (h : At L0 w0 L w) (hx : Ext w w') (ho : w'.ownsRow w.heap.size e size v n xs) : At L0 w0 (Part.row e size v n xs :: L) w' :=
 h.new hx _ (own_base ho (Nat.zero_le _)) (fun b hb => own_ge ho b hb)
theorem At.row_reads (h : At L0 w0 L w) (s : Sel (Part.row e size v n xs) L F) : Reads w v n xs := own_reads (h.get s : w.ownsRow 0 e size v n xs)
theorem At.cells_reads {b : Nat} {c : List Value} {T : TypeId} (h : At L0 w0 L w) (s : Sel (Part.cells b c T) L F) (m cap : Nat) : Reads w (.slice (some ⟨b, 0, none⟩) m cap) m c :=
 ⟨_, _, rfl, nofun, fun j u hj => ⟨b, 0, rfl, by rw [Nat.zero_add]; exact ((h.get s : BlockIs w b c T).cell j).trans hj⟩⟩
theorem flat_at {α : Type} (enc : α → List Value) (size : Nat) (hs : ∀ x, (enc x).length = size) : ∀ (l : List α) (k : Nat) (x : α), l[k]? = some x → ∀ j, j < size → (l.flatMap enc)[k * size + j]? = (enc x)[j]?
 | y :: l, 0, x, hx, j, hj => by
  simp at hx; subst hx
  rw [List.flatMap_cons, Nat.zero_mul, Nat.zero_add, List.getElem?_append_left (by rw [hs]; exact hj)]
 | y :: l, k + 1, x, hx, j, hj => by
  rw [List.flatMap_cons, List.getElem?_append_right (by rw [hs, Nat.add_mul]; omega), hs, show (k + 1) * size + j - size = k * size + j by rw [Nat.add_mul]; omega]
  exact flat_at enc size hs l k x (by simpa using hx) j hj
 | [], k, x, hx, j, hj => by simp at hx
theorem flat_len {α : Type} (enc : α → List Value) (size : Nat) (hs : ∀ x, (enc x).length = size) : ∀ (l : List α), (l.flatMap enc).length = l.length * size
 | [] => by simp
 | x :: l => by rw [List.flatMap_cons, List.length_append, flat_len enc size hs l, hs, List.length_cons, Nat.add_mul]; omega
theorem cells_at {α : Type} {enc : α → List Value} {size : Nat} (hs : ∀ x, (enc x).length = size) {c : List Value} {l : List α} (ht : c.take (l.length * size) = l.flatMap enc) {k : Nat} {x : α} (hx : l[k]? = some x) (j : Nat) (hj : j < size) : c[k * size + j]? = (enc x)[j]? := by
 rw [← flat_at enc size hs l k x hx j hj, ← ht, List.getElem?_take_of_lt]
 have := (List.getElem?_eq_some_iff.1 hx).1
 calc k * size + j < k * size + size := by omega
  _ = (k + 1) * size := by rw [Nat.add_mul]; omega
  _ ≤ _ := Nat.mul_le_mul_right _ this
theorem wpList_append_at {i : TypeInfo} {z : Value} {bytes : Nat} (hg : o.guard = none) (s' x : Operand) (t : TypeId) (ho : o.op = .call { callee := .builtin .append, args := #[s', x], argTypes := #[t, t] })
 (ht : P.underlying t = some (.slice e)) (hi : P.info? e = some i) (hz : i.zero = some z) (hsize : i.size = size) (hby : i.bytes = bytes) (hzs : z.cells.size = size) (hsz : 0 < size)
 (h : At L0 w0 L w) (s : Sel (Part.row e size v n xs) L F) (hs : a.eval s' = v) {xv : Value} {m : Nat} {news : List Value} (hxv : a.eval x = xv) (hl : news.length = m * size) (hx : Reads w xv m news) (h1 : ∀ u ∈ news, u.oneCell' = true)
 (h63 : n + m ≤ maxLen) (hbytes : (n + m) * bytes ≤ 140737488355328)
 (hK : ∀ v' w', At L0 w0 (Part.row e size v' (n + m) (xs ++ news) :: F) w' → wpList P ops Q rest (a.put o.dst v') w') : wpList P ops Q (o :: rest) a w :=
 wpList_append_all w hg s' x t ho 0 e i z size bytes ht hi hz hsize hby hzs hsz v n xs hs (h.get s) xv m news hxv hl hx h1 h63 hbytes (Nat.zero_le _) fun v' w' h2 h3 h4 =>
  hK v' w' (h.turn s _ h2 (fun b hb => by
   rcases h4 with h4 | h4
   · exact .inl (show v.ownBlock = some b from by rw [← h4]; exact hb)
   · right
     have hb' : v'.ownBlock = some b := hb
     rw [h4] at hb'
     cases hb'
     exact Nat.le_refl _) (exc_grown h3))
theorem wpList_one_at {t : TypeId} {x : Operand} (hg : o.guard = none) (hop : o.op = .buildSlice t 1 #[(0, x)]) {xv : Value} (hx : a.eval x = xv) {vs : List Value}
 (hrun : ∀ w, (Instr.buildSlice t 1 #[(0, xv)]).run P w = .ok (.slice (some ⟨w.heap.size, 0, none⟩) 1 1) (w.alloc (.cells vs.toArray e)))
 (h : At L0 w0 L w)
 (hK : ∀ b w', At L0 w0 (Part.cells b vs e :: L) w' → w0.heap.size ≤ b → wpList P ops Q rest (a.put o.dst (.slice (some ⟨b, 0, none⟩) 1 1)) w') : wpList P ops Q (o :: rest) a w := by
 refine wpList_val hg ?_ (hK _ _ (h.alloc vs e) h.size)
 simp [execOp, hop, hx, hrun, Result.andThen]
end
end Go.Proofs.YtpebabaigakagaaGreatDoor
end
section
namespace Go.Proofs.YtpebabaigakagaaGreatDoor
open Go
theorem uZ : type_of% @uA ∧ type_of% fA ∧ type_of% @facts_row ∧ (∀ p : Prop, (p ∧ True) = p) ∧ (∀ p : Prop, (True ∧ p) = p) := ⟨@uA, fA, @facts_row, and_true, true_and⟩
end Go.Proofs.YtpebabaigakagaaGreatDoor
end
section
namespace Go.Proofs.YtpebabaigakagaaGreatDoor
open Go.RowKit
section
variable {P : Program} {ops : Array Oper} {rest : List Oper} {o : Oper} {a : Act} {Q : Exit → Act → World → Prop} {w : World} {e : TypeId} {size n : Nat} {v : Value} {xs : List Value}
end
end Go.Proofs.YtpebabaigakagaaGreatDoor
end
section
namespace Go.Proofs.YtpebabaigakagaaGreatDoor
open Go.RowKit
section
variable {α : Type} {enc : α → List Value} {size : Nat}
theorem flat_take (hs : ∀ x, (enc x).length = size) : ∀ (l : List α) (k : Nat), (l.flatMap enc).take (k * size) = (l.take k).flatMap enc
 | [], k => by simp
 | x :: l, 0 => by simp
 | x :: l, k + 1 => by
  rw [List.take_succ_cons, List.flatMap_cons, List.flatMap_cons, ← flat_take hs l k, List.take_append, List.take_of_length_le (by rw [hs, Nat.add_mul]; omega), hs, show (k + 1) * size - size = k * size by rw [Nat.add_mul]; omega]
theorem flat_one (h : ∀ x, ∀ u ∈ enc x, u.oneCell' = true) (l : List α) : ∀ u ∈ l.flatMap enc, u.oneCell' = true := by
 intro u hu
 obtain ⟨x, _, hx⟩ := List.mem_flatMap.1 hu
 exact h x u hx
theorem rows_app (E : TypeId) (v : Value) (l1 l2 : List α) : Part.row E size v (l1.length + l2.length) (l1.flatMap enc ++ l2.flatMap enc) = Part.row E size v (l1 ++ l2).length ((l1 ++ l2).flatMap enc) := by simp
theorem rows_snoc (E : TypeId) (v : Value) (l : List α) (x : α) : Part.row E size v (l.length + 1) (l.flatMap enc ++ enc x) = Part.row E size v (l ++ [x]).length ((l ++ [x]).flatMap enc) := by simp
end
inductive Picks : List Part → List Part → Prop
 | nil {L : List Part} : Picks L []
 | cons {A : Part} {L F K : List Part} : Sel A L F → Picks F K → Picks L (A :: K)
theorem Picks.perm {L K : List Part} (p : Picks L K) : ∃ F, L.Perm (K ++ F) := by
 induction p with
 | nil => exact ⟨_, .refl _⟩
 | cons s _ ih =>
  obtain ⟨F, hF⟩ := ih
  exact ⟨F, s.perm.trans (hF.cons _)⟩
theorem At.pick {L0 L K : List Part} {w0 w : World} (h : At L0 w0 L w) (p : Picks L K) : At L0 w0 K w := by
 obtain ⟨F, hF⟩ := p.perm
 exact (h.perm hF).sub (List.sublist_append_left _ _)
theorem At.seps {L0 L K : List Part} {w0 w : World} (h : At L0 w0 L w) (p : Picks L K) : Sep K w := (h.pick p).sep
theorem Sep.pick {L K : List Part} {w : World} (h : Sep L w) (p : Picks L K) : Sep K w := (At.start h).seps p
theorem At.row_hid {L0 L F : List Part} {w0 w : World} {e : TypeId} {size n : Nat} {v : Value} {xs : List Value} (h : At L0 w0 L w) (s : Sel (Part.row e size v n xs) L F) : ∃ ax k cap, v = .slice ax k cap ∧ Hid (k = n) := by
 obtain ⟨ax, cap, rfl, _, _, _⟩ := h.row_form s
 exact ⟨ax, n, cap, rfl, Lib.hid rfl⟩
section
variable {α : Type} {p : α → Bool}
end
end Go.Proofs.YtpebabaigakagaaGreatDoor
namespace Go.Proofs.YtpebabaigakagaaGreatDoor
theorem pZ {L K : List Part} (h : Picks L K := by repeat (first | exact Picks.nil | refine Picks.cons (by repeat (first | exact Sel.here | apply Sel.there)) ?_)) : Picks L K := h
end Go.Proofs.YtpebabaigakagaaGreatDoor
end
