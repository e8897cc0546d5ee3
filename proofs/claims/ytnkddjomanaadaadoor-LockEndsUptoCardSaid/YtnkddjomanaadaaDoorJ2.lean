/- Reg, SepW, Row, Row2, Row4, joined. -/
import Derived.StillTail
import Derived.Deep.Quiet
import Derived.Deep.QuietTactic
import Derived.Test.YtnkddjomanaadaaDoorJ1
import Derived.Deep.MidRow
import Derived.Maps.RangeWalk
section
namespace Go
set_option linter.unusedVariables false
set_option linter.unusedSimpArgs false

section
variable {P : Program} {ops : Array Oper} {md : Region.Mode} {C : World → Prop}

def wpAnyLQ (P : Program) (md : Region.Mode) (ops : Array Oper) (C : World → Prop) (n : Nat) (L : Array Bool → Act → Prop) : Nat → Array Bool → Act → Prop
  | 0, listed, a => L listed a
  | f + 1, listed, a =>
    Region.ready md ops listed ≠ [] ∧ ∀ i ∈ Region.ready md ops listed, i < n ∧ qOp P ops C i (wpAnyLQ P md ops C n L f (listed.setIfInBounds i true)) a

theorem wpAny_of_headQ {n g : Nat} {L : Array Bool → Act → Prop} {Q' : Exit → Act → World → Prop} (hL : ∀ listed a w, C w → L listed a → wpAny P md ops Q' g listed a w) :
    ∀ (f : Nat) (listed : Array Bool) (a : Act) (w : World), C w → wpAnyLQ P md ops C n L f listed a → wpAny P md ops Q' (f + g) listed a w
  | 0, listed, a, w, hw, h => by rw [Nat.zero_add]; exact hL _ _ _ hw h
  | f + 1, listed, a, w, hw, h => by
    rw [show f + 1 + g = (f + g) + 1 by omega]
    exact ⟨fun h0 => absurd h0 h.1, fun i hi => wpOp_of_qOp hw (fun a' w' hw' h' => wpAny_of_headQ hL f _ a' w' hw' h') (h.2 i hi).2⟩

theorem wpAnyLQ_first {n i : Nat} {oi : Oper} {v : Value} {L : Array Bool → Act → Prop} (hi : ops[i]? = some oi) (hsel : ∀ (j : Nat) (o : Oper) cs b, ops[j]? = some o → o.op ≠ .select cs b)
    (hs : Region.sinkB md ops n = true) (hc : Region.chainB md ops n = true) (hn : n < ops.size) (hin : i < n)
    (hdone : ∀ listed a, L listed a → ∀ j ∈ Region.ready md ops listed, n ≤ j) :
    ∀ (f : Nat) (listed : Array Bool) (a : Act), HeadInv md ops n listed →
      (∀ j oj, ops[j]? = some oj → j ≠ i → listed.getD j true = false → (∀ e ∈ oj.after, Region.binds md e = true → e.on ≠ i) → oi.apart ops oj = true) →
      i ∈ Region.ready md ops listed → YieldsIn P ops C oi v a →
      wpAnyLQ P md ops C n L f (listed.setIfInBounds i true) (a.put oi.dst v) → wpAnyLQ P md ops C n L (f + 1) listed a := by
  intro f
  induction f with
  | zero =>
    intro listed a inv _ hr hy H
    have hun := (mem_ready.1 hr).1
    refine ⟨fun h => (by rw [h] at hr; cases hr), fun j hj => ?_⟩
    have hjn : j < n := by
      rcases Nat.lt_or_ge j n with h | h
      · exact h
      · exact absurd hj (tail_waits hs hc hn inv _ i rfl hin hun j h)
    refine ⟨hjn, ?_⟩
    by_cases hji : j = i
    · subst hji; exact hy.qOp hi H
    · have := hdone _ _ H j (ready_mono hj hji)
      omega
  | succ f ih =>
    intro listed a inv hfree hr hy H
    have hun := (mem_ready.1 hr).1
    refine ⟨fun h => (by rw [h] at hr; cases hr), fun j hj => ?_⟩
    have hjn : j < n := by
      rcases Nat.lt_or_ge j n with h | h
      · exact h
      · exact absurd hj (tail_waits hs hc hn inv _ i rfl hin hun j h)
    refine ⟨hjn, ?_⟩
    by_cases hji : j = i
    · subst hji; exact hy.qOp hi H
    · have h1 := (H.2 j (ready_mono hj hji)).2
      obtain ⟨hjun, oj, hoj, hall⟩ := mem_ready.1 hj
      have hnot : ∀ e ∈ oj.after, Region.binds md e = true → e.on ≠ i := fun e he hb heq => by
        have h1 := hall e he hb
        rw [heq, getD_both hun] at h1
        cases h1
      have h2 := qOp_put hoj (hfree j oj hoj hji hjun hnot) (fun cs b => hsel i oi cs b hi) (fun cs b => hsel j oj cs b hoj) hy h1
      have hfree' : ∀ k ok, ops[k]? = some ok → k ≠ i → (listed.setIfInBounds j true).getD k true = false →
          (∀ e ∈ ok.after, Region.binds md e = true → e.on ≠ i) → oi.apart ops ok = true := fun k ok hk hki hun hno => by
        refine hfree k ok hk hki ?_ hno
        by_cases hjk : j = k
        · subst hjk; exact hjun
        · rw [getD_set_ne true hjk] at hun; exact hun
      refine qOp_mono (fun a' h3 => ih (listed.setIfInBounds j true) a' (inv.set hj hjn) hfree' (ready_mono hr (Ne.symm hji)) h3.1 ?_) h2
      rw [Array.setIfInBounds_comm _ _ hji]
      exact h3.2

theorem wpAnyLQ_lex {n g : Nat} {Lq : Act → Prop} (hsel : Region.noSelect ops = true) (hs : Region.sinkB md ops n = true) (hc : Region.chainB md ops n = true) (hn : n < ops.size) :
    ∀ (l : List Oper) (k : Nat) (listed : Array Bool) (a : Act), (∀ j, j < l.length → l[j]? = ops[k + j]?) → k + l.length = n → HeadInv md ops n listed →
    Region.lexHead md ops g l.length k listed = true → wpQuiet P ops C Lq l a →
    wpAnyLQ P md ops C n (fun listed' a' => Region.seqB md ops g n listed' = true ∧ Lq a') l.length listed a
  | [], k, listed, a, _, hk, _, hB, h => by
    have : k = n := by simpa using hk
    subst this
    exact ⟨by simpa [Region.lexHead] using hB, h⟩
  | o :: l, k, listed, a, hl, hk, inv, hB, h => by
    have h0 : ops[k]? = some o := by simpa using (hl 0 (by simp)).symm
    simp only [List.length_cons, Region.lexHead, Bool.and_eq_true] at hB
    obtain ⟨⟨hr, hf⟩, hB'⟩ := hB
    have hkn : k < n := by simp only [List.length_cons] at hk; omega
    have hr' : k ∈ Region.ready md ops listed := by simpa using hr
    have hst : qOp P ops C k (wpQuiet P ops C Lq l) a := by unfold qOp; simp only [h0]; exact h
    obtain ⟨v, hy, hK⟩ := yieldsIn_of_qOp h0 hst
    exact wpAnyLQ_first h0 (Region.noSelect_spec hsel) hs hc hn hkn (fun listed' a' hL => seqB_ready hL.1) l.length listed a inv (Region.free_spec h0 hf) hr' hy
      (wpAnyLQ_lex hsel hs hc hn l (k + 1) _ _ (fun j hj => by have := hl (j + 1) (by simp; omega); simpa [Nat.add_assoc, Nat.add_comm 1 j] using this) (by simp only [List.length_cons] at hk; omega) (inv.set hr' hkn) hB' hK)

/-- QUIET FIRST, THEN A ROW: the first n operations are quiet in the class C; those behind them come one by one, in the text's order. -/
theorem wp_region_head {id : Nat} {Q : Exit → Act → World → Prop} {a : Act} {w : World} {l : List Oper} (n : Nat) (C : World → Prop) (hm : P.follows .mixedOrders = true) (hB : Region.lexTailB .any l.toArray n = true)
    (hC : C w.drew) (h : wpQuiet P l.toArray C (fun a' => ∀ w', C w' → wpList P l.toArray Q (l.drop n) a' w') (l.take n) a) : (Code.region id l.toArray true).wp P Q a w := by
  simp only [Region.lexTailB, Bool.and_eq_true, decide_eq_true_eq] at hB
  obtain ⟨⟨⟨⟨hsel, hn⟩, hs⟩, hc⟩, hlex⟩ := hB
  have hn' : n < l.length := by simpa using hn
  have htl : (l.take n).length = n := by simp; omega
  have hdl : (l.drop n).length = l.toArray.size - n := by simp
  have inv0 : HeadInv .any l.toArray n (Array.replicate l.toArray.size false) :=
    ⟨by simp, fun j oj _ hl => (by rw [getD_replicate_false] at hl; cases hl), fun t _ ht => getD_in (by simpa using ht) (getD_replicate_false _ _)⟩
  have H := wpAnyLQ_lex (C := C) (md := .any) (g := l.toArray.size - n) hsel hs hc hn (l.take n) 0 _ a (fun j hj => by
    have hj' : j < n := by rw [htl] at hj; exact hj
    simp [hj']) (by simpa using htl) inv0 (by rw [htl]; exact hlex) h
  refine wp_region_any hm ?_
  have := wpAny_of_headQ (Q' := Q) (g := l.toArray.size - n) (fun listed a' w' hw' hL => by
    have := wpAny_of_seq (md := .any) (Q' := Q) (l.drop n) n listed a' w' (fun j => by simp [List.getElem?_drop]) (by rw [hdl]; exact hL.1) (hL.2 w' hw')
    rwa [hdl] at this) _ _ _ _ hC H
  rw [htl, show n + (l.toArray.size - n) = l.toArray.size by omega] at this
  exact this

theorem wp_region_all {id : Nat} {Q : Exit → Act → World → Prop} {a : Act} {w : World} {l : List Oper} (C : World → Prop) (hm : P.follows .mixedOrders = true) (hB : Region.lexB .any l.toArray = true)
    (hC : C w.drew) (h : wpQuiet P l.toArray C (fun a' => ∀ w', C w' → Q .normal a' w') l a) : (Code.region id l.toArray true).wp P Q a w :=
  wp_region_quiet (C := C) hm hB hC (by simpa using h)
end
end Go
end

section
namespace Go.Proofs.YtnkddjomanaadaaDoor
open Go.RowKit
set_option linter.unusedVariables false
set_option linter.unusedSimpArgs false

section
variable {P : Program} {ops : Array Oper} {rest : List Oper} {o : Oper} {a : Act} {Q : Exit → Act → World → Prop} {L0 L F : List Part} {w0 w : World}

theorem wpList_val (hg : o.guard = none) {v : Value} {w' : World} (hrun : (execOp a.eval o).run P w = .ok (.value v) w') (hK : wpList P ops Q rest (a.put o.dst v) w') : wpList P ops Q (o :: rest) a w :=
  wpList_plain hg fun _ hK' => by unfold Oper.wp; rw [hrun]; exact hK' _ _ hK
theorem wpList_unit (hg : o.guard = none) {w' : World} (hrun : (execOp a.eval o).run P w = .ok .skip w') (hK : wpList P ops Q rest (a.put o.dst undef) w') : wpList P ops Q (o :: rest) a w :=
  wpList_plain hg fun _ hK' => by unfold Oper.wp; rw [hrun]; exact hK' _ _ hK

theorem run_storeAt_cells (w : World) (b j : Nat) (ty : TypeId) (v : Value) (ht : w.there b j v.cells.size) (hi : (P.info? ty).map (·.size) = some v.cells.size) (h1 : v.cells.all (·.oneCell') = true) :
    (Instr.storeAt ty (.pointer (some ⟨b, j, none⟩)) v).run P w = .ok () (w.setCells b j v.cells.toList) := by
  have := run_storeCells_cells (P := P) b j v.cells.toList 0 w (fun k hk => by simpa using (ht k (by simpa using hk)).1) (fun k hk => by simpa using (ht k (by simpa using hk)).2)
    (fun u hu => (Array.all_eq_true_iff_forall_mem.1 h1) u (by simpa using hu))
  cases hq : P.info? ty with
  | none => simp [hq] at hi
  | some i =>
    have hs : v.cells.size = i.size := by simp [hq] at hi; omega
    simp only [Nat.add_zero] at this
    simp [Instr.storeAt, Instr.sureAddr, storeVar, sizeOf, typeInfo, hq, hs, this]

theorem BlockIs.there {b : Nat} {c : List Value} {T : TypeId} (h : BlockIs w b c T) (j n : Nat) (hj : j + n ≤ c.length) : w.there b j n := fun k hk =>
  ⟨by rw [h.cell, List.getElem?_eq_getElem (by omega)]; rfl, h.free _⟩

/-- a store -/
theorem wpList_store_at {ty : TypeId} {x y : Operand} (hg : o.guard = none) (hop : o.op = .store ty x y) {b j : Nat} (hx : a.eval x = .pointer (some ⟨b, j, none⟩)) {v : Value} (hy : a.eval y = v) {vs : List Value} (hv : v.cells = vs.toArray)
    (h : At L0 w0 L w) {c : List Value} {T : TypeId} (s : Sel (Part.cells b c T) L F) (hi : (P.info? ty).map (·.size) = some vs.length) (h1 : vs.all (·.oneCell') = true) (hj : j + vs.length ≤ c.length)
    (hK : ∀ w', At L0 w0 (Part.cells b (setL c j vs) T :: F) w' → wpList P ops Q rest (a.put o.dst undef) w') : wpList P ops Q (o :: rest) a w := by
  have hb : BlockIs w b c T := h.get s
  have hs : v.cells.size = vs.length := by rw [hv]; simp
  have h1' : v.cells.all (·.oneCell') = true := by
    rw [hv, Array.all_eq_true_iff_forall_mem]
    intro u hu
    exact List.all_eq_true.1 h1 u (by simpa using hu)
  have hrun := run_storeAt_cells (P := P) w b j ty v (hb.there j _ (by omega)) (by rw [hs]; exact hi) h1'
  rw [show v.cells.toList = vs from by rw [hv]] at hrun
  refine wpList_unit hg ?_ (hK _ (h.stores s j vs))
  simp [execOp, hop, hx, hy, hrun, Result.andThen]

/-- a box -/
theorem wpList_box_at {E : TypeId} {x : Operand} (hg : o.guard = none) (hop : o.op = .box E x) {v : Value} (hx : a.eval x = v) {vs : List Value} (hv : v.cells = vs.toArray) (h : At L0 w0 L w)
    (hK : ∀ b w', At L0 w0 (Part.cells b vs E :: L) w' → w0.heap.size ≤ b → wpList P ops Q rest (a.put o.dst (.pointer (some ⟨b, 0, none⟩))) w') : wpList P ops Q (o :: rest) a w := by
  refine wpList_val hg ?_ (hK _ _ (h.alloc vs E) h.size)
  simp [execOp, hop, hx, Instr.box, newVar, newRow, hv, Result.andThen]

/-- a new variable -/
theorem wpList_alloc_at {E : TypeId} (hg : o.guard = none) (hop : o.op = .alloc E) {z : Value} (hz : (P.info? E).map (·.zero) = some (some z)) {vs : List Value} (hv : z.cells = vs.toArray) (h : At L0 w0 L w)
    (hK : ∀ b w', At L0 w0 (Part.cells b vs E :: L) w' → w0.heap.size ≤ b → wpList P ops Q rest (a.put o.dst (.pointer (some ⟨b, 0, none⟩))) w') : wpList P ops Q (o :: rest) a w := by
  refine wpList_val hg ?_ (hK _ _ (h.alloc vs E) h.size)
  cases hq : P.info? E with
  | none => simp [hq] at hz
  | some i =>
    have hi : i.zero = some z := by simpa [hq] using hz
    simp [execOp, hop, Instr.alloc, zeroValue, typeInfo, hq, hi, newVar, newRow, hv, Result.andThen]

/-! ### Quiet in the class of the worlds in which the same parts stand -/
/-- the class -/
def Cl (L0 : List Part) (w0 : World) (L : List Part) (w : World) : Prop := At L0 w0 L w
theorem Cl.drew (h : At L0 w0 L w) : Cl L0 w0 L w.drew := At.drew h
theorem Cl.none (h : At L0 w0 L w) (p : Prop) : (∀ w', Cl L0 w0 L w' → p) = p := propext ⟨fun q => q w h, fun q _ _ => q⟩
theorem Cl.none2 (h : At L0 w0 L w) (p : Prop) : (∀ w', Cl L0 w0 L w' → w' = w' ∧ p) = p := propext ⟨fun q => (q w h).2, fun q _ _ => ⟨rfl, q⟩⟩
theorem quiet_at {K : Act → Prop} (v : Value) (hrun : ∀ w', At L0 w0 L w' → (execOp a.eval o).run P w' = .ok (.value v) w') (hk : K (a.put o.dst v)) : o.quiet P a (Cl L0 w0 L) K :=
  ⟨v, fun w hw => by unfold Oper.quietAt; rw [hrun w hw]; exact ⟨rfl, rfl⟩, hk⟩
theorem run_load_one {ty : TypeId} {x : Operand} (hop : o.op = .load ty x) {b j : Nat} (hx : a.eval x = .pointer (some ⟨b, j, none⟩)) {c : List Value} {T : TypeId} (hb : BlockIs w b c T) (hu : (P.underlying ty).map (·.isRow) = some false) {v : Value} (hv : c[j]? = some v) :
    (execOp a.eval o).run P w = .ok (.value v) w := by
  obtain ⟨d, hu, hd⟩ := Option.map_eq_some_iff.1 hu
  have hagg : (isAgg ty).run P w = .ok false w := by
    unfold isAgg
    rw [Sem.run_bind, run_underlying hu w]
    cases d <;> simp_all
  have hc : w.cell? ⟨b, j, none⟩ = some v := by rw [hb.cell, hv]
  simp [execOp, hop, hx, Instr.loadAt, Instr.sureAddr, loadVar, Sem.run_bind, hagg, Result.andThen, run_load, hc]
theorem run_load_row {ty : TypeId} {x : Operand} (hop : o.op = .load ty x) {b j : Nat} (hx : a.eval x = .pointer (some ⟨b, j, none⟩)) {c : List Value} {T : TypeId} (hb : BlockIs w b c T) (hu : (P.underlying ty).map (·.isRow) = some true) {n : Nat} (hi : (P.info? ty).map (·.size) = some n) {vs : List Value} (hv : (c.drop j).take n = vs) (hl : vs.length = n) : (execOp a.eval o).run P w = .ok (.value (.agg vs.toArray)) w := by
  obtain ⟨d, hu, hd⟩ := Option.map_eq_some_iff.1 hu
  subst hl
  have hr : w.rangeAt b j vs := fun k v hk => by
    have hlt := (List.getElem?_eq_some_iff.1 hk).1
    rw [← hv, List.getElem?_take, if_pos hlt, List.getElem?_drop] at hk
    rw [hb.cell, hk]
  simp [execOp, hop, hx, run_loadAt_mid w b j ty vs d hr hu hd hi, Result.andThen]
theorem quiet_load_at {K : Act → Prop} {ty : TypeId} {x : Operand} (hop : o.op = .load ty x) {b j : Nat} (hx : a.eval x = .pointer (some ⟨b, j, none⟩)) {c : List Value} {T : TypeId} (s : Sel (Part.cells b c T) L F) (hu : (P.underlying ty).map (·.isRow) = some false) {v : Value} (hv : c[j]? = some v)
    (hk : K (a.put o.dst v)) : o.quiet P a (Cl L0 w0 L) K := quiet_at v (fun _ hw => run_load_one hop hx (hw.get s) hu hv) hk
theorem quiet_loads_at {K : Act → Prop} {ty : TypeId} {x : Operand} (hop : o.op = .load ty x) {b j : Nat} (hx : a.eval x = .pointer (some ⟨b, j, none⟩)) {c : List Value} {T : TypeId} (s : Sel (Part.cells b c T) L F) (hu : (P.underlying ty).map (·.isRow) = some true) {n : Nat} (hi : (P.info? ty).map (·.size) = some n) {vs : List Value} (hv : (c.drop j).take n = vs) (hl : vs.length = n) (hk : K (a.put o.dst (.agg vs.toArray))) : o.quiet P a (Cl L0 w0 L) K := quiet_at _ (fun _ hw => run_load_row hop hx (hw.get s) hu hi hv hl) hk
/-- the worlds of the class, once the region is left -/
theorem Cl.out (h : Cl L0 w0 L w) : At L0 w0 L w := h
end
end Go.Proofs.YtnkddjomanaadaaDoor
end

section
namespace Go.Proofs.YtnkddjomanaadaaDoor
open Go.RowKit
set_option linter.unusedVariables false
set_option linter.unusedSimpArgs false

/-- a slice that owns its row -/
def Part.row (e : TypeId) (size : Nat) (v : Value) (n : Nat) (xs : List Value) : Part where
  holds w := w.ownsRow 0 e size v n xs
  foot b := v.ownBlock = some b
  lt := fun w h b hb => by
    rcases h.2 with ⟨rfl, _⟩ | ⟨g, cap, cur, rfl, _, hh, _⟩
    · exact nomatch hb
    · cases hb
      exact lt_of_some hh
  stay := fun w w' h q => by
    rcases h.2 with h2 | ⟨g, cap, cur, hv, hg, hh, r⟩
    · exact ⟨h.1, .inl h2⟩
    · exact ⟨h.1, .inr ⟨g, cap, cur, hv, hg, (q g (by rw [hv]; rfl)).trans hh, r⟩⟩
theorem facts_row (e : TypeId) (size : Nat) (v : Value) (n : Nat) (xs : List Value) (w : World) : (Part.row e size v n xs).facts w = True := rfl
theorem exc_grown {w w' : World} {row : Option Nat} (h : w.grownBy w' row) : Exc (fun k => row = some k) w w' := by
  obtain ⟨h1, h2, h3, h4, h5⟩ := h
  exact ⟨h1, h2, h3, h4, fun k hk hn => h5 k hk (fun e => hn e.symm)⟩

section
variable {P : Program} {ops : Array Oper} {rest : List Oper} {o : Oper} {a : Act} {Q : Exit → Act → World → Prop} {L0 L F : List Part} {w0 w : World} {e : TypeId} {size n : Nat} {v : Value} {xs : List Value}

theorem At.row_form (h : At L0 w0 L w) (s : Sel (Part.row e size v n xs) L F) : ∃ ax cap, v = .slice ax n cap ∧ (ax = none → n = 0) ∧ n ≤ cap ∧ xs.length = n * size := by
  have hr : w.ownsRow 0 e size v n xs := h.get s
  rcases hr.2 with ⟨rfl, rfl⟩ | ⟨g, cap, cur, rfl, _, _, hc, _⟩
  · exact ⟨none, 0, rfl, fun _ => rfl, Nat.le_refl _, hr.1⟩
  · exact ⟨_, cap, rfl, nofun, hc, hr.1⟩
theorem At.row_open {ax : Option Addr} {cap : Nat} (h : At L0 w0 L w) (s : Sel (Part.row e size (.slice ax n cap) n xs) L F) (hn : 0 < n) :
    ∃ g c, ax = some ⟨g, 0, none⟩ ∧ n ≤ cap ∧ cap ≤ maxLen ∧ c.length = cap * size ∧ c.take (n * size) = xs ∧ At L0 w0 (Part.cells g c e :: F) w := by
  have hr : w.ownsRow 0 e size (.slice ax n cap) n xs := h.get s
  rcases hr.2 with ⟨hv, rfl⟩ | ⟨g, cap', cur, hv, _, hh, hc, hm, hs, ht⟩
  · omega
  · cases hv
    exact ⟨g, cur.toList, rfl, hc, hm, by simpa using hs, ht, h.turn s (Part.cells g cur.toList e) (show BlockIs w g _ e from (by unfold BlockIs; simpa using hh)) (fun b hb => .inl (by cases hb; rfl)) (Exc.refl _ _)⟩
theorem At.row_shut {g cap : Nat} {c : List Value} (h : At L0 w0 L w) (s : Sel (Part.cells g c e) L F) (hl : c.length = cap * size) (hn : n ≤ cap) (hm : cap ≤ maxLen) (ht : c.take (n * size) = xs) :
    At L0 w0 (Part.row e size (.slice (some ⟨g, 0, none⟩) n cap) n xs :: F) w := by
  subst ht
  exact h.turn s (Part.row e size (.slice (some ⟨g, 0, none⟩) n cap) n (c.take (n * size))) (own_of (h.get s : BlockIs w g c e) hl hn hm) (fun b hb => .inl (by simp [Part.row, Value.ownBlock] at hb; exact hb.symm)) (Exc.refl _ _)
theorem At.row_nil (h : At L0 w0 L w) (e : TypeId) (size : Nat) : At L0 w0 (Part.row e size (.slice none 0 0) 0 [] :: L) w :=
  h.new (Ext.refl w) _ ⟨by simp, .inl ⟨rfl, rfl⟩⟩ (fun b hb => nomatch hb)
theorem At.row_new {w' : World} (h : At L0 w0 L w) (hx : Ext w w') (ho : w'.ownsRow w.heap.size e size v n xs) : At L0 w0 (Part.row e size v n xs :: L) w' :=
  h.new hx _ (own_base ho (Nat.zero_le _)) (fun b hb => own_ge ho b hb)
theorem At.row_reads (h : At L0 w0 L w) (s : Sel (Part.row e size v n xs) L F) : Reads w v n xs := own_reads (h.get s : w.ownsRow 0 e size v n xs)
theorem At.cells_reads {b : Nat} {c : List Value} {T : TypeId} (h : At L0 w0 L w) (s : Sel (Part.cells b c T) L F) (m cap : Nat) : Reads w (.slice (some ⟨b, 0, none⟩) m cap) m c :=
  ⟨_, _, rfl, nofun, fun j u hj => ⟨b, 0, rfl, by rw [Nat.zero_add]; exact ((h.get s : BlockIs w b c T).cell j).trans hj⟩⟩
/-- a row of rows of cells, taken by cells -/
theorem flat_at {α : Type} (enc : α → List Value) (size : Nat) (hs : ∀ x, (enc x).length = size) : ∀ (l : List α) (k : Nat) (x : α), l[k]? = some x → ∀ j, j < size → (l.flatMap enc)[k * size + j]? = (enc x)[j]?
  | y :: l, 0, x, hx, j, hj => by
    simp at hx; subst hx
    rw [List.flatMap_cons, Nat.zero_mul, Nat.zero_add, List.getElem?_append_left (by rw [hs]; exact hj)]
  | y :: l, k + 1, x, hx, j, hj => by
    rw [List.flatMap_cons, List.getElem?_append_right (by rw [hs, Nat.add_mul]; omega), hs, show (k + 1) * size + j - size = k * size + j by rw [Nat.add_mul]; omega]
    exact flat_at enc size hs l k x (by simpa using hx) j hj
  | [], k, x, hx, j, hj => by simp at hx
theorem flat_len {α : Type} (enc : α → List Value) (size : Nat) (hs : ∀ x, (enc x).length = size) : ∀ (l : List α), (l.flatMap enc).length = l.length * size
  | [] => by simp
  | x :: l => by rw [List.flatMap_cons, List.length_append, flat_len enc size hs l, hs, List.length_cons, Nat.add_mul]; omega
theorem cells_at {α : Type} {enc : α → List Value} {size : Nat} (hs : ∀ x, (enc x).length = size) {c : List Value} {l : List α} (ht : c.take (l.length * size) = l.flatMap enc) {k : Nat} {x : α} (hx : l[k]? = some x) (j : Nat) (hj : j < size) : c[k * size + j]? = (enc x)[j]? := by
  rw [← flat_at enc size hs l k x hx j hj, ← ht, List.getElem?_take_of_lt]
  have := (List.getElem?_eq_some_iff.1 hx).1
  calc k * size + j < k * size + size := by omega
    _ = (k + 1) * size := by rw [Nat.add_mul]; omega
    _ ≤ _ := Nat.mul_le_mul_right _ this

/-- append of a row that is read -/
theorem wpList_append_at {i : TypeInfo} {z : Value} {bytes : Nat} (hg : o.guard = none) (s' x : Operand) (t : TypeId) (ho : o.op = .call { callee := .builtin .append, args := #[s', x], argTypes := #[t, t] })
    (ht : P.underlying t = some (.slice e)) (hi : P.info? e = some i) (hz : i.zero = some z) (hsize : i.size = size) (hby : i.bytes = bytes) (hzs : z.cells.size = size) (hsz : 0 < size)
    (h : At L0 w0 L w) (s : Sel (Part.row e size v n xs) L F) (hs : a.eval s' = v) {xv : Value} {m : Nat} {news : List Value} (hxv : a.eval x = xv) (hl : news.length = m * size) (hx : Reads w xv m news) (h1 : ∀ u ∈ news, u.oneCell' = true)
    (h63 : n + m ≤ maxLen) (hbytes : (n + m) * bytes ≤ 140737488355328)
    (hK : ∀ v' w', At L0 w0 (Part.row e size v' (n + m) (xs ++ news) :: F) w' → wpList P ops Q rest (a.put o.dst v') w') : wpList P ops Q (o :: rest) a w :=
  wpList_append_all w hg s' x t ho 0 e i z size bytes ht hi hz hsize hby hzs hsz v n xs hs (h.get s) xv m news hxv hl hx h1 h63 hbytes (Nat.zero_le _) fun v' w' h2 h3 h4 =>
    hK v' w' (h.turn s _ h2 (fun b hb => by
      rcases h4 with h4 | h4
      · exact .inl (show v.ownBlock = some b from by rw [← h4]; exact hb)
      · right
        have hb' : v'.ownBlock = some b := hb
        rw [h4] at hb'
        cases hb'
        exact Nat.le_refl _) (exc_grown h3))
/-- a row of one element is laid -/
theorem wpList_one_at {t : TypeId} {x : Operand} (hg : o.guard = none) (hop : o.op = .buildSlice t 1 #[(0, x)]) {xv : Value} (hx : a.eval x = xv) {vs : List Value}
    (hrun : ∀ w, (Instr.buildSlice t 1 #[(0, xv)]).run P w = .ok (.slice (some ⟨w.heap.size, 0, none⟩) 1 1) (w.alloc (.cells vs.toArray e)))
    (h : At L0 w0 L w)
    (hK : ∀ b w', At L0 w0 (Part.cells b vs e :: L) w' → w0.heap.size ≤ b → wpList P ops Q rest (a.put o.dst (.slice (some ⟨b, 0, none⟩) 1 1)) w') : wpList P ops Q (o :: rest) a w := by
  refine wpList_val hg ?_ (hK _ _ (h.alloc vs e) h.size)
  simp [execOp, hop, hx, hrun, Result.andThen]
end
end Go.Proofs.YtnkddjomanaadaaDoor
end

section
namespace Go.Proofs.YtnkddjomanaadaaDoor
open Go.RowKit
set_option linter.unusedVariables false
set_option linter.unusedSimpArgs false

section
variable {P : Program} {ops : Array Oper} {rest : List Oper} {o : Oper} {a : Act} {Q : Exit → Act → World → Prop} {w : World} {e : TypeId} {size n : Nat} {v : Value} {xs : List Value}
theorem own_form {base : Nat} (h : w.ownsRow base e size v n xs) : ∃ ax cap, v = .slice ax n cap ∧ n ≤ cap ∧ cap ≤ maxLen ∧ xs.length = n * size ∧ (ax = none ∧ n = 0 ∧ cap = 0 ∨ ∃ g, ax = some ⟨g, 0, none⟩ ∧ ∀ j u, xs[j]? = some u → w.cell? ⟨g, j, none⟩ = some u) := by
  rcases h.2 with ⟨rfl, rfl⟩ | ⟨g, cap, cur, rfl, hb, hh, hc, hm, hs, ht⟩
  · exact ⟨none, 0, rfl, Nat.le_refl _, Nat.zero_le _, h.1, .inl ⟨rfl, rfl, rfl⟩⟩
  · refine ⟨_, cap, rfl, hc, hm, h.1, .inr ⟨g, rfl, fun j u hj => ?_⟩⟩
    have := h.cells (g := g) rfl j u hj
    rw [Addr.add_lit, Nat.zero_add] at this
    exact this
theorem run_slice_to {t : TypeId} {i : TypeInfo} (ht : P.underlying t = some (.slice e)) (hi : P.info? e = some i) (hsize : i.size = size) (hr : w.ownsRow 0 e size v n xs) (k : Nat) (hk : k ≤ n) :
    ∃ xv, (Instr.sliceAt t v none (some (.int .i64 k)) none).run P w = .ok xv w ∧ Reads w xv k (xs.take (k * size)) := by
  obtain ⟨ax, cap, rfl, hc, hm, hl, hx⟩ := own_form hr
  have hz : ∀ w, (sizeOf e).run P w = .ok size w := fun w => by simp [sizeOf, typeInfo, hi, hsize]
  refine ⟨.slice (if cap = 0 then ax else ax.map (·.add (0 * size))) k cap, ?_, ?_⟩
  · simp [Instr.sliceAt, Instr.slice, run_underlying ht, Instr.sliceBounds, run_sliceBound, hz, Result.andThen, show (k : Int) ≤ cap by omega]
  · rcases hx with ⟨rfl, rfl, rfl⟩ | ⟨g, rfl, hcell⟩
    · have : xs = [] := List.eq_nil_of_length_eq_zero (by simpa using hl)
      subst this
      exact ⟨_, _, rfl, fun _ => by omega, fun j u hj => by simp at hj⟩
    · refine ⟨_, _, rfl, ?_, fun j u hj => ⟨g, 0, ?_, ?_⟩⟩
      · intro h; split at h <;> simp at h
      · split <;> simp [Addr.add]
      · rw [Nat.zero_add]
        rw [List.getElem?_take] at hj
        split at hj
        · exact hcell j u hj
        · exact nomatch hj
theorem run_slice_from {t : TypeId} {i : TypeInfo} (ht : P.underlying t = some (.slice e)) (hi : P.info? e = some i) (hsize : i.size = size) (hr : w.ownsRow 0 e size v n xs) (k : Nat) (hk : k ≤ n) :
    ∃ xv, (Instr.sliceAt t v (some (.int .i64 k)) none none).run P w = .ok xv w ∧ Reads w xv (n - k) (xs.drop (k * size)) := by
  obtain ⟨ax, cap, rfl, hc, hm, hl, hx⟩ := own_form hr
  have hz : ∀ w, (sizeOf e).run P w = .ok size w := fun w => by simp [sizeOf, typeInfo, hi, hsize]
  refine ⟨.slice (if cap = k then ax else ax.map (·.add (k * size))) (n - k) (cap - k), ?_, ?_⟩
  · simp [Instr.sliceAt, Instr.slice, run_underlying ht, Instr.sliceBounds, run_sliceBound, hz, Result.andThen, show (k : Int) ≤ n by omega]
  · rcases hx with ⟨rfl, rfl, rfl⟩ | ⟨g, rfl, hcell⟩
    · have : xs = [] := List.eq_nil_of_length_eq_zero (by simpa using hl)
      subst this
      exact ⟨_, _, rfl, fun _ => by omega, fun j u hj => by simp at hj⟩
    · refine ⟨_, _, rfl, ?_, fun j u hj => ⟨g, if cap = k then 0 else k * size, ?_, ?_⟩⟩
      · intro h; split at h <;> simp at h
      · split
        · rfl
        · rw [Option.map_some, Addr.add_lit, Nat.zero_add]
      · have hjl := (List.getElem?_eq_some_iff.1 hj).1
        rw [List.length_drop, hl] at hjl
        have hne : cap ≠ k := by
          intro h
          have : n = k := by omega
          subst this
          omega
        rw [if_neg hne]
        rw [List.getElem?_drop] at hj
        exact hcell _ u hj
theorem wpList_slice_to {t : TypeId} {i : TypeInfo} {x hi' : Operand} {k : Nat} (hg : o.guard = none) (hop : o.op = .slice t x none (some hi') none) (ht : P.underlying t = some (.slice e)) (hi : P.info? e = some i) (hsize : i.size = size) (hx : a.eval x = v) (hh : a.eval hi' = .int .i64 k)
    (hr : w.ownsRow 0 e size v n xs) (hk : k ≤ n) (hK : ∀ xv, Reads w xv k (xs.take (k * size)) → wpList P ops Q rest (a.put o.dst xv) w) : wpList P ops Q (o :: rest) a w := by
  obtain ⟨xv, h1, h2⟩ := run_slice_to (P := P) ht hi hsize hr k hk
  refine wpList_val hg ?_ (hK xv h2)
  simp [execOp, hop, hx, hh, h1, Result.andThen]
theorem wpList_slice_from {t : TypeId} {i : TypeInfo} {x lo : Operand} {k : Nat} (hg : o.guard = none) (hop : o.op = .slice t x (some lo) none none) (ht : P.underlying t = some (.slice e)) (hi : P.info? e = some i) (hsize : i.size = size) (hx : a.eval x = v) (hh : a.eval lo = .int .i64 k)
    (hr : w.ownsRow 0 e size v n xs) (hk : k ≤ n) (hK : ∀ xv, Reads w xv (n - k) (xs.drop (k * size)) → wpList P ops Q rest (a.put o.dst xv) w) : wpList P ops Q (o :: rest) a w := by
  obtain ⟨xv, h1, h2⟩ := run_slice_from (P := P) ht hi hsize hr k hk
  refine wpList_val hg ?_ (hK xv h2)
  simp [execOp, hop, hx, hh, h1, Result.andThen]
end
end Go.Proofs.YtnkddjomanaadaaDoor
end

section
namespace Go.Proofs.YtnkddjomanaadaaDoor
open Go.RowKit
set_option linter.unusedVariables false
set_option linter.unusedSimpArgs false

section
variable {α : Type} {enc : α → List Value} {size : Nat}
theorem flat_take (hs : ∀ x, (enc x).length = size) : ∀ (l : List α) (k : Nat), (l.flatMap enc).take (k * size) = (l.take k).flatMap enc
  | [], k => by simp
  | x :: l, 0 => by simp
  | x :: l, k + 1 => by
    rw [List.take_succ_cons, List.flatMap_cons, List.flatMap_cons, ← flat_take hs l k, List.take_append, List.take_of_length_le (by rw [hs, Nat.add_mul]; omega), hs, show (k + 1) * size - size = k * size by rw [Nat.add_mul]; omega]
theorem flat_drop (hs : ∀ x, (enc x).length = size) : ∀ (l : List α) (k : Nat), (l.flatMap enc).drop (k * size) = (l.drop k).flatMap enc
  | [], k => by simp
  | x :: l, 0 => by simp
  | x :: l, k + 1 => by
    rw [List.drop_succ_cons, List.flatMap_cons, ← flat_drop hs l k, List.drop_append, List.drop_eq_nil_of_le (by rw [hs, Nat.add_mul]; omega), hs, show (k + 1) * size - size = k * size by rw [Nat.add_mul]; omega, List.nil_append]
theorem flat_one (h : ∀ x, ∀ u ∈ enc x, u.oneCell' = true) (l : List α) : ∀ u ∈ l.flatMap enc, u.oneCell' = true := by
  intro u hu
  obtain ⟨x, _, hx⟩ := List.mem_flatMap.1 hu
  exact h x u hx
theorem rows_app (E : TypeId) (v : Value) (l1 l2 : List α) : Part.row E size v (l1.length + l2.length) (l1.flatMap enc ++ l2.flatMap enc) = Part.row E size v (l1 ++ l2).length ((l1 ++ l2).flatMap enc) := by simp
theorem rows_snoc (E : TypeId) (v : Value) (l : List α) (x : α) : Part.row E size v (l.length + 1) (l.flatMap enc ++ enc x) = Part.row E size v (l ++ [x]).length ((l ++ [x]).flatMap enc) := by simp
end

/-- some parts of a list, in this order -/
inductive Picks : List Part → List Part → Prop
  | nil {L : List Part} : Picks L []
  | cons {A : Part} {L F K : List Part} : Sel A L F → Picks F K → Picks L (A :: K)
theorem Picks.perm {L K : List Part} (p : Picks L K) : ∃ F, L.Perm (K ++ F) := by
  induction p with
  | nil => exact ⟨_, .refl _⟩
  | cons s _ ih =>
    obtain ⟨F, hF⟩ := ih
    exact ⟨F, s.perm.trans (hF.cons _)⟩
theorem At.pick {L0 L K : List Part} {w0 w : World} (h : At L0 w0 L w) (p : Picks L K) : At L0 w0 K w := by
  obtain ⟨F, hF⟩ := p.perm
  exact (h.perm hF).sub (List.sublist_append_left _ _)
theorem At.seps {L0 L K : List Part} {w0 w : World} (h : At L0 w0 L w) (p : Picks L K) : Sep K w := (h.pick p).sep
theorem Sep.pick {L K : List Part} {w : World} (h : Sep L w) (p : Picks L K) : Sep K w := (At.start h).seps p
/-- a row's value, its length behind a letter -/
theorem At.row_hid {L0 L F : List Part} {w0 w : World} {e : TypeId} {size n : Nat} {v : Value} {xs : List Value} (h : At L0 w0 L w) (s : Sel (Part.row e size v n xs) L F) : ∃ ax k cap, v = .slice ax k cap ∧ Hid (k = n) := by
  obtain ⟨ax, cap, rfl, _, _, _⟩ := h.row_form s
  exact ⟨ax, n, cap, rfl, Lib.hid rfl⟩
section
variable {α : Type} {p : α → Bool}
theorem while_at : ∀ {l : List α} {i : Nat}, i ≤ l.length → (∀ x ∈ l.take i, p x = true) → (∀ h : i < l.length, p l[i] = false) → l.takeWhile p = l.take i ∧ l.dropWhile p = l.drop i
  | [], i, _, _, _ => by simp
  | y :: l, 0, _, _, h2 => by
    have := h2 (by simp)
    simp at this
    simp [this]
  | y :: l, i + 1, hi, h1, h2 => by
    have hy := h1 y (by simp)
    have := while_at (l := l) (i := i) (by simpa using hi) (fun x hx => h1 x (by simp [hx])) (fun h => h2 (by simp; exact h))
    simp [hy, this]
end
end Go.Proofs.YtnkddjomanaadaaDoor
end
