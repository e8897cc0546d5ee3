/- The walk's rules for a region in which one operation turns the world; allocations whose place is known. No program in sight. -/
import Derived.Test.YtnkddjomanaadaaRegT
import Derived.Test.YtnkddjomanaadaaRegA
import Derived.Test.YtnkddjomanaadaaMapW
namespace Go.Proofs.Ytnkddjomanaadaa
open Go.RowKit
set_option linter.unusedVariables false
set_option linter.unusedSimpArgs false

section
variable {P : Program} {ops : Array Oper} {rest : List Oper} {o : Oper} {a : Act} {Q : Exit → Act → World → Prop} {L0 L F : List Part} {w0 w : World} {S : Nat}
theorem wpList_box_sz {E : TypeId} {x : Operand} (hg : o.guard = none) (hop : o.op = .box E x) {v : Value} (hx : a.eval x = v) {vs : List Value} (hv : v.cells = vs.toArray) (h : At L0 w0 L w) (hS : w.heap.size = S)
    (hK : ∀ w', At L0 w0 (Part.cells S vs E :: L) w' → w'.heap.size = S + 1 → wpList P ops Q rest (a.put o.dst (.pointer (some ⟨S, 0, none⟩))) w') : wpList P ops Q (o :: rest) a w := by
  subst hS
  refine wpList_val hg ?_ (hK _ (h.alloc vs E) (by simp))
  simp [execOp, hop, hx, Instr.box, newVar, newRow, hv, Result.andThen]
theorem wpList_makeMap_sz {t : TypeId} (P : Program) (k : TypeId) (hg : o.guard = none) (hop : o.op = .makeMap t none) (h : At L0 w0 L w) (hS : w.heap.size = S)
    (hK : ∀ w', At L0 w0 (Part.map P k S [] :: L) w' → w'.heap.size = S + 1 → wpList P ops Q rest (a.put o.dst (.map (some S))) w') : wpList P ops Q (o :: rest) a w := by
  subst hS
  refine wpList_val hg ?_ (hK _ (h.new ((Ext.refl w).alloc (.map #[] 0)) _ (MapAt.made P k w) (fun _ e => by cases e; exact Nat.le_refl _)) (by simp))
  simp [execOp, hop, run_makeMap, Result.andThen]
end

section
variable {P : Program} {ops : Array Oper} {i : Nat} {o : Oper} {a : Act} {Q : Exit → Act → World → Prop} {K : Act → World → Prop} {L0 L F : List Part} {w0 w : World}
theorem wpOp_store_at {ty : TypeId} {x y : Operand} (ho : ops[i]? = some o) (hw : Region.wanted o (yielded ops a.tmps) = true) (hop : o.op = .store ty x y) {b j : Nat} (hx : a.eval x = .pointer (some ⟨b, j, none⟩)) {v : Value} (hy : a.eval y = v) {vs : List Value} (hv : v.cells = vs.toArray)
    (h : At L0 w0 L w) {c : List Value} {T : TypeId} (s : Sel (Part.cells b c T) L F) (hi : (P.info? ty).map (·.size) = some vs.length) (h1 : vs.all (·.oneCell') = true) (hj : j + vs.length ≤ c.length)
    (hK : ∀ w', At L0 w0 (Part.cells b (setL c j vs) T :: F) w' → K (a.put o.dst undef) w') : wpOp P ops Q i K a w := by
  have hb : BlockIs w b c T := h.get s
  have hs : v.cells.size = vs.length := by rw [hv]; simp
  have h1' : v.cells.all (·.oneCell') = true := by
    rw [hv, Array.all_eq_true_iff_forall_mem]
    intro u hu
    exact List.all_eq_true.1 h1 u (by simpa using hu)
  have hrun := run_storeAt_cells (P := P) w b j ty v (hb.there j _ (by omega)) (by rw [hs]; exact hi) h1'
  rw [show v.cells.toList = vs from by rw [hv]] at hrun
  refine wpOp_unit ho hw ?_ (hK _ (h.stores s j vs))
  simp [execOp, hop, hx, hy, hrun, Result.andThen]
end

/-- the class: ahead of the turn the parts L (and so many blocks), behind it the parts L' -/
def TurnC (L0 : List Part) (w0 : World) (L : List Part) (N : Nat) (L' : List Part) (c : Bool) (w : World) : Prop := if c = true then At L0 w0 L' w else At L0 w0 L w ∧ w.heap.size = N
section
variable {P : Program} {md : Region.Mode} {ops : Array Oper} {k n : Nat} {rest : List Oper} {o : Oper} {a : Act} {Q : Act → Prop} {L0 L L' : List Part} {w0 : World} {N : Nat}
theorem turnC_start {w : World} (h : At L0 w0 L w) (hN : w.heap.size = N) : TurnC L0 w0 L N L' false w.drew := by
  unfold TurnC
  rw [if_neg (by simp)]
  exact ⟨h.drew, hN⟩
theorem turnC_end {w : World} (h : TurnC L0 w0 L N L' true w) : At L0 w0 L' w := by unfold TurnC at h; rwa [if_pos rfl] at h
theorem turn_pure {C : Bool → World → Prop} (hw : Region.wanted o (yielded ops a.tmps) = true) (hnk : n ≠ k) {v : Value} (hrun : ∀ w, (execOp a.eval o).run P w = .ok (.value v) w) (hK : wpQuietL P md ops C k Q (n + 1) rest (a.put o.dst v)) :
    wpQuietL P md ops C k Q n (o :: rest) a := by
  refine wpQuietL_step fun K hh => ?_
  rw [hw]
  simp only [if_true]
  refine ⟨v, fun c c' hR w hC => ?_, hh _ hK⟩
  unfold Oper.turnAt
  rw [hrun w]
  refine ⟨rfl, rfl, ?_⟩
  unfold leg at hR
  rw [if_neg hnk] at hR
  split at hR
  · obtain ⟨rfl, rfl⟩ := hR; exact hC
  · subst hR; exact hC
/-- an operation that reads, in both classes -/
theorem turn_both (hw : Region.wanted o (yielded ops a.tmps) = true) (hnk : n ≠ k) {v : Value} (h1 : ∀ w, At L0 w0 L w → (execOp a.eval o).run P w = .ok (.value v) w) (h2 : ∀ w, At L0 w0 L' w → (execOp a.eval o).run P w = .ok (.value v) w)
    (hK : wpQuietL P md ops (TurnC L0 w0 L N L') k Q (n + 1) rest (a.put o.dst v)) : wpQuietL P md ops (TurnC L0 w0 L N L') k Q n (o :: rest) a := by
  refine wpQuietL_step fun K hh => ?_
  rw [hw]
  simp only [if_true]
  refine ⟨v, fun c c' hR w hC => ?_, hh _ hK⟩
  have hrun : (execOp a.eval o).run P w = .ok (.value v) w := by
    unfold TurnC at hC
    cases c
    · exact h1 w (by simpa using hC.1)
    · exact h2 w (by simpa using hC)
  unfold Oper.turnAt
  rw [hrun]
  refine ⟨rfl, rfl, ?_⟩
  unfold leg at hR
  rw [if_neg hnk] at hR
  split at hR
  · obtain ⟨rfl, rfl⟩ := hR; exact hC
  · subst hR; exact hC
/-- an operation that waits for the turn -/
theorem turn_wait (hw : Region.wanted o (yielded ops a.tmps) = true) (hnk : n ≠ k) (hwt : waitsB md ops k ops.size n = true) {v : Value} (h2 : ∀ w, At L0 w0 L' w → (execOp a.eval o).run P w = .ok (.value v) w)
    (hK : wpQuietL P md ops (TurnC L0 w0 L N L') k Q (n + 1) rest (a.put o.dst v)) : wpQuietL P md ops (TurnC L0 w0 L N L') k Q n (o :: rest) a := by
  refine wpQuietL_step fun K hh => ?_
  rw [hw]
  simp only [if_true]
  refine ⟨v, fun c c' hR w hC => ?_, hh _ hK⟩
  unfold leg at hR
  rw [if_neg hnk, if_pos hwt] at hR
  obtain ⟨rfl, rfl⟩ := hR
  unfold Oper.turnAt
  rw [h2 w (turnC_end hC)]
  exact ⟨rfl, rfl, hC⟩
/-- the turn: a call -/
theorem turn_call (hw : Region.wanted o (yielded ops a.tmps) = true) (hnk : n = k) {v : Value} {f : FuncId} {args : Array Value} (hrun : ∀ w, (execOp a.eval o).run P w = .ok (.enter f args) w)
    (hc : ∀ w, At L0 w0 L w → w.heap.size = N → Calls P f args w fun e w' => e = .returned v ∧ At L0 w0 L' w')
    (hK : wpQuietL P md ops (TurnC L0 w0 L N L') k Q (n + 1) rest (a.put o.dst v)) : wpQuietL P md ops (TurnC L0 w0 L N L') k Q n (o :: rest) a := by
  refine wpQuietL_step fun K hh => ?_
  rw [hw]
  simp only [if_true]
  refine ⟨v, fun c c' hR w hC => ?_, hh _ hK⟩
  unfold leg at hR
  rw [if_pos hnk] at hR
  obtain ⟨rfl, rfl⟩ := hR
  unfold Oper.turnAt
  rw [hrun w]
  unfold TurnC at hC
  simp only [Bool.false_eq_true, if_false] at hC
  refine ⟨rfl, (hc w hC.1 hC.2).mono fun e w' ⟨he, h⟩ => ⟨he, ?_⟩⟩
  unfold TurnC
  rw [if_pos rfl]
  exact h
end
end Go.Proofs.Ytnkddjomanaadaa
