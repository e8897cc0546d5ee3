/- Operations of a drawn region, one by one over parts: a new variable, a row of no element. No program in sight. -/
import Derived.Test.YtpbeennielgogaaDoorRegE
namespace Go
open _root_.Go.Proofs.YtpbeennielgogaaDoor
open Go.RowKit
set_option linter.unusedVariables false
set_option linter.unusedSimpArgs false

section
variable {P : Program} {ops : Array Oper} {Q : Exit → Act → World → Prop} {md : Region.Mode} {S : World → Prop} {L0 L F : List Part} {w0 w : World}
/-- a new variable -/
theorem opAlloc_at {i : Nat} {d : Option Tmp} {o : Oper} {a : Act} {K : Act → World → Prop} {E : TypeId} (ho : ops[i]? = some o) (hd : o.dst = d) (hw : Region.wanted o (yielded ops a.tmps) = true) (hop : o.op = .alloc E) {z : Value} (hz : (P.info? E).map (·.zero) = some (some z)) {vs : List Value} (hv : z.cells = vs.toArray) (h : At L0 w0 L w)
    (hK : ∀ b w', At L0 w0 (Part.cells b vs E :: L) w' → K (a.put d (.pointer (some ⟨b, 0, none⟩))) w') : wpOp P ops Q i K a w := by
  subst hd
  refine wpOp_val ho hw (v := .pointer (some ⟨w.heap.size, 0, none⟩)) (w' := w.alloc (.cells vs.toArray E)) ?_ (hK _ _ (h.alloc vs E))
  cases hq : P.info? E with
  | none => simp [hq] at hz
  | some i =>
    have hi : i.zero = some z := by simpa [hq] using hz
    simp [execOp, hop, Instr.alloc, zeroValue, typeInfo, hq, hi, newVar, newRow, hv, Result.andThen]
/-- a row of no element is laid -/
theorem opZero_at {i : Nat} {d : Option Tmp} {o : Oper} {a : Act} {K : Act → World → Prop} {t : TypeId} {e : TypeId} (size : Nat) (ho : ops[i]? = some o) (hd : o.dst = d) (hw : Region.wanted o (yielded ops a.tmps) = true) (hop : o.op = .buildSlice t 0 #[])
    (hrun : ∀ w, (Instr.buildSlice t 0 #[]).run P w = .ok (.slice (some ⟨w.heap.size, 0, none⟩) 0 0) (w.alloc (.cells #[] e))) (h : At L0 w0 L w)
    (hK : ∀ b w', At L0 w0 (Part.row e size (.slice (some ⟨b, 0, none⟩) 0 0) 0 [] :: L) w' → K (a.put d (.slice (some ⟨b, 0, none⟩) 0 0)) w') : wpOp P ops Q i K a w := by
  subst hd
  refine wpOp_val ho hw (v := .slice (some ⟨w.heap.size, 0, none⟩) 0 0) (w' := w.alloc (.cells #[] e)) (by simp [execOp, hop, hrun, Result.andThen]) (hK _ _ ?_)
  refine h.new ((Ext.refl w).alloc _) _ ⟨by simp, .inr ⟨w.heap.size, 0, #[], rfl, Nat.zero_le _, heap_alloc_new w _, Nat.le_refl _, Nat.zero_le _, by simp, by simp⟩⟩ (fun b hb => ?_)
  have hb2 : (Value.slice (some ⟨w.heap.size, 0, none⟩) 0 0).ownBlock = some b := hb
  cases hb2
  exact Nat.le_refl _
theorem ret_eq {e : Ending} {v : Value} {R : World → Prop} {w' : World} (h : e = .returned v ∧ R w') : ∃ u, e = .returned u ∧ (u = v ∧ R w') := ⟨v, h.1, rfl, h.2⟩
end
end Go
