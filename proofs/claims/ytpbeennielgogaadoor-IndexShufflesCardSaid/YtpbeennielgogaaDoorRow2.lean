/- A row cut: s[:k], s[k:], as rows that are read. No program in sight. -/
import Derived.Test.YtpbeennielgogaaDoorRow
namespace Go.Proofs.YtpbeennielgogaaDoor
open Go.RowKit
set_option linter.unusedVariables false
set_option linter.unusedSimpArgs false

section
variable {P : Program} {ops : Array Oper} {rest : List Oper} {o : Oper} {a : Act} {Q : Exit → Act → World → Prop} {w : World} {e : TypeId} {size n : Nat} {v : Value} {xs : List Value}
theorem own_form {base : Nat} (h : w.ownsRow base e size v n xs) : ∃ ax cap, v = .slice ax n cap ∧ n ≤ cap ∧ cap ≤ maxLen ∧ xs.length = n * size ∧ (ax = none ∧ n = 0 ∧ cap = 0 ∨ ∃ g, ax = some ⟨g, 0, none⟩ ∧ ∀ j u, xs[j]? = some u → w.cell? ⟨g, j, none⟩ = some u) := by
  rcases h.2 with ⟨rfl, rfl⟩ | ⟨g, cap, cur, rfl, hb, hh, hc, hm, hs, ht⟩
  · exact ⟨none, 0, rfl, Nat.le_refl _, Nat.zero_le _, h.1, .inl ⟨rfl, rfl, rfl⟩⟩
  · refine ⟨_, cap, rfl, hc, hm, h.1, .inr ⟨g, rfl, fun j u hj => ?_⟩⟩
    have := h.cells (g := g) rfl j u hj
    rw [Addr.add_lit, Nat.zero_add] at this
    exact this
theorem run_slice_to {t : TypeId} {i : TypeInfo} (ht : P.underlying t = some (.slice e)) (hi : P.info? e = some i) (hsize : i.size = size) (hr : w.ownsRow 0 e size v n xs) (k : Nat) (hk : k ≤ n) :
    ∃ xv, (Instr.sliceAt t v none (some (.int .i64 k)) none).run P w = .ok xv w ∧ Reads w xv k (xs.take (k * size)) := by
  obtain ⟨ax, cap, rfl, hc, hm, hl, hx⟩ := own_form hr
  have hz : ∀ w, (sizeOf e).run P w = .ok size w := fun w => by simp [sizeOf, typeInfo, hi, hsize]
  refine ⟨.slice (if cap = 0 then ax else ax.map (·.add (0 * size))) k cap, ?_, ?_⟩
  · simp [Instr.sliceAt, Instr.slice, run_underlying ht, Instr.sliceBounds, run_sliceBound, hz, Result.andThen, show (k : Int) ≤ cap by omega]
  · rcases hx with ⟨rfl, rfl, rfl⟩ | ⟨g, rfl, hcell⟩
    · have : xs = [] := List.eq_nil_of_length_eq_zero (by simpa using hl)
      subst this
      exact ⟨_, _, rfl, fun _ => by omega, fun j u hj => by simp at hj⟩
    · refine ⟨_, _, rfl, ?_, fun j u hj => ⟨g, 0, ?_, ?_⟩⟩
      · intro h; split at h <;> simp at h
      · split <;> simp [Addr.add]
      · rw [Nat.zero_add]
        rw [List.getElem?_take] at hj
        split at hj
        · exact hcell j u hj
        · exact nomatch hj
theorem run_slice_from {t : TypeId} {i : TypeInfo} (ht : P.underlying t = some (.slice e)) (hi : P.info? e = some i) (hsize : i.size = size) (hr : w.ownsRow 0 e size v n xs) (k : Nat) (hk : k ≤ n) :
    ∃ xv, (Instr.sliceAt t v (some (.int .i64 k)) none none).run P w = .ok xv w ∧ Reads w xv (n - k) (xs.drop (k * size)) := by
  obtain ⟨ax, cap, rfl, hc, hm, hl, hx⟩ := own_form hr
  have hz : ∀ w, (sizeOf e).run P w = .ok size w := fun w => by simp [sizeOf, typeInfo, hi, hsize]
  refine ⟨.slice (if cap = k then ax else ax.map (·.add (k * size))) (n - k) (cap - k), ?_, ?_⟩
  · simp [Instr.sliceAt, Instr.slice, run_underlying ht, Instr.sliceBounds, run_sliceBound, hz, Result.andThen, show (k : Int) ≤ n by omega]
  · rcases hx with ⟨rfl, rfl, rfl⟩ | ⟨g, rfl, hcell⟩
    · have : xs = [] := List.eq_nil_of_length_eq_zero (by simpa using hl)
      subst this
      exact ⟨_, _, rfl, fun _ => by omega, fun j u hj => by simp at hj⟩
    · refine ⟨_, _, rfl, ?_, fun j u hj => ⟨g, if cap = k then 0 else k * size, ?_, ?_⟩⟩
      · intro h; split at h <;> simp at h
      · split
        · rfl
        · rw [Option.map_some, Addr.add_lit, Nat.zero_add]
      · have hjl := (List.getElem?_eq_some_iff.1 hj).1
        rw [List.length_drop, hl] at hjl
        have hne : cap ≠ k := by
          intro h
          have : n = k := by omega
          subst this
          omega
        rw [if_neg hne]
        rw [List.getElem?_drop] at hj
        exact hcell _ u hj
theorem wpList_slice_to {t : TypeId} {i : TypeInfo} {x hi' : Operand} {k : Nat} (hg : o.guard = none) (hop : o.op = .slice t x none (some hi') none) (ht : P.underlying t = some (.slice e)) (hi : P.info? e = some i) (hsize : i.size = size) (hx : a.eval x = v) (hh : a.eval hi' = .int .i64 k)
    (hr : w.ownsRow 0 e size v n xs) (hk : k ≤ n) (hK : ∀ xv, Reads w xv k (xs.take (k * size)) → wpList P ops Q rest (a.put o.dst xv) w) : wpList P ops Q (o :: rest) a w := by
  obtain ⟨xv, h1, h2⟩ := run_slice_to (P := P) ht hi hsize hr k hk
  refine wpList_val hg ?_ (hK xv h2)
  simp [execOp, hop, hx, hh, h1, Result.andThen]
theorem wpList_slice_from {t : TypeId} {i : TypeInfo} {x lo : Operand} {k : Nat} (hg : o.guard = none) (hop : o.op = .slice t x (some lo) none none) (ht : P.underlying t = some (.slice e)) (hi : P.info? e = some i) (hsize : i.size = size) (hx : a.eval x = v) (hh : a.eval lo = .int .i64 k)
    (hr : w.ownsRow 0 e size v n xs) (hk : k ≤ n) (hK : ∀ xv, Reads w xv (n - k) (xs.drop (k * size)) → wpList P ops Q rest (a.put o.dst xv) w) : wpList P ops Q (o :: rest) a w := by
  obtain ⟨xv, h1, h2⟩ := run_slice_from (P := P) ht hi hsize hr k hk
  refine wpList_val hg ?_ (hK xv h2)
  simp [execOp, hop, hx, hh, h1, Result.andThen]
end
end Go.Proofs.YtpbeennielgogaaDoor
