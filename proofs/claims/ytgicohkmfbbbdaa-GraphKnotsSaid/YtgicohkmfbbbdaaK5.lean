/- GraE, RegE, RegG, RegH, Row2, Row3, RegJ, AttrO, joined. -/
import Derived.Test.YtgicohkmfbbbdaaK2
import Derived.Test.YtgicohkmfbbbdaaChecked
import Derived.Test.YtgicohkmfbbbdaaK1
import Derived.OrdersHeld
import Derived.Test.YtgicohkmfbbbdaaK4
section
namespace Go.Proofs.Ytgicohkmfbbbdaa.Attr
open Go.RowKit
set_option linter.unusedSimpArgs false
set_option linter.unusedVariables false
attribute [-go_sem] run_eql_struct run_neq_struct run_eqGuard_agg

theorem run_eqlB {P : Program} {T : TypeId} {x y : Array Value} {b : Bool} {w : World} (h : (Go.Op.equalIn 10000 T (.agg x) (.agg y)).run P w = .ok b w) : (binOp .eql T (.agg x) (.agg y)).run P w = .ok (.bool b) w := by
  rw [run_eql_struct, h]; rfl
theorem run_neqB {P : Program} {T : TypeId} {x y : Array Value} {b : Bool} {w : World} (h : (Go.Op.equalIn 10000 T (.agg x) (.agg y)).run P w = .ok b w) : (binOp .neq T (.agg x) (.agg y)).run P w = .ok (.bool (!b)) w := by
  rw [run_neq_struct, h]; rfl
theorem ite_ok (p : Prop) [Decidable p] (b : Bool) (w : World) : (if p then Result.ok b w else Result.ok false w) = Result.ok (decide p && b) w := by
  by_cases h : p <;> simp [h]
def eqA (a b : A8) : Bool := decide (a.s = b.s) && decide (a.d0 = b.d0 ∧ a.d1 = b.d1 ∧ a.d2 = b.d2 ∧ a.d3 = b.d3 ∧ a.d4 = b.d4 ∧ a.d5 = b.d5 ∧ a.d6 = b.d6)
theorem eqA_iff {a b : A8} : eqA a b = true ↔ a = b := by
  obtain ⟨s, d0, d1, d2, d3, d4, d5, d6⟩ := a
  obtain ⟨u, e0, e1, e2, e3, e4, e5, e6⟩ := b
  simp [eqA]
def eq7 (d0 d1 d2 d3 d4 d5 d6 e0 e1 e2 e3 e4 e5 e6 : Int) : Bool := decide (d0 = e0 ∧ d1 = e1 ∧ d2 = e2 ∧ d3 = e3 ∧ d4 = e4 ∧ d5 = e5 ∧ d6 = e6)
theorem guard7 (op : BinOp) (x y : Operand) (c1 c2 c3 c4 c5 c6 c7 e1 e2 e3 e4 e5 e6 e7 : Value) (w : World) : (eqGuard op 23 x y (.agg #[c1, c2, c3, c4, c5, c6, c7]) (.agg #[e1, e2, e3, e4, e5, e6, e7])).run Try.prog w = .ok () w := run_eqGuard_agg _ _ _ _ _ _ _ (by kernel_rfl)
set_option maxRecDepth 100000 in
theorem eq7g (d : Nat) (d0 d1 d2 d3 d4 d5 d6 e0 e1 e2 e3 e4 e5 e6 : Int) (w : World) : (Go.Op.equalIn (d + 2) 23 (.agg #[.int .i64 d0, .int .i64 d1, .int .i64 d2, .int .i64 d3, .int .i64 d4, .int .i64 d5, .int .i64 d6]) (.agg #[.int .i64 e0, .int .i64 e1, .int .i64 e2, .int .i64 e3, .int .i64 e4, .int .i64 e5, .int .i64 e6])).run Try.prog w = .ok (eq7 d0 d1 d2 d3 d4 d5 d6 e0 e1 e2 e3 e4 e5 e6) w := by
  obtain ⟨i, hi⟩ : ∃ i, Try.prog.info? 3 = some i := by
    have h : (Try.prog.info? 3).isSome = true := by kernel_rfl
    exact Option.isSome_iff_exists.1 h
  have hc : Try.prog.cellsOf 3 = 1 := by kernel_rfl
  rw [Go.run_equalIn_array _ (d + 1) _ _ Try.underlying23 hi, hc, show List.range 7 = [0, 1, 2, 3, 4, 5, 6] from rfl]
  simp [Go.Op.eqItems, go_sem, hi, eq7]
  simp only [ite_ok, Bool.and_true]
theorem eq7b (d0 d1 d2 d3 d4 d5 d6 e0 e1 e2 e3 e4 e5 e6 : Int) (w : World) : (Go.Op.equalIn 9999 23 (.agg #[.int .i64 d0, .int .i64 d1, .int .i64 d2, .int .i64 d3, .int .i64 d4, .int .i64 d5, .int .i64 d6]) (.agg #[.int .i64 e0, .int .i64 e1, .int .i64 e2, .int .i64 e3, .int .i64 e4, .int .i64 e5, .int .i64 e6])).run Try.prog w = .ok (eq7 d0 d1 d2 d3 d4 d5 d6 e0 e1 e2 e3 e4 e5 e6) w := eq7g 9997 d0 d1 d2 d3 d4 d5 d6 e0 e1 e2 e3 e4 e5 e6 w
theorem eql7_any (d0 d1 d2 d3 d4 d5 d6 e0 e1 e2 e3 e4 e5 e6 : Int) (w : World) : (binOp .eql 23 (.agg #[.int .i64 d0, .int .i64 d1, .int .i64 d2, .int .i64 d3, .int .i64 d4, .int .i64 d5, .int .i64 d6]) (.agg #[.int .i64 e0, .int .i64 e1, .int .i64 e2, .int .i64 e3, .int .i64 e4, .int .i64 e5, .int .i64 e6])).run Try.prog w = .ok (.bool (eq7 d0 d1 d2 d3 d4 d5 d6 e0 e1 e2 e3 e4 e5 e6)) w := run_eqlB (eq7g 9998 d0 d1 d2 d3 d4 d5 d6 e0 e1 e2 e3 e4 e5 e6 w)
theorem neq7_any (d0 d1 d2 d3 d4 d5 d6 e0 e1 e2 e3 e4 e5 e6 : Int) (w : World) : (binOp .neq 23 (.agg #[.int .i64 d0, .int .i64 d1, .int .i64 d2, .int .i64 d3, .int .i64 d4, .int .i64 d5, .int .i64 d6]) (.agg #[.int .i64 e0, .int .i64 e1, .int .i64 e2, .int .i64 e3, .int .i64 e4, .int .i64 e5, .int .i64 e6])).run Try.prog w = .ok (.bool (!eq7 d0 d1 d2 d3 d4 d5 d6 e0 e1 e2 e3 e4 e5 e6)) w := run_neqB (eq7g 9998 d0 d1 d2 d3 d4 d5 d6 e0 e1 e2 e3 e4 e5 e6 w)
theorem guardF (op : BinOp) (x y : Operand) (c1 c2 c3 c4 c5 c6 c7 e1 e2 e3 e4 e5 e6 e7 : Value) (w : World) : (eqGuard op 24 x y (.agg #[c1, c2, c3, c4, c5, c6, c7]) (.agg #[e1, e2, e3, e4, e5, e6, e7])).run Try.prog w = .ok () w := run_eqGuard_agg _ _ _ _ _ _ _ (by kernel_rfl)
set_option maxRecDepth 100000 in
theorem eqFg (d0 d1 d2 d3 d4 d5 d6 e0 e1 e2 e3 e4 e5 e6 : Int) (w : World) : (Go.Op.equalIn 10000 24 (.agg #[.int .i64 d0, .int .i64 d1, .int .i64 d2, .int .i64 d3, .int .i64 d4, .int .i64 d5, .int .i64 d6]) (.agg #[.int .i64 e0, .int .i64 e1, .int .i64 e2, .int .i64 e3, .int .i64 e4, .int .i64 e5, .int .i64 e6])).run Try.prog w = .ok (eq7 d0 d1 d2 d3 d4 d5 d6 e0 e1 e2 e3 e4 e5 e6) w := by
  obtain ⟨i, hi⟩ : ∃ i, Try.prog.info? 3 = some i := by
    have h : (Try.prog.info? 3).isSome = true := by kernel_rfl
    exact Option.isSome_iff_exists.1 h
  have hc : Try.prog.cellsOf 3 = 1 := by kernel_rfl
  rw [Go.run_equalIn_array _ 9999 _ _ Try.underlying24 hi, hc, show List.range 7 = [0, 1, 2, 3, 4, 5, 6] from rfl]
  simp [Go.Op.eqItems, go_sem, hi, eq7]
  simp only [ite_ok, Bool.and_true]
theorem eqlF_any (d0 d1 d2 d3 d4 d5 d6 e0 e1 e2 e3 e4 e5 e6 : Int) (w : World) : (binOp .eql 24 (.agg #[.int .i64 d0, .int .i64 d1, .int .i64 d2, .int .i64 d3, .int .i64 d4, .int .i64 d5, .int .i64 d6]) (.agg #[.int .i64 e0, .int .i64 e1, .int .i64 e2, .int .i64 e3, .int .i64 e4, .int .i64 e5, .int .i64 e6])).run Try.prog w = .ok (.bool (eq7 d0 d1 d2 d3 d4 d5 d6 e0 e1 e2 e3 e4 e5 e6)) w := run_eqlB (eqFg d0 d1 d2 d3 d4 d5 d6 e0 e1 e2 e3 e4 e5 e6 w)
theorem neqF_any (d0 d1 d2 d3 d4 d5 d6 e0 e1 e2 e3 e4 e5 e6 : Int) (w : World) : (binOp .neq 24 (.agg #[.int .i64 d0, .int .i64 d1, .int .i64 d2, .int .i64 d3, .int .i64 d4, .int .i64 d5, .int .i64 d6]) (.agg #[.int .i64 e0, .int .i64 e1, .int .i64 e2, .int .i64 e3, .int .i64 e4, .int .i64 e5, .int .i64 e6])).run Try.prog w = .ok (.bool (!eq7 d0 d1 d2 d3 d4 d5 d6 e0 e1 e2 e3 e4 e5 e6)) w := run_neqB (eqFg d0 d1 d2 d3 d4 d5 d6 e0 e1 e2 e3 e4 e5 e6 w)
theorem guardB (op : BinOp) (x y : Operand) (a b : A8) (w : World) : (eqGuard op 65 x y (.agg #[.int .i64 a.s, .int .i64 a.d0, .int .i64 a.d1, .int .i64 a.d2, .int .i64 a.d3, .int .i64 a.d4, .int .i64 a.d5, .int .i64 a.d6]) (.agg #[.int .i64 b.s, .int .i64 b.d0, .int .i64 b.d1, .int .i64 b.d2, .int .i64 b.d3, .int .i64 b.d4, .int .i64 b.d5, .int .i64 b.d6])).run Try.prog w = .ok () w := run_eqGuard_agg _ _ _ _ _ _ _ (by kernel_rfl)
set_option maxRecDepth 100000 in
theorem eqBg (a b : A8) (w : World) : (Go.Op.equalIn 10000 65 (.agg #[.int .i64 a.s, .int .i64 a.d0, .int .i64 a.d1, .int .i64 a.d2, .int .i64 a.d3, .int .i64 a.d4, .int .i64 a.d5, .int .i64 a.d6]) (.agg #[.int .i64 b.s, .int .i64 b.d0, .int .i64 b.d1, .int .i64 b.d2, .int .i64 b.d3, .int .i64 b.d4, .int .i64 b.d5, .int .i64 b.d6])).run Try.prog w = .ok (eqA a b) w := by
  rw [run_equalIn_agg _ 9999 _ _ _ (by kernel_rfl) (by kernel_rfl)]
  unfold eqA
  have h7 := eq7b a.d0 a.d1 a.d2 a.d3 a.d4 a.d5 a.d6 b.d0 b.d1 b.d2 b.d3 b.d4 b.d5 b.d6 w
  unfold eq7 at h7
  generalize decide (a.d0 = b.d0 ∧ a.d1 = b.d1 ∧ a.d2 = b.d2 ∧ a.d3 = b.d3 ∧ a.d4 = b.d4 ∧ a.d5 = b.d5 ∧ a.d6 = b.d6) = z at *
  by_cases hs : a.s = b.s <;> cases z <;> simp [go_sem, Go.Op.eqFields, h7, hs]
theorem eqlB_any (a b : A8) (w : World) : (binOp .eql 65 (.agg #[.int .i64 a.s, .int .i64 a.d0, .int .i64 a.d1, .int .i64 a.d2, .int .i64 a.d3, .int .i64 a.d4, .int .i64 a.d5, .int .i64 a.d6]) (.agg #[.int .i64 b.s, .int .i64 b.d0, .int .i64 b.d1, .int .i64 b.d2, .int .i64 b.d3, .int .i64 b.d4, .int .i64 b.d5, .int .i64 b.d6])).run Try.prog w = .ok (.bool (eqA a b)) w := run_eqlB (eqBg a b w)
theorem eqlB_at (s d0 d1 d2 d3 d4 d5 d6 u e0 e1 e2 e3 e4 e5 e6 : Int) (w : World) : (binOp .eql 65 (.agg #[.int .i64 s, .int .i64 d0, .int .i64 d1, .int .i64 d2, .int .i64 d3, .int .i64 d4, .int .i64 d5, .int .i64 d6]) (.agg #[.int .i64 u, .int .i64 e0, .int .i64 e1, .int .i64 e2, .int .i64 e3, .int .i64 e4, .int .i64 e5, .int .i64 e6])).run Try.prog w = .ok (.bool (eqA ⟨s, d0, d1, d2, d3, d4, d5, d6⟩ ⟨u, e0, e1, e2, e3, e4, e5, e6⟩)) w := run_eqlB (eqBg ⟨s, d0, d1, d2, d3, d4, d5, d6⟩ ⟨u, e0, e1, e2, e3, e4, e5, e6⟩ w)
theorem neqB_any (a b : A8) (w : World) : (binOp .neq 65 (.agg #[.int .i64 a.s, .int .i64 a.d0, .int .i64 a.d1, .int .i64 a.d2, .int .i64 a.d3, .int .i64 a.d4, .int .i64 a.d5, .int .i64 a.d6]) (.agg #[.int .i64 b.s, .int .i64 b.d0, .int .i64 b.d1, .int .i64 b.d2, .int .i64 b.d3, .int .i64 b.d4, .int .i64 b.d5, .int .i64 b.d6])).run Try.prog w = .ok (.bool (!eqA a b)) w := run_neqB (eqBg a b w)
theorem neqB_at (s d0 d1 d2 d3 d4 d5 d6 u e0 e1 e2 e3 e4 e5 e6 : Int) (w : World) : (binOp .neq 65 (.agg #[.int .i64 s, .int .i64 d0, .int .i64 d1, .int .i64 d2, .int .i64 d3, .int .i64 d4, .int .i64 d5, .int .i64 d6]) (.agg #[.int .i64 u, .int .i64 e0, .int .i64 e1, .int .i64 e2, .int .i64 e3, .int .i64 e4, .int .i64 e5, .int .i64 e6])).run Try.prog w = .ok (.bool (!eqA ⟨s, d0, d1, d2, d3, d4, d5, d6⟩ ⟨u, e0, e1, e2, e3, e4, e5, e6⟩)) w := run_neqB (eqBg ⟨s, d0, d1, d2, d3, d4, d5, d6⟩ ⟨u, e0, e1, e2, e3, e4, e5, e6⟩ w)
theorem guardC (op : BinOp) (x y : Operand) (a b : A8) (w : World) : (eqGuard op 50 x y (.agg #[.int .i64 a.s, .int .i64 a.d0, .int .i64 a.d1, .int .i64 a.d2, .int .i64 a.d3, .int .i64 a.d4, .int .i64 a.d5, .int .i64 a.d6]) (.agg #[.int .i64 b.s, .int .i64 b.d0, .int .i64 b.d1, .int .i64 b.d2, .int .i64 b.d3, .int .i64 b.d4, .int .i64 b.d5, .int .i64 b.d6])).run Try.prog w = .ok () w := run_eqGuard_agg _ _ _ _ _ _ _ (by kernel_rfl)
set_option maxRecDepth 100000 in
theorem eqCg (a b : A8) (w : World) : (Go.Op.equalIn 10000 50 (.agg #[.int .i64 a.s, .int .i64 a.d0, .int .i64 a.d1, .int .i64 a.d2, .int .i64 a.d3, .int .i64 a.d4, .int .i64 a.d5, .int .i64 a.d6]) (.agg #[.int .i64 b.s, .int .i64 b.d0, .int .i64 b.d1, .int .i64 b.d2, .int .i64 b.d3, .int .i64 b.d4, .int .i64 b.d5, .int .i64 b.d6])).run Try.prog w = .ok (eqA a b) w := by
  rw [run_equalIn_agg _ 9999 _ _ _ (by kernel_rfl) (by kernel_rfl)]
  unfold eqA
  have h7 := eq7b a.d0 a.d1 a.d2 a.d3 a.d4 a.d5 a.d6 b.d0 b.d1 b.d2 b.d3 b.d4 b.d5 b.d6 w
  unfold eq7 at h7
  generalize decide (a.d0 = b.d0 ∧ a.d1 = b.d1 ∧ a.d2 = b.d2 ∧ a.d3 = b.d3 ∧ a.d4 = b.d4 ∧ a.d5 = b.d5 ∧ a.d6 = b.d6) = z at *
  by_cases hs : a.s = b.s <;> cases z <;> simp [go_sem, Go.Op.eqFields, h7, hs]
theorem eqlC_any (a b : A8) (w : World) : (binOp .eql 50 (.agg #[.int .i64 a.s, .int .i64 a.d0, .int .i64 a.d1, .int .i64 a.d2, .int .i64 a.d3, .int .i64 a.d4, .int .i64 a.d5, .int .i64 a.d6]) (.agg #[.int .i64 b.s, .int .i64 b.d0, .int .i64 b.d1, .int .i64 b.d2, .int .i64 b.d3, .int .i64 b.d4, .int .i64 b.d5, .int .i64 b.d6])).run Try.prog w = .ok (.bool (eqA a b)) w := run_eqlB (eqCg a b w)
theorem eqlC_at (s d0 d1 d2 d3 d4 d5 d6 u e0 e1 e2 e3 e4 e5 e6 : Int) (w : World) : (binOp .eql 50 (.agg #[.int .i64 s, .int .i64 d0, .int .i64 d1, .int .i64 d2, .int .i64 d3, .int .i64 d4, .int .i64 d5, .int .i64 d6]) (.agg #[.int .i64 u, .int .i64 e0, .int .i64 e1, .int .i64 e2, .int .i64 e3, .int .i64 e4, .int .i64 e5, .int .i64 e6])).run Try.prog w = .ok (.bool (eqA ⟨s, d0, d1, d2, d3, d4, d5, d6⟩ ⟨u, e0, e1, e2, e3, e4, e5, e6⟩)) w := run_eqlB (eqCg ⟨s, d0, d1, d2, d3, d4, d5, d6⟩ ⟨u, e0, e1, e2, e3, e4, e5, e6⟩ w)
theorem neqC_any (a b : A8) (w : World) : (binOp .neq 50 (.agg #[.int .i64 a.s, .int .i64 a.d0, .int .i64 a.d1, .int .i64 a.d2, .int .i64 a.d3, .int .i64 a.d4, .int .i64 a.d5, .int .i64 a.d6]) (.agg #[.int .i64 b.s, .int .i64 b.d0, .int .i64 b.d1, .int .i64 b.d2, .int .i64 b.d3, .int .i64 b.d4, .int .i64 b.d5, .int .i64 b.d6])).run Try.prog w = .ok (.bool (!eqA a b)) w := run_neqB (eqCg a b w)
theorem neqC_at (s d0 d1 d2 d3 d4 d5 d6 u e0 e1 e2 e3 e4 e5 e6 : Int) (w : World) : (binOp .neq 50 (.agg #[.int .i64 s, .int .i64 d0, .int .i64 d1, .int .i64 d2, .int .i64 d3, .int .i64 d4, .int .i64 d5, .int .i64 d6]) (.agg #[.int .i64 u, .int .i64 e0, .int .i64 e1, .int .i64 e2, .int .i64 e3, .int .i64 e4, .int .i64 e5, .int .i64 e6])).run Try.prog w = .ok (.bool (!eqA ⟨s, d0, d1, d2, d3, d4, d5, d6⟩ ⟨u, e0, e1, e2, e3, e4, e5, e6⟩)) w := run_neqB (eqCg ⟨s, d0, d1, d2, d3, d4, d5, d6⟩ ⟨u, e0, e1, e2, e3, e4, e5, e6⟩ w)
theorem guardI (op : BinOp) (x y : Operand) (c1 c2 e1 e2 : Value) (w : World) : (eqGuard op 38 x y (.agg #[c1, c2]) (.agg #[e1, e2])).run Try.prog w = .ok () w := run_eqGuard_agg _ _ _ _ _ _ _ (by kernel_rfl)
theorem eqIg (a b c d : Int) (w : World) : (Go.Op.equalIn 10000 38 (.agg #[.int .i64 a, .int .i64 b]) (.agg #[.int .i64 c, .int .i64 d])).run Try.prog w = .ok (decide ((a, b) = (c, d))) w := by
  rw [run_equalIn_agg _ 9999 _ _ _ (by kernel_rfl) (by kernel_rfl)]
  by_cases h1 : a = c <;> by_cases h2 : b = d <;> simp [go_sem, Go.Op.eqFields, h1, h2]
theorem eqlI_any (a b c d : Int) (w : World) : (binOp .eql 38 (.agg #[.int .i64 a, .int .i64 b]) (.agg #[.int .i64 c, .int .i64 d])).run Try.prog w = .ok (.bool (decide ((a, b) = (c, d)))) w := run_eqlB (eqIg a b c d w)
theorem neqI_any (a b c d : Int) (w : World) : (binOp .neq 38 (.agg #[.int .i64 a, .int .i64 b]) (.agg #[.int .i64 c, .int .i64 d])).run Try.prog w = .ok (.bool (!decide ((a, b) = (c, d)))) w := run_neqB (eqIg a b c d w)
theorem guardJ (op : BinOp) (x y : Operand) (c1 c2 e1 e2 : Value) (w : World) : (eqGuard op 45 x y (.agg #[c1, c2]) (.agg #[e1, e2])).run Try.prog w = .ok () w := run_eqGuard_agg _ _ _ _ _ _ _ (by kernel_rfl)
theorem eqJg (a b c d : Int) (w : World) : (Go.Op.equalIn 10000 45 (.agg #[.int .i64 a, .int .i64 b]) (.agg #[.int .i64 c, .int .i64 d])).run Try.prog w = .ok (decide ((a, b) = (c, d))) w := by
  rw [run_equalIn_agg _ 9999 _ _ _ (by kernel_rfl) (by kernel_rfl)]
  by_cases h1 : a = c <;> by_cases h2 : b = d <;> simp [go_sem, Go.Op.eqFields, h1, h2]
theorem eqlJ_any (a b c d : Int) (w : World) : (binOp .eql 45 (.agg #[.int .i64 a, .int .i64 b]) (.agg #[.int .i64 c, .int .i64 d])).run Try.prog w = .ok (.bool (decide ((a, b) = (c, d)))) w := run_eqlB (eqJg a b c d w)
theorem neqJ_any (a b c d : Int) (w : World) : (binOp .neq 45 (.agg #[.int .i64 a, .int .i64 b]) (.agg #[.int .i64 c, .int .i64 d])).run Try.prog w = .ok (.bool (!decide ((a, b) = (c, d)))) w := run_neqB (eqJg a b c d w)
end Go.Proofs.Ytgicohkmfbbbdaa.Attr
end

section
namespace Go
open _root_.Go.Proofs.Ytgicohkmfbbbdaa
open Go.RowKit
set_option linter.unusedVariables false
set_option linter.unusedSimpArgs false

section
variable {P : Program} {ops : Array Oper} {Q : Exit → Act → World → Prop} {md : Region.Mode} {S : World → Prop} {L0 L F : List Part} {w0 w : World}
theorem wpAnyH_one {i fuel : Nat} {listed : Array Bool} {a : Act} (hr : Region.ready md ops listed = [i]) (h : wpOp P ops Q i (fun a' w' => S w' ∧ wpAnyH P md ops Q S fuel (listed.setIfInBounds i true) a' w') a w) : wpAnyH P md ops Q S (fuel + 1) listed a w :=
  wpAnyH_all hr (by simp) (fun k hk => by rw [List.mem_singleton.1 hk]; exact h)
theorem wpAnyH_two {i j fuel : Nat} {listed : Array Bool} {a : Act} (hr : Region.ready md ops listed = [i, j]) (h1 : wpOp P ops Q i (fun a' w' => S w' ∧ wpAnyH P md ops Q S fuel (listed.setIfInBounds i true) a' w') a w)
    (h2 : wpOp P ops Q j (fun a' w' => S w' ∧ wpAnyH P md ops Q S fuel (listed.setIfInBounds j true) a' w') a w) : wpAnyH P md ops Q S (fuel + 1) listed a w :=
  wpAnyH_all hr (by simp) (fun k hk => by
    rcases List.mem_cons.1 hk with rfl | hk
    · exact h1
    · rw [List.mem_singleton.1 hk]; exact h2)
/-- number i first; its slot given -/
theorem wpAnyH_takeD {i : Nat} {oi : Oper} {v : Value} {d : Option Tmp} {fuel : Nat} {listed : Array Bool} {a : Act} (hi : ops[i]? = some oi) (hd : oi.dst = d)
    (hs : Region.noSelect ops = true) (hf : Region.free md ops listed i = true) (hr : (Region.ready md ops listed).contains i = true)
    (hQ : ∀ c a w, Q (.panic c) (a.put oi.dst v) w → Q (.panic c) a w) (hw : Region.wanted oi (yielded ops a.tmps) = true) (hrun : ∀ w, S w → (execOp a.eval oi).run P w = .ok (.value v) w) (hS : S w)
    (h : wpAnyH P md ops Q S fuel (listed.setIfInBounds i true) (a.put d v) w) : wpAnyH P md ops Q S (fuel + 1) listed a w := by
  subst hd
  exact wpAnyH_take hi hs hf hr hQ (.inl ⟨hw, hrun⟩) hS h
/-- a row of one element is laid -/
theorem opOne_at {i : Nat} {d : Option Tmp} {o : Oper} {a : Act} {K : Act → World → Prop} {t : TypeId} {x : Operand} {e : TypeId} (ho : ops[i]? = some o) (hd : o.dst = d) (hw : Region.wanted o (yielded ops a.tmps) = true) (hop : o.op = .buildSlice t 1 #[(0, x)]) {xv : Value} (hx : a.eval x = xv) {vs : List Value}
    (hrun : ∀ w, (Instr.buildSlice t 1 #[(0, xv)]).run P w = .ok (.slice (some ⟨w.heap.size, 0, none⟩) 1 1) (w.alloc (.cells vs.toArray e))) (h : At L0 w0 L w)
    (hK : ∀ b w', At L0 w0 (Part.cells b vs e :: L) w' → K (a.put d (.slice (some ⟨b, 0, none⟩) 1 1)) w') : wpOp P ops Q i K a w := by
  subst hd
  exact wpOp_val ho hw (v := .slice (some ⟨w.heap.size, 0, none⟩) 1 1) (w' := w.alloc (.cells vs.toArray e)) (by simp [execOp, hop, hx, hrun, Result.andThen]) (hK _ _ (h.alloc vs e))
/-- append of a row that is read -/
theorem opAppend_at {k : Nat} {d : Option Tmp} {o : Oper} {a : Act} {K : Act → World → Prop} {e : TypeId} {size n : Nat} {v : Value} {xs : List Value} {i : TypeInfo} {z : Value} {bytes : Nat} (hok : ops[k]? = some o) (hd : o.dst = d) (hw : Region.wanted o (yielded ops a.tmps) = true) (hg : o.guard = none) (s' x : Operand) (t : TypeId) (ho : o.op = .call { callee := .builtin .append, args := #[s', x], argTypes := #[t, t] })
    (ht : P.underlying t = some (.slice e)) (hi : P.info? e = some i) (hz : i.zero = some z) (hsize : i.size = size) (hby : i.bytes = bytes) (hzs : z.cells.size = size) (hsz : 0 < size)
    (h : At L0 w0 L w) (s : Sel (Part.row e size v n xs) L F) (hs : a.eval s' = v) {xv : Value} {m : Nat} {news : List Value} (hxv : a.eval x = xv) (hl : news.length = m * size) (hx : Reads w xv m news) (h1 : ∀ u ∈ news, u.oneCell' = true)
    (h63 : n + m ≤ maxLen) (hbytes : (n + m) * bytes ≤ 140737488355328)
    (hK : ∀ v' w', At L0 w0 (Part.row e size v' (n + m) (xs ++ news) :: F) w' → K (a.put d v') w') : wpOp P ops Q k K a w := by
  subst hd
  have hst := step_append_all w (K := K) (Q := Q) (E := True) (ops := ops) (a := a) (o := o) hg s' x t ho 0 e i z size bytes ht hi hz hsize hby hzs hsz v n xs hs (h.get s) xv m news hxv hl hx h1 h63 hbytes (Nat.zero_le _) (fun v' w' h2 h3 h4 =>
    hK v' w' (h.turn s _ h2 (fun b hb => by
      rcases h4 with h4 | h4
      · exact .inl (show v.ownBlock = some b from by rw [← h4]; exact hb)
      · right
        have hb' : v'.ownBlock = some b := hb
        rw [h4] at hb'
        cases hb'
        exact Nat.le_refl _) (exc_grown h3)))
  rw [if_pos hw] at hst
  unfold wpOp
  simp only [hok, hw, if_true]
  exact .inl hst
/-- a call -/
theorem opCall_at {i : Nat} {d : Option Tmp} {o : Oper} {a : Act} {K : Act → World → Prop} (ho : ops[i]? = some o) (hd : o.dst = d) (hw : Region.wanted o (yielded ops a.tmps) = true) {fn : FuncId} {args : Array Value} (hrun : (execOp a.eval o).run P w = .ok (.enter fn args) w)
    {R : Value → World → Prop} (hc : Calls P fn args w fun e w' => ∃ u, e = .returned u ∧ R u w') (hK : ∀ u w', R u w' → K (a.put d u) w') : wpOp P ops Q i K a w := by
  subst hd
  exact wpOp_call ho hw hrun hc (fun e w' ⟨u, he, hr⟩ => ⟨u, he, hK u w' hr⟩)
/-- a store -/
theorem opStore_at {i : Nat} {o : Oper} {a : Act} {K : Act → World → Prop} (ho : ops[i]? = some o) (hd : o.dst = none) (hw : Region.wanted o (yielded ops a.tmps) = true) {ty : TypeId} {x y : Operand} (hop : o.op = .store ty x y) {b j : Nat} (hx : a.eval x = .pointer (some ⟨b, j, none⟩)) {v : Value} (hy : a.eval y = v) {vs : List Value} (hv : v.cells = vs.toArray)
    (h : At L0 w0 L w) {c : List Value} {T : TypeId} (s : Sel (Part.cells b c T) L F) (hi : (P.info? ty).map (·.size) = some vs.length) (h1 : vs.all (·.oneCell') = true) (hj : j + vs.length ≤ c.length)
    (hK : ∀ w', At L0 w0 (Part.cells b (setL c j vs) T :: F) w' → K (a.put none undef) w') : wpOp P ops Q i K a w := by
  have hb : BlockIs w b c T := h.get s
  have hs : v.cells.size = vs.length := by rw [hv]; simp
  have h1' : v.cells.all (·.oneCell') = true := by
    rw [hv, Array.all_eq_true_iff_forall_mem]
    intro u hu
    exact List.all_eq_true.1 h1 u (by simpa using hu)
  have hrun := run_storeAt_cells (P := P) w b j ty v (hb.there j _ (by omega)) (by rw [hs]; exact hi) h1'
  rw [show v.cells.toList = vs from by rw [hv]] at hrun
  refine wpOp_unit ho hw (w' := _) ?_ (by rw [hd]; exact hK _ (h.stores s j vs))
  simp [execOp, hop, hx, hy, hrun, Result.andThen]
end
end Go
end
section
namespace Go
open _root_.Go.Proofs.Ytgicohkmfbbbdaa
open Go.RowKit
theorem tZ {P : Program} {ops : Array Oper} {Q : Exit → Act → World → Prop} {md : Region.Mode} {S : World → Prop} {w : World} {fuel : Nat} {listed : Array Bool} {a : Act} {oi : Oper} (i d : Nat) (v : Value) (hi : ops[i]? = some oi := by exact rfl) (hd : oi.dst = some d := by exact rfl) (hs : Region.noSelect ops = true := by kernel_rfl) (hf : Region.free md ops listed i = true := by kernel_rfl) (hr : (Region.ready md ops listed).contains i = true := by kernel_rfl) (hQ : ∀ c a w, Q (.panic c) (a.put oi.dst v) w → Q (.panic c) a w := by exact fun _ _ _ h => h) (hw : Region.wanted oi (yielded ops a.tmps) = true := by exact rfl) (r : ∀ w, S w → (execOp a.eval oi).run P w = .ok (.value v) w) (s : S w) (h : wpAnyH P md ops Q S fuel (listed.setIfInBounds i true) (a.put (some d) v) w) : wpAnyH P md ops Q S (fuel + 1) listed a w := wpAnyH_takeD hi hd hs hf hr hQ hw r s h
theorem tP {P : Program} {ops : Array Oper} {Q : Exit → Act → World → Prop} {md : Region.Mode} {S : World → Prop} {w : World} {fuel : Nat} {listed : Array Bool} {a : Act} {oi : Oper} (i d : Nat) (v : Value) (hi : ops[i]? = some oi := by exact rfl) (hd : oi.dst = some d := by exact rfl) (hs : Region.noSelect ops = true := by kernel_rfl) (hf : Region.free md ops listed i = true := by kernel_rfl) (hr : (Region.ready md ops listed).contains i = true := by kernel_rfl) (hQ : ∀ c a w, Q (.panic c) (a.put oi.dst v) w → Q (.panic c) a w := by exact fun _ _ _ h => h) (hw : Region.wanted oi (yielded ops a.tmps) = true := by exact rfl) (r : ∀ w, S w → (execOp a.eval oi).run P w = .ok (.value v) w := by intro _ _; first | (simp [execOp, go_sem, Act.eval, Act.put]; done) | kernel_rfl) (s : S w) (h : wpAnyH P md ops Q S fuel (listed.setIfInBounds i true) (a.put (some d) v) w) : wpAnyH P md ops Q S (fuel + 1) listed a w := wpAnyH_takeD hi hd hs hf hr hQ hw r s h
end Go
end

section
namespace Go
open _root_.Go.Proofs.Ytgicohkmfbbbdaa
open Go.RowKit
set_option linter.unusedVariables false
set_option linter.unusedSimpArgs false

section
variable {P : Program} {ops : Array Oper} {Q : Exit → Act → World → Prop} {md : Region.Mode} {S : World → Prop} {L0 L F : List Part} {w0 w : World}
/-- a new variable -/
theorem opAlloc_at {i : Nat} {d : Option Tmp} {o : Oper} {a : Act} {K : Act → World → Prop} {E : TypeId} (ho : ops[i]? = some o) (hd : o.dst = d) (hw : Region.wanted o (yielded ops a.tmps) = true) (hop : o.op = .alloc E) {z : Value} (hz : (P.info? E).map (·.zero) = some (some z)) {vs : List Value} (hv : z.cells = vs.toArray) (h : At L0 w0 L w)
    (hK : ∀ b w', At L0 w0 (Part.cells b vs E :: L) w' → K (a.put d (.pointer (some ⟨b, 0, none⟩))) w') : wpOp P ops Q i K a w := by
  subst hd
  refine wpOp_val ho hw (v := .pointer (some ⟨w.heap.size, 0, none⟩)) (w' := w.alloc (.cells vs.toArray E)) ?_ (hK _ _ (h.alloc vs E))
  cases hq : P.info? E with
  | none => simp [hq] at hz
  | some i =>
    have hi : i.zero = some z := by simpa [hq] using hz
    simp [execOp, hop, Instr.alloc, zeroValue, typeInfo, hq, hi, newVar, newRow, hv, Result.andThen]
/-- a row of no element is laid -/
theorem opZero_at {i : Nat} {d : Option Tmp} {o : Oper} {a : Act} {K : Act → World → Prop} {t : TypeId} {e : TypeId} (size : Nat) (ho : ops[i]? = some o) (hd : o.dst = d) (hw : Region.wanted o (yielded ops a.tmps) = true) (hop : o.op = .buildSlice t 0 #[])
    (hrun : ∀ w, (Instr.buildSlice t 0 #[]).run P w = .ok (.slice (some ⟨w.heap.size, 0, none⟩) 0 0) (w.alloc (.cells #[] e))) (h : At L0 w0 L w)
    (hK : ∀ b w', At L0 w0 (Part.row e size (.slice (some ⟨b, 0, none⟩) 0 0) 0 [] :: L) w' → K (a.put d (.slice (some ⟨b, 0, none⟩) 0 0)) w') : wpOp P ops Q i K a w := by
  subst hd
  refine wpOp_val ho hw (v := .slice (some ⟨w.heap.size, 0, none⟩) 0 0) (w' := w.alloc (.cells #[] e)) (by simp [execOp, hop, hrun, Result.andThen]) (hK _ _ ?_)
  refine h.new ((Ext.refl w).alloc _) _ ⟨by simp, .inr ⟨w.heap.size, 0, #[], rfl, Nat.zero_le _, heap_alloc_new w _, Nat.le_refl _, Nat.zero_le _, by simp, by simp⟩⟩ (fun b hb => ?_)
  have hb2 : (Value.slice (some ⟨w.heap.size, 0, none⟩) 0 0).ownBlock = some b := hb
  cases hb2
  exact Nat.le_refl _
theorem ret_eq {e : Ending} {v : Value} {R : World → Prop} {w' : World} (h : e = .returned v ∧ R w') : ∃ u, e = .returned u ∧ (u = v ∧ R w') := ⟨v, h.1, rfl, h.2⟩
end
end Go
end

section
namespace Go.Proofs.Ytgicohkmfbbbdaa
open Go.RowKit
set_option linter.unusedVariables false
set_option linter.unusedSimpArgs false

theorem setL_whole {c vs : List Value} (h : c.length = vs.length) : setL c 0 vs = vs := by
  apply List.ext_getElem?
  intro j
  by_cases hj : j < vs.length
  · have := setL_in vs c 0 j (by omega) hj
    rwa [Nat.zero_add] at this
  · rw [List.getElem?_eq_none (by rw [setL_length]; omega), List.getElem?_eq_none (by omega)]
section
variable {P : Program} {ops : Array Oper} {rest : List Oper} {o : Oper} {a : Act} {Q : Exit → Act → World → Prop} {L0 L F : List Part} {w0 w : World}
theorem wpList_storeAll_at {ty : TypeId} {x y : Operand} (hg : o.guard = none) (hop : o.op = .store ty x y) {b : Nat} (hx : a.eval x = .pointer (some ⟨b, 0, none⟩)) {v : Value} (hy : a.eval y = v) {vs : List Value} (hv : v.cells = vs.toArray)
    (h : At L0 w0 L w) {c : List Value} {T : TypeId} (s : Sel (Part.cells b c T) L F) (hi : (P.info? ty).map (·.size) = some vs.length) (h1 : vs.all (·.oneCell') = true) (hj : c.length = vs.length)
    (hK : ∀ w', At L0 w0 (Part.cells b vs T :: F) w' → wpList P ops Q rest (a.put o.dst undef) w') : wpList P ops Q (o :: rest) a w :=
  wpList_store_at hg hop hx hy hv h s hi h1 (by omega) fun w' hw => hK w' (by rw [setL_whole hj] at hw; exact hw)
theorem wpList_loadRow_at {ty : TypeId} {x : Operand} (hg : o.guard = none) (hop : o.op = .load ty x) {b j : Nat} (hx : a.eval x = .pointer (some ⟨b, j, none⟩)) {vs : List Value} (hr : ∀ (k : Nat) u, vs[k]? = some u → w.cell? ⟨b, j + k, none⟩ = some u)
    (hu : (P.underlying ty).map (·.isRow) = some true) (hi : (P.info? ty).map (·.size) = some vs.length)
    (hK : wpList P ops Q rest (a.put o.dst (.agg vs.toArray)) w) : wpList P ops Q (o :: rest) a w := by
  obtain ⟨d, hu, hd⟩ := Option.map_eq_some_iff.1 hu
  refine wpList_val hg ?_ hK
  simp [execOp, hop, hx, run_loadAt_mid w b j ty vs d (fun k v hk => hr k v hk) hu hd hi, Result.andThen]
end
end Go.Proofs.Ytgicohkmfbbbdaa
end

section
namespace Go.Proofs.Ytgicohkmfbbbdaa
open Go.RowKit
set_option linter.unusedVariables false
set_option linter.unusedSimpArgs false

section
variable {P : Program} {ops : Array Oper} {rest : List Oper} {o : Oper} {a : Act} {Q : Exit → Act → World → Prop} {w : World} {e : TypeId} {size n : Nat} {v : Value} {xs : List Value}
theorem own_form {base : Nat} (h : w.ownsRow base e size v n xs) : ∃ ax cap, v = .slice ax n cap ∧ n ≤ cap ∧ cap ≤ maxLen ∧ xs.length = n * size ∧ (ax = none ∧ n = 0 ∧ cap = 0 ∨ ∃ g, ax = some ⟨g, 0, none⟩ ∧ ∀ j u, xs[j]? = some u → w.cell? ⟨g, j, none⟩ = some u) := by
  rcases h.2 with ⟨rfl, rfl⟩ | ⟨g, cap, cur, rfl, hb, hh, hc, hm, hs, ht⟩
  · exact ⟨none, 0, rfl, Nat.le_refl _, Nat.zero_le _, h.1, .inl ⟨rfl, rfl, rfl⟩⟩
  · refine ⟨_, cap, rfl, hc, hm, h.1, .inr ⟨g, rfl, fun j u hj => ?_⟩⟩
    have := h.cells (g := g) rfl j u hj
    rw [Addr.add_lit, Nat.zero_add] at this
    exact this
theorem run_slice_to {t : TypeId} {i : TypeInfo} (ht : P.underlying t = some (.slice e)) (hi : P.info? e = some i) (hsize : i.size = size) (hr : w.ownsRow 0 e size v n xs) (k : Nat) (hk : k ≤ n) :
    ∃ xv, (Instr.sliceAt t v none (some (.int .i64 k)) none).run P w = .ok xv w ∧ Reads w xv k (xs.take (k * size)) := by
  obtain ⟨ax, cap, rfl, hc, hm, hl, hx⟩ := own_form hr
  have hz : ∀ w, (sizeOf e).run P w = .ok size w := fun w => by simp [sizeOf, typeInfo, hi, hsize]
  refine ⟨.slice (if cap = 0 then ax else ax.map (·.add (0 * size))) k cap, ?_, ?_⟩
  · simp [Instr.sliceAt, Instr.slice, run_underlying ht, Instr.sliceBounds, run_sliceBound, hz, Result.andThen, show (k : Int) ≤ cap by omega]
  · rcases hx with ⟨rfl, rfl, rfl⟩ | ⟨g, rfl, hcell⟩
    · have : xs = [] := List.eq_nil_of_length_eq_zero (by simpa using hl)
      subst this
      exact ⟨_, _, rfl, fun _ => by omega, fun j u hj => by simp at hj⟩
    · refine ⟨_, _, rfl, ?_, fun j u hj => ⟨g, 0, ?_, ?_⟩⟩
      · intro h; split at h <;> simp at h
      · split <;> simp [Addr.add]
      · rw [Nat.zero_add]
        rw [List.getElem?_take] at hj
        split at hj
        · exact hcell j u hj
        · exact nomatch hj
theorem run_slice_from {t : TypeId} {i : TypeInfo} (ht : P.underlying t = some (.slice e)) (hi : P.info? e = some i) (hsize : i.size = size) (hr : w.ownsRow 0 e size v n xs) (k : Nat) (hk : k ≤ n) :
    ∃ xv, (Instr.sliceAt t v (some (.int .i64 k)) none none).run P w = .ok xv w ∧ Reads w xv (n - k) (xs.drop (k * size)) := by
  obtain ⟨ax, cap, rfl, hc, hm, hl, hx⟩ := own_form hr
  have hz : ∀ w, (sizeOf e).run P w = .ok size w := fun w => by simp [sizeOf, typeInfo, hi, hsize]
  refine ⟨.slice (if cap = k then ax else ax.map (·.add (k * size))) (n - k) (cap - k), ?_, ?_⟩
  · simp [Instr.sliceAt, Instr.slice, run_underlying ht, Instr.sliceBounds, run_sliceBound, hz, Result.andThen, show (k : Int) ≤ n by omega]
  · rcases hx with ⟨rfl, rfl, rfl⟩ | ⟨g, rfl, hcell⟩
    · have : xs = [] := List.eq_nil_of_length_eq_zero (by simpa using hl)
      subst this
      exact ⟨_, _, rfl, fun _ => by omega, fun j u hj => by simp at hj⟩
    · refine ⟨_, _, rfl, ?_, fun j u hj => ⟨g, if cap = k then 0 else k * size, ?_, ?_⟩⟩
      · intro h; split at h <;> simp at h
      · split
        · rfl
        · rw [Option.map_some, Addr.add_lit, Nat.zero_add]
      · have hjl := (List.getElem?_eq_some_iff.1 hj).1
        rw [List.length_drop, hl] at hjl
        have hne : cap ≠ k := by
          intro h
          have : n = k := by omega
          subst this
          omega
        rw [if_neg hne]
        rw [List.getElem?_drop] at hj
        exact hcell _ u hj
theorem wpList_slice_to {t : TypeId} {i : TypeInfo} {x hi' : Operand} {k : Nat} (hg : o.guard = none) (hop : o.op = .slice t x none (some hi') none) (ht : P.underlying t = some (.slice e)) (hi : P.info? e = some i) (hsize : i.size = size) (hx : a.eval x = v) (hh : a.eval hi' = .int .i64 k)
    (hr : w.ownsRow 0 e size v n xs) (hk : k ≤ n) (hK : ∀ xv, Reads w xv k (xs.take (k * size)) → wpList P ops Q rest (a.put o.dst xv) w) : wpList P ops Q (o :: rest) a w := by
  obtain ⟨xv, h1, h2⟩ := run_slice_to (P := P) ht hi hsize hr k hk
  refine wpList_val hg ?_ (hK xv h2)
  simp [execOp, hop, hx, hh, h1, Result.andThen]
theorem wpList_slice_from {t : TypeId} {i : TypeInfo} {x lo : Operand} {k : Nat} (hg : o.guard = none) (hop : o.op = .slice t x (some lo) none none) (ht : P.underlying t = some (.slice e)) (hi : P.info? e = some i) (hsize : i.size = size) (hx : a.eval x = v) (hh : a.eval lo = .int .i64 k)
    (hr : w.ownsRow 0 e size v n xs) (hk : k ≤ n) (hK : ∀ xv, Reads w xv (n - k) (xs.drop (k * size)) → wpList P ops Q rest (a.put o.dst xv) w) : wpList P ops Q (o :: rest) a w := by
  obtain ⟨xv, h1, h2⟩ := run_slice_from (P := P) ht hi hsize hr k hk
  refine wpList_val hg ?_ (hK xv h2)
  simp [execOp, hop, hx, hh, h1, Result.andThen]
end
end Go.Proofs.Ytgicohkmfbbbdaa
end

section
namespace Go.Proofs.Ytgicohkmfbbbdaa
open Go.RowKit
set_option linter.unusedVariables false
set_option linter.unnecessarySimpa false
set_option linter.unusedSimpArgs false

theorem setL_mid : ∀ (vs p q r : List Value), q.length = vs.length → setL (p ++ (q ++ r)) p.length vs = p ++ (vs ++ r)
  | [], p, q, r, h => by
    have : q = [] := List.eq_nil_of_length_eq_zero (by simpa using h)
    subst this
    rfl
  | v :: vs, p, [], r, h => by simp at h
  | v :: vs, p, y :: q, r, h => by
    rw [setL]
    have e : (p ++ (y :: q ++ r)).set p.length v = (p ++ [v]) ++ (q ++ r) := by
      rw [List.set_append_right _ _ (Nat.le_refl _)]
      simp
    have := setL_mid vs (p ++ [v]) q r (by simpa using h)
    rw [List.length_append] at this
    rw [e]
    simp only [List.length_cons, List.length_nil, Nat.zero_add] at this
    rw [this]
    simp
theorem flat_set {α : Type} (enc : α → List Value) (size : Nat) (hs : ∀ x, (enc x).length = size) (l : List α) (i : Nat) (hi : i < l.length) (x : α) : setL (l.flatMap enc) (i * size) (enc x) = (l.set i x).flatMap enc := by
  have e1 : l = l.take i ++ l[i] :: l.drop (i + 1) := by rw [← List.drop_eq_getElem_cons hi, List.take_append_drop]
  have hl : (l.take i).length = i := by rw [List.length_take]; omega
  have e2 : l.set i x = l.take i ++ x :: l.drop (i + 1) := by
    rw [List.set_eq_take_append_cons_drop, if_pos hi]
  have e3 : l.flatMap enc = (l.take i).flatMap enc ++ (enc l[i] ++ (l.drop (i + 1)).flatMap enc) := by
    have := congrArg (fun m => m.flatMap enc) e1
    simp only [List.flatMap_append, List.flatMap_cons] at this
    exact this
  have hf : ((l.take i).flatMap enc).length = i * size := by rw [flat_len enc size hs, hl]
  rw [e2, e3, ← hf, setL_mid _ _ _ _ (by rw [hs, hs])]
  simp
theorem take_setL : ∀ (vs c : List Value) (o m : Nat), (setL c o vs).take m = setL (c.take m) o vs
  | [], _, _, _ => rfl
  | v :: vs, c, o, m => by rw [setL, setL, take_setL vs, List.take_set]
theorem take_setL_low : ∀ (vs c : List Value) (o m : Nat), m ≤ o → (setL c o vs).take m = c.take m
  | [], _, _, _, _ => rfl
  | v :: vs, c, o, m, h => by rw [setL, take_setL_low vs _ _ _ (by omega), List.take_set_of_le h]
/-- an element is written -/
theorem write_row {α : Type} {enc : α → List Value} {size : Nat} (hs : ∀ x, (enc x).length = size) {c : List Value} {l : List α} (ht : c.take (l.length * size) = l.flatMap enc) {i : Nat} (hi : i < l.length) (x : α) :
    (setL c (i * size) (enc x)).take ((l.set i x).length * size) = (l.set i x).flatMap enc := by
  rw [List.length_set, take_setL, ht, flat_set enc size hs l i hi]

section
variable {P : Program} {ops : Array Oper} {rest : List Oper} {o : Oper} {a : Act} {Q : Exit → Act → World → Prop} {L0 L F : List Part} {w0 w : World} {e : TypeId}
theorem run_clear_many (w : World) (t e ty : TypeId) (z : Value) (ht : P.underlying t = some (.slice e)) (hv : ∀ w, (zeroValue e).run P w = .ok z w) (m : Nat) (hm : 0 < m) (h1 : ∀ v ∈ (Builtin.zeroCells z.cells m).toList, v.oneCell' = true) (b o c : Nat)
    (hc : ∀ j, j < m * z.cells.size → (w.cell? ⟨b, o + j, none⟩).isSome = true) (hf : ∀ j, j < m * z.cells.size → w.frozen? ⟨b, o + j, none⟩ = false) :
    (Builtin.clear_ #[t] ty #[.slice (some ⟨b, o, none⟩) m c]).run P w = .ok (.tuple #[]) (w.setCells b o (Builtin.zeroCells z.cells m).toList) := by
  have hl : (Builtin.zeroCells z.cells m).toList.length = m * z.cells.size := by simp [Builtin.zeroCells]
  have hst := run_storeCells_cells (P := P) b o (Builtin.zeroCells z.cells m).toList 0 w (by intro j hj; simpa using hc j (by omega)) (by intro j hj; simpa using hf j (by omega)) h1
  simp only [Nat.add_zero] at hst
  obtain ⟨m, rfl⟩ : ∃ m', m = m' + 1 := ⟨m - 1, by omega⟩
  simp [Builtin.clear_, run_underlying ht, hv, hst]
theorem zero_ones (z : Value) (h : ∀ u ∈ z.cells.toList, u.oneCell' = true) (h0 : 0 < z.cells.size) (m : Nat) : ∀ v ∈ (Builtin.zeroCells z.cells m).toList, v.oneCell' = true := by
  intro v hv
  simp only [Builtin.zeroCells, Array.toList_map, List.mem_map] at hv
  obtain ⟨j, _, rfl⟩ := hv
  have hj : j % z.cells.size < z.cells.size := Nat.mod_lt _ h0
  rw [getElem!_pos z.cells (j % z.cells.size) hj]
  exact h _ (by rw [Array.mem_toList_iff]; exact Array.getElem_mem hj)
/-- the end of a row is cleared -/
theorem wpList_clear_at {t : TypeId} {x : Operand} {z : Value} {b off m cp : Nat} {c : List Value} {T : TypeId} (hg : o.guard = none) (hop : o.op = .call { callee := .builtin .clear, args := #[x], argTypes := #[t] }) (ht : P.underlying t = some (.slice e)) (hv : ∀ w, (zeroValue e).run P w = .ok z w)
    (h1 : ∀ u ∈ z.cells.toList, u.oneCell' = true) (h0 : 0 < z.cells.size) (hx : a.eval x = .slice (some ⟨b, off, none⟩) m cp) (hm : 0 < m) (h : At L0 w0 L w) (s : Sel (Part.cells b c T) L F) (hl : off + m * z.cells.size ≤ c.length)
    (hK : ∀ c' w', c'.length = c.length → c'.take off = c.take off → At L0 w0 (Part.cells b c' T :: F) w' → wpList P ops Q rest (a.put o.dst (.tuple #[])) w') : wpList P ops Q (o :: rest) a w := by
  have hb : BlockIs w b c T := h.get s
  have hrun := run_clear_many (P := P) w t e o.type z ht hv m hm (zero_ones z h1 h0 m) b off cp (fun j hj => by rw [hb.cell, List.getElem?_eq_getElem (by omega)]; rfl) (fun j hj => hb.free _)
  refine wpList_val hg ?_ (hK _ _ (setL_length _ _ _) (take_setL_low _ _ _ _ (Nat.le_refl _)) (h.stores s off (Builtin.zeroCells z.cells m).toList))
  simp [execOp, hop, resolve, invoke, builtin, hx, hrun, Result.andThen]
end
end Go.Proofs.Ytgicohkmfbbbdaa
end

section
namespace Go
open _root_.Go.Proofs.Ytgicohkmfbbbdaa
open Go.RowKit
set_option linter.unusedVariables false
set_option linter.unusedSimpArgs false

section
variable {P : Program} {ops : Array Oper} {rest : List Oper} {o : Oper} {a : Act} {Q : Exit → Act → World → Prop} {L0 L F : List Part} {w0 w : World}
/-- a row of no element is laid -/
theorem wpList_zero_at {t : TypeId} {e : TypeId} (size : Nat) (hg : o.guard = none) (hop : o.op = .buildSlice t 0 #[])
    (hrun : ∀ w, (Instr.buildSlice t 0 #[]).run P w = .ok (.slice (some ⟨w.heap.size, 0, none⟩) 0 0) (w.alloc (.cells #[] e))) (h : At L0 w0 L w)
    (hK : ∀ b w', At L0 w0 (Part.row e size (.slice (some ⟨b, 0, none⟩) 0 0) 0 [] :: L) w' → wpList P ops Q rest (a.put o.dst (.slice (some ⟨b, 0, none⟩) 0 0)) w') : wpList P ops Q (o :: rest) a w := by
  refine wpList_val hg (v := .slice (some ⟨w.heap.size, 0, none⟩) 0 0) (w' := w.alloc (.cells #[] e)) (by simp [execOp, hop, hrun, Result.andThen]) (hK _ _ ?_)
  refine h.new ((Ext.refl w).alloc _) _ ⟨by simp, .inr ⟨w.heap.size, 0, #[], rfl, Nat.zero_le _, heap_alloc_new w _, Nat.le_refl _, Nat.zero_le _, by simp, by simp⟩⟩ (fun b hb => ?_)
  have hb2 : (Value.slice (some ⟨w.heap.size, 0, none⟩) 0 0).ownBlock = some b := hb
  cases hb2
  exact Nat.le_refl _
/-- an element loaded whole -/
theorem opLoadRow_at {i : Nat} {d : Option Tmp} {o : Oper} {a : Act} {K : Act → World → Prop} (ho : ops[i]? = some o) (hd : o.dst = d) (hw : Region.wanted o (yielded ops a.tmps) = true) {ty : TypeId} {x : Operand} (hop : o.op = .load ty x) {b j : Nat} (hx : a.eval x = .pointer (some ⟨b, j, none⟩)) {c : List Value} {T : TypeId} (h : At L0 w0 L w) (s : Sel (Part.cells b c T) L F)
    (hu : (P.underlying ty).map (·.isRow) = some true) {n : Nat} (hi : (P.info? ty).map (·.size) = some n) {vs : List Value} (hv : (c.drop j).take n = vs) (hl : vs.length = n)
    (hK : K (a.put d (.agg vs.toArray)) w) : wpOp P ops Q i K a w := by
  subst hd
  have hr := run_load_row (P := P) (o := o) (a := a) hop hx (h.get s) hu hi hv hl
  exact wpOp_val ho hw (v := .agg vs.toArray) (w' := w) hr hK
end
end Go
namespace Go.Proofs.Ytgicohkmfbbbdaa
open Go.RowKit
theorem through1 {L0 L F : List Part} {w0 w : World} {A : Part} {P : Program} {f : FuncId} {args : Array Value} {v : Value} (s : Sel A L F) (h : At L0 w0 L w) (hc : ∀ w1, Sep [A] w1 → Calls P f args w1 fun e w' => e = .returned v ∧ At [A] w1 [A] w') :
    Calls P f args w fun e w' => e = .returned v ∧ At L0 w0 L w' := h.through (Eqv.perm s.perm) (hc w)
/-- the same, behind the call -/
theorem thr1 {L0 L F : List Part} {w0 w w' : World} {A : Part} (s : Sel A L F) (h : At L0 w0 L w) (hT : At [A] w [A] w') : At L0 w0 L w' :=
  ((h.to (Eqv.perm s.perm)).frame (K := [A]) hT).to (Eqv.perm s.perm).symm
end Go.Proofs.Ytgicohkmfbbbdaa
end

section
namespace Go.Proofs.Ytgicohkmfbbbdaa.Attr
open Go.RowKit
set_option linter.unusedSimpArgs false
set_option linter.unusedVariables false
attribute [-go_sem] run_eql_struct run_neq_struct run_eqGuard_agg
attribute [local go_sem] guardB eqlB_any eqlB_at

theorem thro {L0 L : List Part} {w0 w : World} {P : Program} {f : FuncId} {args : Array Value} {v : Value} (h : At L0 w0 L w) (hc : Calls P f args w fun e w' => e = .returned v ∧ Ext w w') :
    Calls P f args w fun e w' => e = .returned v ∧ At L0 w0 L w' := hc.mono fun e w' ⟨he, hx⟩ => ⟨he, h.ext hx⟩
theorem guardB_at (op : BinOp) (x y : Operand) (s d0 d1 d2 d3 d4 d5 d6 u e0 e1 e2 e3 e4 e5 e6 : Int) (w : World) : (eqGuard op 65 x y (.agg #[.int .i64 s, .int .i64 d0, .int .i64 d1, .int .i64 d2, .int .i64 d3, .int .i64 d4, .int .i64 d5, .int .i64 d6]) (.agg #[.int .i64 u, .int .i64 e0, .int .i64 e1, .int .i64 e2, .int .i64 e3, .int .i64 e4, .int .i64 e5, .int .i64 e6])).run Try.prog w = .ok () w := guardB op x y ⟨s, d0, d1, d2, d3, d4, d5, d6⟩ ⟨u, e0, e1, e2, e3, e4, e5, e6⟩ w
attribute [local go_sem] guardB_at
def ownsB (a : A8) (r t : Int) : Bool := rightI r t && (a.right && eqA (a.own r t) a)
set_option maxRecDepth 100000 in
set_option maxHeartbeats 2000000 in
theorem owns_any (a : A8) (r t : Int) (w : World) : Calls Try.prog 54 #[a.val, .agg #[.int .i64 r, .int .i64 t]] w fun e w' => e = .returned (.bool (ownsB a r t)) ∧ Ext w w' := by
  have hA : At [] w [] w := At.start (L0 := []) trivial
  have hF := hA.facts
  have hri := fun w => idRight_any r t w
  have har := fun w => right_any a w
  have how := fun w => own_any a r t w
  unfold ownsB
  generalize rightI r t = p at *
  generalize a.right = q at *
  generalize a.own r t = o at *
  obtain ⟨s, d0, d1, d2, d3, d4, d5, d6⟩ := a
  obtain ⟨u, e0, e1, e2, e3, e4, e5, e6⟩ := o
  simp only [A8.val] at *
  (try simp only [uA] at hA); have hF := hA.facts; (try simp only [fZ] at hF)
  go_enter Try.func54, Try.ntmps54
  go_wp2_with (first | ((with_reducible refine gbx ?_); refine wX 65 (.agg #[.int .i64 s, .int .i64 d0, .int .i64 d1, .int .i64 d2, .int .i64 d3, .int .i64 d4, .int .i64 d5, .int .i64 d6]) [.int .i64 s, .int .i64 d0, .int .i64 d1, .int .i64 d2, .int .i64 d3, .int .i64 d4, .int .i64 d5, .int .i64 d6] hA ?_; clear hF hA; intro bA w1 hA hbA; (try simp only [uA] at hA); have hF := hA.facts; (try simp only [fZ] at hF)) | ((with_reducible refine gbx ?_); refine wX 38 (.agg #[.int .i64 r, .int .i64 t]) [.int .i64 r, .int .i64 t] hA ?_; clear hF hA; intro bI w1 hA hbI; (try simp only [uA] at hA); have hF := hA.facts; (try simp only [fZ] at hF)) | ((with_reducible refine gst ?_); refine wS hA ?_; clear hF hA; intro w1 hA; (try simp only [uA] at hA); have hF := hA.facts; (try simp only [fZ] at hF)) | ((with_reducible refine gbx ?_); refine wB hA ?_; clear hF hA; intro b1 w1 hA hb1; (try simp only [uA] at hA); have hF := hA.facts; (try simp only [fZ] at hF)))
  try go_frame
  cases p
  · (refine wp_region_all (Cl _ _ _) (by kernel_rfl) (by kernel_rfl) (Cl.drew hA) ?_); (have hn1 := Cl.none hA); (have hn2 := Cl.none2 hA); (repeat (first | go_big_quiet_skip | (go_big_quiet_want; (first | (refine quiet_loads_at (ty := 38) (n := 2) rfl rfl sR (by kernel_rfl) (by kernel_rfl) (by first | assumption | ((try simp only [List.drop_succ_cons, List.drop_zero, List.take_succ_cons, List.take_zero]) <;> exact rfl)) (by exact rfl) ?_; go_frame; go_big_quiet_on) | (refine quiet_loads_at (ty := 65) (n := 8) rfl rfl sR (by kernel_rfl) (by kernel_rfl) (by first | assumption | ((try simp only [List.drop_succ_cons, List.drop_zero, List.take_succ_cons, List.take_zero]) <;> exact rfl)) (by exact rfl) ?_; go_frame; go_big_quiet_on) | (refine quiet_load_at rfl rfl sR (by kernel_rfl) (by first | assumption | exact rfl) ?_; go_frame; go_big_quiet_on) | (go_big_quiet_op; (first | go_big_quiet_on | ((apply Exists.intro); (refine ⟨fun w1 hw => ?_, ?_⟩); (focus ((have hw := Cl.out hw); (first | exact thro hw (hri _) | exact thro hw (har _) | exact thro hw (how _)))); (go_big_quiet_on))))))))
    (refine wpQuiet_nil ?_); (intro w1 hB); (clear hF hA hn1 hn2); (have hA := Cl.out hB); (clear hB); (try simp only [uA] at hA); have hF := hA.facts; (try simp only [fZ] at hF)
    go_wp2_with (first | ((with_reducible refine gst ?_); refine wS hA ?_; clear hF hA; intro w1 hA; (try simp only [uA] at hA); have hF := hA.facts; (try simp only [fZ] at hF)) | ((with_reducible refine gbx ?_); refine wB hA ?_; clear hF hA; intro b1 w1 hA hb1; (try simp only [uA] at hA); have hF := hA.facts; (try simp only [fZ] at hF)))
    go_ret
    exact ⟨rfl, hA.toExt⟩
  · cases q
    · (refine wp_region_all (Cl _ _ _) (by kernel_rfl) (by kernel_rfl) (Cl.drew hA) ?_); (have hn1 := Cl.none hA); (have hn2 := Cl.none2 hA); (repeat (first | go_big_quiet_skip | (go_big_quiet_want; (first | (refine quiet_loads_at (ty := 38) (n := 2) rfl rfl sR (by kernel_rfl) (by kernel_rfl) (by first | assumption | ((try simp only [List.drop_succ_cons, List.drop_zero, List.take_succ_cons, List.take_zero]) <;> exact rfl)) (by exact rfl) ?_; go_frame; go_big_quiet_on) | (refine quiet_loads_at (ty := 65) (n := 8) rfl rfl sR (by kernel_rfl) (by kernel_rfl) (by first | assumption | ((try simp only [List.drop_succ_cons, List.drop_zero, List.take_succ_cons, List.take_zero]) <;> exact rfl)) (by exact rfl) ?_; go_frame; go_big_quiet_on) | (refine quiet_load_at rfl rfl sR (by kernel_rfl) (by first | assumption | exact rfl) ?_; go_frame; go_big_quiet_on) | (go_big_quiet_op; (first | go_big_quiet_on | ((apply Exists.intro); (refine ⟨fun w1 hw => ?_, ?_⟩); (focus ((have hw := Cl.out hw); (first | exact thro hw (hri _) | exact thro hw (har _) | exact thro hw (how _)))); (go_big_quiet_on))))))))
      (refine wpQuiet_nil ?_); (intro w1 hB); (clear hF hA hn1 hn2); (have hA := Cl.out hB); (clear hB); (try simp only [uA] at hA); have hF := hA.facts; (try simp only [fZ] at hF)
      go_wp2_with (first | ((with_reducible refine gst ?_); refine wS hA ?_; clear hF hA; intro w1 hA; (try simp only [uA] at hA); have hF := hA.facts; (try simp only [fZ] at hF)) | ((with_reducible refine gbx ?_); refine wB hA ?_; clear hF hA; intro b1 w1 hA hb1; (try simp only [uA] at hA); have hF := hA.facts; (try simp only [fZ] at hF)))
      go_ret
      exact ⟨rfl, hA.toExt⟩
    · (refine wp_region_all (Cl _ _ _) (by kernel_rfl) (by kernel_rfl) (Cl.drew hA) ?_); (have hn1 := Cl.none hA); (have hn2 := Cl.none2 hA); (repeat (first | go_big_quiet_skip | (go_big_quiet_want; (first | (refine quiet_loads_at (ty := 38) (n := 2) rfl rfl sR (by kernel_rfl) (by kernel_rfl) (by first | assumption | ((try simp only [List.drop_succ_cons, List.drop_zero, List.take_succ_cons, List.take_zero]) <;> exact rfl)) (by exact rfl) ?_; go_frame; go_big_quiet_on) | (refine quiet_loads_at (ty := 65) (n := 8) rfl rfl sR (by kernel_rfl) (by kernel_rfl) (by first | assumption | ((try simp only [List.drop_succ_cons, List.drop_zero, List.take_succ_cons, List.take_zero]) <;> exact rfl)) (by exact rfl) ?_; go_frame; go_big_quiet_on) | (refine quiet_load_at rfl rfl sR (by kernel_rfl) (by first | assumption | exact rfl) ?_; go_frame; go_big_quiet_on) | (go_big_quiet_op; (first | go_big_quiet_on | ((apply Exists.intro); (refine ⟨fun w1 hw => ?_, ?_⟩); (focus ((have hw := Cl.out hw); (first | exact thro hw (hri _) | exact thro hw (har _) | exact thro hw (how _)))); (go_big_quiet_on))))))))
      (refine wpQuiet_nil ?_); (intro w1 hB); (clear hF hA hn1 hn2); (have hA := Cl.out hB); (clear hB); (try simp only [uA] at hA); have hF := hA.facts; (try simp only [fZ] at hF)
      go_wp2_with (first | ((with_reducible refine gst ?_); refine wS hA ?_; clear hF hA; intro w1 hA; (try simp only [uA] at hA); have hF := hA.facts; (try simp only [fZ] at hF)) | ((with_reducible refine gbx ?_); refine wB hA ?_; clear hF hA; intro b1 w1 hA hb1; (try simp only [uA] at hA); have hF := hA.facts; (try simp only [fZ] at hF)))
      go_ret
      exact ⟨rfl, hA.toExt⟩
end Go.Proofs.Ytgicohkmfbbbdaa.Attr
end
