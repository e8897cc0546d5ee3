/- Attributes: eight numbers; names of instances. No program in sight. -/
import Derived.Test.YtpbeennielgogaaDoorBase
namespace Go.Proofs.YtpbeennielgogaaDoor.Attr
set_option linter.unusedSimpArgs false
set_option linter.unusedVariables false

structure A8 where
  s : Int
  d0 : Int
  d1 : Int
  d2 : Int
  d3 : Int
  d4 : Int
  d5 : Int
  d6 : Int
deriving DecidableEq
def A8.cells (a : A8) : List Value := [.int .i64 a.s, .int .i64 a.d0, .int .i64 a.d1, .int .i64 a.d2, .int .i64 a.d3, .int .i64 a.d4, .int .i64 a.d5, .int .i64 a.d6]
def A8.val (a : A8) : Value := .agg #[.int .i64 a.s, .int .i64 a.d0, .int .i64 a.d1, .int .i64 a.d2, .int .i64 a.d3, .int .i64 a.d4, .int .i64 a.d5, .int .i64 a.d6]
def A8.zero : A8 := ⟨0, 0, 0, 0, 0, 0, 0, 0⟩
def A8.merge (a b : A8) : A8 := ⟨max a.s b.s, max a.d0 b.d0, max a.d1 b.d1, max a.d2 b.d2, max a.d3 b.d3, max a.d4 b.d4, max a.d5 b.d5, max a.d6 b.d6⟩
def A8.past (a : A8) (q : Int) : A8 := if 0 ≤ q then { a with s := max a.s (min q 1073741823 + 1) } else a
def A8.set (a : A8) (q : Nat) (v : Int) : A8 := match q with
  | 0 => { a with d0 := v }
  | 1 => { a with d1 := v }
  | 2 => { a with d2 := v }
  | 3 => { a with d3 := v }
  | 4 => { a with d4 := v }
  | 5 => { a with d5 := v }
  | 6 => { a with d6 := v }
  | _ => a
def A8.dep (a : A8) (q : Nat) : Int := match q with
  | 0 => a.d0
  | 1 => a.d1
  | 2 => a.d2
  | 3 => a.d3
  | 4 => a.d4
  | 5 => a.d5
  | 6 => a.d6
  | _ => 0
/-- may a name be? -/
def rightI (r t : Int) : Bool := decide (0 ≤ r) && decide (r ≤ 6) && decide (0 ≤ t) && decide (t < 1024)
def A8.own (a : A8) (r t : Int) : A8 := if rightI r t then a.set r.toNat t else a
def badD (d : Int) : Bool := decide (d < 0) || decide (1024 < d)
def A8.right (a : A8) : Bool := !badD a.d0 && !badD a.d1 && !badD a.d2 && !badD a.d3 && !badD a.d4 && !badD a.d5 && !badD a.d6 && (decide (0 ≤ a.s) && decide (a.s ≤ 1073741824))
theorem rightI_iff {r t : Int} : rightI r t = true ↔ 0 ≤ r ∧ r ≤ 6 ∧ 0 ≤ t ∧ t < 1024 := by
  unfold rightI
  simp
  omega
end Go.Proofs.YtpbeennielgogaaDoor.Attr
