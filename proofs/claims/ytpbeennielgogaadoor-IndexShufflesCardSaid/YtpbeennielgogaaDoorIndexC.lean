/- The walk of IndexCovers. -/
import Derived.Test.YtpbeennielgogaaDoorIndexT
import Derived.Test.YtpbeennielgogaaDoorIndexP
import Derived.Test.YtpbeennielgogaaDoorAttrC
import Derived.Test.YtpbeennielgogaaDoorClashC
namespace Go.Proofs.YtpbeennielgogaaDoor.Ix
open Go.RowKit
open Go.Maps (Keyed)
open Path (bl rightB overB)
open Attr (A8 rightI)
open Cmd (Cm keyC footC through0 clashB)
set_option linter.unusedSimpArgs false
set_option linter.unusedVariables false
attribute [-go_sem] run_eql_struct run_neq_struct run_eqGuard_agg

def CvRel (w : World) (p m b8 b9 b12 b13 : Nat) (a b : Cm) (ir it kr kt : Int) (es0 : List En) (os : List Op12) (k : Nat) (u : Value) (wr : World) : Prop :=
  ∃ (i : Nat) (es : List En), u = .int .i64 i ∧ i + k = os.length ∧ Grow es0 es ∧ FineL es ∧ es.length ≤ es0.length + i ∧ At [Part.old w] w [IxP p m es, Part.cells b8 [.int .i64 a.kind, .int .u64 a.num, .string a.foot, .int .u64 a.req, .string a.path, .int .i64 a.mode, .int .u64 a.n, .int .i64 a.time] 28, Part.cells b9 [.int .i64 ir, .int .i64 it] 30, Part.cells b12 [.int .i64 b.kind, .int .u64 b.num, .string b.foot, .int .u64 b.req, .string b.path, .int .i64 b.mode, .int .u64 b.n, .int .i64 b.time] 28, Part.cells b13 [.int .i64 kr, .int .i64 kt] 30, Part.old w] wr
theorem merge_len (f : ByteArray) (n : Int) (v : A8) : ∀ es : List En, (mergeE es f n v).length ≤ es.length + 1
  | [] => by simp [mergeE]
  | e :: es => by
    have := merge_len f n v es
    unfold mergeE
    split <;> simp <;> omega
theorem step_len (es : List En) (o : Op12) : (stepE es o).length ≤ es.length + 1 := by
  unfold stepE noteE addE
  split
  · split
    · split
      · exact merge_len _ _ _ _
      · omega
    · omega
  split
  · split
    · exact merge_len _ _ _ _
    · omega
  · omega
/-- what the law's last line asks -/
structure Good (a b : Cm) (ir it seq kr kt : Int) (first last : A8) : Prop where
  cov : it < first.dep ir.toNat
  seq : seq < first.s
  win : first.merge last = last
  right : last.right = true
  own : last.own kr kt = last
end Go.Proofs.YtpbeennielgogaaDoor.Ix
