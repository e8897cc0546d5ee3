/- ClashC, IndexC, IndexG, RegI, joined. -/
import Derived.Test.YtpbeennielgogaaDoorJ8
import Derived.Test.YtpbeennielgogaaDoorJ20
import Derived.Test.YtpbeennielgogaaDoorJ21
import Derived.Test.YtpbeennielgogaaDoorJ19
section
namespace Go.Proofs.YtpbeennielgogaaDoor.Cmd
open Go.RowKit
open Path (bl rightB overB)
set_option linter.unusedSimpArgs false
set_option linter.unusedVariables false
attribute [-go_sem] run_eql_struct run_neq_struct run_eqGuard_agg

def clashB (a b : Cm) : Bool := (footC a).2 && (footC b).2 && ((a.num == b.num) || overB (bl (footC a).1) (bl (footC b).1))
set_option maxRecDepth 100000 in
set_option maxHeartbeats 1000000 in
theorem clashC_any (a b : Cm) (w : World) (ha : a.foot.size ≤ 1000) (hap : a.path.size ≤ 1000) (hb : b.foot.size ≤ 1000) (hbp : b.path.size ≤ 1000) : Calls Tryd.prog 15 #[a.val, b.val] w fun e w' => e = .returned (.bool (clashB a b)) ∧ Ext w w' := by
  have hA : At [] w [] w := At.start (L0 := []) trivial
  have hF := hA.facts
  have hoa := fun w => of_any a w ha hap
  have hob := fun w => of_any b w hb hbp
  have sa := foot_size a ha hap
  have sb := foot_size b hb hbp
  unfold clashB
  generalize footC a = fa at *
  generalize footC b = fb at *
  obtain ⟨f, x⟩ := fa
  obtain ⟨g, y⟩ := fb
  simp only at sa sb
  have hcl := fun w => clash_any f a.num g b.num w sa sb
  obtain ⟨kind, num, foot, req, path, mode, n, time⟩ := a
  obtain ⟨kind2, num2, foot2, req2, path2, mode2, n2, time2⟩ := b
  simp only [Cm.val] at *
  generalize ((num == num2) || overB (bl f) (bl g)) = cb at *
  (try simp only [uA] at hA); have hF := hA.facts; (try simp only [fA, and_true, true_and] at hF)
  cases x
  · simp only [Bool.false_and]
    cases y
    · go_enter Tryd.func15, Tryd.ntmps15
      go_wp2_with (first | ((with_reducible show wpList _ _ _ ({ dst := some 2, op := Op.box _ _, type := _, pos := _, after := _, guard := _ } :: _) _ _); ((with_reducible refine gbx ?_); refine wX 28 (.agg #[.int .i64 kind, .int .u64 num, .string foot, .int .u64 req, .string path, .int .i64 mode, .int .u64 n, .int .i64 time]) [.int .i64 kind, .int .u64 num, .string foot, .int .u64 req, .string path, .int .i64 mode, .int .u64 n, .int .i64 time] hA ?_; clear hF hA; intro bA w1 hA hbA; (try simp only [uA] at hA); have hF := hA.facts; (try simp only [fA, and_true, true_and] at hF))) | ((with_reducible show wpList _ _ _ ({ dst := some 3, op := Op.box _ _, type := _, pos := _, after := _, guard := _ } :: _) _ _); ((with_reducible refine gbx ?_); refine wX 28 (.agg #[.int .i64 kind2, .int .u64 num2, .string foot2, .int .u64 req2, .string path2, .int .i64 mode2, .int .u64 n2, .int .i64 time2]) [.int .i64 kind2, .int .u64 num2, .string foot2, .int .u64 req2, .string path2, .int .i64 mode2, .int .u64 n2, .int .i64 time2] hA ?_; clear hF hA; intro bB w1 hA hbB; (try simp only [uA] at hA); have hF := hA.facts; (try simp only [fA, and_true, true_and] at hF))) | ((with_reducible refine gst ?_); refine wS hA ?_; clear hF hA; intro w1 hA; (try simp only [uA] at hA); have hF := hA.facts; (try simp only [fA, and_true, true_and] at hF)) | ((with_reducible refine gbx ?_); refine wB hA ?_; clear hF hA; intro b1 w1 hA hb1; (try simp only [uA] at hA); have hF := hA.facts; (try simp only [fA, and_true, true_and] at hF)))
      refine (hoa _).mono ?_
      clear hoa
      rintro e w1 ⟨rfl, hx⟩
      have hB := hA.ext hx
      clear hF hA hx
      have hA := hB
      clear hB
      have hF := hA.facts
      (try simp only [uA] at hA); have hF := hA.facts; (try simp only [fA, and_true, true_and] at hF)
      go_wp2_with (first | ((with_reducible refine gal ?_); refine wA 37 (.agg #[.string .empty, .int .u64 0]) [.string .empty, .int .u64 0] hA ?_; clear hF hA; intro bK w1 hA hbK; (try simp only [uA] at hA); have hF := hA.facts; (try simp only [fA, and_true, true_and] at hF)) | ((with_reducible refine gst ?_); refine wS hA ?_; clear hF hA; intro w1 hA; (try simp only [uA] at hA); have hF := hA.facts; (try simp only [fA, and_true, true_and] at hF)) | ((with_reducible refine gbx ?_); refine wB hA ?_; clear hF hA; intro b1 w1 hA hb1; (try simp only [uA] at hA); have hF := hA.facts; (try simp only [fA, and_true, true_and] at hF)))
      refine (hob _).mono ?_
      clear hob
      rintro e w1 ⟨rfl, hx⟩
      have hB := hA.ext hx
      clear hF hA hx
      have hA := hB
      clear hB
      have hF := hA.facts
      (try simp only [uA] at hA); have hF := hA.facts; (try simp only [fA, and_true, true_and] at hF)
      go_wp2_with (first | ((with_reducible refine gal ?_); refine wA 37 (.agg #[.string .empty, .int .u64 0]) [.string .empty, .int .u64 0] hA ?_; clear hF hA; intro bL w1 hA hbL; (try simp only [uA] at hA); have hF := hA.facts; (try simp only [fA, and_true, true_and] at hF)) | ((with_reducible refine gst ?_); refine wS hA ?_; clear hF hA; intro w1 hA; (try simp only [uA] at hA); have hF := hA.facts; (try simp only [fA, and_true, true_and] at hF)) | ((with_reducible refine gbx ?_); refine wB hA ?_; clear hF hA; intro b1 w1 hA hb1; (try simp only [uA] at hA); have hF := hA.facts; (try simp only [fA, and_true, true_and] at hF)))
      go_ret
      exact ⟨rfl, hA.toExt⟩
    · go_enter Tryd.func15, Tryd.ntmps15
      go_wp2_with (first | ((with_reducible show wpList _ _ _ ({ dst := some 2, op := Op.box _ _, type := _, pos := _, after := _, guard := _ } :: _) _ _); ((with_reducible refine gbx ?_); refine wX 28 (.agg #[.int .i64 kind, .int .u64 num, .string foot, .int .u64 req, .string path, .int .i64 mode, .int .u64 n, .int .i64 time]) [.int .i64 kind, .int .u64 num, .string foot, .int .u64 req, .string path, .int .i64 mode, .int .u64 n, .int .i64 time] hA ?_; clear hF hA; intro bA w1 hA hbA; (try simp only [uA] at hA); have hF := hA.facts; (try simp only [fA, and_true, true_and] at hF))) | ((with_reducible show wpList _ _ _ ({ dst := some 3, op := Op.box _ _, type := _, pos := _, after := _, guard := _ } :: _) _ _); ((with_reducible refine gbx ?_); refine wX 28 (.agg #[.int .i64 kind2, .int .u64 num2, .string foot2, .int .u64 req2, .string path2, .int .i64 mode2, .int .u64 n2, .int .i64 time2]) [.int .i64 kind2, .int .u64 num2, .string foot2, .int .u64 req2, .string path2, .int .i64 mode2, .int .u64 n2, .int .i64 time2] hA ?_; clear hF hA; intro bB w1 hA hbB; (try simp only [uA] at hA); have hF := hA.facts; (try simp only [fA, and_true, true_and] at hF))) | ((with_reducible refine gst ?_); refine wS hA ?_; clear hF hA; intro w1 hA; (try simp only [uA] at hA); have hF := hA.facts; (try simp only [fA, and_true, true_and] at hF)) | ((with_reducible refine gbx ?_); refine wB hA ?_; clear hF hA; intro b1 w1 hA hb1; (try simp only [uA] at hA); have hF := hA.facts; (try simp only [fA, and_true, true_and] at hF)))
      refine (hoa _).mono ?_
      clear hoa
      rintro e w1 ⟨rfl, hx⟩
      have hB := hA.ext hx
      clear hF hA hx
      have hA := hB
      clear hB
      have hF := hA.facts
      (try simp only [uA] at hA); have hF := hA.facts; (try simp only [fA, and_true, true_and] at hF)
      go_wp2_with (first | ((with_reducible refine gal ?_); refine wA 37 (.agg #[.string .empty, .int .u64 0]) [.string .empty, .int .u64 0] hA ?_; clear hF hA; intro bK w1 hA hbK; (try simp only [uA] at hA); have hF := hA.facts; (try simp only [fA, and_true, true_and] at hF)) | ((with_reducible refine gst ?_); refine wS hA ?_; clear hF hA; intro w1 hA; (try simp only [uA] at hA); have hF := hA.facts; (try simp only [fA, and_true, true_and] at hF)) | ((with_reducible refine gbx ?_); refine wB hA ?_; clear hF hA; intro b1 w1 hA hb1; (try simp only [uA] at hA); have hF := hA.facts; (try simp only [fA, and_true, true_and] at hF)))
      refine (hob _).mono ?_
      clear hob
      rintro e w1 ⟨rfl, hx⟩
      have hB := hA.ext hx
      clear hF hA hx
      have hA := hB
      clear hB
      have hF := hA.facts
      (try simp only [uA] at hA); have hF := hA.facts; (try simp only [fA, and_true, true_and] at hF)
      go_wp2_with (first | ((with_reducible refine gal ?_); refine wA 37 (.agg #[.string .empty, .int .u64 0]) [.string .empty, .int .u64 0] hA ?_; clear hF hA; intro bL w1 hA hbL; (try simp only [uA] at hA); have hF := hA.facts; (try simp only [fA, and_true, true_and] at hF)) | ((with_reducible refine gst ?_); refine wS hA ?_; clear hF hA; intro w1 hA; (try simp only [uA] at hA); have hF := hA.facts; (try simp only [fA, and_true, true_and] at hF)) | ((with_reducible refine gbx ?_); refine wB hA ?_; clear hF hA; intro b1 w1 hA hb1; (try simp only [uA] at hA); have hF := hA.facts; (try simp only [fA, and_true, true_and] at hF)))
      go_ret
      exact ⟨rfl, hA.toExt⟩
  · cases y
    · simp only [Bool.and_false, Bool.false_and]
      go_enter Tryd.func15, Tryd.ntmps15
      go_wp2_with (first | ((with_reducible show wpList _ _ _ ({ dst := some 2, op := Op.box _ _, type := _, pos := _, after := _, guard := _ } :: _) _ _); ((with_reducible refine gbx ?_); refine wX 28 (.agg #[.int .i64 kind, .int .u64 num, .string foot, .int .u64 req, .string path, .int .i64 mode, .int .u64 n, .int .i64 time]) [.int .i64 kind, .int .u64 num, .string foot, .int .u64 req, .string path, .int .i64 mode, .int .u64 n, .int .i64 time] hA ?_; clear hF hA; intro bA w1 hA hbA; (try simp only [uA] at hA); have hF := hA.facts; (try simp only [fA, and_true, true_and] at hF))) | ((with_reducible show wpList _ _ _ ({ dst := some 3, op := Op.box _ _, type := _, pos := _, after := _, guard := _ } :: _) _ _); ((with_reducible refine gbx ?_); refine wX 28 (.agg #[.int .i64 kind2, .int .u64 num2, .string foot2, .int .u64 req2, .string path2, .int .i64 mode2, .int .u64 n2, .int .i64 time2]) [.int .i64 kind2, .int .u64 num2, .string foot2, .int .u64 req2, .string path2, .int .i64 mode2, .int .u64 n2, .int .i64 time2] hA ?_; clear hF hA; intro bB w1 hA hbB; (try simp only [uA] at hA); have hF := hA.facts; (try simp only [fA, and_true, true_and] at hF))) | ((with_reducible refine gst ?_); refine wS hA ?_; clear hF hA; intro w1 hA; (try simp only [uA] at hA); have hF := hA.facts; (try simp only [fA, and_true, true_and] at hF)) | ((with_reducible refine gbx ?_); refine wB hA ?_; clear hF hA; intro b1 w1 hA hb1; (try simp only [uA] at hA); have hF := hA.facts; (try simp only [fA, and_true, true_and] at hF)))
      refine (hoa _).mono ?_
      clear hoa
      rintro e w1 ⟨rfl, hx⟩
      have hB := hA.ext hx
      clear hF hA hx
      have hA := hB
      clear hB
      have hF := hA.facts
      (try simp only [uA] at hA); have hF := hA.facts; (try simp only [fA, and_true, true_and] at hF)
      go_wp2_with (first | ((with_reducible refine gal ?_); refine wA 37 (.agg #[.string .empty, .int .u64 0]) [.string .empty, .int .u64 0] hA ?_; clear hF hA; intro bK w1 hA hbK; (try simp only [uA] at hA); have hF := hA.facts; (try simp only [fA, and_true, true_and] at hF)) | ((with_reducible refine gst ?_); refine wS hA ?_; clear hF hA; intro w1 hA; (try simp only [uA] at hA); have hF := hA.facts; (try simp only [fA, and_true, true_and] at hF)) | ((with_reducible refine gbx ?_); refine wB hA ?_; clear hF hA; intro b1 w1 hA hb1; (try simp only [uA] at hA); have hF := hA.facts; (try simp only [fA, and_true, true_and] at hF)))
      refine (hob _).mono ?_
      clear hob
      rintro e w1 ⟨rfl, hx⟩
      have hB := hA.ext hx
      clear hF hA hx
      have hA := hB
      clear hB
      have hF := hA.facts
      (try simp only [uA] at hA); have hF := hA.facts; (try simp only [fA, and_true, true_and] at hF)
      go_wp2_with (first | ((with_reducible refine gal ?_); refine wA 37 (.agg #[.string .empty, .int .u64 0]) [.string .empty, .int .u64 0] hA ?_; clear hF hA; intro bL w1 hA hbL; (try simp only [uA] at hA); have hF := hA.facts; (try simp only [fA, and_true, true_and] at hF)) | ((with_reducible refine gst ?_); refine wS hA ?_; clear hF hA; intro w1 hA; (try simp only [uA] at hA); have hF := hA.facts; (try simp only [fA, and_true, true_and] at hF)) | ((with_reducible refine gbx ?_); refine wB hA ?_; clear hF hA; intro b1 w1 hA hb1; (try simp only [uA] at hA); have hF := hA.facts; (try simp only [fA, and_true, true_and] at hF)))
      go_ret
      exact ⟨rfl, hA.toExt⟩
    · simp only [Bool.and_true, Bool.true_and, if_true] at *
      go_enter Tryd.func15, Tryd.ntmps15
      go_wp2_with (first | ((with_reducible show wpList _ _ _ ({ dst := some 2, op := Op.box _ _, type := _, pos := _, after := _, guard := _ } :: _) _ _); ((with_reducible refine gbx ?_); refine wX 28 (.agg #[.int .i64 kind, .int .u64 num, .string foot, .int .u64 req, .string path, .int .i64 mode, .int .u64 n, .int .i64 time]) [.int .i64 kind, .int .u64 num, .string foot, .int .u64 req, .string path, .int .i64 mode, .int .u64 n, .int .i64 time] hA ?_; clear hF hA; intro bA w1 hA hbA; (try simp only [uA] at hA); have hF := hA.facts; (try simp only [fA, and_true, true_and] at hF))) | ((with_reducible show wpList _ _ _ ({ dst := some 3, op := Op.box _ _, type := _, pos := _, after := _, guard := _ } :: _) _ _); ((with_reducible refine gbx ?_); refine wX 28 (.agg #[.int .i64 kind2, .int .u64 num2, .string foot2, .int .u64 req2, .string path2, .int .i64 mode2, .int .u64 n2, .int .i64 time2]) [.int .i64 kind2, .int .u64 num2, .string foot2, .int .u64 req2, .string path2, .int .i64 mode2, .int .u64 n2, .int .i64 time2] hA ?_; clear hF hA; intro bB w1 hA hbB; (try simp only [uA] at hA); have hF := hA.facts; (try simp only [fA, and_true, true_and] at hF))) | ((with_reducible refine gst ?_); refine wS hA ?_; clear hF hA; intro w1 hA; (try simp only [uA] at hA); have hF := hA.facts; (try simp only [fA, and_true, true_and] at hF)) | ((with_reducible refine gbx ?_); refine wB hA ?_; clear hF hA; intro b1 w1 hA hb1; (try simp only [uA] at hA); have hF := hA.facts; (try simp only [fA, and_true, true_and] at hF)))
      refine (hoa _).mono ?_
      clear hoa
      rintro e w1 ⟨rfl, hx⟩
      have hB := hA.ext hx
      clear hF hA hx
      have hA := hB
      clear hB
      have hF := hA.facts
      (try simp only [uA] at hA); have hF := hA.facts; (try simp only [fA, and_true, true_and] at hF)
      go_wp2_with (first | ((with_reducible refine gal ?_); refine wA 37 (.agg #[.string .empty, .int .u64 0]) [.string .empty, .int .u64 0] hA ?_; clear hF hA; intro bK w1 hA hbK; (try simp only [uA] at hA); have hF := hA.facts; (try simp only [fA, and_true, true_and] at hF)) | ((with_reducible refine gst ?_); refine wS hA ?_; clear hF hA; intro w1 hA; (try simp only [uA] at hA); have hF := hA.facts; (try simp only [fA, and_true, true_and] at hF)) | ((with_reducible refine gbx ?_); refine wB hA ?_; clear hF hA; intro b1 w1 hA hb1; (try simp only [uA] at hA); have hF := hA.facts; (try simp only [fA, and_true, true_and] at hF)))
      refine (hob _).mono ?_
      clear hob
      rintro e w1 ⟨rfl, hx⟩
      have hB := hA.ext hx
      clear hF hA hx
      have hA := hB
      clear hB
      have hF := hA.facts
      (try simp only [uA] at hA); have hF := hA.facts; (try simp only [fA, and_true, true_and] at hF)
      go_wp2_with (first | ((with_reducible refine gal ?_); refine wA 37 (.agg #[.string .empty, .int .u64 0]) [.string .empty, .int .u64 0] hA ?_; clear hF hA; intro bL w1 hA hbL; (try simp only [uA] at hA); have hF := hA.facts; (try simp only [fA, and_true, true_and] at hF)) | ((with_reducible refine gst ?_); refine wS hA ?_; clear hF hA; intro w1 hA; (try simp only [uA] at hA); have hF := hA.facts; (try simp only [fA, and_true, true_and] at hF)) | ((with_reducible refine gbx ?_); refine wB hA ?_; clear hF hA; intro b1 w1 hA hb1; (try simp only [uA] at hA); have hF := hA.facts; (try simp only [fA, and_true, true_and] at hF)))
      refine (hcl _).mono ?_
      clear hcl
      rintro e w1 ⟨rfl, hx⟩
      have hB := hA.ext hx
      clear hF hA hx
      have hA := hB
      clear hB
      have hF := hA.facts
      (try simp only [uA] at hA); have hF := hA.facts; (try simp only [fA, and_true, true_and] at hF)
      go_wp2_with (first | ((with_reducible refine gst ?_); refine wS hA ?_; clear hF hA; intro w1 hA; (try simp only [uA] at hA); have hF := hA.facts; (try simp only [fA, and_true, true_and] at hF)) | ((with_reducible refine gbx ?_); refine wB hA ?_; clear hF hA; intro b1 w1 hA hb1; (try simp only [uA] at hA); have hF := hA.facts; (try simp only [fA, and_true, true_and] at hF)))
      go_ret
      exact ⟨rfl, hA.toExt⟩
end Go.Proofs.YtpbeennielgogaaDoor.Cmd
end

section
namespace Go.Proofs.YtpbeennielgogaaDoor.Ix
open Go.RowKit
open Go.Maps (Keyed)
open Path (bl rightB overB)
open Attr (A8 rightI)
open Cmd (Cm keyC footC through0 clashB)
set_option linter.unusedSimpArgs false
set_option linter.unusedVariables false
attribute [-go_sem] run_eql_struct run_neq_struct run_eqGuard_agg

def CvRel (w : World) (p m b8 b9 b12 b13 : Nat) (a b : Cm) (ir it kr kt : Int) (es0 : List En) (os : List Op12) (k : Nat) (u : Value) (wr : World) : Prop :=
  ∃ (i : Nat) (es : List En), u = .int .i64 i ∧ i + k = os.length ∧ Grow es0 es ∧ FineL es ∧ es.length ≤ es0.length + i ∧ At [Part.old w] w [IxP p m es, Part.cells b8 [.int .i64 a.kind, .int .u64 a.num, .string a.foot, .int .u64 a.req, .string a.path, .int .i64 a.mode, .int .u64 a.n, .int .i64 a.time] 28, Part.cells b9 [.int .i64 ir, .int .i64 it] 30, Part.cells b12 [.int .i64 b.kind, .int .u64 b.num, .string b.foot, .int .u64 b.req, .string b.path, .int .i64 b.mode, .int .u64 b.n, .int .i64 b.time] 28, Part.cells b13 [.int .i64 kr, .int .i64 kt] 30, Part.old w] wr
theorem merge_len (f : ByteArray) (n : Int) (v : A8) : ∀ es : List En, (mergeE es f n v).length ≤ es.length + 1
  | [] => by simp [mergeE]
  | e :: es => by
    have := merge_len f n v es
    unfold mergeE
    split <;> simp <;> omega
theorem step_len (es : List En) (o : Op12) : (stepE es o).length ≤ es.length + 1 := by
  unfold stepE noteE addE
  split
  · split
    · split
      · exact merge_len _ _ _ _
      · omega
    · omega
  split
  · split
    · exact merge_len _ _ _ _
    · omega
  · omega
/-- what the law's last line asks -/
structure Good (a b : Cm) (ir it seq kr kt : Int) (first last : A8) : Prop where
  cov : it < first.dep ir.toNat
  seq : seq < first.s
  win : first.merge last = last
  right : last.right = true
  own : last.own kr kt = last
end Go.Proofs.YtpbeennielgogaaDoor.Ix
end

section
namespace Go.Proofs.YtpbeennielgogaaDoor.Ix
open Path (bl rightB overB)
open Attr (A8 rightI)
open Cmd (Cm keyC footC clashB)
set_option linter.unusedSimpArgs false
set_option linter.unusedVariables false

theorem le_merge {a b : A8} (h : Le a b) : a.merge b = b := by
  obtain ⟨h0, h1, h2, h3, h4, h5, h6, h7⟩ := h
  obtain ⟨s, d0, d1, d2, d3, d4, d5, d6⟩ := a
  obtain ⟨u, f0, f1, f2, f3, f4, f5, f6⟩ := b
  simp only [A8.merge, A8.mk.injEq] at *
  omega
theorem seven {q : Nat} (h : q < 7) : q = 0 ∨ q = 1 ∨ q = 2 ∨ q = 3 ∨ q = 4 ∨ q = 5 ∨ q = 6 := by omega
theorem le_dep {a b : A8} (h : Le a b) {q : Nat} (hq : q < 7) : a.dep q ≤ b.dep q := by
  obtain ⟨h0, h1, h2, h3, h4, h5, h6, h7⟩ := h
  rcases seven hq with rfl | rfl | rfl | rfl | rfl | rfl | rfl <;> simpa only [A8.dep]
theorem le_set {a b : A8} (h : Le a b) {q : Nat} (hq : q < 7) (v : Int) : Le (a.set q v) (b.set q v) := by
  obtain ⟨h0, h1, h2, h3, h4, h5, h6, h7⟩ := h
  rcases seven hq with rfl | rfl | rfl | rfl | rfl | rfl | rfl <;> constructor <;> simp only [A8.set] <;> first | assumption | exact Int.le_refl _
theorem set_s (a : A8) {q : Nat} (hq : q < 7) (v : Int) : (a.set q v).s = a.s := by
  rcases seven hq with rfl | rfl | rfl | rfl | rfl | rfl | rfl <;> rfl
theorem dep_same (a : A8) {q : Nat} (hq : q < 7) (v : Int) : (a.set q v).dep q = v := by
  rcases seven hq with rfl | rfl | rfl | rfl | rfl | rfl | rfl <;> rfl
theorem dep_other (a : A8) {p q : Nat} (hp : p < 7) (hq : q < 7) (hne : p ≠ q) (v : Int) : (a.set q v).dep p = a.dep p := by
  rcases seven hp with rfl | rfl | rfl | rfl | rfl | rfl | rfl <;> rcases seven hq with rfl | rfl | rfl | rfl | rfl | rfl | rfl <;> first | rfl | exact absurd rfl hne
theorem set_twice (a : A8) {q : Nat} (hq : q < 7) (v : Int) : (a.set q v).set q v = a.set q v := by
  rcases seven hq with rfl | rfl | rfl | rfl | rfl | rfl | rfl <;> rfl
theorem own_right {a : A8} {r t : Int} (h : rightI r t = true) : a.own r t = a.set r.toNat t := by unfold A8.own; rw [if_pos h]
theorem covers_good {a b : Cm} {es0 es2 : List En} {ir it seq kr kt : Int} (hF0 : FineL es0) (hF1 : FineL (noteE es0 (keyC a) ir it seq)) (hG : Grow (noteE es0 (keyC a) ir it seq) es2) (hF2 : FineL es2) (hcl : clashB a b = true) (hi : rightI ir it = true) (hk : rightI kr kt = true) (hne : ir ≠ kr) (hs0 : 0 ≤ seq) (hs1 : seq < 1073741824) :
    Good a b ir it seq kr kt (askE (noteE es0 (keyC a) ir it seq) (keyC b) kr kt) (askE es2 (keyC b) kr kt) := by
  have qi := Attr.rightI_iff.1 hi
  have qk := Attr.rightI_iff.1 hk
  unfold clashB at hcl
  simp only [Bool.and_eq_true] at hcl
  obtain ⟨⟨ha, hb⟩, hc⟩ := hcl
  have ka : keyC a = some ((footC a).1, a.num) := by unfold keyC; rw [if_pos ha]
  have kb : keyC b = some ((footC b).1, b.num) := by unfold keyC; rw [if_pos hb]
  have hn : noteE es0 (keyC a) ir it seq = mergeE es0 (footC a).1 a.num (noteA ir it seq) := by rw [ka]; unfold noteE; simp only [hi, if_true]
  obtain ⟨x, hx, x1, x2, x3⟩ := merge_has (footC a).1 a.num (noteA ir it seq) es0
  rw [← hn] at hx
  generalize noteE es0 (keyC a) ir it seq = es1 at *
  have hck : clashK ((footC b).1, b.num) (x.foot, x.num) = true := by
    unfold clashK
    rw [x1, x2]
    simp only [Bool.or_eq_true, beq_iff_eq] at hc ⊢
    rcases hc with h | h
    · exact .inl h.symm
    · right; rw [Path.over_comm]; exact h
  have e1 : askE es1 (keyC b) kr kt = (askF true ((footC b).1, b.num) es1).set kr.toNat kt := by rw [kb]; unfold askE; simp only [hk]; exact own_right hk
  have e2 : askE es2 (keyC b) kr kt = (askF true ((footC b).1, b.num) es2).set kr.toNat kt := by rw [kb]; unfold askE; simp only [hk]; exact own_right hk
  have hge : Le (x.a.past x.a.s) (askF true ((footC b).1, b.num) es1) := ask_ge hck hx _
  have hle : Le (askF true ((footC b).1, b.num) es1) (askF true ((footC b).1, b.num) es2) := askF_grow hG hF1
  have hfi : Fine (askF true ((footC b).1, b.num) es2) := fine_ask hF2 fine_zero
  have hx0 := (hF1 x hx).1.s0
  rw [e1, e2]
  generalize askF true ((footC b).1, b.num) es1 = A at *
  generalize askF true ((footC b).1, b.num) es2 = B at *
  have ri : ir.toNat < 7 := by omega
  have rk : kr.toNat < 7 := by omega
  have rne : ir.toNat ≠ kr.toNat := by omega
  have hvd : (noteA ir it seq).dep ir.toNat = it + 1 := by unfold noteA; exact dep_same _ ri _
  have hvs : (noteA ir it seq).s = seq := by unfold noteA; rw [set_s _ ri]; show min (max seq 0) 1073741824 = seq; omega
  have hpd : ∀ q : Nat, q < 7 → (x.a.past x.a.s).dep q = x.a.dep q := fun q hq => by
    unfold A8.past
    rw [if_pos hx0]
    rcases seven hq with rfl | rfl | rfl | rfl | rfl | rfl | rfl <;> rfl
  constructor
  · rw [dep_other _ ri rk rne]
    have h1 := le_dep x3 ri
    have h2 := le_dep hge ri
    rw [hpd _ ri] at h2
    rw [hvd] at h1
    omega
  · rw [set_s _ rk]
    have h1 := x3.s
    have h2 := hge.s
    rw [hvs] at h1
    unfold A8.past at h2
    rw [if_pos hx0] at h2
    simp only at h2
    omega
  · exact le_merge (le_set hle rk kt)
  · exact fine_iff.2 (fine_set hfi _ (by omega) (by omega))
  · rw [own_right hk, set_twice _ rk]
end Go.Proofs.YtpbeennielgogaaDoor.Ix
end

section
namespace Go.Proofs.YtpbeennielgogaaDoor
open Go.RowKit
set_option linter.unusedVariables false
set_option linter.unusedSimpArgs false
section
variable {P : Program} {ops : Array Oper} {rest : List Oper} {o : Oper} {a : Act} {Q : Exit → Act → World → Prop} {L0 L F : List Part} {w0 w : World}
theorem wpList_loadPart_at {ty : TypeId} {x : Operand} (hg : o.guard = none) (hop : o.op = .load ty x) {b : Nat} (hx : a.eval x = .pointer (some ⟨b, 0, none⟩)) {vs : List Value} {T : TypeId} (h : At L0 w0 L w) (s : Sel (Part.cells b vs T) L F)
    (hu : (P.underlying ty).map (·.isRow) = some true) (hi : (P.info? ty).map (·.size) = some vs.length)
    (hK : wpList P ops Q rest (a.put o.dst (.agg vs.toArray)) w) : wpList P ops Q (o :: rest) a w :=
  wpList_loadRow_at hg hop hx (fun k u hk => by
    have hb : BlockIs w b vs T := h.get s
    rw [Nat.zero_add, hb.cell]; exact hk) hu hi hK
end
end Go.Proofs.YtpbeennielgogaaDoor
end
