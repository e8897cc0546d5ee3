/- The walk of clash.Clash. -/
import Derived.Test.YtpbeennielgogaaDoorCmdF
namespace Go.Proofs.YtpbeennielgogaaDoor.Cmd
open Go.RowKit
open Path (bl rightB overB)
set_option linter.unusedSimpArgs false
set_option linter.unusedVariables false
attribute [-go_sem] run_eql_struct run_neq_struct run_eqGuard_agg

def clashB (a b : Cm) : Bool := (footC a).2 && (footC b).2 && ((a.num == b.num) || overB (bl (footC a).1) (bl (footC b).1))
set_option maxRecDepth 100000 in
set_option maxHeartbeats 1000000 in
theorem clashC_any (a b : Cm) (w : World) (ha : a.foot.size ≤ 1000) (hap : a.path.size ≤ 1000) (hb : b.foot.size ≤ 1000) (hbp : b.path.size ≤ 1000) : Calls Tryd.prog 15 #[a.val, b.val] w fun e w' => e = .returned (.bool (clashB a b)) ∧ Ext w w' := by
  have hA : At [] w [] w := At.start (L0 := []) trivial
  have hF := hA.facts
  have hoa := fun w => of_any a w ha hap
  have hob := fun w => of_any b w hb hbp
  have sa := foot_size a ha hap
  have sb := foot_size b hb hbp
  unfold clashB
  generalize footC a = fa at *
  generalize footC b = fb at *
  obtain ⟨f, x⟩ := fa
  obtain ⟨g, y⟩ := fb
  simp only at sa sb
  have hcl := fun w => clash_any f a.num g b.num w sa sb
  obtain ⟨kind, num, foot, req, path, mode, n, time⟩ := a
  obtain ⟨kind2, num2, foot2, req2, path2, mode2, n2, time2⟩ := b
  simp only [Cm.val] at *
  generalize ((num == num2) || overB (bl f) (bl g)) = cb at *
  (try simp only [uA] at hA); have hF := hA.facts; (try simp only [fA, and_true, true_and] at hF)
  cases x
  · simp only [Bool.false_and]
    cases y
    · go_enter Tryd.func15, Tryd.ntmps15
      go_wp2_with (first | ((with_reducible show wpList _ _ _ ({ dst := some 2, op := Op.box _ _, type := _, pos := _, after := _, guard := _ } :: _) _ _); ((with_reducible refine gbx ?_); refine wX 28 (.agg #[.int .i64 kind, .int .u64 num, .string foot, .int .u64 req, .string path, .int .i64 mode, .int .u64 n, .int .i64 time]) [.int .i64 kind, .int .u64 num, .string foot, .int .u64 req, .string path, .int .i64 mode, .int .u64 n, .int .i64 time] hA ?_; clear hF hA; intro bA w1 hA hbA; (try simp only [uA] at hA); have hF := hA.facts; (try simp only [fA, and_true, true_and] at hF))) | ((with_reducible show wpList _ _ _ ({ dst := some 3, op := Op.box _ _, type := _, pos := _, after := _, guard := _ } :: _) _ _); ((with_reducible refine gbx ?_); refine wX 28 (.agg #[.int .i64 kind2, .int .u64 num2, .string foot2, .int .u64 req2, .string path2, .int .i64 mode2, .int .u64 n2, .int .i64 time2]) [.int .i64 kind2, .int .u64 num2, .string foot2, .int .u64 req2, .string path2, .int .i64 mode2, .int .u64 n2, .int .i64 time2] hA ?_; clear hF hA; intro bB w1 hA hbB; (try simp only [uA] at hA); have hF := hA.facts; (try simp only [fA, and_true, true_and] at hF))) | ((with_reducible refine gst ?_); refine wS hA ?_; clear hF hA; intro w1 hA; (try simp only [uA] at hA); have hF := hA.facts; (try simp only [fA, and_true, true_and] at hF)) | ((with_reducible refine gbx ?_); refine wB hA ?_; clear hF hA; intro b1 w1 hA hb1; (try simp only [uA] at hA); have hF := hA.facts; (try simp only [fA, and_true, true_and] at hF)))
      refine (hoa _).mono ?_
      clear hoa
      rintro e w1 ⟨rfl, hx⟩
      have hB := hA.ext hx
      clear hF hA hx
      have hA := hB
      clear hB
      have hF := hA.facts
      (try simp only [uA] at hA); have hF := hA.facts; (try simp only [fA, and_true, true_and] at hF)
      go_wp2_with (first | ((with_reducible refine gal ?_); refine wA 37 (.agg #[.string .empty, .int .u64 0]) [.string .empty, .int .u64 0] hA ?_; clear hF hA; intro bK w1 hA hbK; (try simp only [uA] at hA); have hF := hA.facts; (try simp only [fA, and_true, true_and] at hF)) | ((with_reducible refine gst ?_); refine wS hA ?_; clear hF hA; intro w1 hA; (try simp only [uA] at hA); have hF := hA.facts; (try simp only [fA, and_true, true_and] at hF)) | ((with_reducible refine gbx ?_); refine wB hA ?_; clear hF hA; intro b1 w1 hA hb1; (try simp only [uA] at hA); have hF := hA.facts; (try simp only [fA, and_true, true_and] at hF)))
      refine (hob _).mono ?_
      clear hob
      rintro e w1 ⟨rfl, hx⟩
      have hB := hA.ext hx
      clear hF hA hx
      have hA := hB
      clear hB
      have hF := hA.facts
      (try simp only [uA] at hA); have hF := hA.facts; (try simp only [fA, and_true, true_and] at hF)
      go_wp2_with (first | ((with_reducible refine gal ?_); refine wA 37 (.agg #[.string .empty, .int .u64 0]) [.string .empty, .int .u64 0] hA ?_; clear hF hA; intro bL w1 hA hbL; (try simp only [uA] at hA); have hF := hA.facts; (try simp only [fA, and_true, true_and] at hF)) | ((with_reducible refine gst ?_); refine wS hA ?_; clear hF hA; intro w1 hA; (try simp only [uA] at hA); have hF := hA.facts; (try simp only [fA, and_true, true_and] at hF)) | ((with_reducible refine gbx ?_); refine wB hA ?_; clear hF hA; intro b1 w1 hA hb1; (try simp only [uA] at hA); have hF := hA.facts; (try simp only [fA, and_true, true_and] at hF)))
      go_ret
      exact ⟨rfl, hA.toExt⟩
    · go_enter Tryd.func15, Tryd.ntmps15
      go_wp2_with (first | ((with_reducible show wpList _ _ _ ({ dst := some 2, op := Op.box _ _, type := _, pos := _, after := _, guard := _ } :: _) _ _); ((with_reducible refine gbx ?_); refine wX 28 (.agg #[.int .i64 kind, .int .u64 num, .string foot, .int .u64 req, .string path, .int .i64 mode, .int .u64 n, .int .i64 time]) [.int .i64 kind, .int .u64 num, .string foot, .int .u64 req, .string path, .int .i64 mode, .int .u64 n, .int .i64 time] hA ?_; clear hF hA; intro bA w1 hA hbA; (try simp only [uA] at hA); have hF := hA.facts; (try simp only [fA, and_true, true_and] at hF))) | ((with_reducible show wpList _ _ _ ({ dst := some 3, op := Op.box _ _, type := _, pos := _, after := _, guard := _ } :: _) _ _); ((with_reducible refine gbx ?_); refine wX 28 (.agg #[.int .i64 kind2, .int .u64 num2, .string foot2, .int .u64 req2, .string path2, .int .i64 mode2, .int .u64 n2, .int .i64 time2]) [.int .i64 kind2, .int .u64 num2, .string foot2, .int .u64 req2, .string path2, .int .i64 mode2, .int .u64 n2, .int .i64 time2] hA ?_; clear hF hA; intro bB w1 hA hbB; (try simp only [uA] at hA); have hF := hA.facts; (try simp only [fA, and_true, true_and] at hF))) | ((with_reducible refine gst ?_); refine wS hA ?_; clear hF hA; intro w1 hA; (try simp only [uA] at hA); have hF := hA.facts; (try simp only [fA, and_true, true_and] at hF)) | ((with_reducible refine gbx ?_); refine wB hA ?_; clear hF hA; intro b1 w1 hA hb1; (try simp only [uA] at hA); have hF := hA.facts; (try simp only [fA, and_true, true_and] at hF)))
      refine (hoa _).mono ?_
      clear hoa
      rintro e w1 ⟨rfl, hx⟩
      have hB := hA.ext hx
      clear hF hA hx
      have hA := hB
      clear hB
      have hF := hA.facts
      (try simp only [uA] at hA); have hF := hA.facts; (try simp only [fA, and_true, true_and] at hF)
      go_wp2_with (first | ((with_reducible refine gal ?_); refine wA 37 (.agg #[.string .empty, .int .u64 0]) [.string .empty, .int .u64 0] hA ?_; clear hF hA; intro bK w1 hA hbK; (try simp only [uA] at hA); have hF := hA.facts; (try simp only [fA, and_true, true_and] at hF)) | ((with_reducible refine gst ?_); refine wS hA ?_; clear hF hA; intro w1 hA; (try simp only [uA] at hA); have hF := hA.facts; (try simp only [fA, and_true, true_and] at hF)) | ((with_reducible refine gbx ?_); refine wB hA ?_; clear hF hA; intro b1 w1 hA hb1; (try simp only [uA] at hA); have hF := hA.facts; (try simp only [fA, and_true, true_and] at hF)))
      refine (hob _).mono ?_
      clear hob
      rintro e w1 ⟨rfl, hx⟩
      have hB := hA.ext hx
      clear hF hA hx
      have hA := hB
      clear hB
      have hF := hA.facts
      (try simp only [uA] at hA); have hF := hA.facts; (try simp only [fA, and_true, true_and] at hF)
      go_wp2_with (first | ((with_reducible refine gal ?_); refine wA 37 (.agg #[.string .empty, .int .u64 0]) [.string .empty, .int .u64 0] hA ?_; clear hF hA; intro bL w1 hA hbL; (try simp only [uA] at hA); have hF := hA.facts; (try simp only [fA, and_true, true_and] at hF)) | ((with_reducible refine gst ?_); refine wS hA ?_; clear hF hA; intro w1 hA; (try simp only [uA] at hA); have hF := hA.facts; (try simp only [fA, and_true, true_and] at hF)) | ((with_reducible refine gbx ?_); refine wB hA ?_; clear hF hA; intro b1 w1 hA hb1; (try simp only [uA] at hA); have hF := hA.facts; (try simp only [fA, and_true, true_and] at hF)))
      go_ret
      exact ⟨rfl, hA.toExt⟩
  · cases y
    · simp only [Bool.and_false, Bool.false_and]
      go_enter Tryd.func15, Tryd.ntmps15
      go_wp2_with (first | ((with_reducible show wpList _ _ _ ({ dst := some 2, op := Op.box _ _, type := _, pos := _, after := _, guard := _ } :: _) _ _); ((with_reducible refine gbx ?_); refine wX 28 (.agg #[.int .i64 kind, .int .u64 num, .string foot, .int .u64 req, .string path, .int .i64 mode, .int .u64 n, .int .i64 time]) [.int .i64 kind, .int .u64 num, .string foot, .int .u64 req, .string path, .int .i64 mode, .int .u64 n, .int .i64 time] hA ?_; clear hF hA; intro bA w1 hA hbA; (try simp only [uA] at hA); have hF := hA.facts; (try simp only [fA, and_true, true_and] at hF))) | ((with_reducible show wpList _ _ _ ({ dst := some 3, op := Op.box _ _, type := _, pos := _, after := _, guard := _ } :: _) _ _); ((with_reducible refine gbx ?_); refine wX 28 (.agg #[.int .i64 kind2, .int .u64 num2, .string foot2, .int .u64 req2, .string path2, .int .i64 mode2, .int .u64 n2, .int .i64 time2]) [.int .i64 kind2, .int .u64 num2, .string foot2, .int .u64 req2, .string path2, .int .i64 mode2, .int .u64 n2, .int .i64 time2] hA ?_; clear hF hA; intro bB w1 hA hbB; (try simp only [uA] at hA); have hF := hA.facts; (try simp only [fA, and_true, true_and] at hF))) | ((with_reducible refine gst ?_); refine wS hA ?_; clear hF hA; intro w1 hA; (try simp only [uA] at hA); have hF := hA.facts; (try simp only [fA, and_true, true_and] at hF)) | ((with_reducible refine gbx ?_); refine wB hA ?_; clear hF hA; intro b1 w1 hA hb1; (try simp only [uA] at hA); have hF := hA.facts; (try simp only [fA, and_true, true_and] at hF)))
      refine (hoa _).mono ?_
      clear hoa
      rintro e w1 ⟨rfl, hx⟩
      have hB := hA.ext hx
      clear hF hA hx
      have hA := hB
      clear hB
      have hF := hA.facts
      (try simp only [uA] at hA); have hF := hA.facts; (try simp only [fA, and_true, true_and] at hF)
      go_wp2_with (first | ((with_reducible refine gal ?_); refine wA 37 (.agg #[.string .empty, .int .u64 0]) [.string .empty, .int .u64 0] hA ?_; clear hF hA; intro bK w1 hA hbK; (try simp only [uA] at hA); have hF := hA.facts; (try simp only [fA, and_true, true_and] at hF)) | ((with_reducible refine gst ?_); refine wS hA ?_; clear hF hA; intro w1 hA; (try simp only [uA] at hA); have hF := hA.facts; (try simp only [fA, and_true, true_and] at hF)) | ((with_reducible refine gbx ?_); refine wB hA ?_; clear hF hA; intro b1 w1 hA hb1; (try simp only [uA] at hA); have hF := hA.facts; (try simp only [fA, and_true, true_and] at hF)))
      refine (hob _).mono ?_
      clear hob
      rintro e w1 ⟨rfl, hx⟩
      have hB := hA.ext hx
      clear hF hA hx
      have hA := hB
      clear hB
      have hF := hA.facts
      (try simp only [uA] at hA); have hF := hA.facts; (try simp only [fA, and_true, true_and] at hF)
      go_wp2_with (first | ((with_reducible refine gal ?_); refine wA 37 (.agg #[.string .empty, .int .u64 0]) [.string .empty, .int .u64 0] hA ?_; clear hF hA; intro bL w1 hA hbL; (try simp only [uA] at hA); have hF := hA.facts; (try simp only [fA, and_true, true_and] at hF)) | ((with_reducible refine gst ?_); refine wS hA ?_; clear hF hA; intro w1 hA; (try simp only [uA] at hA); have hF := hA.facts; (try simp only [fA, and_true, true_and] at hF)) | ((with_reducible refine gbx ?_); refine wB hA ?_; clear hF hA; intro b1 w1 hA hb1; (try simp only [uA] at hA); have hF := hA.facts; (try simp only [fA, and_true, true_and] at hF)))
      go_ret
      exact ⟨rfl, hA.toExt⟩
    · simp only [Bool.and_true, Bool.true_and, if_true] at *
      go_enter Tryd.func15, Tryd.ntmps15
      go_wp2_with (first | ((with_reducible show wpList _ _ _ ({ dst := some 2, op := Op.box _ _, type := _, pos := _, after := _, guard := _ } :: _) _ _); ((with_reducible refine gbx ?_); refine wX 28 (.agg #[.int .i64 kind, .int .u64 num, .string foot, .int .u64 req, .string path, .int .i64 mode, .int .u64 n, .int .i64 time]) [.int .i64 kind, .int .u64 num, .string foot, .int .u64 req, .string path, .int .i64 mode, .int .u64 n, .int .i64 time] hA ?_; clear hF hA; intro bA w1 hA hbA; (try simp only [uA] at hA); have hF := hA.facts; (try simp only [fA, and_true, true_and] at hF))) | ((with_reducible show wpList _ _ _ ({ dst := some 3, op := Op.box _ _, type := _, pos := _, after := _, guard := _ } :: _) _ _); ((with_reducible refine gbx ?_); refine wX 28 (.agg #[.int .i64 kind2, .int .u64 num2, .string foot2, .int .u64 req2, .string path2, .int .i64 mode2, .int .u64 n2, .int .i64 time2]) [.int .i64 kind2, .int .u64 num2, .string foot2, .int .u64 req2, .string path2, .int .i64 mode2, .int .u64 n2, .int .i64 time2] hA ?_; clear hF hA; intro bB w1 hA hbB; (try simp only [uA] at hA); have hF := hA.facts; (try simp only [fA, and_true, true_and] at hF))) | ((with_reducible refine gst ?_); refine wS hA ?_; clear hF hA; intro w1 hA; (try simp only [uA] at hA); have hF := hA.facts; (try simp only [fA, and_true, true_and] at hF)) | ((with_reducible refine gbx ?_); refine wB hA ?_; clear hF hA; intro b1 w1 hA hb1; (try simp only [uA] at hA); have hF := hA.facts; (try simp only [fA, and_true, true_and] at hF)))
      refine (hoa _).mono ?_
      clear hoa
      rintro e w1 ⟨rfl, hx⟩
      have hB := hA.ext hx
      clear hF hA hx
      have hA := hB
      clear hB
      have hF := hA.facts
      (try simp only [uA] at hA); have hF := hA.facts; (try simp only [fA, and_true, true_and] at hF)
      go_wp2_with (first | ((with_reducible refine gal ?_); refine wA 37 (.agg #[.string .empty, .int .u64 0]) [.string .empty, .int .u64 0] hA ?_; clear hF hA; intro bK w1 hA hbK; (try simp only [uA] at hA); have hF := hA.facts; (try simp only [fA, and_true, true_and] at hF)) | ((with_reducible refine gst ?_); refine wS hA ?_; clear hF hA; intro w1 hA; (try simp only [uA] at hA); have hF := hA.facts; (try simp only [fA, and_true, true_and] at hF)) | ((with_reducible refine gbx ?_); refine wB hA ?_; clear hF hA; intro b1 w1 hA hb1; (try simp only [uA] at hA); have hF := hA.facts; (try simp only [fA, and_true, true_and] at hF)))
      refine (hob _).mono ?_
      clear hob
      rintro e w1 ⟨rfl, hx⟩
      have hB := hA.ext hx
      clear hF hA hx
      have hA := hB
      clear hB
      have hF := hA.facts
      (try simp only [uA] at hA); have hF := hA.facts; (try simp only [fA, and_true, true_and] at hF)
      go_wp2_with (first | ((with_reducible refine gal ?_); refine wA 37 (.agg #[.string .empty, .int .u64 0]) [.string .empty, .int .u64 0] hA ?_; clear hF hA; intro bL w1 hA hbL; (try simp only [uA] at hA); have hF := hA.facts; (try simp only [fA, and_true, true_and] at hF)) | ((with_reducible refine gst ?_); refine wS hA ?_; clear hF hA; intro w1 hA; (try simp only [uA] at hA); have hF := hA.facts; (try simp only [fA, and_true, true_and] at hF)) | ((with_reducible refine gbx ?_); refine wB hA ?_; clear hF hA; intro b1 w1 hA hb1; (try simp only [uA] at hA); have hF := hA.facts; (try simp only [fA, and_true, true_and] at hF)))
      refine (hcl _).mono ?_
      clear hcl
      rintro e w1 ⟨rfl, hx⟩
      have hB := hA.ext hx
      clear hF hA hx
      have hA := hB
      clear hB
      have hF := hA.facts
      (try simp only [uA] at hA); have hF := hA.facts; (try simp only [fA, and_true, true_and] at hF)
      go_wp2_with (first | ((with_reducible refine gst ?_); refine wS hA ?_; clear hF hA; intro w1 hA; (try simp only [uA] at hA); have hF := hA.facts; (try simp only [fA, and_true, true_and] at hF)) | ((with_reducible refine gbx ?_); refine wB hA ?_; clear hF hA; intro b1 w1 hA hb1; (try simp only [uA] at hA); have hF := hA.facts; (try simp only [fA, and_true, true_and] at hF)))
      go_ret
      exact ⟨rfl, hA.toExt⟩
end Go.Proofs.YtpbeennielgogaaDoor.Cmd
