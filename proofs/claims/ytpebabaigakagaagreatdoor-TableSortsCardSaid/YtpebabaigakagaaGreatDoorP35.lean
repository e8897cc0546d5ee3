/- ClashC, TabRa, joined. -/
import Derived.Test.YtpebabaigakagaaGreatDoorP34
import Derived.Test.YtpebabaigakagaaGreatDoorP13
set_option linter.unusedSimpArgs false
set_option linter.unusedVariables false
set_option maxRecDepth 100000
set_option maxHeartbeats 16000000
section
namespace Go.Proofs.YtpebabaigakagaaGreatDoor.Cmd
open Go.RowKit
open Path (bl rightB overB)
attribute [-go_sem] run_eql_struct run_neq_struct run_eqGuard_agg
def clashB (a b : Cm) : Bool := (footC a).2 && (footC b).2 && ((a.num == b.num) || overB (bl (footC a).1) (bl (footC b).1))
theorem clashC_any (a b : Cm) (w : World) (ha : a.foot.size ≤ 1000) (hap : a.path.size ≤ 1000) (hb : b.foot.size ≤ 1000) (hbp : b.path.size ≤ 1000) : Calls Tryz.prog 26 #[a.val, b.val] w fun e w' => e = .returned (.bool (clashB a b)) ∧ Ext w w' := by
 have hA : At [] w [] w := At.start (L0 := []) trivial
 have hF := hA.facts
 have hoa := fun w => of_any a w ha hap
 have hob := fun w => of_any b w hb hbp
 have sa := foot_size a ha hap
 have sb := foot_size b hb hbp
 unfold clashB
 generalize footC a = fa at *
 generalize footC b = fb at *
 obtain ⟨f, x⟩ := fa
 obtain ⟨g, y⟩ := fb
 simp only at sa sb
 have hcl := fun w => clash_any f a.num g b.num w sa sb
 obtain ⟨kind, num, foot, req, path, mode, n, time⟩ := a
 obtain ⟨kind2, num2, foot2, req2, path2, mode2, n2, time2⟩ := b
 simp only [Cm.val] at *
 generalize ((num == num2) || overB (bl f) (bl g)) = cb at *
 have hF := hA.facts; (try simp only [uY] at hA hF)
 cases x
 · simp only [Bool.false_and]
   cases y
   · go_enter Tryz.func26, Tryz.ntmps26
     go_wp2_with (first | ((with_reducible show wpList _ _ _ ({ dst := some 2, op := Op.box _ _, type := _, pos := _, after := _, guard := _ } :: _) _ _); ((with_reducible refine gbx ?_); refine wH 29 [.int .i64 kind, .int .u64 num, .string foot, .int .u64 req, .string path, .int .i64 mode, .int .u64 n, .int .i64 time] hA ?_; clear hF hA; intro bA w1 hA hbA hF; (try simp only [uY] at hA hF))) | ((with_reducible show wpList _ _ _ ({ dst := some 3, op := Op.box _ _, type := _, pos := _, after := _, guard := _ } :: _) _ _); ((with_reducible refine gbx ?_); refine wH 29 [.int .i64 kind2, .int .u64 num2, .string foot2, .int .u64 req2, .string path2, .int .i64 mode2, .int .u64 n2, .int .i64 time2] hA ?_; clear hF hA; intro bB w1 hA hbB hF; (try simp only [uY] at hA hF))))
     refine (hoa _).mono ?_
     clear hoa
     rintro e w1 ⟨rfl, hx⟩
     have hB := hA.ext hx
     clear hF hA hx; have hA := hB; clear hB
     have hF := hA.facts; (try simp only [uY] at hA hF)
     go_wp2_with (first | ((with_reducible refine gal ?_); refine wG 116 [.string .empty, .int .u64 0] hA ?_; clear hF hA; intro bK w1 hA hbK hF; (try simp only [uY] at hA hF)) | ((with_reducible refine gst ?_); refine wT hA ?_; clear hF hA; intro w1 hA hF; (try simp only [uY] at hA hF)))
     refine (hob _).mono ?_
     clear hob
     rintro e w1 ⟨rfl, hx⟩
     have hB := hA.ext hx
     clear hF hA hx; have hA := hB; clear hB
     have hF := hA.facts; (try simp only [uY] at hA hF)
     go_wp2_with (first | ((with_reducible refine gal ?_); refine wG 116 [.string .empty, .int .u64 0] hA ?_; clear hF hA; intro bL w1 hA hbL hF; (try simp only [uY] at hA hF)) | ((with_reducible refine gst ?_); refine wT hA ?_; clear hF hA; intro w1 hA hF; (try simp only [uY] at hA hF)))
     go_ret
     exact ⟨rfl, hA.toExt⟩
   · go_enter Tryz.func26, Tryz.ntmps26
     go_wp2_with (first | ((with_reducible show wpList _ _ _ ({ dst := some 2, op := Op.box _ _, type := _, pos := _, after := _, guard := _ } :: _) _ _); ((with_reducible refine gbx ?_); refine wH 29 [.int .i64 kind, .int .u64 num, .string foot, .int .u64 req, .string path, .int .i64 mode, .int .u64 n, .int .i64 time] hA ?_; clear hF hA; intro bA w1 hA hbA hF; (try simp only [uY] at hA hF))) | ((with_reducible show wpList _ _ _ ({ dst := some 3, op := Op.box _ _, type := _, pos := _, after := _, guard := _ } :: _) _ _); ((with_reducible refine gbx ?_); refine wH 29 [.int .i64 kind2, .int .u64 num2, .string foot2, .int .u64 req2, .string path2, .int .i64 mode2, .int .u64 n2, .int .i64 time2] hA ?_; clear hF hA; intro bB w1 hA hbB hF; (try simp only [uY] at hA hF))))
     refine (hoa _).mono ?_
     clear hoa
     rintro e w1 ⟨rfl, hx⟩
     have hB := hA.ext hx
     clear hF hA hx; have hA := hB; clear hB
     have hF := hA.facts; (try simp only [uY] at hA hF)
     go_wp2_with (first | ((with_reducible refine gal ?_); refine wG 116 [.string .empty, .int .u64 0] hA ?_; clear hF hA; intro bK w1 hA hbK hF; (try simp only [uY] at hA hF)) | ((with_reducible refine gst ?_); refine wT hA ?_; clear hF hA; intro w1 hA hF; (try simp only [uY] at hA hF)))
     refine (hob _).mono ?_
     clear hob
     rintro e w1 ⟨rfl, hx⟩
     have hB := hA.ext hx
     clear hF hA hx; have hA := hB; clear hB
     have hF := hA.facts; (try simp only [uY] at hA hF)
     go_wp2_with (first | ((with_reducible refine gal ?_); refine wG 116 [.string .empty, .int .u64 0] hA ?_; clear hF hA; intro bL w1 hA hbL hF; (try simp only [uY] at hA hF)) | ((with_reducible refine gst ?_); refine wT hA ?_; clear hF hA; intro w1 hA hF; (try simp only [uY] at hA hF)))
     go_ret
     exact ⟨rfl, hA.toExt⟩
 · cases y
   · simp only [Bool.and_false, Bool.false_and]
     go_enter Tryz.func26, Tryz.ntmps26
     go_wp2_with (first | ((with_reducible show wpList _ _ _ ({ dst := some 2, op := Op.box _ _, type := _, pos := _, after := _, guard := _ } :: _) _ _); ((with_reducible refine gbx ?_); refine wH 29 [.int .i64 kind, .int .u64 num, .string foot, .int .u64 req, .string path, .int .i64 mode, .int .u64 n, .int .i64 time] hA ?_; clear hF hA; intro bA w1 hA hbA hF; (try simp only [uY] at hA hF))) | ((with_reducible show wpList _ _ _ ({ dst := some 3, op := Op.box _ _, type := _, pos := _, after := _, guard := _ } :: _) _ _); ((with_reducible refine gbx ?_); refine wH 29 [.int .i64 kind2, .int .u64 num2, .string foot2, .int .u64 req2, .string path2, .int .i64 mode2, .int .u64 n2, .int .i64 time2] hA ?_; clear hF hA; intro bB w1 hA hbB hF; (try simp only [uY] at hA hF))))
     refine (hoa _).mono ?_
     clear hoa
     rintro e w1 ⟨rfl, hx⟩
     have hB := hA.ext hx
     clear hF hA hx; have hA := hB; clear hB
     have hF := hA.facts; (try simp only [uY] at hA hF)
     go_wp2_with (first | ((with_reducible refine gal ?_); refine wG 116 [.string .empty, .int .u64 0] hA ?_; clear hF hA; intro bK w1 hA hbK hF; (try simp only [uY] at hA hF)) | ((with_reducible refine gst ?_); refine wT hA ?_; clear hF hA; intro w1 hA hF; (try simp only [uY] at hA hF)))
     refine (hob _).mono ?_
     clear hob
     rintro e w1 ⟨rfl, hx⟩
     have hB := hA.ext hx
     clear hF hA hx; have hA := hB; clear hB
     have hF := hA.facts; (try simp only [uY] at hA hF)
     go_wp2_with (first | ((with_reducible refine gal ?_); refine wG 116 [.string .empty, .int .u64 0] hA ?_; clear hF hA; intro bL w1 hA hbL hF; (try simp only [uY] at hA hF)) | ((with_reducible refine gst ?_); refine wT hA ?_; clear hF hA; intro w1 hA hF; (try simp only [uY] at hA hF)))
     go_ret
     exact ⟨rfl, hA.toExt⟩
   · simp only [Bool.and_true, Bool.true_and, if_true] at *
     go_enter Tryz.func26, Tryz.ntmps26
     go_wp2_with (first | ((with_reducible show wpList _ _ _ ({ dst := some 2, op := Op.box _ _, type := _, pos := _, after := _, guard := _ } :: _) _ _); ((with_reducible refine gbx ?_); refine wH 29 [.int .i64 kind, .int .u64 num, .string foot, .int .u64 req, .string path, .int .i64 mode, .int .u64 n, .int .i64 time] hA ?_; clear hF hA; intro bA w1 hA hbA hF; (try simp only [uY] at hA hF))) | ((with_reducible show wpList _ _ _ ({ dst := some 3, op := Op.box _ _, type := _, pos := _, after := _, guard := _ } :: _) _ _); ((with_reducible refine gbx ?_); refine wH 29 [.int .i64 kind2, .int .u64 num2, .string foot2, .int .u64 req2, .string path2, .int .i64 mode2, .int .u64 n2, .int .i64 time2] hA ?_; clear hF hA; intro bB w1 hA hbB hF; (try simp only [uY] at hA hF))))
     refine (hoa _).mono ?_
     clear hoa
     rintro e w1 ⟨rfl, hx⟩
     have hB := hA.ext hx
     clear hF hA hx; have hA := hB; clear hB
     have hF := hA.facts; (try simp only [uY] at hA hF)
     go_wp2_with (first | ((with_reducible refine gal ?_); refine wG 116 [.string .empty, .int .u64 0] hA ?_; clear hF hA; intro bK w1 hA hbK hF; (try simp only [uY] at hA hF)) | ((with_reducible refine gst ?_); refine wT hA ?_; clear hF hA; intro w1 hA hF; (try simp only [uY] at hA hF)))
     refine (hob _).mono ?_
     clear hob
     rintro e w1 ⟨rfl, hx⟩
     have hB := hA.ext hx
     clear hF hA hx; have hA := hB; clear hB
     have hF := hA.facts; (try simp only [uY] at hA hF)
     go_wp2_with (first | ((with_reducible refine gal ?_); refine wG 116 [.string .empty, .int .u64 0] hA ?_; clear hF hA; intro bL w1 hA hbL hF; (try simp only [uY] at hA hF)) | ((with_reducible refine gst ?_); refine wT hA ?_; clear hF hA; intro w1 hA hF; (try simp only [uY] at hA hF)))
     refine (hcl _).mono ?_
     clear hcl
     rintro e w1 ⟨rfl, hx⟩
     have hB := hA.ext hx
     clear hF hA hx; have hA := hB; clear hB
     have hF := hA.facts; (try simp only [uY] at hA hF)
     go_wp2_with fail
     go_ret
     exact ⟨rfl, hA.toExt⟩
end Go.Proofs.YtpebabaigakagaaGreatDoor.Cmd
end
section
namespace Go.Proofs.YtpebabaigakagaaGreatDoor.Tab
open Path (bl rightB overB aboveB)
open Cmd (Cm rightC)
theorem clash_same (a b : Cm) : Cmd.clashB a b = clashK a b := by
 unfold Cmd.clashB clashK Cmd.keyC
 cases (Cmd.footC a).2 <;> cases (Cmd.footC b).2 <;> simp
end Go.Proofs.YtpebabaigakagaaGreatDoor.Tab
end
