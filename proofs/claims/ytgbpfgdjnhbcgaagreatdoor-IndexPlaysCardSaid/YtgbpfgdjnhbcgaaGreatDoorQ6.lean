/- CmdR, joined. -/
import Derived.Test.YtgbpfgdjnhbcgaaGreatDoorQ5
set_option linter.unusedSimpArgs false
set_option linter.unusedVariables false
set_option maxRecDepth 100000
set_option maxHeartbeats 16000000
section
namespace Go.Proofs.YtgbpfgdjnhbcgaaGreatDoor.Cmd
open Go.RowKit
open Path (bl rightB overB)
attribute [-go_sem] run_eql_struct run_neq_struct run_eqGuard_agg
attribute [local go_sem] guardCm
theorem right_0 (num : Int) (foot : ByteArray) (req : Int) (path : ByteArray) (mode n time : Int) (w : World) {eq rf rq rp m1 m2 nz ng t0 t1 : Bool} (heq : decide ((⟨0, num, foot, req, path, mode, n, time⟩ : Cm) = ⟨0, 0, .empty, 0, .empty, 0, 0, 0⟩) = eq) (ht0 : decide (0 ≤ time) = t0) (ht1 : decide (time ≤ 1099511627776) = t1) :
 Calls Tryz.prog 84 #[.agg #[.int .i64 0, .int .u64 num, .string foot, .int .u64 req, .string path, .int .i64 mode, .int .u64 n, .int .i64 time]] w fun e w' => e = .returned (.bool (eq && (!false || rf) && (!false || !rq) && (!false || rp) && (!false || !(m1 && m2)) && (!false || !(nz || ng)) && (t0 && t1))) ∧ Ext w w' := by
 have hA : At [] w [] w := At.start (L0 := []) trivial
 have hF := hA.facts
 have hne := fun w => neqCm ⟨0, num, foot, req, path, mode, n, time⟩ ⟨0, 0, .empty, 0, .empty, 0, 0, 0⟩ w
 rw [heq] at hne
 simp only [Cm.val] at hne
 have hbr := fun w => bare_0 num foot req path mode n time w
 clear heq
 have hF := hA.facts; (try simp only [uY] at hA hF)
 go_enter Tryz.func84, Tryz.ntmps84
 go_wp2_with (first | ((with_reducible refine gbx ?_); refine wC (E := 27) hA ?_; clear hF hA; intro bX w1 hA hbX hF; (try simp only [uY] at hA hF)) | ((with_reducible refine gst ?_); refine wT hA ?_; clear hF hA; intro w1 hA hF; (try simp only [uY] at hA hF)) | ((with_reducible refine gbx ?_); refine wC hA ?_; clear hF hA; intro b1 w1 hA hb1 hF; (try simp only [uY] at hA hF)))
 refine (had_0 _).mono ?_
 rintro e w1 ⟨rfl, hx⟩
 have hB := hA.ext hx
 clear hF hA hx; have hA := hB; clear hB
 have hF := hA.facts; (try simp only [uY] at hA hF)
 go_wp2_with (first | ((with_reducible refine gal ?_); refine wG 137 [.bool false, .bool false, .bool false, .bool false, .bool false, .bool false] hA ?_; clear hF hA; intro bH w1 hA hbH hF; (try simp only [uY] at hA hF)) | ((with_reducible refine gst ?_); refine wT hA ?_; clear hF hA; intro w1 hA hF; (try simp only [uY] at hA hF)) | ((with_reducible refine gbx ?_); refine wC hA ?_; clear hF hA; intro b1 w1 hA hb1 hF; (try simp only [uY] at hA hF)))
 try go_frame
 refine cl2 hA ?_; clear hF hA; intro w1 hA hF; (try simp only [uY] at hA hF)
 clear hbr hne
 cases eq
 · go_wp2_with (first | ((with_reducible refine gst ?_); refine wT hA ?_; clear hF hA; intro w1 hA hF; (try simp only [uY] at hA hF)) | ((with_reducible refine gbx ?_); refine wC hA ?_; clear hF hA; intro b1 w1 hA hb1 hF; (try simp only [uY] at hA hF)))
   go_ret
   exact ⟨rfl, hA.toExt⟩
 · go_wp2_with (first | ((with_reducible refine gst ?_); refine wT hA ?_; clear hF hA; intro w1 hA hF; (try simp only [uY] at hA hF)) | ((with_reducible refine gbx ?_); refine wC hA ?_; clear hF hA; intro b1 w1 hA hb1 hF; (try simp only [uY] at hA hF)))
   try go_frame
   refine cl1 hA ?_; clear hF hA; intro w1 hA hF; (try simp only [uY] at hA hF)
   cases t0
   · go_wp2_with (first | ((with_reducible refine gst ?_); refine wT hA ?_; clear hF hA; intro w1 hA hF; (try simp only [uY] at hA hF)) | ((with_reducible refine gbx ?_); refine wC hA ?_; clear hF hA; intro b1 w1 hA hb1 hF; (try simp only [uY] at hA hF)))
     go_ret
     exact ⟨rfl, hA.toExt⟩
   · cases t1
     · go_wp2_with (first | ((with_reducible refine gst ?_); refine wT hA ?_; clear hF hA; intro w1 hA hF; (try simp only [uY] at hA hF)) | ((with_reducible refine gbx ?_); refine wC hA ?_; clear hF hA; intro b1 w1 hA hb1 hF; (try simp only [uY] at hA hF)))
       go_ret
       exact ⟨rfl, hA.toExt⟩
     · go_wp2_with (first | ((with_reducible refine gst ?_); refine wT hA ?_; clear hF hA; intro w1 hA hF; (try simp only [uY] at hA hF)) | ((with_reducible refine gbx ?_); refine wC hA ?_; clear hF hA; intro b1 w1 hA hb1 hF; (try simp only [uY] at hA hF)))
       go_ret
       exact ⟨rfl, hA.toExt⟩
theorem right_1 (num : Int) (foot : ByteArray) (req : Int) (path : ByteArray) (mode n time : Int) (w : World) {eq rf rq rp m1 m2 nz ng t0 t1 : Bool} (heq : decide ((⟨1, num, foot, req, path, mode, n, time⟩ : Cm) = ⟨1, num, foot, req, .empty, 0, n, time⟩) = eq) (hf : foot.size ≤ 1000) (hrf0 : rightB (bl foot) = rf) (hrq : (req == 0) = rq) (hnz : (n == 0) = nz) (hng : decide (1048576 < n) = ng) (ht0 : decide (0 ≤ time) = t0) (ht1 : decide (time ≤ 1099511627776) = t1) :
 Calls Tryz.prog 84 #[.agg #[.int .i64 1, .int .u64 num, .string foot, .int .u64 req, .string path, .int .i64 mode, .int .u64 n, .int .i64 time]] w fun e w' => e = .returned (.bool (eq && (!true || rf) && (!true || !rq) && (!false || rp) && (!false || !(m1 && m2)) && (!true || !(nz || ng)) && (t0 && t1))) ∧ Ext w w' := by
 have hA : At [] w [] w := At.start (L0 := []) trivial
 have hF := hA.facts
 have hne := fun w => neqCm ⟨1, num, foot, req, path, mode, n, time⟩ ⟨1, num, foot, req, .empty, 0, n, time⟩ w
 rw [heq] at hne
 simp only [Cm.val] at hne
 have hbr := fun w => bare_1 num foot req path mode n time w
 have hrf := fun w => Path.right_any foot w (by omega)
 rw [hrf0] at hrf
 have hmo := fun w => most_1 w
 clear heq hrf0
 have hF := hA.facts; (try simp only [uY] at hA hF)
 go_enter Tryz.func84, Tryz.ntmps84
 go_wp2_with (first | ((with_reducible refine gbx ?_); refine wC (E := 27) hA ?_; clear hF hA; intro bX w1 hA hbX hF; (try simp only [uY] at hA hF)) | ((with_reducible refine gst ?_); refine wT hA ?_; clear hF hA; intro w1 hA hF; (try simp only [uY] at hA hF)) | ((with_reducible refine gbx ?_); refine wC hA ?_; clear hF hA; intro b1 w1 hA hb1 hF; (try simp only [uY] at hA hF)))
 refine (had_1 _).mono ?_
 rintro e w1 ⟨rfl, hx⟩
 have hB := hA.ext hx
 clear hF hA hx; have hA := hB; clear hB
 have hF := hA.facts; (try simp only [uY] at hA hF)
 go_wp2_with (first | ((with_reducible refine gal ?_); refine wG 137 [.bool false, .bool false, .bool false, .bool false, .bool false, .bool false] hA ?_; clear hF hA; intro bH w1 hA hbH hF; (try simp only [uY] at hA hF)) | ((with_reducible refine gst ?_); refine wT hA ?_; clear hF hA; intro w1 hA hF; (try simp only [uY] at hA hF)) | ((with_reducible refine gbx ?_); refine wC hA ?_; clear hF hA; intro b1 w1 hA hb1 hF; (try simp only [uY] at hA hF)))
 try go_frame
 refine cl2 hA ?_; clear hF hA; intro w1 hA hF; (try simp only [uY] at hA hF)
 clear hbr hne
 cases eq
 · go_wp2_with (first | ((with_reducible refine gst ?_); refine wT hA ?_; clear hF hA; intro w1 hA hF; (try simp only [uY] at hA hF)) | ((with_reducible refine gbx ?_); refine wC hA ?_; clear hF hA; intro b1 w1 hA hb1 hF; (try simp only [uY] at hA hF)))
   go_ret
   exact ⟨rfl, hA.toExt⟩
 · go_wp2_with (first | ((with_reducible refine gst ?_); refine wT hA ?_; clear hF hA; intro w1 hA hF; (try simp only [uY] at hA hF)) | ((with_reducible refine gbx ?_); refine wC hA ?_; clear hF hA; intro b1 w1 hA hb1 hF; (try simp only [uY] at hA hF)))
   refine (hrf _).mono ?_
   rintro e w4 ⟨rfl, hx⟩
   have hB := hA.ext hx
   clear hF hA hx; have hA := hB; clear hB
   have hF := hA.facts; (try simp only [uY] at hA hF)
   cases rf
   · go_wp2_with (first | ((with_reducible refine gst ?_); refine wT hA ?_; clear hF hA; intro w1 hA hF; (try simp only [uY] at hA hF)) | ((with_reducible refine gbx ?_); refine wC hA ?_; clear hF hA; intro b1 w1 hA hb1 hF; (try simp only [uY] at hA hF)))
     go_ret
     exact ⟨rfl, hA.toExt⟩
   · cases rq
     · cases nz
       · cases ng
         · go_wp2_with (first | ((with_reducible refine gst ?_); refine wT hA ?_; clear hF hA; intro w1 hA hF; (try simp only [uY] at hA hF)) | ((with_reducible refine gbx ?_); refine wC hA ?_; clear hF hA; intro b1 w1 hA hb1 hF; (try simp only [uY] at hA hF)))
           try go_frame
           refine cl4 hA ?_; clear hF hA; intro w1 hA hF; (try simp only [uY] at hA hF)
           cases t0
           · go_wp2_with (first | ((with_reducible refine gst ?_); refine wT hA ?_; clear hF hA; intro w1 hA hF; (try simp only [uY] at hA hF)) | ((with_reducible refine gbx ?_); refine wC hA ?_; clear hF hA; intro b1 w1 hA hb1 hF; (try simp only [uY] at hA hF)))
             go_ret
             exact ⟨rfl, hA.toExt⟩
           · cases t1
             · go_wp2_with (first | ((with_reducible refine gst ?_); refine wT hA ?_; clear hF hA; intro w1 hA hF; (try simp only [uY] at hA hF)) | ((with_reducible refine gbx ?_); refine wC hA ?_; clear hF hA; intro b1 w1 hA hb1 hF; (try simp only [uY] at hA hF)))
               go_ret
               exact ⟨rfl, hA.toExt⟩
             · go_wp2_with (first | ((with_reducible refine gst ?_); refine wT hA ?_; clear hF hA; intro w1 hA hF; (try simp only [uY] at hA hF)) | ((with_reducible refine gbx ?_); refine wC hA ?_; clear hF hA; intro b1 w1 hA hb1 hF; (try simp only [uY] at hA hF)))
               go_ret
               exact ⟨rfl, hA.toExt⟩
         · go_wp2_with (first | ((with_reducible refine gst ?_); refine wT hA ?_; clear hF hA; intro w1 hA hF; (try simp only [uY] at hA hF)) | ((with_reducible refine gbx ?_); refine wC hA ?_; clear hF hA; intro b1 w1 hA hb1 hF; (try simp only [uY] at hA hF)))
           try go_frame
           refine cl4 hA ?_; clear hF hA; intro w1 hA hF; (try simp only [uY] at hA hF)
           go_wp2_with (first | ((with_reducible refine gst ?_); refine wT hA ?_; clear hF hA; intro w1 hA hF; (try simp only [uY] at hA hF)) | ((with_reducible refine gbx ?_); refine wC hA ?_; clear hF hA; intro b1 w1 hA hb1 hF; (try simp only [uY] at hA hF)))
           go_ret
           exact ⟨rfl, hA.toExt⟩
       · go_wp2_with (first | ((with_reducible refine gst ?_); refine wT hA ?_; clear hF hA; intro w1 hA hF; (try simp only [uY] at hA hF)) | ((with_reducible refine gbx ?_); refine wC hA ?_; clear hF hA; intro b1 w1 hA hb1 hF; (try simp only [uY] at hA hF)))
         try go_frame
         refine cl4 hA ?_; clear hF hA; intro w1 hA hF; (try simp only [uY] at hA hF)
         go_wp2_with (first | ((with_reducible refine gst ?_); refine wT hA ?_; clear hF hA; intro w1 hA hF; (try simp only [uY] at hA hF)) | ((with_reducible refine gbx ?_); refine wC hA ?_; clear hF hA; intro b1 w1 hA hb1 hF; (try simp only [uY] at hA hF)))
         go_ret
         exact ⟨rfl, hA.toExt⟩
     · go_wp2_with (first | ((with_reducible refine gst ?_); refine wT hA ?_; clear hF hA; intro w1 hA hF; (try simp only [uY] at hA hF)) | ((with_reducible refine gbx ?_); refine wC hA ?_; clear hF hA; intro b1 w1 hA hb1 hF; (try simp only [uY] at hA hF)))
       go_ret
       exact ⟨rfl, hA.toExt⟩
theorem right_2 (num : Int) (foot : ByteArray) (req : Int) (path : ByteArray) (mode n time : Int) (w : World) {eq rf rq rp m1 m2 nz ng t0 t1 : Bool} (heq : decide ((⟨2, num, foot, req, path, mode, n, time⟩ : Cm) = ⟨2, num, foot, req, .empty, 0, 0, 0⟩) = eq) (hf : foot.size ≤ 1000) (hrf0 : rightB (bl foot) = rf) (hrq : (req == 0) = rq) (ht0 : decide (0 ≤ time) = t0) (ht1 : decide (time ≤ 1099511627776) = t1) :
 Calls Tryz.prog 84 #[.agg #[.int .i64 2, .int .u64 num, .string foot, .int .u64 req, .string path, .int .i64 mode, .int .u64 n, .int .i64 time]] w fun e w' => e = .returned (.bool (eq && (!true || rf) && (!true || !rq) && (!false || rp) && (!false || !(m1 && m2)) && (!false || !(nz || ng)) && (t0 && t1))) ∧ Ext w w' := by
 have hA : At [] w [] w := At.start (L0 := []) trivial
 have hF := hA.facts
 have hne := fun w => neqCm ⟨2, num, foot, req, path, mode, n, time⟩ ⟨2, num, foot, req, .empty, 0, 0, 0⟩ w
 rw [heq] at hne
 simp only [Cm.val] at hne
 have hbr := fun w => bare_2 num foot req path mode n time w
 have hrf := fun w => Path.right_any foot w (by omega)
 rw [hrf0] at hrf
 clear heq hrf0
 have hF := hA.facts; (try simp only [uY] at hA hF)
 go_enter Tryz.func84, Tryz.ntmps84
 go_wp2_with (first | ((with_reducible refine gbx ?_); refine wC (E := 27) hA ?_; clear hF hA; intro bX w1 hA hbX hF; (try simp only [uY] at hA hF)) | ((with_reducible refine gst ?_); refine wT hA ?_; clear hF hA; intro w1 hA hF; (try simp only [uY] at hA hF)) | ((with_reducible refine gbx ?_); refine wC hA ?_; clear hF hA; intro b1 w1 hA hb1 hF; (try simp only [uY] at hA hF)))
 refine (had_2 _).mono ?_
 rintro e w1 ⟨rfl, hx⟩
 have hB := hA.ext hx
 clear hF hA hx; have hA := hB; clear hB
 have hF := hA.facts; (try simp only [uY] at hA hF)
 go_wp2_with (first | ((with_reducible refine gal ?_); refine wG 137 [.bool false, .bool false, .bool false, .bool false, .bool false, .bool false] hA ?_; clear hF hA; intro bH w1 hA hbH hF; (try simp only [uY] at hA hF)) | ((with_reducible refine gst ?_); refine wT hA ?_; clear hF hA; intro w1 hA hF; (try simp only [uY] at hA hF)) | ((with_reducible refine gbx ?_); refine wC hA ?_; clear hF hA; intro b1 w1 hA hb1 hF; (try simp only [uY] at hA hF)))
 try go_frame
 refine cl2 hA ?_; clear hF hA; intro w1 hA hF; (try simp only [uY] at hA hF)
 clear hbr hne
 cases eq
 · go_wp2_with (first | ((with_reducible refine gst ?_); refine wT hA ?_; clear hF hA; intro w1 hA hF; (try simp only [uY] at hA hF)) | ((with_reducible refine gbx ?_); refine wC hA ?_; clear hF hA; intro b1 w1 hA hb1 hF; (try simp only [uY] at hA hF)))
   go_ret
   exact ⟨rfl, hA.toExt⟩
 · go_wp2_with (first | ((with_reducible refine gst ?_); refine wT hA ?_; clear hF hA; intro w1 hA hF; (try simp only [uY] at hA hF)) | ((with_reducible refine gbx ?_); refine wC hA ?_; clear hF hA; intro b1 w1 hA hb1 hF; (try simp only [uY] at hA hF)))
   refine (hrf _).mono ?_
   rintro e w4 ⟨rfl, hx⟩
   have hB := hA.ext hx
   clear hF hA hx; have hA := hB; clear hB
   have hF := hA.facts; (try simp only [uY] at hA hF)
   cases rf
   · go_wp2_with (first | ((with_reducible refine gst ?_); refine wT hA ?_; clear hF hA; intro w1 hA hF; (try simp only [uY] at hA hF)) | ((with_reducible refine gbx ?_); refine wC hA ?_; clear hF hA; intro b1 w1 hA hb1 hF; (try simp only [uY] at hA hF)))
     go_ret
     exact ⟨rfl, hA.toExt⟩
   · cases rq
     · go_wp2_with (first | ((with_reducible refine gst ?_); refine wT hA ?_; clear hF hA; intro w1 hA hF; (try simp only [uY] at hA hF)) | ((with_reducible refine gbx ?_); refine wC hA ?_; clear hF hA; intro b1 w1 hA hb1 hF; (try simp only [uY] at hA hF)))
       try go_frame
       refine cl1 hA ?_; clear hF hA; intro w1 hA hF; (try simp only [uY] at hA hF)
       cases t0
       · go_wp2_with (first | ((with_reducible refine gst ?_); refine wT hA ?_; clear hF hA; intro w1 hA hF; (try simp only [uY] at hA hF)) | ((with_reducible refine gbx ?_); refine wC hA ?_; clear hF hA; intro b1 w1 hA hb1 hF; (try simp only [uY] at hA hF)))
         go_ret
         exact ⟨rfl, hA.toExt⟩
       · cases t1
         · go_wp2_with (first | ((with_reducible refine gst ?_); refine wT hA ?_; clear hF hA; intro w1 hA hF; (try simp only [uY] at hA hF)) | ((with_reducible refine gbx ?_); refine wC hA ?_; clear hF hA; intro b1 w1 hA hb1 hF; (try simp only [uY] at hA hF)))
           go_ret
           exact ⟨rfl, hA.toExt⟩
         · go_wp2_with (first | ((with_reducible refine gst ?_); refine wT hA ?_; clear hF hA; intro w1 hA hF; (try simp only [uY] at hA hF)) | ((with_reducible refine gbx ?_); refine wC hA ?_; clear hF hA; intro b1 w1 hA hb1 hF; (try simp only [uY] at hA hF)))
           go_ret
           exact ⟨rfl, hA.toExt⟩
     · go_wp2_with (first | ((with_reducible refine gst ?_); refine wT hA ?_; clear hF hA; intro w1 hA hF; (try simp only [uY] at hA hF)) | ((with_reducible refine gbx ?_); refine wC hA ?_; clear hF hA; intro b1 w1 hA hb1 hF; (try simp only [uY] at hA hF)))
       go_ret
       exact ⟨rfl, hA.toExt⟩
theorem right_3 (num : Int) (foot : ByteArray) (req : Int) (path : ByteArray) (mode n time : Int) (w : World) {eq rf rq rp m1 m2 nz ng t0 t1 : Bool} (heq : decide ((⟨3, num, foot, req, path, mode, n, time⟩ : Cm) = ⟨3, num, foot, req, .empty, 0, 0, time⟩) = eq) (hf : foot.size ≤ 1000) (hrf0 : rightB (bl foot) = rf) (hrq : (req == 0) = rq) (ht0 : decide (0 ≤ time) = t0) (ht1 : decide (time ≤ 1099511627776) = t1) :
 Calls Tryz.prog 84 #[.agg #[.int .i64 3, .int .u64 num, .string foot, .int .u64 req, .string path, .int .i64 mode, .int .u64 n, .int .i64 time]] w fun e w' => e = .returned (.bool (eq && (!true || rf) && (!true || !rq) && (!false || rp) && (!false || !(m1 && m2)) && (!false || !(nz || ng)) && (t0 && t1))) ∧ Ext w w' := by
 have hA : At [] w [] w := At.start (L0 := []) trivial
 have hF := hA.facts
 have hne := fun w => neqCm ⟨3, num, foot, req, path, mode, n, time⟩ ⟨3, num, foot, req, .empty, 0, 0, time⟩ w
 rw [heq] at hne
 simp only [Cm.val] at hne
 have hbr := fun w => bare_3 num foot req path mode n time w
 have hrf := fun w => Path.right_any foot w (by omega)
 rw [hrf0] at hrf
 clear heq hrf0
 have hF := hA.facts; (try simp only [uY] at hA hF)
 go_enter Tryz.func84, Tryz.ntmps84
 go_wp2_with (first | ((with_reducible refine gbx ?_); refine wC (E := 27) hA ?_; clear hF hA; intro bX w1 hA hbX hF; (try simp only [uY] at hA hF)) | ((with_reducible refine gst ?_); refine wT hA ?_; clear hF hA; intro w1 hA hF; (try simp only [uY] at hA hF)) | ((with_reducible refine gbx ?_); refine wC hA ?_; clear hF hA; intro b1 w1 hA hb1 hF; (try simp only [uY] at hA hF)))
 refine (had_3 _).mono ?_
 rintro e w1 ⟨rfl, hx⟩
 have hB := hA.ext hx
 clear hF hA hx; have hA := hB; clear hB
 have hF := hA.facts; (try simp only [uY] at hA hF)
 go_wp2_with (first | ((with_reducible refine gal ?_); refine wG 137 [.bool false, .bool false, .bool false, .bool false, .bool false, .bool false] hA ?_; clear hF hA; intro bH w1 hA hbH hF; (try simp only [uY] at hA hF)) | ((with_reducible refine gst ?_); refine wT hA ?_; clear hF hA; intro w1 hA hF; (try simp only [uY] at hA hF)) | ((with_reducible refine gbx ?_); refine wC hA ?_; clear hF hA; intro b1 w1 hA hb1 hF; (try simp only [uY] at hA hF)))
 try go_frame
 refine cl2 hA ?_; clear hF hA; intro w1 hA hF; (try simp only [uY] at hA hF)
 clear hbr hne
 cases eq
 · go_wp2_with (first | ((with_reducible refine gst ?_); refine wT hA ?_; clear hF hA; intro w1 hA hF; (try simp only [uY] at hA hF)) | ((with_reducible refine gbx ?_); refine wC hA ?_; clear hF hA; intro b1 w1 hA hb1 hF; (try simp only [uY] at hA hF)))
   go_ret
   exact ⟨rfl, hA.toExt⟩
 · go_wp2_with (first | ((with_reducible refine gst ?_); refine wT hA ?_; clear hF hA; intro w1 hA hF; (try simp only [uY] at hA hF)) | ((with_reducible refine gbx ?_); refine wC hA ?_; clear hF hA; intro b1 w1 hA hb1 hF; (try simp only [uY] at hA hF)))
   refine (hrf _).mono ?_
   rintro e w4 ⟨rfl, hx⟩
   have hB := hA.ext hx
   clear hF hA hx; have hA := hB; clear hB
   have hF := hA.facts; (try simp only [uY] at hA hF)
   cases rf
   · go_wp2_with (first | ((with_reducible refine gst ?_); refine wT hA ?_; clear hF hA; intro w1 hA hF; (try simp only [uY] at hA hF)) | ((with_reducible refine gbx ?_); refine wC hA ?_; clear hF hA; intro b1 w1 hA hb1 hF; (try simp only [uY] at hA hF)))
     go_ret
     exact ⟨rfl, hA.toExt⟩
   · cases rq
     · go_wp2_with (first | ((with_reducible refine gst ?_); refine wT hA ?_; clear hF hA; intro w1 hA hF; (try simp only [uY] at hA hF)) | ((with_reducible refine gbx ?_); refine wC hA ?_; clear hF hA; intro b1 w1 hA hb1 hF; (try simp only [uY] at hA hF)))
       try go_frame
       refine cl1 hA ?_; clear hF hA; intro w1 hA hF; (try simp only [uY] at hA hF)
       cases t0
       · go_wp2_with (first | ((with_reducible refine gst ?_); refine wT hA ?_; clear hF hA; intro w1 hA hF; (try simp only [uY] at hA hF)) | ((with_reducible refine gbx ?_); refine wC hA ?_; clear hF hA; intro b1 w1 hA hb1 hF; (try simp only [uY] at hA hF)))
         go_ret
         exact ⟨rfl, hA.toExt⟩
       · cases t1
         · go_wp2_with (first | ((with_reducible refine gst ?_); refine wT hA ?_; clear hF hA; intro w1 hA hF; (try simp only [uY] at hA hF)) | ((with_reducible refine gbx ?_); refine wC hA ?_; clear hF hA; intro b1 w1 hA hb1 hF; (try simp only [uY] at hA hF)))
           go_ret
           exact ⟨rfl, hA.toExt⟩
         · go_wp2_with (first | ((with_reducible refine gst ?_); refine wT hA ?_; clear hF hA; intro w1 hA hF; (try simp only [uY] at hA hF)) | ((with_reducible refine gbx ?_); refine wC hA ?_; clear hF hA; intro b1 w1 hA hb1 hF; (try simp only [uY] at hA hF)))
           go_ret
           exact ⟨rfl, hA.toExt⟩
     · go_wp2_with (first | ((with_reducible refine gst ?_); refine wT hA ?_; clear hF hA; intro w1 hA hF; (try simp only [uY] at hA hF)) | ((with_reducible refine gbx ?_); refine wC hA ?_; clear hF hA; intro b1 w1 hA hb1 hF; (try simp only [uY] at hA hF)))
       go_ret
       exact ⟨rfl, hA.toExt⟩
theorem right_4 (num : Int) (foot : ByteArray) (req : Int) (path : ByteArray) (mode n time : Int) (w : World) {eq rf rq rp m1 m2 nz ng t0 t1 : Bool} (heq : decide ((⟨4, num, foot, req, path, mode, n, time⟩ : Cm) = ⟨4, num, foot, req, path, mode, 0, 0⟩) = eq) (hf : foot.size ≤ 1000) (hrf0 : rightB (bl foot) = rf) (hrq : (req == 0) = rq) (hp : path.size ≤ 1000) (hrp0 : rightB (bl path) = rp) (hm1 : (mode != 1) = m1) (hm2 : (mode != 2) = m2) (ht0 : decide (0 ≤ time) = t0) (ht1 : decide (time ≤ 1099511627776) = t1) :
 Calls Tryz.prog 84 #[.agg #[.int .i64 4, .int .u64 num, .string foot, .int .u64 req, .string path, .int .i64 mode, .int .u64 n, .int .i64 time]] w fun e w' => e = .returned (.bool (eq && (!true || rf) && (!true || !rq) && (!true || rp) && (!true || !(m1 && m2)) && (!false || !(nz || ng)) && (t0 && t1))) ∧ Ext w w' := by
 have hA : At [] w [] w := At.start (L0 := []) trivial
 have hF := hA.facts
 have hne := fun w => neqCm ⟨4, num, foot, req, path, mode, n, time⟩ ⟨4, num, foot, req, path, mode, 0, 0⟩ w
 rw [heq] at hne
 simp only [Cm.val] at hne
 have hbr := fun w => bare_4 num foot req path mode n time w
 have hrf := fun w => Path.right_any foot w (by omega)
 rw [hrf0] at hrf
 have hrp := fun w => Path.right_any path w (by omega)
 rw [hrp0] at hrp
 clear heq hrf0 hrp0
 have hF := hA.facts; (try simp only [uY] at hA hF)
 go_enter Tryz.func84, Tryz.ntmps84
 go_wp2_with (first | ((with_reducible refine gbx ?_); refine wC (E := 27) hA ?_; clear hF hA; intro bX w1 hA hbX hF; (try simp only [uY] at hA hF)) | ((with_reducible refine gst ?_); refine wT hA ?_; clear hF hA; intro w1 hA hF; (try simp only [uY] at hA hF)) | ((with_reducible refine gbx ?_); refine wC hA ?_; clear hF hA; intro b1 w1 hA hb1 hF; (try simp only [uY] at hA hF)))
 refine (had_4 _).mono ?_
 rintro e w1 ⟨rfl, hx⟩
 have hB := hA.ext hx
 clear hF hA hx; have hA := hB; clear hB
 have hF := hA.facts; (try simp only [uY] at hA hF)
 go_wp2_with (first | ((with_reducible refine gal ?_); refine wG 137 [.bool false, .bool false, .bool false, .bool false, .bool false, .bool false] hA ?_; clear hF hA; intro bH w1 hA hbH hF; (try simp only [uY] at hA hF)) | ((with_reducible refine gst ?_); refine wT hA ?_; clear hF hA; intro w1 hA hF; (try simp only [uY] at hA hF)) | ((with_reducible refine gbx ?_); refine wC hA ?_; clear hF hA; intro b1 w1 hA hb1 hF; (try simp only [uY] at hA hF)))
 try go_frame
 refine cl2 hA ?_; clear hF hA; intro w1 hA hF; (try simp only [uY] at hA hF)
 clear hbr hne
 cases eq
 · go_wp2_with (first | ((with_reducible refine gst ?_); refine wT hA ?_; clear hF hA; intro w1 hA hF; (try simp only [uY] at hA hF)) | ((with_reducible refine gbx ?_); refine wC hA ?_; clear hF hA; intro b1 w1 hA hb1 hF; (try simp only [uY] at hA hF)))
   go_ret
   exact ⟨rfl, hA.toExt⟩
 · go_wp2_with (first | ((with_reducible refine gst ?_); refine wT hA ?_; clear hF hA; intro w1 hA hF; (try simp only [uY] at hA hF)) | ((with_reducible refine gbx ?_); refine wC hA ?_; clear hF hA; intro b1 w1 hA hb1 hF; (try simp only [uY] at hA hF)))
   refine (hrf _).mono ?_
   rintro e w4 ⟨rfl, hx⟩
   have hB := hA.ext hx
   clear hF hA hx; have hA := hB; clear hB
   have hF := hA.facts; (try simp only [uY] at hA hF)
   cases rf
   · go_wp2_with (first | ((with_reducible refine gst ?_); refine wT hA ?_; clear hF hA; intro w1 hA hF; (try simp only [uY] at hA hF)) | ((with_reducible refine gbx ?_); refine wC hA ?_; clear hF hA; intro b1 w1 hA hb1 hF; (try simp only [uY] at hA hF)))
     go_ret
     exact ⟨rfl, hA.toExt⟩
   · cases rq
     · go_wp2_with (first | ((with_reducible refine gst ?_); refine wT hA ?_; clear hF hA; intro w1 hA hF; (try simp only [uY] at hA hF)) | ((with_reducible refine gbx ?_); refine wC hA ?_; clear hF hA; intro b1 w1 hA hb1 hF; (try simp only [uY] at hA hF)))
       refine (hrp _).mono ?_
       rintro e w4 ⟨rfl, hx⟩
       have hB := hA.ext hx
       clear hF hA hx; have hA := hB; clear hB
       have hF := hA.facts; (try simp only [uY] at hA hF)
       cases rp
       · go_wp2_with (first | ((with_reducible refine gst ?_); refine wT hA ?_; clear hF hA; intro w1 hA hF; (try simp only [uY] at hA hF)) | ((with_reducible refine gbx ?_); refine wC hA ?_; clear hF hA; intro b1 w1 hA hb1 hF; (try simp only [uY] at hA hF)))
         go_ret
         exact ⟨rfl, hA.toExt⟩
       · cases m1
         · go_wp2_with (first | ((with_reducible refine gst ?_); refine wT hA ?_; clear hF hA; intro w1 hA hF; (try simp only [uY] at hA hF)) | ((with_reducible refine gbx ?_); refine wC hA ?_; clear hF hA; intro b1 w1 hA hb1 hF; (try simp only [uY] at hA hF)))
           try go_frame
           refine cl1 hA ?_; clear hF hA; intro w1 hA hF; (try simp only [uY] at hA hF)
           cases t0
           · go_wp2_with (first | ((with_reducible refine gst ?_); refine wT hA ?_; clear hF hA; intro w1 hA hF; (try simp only [uY] at hA hF)) | ((with_reducible refine gbx ?_); refine wC hA ?_; clear hF hA; intro b1 w1 hA hb1 hF; (try simp only [uY] at hA hF)))
             go_ret
             exact ⟨rfl, hA.toExt⟩
           · cases t1
             · go_wp2_with (first | ((with_reducible refine gst ?_); refine wT hA ?_; clear hF hA; intro w1 hA hF; (try simp only [uY] at hA hF)) | ((with_reducible refine gbx ?_); refine wC hA ?_; clear hF hA; intro b1 w1 hA hb1 hF; (try simp only [uY] at hA hF)))
               go_ret
               exact ⟨rfl, hA.toExt⟩
             · go_wp2_with (first | ((with_reducible refine gst ?_); refine wT hA ?_; clear hF hA; intro w1 hA hF; (try simp only [uY] at hA hF)) | ((with_reducible refine gbx ?_); refine wC hA ?_; clear hF hA; intro b1 w1 hA hb1 hF; (try simp only [uY] at hA hF)))
               go_ret
               exact ⟨rfl, hA.toExt⟩
         · cases m2
           · go_wp2_with (first | ((with_reducible refine gst ?_); refine wT hA ?_; clear hF hA; intro w1 hA hF; (try simp only [uY] at hA hF)) | ((with_reducible refine gbx ?_); refine wC hA ?_; clear hF hA; intro b1 w1 hA hb1 hF; (try simp only [uY] at hA hF)))
             try go_frame
             refine cl1 hA ?_; clear hF hA; intro w1 hA hF; (try simp only [uY] at hA hF)
             cases t0
             · go_wp2_with (first | ((with_reducible refine gst ?_); refine wT hA ?_; clear hF hA; intro w1 hA hF; (try simp only [uY] at hA hF)) | ((with_reducible refine gbx ?_); refine wC hA ?_; clear hF hA; intro b1 w1 hA hb1 hF; (try simp only [uY] at hA hF)))
               go_ret
               exact ⟨rfl, hA.toExt⟩
             · cases t1
               · go_wp2_with (first | ((with_reducible refine gst ?_); refine wT hA ?_; clear hF hA; intro w1 hA hF; (try simp only [uY] at hA hF)) | ((with_reducible refine gbx ?_); refine wC hA ?_; clear hF hA; intro b1 w1 hA hb1 hF; (try simp only [uY] at hA hF)))
                 go_ret
                 exact ⟨rfl, hA.toExt⟩
               · go_wp2_with (first | ((with_reducible refine gst ?_); refine wT hA ?_; clear hF hA; intro w1 hA hF; (try simp only [uY] at hA hF)) | ((with_reducible refine gbx ?_); refine wC hA ?_; clear hF hA; intro b1 w1 hA hb1 hF; (try simp only [uY] at hA hF)))
                 go_ret
                 exact ⟨rfl, hA.toExt⟩
           · go_wp2_with (first | ((with_reducible refine gst ?_); refine wT hA ?_; clear hF hA; intro w1 hA hF; (try simp only [uY] at hA hF)) | ((with_reducible refine gbx ?_); refine wC hA ?_; clear hF hA; intro b1 w1 hA hb1 hF; (try simp only [uY] at hA hF)))
             go_ret
             exact ⟨rfl, hA.toExt⟩
     · go_wp2_with (first | ((with_reducible refine gst ?_); refine wT hA ?_; clear hF hA; intro w1 hA hF; (try simp only [uY] at hA hF)) | ((with_reducible refine gbx ?_); refine wC hA ?_; clear hF hA; intro b1 w1 hA hb1 hF; (try simp only [uY] at hA hF)))
       go_ret
       exact ⟨rfl, hA.toExt⟩
theorem right_5 (num : Int) (foot : ByteArray) (req : Int) (path : ByteArray) (mode n time : Int) (w : World) {eq rf rq rp m1 m2 nz ng t0 t1 : Bool} (heq : decide ((⟨5, num, foot, req, path, mode, n, time⟩ : Cm) = ⟨5, num, foot, req, path, mode, 0, 0⟩) = eq) (hf : foot.size ≤ 1000) (hrf0 : rightB (bl foot) = rf) (hrq : (req == 0) = rq) (hp : path.size ≤ 1000) (hrp0 : rightB (bl path) = rp) (hm1 : (mode != 1) = m1) (hm2 : (mode != 2) = m2) (ht0 : decide (0 ≤ time) = t0) (ht1 : decide (time ≤ 1099511627776) = t1) :
 Calls Tryz.prog 84 #[.agg #[.int .i64 5, .int .u64 num, .string foot, .int .u64 req, .string path, .int .i64 mode, .int .u64 n, .int .i64 time]] w fun e w' => e = .returned (.bool (eq && (!true || rf) && (!true || !rq) && (!true || rp) && (!true || !(m1 && m2)) && (!false || !(nz || ng)) && (t0 && t1))) ∧ Ext w w' := by
 have hA : At [] w [] w := At.start (L0 := []) trivial
 have hF := hA.facts
 have hne := fun w => neqCm ⟨5, num, foot, req, path, mode, n, time⟩ ⟨5, num, foot, req, path, mode, 0, 0⟩ w
 rw [heq] at hne
 simp only [Cm.val] at hne
 have hbr := fun w => bare_5 num foot req path mode n time w
 have hrf := fun w => Path.right_any foot w (by omega)
 rw [hrf0] at hrf
 have hrp := fun w => Path.right_any path w (by omega)
 rw [hrp0] at hrp
 clear heq hrf0 hrp0
 have hF := hA.facts; (try simp only [uY] at hA hF)
 go_enter Tryz.func84, Tryz.ntmps84
 go_wp2_with (first | ((with_reducible refine gbx ?_); refine wC (E := 27) hA ?_; clear hF hA; intro bX w1 hA hbX hF; (try simp only [uY] at hA hF)) | ((with_reducible refine gst ?_); refine wT hA ?_; clear hF hA; intro w1 hA hF; (try simp only [uY] at hA hF)) | ((with_reducible refine gbx ?_); refine wC hA ?_; clear hF hA; intro b1 w1 hA hb1 hF; (try simp only [uY] at hA hF)))
 refine (had_5 _).mono ?_
 rintro e w1 ⟨rfl, hx⟩
 have hB := hA.ext hx
 clear hF hA hx; have hA := hB; clear hB
 have hF := hA.facts; (try simp only [uY] at hA hF)
 go_wp2_with (first | ((with_reducible refine gal ?_); refine wG 137 [.bool false, .bool false, .bool false, .bool false, .bool false, .bool false] hA ?_; clear hF hA; intro bH w1 hA hbH hF; (try simp only [uY] at hA hF)) | ((with_reducible refine gst ?_); refine wT hA ?_; clear hF hA; intro w1 hA hF; (try simp only [uY] at hA hF)) | ((with_reducible refine gbx ?_); refine wC hA ?_; clear hF hA; intro b1 w1 hA hb1 hF; (try simp only [uY] at hA hF)))
 try go_frame
 refine cl2 hA ?_; clear hF hA; intro w1 hA hF; (try simp only [uY] at hA hF)
 clear hbr hne
 cases eq
 · go_wp2_with (first | ((with_reducible refine gst ?_); refine wT hA ?_; clear hF hA; intro w1 hA hF; (try simp only [uY] at hA hF)) | ((with_reducible refine gbx ?_); refine wC hA ?_; clear hF hA; intro b1 w1 hA hb1 hF; (try simp only [uY] at hA hF)))
   go_ret
   exact ⟨rfl, hA.toExt⟩
 · go_wp2_with (first | ((with_reducible refine gst ?_); refine wT hA ?_; clear hF hA; intro w1 hA hF; (try simp only [uY] at hA hF)) | ((with_reducible refine gbx ?_); refine wC hA ?_; clear hF hA; intro b1 w1 hA hb1 hF; (try simp only [uY] at hA hF)))
   refine (hrf _).mono ?_
   rintro e w4 ⟨rfl, hx⟩
   have hB := hA.ext hx
   clear hF hA hx; have hA := hB; clear hB
   have hF := hA.facts; (try simp only [uY] at hA hF)
   cases rf
   · go_wp2_with (first | ((with_reducible refine gst ?_); refine wT hA ?_; clear hF hA; intro w1 hA hF; (try simp only [uY] at hA hF)) | ((with_reducible refine gbx ?_); refine wC hA ?_; clear hF hA; intro b1 w1 hA hb1 hF; (try simp only [uY] at hA hF)))
     go_ret
     exact ⟨rfl, hA.toExt⟩
   · cases rq
     · go_wp2_with (first | ((with_reducible refine gst ?_); refine wT hA ?_; clear hF hA; intro w1 hA hF; (try simp only [uY] at hA hF)) | ((with_reducible refine gbx ?_); refine wC hA ?_; clear hF hA; intro b1 w1 hA hb1 hF; (try simp only [uY] at hA hF)))
       refine (hrp _).mono ?_
       rintro e w4 ⟨rfl, hx⟩
       have hB := hA.ext hx
       clear hF hA hx; have hA := hB; clear hB
       have hF := hA.facts; (try simp only [uY] at hA hF)
       cases rp
       · go_wp2_with (first | ((with_reducible refine gst ?_); refine wT hA ?_; clear hF hA; intro w1 hA hF; (try simp only [uY] at hA hF)) | ((with_reducible refine gbx ?_); refine wC hA ?_; clear hF hA; intro b1 w1 hA hb1 hF; (try simp only [uY] at hA hF)))
         go_ret
         exact ⟨rfl, hA.toExt⟩
       · cases m1
         · go_wp2_with (first | ((with_reducible refine gst ?_); refine wT hA ?_; clear hF hA; intro w1 hA hF; (try simp only [uY] at hA hF)) | ((with_reducible refine gbx ?_); refine wC hA ?_; clear hF hA; intro b1 w1 hA hb1 hF; (try simp only [uY] at hA hF)))
           try go_frame
           refine cl1 hA ?_; clear hF hA; intro w1 hA hF; (try simp only [uY] at hA hF)
           cases t0
           · go_wp2_with (first | ((with_reducible refine gst ?_); refine wT hA ?_; clear hF hA; intro w1 hA hF; (try simp only [uY] at hA hF)) | ((with_reducible refine gbx ?_); refine wC hA ?_; clear hF hA; intro b1 w1 hA hb1 hF; (try simp only [uY] at hA hF)))
             go_ret
             exact ⟨rfl, hA.toExt⟩
           · cases t1
             · go_wp2_with (first | ((with_reducible refine gst ?_); refine wT hA ?_; clear hF hA; intro w1 hA hF; (try simp only [uY] at hA hF)) | ((with_reducible refine gbx ?_); refine wC hA ?_; clear hF hA; intro b1 w1 hA hb1 hF; (try simp only [uY] at hA hF)))
               go_ret
               exact ⟨rfl, hA.toExt⟩
             · go_wp2_with (first | ((with_reducible refine gst ?_); refine wT hA ?_; clear hF hA; intro w1 hA hF; (try simp only [uY] at hA hF)) | ((with_reducible refine gbx ?_); refine wC hA ?_; clear hF hA; intro b1 w1 hA hb1 hF; (try simp only [uY] at hA hF)))
               go_ret
               exact ⟨rfl, hA.toExt⟩
         · cases m2
           · go_wp2_with (first | ((with_reducible refine gst ?_); refine wT hA ?_; clear hF hA; intro w1 hA hF; (try simp only [uY] at hA hF)) | ((with_reducible refine gbx ?_); refine wC hA ?_; clear hF hA; intro b1 w1 hA hb1 hF; (try simp only [uY] at hA hF)))
             try go_frame
             refine cl1 hA ?_; clear hF hA; intro w1 hA hF; (try simp only [uY] at hA hF)
             cases t0
             · go_wp2_with (first | ((with_reducible refine gst ?_); refine wT hA ?_; clear hF hA; intro w1 hA hF; (try simp only [uY] at hA hF)) | ((with_reducible refine gbx ?_); refine wC hA ?_; clear hF hA; intro b1 w1 hA hb1 hF; (try simp only [uY] at hA hF)))
               go_ret
               exact ⟨rfl, hA.toExt⟩
             · cases t1
               · go_wp2_with (first | ((with_reducible refine gst ?_); refine wT hA ?_; clear hF hA; intro w1 hA hF; (try simp only [uY] at hA hF)) | ((with_reducible refine gbx ?_); refine wC hA ?_; clear hF hA; intro b1 w1 hA hb1 hF; (try simp only [uY] at hA hF)))
                 go_ret
                 exact ⟨rfl, hA.toExt⟩
               · go_wp2_with (first | ((with_reducible refine gst ?_); refine wT hA ?_; clear hF hA; intro w1 hA hF; (try simp only [uY] at hA hF)) | ((with_reducible refine gbx ?_); refine wC hA ?_; clear hF hA; intro b1 w1 hA hb1 hF; (try simp only [uY] at hA hF)))
                 go_ret
                 exact ⟨rfl, hA.toExt⟩
           · go_wp2_with (first | ((with_reducible refine gst ?_); refine wT hA ?_; clear hF hA; intro w1 hA hF; (try simp only [uY] at hA hF)) | ((with_reducible refine gbx ?_); refine wC hA ?_; clear hF hA; intro b1 w1 hA hb1 hF; (try simp only [uY] at hA hF)))
             go_ret
             exact ⟨rfl, hA.toExt⟩
     · go_wp2_with (first | ((with_reducible refine gst ?_); refine wT hA ?_; clear hF hA; intro w1 hA hF; (try simp only [uY] at hA hF)) | ((with_reducible refine gbx ?_); refine wC hA ?_; clear hF hA; intro b1 w1 hA hb1 hF; (try simp only [uY] at hA hF)))
       go_ret
       exact ⟨rfl, hA.toExt⟩
theorem right_6 (num : Int) (foot : ByteArray) (req : Int) (path : ByteArray) (mode n time : Int) (w : World) {eq rf rq rp m1 m2 nz ng t0 t1 : Bool} (heq : decide ((⟨6, num, foot, req, path, mode, n, time⟩ : Cm) = ⟨6, num, foot, req, path, 0, 0, 0⟩) = eq) (hf : foot.size ≤ 1000) (hrf0 : rightB (bl foot) = rf) (hrq : (req == 0) = rq) (hp : path.size ≤ 1000) (hrp0 : rightB (bl path) = rp) (ht0 : decide (0 ≤ time) = t0) (ht1 : decide (time ≤ 1099511627776) = t1) :
 Calls Tryz.prog 84 #[.agg #[.int .i64 6, .int .u64 num, .string foot, .int .u64 req, .string path, .int .i64 mode, .int .u64 n, .int .i64 time]] w fun e w' => e = .returned (.bool (eq && (!true || rf) && (!true || !rq) && (!true || rp) && (!false || !(m1 && m2)) && (!false || !(nz || ng)) && (t0 && t1))) ∧ Ext w w' := by
 have hA : At [] w [] w := At.start (L0 := []) trivial
 have hF := hA.facts
 have hne := fun w => neqCm ⟨6, num, foot, req, path, mode, n, time⟩ ⟨6, num, foot, req, path, 0, 0, 0⟩ w
 rw [heq] at hne
 simp only [Cm.val] at hne
 have hbr := fun w => bare_6 num foot req path mode n time w
 have hrf := fun w => Path.right_any foot w (by omega)
 rw [hrf0] at hrf
 have hrp := fun w => Path.right_any path w (by omega)
 rw [hrp0] at hrp
 clear heq hrf0 hrp0
 have hF := hA.facts; (try simp only [uY] at hA hF)
 go_enter Tryz.func84, Tryz.ntmps84
 go_wp2_with (first | ((with_reducible refine gbx ?_); refine wC (E := 27) hA ?_; clear hF hA; intro bX w1 hA hbX hF; (try simp only [uY] at hA hF)) | ((with_reducible refine gst ?_); refine wT hA ?_; clear hF hA; intro w1 hA hF; (try simp only [uY] at hA hF)) | ((with_reducible refine gbx ?_); refine wC hA ?_; clear hF hA; intro b1 w1 hA hb1 hF; (try simp only [uY] at hA hF)))
 refine (had_6 _).mono ?_
 rintro e w1 ⟨rfl, hx⟩
 have hB := hA.ext hx
 clear hF hA hx; have hA := hB; clear hB
 have hF := hA.facts; (try simp only [uY] at hA hF)
 go_wp2_with (first | ((with_reducible refine gal ?_); refine wG 137 [.bool false, .bool false, .bool false, .bool false, .bool false, .bool false] hA ?_; clear hF hA; intro bH w1 hA hbH hF; (try simp only [uY] at hA hF)) | ((with_reducible refine gst ?_); refine wT hA ?_; clear hF hA; intro w1 hA hF; (try simp only [uY] at hA hF)) | ((with_reducible refine gbx ?_); refine wC hA ?_; clear hF hA; intro b1 w1 hA hb1 hF; (try simp only [uY] at hA hF)))
 try go_frame
 refine cl2 hA ?_; clear hF hA; intro w1 hA hF; (try simp only [uY] at hA hF)
 clear hbr hne
 cases eq
 · go_wp2_with (first | ((with_reducible refine gst ?_); refine wT hA ?_; clear hF hA; intro w1 hA hF; (try simp only [uY] at hA hF)) | ((with_reducible refine gbx ?_); refine wC hA ?_; clear hF hA; intro b1 w1 hA hb1 hF; (try simp only [uY] at hA hF)))
   go_ret
   exact ⟨rfl, hA.toExt⟩
 · go_wp2_with (first | ((with_reducible refine gst ?_); refine wT hA ?_; clear hF hA; intro w1 hA hF; (try simp only [uY] at hA hF)) | ((with_reducible refine gbx ?_); refine wC hA ?_; clear hF hA; intro b1 w1 hA hb1 hF; (try simp only [uY] at hA hF)))
   refine (hrf _).mono ?_
   rintro e w4 ⟨rfl, hx⟩
   have hB := hA.ext hx
   clear hF hA hx; have hA := hB; clear hB
   have hF := hA.facts; (try simp only [uY] at hA hF)
   cases rf
   · go_wp2_with (first | ((with_reducible refine gst ?_); refine wT hA ?_; clear hF hA; intro w1 hA hF; (try simp only [uY] at hA hF)) | ((with_reducible refine gbx ?_); refine wC hA ?_; clear hF hA; intro b1 w1 hA hb1 hF; (try simp only [uY] at hA hF)))
     go_ret
     exact ⟨rfl, hA.toExt⟩
   · cases rq
     · go_wp2_with (first | ((with_reducible refine gst ?_); refine wT hA ?_; clear hF hA; intro w1 hA hF; (try simp only [uY] at hA hF)) | ((with_reducible refine gbx ?_); refine wC hA ?_; clear hF hA; intro b1 w1 hA hb1 hF; (try simp only [uY] at hA hF)))
       refine (hrp _).mono ?_
       rintro e w4 ⟨rfl, hx⟩
       have hB := hA.ext hx
       clear hF hA hx; have hA := hB; clear hB
       have hF := hA.facts; (try simp only [uY] at hA hF)
       cases rp
       · go_wp2_with (first | ((with_reducible refine gst ?_); refine wT hA ?_; clear hF hA; intro w1 hA hF; (try simp only [uY] at hA hF)) | ((with_reducible refine gbx ?_); refine wC hA ?_; clear hF hA; intro b1 w1 hA hb1 hF; (try simp only [uY] at hA hF)))
         go_ret
         exact ⟨rfl, hA.toExt⟩
       · go_wp2_with (first | ((with_reducible refine gst ?_); refine wT hA ?_; clear hF hA; intro w1 hA hF; (try simp only [uY] at hA hF)) | ((with_reducible refine gbx ?_); refine wC hA ?_; clear hF hA; intro b1 w1 hA hb1 hF; (try simp only [uY] at hA hF)))
         try go_frame
         refine cl1 hA ?_; clear hF hA; intro w1 hA hF; (try simp only [uY] at hA hF)
         cases t0
         · go_wp2_with (first | ((with_reducible refine gst ?_); refine wT hA ?_; clear hF hA; intro w1 hA hF; (try simp only [uY] at hA hF)) | ((with_reducible refine gbx ?_); refine wC hA ?_; clear hF hA; intro b1 w1 hA hb1 hF; (try simp only [uY] at hA hF)))
           go_ret
           exact ⟨rfl, hA.toExt⟩
         · cases t1
           · go_wp2_with (first | ((with_reducible refine gst ?_); refine wT hA ?_; clear hF hA; intro w1 hA hF; (try simp only [uY] at hA hF)) | ((with_reducible refine gbx ?_); refine wC hA ?_; clear hF hA; intro b1 w1 hA hb1 hF; (try simp only [uY] at hA hF)))
             go_ret
             exact ⟨rfl, hA.toExt⟩
           · go_wp2_with (first | ((with_reducible refine gst ?_); refine wT hA ?_; clear hF hA; intro w1 hA hF; (try simp only [uY] at hA hF)) | ((with_reducible refine gbx ?_); refine wC hA ?_; clear hF hA; intro b1 w1 hA hb1 hF; (try simp only [uY] at hA hF)))
             go_ret
             exact ⟨rfl, hA.toExt⟩
     · go_wp2_with (first | ((with_reducible refine gst ?_); refine wT hA ?_; clear hF hA; intro w1 hA hF; (try simp only [uY] at hA hF)) | ((with_reducible refine gbx ?_); refine wC hA ?_; clear hF hA; intro b1 w1 hA hb1 hF; (try simp only [uY] at hA hF)))
       go_ret
       exact ⟨rfl, hA.toExt⟩
theorem right_7 (num : Int) (foot : ByteArray) (req : Int) (path : ByteArray) (mode n time : Int) (w : World) {eq rf rq rp m1 m2 nz ng t0 t1 : Bool} (heq : decide ((⟨7, num, foot, req, path, mode, n, time⟩ : Cm) = ⟨7, num, foot, req, path, 0, n, 0⟩) = eq) (hf : foot.size ≤ 1000) (hrf0 : rightB (bl foot) = rf) (hrq : (req == 0) = rq) (hp : path.size ≤ 1000) (hrp0 : rightB (bl path) = rp) (hnz : (n == 0) = nz) (hng : decide (9223372036854775807 < n) = ng) (ht0 : decide (0 ≤ time) = t0) (ht1 : decide (time ≤ 1099511627776) = t1) :
 Calls Tryz.prog 84 #[.agg #[.int .i64 7, .int .u64 num, .string foot, .int .u64 req, .string path, .int .i64 mode, .int .u64 n, .int .i64 time]] w fun e w' => e = .returned (.bool (eq && (!true || rf) && (!true || !rq) && (!true || rp) && (!false || !(m1 && m2)) && (!true || !(nz || ng)) && (t0 && t1))) ∧ Ext w w' := by
 have hA : At [] w [] w := At.start (L0 := []) trivial
 have hF := hA.facts
 have hne := fun w => neqCm ⟨7, num, foot, req, path, mode, n, time⟩ ⟨7, num, foot, req, path, 0, n, 0⟩ w
 rw [heq] at hne
 simp only [Cm.val] at hne
 have hbr := fun w => bare_7 num foot req path mode n time w
 have hrf := fun w => Path.right_any foot w (by omega)
 rw [hrf0] at hrf
 have hrp := fun w => Path.right_any path w (by omega)
 rw [hrp0] at hrp
 have hmo := fun w => most_7 w
 clear heq hrf0 hrp0
 have hF := hA.facts; (try simp only [uY] at hA hF)
 go_enter Tryz.func84, Tryz.ntmps84
 go_wp2_with (first | ((with_reducible refine gbx ?_); refine wC (E := 27) hA ?_; clear hF hA; intro bX w1 hA hbX hF; (try simp only [uY] at hA hF)) | ((with_reducible refine gst ?_); refine wT hA ?_; clear hF hA; intro w1 hA hF; (try simp only [uY] at hA hF)) | ((with_reducible refine gbx ?_); refine wC hA ?_; clear hF hA; intro b1 w1 hA hb1 hF; (try simp only [uY] at hA hF)))
 refine (had_7 _).mono ?_
 rintro e w1 ⟨rfl, hx⟩
 have hB := hA.ext hx
 clear hF hA hx; have hA := hB; clear hB
 have hF := hA.facts; (try simp only [uY] at hA hF)
 go_wp2_with (first | ((with_reducible refine gal ?_); refine wG 137 [.bool false, .bool false, .bool false, .bool false, .bool false, .bool false] hA ?_; clear hF hA; intro bH w1 hA hbH hF; (try simp only [uY] at hA hF)) | ((with_reducible refine gst ?_); refine wT hA ?_; clear hF hA; intro w1 hA hF; (try simp only [uY] at hA hF)) | ((with_reducible refine gbx ?_); refine wC hA ?_; clear hF hA; intro b1 w1 hA hb1 hF; (try simp only [uY] at hA hF)))
 try go_frame
 refine cl2 hA ?_; clear hF hA; intro w1 hA hF; (try simp only [uY] at hA hF)
 clear hbr hne
 cases eq
 · go_wp2_with (first | ((with_reducible refine gst ?_); refine wT hA ?_; clear hF hA; intro w1 hA hF; (try simp only [uY] at hA hF)) | ((with_reducible refine gbx ?_); refine wC hA ?_; clear hF hA; intro b1 w1 hA hb1 hF; (try simp only [uY] at hA hF)))
   go_ret
   exact ⟨rfl, hA.toExt⟩
 · go_wp2_with (first | ((with_reducible refine gst ?_); refine wT hA ?_; clear hF hA; intro w1 hA hF; (try simp only [uY] at hA hF)) | ((with_reducible refine gbx ?_); refine wC hA ?_; clear hF hA; intro b1 w1 hA hb1 hF; (try simp only [uY] at hA hF)))
   refine (hrf _).mono ?_
   rintro e w4 ⟨rfl, hx⟩
   have hB := hA.ext hx
   clear hF hA hx; have hA := hB; clear hB
   have hF := hA.facts; (try simp only [uY] at hA hF)
   cases rf
   · go_wp2_with (first | ((with_reducible refine gst ?_); refine wT hA ?_; clear hF hA; intro w1 hA hF; (try simp only [uY] at hA hF)) | ((with_reducible refine gbx ?_); refine wC hA ?_; clear hF hA; intro b1 w1 hA hb1 hF; (try simp only [uY] at hA hF)))
     go_ret
     exact ⟨rfl, hA.toExt⟩
   · cases rq
     · go_wp2_with (first | ((with_reducible refine gst ?_); refine wT hA ?_; clear hF hA; intro w1 hA hF; (try simp only [uY] at hA hF)) | ((with_reducible refine gbx ?_); refine wC hA ?_; clear hF hA; intro b1 w1 hA hb1 hF; (try simp only [uY] at hA hF)))
       refine (hrp _).mono ?_
       rintro e w4 ⟨rfl, hx⟩
       have hB := hA.ext hx
       clear hF hA hx; have hA := hB; clear hB
       have hF := hA.facts; (try simp only [uY] at hA hF)
       cases rp
       · go_wp2_with (first | ((with_reducible refine gst ?_); refine wT hA ?_; clear hF hA; intro w1 hA hF; (try simp only [uY] at hA hF)) | ((with_reducible refine gbx ?_); refine wC hA ?_; clear hF hA; intro b1 w1 hA hb1 hF; (try simp only [uY] at hA hF)))
         go_ret
         exact ⟨rfl, hA.toExt⟩
       · cases nz
         · cases ng
           · go_wp2_with (first | ((with_reducible refine gst ?_); refine wT hA ?_; clear hF hA; intro w1 hA hF; (try simp only [uY] at hA hF)) | ((with_reducible refine gbx ?_); refine wC hA ?_; clear hF hA; intro b1 w1 hA hb1 hF; (try simp only [uY] at hA hF)))
             try go_frame
             refine cl4 hA ?_; clear hF hA; intro w1 hA hF; (try simp only [uY] at hA hF)
             cases t0
             · go_wp2_with (first | ((with_reducible refine gst ?_); refine wT hA ?_; clear hF hA; intro w1 hA hF; (try simp only [uY] at hA hF)) | ((with_reducible refine gbx ?_); refine wC hA ?_; clear hF hA; intro b1 w1 hA hb1 hF; (try simp only [uY] at hA hF)))
               go_ret
               exact ⟨rfl, hA.toExt⟩
             · cases t1
               · go_wp2_with (first | ((with_reducible refine gst ?_); refine wT hA ?_; clear hF hA; intro w1 hA hF; (try simp only [uY] at hA hF)) | ((with_reducible refine gbx ?_); refine wC hA ?_; clear hF hA; intro b1 w1 hA hb1 hF; (try simp only [uY] at hA hF)))
                 go_ret
                 exact ⟨rfl, hA.toExt⟩
               · go_wp2_with (first | ((with_reducible refine gst ?_); refine wT hA ?_; clear hF hA; intro w1 hA hF; (try simp only [uY] at hA hF)) | ((with_reducible refine gbx ?_); refine wC hA ?_; clear hF hA; intro b1 w1 hA hb1 hF; (try simp only [uY] at hA hF)))
                 go_ret
                 exact ⟨rfl, hA.toExt⟩
           · go_wp2_with (first | ((with_reducible refine gst ?_); refine wT hA ?_; clear hF hA; intro w1 hA hF; (try simp only [uY] at hA hF)) | ((with_reducible refine gbx ?_); refine wC hA ?_; clear hF hA; intro b1 w1 hA hb1 hF; (try simp only [uY] at hA hF)))
             try go_frame
             refine cl4 hA ?_; clear hF hA; intro w1 hA hF; (try simp only [uY] at hA hF)
             go_wp2_with (first | ((with_reducible refine gst ?_); refine wT hA ?_; clear hF hA; intro w1 hA hF; (try simp only [uY] at hA hF)) | ((with_reducible refine gbx ?_); refine wC hA ?_; clear hF hA; intro b1 w1 hA hb1 hF; (try simp only [uY] at hA hF)))
             go_ret
             exact ⟨rfl, hA.toExt⟩
         · go_wp2_with (first | ((with_reducible refine gst ?_); refine wT hA ?_; clear hF hA; intro w1 hA hF; (try simp only [uY] at hA hF)) | ((with_reducible refine gbx ?_); refine wC hA ?_; clear hF hA; intro b1 w1 hA hb1 hF; (try simp only [uY] at hA hF)))
           try go_frame
           refine cl4 hA ?_; clear hF hA; intro w1 hA hF; (try simp only [uY] at hA hF)
           go_wp2_with (first | ((with_reducible refine gst ?_); refine wT hA ?_; clear hF hA; intro w1 hA hF; (try simp only [uY] at hA hF)) | ((with_reducible refine gbx ?_); refine wC hA ?_; clear hF hA; intro b1 w1 hA hb1 hF; (try simp only [uY] at hA hF)))
           go_ret
           exact ⟨rfl, hA.toExt⟩
     · go_wp2_with (first | ((with_reducible refine gst ?_); refine wT hA ?_; clear hF hA; intro w1 hA hF; (try simp only [uY] at hA hF)) | ((with_reducible refine gbx ?_); refine wC hA ?_; clear hF hA; intro b1 w1 hA hb1 hF; (try simp only [uY] at hA hF)))
       go_ret
       exact ⟨rfl, hA.toExt⟩
theorem right_8 (num : Int) (foot : ByteArray) (req : Int) (path : ByteArray) (mode n time : Int) (w : World) {eq rf rq rp m1 m2 nz ng t0 t1 : Bool} (heq : decide ((⟨8, num, foot, req, path, mode, n, time⟩ : Cm) = ⟨8, num, foot, 0, .empty, 0, 0, time⟩) = eq) (hf : foot.size ≤ 1000) (hrf0 : rightB (bl foot) = rf) (ht0 : decide (0 ≤ time) = t0) (ht1 : decide (time ≤ 1099511627776) = t1) :
 Calls Tryz.prog 84 #[.agg #[.int .i64 8, .int .u64 num, .string foot, .int .u64 req, .string path, .int .i64 mode, .int .u64 n, .int .i64 time]] w fun e w' => e = .returned (.bool (eq && (!true || rf) && (!false || !rq) && (!false || rp) && (!false || !(m1 && m2)) && (!false || !(nz || ng)) && (t0 && t1))) ∧ Ext w w' := by
 have hA : At [] w [] w := At.start (L0 := []) trivial
 have hF := hA.facts
 have hne := fun w => neqCm ⟨8, num, foot, req, path, mode, n, time⟩ ⟨8, num, foot, 0, .empty, 0, 0, time⟩ w
 rw [heq] at hne
 simp only [Cm.val] at hne
 have hbr := fun w => bare_8 num foot req path mode n time w
 have hrf := fun w => Path.right_any foot w (by omega)
 rw [hrf0] at hrf
 clear heq hrf0
 have hF := hA.facts; (try simp only [uY] at hA hF)
 go_enter Tryz.func84, Tryz.ntmps84
 go_wp2_with (first | ((with_reducible refine gbx ?_); refine wC (E := 27) hA ?_; clear hF hA; intro bX w1 hA hbX hF; (try simp only [uY] at hA hF)) | ((with_reducible refine gst ?_); refine wT hA ?_; clear hF hA; intro w1 hA hF; (try simp only [uY] at hA hF)) | ((with_reducible refine gbx ?_); refine wC hA ?_; clear hF hA; intro b1 w1 hA hb1 hF; (try simp only [uY] at hA hF)))
 refine (had_8 _).mono ?_
 rintro e w1 ⟨rfl, hx⟩
 have hB := hA.ext hx
 clear hF hA hx; have hA := hB; clear hB
 have hF := hA.facts; (try simp only [uY] at hA hF)
 go_wp2_with (first | ((with_reducible refine gal ?_); refine wG 137 [.bool false, .bool false, .bool false, .bool false, .bool false, .bool false] hA ?_; clear hF hA; intro bH w1 hA hbH hF; (try simp only [uY] at hA hF)) | ((with_reducible refine gst ?_); refine wT hA ?_; clear hF hA; intro w1 hA hF; (try simp only [uY] at hA hF)) | ((with_reducible refine gbx ?_); refine wC hA ?_; clear hF hA; intro b1 w1 hA hb1 hF; (try simp only [uY] at hA hF)))
 try go_frame
 refine cl2 hA ?_; clear hF hA; intro w1 hA hF; (try simp only [uY] at hA hF)
 clear hbr hne
 cases eq
 · go_wp2_with (first | ((with_reducible refine gst ?_); refine wT hA ?_; clear hF hA; intro w1 hA hF; (try simp only [uY] at hA hF)) | ((with_reducible refine gbx ?_); refine wC hA ?_; clear hF hA; intro b1 w1 hA hb1 hF; (try simp only [uY] at hA hF)))
   go_ret
   exact ⟨rfl, hA.toExt⟩
 · go_wp2_with (first | ((with_reducible refine gst ?_); refine wT hA ?_; clear hF hA; intro w1 hA hF; (try simp only [uY] at hA hF)) | ((with_reducible refine gbx ?_); refine wC hA ?_; clear hF hA; intro b1 w1 hA hb1 hF; (try simp only [uY] at hA hF)))
   refine (hrf _).mono ?_
   rintro e w4 ⟨rfl, hx⟩
   have hB := hA.ext hx
   clear hF hA hx; have hA := hB; clear hB
   have hF := hA.facts; (try simp only [uY] at hA hF)
   cases rf
   · go_wp2_with (first | ((with_reducible refine gst ?_); refine wT hA ?_; clear hF hA; intro w1 hA hF; (try simp only [uY] at hA hF)) | ((with_reducible refine gbx ?_); refine wC hA ?_; clear hF hA; intro b1 w1 hA hb1 hF; (try simp only [uY] at hA hF)))
     go_ret
     exact ⟨rfl, hA.toExt⟩
   · go_wp2_with (first | ((with_reducible refine gst ?_); refine wT hA ?_; clear hF hA; intro w1 hA hF; (try simp only [uY] at hA hF)) | ((with_reducible refine gbx ?_); refine wC hA ?_; clear hF hA; intro b1 w1 hA hb1 hF; (try simp only [uY] at hA hF)))
     try go_frame
     refine cl1 hA ?_; clear hF hA; intro w1 hA hF; (try simp only [uY] at hA hF)
     cases t0
     · go_wp2_with (first | ((with_reducible refine gst ?_); refine wT hA ?_; clear hF hA; intro w1 hA hF; (try simp only [uY] at hA hF)) | ((with_reducible refine gbx ?_); refine wC hA ?_; clear hF hA; intro b1 w1 hA hb1 hF; (try simp only [uY] at hA hF)))
       go_ret
       exact ⟨rfl, hA.toExt⟩
     · cases t1
       · go_wp2_with (first | ((with_reducible refine gst ?_); refine wT hA ?_; clear hF hA; intro w1 hA hF; (try simp only [uY] at hA hF)) | ((with_reducible refine gbx ?_); refine wC hA ?_; clear hF hA; intro b1 w1 hA hb1 hF; (try simp only [uY] at hA hF)))
         go_ret
         exact ⟨rfl, hA.toExt⟩
       · go_wp2_with (first | ((with_reducible refine gst ?_); refine wT hA ?_; clear hF hA; intro w1 hA hF; (try simp only [uY] at hA hF)) | ((with_reducible refine gbx ?_); refine wC hA ?_; clear hF hA; intro b1 w1 hA hb1 hF; (try simp only [uY] at hA hF)))
         go_ret
         exact ⟨rfl, hA.toExt⟩
theorem right_no (c : Cm) (hk : hasOf c.kind = none) (w : World) : Calls Tryz.prog 84 #[c.val] w fun e w' => e = .returned (.bool false) ∧ Ext w w' := by
 have hA : At [] w [] w := At.start (L0 := []) trivial
 have hF := hA.facts
 have hno := fun w => had_no c.kind hk w
 clear hk
 obtain ⟨kind, num, foot, req, path, mode, n, time⟩ := c
 simp only [Cm.val] at *
 have hF := hA.facts; (try simp only [uY] at hA hF)
 go_enter Tryz.func84, Tryz.ntmps84
 go_wp2_with (first | ((with_reducible refine gbx ?_); refine wC (E := 27) hA ?_; clear hF hA; intro bX w1 hA hbX hF; (try simp only [uY] at hA hF)) | ((with_reducible refine gst ?_); refine wT hA ?_; clear hF hA; intro w1 hA hF; (try simp only [uY] at hA hF)) | ((with_reducible refine gbx ?_); refine wC hA ?_; clear hF hA; intro b1 w1 hA hb1 hF; (try simp only [uY] at hA hF)))
 refine (hno _).mono ?_
 clear hno
 rintro e w1 ⟨rfl, hx⟩
 have hB := hA.ext hx
 clear hF hA hx; have hA := hB; clear hB
 have hF := hA.facts; (try simp only [uY] at hA hF)
 go_wp2_with (first | ((with_reducible refine gal ?_); refine wG 137 [.bool false, .bool false, .bool false, .bool false, .bool false, .bool false] hA ?_; clear hF hA; intro bH w1 hA hbH hF; (try simp only [uY] at hA hF)) | ((with_reducible refine gst ?_); refine wT hA ?_; clear hF hA; intro w1 hA hF; (try simp only [uY] at hA hF)) | ((with_reducible refine gbx ?_); refine wC hA ?_; clear hF hA; intro b1 w1 hA hb1 hF; (try simp only [uY] at hA hF)))
 try go_frame
 refine cl1 hA ?_; clear hF hA; intro w1 hA hF; (try simp only [uY] at hA hF)
 go_wp2_with (first | ((with_reducible refine gst ?_); refine wT hA ?_; clear hF hA; intro w1 hA hF; (try simp only [uY] at hA hF)) | ((with_reducible refine gbx ?_); refine wC hA ?_; clear hF hA; intro b1 w1 hA hb1 hF; (try simp only [uY] at hA hF)))
 go_ret
 exact ⟨rfl, hA.toExt⟩
theorem right_any (c : Cm) (w : World) (hf : c.foot.size ≤ 1000) (hp : c.path.size ≤ 1000) : Calls Tryz.prog 84 #[c.val] w fun e w' => e = .returned (.bool (rightC c)) ∧ Ext w w' := by
 obtain ⟨kind, num, foot, req, path, mode, n, time⟩ := c
 simp only at hf hp
 by_cases h0 : kind = 0
 · subst h0
   exact right_0 num foot req path mode n time w (rf := true) (rq := true) (rp := true) (m1 := true) (m2 := true) (nz := true) (ng := true) rfl rfl rfl
 by_cases h1 : kind = 1
 · subst h1
   exact right_1 num foot req path mode n time w (rp := true) (m1 := true) (m2 := true) rfl hf rfl rfl rfl rfl rfl rfl
 by_cases h2 : kind = 2
 · subst h2
   exact right_2 num foot req path mode n time w (rp := true) (m1 := true) (m2 := true) (nz := true) (ng := true) rfl hf rfl rfl rfl rfl
 by_cases h3 : kind = 3
 · subst h3
   exact right_3 num foot req path mode n time w (rp := true) (m1 := true) (m2 := true) (nz := true) (ng := true) rfl hf rfl rfl rfl rfl
 by_cases h4 : kind = 4
 · subst h4
   exact right_4 num foot req path mode n time w (nz := true) (ng := true) rfl hf rfl rfl hp rfl rfl rfl rfl rfl
 by_cases h5 : kind = 5
 · subst h5
   exact right_5 num foot req path mode n time w (nz := true) (ng := true) rfl hf rfl rfl hp rfl rfl rfl rfl rfl
 by_cases h6 : kind = 6
 · subst h6
   exact right_6 num foot req path mode n time w (m1 := true) (m2 := true) (nz := true) (ng := true) rfl hf rfl rfl hp rfl rfl rfl
 by_cases h7 : kind = 7
 · subst h7
   exact right_7 num foot req path mode n time w (m1 := true) (m2 := true) rfl hf rfl rfl hp rfl rfl rfl rfl rfl
 by_cases h8 : kind = 8
 · subst h8
   exact right_8 num foot req path mode n time w (rq := true) (rp := true) (m1 := true) (m2 := true) (nz := true) (ng := true) rfl hf rfl rfl rfl
 have hk : hasOf kind = none := by unfold hasOf; simp [h0, h1, h2, h3, h4, h5, h6, h7, h8]
 have e : rightC ⟨kind, num, foot, req, path, mode, n, time⟩ = false := by unfold rightC; simp only [hk]
 rw [e]
 exact right_no ⟨kind, num, foot, req, path, mode, n, time⟩ hk w
end Go.Proofs.YtgbpfgdjnhbcgaaGreatDoor.Cmd
end
