/- CmdF, joined. -/
import Derived.Test.YtgbpfgdjnhbcgaaGreatDoorQ6
set_option linter.unusedSimpArgs false
set_option linter.unusedVariables false
set_option maxRecDepth 100000
set_option maxHeartbeats 16000000
section
namespace Go.Proofs.YtgbpfgdjnhbcgaaGreatDoor.Cmd
open Go.RowKit
open Path (bl rightB overB)
attribute [-go_sem] run_eql_struct run_neq_struct run_eqGuard_agg
theorem foot_0 (num : Int) (foot : ByteArray) (req : Int) (path : ByteArray) (mode n time : Int) (w : World) {rc : Bool} (hrc : ∀ w, Calls Tryz.prog 84 #[.agg #[.int .i64 0, .int .u64 num, .string foot, .int .u64 req, .string path, .int .i64 mode, .int .u64 n, .int .i64 time]] w fun e w' => e = .returned (.bool rc) ∧ Ext w w') :
 Calls Tryz.prog 59 #[.agg #[.int .i64 0, .int .u64 num, .string foot, .int .u64 req, .string path, .int .i64 mode, .int .u64 n, .int .i64 time]] w fun e w' => e = .returned (.tuple #[.string (if rc then foot else .empty), .bool (rc && false)]) ∧ Ext w w' := by
 have hA : At [] w [] w := At.start (L0 := []) trivial
 have hF := hA.facts; (try simp only [uY] at hA hF)
 go_enter Tryz.func59, Tryz.ntmps59
 go_wp2_with (first | ((with_reducible refine gbx ?_); refine wC (E := 27) hA ?_; clear hF hA; intro bX w1 hA hbX hF; (try simp only [uY] at hA hF)) | ((with_reducible refine gst ?_); refine wT hA ?_; clear hF hA; intro w1 hA hF; (try simp only [uY] at hA hF)) | ((with_reducible refine gbx ?_); refine wC hA ?_; clear hF hA; intro b1 w1 hA hb1 hF; (try simp only [uY] at hA hF)))
 refine (had_0 _).mono ?_
 rintro e w1 ⟨rfl, hx⟩
 have hB := hA.ext hx
 clear hF hA hx; have hA := hB; clear hB
 have hF := hA.facts; (try simp only [uY] at hA hF)
 go_wp2_with (first | ((with_reducible refine gal ?_); refine wG 137 [.bool false, .bool false, .bool false, .bool false, .bool false, .bool false] hA ?_; clear hF hA; intro bH w1 hA hbH hF; (try simp only [uY] at hA hF)) | ((with_reducible refine gst ?_); refine wT hA ?_; clear hF hA; intro w1 hA hF; (try simp only [uY] at hA hF)) | ((with_reducible refine gbx ?_); refine wC hA ?_; clear hF hA; intro b1 w1 hA hb1 hF; (try simp only [uY] at hA hF)))
 refine (hrc _).mono ?_
 rintro e w1 ⟨rfl, hx⟩
 have hB := hA.ext hx
 clear hF hA hx; have hA := hB; clear hB
 have hF := hA.facts; (try simp only [uY] at hA hF)
 cases rc
 · go_wp2_with (first | ((with_reducible refine gst ?_); refine wT hA ?_; clear hF hA; intro w1 hA hF; (try simp only [uY] at hA hF)) | ((with_reducible refine gbx ?_); refine wC hA ?_; clear hF hA; intro b1 w1 hA hb1 hF; (try simp only [uY] at hA hF)))
   refine bodyPost_ret (v := .tuple #[.string ⟨#[]⟩, .bool false]) (by simp [results, Tryz.results59, go_sem, hF]) rfl ⟨rfl, hA.toExt⟩
 · go_wp2_with (first | ((with_reducible refine gst ?_); refine wT hA ?_; clear hF hA; intro w1 hA hF; (try simp only [uY] at hA hF)) | ((with_reducible refine gbx ?_); refine wC hA ?_; clear hF hA; intro b1 w1 hA hb1 hF; (try simp only [uY] at hA hF)))
   try go_frame
   refine cl0 hA ?_; clear hF hA; intro w1 hA hF; (try simp only [uY] at hA hF)
   go_wp2_with (first | ((with_reducible refine gst ?_); refine wT hA ?_; clear hF hA; intro w1 hA hF; (try simp only [uY] at hA hF)) | ((with_reducible refine gbx ?_); refine wC hA ?_; clear hF hA; intro b1 w1 hA hb1 hF; (try simp only [uY] at hA hF)))
   refine bodyPost_ret (v := .tuple #[.string foot, .bool false]) (by simp [results, Tryz.results59, go_sem, hF]) rfl ⟨rfl, hA.toExt⟩
theorem foot_1 (num : Int) (foot : ByteArray) (req : Int) (path : ByteArray) (mode n time : Int) (w : World) {rc : Bool} (hrc : ∀ w, Calls Tryz.prog 84 #[.agg #[.int .i64 1, .int .u64 num, .string foot, .int .u64 req, .string path, .int .i64 mode, .int .u64 n, .int .i64 time]] w fun e w' => e = .returned (.bool rc) ∧ Ext w w') :
 Calls Tryz.prog 59 #[.agg #[.int .i64 1, .int .u64 num, .string foot, .int .u64 req, .string path, .int .i64 mode, .int .u64 n, .int .i64 time]] w fun e w' => e = .returned (.tuple #[.string (if rc then foot else .empty), .bool (rc && true)]) ∧ Ext w w' := by
 have hA : At [] w [] w := At.start (L0 := []) trivial
 have hF := hA.facts; (try simp only [uY] at hA hF)
 go_enter Tryz.func59, Tryz.ntmps59
 go_wp2_with (first | ((with_reducible refine gbx ?_); refine wC (E := 27) hA ?_; clear hF hA; intro bX w1 hA hbX hF; (try simp only [uY] at hA hF)) | ((with_reducible refine gst ?_); refine wT hA ?_; clear hF hA; intro w1 hA hF; (try simp only [uY] at hA hF)) | ((with_reducible refine gbx ?_); refine wC hA ?_; clear hF hA; intro b1 w1 hA hb1 hF; (try simp only [uY] at hA hF)))
 refine (had_1 _).mono ?_
 rintro e w1 ⟨rfl, hx⟩
 have hB := hA.ext hx
 clear hF hA hx; have hA := hB; clear hB
 have hF := hA.facts; (try simp only [uY] at hA hF)
 go_wp2_with (first | ((with_reducible refine gal ?_); refine wG 137 [.bool false, .bool false, .bool false, .bool false, .bool false, .bool false] hA ?_; clear hF hA; intro bH w1 hA hbH hF; (try simp only [uY] at hA hF)) | ((with_reducible refine gst ?_); refine wT hA ?_; clear hF hA; intro w1 hA hF; (try simp only [uY] at hA hF)) | ((with_reducible refine gbx ?_); refine wC hA ?_; clear hF hA; intro b1 w1 hA hb1 hF; (try simp only [uY] at hA hF)))
 refine (hrc _).mono ?_
 rintro e w1 ⟨rfl, hx⟩
 have hB := hA.ext hx
 clear hF hA hx; have hA := hB; clear hB
 have hF := hA.facts; (try simp only [uY] at hA hF)
 cases rc
 · go_wp2_with (first | ((with_reducible refine gst ?_); refine wT hA ?_; clear hF hA; intro w1 hA hF; (try simp only [uY] at hA hF)) | ((with_reducible refine gbx ?_); refine wC hA ?_; clear hF hA; intro b1 w1 hA hb1 hF; (try simp only [uY] at hA hF)))
   refine bodyPost_ret (v := .tuple #[.string ⟨#[]⟩, .bool false]) (by simp [results, Tryz.results59, go_sem, hF]) rfl ⟨rfl, hA.toExt⟩
 · go_wp2_with (first | ((with_reducible refine gst ?_); refine wT hA ?_; clear hF hA; intro w1 hA hF; (try simp only [uY] at hA hF)) | ((with_reducible refine gbx ?_); refine wC hA ?_; clear hF hA; intro b1 w1 hA hb1 hF; (try simp only [uY] at hA hF)))
   try go_frame
   refine cl0 hA ?_; clear hF hA; intro w1 hA hF; (try simp only [uY] at hA hF)
   go_wp2_with (first | ((with_reducible refine gst ?_); refine wT hA ?_; clear hF hA; intro w1 hA hF; (try simp only [uY] at hA hF)) | ((with_reducible refine gbx ?_); refine wC hA ?_; clear hF hA; intro b1 w1 hA hb1 hF; (try simp only [uY] at hA hF)))
   refine bodyPost_ret (v := .tuple #[.string foot, .bool true]) (by simp [results, Tryz.results59, go_sem, hF]) rfl ⟨rfl, hA.toExt⟩
theorem foot_2 (num : Int) (foot : ByteArray) (req : Int) (path : ByteArray) (mode n time : Int) (w : World) {rc : Bool} (hrc : ∀ w, Calls Tryz.prog 84 #[.agg #[.int .i64 2, .int .u64 num, .string foot, .int .u64 req, .string path, .int .i64 mode, .int .u64 n, .int .i64 time]] w fun e w' => e = .returned (.bool rc) ∧ Ext w w') :
 Calls Tryz.prog 59 #[.agg #[.int .i64 2, .int .u64 num, .string foot, .int .u64 req, .string path, .int .i64 mode, .int .u64 n, .int .i64 time]] w fun e w' => e = .returned (.tuple #[.string (if rc then foot else .empty), .bool (rc && true)]) ∧ Ext w w' := by
 have hA : At [] w [] w := At.start (L0 := []) trivial
 have hF := hA.facts; (try simp only [uY] at hA hF)
 go_enter Tryz.func59, Tryz.ntmps59
 go_wp2_with (first | ((with_reducible refine gbx ?_); refine wC (E := 27) hA ?_; clear hF hA; intro bX w1 hA hbX hF; (try simp only [uY] at hA hF)) | ((with_reducible refine gst ?_); refine wT hA ?_; clear hF hA; intro w1 hA hF; (try simp only [uY] at hA hF)) | ((with_reducible refine gbx ?_); refine wC hA ?_; clear hF hA; intro b1 w1 hA hb1 hF; (try simp only [uY] at hA hF)))
 refine (had_2 _).mono ?_
 rintro e w1 ⟨rfl, hx⟩
 have hB := hA.ext hx
 clear hF hA hx; have hA := hB; clear hB
 have hF := hA.facts; (try simp only [uY] at hA hF)
 go_wp2_with (first | ((with_reducible refine gal ?_); refine wG 137 [.bool false, .bool false, .bool false, .bool false, .bool false, .bool false] hA ?_; clear hF hA; intro bH w1 hA hbH hF; (try simp only [uY] at hA hF)) | ((with_reducible refine gst ?_); refine wT hA ?_; clear hF hA; intro w1 hA hF; (try simp only [uY] at hA hF)) | ((with_reducible refine gbx ?_); refine wC hA ?_; clear hF hA; intro b1 w1 hA hb1 hF; (try simp only [uY] at hA hF)))
 refine (hrc _).mono ?_
 rintro e w1 ⟨rfl, hx⟩
 have hB := hA.ext hx
 clear hF hA hx; have hA := hB; clear hB
 have hF := hA.facts; (try simp only [uY] at hA hF)
 cases rc
 · go_wp2_with (first | ((with_reducible refine gst ?_); refine wT hA ?_; clear hF hA; intro w1 hA hF; (try simp only [uY] at hA hF)) | ((with_reducible refine gbx ?_); refine wC hA ?_; clear hF hA; intro b1 w1 hA hb1 hF; (try simp only [uY] at hA hF)))
   refine bodyPost_ret (v := .tuple #[.string ⟨#[]⟩, .bool false]) (by simp [results, Tryz.results59, go_sem, hF]) rfl ⟨rfl, hA.toExt⟩
 · go_wp2_with (first | ((with_reducible refine gst ?_); refine wT hA ?_; clear hF hA; intro w1 hA hF; (try simp only [uY] at hA hF)) | ((with_reducible refine gbx ?_); refine wC hA ?_; clear hF hA; intro b1 w1 hA hb1 hF; (try simp only [uY] at hA hF)))
   try go_frame
   refine cl0 hA ?_; clear hF hA; intro w1 hA hF; (try simp only [uY] at hA hF)
   go_wp2_with (first | ((with_reducible refine gst ?_); refine wT hA ?_; clear hF hA; intro w1 hA hF; (try simp only [uY] at hA hF)) | ((with_reducible refine gbx ?_); refine wC hA ?_; clear hF hA; intro b1 w1 hA hb1 hF; (try simp only [uY] at hA hF)))
   refine bodyPost_ret (v := .tuple #[.string foot, .bool true]) (by simp [results, Tryz.results59, go_sem, hF]) rfl ⟨rfl, hA.toExt⟩
theorem foot_3 (num : Int) (foot : ByteArray) (req : Int) (path : ByteArray) (mode n time : Int) (w : World) {rc : Bool} (hrc : ∀ w, Calls Tryz.prog 84 #[.agg #[.int .i64 3, .int .u64 num, .string foot, .int .u64 req, .string path, .int .i64 mode, .int .u64 n, .int .i64 time]] w fun e w' => e = .returned (.bool rc) ∧ Ext w w') :
 Calls Tryz.prog 59 #[.agg #[.int .i64 3, .int .u64 num, .string foot, .int .u64 req, .string path, .int .i64 mode, .int .u64 n, .int .i64 time]] w fun e w' => e = .returned (.tuple #[.string (if rc then foot else .empty), .bool (rc && true)]) ∧ Ext w w' := by
 have hA : At [] w [] w := At.start (L0 := []) trivial
 have hF := hA.facts; (try simp only [uY] at hA hF)
 go_enter Tryz.func59, Tryz.ntmps59
 go_wp2_with (first | ((with_reducible refine gbx ?_); refine wC (E := 27) hA ?_; clear hF hA; intro bX w1 hA hbX hF; (try simp only [uY] at hA hF)) | ((with_reducible refine gst ?_); refine wT hA ?_; clear hF hA; intro w1 hA hF; (try simp only [uY] at hA hF)) | ((with_reducible refine gbx ?_); refine wC hA ?_; clear hF hA; intro b1 w1 hA hb1 hF; (try simp only [uY] at hA hF)))
 refine (had_3 _).mono ?_
 rintro e w1 ⟨rfl, hx⟩
 have hB := hA.ext hx
 clear hF hA hx; have hA := hB; clear hB
 have hF := hA.facts; (try simp only [uY] at hA hF)
 go_wp2_with (first | ((with_reducible refine gal ?_); refine wG 137 [.bool false, .bool false, .bool false, .bool false, .bool false, .bool false] hA ?_; clear hF hA; intro bH w1 hA hbH hF; (try simp only [uY] at hA hF)) | ((with_reducible refine gst ?_); refine wT hA ?_; clear hF hA; intro w1 hA hF; (try simp only [uY] at hA hF)) | ((with_reducible refine gbx ?_); refine wC hA ?_; clear hF hA; intro b1 w1 hA hb1 hF; (try simp only [uY] at hA hF)))
 refine (hrc _).mono ?_
 rintro e w1 ⟨rfl, hx⟩
 have hB := hA.ext hx
 clear hF hA hx; have hA := hB; clear hB
 have hF := hA.facts; (try simp only [uY] at hA hF)
 cases rc
 · go_wp2_with (first | ((with_reducible refine gst ?_); refine wT hA ?_; clear hF hA; intro w1 hA hF; (try simp only [uY] at hA hF)) | ((with_reducible refine gbx ?_); refine wC hA ?_; clear hF hA; intro b1 w1 hA hb1 hF; (try simp only [uY] at hA hF)))
   refine bodyPost_ret (v := .tuple #[.string ⟨#[]⟩, .bool false]) (by simp [results, Tryz.results59, go_sem, hF]) rfl ⟨rfl, hA.toExt⟩
 · go_wp2_with (first | ((with_reducible refine gst ?_); refine wT hA ?_; clear hF hA; intro w1 hA hF; (try simp only [uY] at hA hF)) | ((with_reducible refine gbx ?_); refine wC hA ?_; clear hF hA; intro b1 w1 hA hb1 hF; (try simp only [uY] at hA hF)))
   try go_frame
   refine cl0 hA ?_; clear hF hA; intro w1 hA hF; (try simp only [uY] at hA hF)
   go_wp2_with (first | ((with_reducible refine gst ?_); refine wT hA ?_; clear hF hA; intro w1 hA hF; (try simp only [uY] at hA hF)) | ((with_reducible refine gbx ?_); refine wC hA ?_; clear hF hA; intro b1 w1 hA hb1 hF; (try simp only [uY] at hA hF)))
   refine bodyPost_ret (v := .tuple #[.string foot, .bool true]) (by simp [results, Tryz.results59, go_sem, hF]) rfl ⟨rfl, hA.toExt⟩
theorem foot_4 (num : Int) (foot : ByteArray) (req : Int) (path : ByteArray) (mode n time : Int) (w : World) {rc : Bool} (hrc : ∀ w, Calls Tryz.prog 84 #[.agg #[.int .i64 4, .int .u64 num, .string foot, .int .u64 req, .string path, .int .i64 mode, .int .u64 n, .int .i64 time]] w fun e w' => e = .returned (.bool rc) ∧ Ext w w') :
 Calls Tryz.prog 59 #[.agg #[.int .i64 4, .int .u64 num, .string foot, .int .u64 req, .string path, .int .i64 mode, .int .u64 n, .int .i64 time]] w fun e w' => e = .returned (.tuple #[.string (if rc then path else .empty), .bool (rc && true)]) ∧ Ext w w' := by
 have hA : At [] w [] w := At.start (L0 := []) trivial
 have hF := hA.facts; (try simp only [uY] at hA hF)
 go_enter Tryz.func59, Tryz.ntmps59
 go_wp2_with (first | ((with_reducible refine gbx ?_); refine wC (E := 27) hA ?_; clear hF hA; intro bX w1 hA hbX hF; (try simp only [uY] at hA hF)) | ((with_reducible refine gst ?_); refine wT hA ?_; clear hF hA; intro w1 hA hF; (try simp only [uY] at hA hF)) | ((with_reducible refine gbx ?_); refine wC hA ?_; clear hF hA; intro b1 w1 hA hb1 hF; (try simp only [uY] at hA hF)))
 refine (had_4 _).mono ?_
 rintro e w1 ⟨rfl, hx⟩
 have hB := hA.ext hx
 clear hF hA hx; have hA := hB; clear hB
 have hF := hA.facts; (try simp only [uY] at hA hF)
 go_wp2_with (first | ((with_reducible refine gal ?_); refine wG 137 [.bool false, .bool false, .bool false, .bool false, .bool false, .bool false] hA ?_; clear hF hA; intro bH w1 hA hbH hF; (try simp only [uY] at hA hF)) | ((with_reducible refine gst ?_); refine wT hA ?_; clear hF hA; intro w1 hA hF; (try simp only [uY] at hA hF)) | ((with_reducible refine gbx ?_); refine wC hA ?_; clear hF hA; intro b1 w1 hA hb1 hF; (try simp only [uY] at hA hF)))
 refine (hrc _).mono ?_
 rintro e w1 ⟨rfl, hx⟩
 have hB := hA.ext hx
 clear hF hA hx; have hA := hB; clear hB
 have hF := hA.facts; (try simp only [uY] at hA hF)
 cases rc
 · go_wp2_with (first | ((with_reducible refine gst ?_); refine wT hA ?_; clear hF hA; intro w1 hA hF; (try simp only [uY] at hA hF)) | ((with_reducible refine gbx ?_); refine wC hA ?_; clear hF hA; intro b1 w1 hA hb1 hF; (try simp only [uY] at hA hF)))
   refine bodyPost_ret (v := .tuple #[.string ⟨#[]⟩, .bool false]) (by simp [results, Tryz.results59, go_sem, hF]) rfl ⟨rfl, hA.toExt⟩
 · go_wp2_with (first | ((with_reducible refine gst ?_); refine wT hA ?_; clear hF hA; intro w1 hA hF; (try simp only [uY] at hA hF)) | ((with_reducible refine gbx ?_); refine wC hA ?_; clear hF hA; intro b1 w1 hA hb1 hF; (try simp only [uY] at hA hF)))
   refine bodyPost_ret (v := .tuple #[.string path, .bool true]) (by simp [results, Tryz.results59, go_sem, hF]) rfl ⟨rfl, hA.toExt⟩
theorem foot_5 (num : Int) (foot : ByteArray) (req : Int) (path : ByteArray) (mode n time : Int) (w : World) {rc : Bool} (hrc : ∀ w, Calls Tryz.prog 84 #[.agg #[.int .i64 5, .int .u64 num, .string foot, .int .u64 req, .string path, .int .i64 mode, .int .u64 n, .int .i64 time]] w fun e w' => e = .returned (.bool rc) ∧ Ext w w') :
 Calls Tryz.prog 59 #[.agg #[.int .i64 5, .int .u64 num, .string foot, .int .u64 req, .string path, .int .i64 mode, .int .u64 n, .int .i64 time]] w fun e w' => e = .returned (.tuple #[.string (if rc then path else .empty), .bool (rc && true)]) ∧ Ext w w' := by
 have hA : At [] w [] w := At.start (L0 := []) trivial
 have hF := hA.facts; (try simp only [uY] at hA hF)
 go_enter Tryz.func59, Tryz.ntmps59
 go_wp2_with (first | ((with_reducible refine gbx ?_); refine wC (E := 27) hA ?_; clear hF hA; intro bX w1 hA hbX hF; (try simp only [uY] at hA hF)) | ((with_reducible refine gst ?_); refine wT hA ?_; clear hF hA; intro w1 hA hF; (try simp only [uY] at hA hF)) | ((with_reducible refine gbx ?_); refine wC hA ?_; clear hF hA; intro b1 w1 hA hb1 hF; (try simp only [uY] at hA hF)))
 refine (had_5 _).mono ?_
 rintro e w1 ⟨rfl, hx⟩
 have hB := hA.ext hx
 clear hF hA hx; have hA := hB; clear hB
 have hF := hA.facts; (try simp only [uY] at hA hF)
 go_wp2_with (first | ((with_reducible refine gal ?_); refine wG 137 [.bool false, .bool false, .bool false, .bool false, .bool false, .bool false] hA ?_; clear hF hA; intro bH w1 hA hbH hF; (try simp only [uY] at hA hF)) | ((with_reducible refine gst ?_); refine wT hA ?_; clear hF hA; intro w1 hA hF; (try simp only [uY] at hA hF)) | ((with_reducible refine gbx ?_); refine wC hA ?_; clear hF hA; intro b1 w1 hA hb1 hF; (try simp only [uY] at hA hF)))
 refine (hrc _).mono ?_
 rintro e w1 ⟨rfl, hx⟩
 have hB := hA.ext hx
 clear hF hA hx; have hA := hB; clear hB
 have hF := hA.facts; (try simp only [uY] at hA hF)
 cases rc
 · go_wp2_with (first | ((with_reducible refine gst ?_); refine wT hA ?_; clear hF hA; intro w1 hA hF; (try simp only [uY] at hA hF)) | ((with_reducible refine gbx ?_); refine wC hA ?_; clear hF hA; intro b1 w1 hA hb1 hF; (try simp only [uY] at hA hF)))
   refine bodyPost_ret (v := .tuple #[.string ⟨#[]⟩, .bool false]) (by simp [results, Tryz.results59, go_sem, hF]) rfl ⟨rfl, hA.toExt⟩
 · go_wp2_with (first | ((with_reducible refine gst ?_); refine wT hA ?_; clear hF hA; intro w1 hA hF; (try simp only [uY] at hA hF)) | ((with_reducible refine gbx ?_); refine wC hA ?_; clear hF hA; intro b1 w1 hA hb1 hF; (try simp only [uY] at hA hF)))
   refine bodyPost_ret (v := .tuple #[.string path, .bool true]) (by simp [results, Tryz.results59, go_sem, hF]) rfl ⟨rfl, hA.toExt⟩
theorem foot_6 (num : Int) (foot : ByteArray) (req : Int) (path : ByteArray) (mode n time : Int) (w : World) {rc : Bool} (hrc : ∀ w, Calls Tryz.prog 84 #[.agg #[.int .i64 6, .int .u64 num, .string foot, .int .u64 req, .string path, .int .i64 mode, .int .u64 n, .int .i64 time]] w fun e w' => e = .returned (.bool rc) ∧ Ext w w') :
 Calls Tryz.prog 59 #[.agg #[.int .i64 6, .int .u64 num, .string foot, .int .u64 req, .string path, .int .i64 mode, .int .u64 n, .int .i64 time]] w fun e w' => e = .returned (.tuple #[.string (if rc then path else .empty), .bool (rc && true)]) ∧ Ext w w' := by
 have hA : At [] w [] w := At.start (L0 := []) trivial
 have hF := hA.facts; (try simp only [uY] at hA hF)
 go_enter Tryz.func59, Tryz.ntmps59
 go_wp2_with (first | ((with_reducible refine gbx ?_); refine wC (E := 27) hA ?_; clear hF hA; intro bX w1 hA hbX hF; (try simp only [uY] at hA hF)) | ((with_reducible refine gst ?_); refine wT hA ?_; clear hF hA; intro w1 hA hF; (try simp only [uY] at hA hF)) | ((with_reducible refine gbx ?_); refine wC hA ?_; clear hF hA; intro b1 w1 hA hb1 hF; (try simp only [uY] at hA hF)))
 refine (had_6 _).mono ?_
 rintro e w1 ⟨rfl, hx⟩
 have hB := hA.ext hx
 clear hF hA hx; have hA := hB; clear hB
 have hF := hA.facts; (try simp only [uY] at hA hF)
 go_wp2_with (first | ((with_reducible refine gal ?_); refine wG 137 [.bool false, .bool false, .bool false, .bool false, .bool false, .bool false] hA ?_; clear hF hA; intro bH w1 hA hbH hF; (try simp only [uY] at hA hF)) | ((with_reducible refine gst ?_); refine wT hA ?_; clear hF hA; intro w1 hA hF; (try simp only [uY] at hA hF)) | ((with_reducible refine gbx ?_); refine wC hA ?_; clear hF hA; intro b1 w1 hA hb1 hF; (try simp only [uY] at hA hF)))
 refine (hrc _).mono ?_
 rintro e w1 ⟨rfl, hx⟩
 have hB := hA.ext hx
 clear hF hA hx; have hA := hB; clear hB
 have hF := hA.facts; (try simp only [uY] at hA hF)
 cases rc
 · go_wp2_with (first | ((with_reducible refine gst ?_); refine wT hA ?_; clear hF hA; intro w1 hA hF; (try simp only [uY] at hA hF)) | ((with_reducible refine gbx ?_); refine wC hA ?_; clear hF hA; intro b1 w1 hA hb1 hF; (try simp only [uY] at hA hF)))
   refine bodyPost_ret (v := .tuple #[.string ⟨#[]⟩, .bool false]) (by simp [results, Tryz.results59, go_sem, hF]) rfl ⟨rfl, hA.toExt⟩
 · go_wp2_with (first | ((with_reducible refine gst ?_); refine wT hA ?_; clear hF hA; intro w1 hA hF; (try simp only [uY] at hA hF)) | ((with_reducible refine gbx ?_); refine wC hA ?_; clear hF hA; intro b1 w1 hA hb1 hF; (try simp only [uY] at hA hF)))
   refine bodyPost_ret (v := .tuple #[.string path, .bool true]) (by simp [results, Tryz.results59, go_sem, hF]) rfl ⟨rfl, hA.toExt⟩
theorem foot_7 (num : Int) (foot : ByteArray) (req : Int) (path : ByteArray) (mode n time : Int) (w : World) {rc : Bool} (hrc : ∀ w, Calls Tryz.prog 84 #[.agg #[.int .i64 7, .int .u64 num, .string foot, .int .u64 req, .string path, .int .i64 mode, .int .u64 n, .int .i64 time]] w fun e w' => e = .returned (.bool rc) ∧ Ext w w') :
 Calls Tryz.prog 59 #[.agg #[.int .i64 7, .int .u64 num, .string foot, .int .u64 req, .string path, .int .i64 mode, .int .u64 n, .int .i64 time]] w fun e w' => e = .returned (.tuple #[.string (if rc then path else .empty), .bool (rc && true)]) ∧ Ext w w' := by
 have hA : At [] w [] w := At.start (L0 := []) trivial
 have hF := hA.facts; (try simp only [uY] at hA hF)
 go_enter Tryz.func59, Tryz.ntmps59
 go_wp2_with (first | ((with_reducible refine gbx ?_); refine wC (E := 27) hA ?_; clear hF hA; intro bX w1 hA hbX hF; (try simp only [uY] at hA hF)) | ((with_reducible refine gst ?_); refine wT hA ?_; clear hF hA; intro w1 hA hF; (try simp only [uY] at hA hF)) | ((with_reducible refine gbx ?_); refine wC hA ?_; clear hF hA; intro b1 w1 hA hb1 hF; (try simp only [uY] at hA hF)))
 refine (had_7 _).mono ?_
 rintro e w1 ⟨rfl, hx⟩
 have hB := hA.ext hx
 clear hF hA hx; have hA := hB; clear hB
 have hF := hA.facts; (try simp only [uY] at hA hF)
 go_wp2_with (first | ((with_reducible refine gal ?_); refine wG 137 [.bool false, .bool false, .bool false, .bool false, .bool false, .bool false] hA ?_; clear hF hA; intro bH w1 hA hbH hF; (try simp only [uY] at hA hF)) | ((with_reducible refine gst ?_); refine wT hA ?_; clear hF hA; intro w1 hA hF; (try simp only [uY] at hA hF)) | ((with_reducible refine gbx ?_); refine wC hA ?_; clear hF hA; intro b1 w1 hA hb1 hF; (try simp only [uY] at hA hF)))
 refine (hrc _).mono ?_
 rintro e w1 ⟨rfl, hx⟩
 have hB := hA.ext hx
 clear hF hA hx; have hA := hB; clear hB
 have hF := hA.facts; (try simp only [uY] at hA hF)
 cases rc
 · go_wp2_with (first | ((with_reducible refine gst ?_); refine wT hA ?_; clear hF hA; intro w1 hA hF; (try simp only [uY] at hA hF)) | ((with_reducible refine gbx ?_); refine wC hA ?_; clear hF hA; intro b1 w1 hA hb1 hF; (try simp only [uY] at hA hF)))
   refine bodyPost_ret (v := .tuple #[.string ⟨#[]⟩, .bool false]) (by simp [results, Tryz.results59, go_sem, hF]) rfl ⟨rfl, hA.toExt⟩
 · go_wp2_with (first | ((with_reducible refine gst ?_); refine wT hA ?_; clear hF hA; intro w1 hA hF; (try simp only [uY] at hA hF)) | ((with_reducible refine gbx ?_); refine wC hA ?_; clear hF hA; intro b1 w1 hA hb1 hF; (try simp only [uY] at hA hF)))
   refine bodyPost_ret (v := .tuple #[.string path, .bool true]) (by simp [results, Tryz.results59, go_sem, hF]) rfl ⟨rfl, hA.toExt⟩
theorem foot_8 (num : Int) (foot : ByteArray) (req : Int) (path : ByteArray) (mode n time : Int) (w : World) {rc : Bool} (hrc : ∀ w, Calls Tryz.prog 84 #[.agg #[.int .i64 8, .int .u64 num, .string foot, .int .u64 req, .string path, .int .i64 mode, .int .u64 n, .int .i64 time]] w fun e w' => e = .returned (.bool rc) ∧ Ext w w') :
 Calls Tryz.prog 59 #[.agg #[.int .i64 8, .int .u64 num, .string foot, .int .u64 req, .string path, .int .i64 mode, .int .u64 n, .int .i64 time]] w fun e w' => e = .returned (.tuple #[.string (if rc then foot else .empty), .bool (rc && true)]) ∧ Ext w w' := by
 have hA : At [] w [] w := At.start (L0 := []) trivial
 have hF := hA.facts; (try simp only [uY] at hA hF)
 go_enter Tryz.func59, Tryz.ntmps59
 go_wp2_with (first | ((with_reducible refine gbx ?_); refine wC (E := 27) hA ?_; clear hF hA; intro bX w1 hA hbX hF; (try simp only [uY] at hA hF)) | ((with_reducible refine gst ?_); refine wT hA ?_; clear hF hA; intro w1 hA hF; (try simp only [uY] at hA hF)) | ((with_reducible refine gbx ?_); refine wC hA ?_; clear hF hA; intro b1 w1 hA hb1 hF; (try simp only [uY] at hA hF)))
 refine (had_8 _).mono ?_
 rintro e w1 ⟨rfl, hx⟩
 have hB := hA.ext hx
 clear hF hA hx; have hA := hB; clear hB
 have hF := hA.facts; (try simp only [uY] at hA hF)
 go_wp2_with (first | ((with_reducible refine gal ?_); refine wG 137 [.bool false, .bool false, .bool false, .bool false, .bool false, .bool false] hA ?_; clear hF hA; intro bH w1 hA hbH hF; (try simp only [uY] at hA hF)) | ((with_reducible refine gst ?_); refine wT hA ?_; clear hF hA; intro w1 hA hF; (try simp only [uY] at hA hF)) | ((with_reducible refine gbx ?_); refine wC hA ?_; clear hF hA; intro b1 w1 hA hb1 hF; (try simp only [uY] at hA hF)))
 refine (hrc _).mono ?_
 rintro e w1 ⟨rfl, hx⟩
 have hB := hA.ext hx
 clear hF hA hx; have hA := hB; clear hB
 have hF := hA.facts; (try simp only [uY] at hA hF)
 cases rc
 · go_wp2_with (first | ((with_reducible refine gst ?_); refine wT hA ?_; clear hF hA; intro w1 hA hF; (try simp only [uY] at hA hF)) | ((with_reducible refine gbx ?_); refine wC hA ?_; clear hF hA; intro b1 w1 hA hb1 hF; (try simp only [uY] at hA hF)))
   refine bodyPost_ret (v := .tuple #[.string ⟨#[]⟩, .bool false]) (by simp [results, Tryz.results59, go_sem, hF]) rfl ⟨rfl, hA.toExt⟩
 · go_wp2_with (first | ((with_reducible refine gst ?_); refine wT hA ?_; clear hF hA; intro w1 hA hF; (try simp only [uY] at hA hF)) | ((with_reducible refine gbx ?_); refine wC hA ?_; clear hF hA; intro b1 w1 hA hb1 hF; (try simp only [uY] at hA hF)))
   try go_frame
   refine cl0 hA ?_; clear hF hA; intro w1 hA hF; (try simp only [uY] at hA hF)
   go_wp2_with (first | ((with_reducible refine gst ?_); refine wT hA ?_; clear hF hA; intro w1 hA hF; (try simp only [uY] at hA hF)) | ((with_reducible refine gbx ?_); refine wC hA ?_; clear hF hA; intro b1 w1 hA hb1 hF; (try simp only [uY] at hA hF)))
   refine bodyPost_ret (v := .tuple #[.string foot, .bool true]) (by simp [results, Tryz.results59, go_sem, hF]) rfl ⟨rfl, hA.toExt⟩
theorem foot_no (c : Cm) (hk : hasOf c.kind = none) (w : World) : Calls Tryz.prog 59 #[c.val] w fun e w' => e = .returned (.tuple #[.string .empty, .bool false]) ∧ Ext w w' := by
 have hA : At [] w [] w := At.start (L0 := []) trivial
 have hF := hA.facts
 have hno := fun w => had_no c.kind hk w
 have hrc := fun w => right_no c hk w
 clear hk
 obtain ⟨kind, num, foot, req, path, mode, n, time⟩ := c
 simp only [Cm.val] at *
 have hF := hA.facts; (try simp only [uY] at hA hF)
 go_enter Tryz.func59, Tryz.ntmps59
 go_wp2_with (first | ((with_reducible refine gbx ?_); refine wC (E := 27) hA ?_; clear hF hA; intro bX w1 hA hbX hF; (try simp only [uY] at hA hF)) | ((with_reducible refine gst ?_); refine wT hA ?_; clear hF hA; intro w1 hA hF; (try simp only [uY] at hA hF)) | ((with_reducible refine gbx ?_); refine wC hA ?_; clear hF hA; intro b1 w1 hA hb1 hF; (try simp only [uY] at hA hF)))
 refine (hno _).mono ?_
 clear hno
 rintro e w1 ⟨rfl, hx⟩
 have hB := hA.ext hx
 clear hF hA hx; have hA := hB; clear hB
 have hF := hA.facts; (try simp only [uY] at hA hF)
 go_wp2_with (first | ((with_reducible refine gal ?_); refine wG 137 [.bool false, .bool false, .bool false, .bool false, .bool false, .bool false] hA ?_; clear hF hA; intro bH w1 hA hbH hF; (try simp only [uY] at hA hF)) | ((with_reducible refine gst ?_); refine wT hA ?_; clear hF hA; intro w1 hA hF; (try simp only [uY] at hA hF)) | ((with_reducible refine gbx ?_); refine wC hA ?_; clear hF hA; intro b1 w1 hA hb1 hF; (try simp only [uY] at hA hF)))
 refine (hrc _).mono ?_
 clear hrc
 rintro e w1 ⟨rfl, hx⟩
 have hB := hA.ext hx
 clear hF hA hx; have hA := hB; clear hB
 have hF := hA.facts; (try simp only [uY] at hA hF)
 go_wp2_with (first | ((with_reducible refine gst ?_); refine wT hA ?_; clear hF hA; intro w1 hA hF; (try simp only [uY] at hA hF)) | ((with_reducible refine gbx ?_); refine wC hA ?_; clear hF hA; intro b1 w1 hA hb1 hF; (try simp only [uY] at hA hF)))
 refine bodyPost_ret (v := .tuple #[.string ⟨#[]⟩, .bool false]) (by simp [results, Tryz.results59, go_sem, hF]) rfl ⟨rfl, hA.toExt⟩
theorem foot_any (c : Cm) (w : World) (hf : c.foot.size ≤ 1000) (hp : c.path.size ≤ 1000) : Calls Tryz.prog 59 #[c.val] w fun e w' => e = .returned (.tuple #[.string (footC c).1, .bool (footC c).2]) ∧ Ext w w' := by
 have hrc := fun w => right_any c w hf hp
 obtain ⟨kind, num, foot, req, path, mode, n, time⟩ := c
 by_cases h0 : kind = 0
 · subst h0
   have := foot_0 num foot req path mode n time w hrc
   have e : footC ⟨0, num, foot, req, path, mode, n, time⟩ = (if rightC ⟨0, num, foot, req, path, mode, n, time⟩ then (foot, false) else (.empty, false)) := rfl
   rw [e]
   cases hr : rightC ⟨0, num, foot, req, path, mode, n, time⟩
   · rw [hr] at this; exact this
   · rw [hr] at this; exact this
 by_cases h1 : kind = 1
 · subst h1
   have := foot_1 num foot req path mode n time w hrc
   have e : footC ⟨1, num, foot, req, path, mode, n, time⟩ = (if rightC ⟨1, num, foot, req, path, mode, n, time⟩ then (foot, true) else (.empty, false)) := rfl
   rw [e]
   cases hr : rightC ⟨1, num, foot, req, path, mode, n, time⟩
   · rw [hr] at this; exact this
   · rw [hr] at this; exact this
 by_cases h2 : kind = 2
 · subst h2
   have := foot_2 num foot req path mode n time w hrc
   have e : footC ⟨2, num, foot, req, path, mode, n, time⟩ = (if rightC ⟨2, num, foot, req, path, mode, n, time⟩ then (foot, true) else (.empty, false)) := rfl
   rw [e]
   cases hr : rightC ⟨2, num, foot, req, path, mode, n, time⟩
   · rw [hr] at this; exact this
   · rw [hr] at this; exact this
 by_cases h3 : kind = 3
 · subst h3
   have := foot_3 num foot req path mode n time w hrc
   have e : footC ⟨3, num, foot, req, path, mode, n, time⟩ = (if rightC ⟨3, num, foot, req, path, mode, n, time⟩ then (foot, true) else (.empty, false)) := rfl
   rw [e]
   cases hr : rightC ⟨3, num, foot, req, path, mode, n, time⟩
   · rw [hr] at this; exact this
   · rw [hr] at this; exact this
 by_cases h4 : kind = 4
 · subst h4
   have := foot_4 num foot req path mode n time w hrc
   have e : footC ⟨4, num, foot, req, path, mode, n, time⟩ = (if rightC ⟨4, num, foot, req, path, mode, n, time⟩ then (path, true) else (.empty, false)) := rfl
   rw [e]
   cases hr : rightC ⟨4, num, foot, req, path, mode, n, time⟩
   · rw [hr] at this; exact this
   · rw [hr] at this; exact this
 by_cases h5 : kind = 5
 · subst h5
   have := foot_5 num foot req path mode n time w hrc
   have e : footC ⟨5, num, foot, req, path, mode, n, time⟩ = (if rightC ⟨5, num, foot, req, path, mode, n, time⟩ then (path, true) else (.empty, false)) := rfl
   rw [e]
   cases hr : rightC ⟨5, num, foot, req, path, mode, n, time⟩
   · rw [hr] at this; exact this
   · rw [hr] at this; exact this
 by_cases h6 : kind = 6
 · subst h6
   have := foot_6 num foot req path mode n time w hrc
   have e : footC ⟨6, num, foot, req, path, mode, n, time⟩ = (if rightC ⟨6, num, foot, req, path, mode, n, time⟩ then (path, true) else (.empty, false)) := rfl
   rw [e]
   cases hr : rightC ⟨6, num, foot, req, path, mode, n, time⟩
   · rw [hr] at this; exact this
   · rw [hr] at this; exact this
 by_cases h7 : kind = 7
 · subst h7
   have := foot_7 num foot req path mode n time w hrc
   have e : footC ⟨7, num, foot, req, path, mode, n, time⟩ = (if rightC ⟨7, num, foot, req, path, mode, n, time⟩ then (path, true) else (.empty, false)) := rfl
   rw [e]
   cases hr : rightC ⟨7, num, foot, req, path, mode, n, time⟩
   · rw [hr] at this; exact this
   · rw [hr] at this; exact this
 by_cases h8 : kind = 8
 · subst h8
   have := foot_8 num foot req path mode n time w hrc
   have e : footC ⟨8, num, foot, req, path, mode, n, time⟩ = (if rightC ⟨8, num, foot, req, path, mode, n, time⟩ then (foot, true) else (.empty, false)) := rfl
   rw [e]
   cases hr : rightC ⟨8, num, foot, req, path, mode, n, time⟩
   · rw [hr] at this; exact this
   · rw [hr] at this; exact this
 have hk : hasOf kind = none := by unfold hasOf; simp [h0, h1, h2, h3, h4, h5, h6, h7, h8]
 have e : footC ⟨kind, num, foot, req, path, mode, n, time⟩ = (.empty, false) := by unfold footC rightC; simp only [hk]; rfl
 rw [e]
 exact foot_no ⟨kind, num, foot, req, path, mode, n, time⟩ hk w
theorem foot_size (c : Cm) (hf : c.foot.size ≤ 1000) (hp : c.path.size ≤ 1000) : (footC c).1.size ≤ 1000 := by
 have he : ByteArray.empty.size ≤ 1000 := by decide
 unfold footC
 split
 · split
   · split
     · exact hp
     · exact hf
   · exact he
 · exact he
theorem of_any (c : Cm) (w : World) (hf : c.foot.size ≤ 1000) (hp : c.path.size ≤ 1000) : Calls Tryz.prog 32 #[c.val] w fun e w' => e = .returned (.tuple #[.agg #[.string (if (footC c).2 then (footC c).1 else .empty), .int .u64 (if (footC c).2 then c.num else 0)], .bool (footC c).2]) ∧ Ext w w' := by
 have hA : At [] w [] w := At.start (L0 := []) trivial
 have hF := hA.facts
 have hfo := fun w => foot_any c w hf hp
 generalize footC c = fc at *
 obtain ⟨fp, fb⟩ := fc
 obtain ⟨kind, num, foot, req, path, mode, n, time⟩ := c
 simp only [Cm.val] at *
 have hF := hA.facts; (try simp only [uY] at hA hF)
 go_enter Tryz.func32, Tryz.ntmps32
 go_wp2_with (first | ((with_reducible refine gbx ?_); refine wC (E := 27) hA ?_; clear hF hA; intro bX w1 hA hbX hF; (try simp only [uY] at hA hF)) | ((with_reducible refine gal ?_); refine wG 37 [.string .empty, .int .u64 0] hA ?_; clear hF hA; intro bK w1 hA hbK hF; (try simp only [uY] at hA hF)) | ((with_reducible refine gst ?_); refine wT hA ?_; clear hF hA; intro w1 hA hF; (try simp only [uY] at hA hF)) | ((with_reducible refine gbx ?_); refine wC hA ?_; clear hF hA; intro b1 w1 hA hb1 hF; (try simp only [uY] at hA hF)))
 refine (hfo _).mono ?_
 clear hfo
 rintro e w1 ⟨rfl, hx⟩
 have hB := hA.ext hx
 clear hF hA hx; have hA := hB; clear hB
 have hF := hA.facts; (try simp only [uY] at hA hF)
 cases fb
 · go_wp2_with (first | ((with_reducible refine gst ?_); refine wT hA ?_; clear hF hA; intro w1 hA hF; (try simp only [uY] at hA hF)) | ((with_reducible refine gbx ?_); refine wC hA ?_; clear hF hA; intro b1 w1 hA hb1 hF; (try simp only [uY] at hA hF)))
   refine bodyPost_ret (v := .tuple #[.agg #[.string ⟨#[]⟩, .int .u64 0], .bool false]) (by simp [results, Tryz.results32, go_sem, hF]) rfl ⟨rfl, hA.toExt⟩
 · go_wp2_with (first | ((with_reducible refine gst ?_); refine wT hA ?_; clear hF hA; intro w1 hA hF; (try simp only [uY] at hA hF)) | ((with_reducible refine gbx ?_); refine wC hA ?_; clear hF hA; intro b1 w1 hA hb1 hF; (try simp only [uY] at hA hF)))
   refine bodyPost_ret (v := .tuple #[.agg #[.string fp, .int .u64 num], .bool true]) (by simp [results, Tryz.results32, go_sem, hF]) rfl ⟨rfl, hA.toExt⟩
theorem clash_any (f : ByteArray) (n : Int) (g : ByteArray) (m : Int) (w : World) (hf : f.size ≤ 1000) (hg : g.size ≤ 1000) : Calls Tryz.prog 34 #[.agg #[.string f, .int .u64 n], .agg #[.string g, .int .u64 m]] w fun e w' => e = .returned (.bool ((n == m) || overB (bl f) (bl g))) ∧ Ext w w' := by
 have hA : At [] w [] w := At.start (L0 := []) trivial
 have hF := hA.facts
 have hov := fun w => Path.overlap_any f g w (by omega) (by omega)
 generalize overB (bl f) (bl g) = ob at *
 obtain ⟨x, hx0⟩ : ∃ x, (n == m) = x := ⟨_, rfl⟩
 rw [hx0]
 have hF := hA.facts; (try simp only [uY] at hA hF)
 cases x
 · go_enter Tryz.func34, Tryz.ntmps34
   go_wp2_with (first | ((with_reducible show wpList _ _ _ ({ dst := some 2, op := Op.box _ _, type := _, pos := _, after := _, guard := _ } :: _) _ _); ((with_reducible refine gbx ?_); refine wH 37 [.string f, .int .u64 n] hA ?_; clear hF hA; intro bA w1 hA hbA hF; (try simp only [uY] at hA hF))) | ((with_reducible show wpList _ _ _ ({ dst := some 3, op := Op.box _ _, type := _, pos := _, after := _, guard := _ } :: _) _ _); ((with_reducible refine gbx ?_); refine wH 37 [.string g, .int .u64 m] hA ?_; clear hF hA; intro bB w1 hA hbB hF; (try simp only [uY] at hA hF))) | ((with_reducible refine gst ?_); refine wT hA ?_; clear hF hA; intro w1 hA hF; (try simp only [uY] at hA hF)) | ((with_reducible refine gbx ?_); refine wC hA ?_; clear hF hA; intro b1 w1 hA hb1 hF; (try simp only [uY] at hA hF)))
   refine (hov _).mono ?_
   clear hov
   rintro e w1 ⟨rfl, hx⟩
   have hB := hA.ext hx
   clear hF hA hx; have hA := hB; clear hB
   have hF := hA.facts; (try simp only [uY] at hA hF)
   go_wp2_with (first | ((with_reducible refine gst ?_); refine wT hA ?_; clear hF hA; intro w1 hA hF; (try simp only [uY] at hA hF)) | ((with_reducible refine gbx ?_); refine wC hA ?_; clear hF hA; intro b1 w1 hA hb1 hF; (try simp only [uY] at hA hF)))
   go_ret
   exact ⟨rfl, hA.toExt⟩
 · go_enter Tryz.func34, Tryz.ntmps34
   go_wp2_with (first | ((with_reducible show wpList _ _ _ ({ dst := some 2, op := Op.box _ _, type := _, pos := _, after := _, guard := _ } :: _) _ _); ((with_reducible refine gbx ?_); refine wH 37 [.string f, .int .u64 n] hA ?_; clear hF hA; intro bA w1 hA hbA hF; (try simp only [uY] at hA hF))) | ((with_reducible show wpList _ _ _ ({ dst := some 3, op := Op.box _ _, type := _, pos := _, after := _, guard := _ } :: _) _ _); ((with_reducible refine gbx ?_); refine wH 37 [.string g, .int .u64 m] hA ?_; clear hF hA; intro bB w1 hA hbB hF; (try simp only [uY] at hA hF))) | ((with_reducible refine gst ?_); refine wT hA ?_; clear hF hA; intro w1 hA hF; (try simp only [uY] at hA hF)) | ((with_reducible refine gbx ?_); refine wC hA ?_; clear hF hA; intro b1 w1 hA hb1 hF; (try simp only [uY] at hA hF)))
   go_ret
   exact ⟨rfl, hA.toExt⟩
end Go.Proofs.YtgbpfgdjnhbcgaaGreatDoor.Cmd
end
