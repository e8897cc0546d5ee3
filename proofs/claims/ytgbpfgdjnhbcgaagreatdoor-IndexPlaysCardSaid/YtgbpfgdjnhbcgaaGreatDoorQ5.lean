/- CmdH, joined. -/
import Derived.Test.YtgbpfgdjnhbcgaaGreatDoorQ4
set_option linter.unusedSimpArgs false
set_option linter.unusedVariables false
set_option maxRecDepth 100000
set_option maxHeartbeats 16000000
section
namespace Go.Proofs.YtgbpfgdjnhbcgaaGreatDoor.Cmd
open Go.RowKit
open Path (bl rightB overB)
attribute [-go_sem] run_eql_struct run_neq_struct run_eqGuard_agg
theorem through0 {L0 L : List Part} {w0 w : World} {P : Program} {f : FuncId} {args : Array Value} {v : Value} (h : At L0 w0 L w) (hc : Calls P f args w fun e w' => e = .returned v ∧ Ext w w') :
 Calls P f args w fun e w' => e = .returned v ∧ At L0 w0 L w' := hc.mono fun e w' ⟨he, hx⟩ => ⟨he, h.ext hx⟩
theorem same_ba (f g : ByteArray) : (f.toList == g.toList) = decide (f = g) := by
 rw [Path.eqB]
 by_cases h : f = g
 · subst h; simp
 · rw [decide_eq_false h, decide_eq_false]
   intro e
   apply h
   unfold bl at e
   have : f.data = g.data := by rw [← Array.toList_inj]; exact e
   cases f; cases g; simp_all
theorem sameCm (x y : Cm) (w : World) : (Go.Op.equalIn 10000 27 x.val y.val).run Tryz.prog w = .ok (decide (x = y)) w := by
 unfold Cm.val
 rw [run_equalIn_agg _ 9999 _ _ _ (by kernel_rfl) (by kernel_rfl)]
 obtain ⟨a1, a2, a3, a4, a5, a6, a7, a8⟩ := x
 obtain ⟨b1, b2, b3, b4, b5, b6, b7, b8⟩ := y
 simp [go_sem, Go.Op.eqFields, same_ba, Cm.mk.injEq]
 repeat' split
 all_goals simp_all
theorem guardCm (op : BinOp) (x y : Operand) (c1 c2 c3 c4 c5 c6 c7 c8 d1 d2 d3 d4 d5 d6 d7 d8 : Value) (w : World) : (eqGuard op 27 x y (.agg #[c1, c2, c3, c4, c5, c6, c7, c8]) (.agg #[d1, d2, d3, d4, d5, d6, d7, d8])).run Tryz.prog w = .ok () w := run_eqGuard_agg _ _ _ _ _ _ _ (by kernel_rfl)
theorem neqCm (x y : Cm) (w : World) : (binOp .neq 27 x.val y.val).run Tryz.prog w = .ok (.bool (!decide (x = y))) w := by
 have := sameCm x y w
 unfold Cm.val at *
 rw [run_neq_struct, this]; rfl
theorem had_0 (w : World) : Calls Tryz.prog 83 #[.int .i64 0] w fun e w' => e = .returned (.tuple #[.agg #[.bool false, .bool false, .bool false, .bool false, .bool false, .bool false], .bool true]) ∧ Ext w w' := by
 have hA : At [] w [] w := At.start (L0 := []) trivial
 have hF := hA.facts; (try simp only [uY] at hA hF)
 go_enter Tryz.func83, Tryz.ntmps83
 go_wp2_with (first | ((with_reducible refine gal ?_); refine wG 137 [.bool false, .bool false, .bool false, .bool false, .bool false, .bool false] hA ?_; clear hF hA; intro bH w1 hA hbH hF; (try simp only [uY] at hA hF)) | ((with_reducible refine gst ?_); refine wT hA ?_; clear hF hA; intro w1 hA hF; (try simp only [uY] at hA hF)) | ((with_reducible refine gbx ?_); refine wC hA ?_; clear hF hA; intro b1 w1 hA hb1 hF; (try simp only [uY] at hA hF)))
 refine bodyPost_ret (v := .tuple #[.agg #[.bool false, .bool false, .bool false, .bool false, .bool false, .bool false], .bool true]) (by simp [results, Tryz.results83, go_sem, hF]) rfl ⟨rfl, hA.toExt⟩
theorem had_1 (w : World) : Calls Tryz.prog 83 #[.int .i64 1] w fun e w' => e = .returned (.tuple #[.agg #[.bool true, .bool true, .bool false, .bool false, .bool true, .bool true], .bool true]) ∧ Ext w w' := by
 have hA : At [] w [] w := At.start (L0 := []) trivial
 have hF := hA.facts; (try simp only [uY] at hA hF)
 go_enter Tryz.func83, Tryz.ntmps83
 go_wp2_with (first | ((with_reducible refine gal ?_); refine wG 137 [.bool false, .bool false, .bool false, .bool false, .bool false, .bool false] hA ?_; clear hF hA; intro bH w1 hA hbH hF; (try simp only [uY] at hA hF)) | ((with_reducible refine gst ?_); refine wT hA ?_; clear hF hA; intro w1 hA hF; (try simp only [uY] at hA hF)) | ((with_reducible refine gbx ?_); refine wC hA ?_; clear hF hA; intro b1 w1 hA hb1 hF; (try simp only [uY] at hA hF)))
 refine bodyPost_ret (v := .tuple #[.agg #[.bool true, .bool true, .bool false, .bool false, .bool true, .bool true], .bool true]) (by simp [results, Tryz.results83, go_sem, hF]) rfl ⟨rfl, hA.toExt⟩
theorem had_2 (w : World) : Calls Tryz.prog 83 #[.int .i64 2] w fun e w' => e = .returned (.tuple #[.agg #[.bool true, .bool true, .bool false, .bool false, .bool false, .bool false], .bool true]) ∧ Ext w w' := by
 have hA : At [] w [] w := At.start (L0 := []) trivial
 have hF := hA.facts; (try simp only [uY] at hA hF)
 go_enter Tryz.func83, Tryz.ntmps83
 go_wp2_with (first | ((with_reducible refine gal ?_); refine wG 137 [.bool false, .bool false, .bool false, .bool false, .bool false, .bool false] hA ?_; clear hF hA; intro bH w1 hA hbH hF; (try simp only [uY] at hA hF)) | ((with_reducible refine gst ?_); refine wT hA ?_; clear hF hA; intro w1 hA hF; (try simp only [uY] at hA hF)) | ((with_reducible refine gbx ?_); refine wC hA ?_; clear hF hA; intro b1 w1 hA hb1 hF; (try simp only [uY] at hA hF)))
 refine bodyPost_ret (v := .tuple #[.agg #[.bool true, .bool true, .bool false, .bool false, .bool false, .bool false], .bool true]) (by simp [results, Tryz.results83, go_sem, hF]) rfl ⟨rfl, hA.toExt⟩
theorem had_3 (w : World) : Calls Tryz.prog 83 #[.int .i64 3] w fun e w' => e = .returned (.tuple #[.agg #[.bool true, .bool true, .bool false, .bool false, .bool false, .bool true], .bool true]) ∧ Ext w w' := by
 have hA : At [] w [] w := At.start (L0 := []) trivial
 have hF := hA.facts; (try simp only [uY] at hA hF)
 go_enter Tryz.func83, Tryz.ntmps83
 go_wp2_with (first | ((with_reducible refine gal ?_); refine wG 137 [.bool false, .bool false, .bool false, .bool false, .bool false, .bool false] hA ?_; clear hF hA; intro bH w1 hA hbH hF; (try simp only [uY] at hA hF)) | ((with_reducible refine gst ?_); refine wT hA ?_; clear hF hA; intro w1 hA hF; (try simp only [uY] at hA hF)) | ((with_reducible refine gbx ?_); refine wC hA ?_; clear hF hA; intro b1 w1 hA hb1 hF; (try simp only [uY] at hA hF)))
 refine bodyPost_ret (v := .tuple #[.agg #[.bool true, .bool true, .bool false, .bool false, .bool false, .bool true], .bool true]) (by simp [results, Tryz.results83, go_sem, hF]) rfl ⟨rfl, hA.toExt⟩
theorem had_4 (w : World) : Calls Tryz.prog 83 #[.int .i64 4] w fun e w' => e = .returned (.tuple #[.agg #[.bool true, .bool true, .bool true, .bool true, .bool false, .bool false], .bool true]) ∧ Ext w w' := by
 have hA : At [] w [] w := At.start (L0 := []) trivial
 have hF := hA.facts; (try simp only [uY] at hA hF)
 go_enter Tryz.func83, Tryz.ntmps83
 go_wp2_with (first | ((with_reducible refine gal ?_); refine wG 137 [.bool false, .bool false, .bool false, .bool false, .bool false, .bool false] hA ?_; clear hF hA; intro bH w1 hA hbH hF; (try simp only [uY] at hA hF)) | ((with_reducible refine gst ?_); refine wT hA ?_; clear hF hA; intro w1 hA hF; (try simp only [uY] at hA hF)) | ((with_reducible refine gbx ?_); refine wC hA ?_; clear hF hA; intro b1 w1 hA hb1 hF; (try simp only [uY] at hA hF)))
 refine bodyPost_ret (v := .tuple #[.agg #[.bool true, .bool true, .bool true, .bool true, .bool false, .bool false], .bool true]) (by simp [results, Tryz.results83, go_sem, hF]) rfl ⟨rfl, hA.toExt⟩
theorem had_5 (w : World) : Calls Tryz.prog 83 #[.int .i64 5] w fun e w' => e = .returned (.tuple #[.agg #[.bool true, .bool true, .bool true, .bool true, .bool false, .bool false], .bool true]) ∧ Ext w w' := by
 have hA : At [] w [] w := At.start (L0 := []) trivial
 have hF := hA.facts; (try simp only [uY] at hA hF)
 go_enter Tryz.func83, Tryz.ntmps83
 go_wp2_with (first | ((with_reducible refine gal ?_); refine wG 137 [.bool false, .bool false, .bool false, .bool false, .bool false, .bool false] hA ?_; clear hF hA; intro bH w1 hA hbH hF; (try simp only [uY] at hA hF)) | ((with_reducible refine gst ?_); refine wT hA ?_; clear hF hA; intro w1 hA hF; (try simp only [uY] at hA hF)) | ((with_reducible refine gbx ?_); refine wC hA ?_; clear hF hA; intro b1 w1 hA hb1 hF; (try simp only [uY] at hA hF)))
 refine bodyPost_ret (v := .tuple #[.agg #[.bool true, .bool true, .bool true, .bool true, .bool false, .bool false], .bool true]) (by simp [results, Tryz.results83, go_sem, hF]) rfl ⟨rfl, hA.toExt⟩
theorem had_6 (w : World) : Calls Tryz.prog 83 #[.int .i64 6] w fun e w' => e = .returned (.tuple #[.agg #[.bool true, .bool true, .bool true, .bool false, .bool false, .bool false], .bool true]) ∧ Ext w w' := by
 have hA : At [] w [] w := At.start (L0 := []) trivial
 have hF := hA.facts; (try simp only [uY] at hA hF)
 go_enter Tryz.func83, Tryz.ntmps83
 go_wp2_with (first | ((with_reducible refine gal ?_); refine wG 137 [.bool false, .bool false, .bool false, .bool false, .bool false, .bool false] hA ?_; clear hF hA; intro bH w1 hA hbH hF; (try simp only [uY] at hA hF)) | ((with_reducible refine gst ?_); refine wT hA ?_; clear hF hA; intro w1 hA hF; (try simp only [uY] at hA hF)) | ((with_reducible refine gbx ?_); refine wC hA ?_; clear hF hA; intro b1 w1 hA hb1 hF; (try simp only [uY] at hA hF)))
 refine bodyPost_ret (v := .tuple #[.agg #[.bool true, .bool true, .bool true, .bool false, .bool false, .bool false], .bool true]) (by simp [results, Tryz.results83, go_sem, hF]) rfl ⟨rfl, hA.toExt⟩
theorem had_7 (w : World) : Calls Tryz.prog 83 #[.int .i64 7] w fun e w' => e = .returned (.tuple #[.agg #[.bool true, .bool true, .bool true, .bool false, .bool true, .bool false], .bool true]) ∧ Ext w w' := by
 have hA : At [] w [] w := At.start (L0 := []) trivial
 have hF := hA.facts; (try simp only [uY] at hA hF)
 go_enter Tryz.func83, Tryz.ntmps83
 go_wp2_with (first | ((with_reducible refine gal ?_); refine wG 137 [.bool false, .bool false, .bool false, .bool false, .bool false, .bool false] hA ?_; clear hF hA; intro bH w1 hA hbH hF; (try simp only [uY] at hA hF)) | ((with_reducible refine gst ?_); refine wT hA ?_; clear hF hA; intro w1 hA hF; (try simp only [uY] at hA hF)) | ((with_reducible refine gbx ?_); refine wC hA ?_; clear hF hA; intro b1 w1 hA hb1 hF; (try simp only [uY] at hA hF)))
 refine bodyPost_ret (v := .tuple #[.agg #[.bool true, .bool true, .bool true, .bool false, .bool true, .bool false], .bool true]) (by simp [results, Tryz.results83, go_sem, hF]) rfl ⟨rfl, hA.toExt⟩
theorem had_8 (w : World) : Calls Tryz.prog 83 #[.int .i64 8] w fun e w' => e = .returned (.tuple #[.agg #[.bool true, .bool false, .bool false, .bool false, .bool false, .bool true], .bool true]) ∧ Ext w w' := by
 have hA : At [] w [] w := At.start (L0 := []) trivial
 have hF := hA.facts; (try simp only [uY] at hA hF)
 go_enter Tryz.func83, Tryz.ntmps83
 go_wp2_with (first | ((with_reducible refine gal ?_); refine wG 137 [.bool false, .bool false, .bool false, .bool false, .bool false, .bool false] hA ?_; clear hF hA; intro bH w1 hA hbH hF; (try simp only [uY] at hA hF)) | ((with_reducible refine gst ?_); refine wT hA ?_; clear hF hA; intro w1 hA hF; (try simp only [uY] at hA hF)) | ((with_reducible refine gbx ?_); refine wC hA ?_; clear hF hA; intro b1 w1 hA hb1 hF; (try simp only [uY] at hA hF)))
 refine bodyPost_ret (v := .tuple #[.agg #[.bool true, .bool false, .bool false, .bool false, .bool false, .bool true], .bool true]) (by simp [results, Tryz.results83, go_sem, hF]) rfl ⟨rfl, hA.toExt⟩
theorem had_no (k : Int) (hk : hasOf k = none) (w : World) : Calls Tryz.prog 83 #[.int .i64 k] w fun e w' => e = .returned (.tuple #[.agg #[.bool false, .bool false, .bool false, .bool false, .bool false, .bool false], .bool false]) ∧ Ext w w' := by
 have hA : At [] w [] w := At.start (L0 := []) trivial
 have hF := hA.facts
 have e0 : (k == 0) = false := by
  rw [beq_eq_false_iff_ne]
  rintro rfl
  simp [hasOf] at hk
 have e1 : (k == 1) = false := by
  rw [beq_eq_false_iff_ne]
  rintro rfl
  simp [hasOf] at hk
 have e2 : (k == 2) = false := by
  rw [beq_eq_false_iff_ne]
  rintro rfl
  simp [hasOf] at hk
 have e3 : (k == 3) = false := by
  rw [beq_eq_false_iff_ne]
  rintro rfl
  simp [hasOf] at hk
 have e4 : (k == 4) = false := by
  rw [beq_eq_false_iff_ne]
  rintro rfl
  simp [hasOf] at hk
 have e5 : (k == 5) = false := by
  rw [beq_eq_false_iff_ne]
  rintro rfl
  simp [hasOf] at hk
 have e6 : (k == 6) = false := by
  rw [beq_eq_false_iff_ne]
  rintro rfl
  simp [hasOf] at hk
 have e7 : (k == 7) = false := by
  rw [beq_eq_false_iff_ne]
  rintro rfl
  simp [hasOf] at hk
 have e8 : (k == 8) = false := by
  rw [beq_eq_false_iff_ne]
  rintro rfl
  simp [hasOf] at hk
 clear hk
 have hF := hA.facts; (try simp only [uY] at hA hF)
 go_enter Tryz.func83, Tryz.ntmps83
 go_wp2_with (first | ((with_reducible refine gal ?_); refine wG 137 [.bool false, .bool false, .bool false, .bool false, .bool false, .bool false] hA ?_; clear hF hA; intro bH w1 hA hbH hF; (try simp only [uY] at hA hF)) | ((with_reducible refine gst ?_); refine wT hA ?_; clear hF hA; intro w1 hA hF; (try simp only [uY] at hA hF)) | ((with_reducible refine gbx ?_); refine wC hA ?_; clear hF hA; intro b1 w1 hA hb1 hF; (try simp only [uY] at hA hF)))
 refine bodyPost_ret (v := (.tuple #[.agg #[.bool false, .bool false, .bool false, .bool false, .bool false, .bool false], .bool false])) (by simp [results, Tryz.results83, go_sem, hF]) rfl ⟨rfl, hA.toExt⟩
theorem most_1 (w : World) : Calls Tryz.prog 97 #[.int .i64 1] w fun e w' => e = .returned (.int .u64 1048576) ∧ Ext w w' := by
 have hA : At [] w [] w := At.start (L0 := []) trivial
 go_enter Tryz.func97, Tryz.ntmps97
 go_wp2_with fail
 go_ret
 exact ⟨rfl, hA.toExt⟩
theorem most_7 (w : World) : Calls Tryz.prog 97 #[.int .i64 7] w fun e w' => e = .returned (.int .u64 9223372036854775807) ∧ Ext w w' := by
 have hA : At [] w [] w := At.start (L0 := []) trivial
 go_enter Tryz.func97, Tryz.ntmps97
 go_wp2_with fail
 go_ret
 exact ⟨rfl, hA.toExt⟩
theorem bare_0 (num : Int) (foot : ByteArray) (req : Int) (path : ByteArray) (mode n time : Int) (w : World) : Calls Tryz.prog 96 #[.agg #[.int .i64 0, .int .u64 num, .string foot, .int .u64 req, .string path, .int .i64 mode, .int .u64 n, .int .i64 time], .agg #[.bool false, .bool false, .bool false, .bool false, .bool false, .bool false]] w fun e w' => e = .returned (.agg #[.int .i64 0, .int .u64 0, .string .empty, .int .u64 0, .string .empty, .int .i64 0, .int .u64 0, .int .i64 0]) ∧ Ext w w' := by
 have hA : At [] w [] w := At.start (L0 := []) trivial
 have hF := hA.facts; (try simp only [uY] at hA hF)
 go_enter Tryz.func96, Tryz.ntmps96
 go_wp2_with (first | ((with_reducible refine gbx ?_); refine wC (E := 27) hA ?_; clear hF hA; intro bX w1 hA hbX hF; (try simp only [uY] at hA hF)) | ((with_reducible refine gbx ?_); refine wC (E := 137) hA ?_; clear hF hA; intro bH w1 hA hbH hF; (try simp only [uY] at hA hF)) | ((with_reducible show wpList _ _ _ ({ dst := some 4, op := Op.alloc _, type := _, pos := _, after := _, guard := _ } :: _) _ _); ((with_reducible refine gal ?_); refine wG 27 [.int .i64 0, .int .u64 0, .string .empty, .int .u64 0, .string .empty, .int .i64 0, .int .u64 0, .int .i64 0] hA ?_; clear hF hA; intro bR w1 hA hbR hF; (try simp only [uY] at hA hF))) | ((with_reducible show wpList _ _ _ ({ dst := some 5, op := Op.alloc _, type := _, pos := _, after := _, guard := _ } :: _) _ _); ((with_reducible refine gal ?_); refine wG 27 [.int .i64 0, .int .u64 0, .string .empty, .int .u64 0, .string .empty, .int .i64 0, .int .u64 0, .int .i64 0] hA ?_; clear hF hA; intro bO w1 hA hbO hF; (try simp only [uY] at hA hF))) | ((with_reducible refine gst ?_); refine wT hA ?_; clear hF hA; intro w1 hA hF; (try simp only [uY] at hA hF)) | ((with_reducible refine gbx ?_); refine wC hA ?_; clear hF hA; intro b1 w1 hA hb1 hF; (try simp only [uY] at hA hF)))
 refine bodyPost_ret (v := .agg #[.int .i64 0, .int .u64 0, .string ⟨#[]⟩, .int .u64 0, .string ⟨#[]⟩, .int .i64 0, .int .u64 0, .int .i64 0]) (by simp [results, Tryz.results96, go_sem, hF]) rfl ⟨rfl, hA.toExt⟩
theorem bare_1 (num : Int) (foot : ByteArray) (req : Int) (path : ByteArray) (mode n time : Int) (w : World) : Calls Tryz.prog 96 #[.agg #[.int .i64 1, .int .u64 num, .string foot, .int .u64 req, .string path, .int .i64 mode, .int .u64 n, .int .i64 time], .agg #[.bool true, .bool true, .bool false, .bool false, .bool true, .bool true]] w fun e w' => e = .returned (.agg #[.int .i64 1, .int .u64 num, .string foot, .int .u64 req, .string .empty, .int .i64 0, .int .u64 n, .int .i64 time]) ∧ Ext w w' := by
 have hA : At [] w [] w := At.start (L0 := []) trivial
 have hF := hA.facts; (try simp only [uY] at hA hF)
 go_enter Tryz.func96, Tryz.ntmps96
 go_wp2_with (first | ((with_reducible refine gbx ?_); refine wC (E := 27) hA ?_; clear hF hA; intro bX w1 hA hbX hF; (try simp only [uY] at hA hF)) | ((with_reducible refine gbx ?_); refine wC (E := 137) hA ?_; clear hF hA; intro bH w1 hA hbH hF; (try simp only [uY] at hA hF)) | ((with_reducible show wpList _ _ _ ({ dst := some 4, op := Op.alloc _, type := _, pos := _, after := _, guard := _ } :: _) _ _); ((with_reducible refine gal ?_); refine wG 27 [.int .i64 0, .int .u64 0, .string .empty, .int .u64 0, .string .empty, .int .i64 0, .int .u64 0, .int .i64 0] hA ?_; clear hF hA; intro bR w1 hA hbR hF; (try simp only [uY] at hA hF))) | ((with_reducible show wpList _ _ _ ({ dst := some 5, op := Op.alloc _, type := _, pos := _, after := _, guard := _ } :: _) _ _); ((with_reducible refine gal ?_); refine wG 27 [.int .i64 0, .int .u64 0, .string .empty, .int .u64 0, .string .empty, .int .i64 0, .int .u64 0, .int .i64 0] hA ?_; clear hF hA; intro bO w1 hA hbO hF; (try simp only [uY] at hA hF))) | ((with_reducible refine gst ?_); refine wT hA ?_; clear hF hA; intro w1 hA hF; (try simp only [uY] at hA hF)) | ((with_reducible refine gbx ?_); refine wC hA ?_; clear hF hA; intro b1 w1 hA hb1 hF; (try simp only [uY] at hA hF)))
 refine bodyPost_ret (v := .agg #[.int .i64 1, .int .u64 num, .string foot, .int .u64 req, .string ⟨#[]⟩, .int .i64 0, .int .u64 n, .int .i64 time]) (by simp [results, Tryz.results96, go_sem, hF]) rfl ⟨rfl, hA.toExt⟩
theorem bare_2 (num : Int) (foot : ByteArray) (req : Int) (path : ByteArray) (mode n time : Int) (w : World) : Calls Tryz.prog 96 #[.agg #[.int .i64 2, .int .u64 num, .string foot, .int .u64 req, .string path, .int .i64 mode, .int .u64 n, .int .i64 time], .agg #[.bool true, .bool true, .bool false, .bool false, .bool false, .bool false]] w fun e w' => e = .returned (.agg #[.int .i64 2, .int .u64 num, .string foot, .int .u64 req, .string .empty, .int .i64 0, .int .u64 0, .int .i64 0]) ∧ Ext w w' := by
 have hA : At [] w [] w := At.start (L0 := []) trivial
 have hF := hA.facts; (try simp only [uY] at hA hF)
 go_enter Tryz.func96, Tryz.ntmps96
 go_wp2_with (first | ((with_reducible refine gbx ?_); refine wC (E := 27) hA ?_; clear hF hA; intro bX w1 hA hbX hF; (try simp only [uY] at hA hF)) | ((with_reducible refine gbx ?_); refine wC (E := 137) hA ?_; clear hF hA; intro bH w1 hA hbH hF; (try simp only [uY] at hA hF)) | ((with_reducible show wpList _ _ _ ({ dst := some 4, op := Op.alloc _, type := _, pos := _, after := _, guard := _ } :: _) _ _); ((with_reducible refine gal ?_); refine wG 27 [.int .i64 0, .int .u64 0, .string .empty, .int .u64 0, .string .empty, .int .i64 0, .int .u64 0, .int .i64 0] hA ?_; clear hF hA; intro bR w1 hA hbR hF; (try simp only [uY] at hA hF))) | ((with_reducible show wpList _ _ _ ({ dst := some 5, op := Op.alloc _, type := _, pos := _, after := _, guard := _ } :: _) _ _); ((with_reducible refine gal ?_); refine wG 27 [.int .i64 0, .int .u64 0, .string .empty, .int .u64 0, .string .empty, .int .i64 0, .int .u64 0, .int .i64 0] hA ?_; clear hF hA; intro bO w1 hA hbO hF; (try simp only [uY] at hA hF))) | ((with_reducible refine gst ?_); refine wT hA ?_; clear hF hA; intro w1 hA hF; (try simp only [uY] at hA hF)) | ((with_reducible refine gbx ?_); refine wC hA ?_; clear hF hA; intro b1 w1 hA hb1 hF; (try simp only [uY] at hA hF)))
 refine bodyPost_ret (v := .agg #[.int .i64 2, .int .u64 num, .string foot, .int .u64 req, .string ⟨#[]⟩, .int .i64 0, .int .u64 0, .int .i64 0]) (by simp [results, Tryz.results96, go_sem, hF]) rfl ⟨rfl, hA.toExt⟩
theorem bare_3 (num : Int) (foot : ByteArray) (req : Int) (path : ByteArray) (mode n time : Int) (w : World) : Calls Tryz.prog 96 #[.agg #[.int .i64 3, .int .u64 num, .string foot, .int .u64 req, .string path, .int .i64 mode, .int .u64 n, .int .i64 time], .agg #[.bool true, .bool true, .bool false, .bool false, .bool false, .bool true]] w fun e w' => e = .returned (.agg #[.int .i64 3, .int .u64 num, .string foot, .int .u64 req, .string .empty, .int .i64 0, .int .u64 0, .int .i64 time]) ∧ Ext w w' := by
 have hA : At [] w [] w := At.start (L0 := []) trivial
 have hF := hA.facts; (try simp only [uY] at hA hF)
 go_enter Tryz.func96, Tryz.ntmps96
 go_wp2_with (first | ((with_reducible refine gbx ?_); refine wC (E := 27) hA ?_; clear hF hA; intro bX w1 hA hbX hF; (try simp only [uY] at hA hF)) | ((with_reducible refine gbx ?_); refine wC (E := 137) hA ?_; clear hF hA; intro bH w1 hA hbH hF; (try simp only [uY] at hA hF)) | ((with_reducible show wpList _ _ _ ({ dst := some 4, op := Op.alloc _, type := _, pos := _, after := _, guard := _ } :: _) _ _); ((with_reducible refine gal ?_); refine wG 27 [.int .i64 0, .int .u64 0, .string .empty, .int .u64 0, .string .empty, .int .i64 0, .int .u64 0, .int .i64 0] hA ?_; clear hF hA; intro bR w1 hA hbR hF; (try simp only [uY] at hA hF))) | ((with_reducible show wpList _ _ _ ({ dst := some 5, op := Op.alloc _, type := _, pos := _, after := _, guard := _ } :: _) _ _); ((with_reducible refine gal ?_); refine wG 27 [.int .i64 0, .int .u64 0, .string .empty, .int .u64 0, .string .empty, .int .i64 0, .int .u64 0, .int .i64 0] hA ?_; clear hF hA; intro bO w1 hA hbO hF; (try simp only [uY] at hA hF))) | ((with_reducible refine gst ?_); refine wT hA ?_; clear hF hA; intro w1 hA hF; (try simp only [uY] at hA hF)) | ((with_reducible refine gbx ?_); refine wC hA ?_; clear hF hA; intro b1 w1 hA hb1 hF; (try simp only [uY] at hA hF)))
 refine bodyPost_ret (v := .agg #[.int .i64 3, .int .u64 num, .string foot, .int .u64 req, .string ⟨#[]⟩, .int .i64 0, .int .u64 0, .int .i64 time]) (by simp [results, Tryz.results96, go_sem, hF]) rfl ⟨rfl, hA.toExt⟩
theorem bare_4 (num : Int) (foot : ByteArray) (req : Int) (path : ByteArray) (mode n time : Int) (w : World) : Calls Tryz.prog 96 #[.agg #[.int .i64 4, .int .u64 num, .string foot, .int .u64 req, .string path, .int .i64 mode, .int .u64 n, .int .i64 time], .agg #[.bool true, .bool true, .bool true, .bool true, .bool false, .bool false]] w fun e w' => e = .returned (.agg #[.int .i64 4, .int .u64 num, .string foot, .int .u64 req, .string path, .int .i64 mode, .int .u64 0, .int .i64 0]) ∧ Ext w w' := by
 have hA : At [] w [] w := At.start (L0 := []) trivial
 have hF := hA.facts; (try simp only [uY] at hA hF)
 go_enter Tryz.func96, Tryz.ntmps96
 go_wp2_with (first | ((with_reducible refine gbx ?_); refine wC (E := 27) hA ?_; clear hF hA; intro bX w1 hA hbX hF; (try simp only [uY] at hA hF)) | ((with_reducible refine gbx ?_); refine wC (E := 137) hA ?_; clear hF hA; intro bH w1 hA hbH hF; (try simp only [uY] at hA hF)) | ((with_reducible show wpList _ _ _ ({ dst := some 4, op := Op.alloc _, type := _, pos := _, after := _, guard := _ } :: _) _ _); ((with_reducible refine gal ?_); refine wG 27 [.int .i64 0, .int .u64 0, .string .empty, .int .u64 0, .string .empty, .int .i64 0, .int .u64 0, .int .i64 0] hA ?_; clear hF hA; intro bR w1 hA hbR hF; (try simp only [uY] at hA hF))) | ((with_reducible show wpList _ _ _ ({ dst := some 5, op := Op.alloc _, type := _, pos := _, after := _, guard := _ } :: _) _ _); ((with_reducible refine gal ?_); refine wG 27 [.int .i64 0, .int .u64 0, .string .empty, .int .u64 0, .string .empty, .int .i64 0, .int .u64 0, .int .i64 0] hA ?_; clear hF hA; intro bO w1 hA hbO hF; (try simp only [uY] at hA hF))) | ((with_reducible refine gst ?_); refine wT hA ?_; clear hF hA; intro w1 hA hF; (try simp only [uY] at hA hF)) | ((with_reducible refine gbx ?_); refine wC hA ?_; clear hF hA; intro b1 w1 hA hb1 hF; (try simp only [uY] at hA hF)))
 refine bodyPost_ret (v := .agg #[.int .i64 4, .int .u64 num, .string foot, .int .u64 req, .string path, .int .i64 mode, .int .u64 0, .int .i64 0]) (by simp [results, Tryz.results96, go_sem, hF]) rfl ⟨rfl, hA.toExt⟩
theorem bare_5 (num : Int) (foot : ByteArray) (req : Int) (path : ByteArray) (mode n time : Int) (w : World) : Calls Tryz.prog 96 #[.agg #[.int .i64 5, .int .u64 num, .string foot, .int .u64 req, .string path, .int .i64 mode, .int .u64 n, .int .i64 time], .agg #[.bool true, .bool true, .bool true, .bool true, .bool false, .bool false]] w fun e w' => e = .returned (.agg #[.int .i64 5, .int .u64 num, .string foot, .int .u64 req, .string path, .int .i64 mode, .int .u64 0, .int .i64 0]) ∧ Ext w w' := by
 have hA : At [] w [] w := At.start (L0 := []) trivial
 have hF := hA.facts; (try simp only [uY] at hA hF)
 go_enter Tryz.func96, Tryz.ntmps96
 go_wp2_with (first | ((with_reducible refine gbx ?_); refine wC (E := 27) hA ?_; clear hF hA; intro bX w1 hA hbX hF; (try simp only [uY] at hA hF)) | ((with_reducible refine gbx ?_); refine wC (E := 137) hA ?_; clear hF hA; intro bH w1 hA hbH hF; (try simp only [uY] at hA hF)) | ((with_reducible show wpList _ _ _ ({ dst := some 4, op := Op.alloc _, type := _, pos := _, after := _, guard := _ } :: _) _ _); ((with_reducible refine gal ?_); refine wG 27 [.int .i64 0, .int .u64 0, .string .empty, .int .u64 0, .string .empty, .int .i64 0, .int .u64 0, .int .i64 0] hA ?_; clear hF hA; intro bR w1 hA hbR hF; (try simp only [uY] at hA hF))) | ((with_reducible show wpList _ _ _ ({ dst := some 5, op := Op.alloc _, type := _, pos := _, after := _, guard := _ } :: _) _ _); ((with_reducible refine gal ?_); refine wG 27 [.int .i64 0, .int .u64 0, .string .empty, .int .u64 0, .string .empty, .int .i64 0, .int .u64 0, .int .i64 0] hA ?_; clear hF hA; intro bO w1 hA hbO hF; (try simp only [uY] at hA hF))) | ((with_reducible refine gst ?_); refine wT hA ?_; clear hF hA; intro w1 hA hF; (try simp only [uY] at hA hF)) | ((with_reducible refine gbx ?_); refine wC hA ?_; clear hF hA; intro b1 w1 hA hb1 hF; (try simp only [uY] at hA hF)))
 refine bodyPost_ret (v := .agg #[.int .i64 5, .int .u64 num, .string foot, .int .u64 req, .string path, .int .i64 mode, .int .u64 0, .int .i64 0]) (by simp [results, Tryz.results96, go_sem, hF]) rfl ⟨rfl, hA.toExt⟩
theorem bare_6 (num : Int) (foot : ByteArray) (req : Int) (path : ByteArray) (mode n time : Int) (w : World) : Calls Tryz.prog 96 #[.agg #[.int .i64 6, .int .u64 num, .string foot, .int .u64 req, .string path, .int .i64 mode, .int .u64 n, .int .i64 time], .agg #[.bool true, .bool true, .bool true, .bool false, .bool false, .bool false]] w fun e w' => e = .returned (.agg #[.int .i64 6, .int .u64 num, .string foot, .int .u64 req, .string path, .int .i64 0, .int .u64 0, .int .i64 0]) ∧ Ext w w' := by
 have hA : At [] w [] w := At.start (L0 := []) trivial
 have hF := hA.facts; (try simp only [uY] at hA hF)
 go_enter Tryz.func96, Tryz.ntmps96
 go_wp2_with (first | ((with_reducible refine gbx ?_); refine wC (E := 27) hA ?_; clear hF hA; intro bX w1 hA hbX hF; (try simp only [uY] at hA hF)) | ((with_reducible refine gbx ?_); refine wC (E := 137) hA ?_; clear hF hA; intro bH w1 hA hbH hF; (try simp only [uY] at hA hF)) | ((with_reducible show wpList _ _ _ ({ dst := some 4, op := Op.alloc _, type := _, pos := _, after := _, guard := _ } :: _) _ _); ((with_reducible refine gal ?_); refine wG 27 [.int .i64 0, .int .u64 0, .string .empty, .int .u64 0, .string .empty, .int .i64 0, .int .u64 0, .int .i64 0] hA ?_; clear hF hA; intro bR w1 hA hbR hF; (try simp only [uY] at hA hF))) | ((with_reducible show wpList _ _ _ ({ dst := some 5, op := Op.alloc _, type := _, pos := _, after := _, guard := _ } :: _) _ _); ((with_reducible refine gal ?_); refine wG 27 [.int .i64 0, .int .u64 0, .string .empty, .int .u64 0, .string .empty, .int .i64 0, .int .u64 0, .int .i64 0] hA ?_; clear hF hA; intro bO w1 hA hbO hF; (try simp only [uY] at hA hF))) | ((with_reducible refine gst ?_); refine wT hA ?_; clear hF hA; intro w1 hA hF; (try simp only [uY] at hA hF)) | ((with_reducible refine gbx ?_); refine wC hA ?_; clear hF hA; intro b1 w1 hA hb1 hF; (try simp only [uY] at hA hF)))
 refine bodyPost_ret (v := .agg #[.int .i64 6, .int .u64 num, .string foot, .int .u64 req, .string path, .int .i64 0, .int .u64 0, .int .i64 0]) (by simp [results, Tryz.results96, go_sem, hF]) rfl ⟨rfl, hA.toExt⟩
theorem bare_7 (num : Int) (foot : ByteArray) (req : Int) (path : ByteArray) (mode n time : Int) (w : World) : Calls Tryz.prog 96 #[.agg #[.int .i64 7, .int .u64 num, .string foot, .int .u64 req, .string path, .int .i64 mode, .int .u64 n, .int .i64 time], .agg #[.bool true, .bool true, .bool true, .bool false, .bool true, .bool false]] w fun e w' => e = .returned (.agg #[.int .i64 7, .int .u64 num, .string foot, .int .u64 req, .string path, .int .i64 0, .int .u64 n, .int .i64 0]) ∧ Ext w w' := by
 have hA : At [] w [] w := At.start (L0 := []) trivial
 have hF := hA.facts; (try simp only [uY] at hA hF)
 go_enter Tryz.func96, Tryz.ntmps96
 go_wp2_with (first | ((with_reducible refine gbx ?_); refine wC (E := 27) hA ?_; clear hF hA; intro bX w1 hA hbX hF; (try simp only [uY] at hA hF)) | ((with_reducible refine gbx ?_); refine wC (E := 137) hA ?_; clear hF hA; intro bH w1 hA hbH hF; (try simp only [uY] at hA hF)) | ((with_reducible show wpList _ _ _ ({ dst := some 4, op := Op.alloc _, type := _, pos := _, after := _, guard := _ } :: _) _ _); ((with_reducible refine gal ?_); refine wG 27 [.int .i64 0, .int .u64 0, .string .empty, .int .u64 0, .string .empty, .int .i64 0, .int .u64 0, .int .i64 0] hA ?_; clear hF hA; intro bR w1 hA hbR hF; (try simp only [uY] at hA hF))) | ((with_reducible show wpList _ _ _ ({ dst := some 5, op := Op.alloc _, type := _, pos := _, after := _, guard := _ } :: _) _ _); ((with_reducible refine gal ?_); refine wG 27 [.int .i64 0, .int .u64 0, .string .empty, .int .u64 0, .string .empty, .int .i64 0, .int .u64 0, .int .i64 0] hA ?_; clear hF hA; intro bO w1 hA hbO hF; (try simp only [uY] at hA hF))) | ((with_reducible refine gst ?_); refine wT hA ?_; clear hF hA; intro w1 hA hF; (try simp only [uY] at hA hF)) | ((with_reducible refine gbx ?_); refine wC hA ?_; clear hF hA; intro b1 w1 hA hb1 hF; (try simp only [uY] at hA hF)))
 refine bodyPost_ret (v := .agg #[.int .i64 7, .int .u64 num, .string foot, .int .u64 req, .string path, .int .i64 0, .int .u64 n, .int .i64 0]) (by simp [results, Tryz.results96, go_sem, hF]) rfl ⟨rfl, hA.toExt⟩
theorem bare_8 (num : Int) (foot : ByteArray) (req : Int) (path : ByteArray) (mode n time : Int) (w : World) : Calls Tryz.prog 96 #[.agg #[.int .i64 8, .int .u64 num, .string foot, .int .u64 req, .string path, .int .i64 mode, .int .u64 n, .int .i64 time], .agg #[.bool true, .bool false, .bool false, .bool false, .bool false, .bool true]] w fun e w' => e = .returned (.agg #[.int .i64 8, .int .u64 num, .string foot, .int .u64 0, .string .empty, .int .i64 0, .int .u64 0, .int .i64 time]) ∧ Ext w w' := by
 have hA : At [] w [] w := At.start (L0 := []) trivial
 have hF := hA.facts; (try simp only [uY] at hA hF)
 go_enter Tryz.func96, Tryz.ntmps96
 go_wp2_with (first | ((with_reducible refine gbx ?_); refine wC (E := 27) hA ?_; clear hF hA; intro bX w1 hA hbX hF; (try simp only [uY] at hA hF)) | ((with_reducible refine gbx ?_); refine wC (E := 137) hA ?_; clear hF hA; intro bH w1 hA hbH hF; (try simp only [uY] at hA hF)) | ((with_reducible show wpList _ _ _ ({ dst := some 4, op := Op.alloc _, type := _, pos := _, after := _, guard := _ } :: _) _ _); ((with_reducible refine gal ?_); refine wG 27 [.int .i64 0, .int .u64 0, .string .empty, .int .u64 0, .string .empty, .int .i64 0, .int .u64 0, .int .i64 0] hA ?_; clear hF hA; intro bR w1 hA hbR hF; (try simp only [uY] at hA hF))) | ((with_reducible show wpList _ _ _ ({ dst := some 5, op := Op.alloc _, type := _, pos := _, after := _, guard := _ } :: _) _ _); ((with_reducible refine gal ?_); refine wG 27 [.int .i64 0, .int .u64 0, .string .empty, .int .u64 0, .string .empty, .int .i64 0, .int .u64 0, .int .i64 0] hA ?_; clear hF hA; intro bO w1 hA hbO hF; (try simp only [uY] at hA hF))) | ((with_reducible refine gst ?_); refine wT hA ?_; clear hF hA; intro w1 hA hF; (try simp only [uY] at hA hF)) | ((with_reducible refine gbx ?_); refine wC hA ?_; clear hF hA; intro b1 w1 hA hb1 hF; (try simp only [uY] at hA hF)))
 refine bodyPost_ret (v := .agg #[.int .i64 8, .int .u64 num, .string foot, .int .u64 0, .string ⟨#[]⟩, .int .i64 0, .int .u64 0, .int .i64 time]) (by simp [results, Tryz.results96, go_sem, hF]) rfl ⟨rfl, hA.toExt⟩
end Go.Proofs.YtgbpfgdjnhbcgaaGreatDoor.Cmd
end
