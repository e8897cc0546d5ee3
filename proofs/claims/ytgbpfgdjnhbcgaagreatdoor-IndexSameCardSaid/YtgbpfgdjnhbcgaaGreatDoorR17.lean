/- RefN, RegG, joined. -/
import Derived.Test.YtgbpfgdjnhbcgaaGreatDoorR16
import Derived.Test.YtgbpfgdjnhbcgaaGreatDoorR11
set_option linter.unusedSimpArgs false
set_option linter.unusedVariables false
set_option maxRecDepth 100000
set_option maxHeartbeats 16000000
section
namespace Go.Proofs.YtgbpfgdjnhbcgaaGreatDoor.Ix
open Go.RowKit
open Path (bl rightB overB)
open Attr (A8 rightI)
open Cmd (Cm through0 idR_any refFoot_ok)
attribute [-go_sem] run_eql_struct run_neq_struct run_eqGuard_agg
theorem of12_any (c : Cm) (w : World) : Calls Tryz.prog 15 #[c.val] w fun e w' => e = .returned c.val ∧ Ext w w' := by
 have hA : At [] w [] w := At.start (L0 := []) trivial
 have hF := hA.facts
 obtain ⟨kind, num, foot, req, path, mode, n, time⟩ := c
 simp only [Cm.val]
 have hF := hA.facts; (try simp only [uZ] at hA hF)
 go_enter Tryz.func15, Tryz.ntmps15
 go_wp2_with (first | ((with_reducible refine gbx ?_); refine wH 27 [.int .i64 kind, .int .u64 num, .string foot, .int .u64 req, .string path, .int .i64 mode, .int .u64 n, .int .i64 time] hA ?_; clear hF hA; intro bX w1 hA hbX hF; (try simp only [uZ] at hA hF)) | ((with_reducible refine gal ?_); refine wG 57 [.int .i64 0, .int .u64 0, .string .empty, .int .u64 0, .string .empty, .int .i64 0, .int .u64 0, .int .i64 0] hA ?_; clear hF hA; intro bR w1 hA hbR hF; (try simp only [uZ] at hA hF)) | ((with_reducible refine gst ?_); refine wT hA ?_; clear hF hA; intro w1 hA hF; (try simp only [uZ] at hA hF)) | ((with_reducible refine gbx ?_); refine wC hA ?_; clear hF hA; intro b1 w1 hA hb1 hF; (try simp only [uZ] at hA hF)))
 refine bodyPost_ret (v := .agg #[.int .i64 kind, .int .u64 num, .string foot, .int .u64 req, .string path, .int .i64 mode, .int .u64 n, .int .i64 time]) (by simp [results, Tryz.results15, go_sem, hF]) rfl ⟨rfl, hA.toExt⟩
def smallB (c : Cm) : Bool := decide (c.path.size < 200) && decide (c.foot.size < 200)
theorem small_any (c : Cm) (w : World) : Calls Tryz.prog 7 #[c.val] w fun e w' => e = .returned (.bool (smallB c)) ∧ Ext w w' := by
 have hA : At [] w [] w := At.start (L0 := []) trivial
 have hF := hA.facts
 obtain ⟨kind, num, foot, req, path, mode, n, time⟩ := c
 unfold smallB
 simp only [Cm.val]
 obtain ⟨x0, h0⟩ : ∃ x, decide (path.size < 200) = x := ⟨_, rfl⟩
 obtain ⟨x1, h1⟩ : ∃ x, decide (foot.size < 200) = x := ⟨_, rfl⟩
 have g0 : decide ((path.size : Int) < 200) = x0 := by rw [← h0, decide_eq_decide]; omega
 have g1 : decide ((foot.size : Int) < 200) = x1 := by rw [← h1, decide_eq_decide]; omega
 rw [h0, h1]
 clear h0 h1
 have hF := hA.facts; (try simp only [uZ] at hA hF)
 cases x0
 · go_enter Tryz.func7, Tryz.ntmps7
   go_wp2_with (first | ((with_reducible refine gbx ?_); refine wH 27 [.int .i64 kind, .int .u64 num, .string foot, .int .u64 req, .string path, .int .i64 mode, .int .u64 n, .int .i64 time] hA ?_; clear hF hA; intro bX w1 hA hbX hF; (try simp only [uZ] at hA hF)) | ((with_reducible refine gst ?_); refine wT hA ?_; clear hF hA; intro w1 hA hF; (try simp only [uZ] at hA hF)) | ((with_reducible refine gbx ?_); refine wC hA ?_; clear hF hA; intro b1 w1 hA hb1 hF; (try simp only [uZ] at hA hF)))
   go_ret
   exact ⟨rfl, hA.toExt⟩
 · go_enter Tryz.func7, Tryz.ntmps7
   go_wp2_with (first | ((with_reducible refine gbx ?_); refine wH 27 [.int .i64 kind, .int .u64 num, .string foot, .int .u64 req, .string path, .int .i64 mode, .int .u64 n, .int .i64 time] hA ?_; clear hF hA; intro bX w1 hA hbX hF; (try simp only [uZ] at hA hF)) | ((with_reducible refine gst ?_); refine wT hA ?_; clear hF hA; intro w1 hA hF; (try simp only [uZ] at hA hF)) | ((with_reducible refine gbx ?_); refine wC hA ?_; clear hF hA; intro b1 w1 hA hb1 hF; (try simp only [uZ] at hA hF)))
   go_ret
   exact ⟨rfl, hA.toExt⟩
def cutI (q : Int) : Int := if q < 0 then 0 else if 1073741824 < q then 1073741824 else q
theorem cut_any (q : Int) (w : World) : Calls Tryz.prog 41 #[.int .i64 q] w fun e w' => e = .returned (.int .i64 (cutI q)) ∧ Ext w w' := by
 have hA : At [] w [] w := At.start (L0 := []) trivial
 unfold cutI
 by_cases h0 : q < 0
 · rw [if_pos h0]
   go_enter Tryz.func41, Tryz.ntmps41
   go_wp2_with fail
   go_ret
   exact ⟨rfl, hA.toExt⟩
 · rw [if_neg h0]
   by_cases h1 : 1073741824 < q
   · rw [if_pos h1]
     go_enter Tryz.func41, Tryz.ntmps41
     go_wp2_with fail
     go_ret
     exact ⟨rfl, hA.toExt⟩
   · rw [if_neg h1]
     go_enter Tryz.func41, Tryz.ntmps41
     go_wp2_with fail
     go_ret
     exact ⟨rfl, hA.toExt⟩
theorem infoN : (Tryz.prog.info? 53).map (fun i => (i.zero, i.size, i.bytes)) = some (some (.agg #[.string .empty, .int .u64 0, .int .i64 0, .int .i64 0, .int .i64 0, .int .i64 0, .int .i64 0, .int .i64 0, .int .i64 0, .int .i64 0]), 10, 88) := by kernel_rfl
theorem noteR_nil (c : Cm) (hf : c.foot.size ≤ 1000) (hp : c.path.size ≤ 1000) (r t q : Int) (w : World) :
 Calls Tryz.prog 23 #[.slice none 0 0, c.val, .agg #[.int .i64 r, .int .i64 t], .int .i64 q] w fun e w' => ∃ v, e = .returned v ∧ Ext w w' := by
 obtain ⟨i0, hi0, hz0, hz1, hz2⟩ := info_parts infoN
 have hA : At [] w [] w := At.start (L0 := []) trivial
 have hF := hA.facts
 obtain ⟨ff, fb, hfo⟩ := refFoot_ok c hf hp
 have hri := fun w => idR_any r t w
 obtain ⟨ri, hrid⟩ : ∃ ri, rightI r t = ri := ⟨_, rfl⟩
 rw [hrid] at hri
 have hcu := fun w => cut_any q w
 generalize cutI q = cq at *
 obtain ⟨kind, num, foot, req, path, mode, n, time⟩ := c
 simp only [Cm.val] at *
 cases fb with
 | false =>
  have hF := hA.facts; (try simp only [uZ] at hA hF)
  go_enter Tryz.func23, Tryz.ntmps23
  go_wp2_with (first | ((with_reducible refine gbx ?_); refine wH 57 [.int .i64 kind, .int .u64 num, .string foot, .int .u64 req, .string path, .int .i64 mode, .int .u64 n, .int .i64 time] hA ?_; clear hF hA; intro bC w1 hA hbC hF; (try simp only [uZ] at hA hF)) | ((with_reducible refine gbx ?_); refine wH 59 [.int .i64 r, .int .i64 t] hA ?_; clear hF hA; intro bI w1 hA hbI hF; (try simp only [uZ] at hA hF)) | ((with_reducible refine gst ?_); refine wT hA ?_; clear hF hA; intro w1 hA hF; (try simp only [uZ] at hA hF)) | ((with_reducible refine gbx ?_); refine wC hA ?_; clear hF hA; intro b1 w1 hA hb1 hF; (try simp only [uZ] at hA hF)))
  refine (hfo _).mono ?_
  clear hfo
  rintro e w1 ⟨rfl, hx⟩
  have hB := hA.ext hx
  clear hF hA hx; have hA := hB; clear hB
  have hF := hA.facts; (try simp only [uZ] at hA hF)
  go_wp2_with (first | ((with_reducible refine gst ?_); refine wT hA ?_; clear hF hA; intro w1 hA hF; (try simp only [uZ] at hA hF)) | ((with_reducible refine gbx ?_); refine wC hA ?_; clear hF hA; intro b1 w1 hA hb1 hF; (try simp only [uZ] at hA hF)))
  go_ret
  exact ⟨_, rfl, hA.toExt⟩
 | true =>
  cases ri with
  | false =>
   have hF := hA.facts; (try simp only [uZ] at hA hF)
   go_enter Tryz.func23, Tryz.ntmps23
   go_wp2_with (first | ((with_reducible refine gbx ?_); refine wH 57 [.int .i64 kind, .int .u64 num, .string foot, .int .u64 req, .string path, .int .i64 mode, .int .u64 n, .int .i64 time] hA ?_; clear hF hA; intro bC w1 hA hbC hF; (try simp only [uZ] at hA hF)) | ((with_reducible refine gbx ?_); refine wH 59 [.int .i64 r, .int .i64 t] hA ?_; clear hF hA; intro bI w1 hA hbI hF; (try simp only [uZ] at hA hF)) | ((with_reducible refine gst ?_); refine wT hA ?_; clear hF hA; intro w1 hA hF; (try simp only [uZ] at hA hF)) | ((with_reducible refine gbx ?_); refine wC hA ?_; clear hF hA; intro b1 w1 hA hb1 hF; (try simp only [uZ] at hA hF)))
   refine (hfo _).mono ?_
   clear hfo
   rintro e w1 ⟨rfl, hx⟩
   have hB := hA.ext hx
   clear hF hA hx; have hA := hB; clear hB
   have hF := hA.facts; (try simp only [uZ] at hA hF)
   go_wp2_with (first | ((with_reducible refine gst ?_); refine wT hA ?_; clear hF hA; intro w1 hA hF; (try simp only [uZ] at hA hF)) | ((with_reducible refine gbx ?_); refine wC hA ?_; clear hF hA; intro b1 w1 hA hb1 hF; (try simp only [uZ] at hA hF)))
   refine (hri _).mono ?_
   clear hri
   rintro e w1 ⟨rfl, hx⟩
   have hB := hA.ext hx
   clear hF hA hx; have hA := hB; clear hB
   have hF := hA.facts; (try simp only [uZ] at hA hF)
   go_wp2_with (first | ((with_reducible refine gst ?_); refine wT hA ?_; clear hF hA; intro w1 hA hF; (try simp only [uZ] at hA hF)) | ((with_reducible refine gbx ?_); refine wC hA ?_; clear hF hA; intro b1 w1 hA hb1 hF; (try simp only [uZ] at hA hF)))
   go_ret
   exact ⟨_, rfl, hA.toExt⟩
  | true =>
   have hq := Attr.rightI_iff.1 hrid
   have hq7 : r = 0 ∨ r = 1 ∨ r = 2 ∨ r = 3 ∨ r = 4 ∨ r = 5 ∨ r = 6 := by omega
   have hwt : IntKind.i64.wrap (t + 1) = t + 1 := by rw [IntKind.wrap_i64] <;> omega
   clear hq hrid
   have hB := hA.row_nil 53 10
   clear hF hA; have hA := hB; clear hB
   have hF := hA.facts; (try simp only [uZ] at hA hF)
   rcases hq7 with rfl | rfl | rfl | rfl | rfl | rfl | rfl
   · go_enter Tryz.func23, Tryz.ntmps23
     go_wp2_with (first | ((with_reducible refine gbx ?_); refine wH 57 [.int .i64 kind, .int .u64 num, .string foot, .int .u64 req, .string path, .int .i64 mode, .int .u64 n, .int .i64 time] hA ?_; clear hF hA; intro bC w1 hA hbC hF; (try simp only [uZ] at hA hF)) | ((with_reducible refine gbx ?_); refine wH 59 [.int .i64 0, .int .i64 t] hA ?_; clear hF hA; intro bI w1 hA hbI hF; (try simp only [uZ] at hA hF)) | ((with_reducible refine gst ?_); refine wT hA ?_; clear hF hA; intro w1 hA hF; (try simp only [uZ] at hA hF)) | ((with_reducible refine gbx ?_); refine wC hA ?_; clear hF hA; intro b1 w1 hA hb1 hF; (try simp only [uZ] at hA hF)))
     refine (hfo _).mono ?_
     clear hfo
     rintro e w1 ⟨rfl, hx⟩
     have hB := hA.ext hx
     clear hF hA hx; have hA := hB; clear hB
     have hF := hA.facts; (try simp only [uZ] at hA hF)
     go_wp2_with (first | ((with_reducible refine gst ?_); refine wT hA ?_; clear hF hA; intro w1 hA hF; (try simp only [uZ] at hA hF)) | ((with_reducible refine gbx ?_); refine wC hA ?_; clear hF hA; intro b1 w1 hA hb1 hF; (try simp only [uZ] at hA hF)))
     refine (hri _).mono ?_
     clear hri
     rintro e w1 ⟨rfl, hx⟩
     have hB := hA.ext hx
     clear hF hA hx; have hA := hB; clear hB
     have hF := hA.facts; (try simp only [uZ] at hA hF)
     go_wp2_with (first | ((with_reducible refine gal ?_); refine wG 53 [.string .empty, .int .u64 0, .int .i64 0, .int .i64 0, .int .i64 0, .int .i64 0, .int .i64 0, .int .i64 0, .int .i64 0, .int .i64 0] hA ?_; clear hF hA; intro bN w1 hA hbN hF; (try simp only [uZ] at hA hF)) | ((with_reducible refine gst ?_); refine wT hA ?_; clear hF hA; intro w1 hA hF; (try simp only [uZ] at hA hF)) | ((with_reducible refine gbx ?_); refine wC hA ?_; clear hF hA; intro b1 w1 hA hb1 hF; (try simp only [uZ] at hA hF)))
     refine (hcu _).mono ?_
     clear hcu
     rintro e w1 ⟨rfl, hx⟩
     have hB := hA.ext hx
     clear hF hA hx; have hA := hB; clear hB
     have hF := hA.facts; (try simp only [uZ] at hA hF)
     go_wp2_with (first | ((with_reducible show wpList _ _ _ ({ dst := some 44, op := Op.call _, type := _, pos := _, after := _, guard := _ } :: _) _ _); refine wpList_append_at (e := 53) (size := 10) (v := .slice none 0 0) (xs := []) (n := 0) (m := 0) (news := []) rfl _ _ 35 rfl Tryz.underlying35 hi0 hz0 hz1 hz2 rfl (by omega) hA sR (by (try simp only [Act.eval, eV]) <;> exact rfl) (by (try simp only [Act.eval, eV]) <;> exact rfl) rfl (hA.row_reads (v := .slice none 0 0) (n := 0) (xs := []) sR) nofun (by unfold maxLen; omega) (by omega) ?_; intro v1 w1 hB; clear hF hA; have hA := hB; clear hB; (try simp only [Nat.zero_add, List.append_nil, List.nil_append] at hA); have hF := hA.facts; (try simp only [uZ] at hA hF)) | ((with_reducible show wpList _ _ _ ({ dst := _, op := Op.buildSlice _ _ _, type := _, pos := _, after := _, guard := _ } :: _) _ _); refine wpList_one_at (e := 53) (vs := [.string ff, .int .u64 num, .int .i64 cq, .int .i64 (t + 1), .int .i64 0, .int .i64 0, .int .i64 0, .int .i64 0, .int .i64 0, .int .i64 0]) rfl rfl (by (try simp only [Act.eval, eV]) <;> exact rfl) (fun _ => by kernel_rfl) hA ?_; intro b2 w1 hB hb2; clear hF hA; have hA := hB; clear hB; have hF := hA.facts; (try simp only [uZ] at hA hF)) | ((with_reducible show wpList _ _ _ ({ dst := some 48, op := Op.call _, type := _, pos := _, after := _, guard := _ } :: _) _ _); refine wpList_append_at (e := 53) (size := 10) (v := v1) (xs := []) (n := 0) (m := 1) (news := [.string ff, .int .u64 num, .int .i64 cq, .int .i64 (t + 1), .int .i64 0, .int .i64 0, .int .i64 0, .int .i64 0, .int .i64 0, .int .i64 0]) rfl _ _ 35 rfl Tryz.underlying35 hi0 hz0 hz1 hz2 rfl (by omega) hA sR (by (try simp only [Act.eval, eV]) <;> exact rfl) (by (try simp only [Act.eval, eV]) <;> exact rfl) rfl (hA.cells_reads sR _ _) (by intro u hu; simp only [List.mem_cons, List.not_mem_nil, or_false] at hu; rcases hu with rfl | rfl | rfl | rfl | rfl | rfl | rfl | rfl | rfl | rfl <;> rfl) (by unfold maxLen; omega) (by omega) ?_; intro v2 w1 hB; clear hF hA; have hA := hB; clear hB; (try simp only [Nat.zero_add, List.append_nil, List.nil_append] at hA); have hF := hA.facts; (try simp only [uZ] at hA hF)) | ((with_reducible refine gst ?_); refine wT hA ?_; clear hF hA; intro w1 hA hF; (try simp only [uZ] at hA hF)) | ((with_reducible refine gbx ?_); refine wC hA ?_; clear hF hA; intro b1 w1 hA hb1 hF; (try simp only [uZ] at hA hF)))
     go_ret
     exact ⟨_, rfl, hA.toExt⟩
   · go_enter Tryz.func23, Tryz.ntmps23
     go_wp2_with (first | ((with_reducible refine gbx ?_); refine wH 57 [.int .i64 kind, .int .u64 num, .string foot, .int .u64 req, .string path, .int .i64 mode, .int .u64 n, .int .i64 time] hA ?_; clear hF hA; intro bC w1 hA hbC hF; (try simp only [uZ] at hA hF)) | ((with_reducible refine gbx ?_); refine wH 59 [.int .i64 1, .int .i64 t] hA ?_; clear hF hA; intro bI w1 hA hbI hF; (try simp only [uZ] at hA hF)) | ((with_reducible refine gst ?_); refine wT hA ?_; clear hF hA; intro w1 hA hF; (try simp only [uZ] at hA hF)) | ((with_reducible refine gbx ?_); refine wC hA ?_; clear hF hA; intro b1 w1 hA hb1 hF; (try simp only [uZ] at hA hF)))
     refine (hfo _).mono ?_
     clear hfo
     rintro e w1 ⟨rfl, hx⟩
     have hB := hA.ext hx
     clear hF hA hx; have hA := hB; clear hB
     have hF := hA.facts; (try simp only [uZ] at hA hF)
     go_wp2_with (first | ((with_reducible refine gst ?_); refine wT hA ?_; clear hF hA; intro w1 hA hF; (try simp only [uZ] at hA hF)) | ((with_reducible refine gbx ?_); refine wC hA ?_; clear hF hA; intro b1 w1 hA hb1 hF; (try simp only [uZ] at hA hF)))
     refine (hri _).mono ?_
     clear hri
     rintro e w1 ⟨rfl, hx⟩
     have hB := hA.ext hx
     clear hF hA hx; have hA := hB; clear hB
     have hF := hA.facts; (try simp only [uZ] at hA hF)
     go_wp2_with (first | ((with_reducible refine gal ?_); refine wG 53 [.string .empty, .int .u64 0, .int .i64 0, .int .i64 0, .int .i64 0, .int .i64 0, .int .i64 0, .int .i64 0, .int .i64 0, .int .i64 0] hA ?_; clear hF hA; intro bN w1 hA hbN hF; (try simp only [uZ] at hA hF)) | ((with_reducible refine gst ?_); refine wT hA ?_; clear hF hA; intro w1 hA hF; (try simp only [uZ] at hA hF)) | ((with_reducible refine gbx ?_); refine wC hA ?_; clear hF hA; intro b1 w1 hA hb1 hF; (try simp only [uZ] at hA hF)))
     refine (hcu _).mono ?_
     clear hcu
     rintro e w1 ⟨rfl, hx⟩
     have hB := hA.ext hx
     clear hF hA hx; have hA := hB; clear hB
     have hF := hA.facts; (try simp only [uZ] at hA hF)
     go_wp2_with (first | ((with_reducible show wpList _ _ _ ({ dst := some 44, op := Op.call _, type := _, pos := _, after := _, guard := _ } :: _) _ _); refine wpList_append_at (e := 53) (size := 10) (v := .slice none 0 0) (xs := []) (n := 0) (m := 0) (news := []) rfl _ _ 35 rfl Tryz.underlying35 hi0 hz0 hz1 hz2 rfl (by omega) hA sR (by (try simp only [Act.eval, eV]) <;> exact rfl) (by (try simp only [Act.eval, eV]) <;> exact rfl) rfl (hA.row_reads (v := .slice none 0 0) (n := 0) (xs := []) sR) nofun (by unfold maxLen; omega) (by omega) ?_; intro v1 w1 hB; clear hF hA; have hA := hB; clear hB; (try simp only [Nat.zero_add, List.append_nil, List.nil_append] at hA); have hF := hA.facts; (try simp only [uZ] at hA hF)) | ((with_reducible show wpList _ _ _ ({ dst := _, op := Op.buildSlice _ _ _, type := _, pos := _, after := _, guard := _ } :: _) _ _); refine wpList_one_at (e := 53) (vs := [.string ff, .int .u64 num, .int .i64 cq, .int .i64 0, .int .i64 (t + 1), .int .i64 0, .int .i64 0, .int .i64 0, .int .i64 0, .int .i64 0]) rfl rfl (by (try simp only [Act.eval, eV]) <;> exact rfl) (fun _ => by kernel_rfl) hA ?_; intro b2 w1 hB hb2; clear hF hA; have hA := hB; clear hB; have hF := hA.facts; (try simp only [uZ] at hA hF)) | ((with_reducible show wpList _ _ _ ({ dst := some 48, op := Op.call _, type := _, pos := _, after := _, guard := _ } :: _) _ _); refine wpList_append_at (e := 53) (size := 10) (v := v1) (xs := []) (n := 0) (m := 1) (news := [.string ff, .int .u64 num, .int .i64 cq, .int .i64 0, .int .i64 (t + 1), .int .i64 0, .int .i64 0, .int .i64 0, .int .i64 0, .int .i64 0]) rfl _ _ 35 rfl Tryz.underlying35 hi0 hz0 hz1 hz2 rfl (by omega) hA sR (by (try simp only [Act.eval, eV]) <;> exact rfl) (by (try simp only [Act.eval, eV]) <;> exact rfl) rfl (hA.cells_reads sR _ _) (by intro u hu; simp only [List.mem_cons, List.not_mem_nil, or_false] at hu; rcases hu with rfl | rfl | rfl | rfl | rfl | rfl | rfl | rfl | rfl | rfl <;> rfl) (by unfold maxLen; omega) (by omega) ?_; intro v2 w1 hB; clear hF hA; have hA := hB; clear hB; (try simp only [Nat.zero_add, List.append_nil, List.nil_append] at hA); have hF := hA.facts; (try simp only [uZ] at hA hF)) | ((with_reducible refine gst ?_); refine wT hA ?_; clear hF hA; intro w1 hA hF; (try simp only [uZ] at hA hF)) | ((with_reducible refine gbx ?_); refine wC hA ?_; clear hF hA; intro b1 w1 hA hb1 hF; (try simp only [uZ] at hA hF)))
     go_ret
     exact ⟨_, rfl, hA.toExt⟩
   · go_enter Tryz.func23, Tryz.ntmps23
     go_wp2_with (first | ((with_reducible refine gbx ?_); refine wH 57 [.int .i64 kind, .int .u64 num, .string foot, .int .u64 req, .string path, .int .i64 mode, .int .u64 n, .int .i64 time] hA ?_; clear hF hA; intro bC w1 hA hbC hF; (try simp only [uZ] at hA hF)) | ((with_reducible refine gbx ?_); refine wH 59 [.int .i64 2, .int .i64 t] hA ?_; clear hF hA; intro bI w1 hA hbI hF; (try simp only [uZ] at hA hF)) | ((with_reducible refine gst ?_); refine wT hA ?_; clear hF hA; intro w1 hA hF; (try simp only [uZ] at hA hF)) | ((with_reducible refine gbx ?_); refine wC hA ?_; clear hF hA; intro b1 w1 hA hb1 hF; (try simp only [uZ] at hA hF)))
     refine (hfo _).mono ?_
     clear hfo
     rintro e w1 ⟨rfl, hx⟩
     have hB := hA.ext hx
     clear hF hA hx; have hA := hB; clear hB
     have hF := hA.facts; (try simp only [uZ] at hA hF)
     go_wp2_with (first | ((with_reducible refine gst ?_); refine wT hA ?_; clear hF hA; intro w1 hA hF; (try simp only [uZ] at hA hF)) | ((with_reducible refine gbx ?_); refine wC hA ?_; clear hF hA; intro b1 w1 hA hb1 hF; (try simp only [uZ] at hA hF)))
     refine (hri _).mono ?_
     clear hri
     rintro e w1 ⟨rfl, hx⟩
     have hB := hA.ext hx
     clear hF hA hx; have hA := hB; clear hB
     have hF := hA.facts; (try simp only [uZ] at hA hF)
     go_wp2_with (first | ((with_reducible refine gal ?_); refine wG 53 [.string .empty, .int .u64 0, .int .i64 0, .int .i64 0, .int .i64 0, .int .i64 0, .int .i64 0, .int .i64 0, .int .i64 0, .int .i64 0] hA ?_; clear hF hA; intro bN w1 hA hbN hF; (try simp only [uZ] at hA hF)) | ((with_reducible refine gst ?_); refine wT hA ?_; clear hF hA; intro w1 hA hF; (try simp only [uZ] at hA hF)) | ((with_reducible refine gbx ?_); refine wC hA ?_; clear hF hA; intro b1 w1 hA hb1 hF; (try simp only [uZ] at hA hF)))
     refine (hcu _).mono ?_
     clear hcu
     rintro e w1 ⟨rfl, hx⟩
     have hB := hA.ext hx
     clear hF hA hx; have hA := hB; clear hB
     have hF := hA.facts; (try simp only [uZ] at hA hF)
     go_wp2_with (first | ((with_reducible show wpList _ _ _ ({ dst := some 44, op := Op.call _, type := _, pos := _, after := _, guard := _ } :: _) _ _); refine wpList_append_at (e := 53) (size := 10) (v := .slice none 0 0) (xs := []) (n := 0) (m := 0) (news := []) rfl _ _ 35 rfl Tryz.underlying35 hi0 hz0 hz1 hz2 rfl (by omega) hA sR (by (try simp only [Act.eval, eV]) <;> exact rfl) (by (try simp only [Act.eval, eV]) <;> exact rfl) rfl (hA.row_reads (v := .slice none 0 0) (n := 0) (xs := []) sR) nofun (by unfold maxLen; omega) (by omega) ?_; intro v1 w1 hB; clear hF hA; have hA := hB; clear hB; (try simp only [Nat.zero_add, List.append_nil, List.nil_append] at hA); have hF := hA.facts; (try simp only [uZ] at hA hF)) | ((with_reducible show wpList _ _ _ ({ dst := _, op := Op.buildSlice _ _ _, type := _, pos := _, after := _, guard := _ } :: _) _ _); refine wpList_one_at (e := 53) (vs := [.string ff, .int .u64 num, .int .i64 cq, .int .i64 0, .int .i64 0, .int .i64 (t + 1), .int .i64 0, .int .i64 0, .int .i64 0, .int .i64 0]) rfl rfl (by (try simp only [Act.eval, eV]) <;> exact rfl) (fun _ => by kernel_rfl) hA ?_; intro b2 w1 hB hb2; clear hF hA; have hA := hB; clear hB; have hF := hA.facts; (try simp only [uZ] at hA hF)) | ((with_reducible show wpList _ _ _ ({ dst := some 48, op := Op.call _, type := _, pos := _, after := _, guard := _ } :: _) _ _); refine wpList_append_at (e := 53) (size := 10) (v := v1) (xs := []) (n := 0) (m := 1) (news := [.string ff, .int .u64 num, .int .i64 cq, .int .i64 0, .int .i64 0, .int .i64 (t + 1), .int .i64 0, .int .i64 0, .int .i64 0, .int .i64 0]) rfl _ _ 35 rfl Tryz.underlying35 hi0 hz0 hz1 hz2 rfl (by omega) hA sR (by (try simp only [Act.eval, eV]) <;> exact rfl) (by (try simp only [Act.eval, eV]) <;> exact rfl) rfl (hA.cells_reads sR _ _) (by intro u hu; simp only [List.mem_cons, List.not_mem_nil, or_false] at hu; rcases hu with rfl | rfl | rfl | rfl | rfl | rfl | rfl | rfl | rfl | rfl <;> rfl) (by unfold maxLen; omega) (by omega) ?_; intro v2 w1 hB; clear hF hA; have hA := hB; clear hB; (try simp only [Nat.zero_add, List.append_nil, List.nil_append] at hA); have hF := hA.facts; (try simp only [uZ] at hA hF)) | ((with_reducible refine gst ?_); refine wT hA ?_; clear hF hA; intro w1 hA hF; (try simp only [uZ] at hA hF)) | ((with_reducible refine gbx ?_); refine wC hA ?_; clear hF hA; intro b1 w1 hA hb1 hF; (try simp only [uZ] at hA hF)))
     go_ret
     exact ⟨_, rfl, hA.toExt⟩
   · go_enter Tryz.func23, Tryz.ntmps23
     go_wp2_with (first | ((with_reducible refine gbx ?_); refine wH 57 [.int .i64 kind, .int .u64 num, .string foot, .int .u64 req, .string path, .int .i64 mode, .int .u64 n, .int .i64 time] hA ?_; clear hF hA; intro bC w1 hA hbC hF; (try simp only [uZ] at hA hF)) | ((with_reducible refine gbx ?_); refine wH 59 [.int .i64 3, .int .i64 t] hA ?_; clear hF hA; intro bI w1 hA hbI hF; (try simp only [uZ] at hA hF)) | ((with_reducible refine gst ?_); refine wT hA ?_; clear hF hA; intro w1 hA hF; (try simp only [uZ] at hA hF)) | ((with_reducible refine gbx ?_); refine wC hA ?_; clear hF hA; intro b1 w1 hA hb1 hF; (try simp only [uZ] at hA hF)))
     refine (hfo _).mono ?_
     clear hfo
     rintro e w1 ⟨rfl, hx⟩
     have hB := hA.ext hx
     clear hF hA hx; have hA := hB; clear hB
     have hF := hA.facts; (try simp only [uZ] at hA hF)
     go_wp2_with (first | ((with_reducible refine gst ?_); refine wT hA ?_; clear hF hA; intro w1 hA hF; (try simp only [uZ] at hA hF)) | ((with_reducible refine gbx ?_); refine wC hA ?_; clear hF hA; intro b1 w1 hA hb1 hF; (try simp only [uZ] at hA hF)))
     refine (hri _).mono ?_
     clear hri
     rintro e w1 ⟨rfl, hx⟩
     have hB := hA.ext hx
     clear hF hA hx; have hA := hB; clear hB
     have hF := hA.facts; (try simp only [uZ] at hA hF)
     go_wp2_with (first | ((with_reducible refine gal ?_); refine wG 53 [.string .empty, .int .u64 0, .int .i64 0, .int .i64 0, .int .i64 0, .int .i64 0, .int .i64 0, .int .i64 0, .int .i64 0, .int .i64 0] hA ?_; clear hF hA; intro bN w1 hA hbN hF; (try simp only [uZ] at hA hF)) | ((with_reducible refine gst ?_); refine wT hA ?_; clear hF hA; intro w1 hA hF; (try simp only [uZ] at hA hF)) | ((with_reducible refine gbx ?_); refine wC hA ?_; clear hF hA; intro b1 w1 hA hb1 hF; (try simp only [uZ] at hA hF)))
     refine (hcu _).mono ?_
     clear hcu
     rintro e w1 ⟨rfl, hx⟩
     have hB := hA.ext hx
     clear hF hA hx; have hA := hB; clear hB
     have hF := hA.facts; (try simp only [uZ] at hA hF)
     go_wp2_with (first | ((with_reducible show wpList _ _ _ ({ dst := some 44, op := Op.call _, type := _, pos := _, after := _, guard := _ } :: _) _ _); refine wpList_append_at (e := 53) (size := 10) (v := .slice none 0 0) (xs := []) (n := 0) (m := 0) (news := []) rfl _ _ 35 rfl Tryz.underlying35 hi0 hz0 hz1 hz2 rfl (by omega) hA sR (by (try simp only [Act.eval, eV]) <;> exact rfl) (by (try simp only [Act.eval, eV]) <;> exact rfl) rfl (hA.row_reads (v := .slice none 0 0) (n := 0) (xs := []) sR) nofun (by unfold maxLen; omega) (by omega) ?_; intro v1 w1 hB; clear hF hA; have hA := hB; clear hB; (try simp only [Nat.zero_add, List.append_nil, List.nil_append] at hA); have hF := hA.facts; (try simp only [uZ] at hA hF)) | ((with_reducible show wpList _ _ _ ({ dst := _, op := Op.buildSlice _ _ _, type := _, pos := _, after := _, guard := _ } :: _) _ _); refine wpList_one_at (e := 53) (vs := [.string ff, .int .u64 num, .int .i64 cq, .int .i64 0, .int .i64 0, .int .i64 0, .int .i64 (t + 1), .int .i64 0, .int .i64 0, .int .i64 0]) rfl rfl (by (try simp only [Act.eval, eV]) <;> exact rfl) (fun _ => by kernel_rfl) hA ?_; intro b2 w1 hB hb2; clear hF hA; have hA := hB; clear hB; have hF := hA.facts; (try simp only [uZ] at hA hF)) | ((with_reducible show wpList _ _ _ ({ dst := some 48, op := Op.call _, type := _, pos := _, after := _, guard := _ } :: _) _ _); refine wpList_append_at (e := 53) (size := 10) (v := v1) (xs := []) (n := 0) (m := 1) (news := [.string ff, .int .u64 num, .int .i64 cq, .int .i64 0, .int .i64 0, .int .i64 0, .int .i64 (t + 1), .int .i64 0, .int .i64 0, .int .i64 0]) rfl _ _ 35 rfl Tryz.underlying35 hi0 hz0 hz1 hz2 rfl (by omega) hA sR (by (try simp only [Act.eval, eV]) <;> exact rfl) (by (try simp only [Act.eval, eV]) <;> exact rfl) rfl (hA.cells_reads sR _ _) (by intro u hu; simp only [List.mem_cons, List.not_mem_nil, or_false] at hu; rcases hu with rfl | rfl | rfl | rfl | rfl | rfl | rfl | rfl | rfl | rfl <;> rfl) (by unfold maxLen; omega) (by omega) ?_; intro v2 w1 hB; clear hF hA; have hA := hB; clear hB; (try simp only [Nat.zero_add, List.append_nil, List.nil_append] at hA); have hF := hA.facts; (try simp only [uZ] at hA hF)) | ((with_reducible refine gst ?_); refine wT hA ?_; clear hF hA; intro w1 hA hF; (try simp only [uZ] at hA hF)) | ((with_reducible refine gbx ?_); refine wC hA ?_; clear hF hA; intro b1 w1 hA hb1 hF; (try simp only [uZ] at hA hF)))
     go_ret
     exact ⟨_, rfl, hA.toExt⟩
   · go_enter Tryz.func23, Tryz.ntmps23
     go_wp2_with (first | ((with_reducible refine gbx ?_); refine wH 57 [.int .i64 kind, .int .u64 num, .string foot, .int .u64 req, .string path, .int .i64 mode, .int .u64 n, .int .i64 time] hA ?_; clear hF hA; intro bC w1 hA hbC hF; (try simp only [uZ] at hA hF)) | ((with_reducible refine gbx ?_); refine wH 59 [.int .i64 4, .int .i64 t] hA ?_; clear hF hA; intro bI w1 hA hbI hF; (try simp only [uZ] at hA hF)) | ((with_reducible refine gst ?_); refine wT hA ?_; clear hF hA; intro w1 hA hF; (try simp only [uZ] at hA hF)) | ((with_reducible refine gbx ?_); refine wC hA ?_; clear hF hA; intro b1 w1 hA hb1 hF; (try simp only [uZ] at hA hF)))
     refine (hfo _).mono ?_
     clear hfo
     rintro e w1 ⟨rfl, hx⟩
     have hB := hA.ext hx
     clear hF hA hx; have hA := hB; clear hB
     have hF := hA.facts; (try simp only [uZ] at hA hF)
     go_wp2_with (first | ((with_reducible refine gst ?_); refine wT hA ?_; clear hF hA; intro w1 hA hF; (try simp only [uZ] at hA hF)) | ((with_reducible refine gbx ?_); refine wC hA ?_; clear hF hA; intro b1 w1 hA hb1 hF; (try simp only [uZ] at hA hF)))
     refine (hri _).mono ?_
     clear hri
     rintro e w1 ⟨rfl, hx⟩
     have hB := hA.ext hx
     clear hF hA hx; have hA := hB; clear hB
     have hF := hA.facts; (try simp only [uZ] at hA hF)
     go_wp2_with (first | ((with_reducible refine gal ?_); refine wG 53 [.string .empty, .int .u64 0, .int .i64 0, .int .i64 0, .int .i64 0, .int .i64 0, .int .i64 0, .int .i64 0, .int .i64 0, .int .i64 0] hA ?_; clear hF hA; intro bN w1 hA hbN hF; (try simp only [uZ] at hA hF)) | ((with_reducible refine gst ?_); refine wT hA ?_; clear hF hA; intro w1 hA hF; (try simp only [uZ] at hA hF)) | ((with_reducible refine gbx ?_); refine wC hA ?_; clear hF hA; intro b1 w1 hA hb1 hF; (try simp only [uZ] at hA hF)))
     refine (hcu _).mono ?_
     clear hcu
     rintro e w1 ⟨rfl, hx⟩
     have hB := hA.ext hx
     clear hF hA hx; have hA := hB; clear hB
     have hF := hA.facts; (try simp only [uZ] at hA hF)
     go_wp2_with (first | ((with_reducible show wpList _ _ _ ({ dst := some 44, op := Op.call _, type := _, pos := _, after := _, guard := _ } :: _) _ _); refine wpList_append_at (e := 53) (size := 10) (v := .slice none 0 0) (xs := []) (n := 0) (m := 0) (news := []) rfl _ _ 35 rfl Tryz.underlying35 hi0 hz0 hz1 hz2 rfl (by omega) hA sR (by (try simp only [Act.eval, eV]) <;> exact rfl) (by (try simp only [Act.eval, eV]) <;> exact rfl) rfl (hA.row_reads (v := .slice none 0 0) (n := 0) (xs := []) sR) nofun (by unfold maxLen; omega) (by omega) ?_; intro v1 w1 hB; clear hF hA; have hA := hB; clear hB; (try simp only [Nat.zero_add, List.append_nil, List.nil_append] at hA); have hF := hA.facts; (try simp only [uZ] at hA hF)) | ((with_reducible show wpList _ _ _ ({ dst := _, op := Op.buildSlice _ _ _, type := _, pos := _, after := _, guard := _ } :: _) _ _); refine wpList_one_at (e := 53) (vs := [.string ff, .int .u64 num, .int .i64 cq, .int .i64 0, .int .i64 0, .int .i64 0, .int .i64 0, .int .i64 (t + 1), .int .i64 0, .int .i64 0]) rfl rfl (by (try simp only [Act.eval, eV]) <;> exact rfl) (fun _ => by kernel_rfl) hA ?_; intro b2 w1 hB hb2; clear hF hA; have hA := hB; clear hB; have hF := hA.facts; (try simp only [uZ] at hA hF)) | ((with_reducible show wpList _ _ _ ({ dst := some 48, op := Op.call _, type := _, pos := _, after := _, guard := _ } :: _) _ _); refine wpList_append_at (e := 53) (size := 10) (v := v1) (xs := []) (n := 0) (m := 1) (news := [.string ff, .int .u64 num, .int .i64 cq, .int .i64 0, .int .i64 0, .int .i64 0, .int .i64 0, .int .i64 (t + 1), .int .i64 0, .int .i64 0]) rfl _ _ 35 rfl Tryz.underlying35 hi0 hz0 hz1 hz2 rfl (by omega) hA sR (by (try simp only [Act.eval, eV]) <;> exact rfl) (by (try simp only [Act.eval, eV]) <;> exact rfl) rfl (hA.cells_reads sR _ _) (by intro u hu; simp only [List.mem_cons, List.not_mem_nil, or_false] at hu; rcases hu with rfl | rfl | rfl | rfl | rfl | rfl | rfl | rfl | rfl | rfl <;> rfl) (by unfold maxLen; omega) (by omega) ?_; intro v2 w1 hB; clear hF hA; have hA := hB; clear hB; (try simp only [Nat.zero_add, List.append_nil, List.nil_append] at hA); have hF := hA.facts; (try simp only [uZ] at hA hF)) | ((with_reducible refine gst ?_); refine wT hA ?_; clear hF hA; intro w1 hA hF; (try simp only [uZ] at hA hF)) | ((with_reducible refine gbx ?_); refine wC hA ?_; clear hF hA; intro b1 w1 hA hb1 hF; (try simp only [uZ] at hA hF)))
     go_ret
     exact ⟨_, rfl, hA.toExt⟩
   · go_enter Tryz.func23, Tryz.ntmps23
     go_wp2_with (first | ((with_reducible refine gbx ?_); refine wH 57 [.int .i64 kind, .int .u64 num, .string foot, .int .u64 req, .string path, .int .i64 mode, .int .u64 n, .int .i64 time] hA ?_; clear hF hA; intro bC w1 hA hbC hF; (try simp only [uZ] at hA hF)) | ((with_reducible refine gbx ?_); refine wH 59 [.int .i64 5, .int .i64 t] hA ?_; clear hF hA; intro bI w1 hA hbI hF; (try simp only [uZ] at hA hF)) | ((with_reducible refine gst ?_); refine wT hA ?_; clear hF hA; intro w1 hA hF; (try simp only [uZ] at hA hF)) | ((with_reducible refine gbx ?_); refine wC hA ?_; clear hF hA; intro b1 w1 hA hb1 hF; (try simp only [uZ] at hA hF)))
     refine (hfo _).mono ?_
     clear hfo
     rintro e w1 ⟨rfl, hx⟩
     have hB := hA.ext hx
     clear hF hA hx; have hA := hB; clear hB
     have hF := hA.facts; (try simp only [uZ] at hA hF)
     go_wp2_with (first | ((with_reducible refine gst ?_); refine wT hA ?_; clear hF hA; intro w1 hA hF; (try simp only [uZ] at hA hF)) | ((with_reducible refine gbx ?_); refine wC hA ?_; clear hF hA; intro b1 w1 hA hb1 hF; (try simp only [uZ] at hA hF)))
     refine (hri _).mono ?_
     clear hri
     rintro e w1 ⟨rfl, hx⟩
     have hB := hA.ext hx
     clear hF hA hx; have hA := hB; clear hB
     have hF := hA.facts; (try simp only [uZ] at hA hF)
     go_wp2_with (first | ((with_reducible refine gal ?_); refine wG 53 [.string .empty, .int .u64 0, .int .i64 0, .int .i64 0, .int .i64 0, .int .i64 0, .int .i64 0, .int .i64 0, .int .i64 0, .int .i64 0] hA ?_; clear hF hA; intro bN w1 hA hbN hF; (try simp only [uZ] at hA hF)) | ((with_reducible refine gst ?_); refine wT hA ?_; clear hF hA; intro w1 hA hF; (try simp only [uZ] at hA hF)) | ((with_reducible refine gbx ?_); refine wC hA ?_; clear hF hA; intro b1 w1 hA hb1 hF; (try simp only [uZ] at hA hF)))
     refine (hcu _).mono ?_
     clear hcu
     rintro e w1 ⟨rfl, hx⟩
     have hB := hA.ext hx
     clear hF hA hx; have hA := hB; clear hB
     have hF := hA.facts; (try simp only [uZ] at hA hF)
     go_wp2_with (first | ((with_reducible show wpList _ _ _ ({ dst := some 44, op := Op.call _, type := _, pos := _, after := _, guard := _ } :: _) _ _); refine wpList_append_at (e := 53) (size := 10) (v := .slice none 0 0) (xs := []) (n := 0) (m := 0) (news := []) rfl _ _ 35 rfl Tryz.underlying35 hi0 hz0 hz1 hz2 rfl (by omega) hA sR (by (try simp only [Act.eval, eV]) <;> exact rfl) (by (try simp only [Act.eval, eV]) <;> exact rfl) rfl (hA.row_reads (v := .slice none 0 0) (n := 0) (xs := []) sR) nofun (by unfold maxLen; omega) (by omega) ?_; intro v1 w1 hB; clear hF hA; have hA := hB; clear hB; (try simp only [Nat.zero_add, List.append_nil, List.nil_append] at hA); have hF := hA.facts; (try simp only [uZ] at hA hF)) | ((with_reducible show wpList _ _ _ ({ dst := _, op := Op.buildSlice _ _ _, type := _, pos := _, after := _, guard := _ } :: _) _ _); refine wpList_one_at (e := 53) (vs := [.string ff, .int .u64 num, .int .i64 cq, .int .i64 0, .int .i64 0, .int .i64 0, .int .i64 0, .int .i64 0, .int .i64 (t + 1), .int .i64 0]) rfl rfl (by (try simp only [Act.eval, eV]) <;> exact rfl) (fun _ => by kernel_rfl) hA ?_; intro b2 w1 hB hb2; clear hF hA; have hA := hB; clear hB; have hF := hA.facts; (try simp only [uZ] at hA hF)) | ((with_reducible show wpList _ _ _ ({ dst := some 48, op := Op.call _, type := _, pos := _, after := _, guard := _ } :: _) _ _); refine wpList_append_at (e := 53) (size := 10) (v := v1) (xs := []) (n := 0) (m := 1) (news := [.string ff, .int .u64 num, .int .i64 cq, .int .i64 0, .int .i64 0, .int .i64 0, .int .i64 0, .int .i64 0, .int .i64 (t + 1), .int .i64 0]) rfl _ _ 35 rfl Tryz.underlying35 hi0 hz0 hz1 hz2 rfl (by omega) hA sR (by (try simp only [Act.eval, eV]) <;> exact rfl) (by (try simp only [Act.eval, eV]) <;> exact rfl) rfl (hA.cells_reads sR _ _) (by intro u hu; simp only [List.mem_cons, List.not_mem_nil, or_false] at hu; rcases hu with rfl | rfl | rfl | rfl | rfl | rfl | rfl | rfl | rfl | rfl <;> rfl) (by unfold maxLen; omega) (by omega) ?_; intro v2 w1 hB; clear hF hA; have hA := hB; clear hB; (try simp only [Nat.zero_add, List.append_nil, List.nil_append] at hA); have hF := hA.facts; (try simp only [uZ] at hA hF)) | ((with_reducible refine gst ?_); refine wT hA ?_; clear hF hA; intro w1 hA hF; (try simp only [uZ] at hA hF)) | ((with_reducible refine gbx ?_); refine wC hA ?_; clear hF hA; intro b1 w1 hA hb1 hF; (try simp only [uZ] at hA hF)))
     go_ret
     exact ⟨_, rfl, hA.toExt⟩
   · go_enter Tryz.func23, Tryz.ntmps23
     go_wp2_with (first | ((with_reducible refine gbx ?_); refine wH 57 [.int .i64 kind, .int .u64 num, .string foot, .int .u64 req, .string path, .int .i64 mode, .int .u64 n, .int .i64 time] hA ?_; clear hF hA; intro bC w1 hA hbC hF; (try simp only [uZ] at hA hF)) | ((with_reducible refine gbx ?_); refine wH 59 [.int .i64 6, .int .i64 t] hA ?_; clear hF hA; intro bI w1 hA hbI hF; (try simp only [uZ] at hA hF)) | ((with_reducible refine gst ?_); refine wT hA ?_; clear hF hA; intro w1 hA hF; (try simp only [uZ] at hA hF)) | ((with_reducible refine gbx ?_); refine wC hA ?_; clear hF hA; intro b1 w1 hA hb1 hF; (try simp only [uZ] at hA hF)))
     refine (hfo _).mono ?_
     clear hfo
     rintro e w1 ⟨rfl, hx⟩
     have hB := hA.ext hx
     clear hF hA hx; have hA := hB; clear hB
     have hF := hA.facts; (try simp only [uZ] at hA hF)
     go_wp2_with (first | ((with_reducible refine gst ?_); refine wT hA ?_; clear hF hA; intro w1 hA hF; (try simp only [uZ] at hA hF)) | ((with_reducible refine gbx ?_); refine wC hA ?_; clear hF hA; intro b1 w1 hA hb1 hF; (try simp only [uZ] at hA hF)))
     refine (hri _).mono ?_
     clear hri
     rintro e w1 ⟨rfl, hx⟩
     have hB := hA.ext hx
     clear hF hA hx; have hA := hB; clear hB
     have hF := hA.facts; (try simp only [uZ] at hA hF)
     go_wp2_with (first | ((with_reducible refine gal ?_); refine wG 53 [.string .empty, .int .u64 0, .int .i64 0, .int .i64 0, .int .i64 0, .int .i64 0, .int .i64 0, .int .i64 0, .int .i64 0, .int .i64 0] hA ?_; clear hF hA; intro bN w1 hA hbN hF; (try simp only [uZ] at hA hF)) | ((with_reducible refine gst ?_); refine wT hA ?_; clear hF hA; intro w1 hA hF; (try simp only [uZ] at hA hF)) | ((with_reducible refine gbx ?_); refine wC hA ?_; clear hF hA; intro b1 w1 hA hb1 hF; (try simp only [uZ] at hA hF)))
     refine (hcu _).mono ?_
     clear hcu
     rintro e w1 ⟨rfl, hx⟩
     have hB := hA.ext hx
     clear hF hA hx; have hA := hB; clear hB
     have hF := hA.facts; (try simp only [uZ] at hA hF)
     go_wp2_with (first | ((with_reducible show wpList _ _ _ ({ dst := some 44, op := Op.call _, type := _, pos := _, after := _, guard := _ } :: _) _ _); refine wpList_append_at (e := 53) (size := 10) (v := .slice none 0 0) (xs := []) (n := 0) (m := 0) (news := []) rfl _ _ 35 rfl Tryz.underlying35 hi0 hz0 hz1 hz2 rfl (by omega) hA sR (by (try simp only [Act.eval, eV]) <;> exact rfl) (by (try simp only [Act.eval, eV]) <;> exact rfl) rfl (hA.row_reads (v := .slice none 0 0) (n := 0) (xs := []) sR) nofun (by unfold maxLen; omega) (by omega) ?_; intro v1 w1 hB; clear hF hA; have hA := hB; clear hB; (try simp only [Nat.zero_add, List.append_nil, List.nil_append] at hA); have hF := hA.facts; (try simp only [uZ] at hA hF)) | ((with_reducible show wpList _ _ _ ({ dst := _, op := Op.buildSlice _ _ _, type := _, pos := _, after := _, guard := _ } :: _) _ _); refine wpList_one_at (e := 53) (vs := [.string ff, .int .u64 num, .int .i64 cq, .int .i64 0, .int .i64 0, .int .i64 0, .int .i64 0, .int .i64 0, .int .i64 0, .int .i64 (t + 1)]) rfl rfl (by (try simp only [Act.eval, eV]) <;> exact rfl) (fun _ => by kernel_rfl) hA ?_; intro b2 w1 hB hb2; clear hF hA; have hA := hB; clear hB; have hF := hA.facts; (try simp only [uZ] at hA hF)) | ((with_reducible show wpList _ _ _ ({ dst := some 48, op := Op.call _, type := _, pos := _, after := _, guard := _ } :: _) _ _); refine wpList_append_at (e := 53) (size := 10) (v := v1) (xs := []) (n := 0) (m := 1) (news := [.string ff, .int .u64 num, .int .i64 cq, .int .i64 0, .int .i64 0, .int .i64 0, .int .i64 0, .int .i64 0, .int .i64 0, .int .i64 (t + 1)]) rfl _ _ 35 rfl Tryz.underlying35 hi0 hz0 hz1 hz2 rfl (by omega) hA sR (by (try simp only [Act.eval, eV]) <;> exact rfl) (by (try simp only [Act.eval, eV]) <;> exact rfl) rfl (hA.cells_reads sR _ _) (by intro u hu; simp only [List.mem_cons, List.not_mem_nil, or_false] at hu; rcases hu with rfl | rfl | rfl | rfl | rfl | rfl | rfl | rfl | rfl | rfl <;> rfl) (by unfold maxLen; omega) (by omega) ?_; intro v2 w1 hB; clear hF hA; have hA := hB; clear hB; (try simp only [Nat.zero_add, List.append_nil, List.nil_append] at hA); have hF := hA.facts; (try simp only [uZ] at hA hF)) | ((with_reducible refine gst ?_); refine wT hA ?_; clear hF hA; intro w1 hA hF; (try simp only [uZ] at hA hF)) | ((with_reducible refine gbx ?_); refine wC hA ?_; clear hF hA; intro b1 w1 hA hb1 hF; (try simp only [uZ] at hA hF)))
     go_ret
     exact ⟨_, rfl, hA.toExt⟩
end Go.Proofs.YtgbpfgdjnhbcgaaGreatDoor.Ix
end
section
namespace Go
open _root_.Go.Proofs.YtgbpfgdjnhbcgaaGreatDoor
open Go.RowKit
section
variable {P : Program} {ops : Array Oper} {Q : Exit → Act → World → Prop} {md : Region.Mode} {S : World → Prop} {L0 L F : List Part} {w0 w : World}
theorem opAlloc_at {i : Nat} {d : Option Tmp} {o : Oper} {a : Act} {K : Act → World → Prop} {E : TypeId} (ho : ops[i]? = some o) (hd : o.dst = d) (hw : Region.wanted o (yielded ops a.tmps) = true) (hop : o.op = .alloc E) {z : Value} (hz : (P.info? E).map (·.zero) = some (some z)) {vs : List Value} (hv : z.cells = vs.toArray) (h : At L0 w0 L w)
 (hK : ∀ b w', At L0 w0 (Part.cells b vs E :: L) w' → K (a.put d (.pointer (some ⟨b, 0, none⟩))) w') : wpOp P ops Q i K a w := by
 subst hd
 refine wpOp_val ho hw (v := .pointer (some ⟨w.heap.size, 0, none⟩)) (w' := w.alloc (.cells vs.toArray E)) ?_ (hK _ _ (h.alloc vs E))
 cases hq : P.info? E with
 | none => simp [hq] at hz
 | some i =>
  have hi : i.zero = some z := by simpa [hq] using hz
  simp [execOp, hop, Instr.alloc, zeroValue, typeInfo, hq, hi, newVar, newRow, hv, Result.andThen]
theorem opZero_at {i : Nat} {d : Option Tmp} {o : Oper} {a : Act} {K : Act → World → Prop} {t : TypeId} {e : TypeId} (size : Nat) (ho : ops[i]? = some o) (hd : o.dst = d) (hw : Region.wanted o (yielded ops a.tmps) = true) (hop : o.op = .buildSlice t 0 #[])
 (hrun : ∀ w, (Instr.buildSlice t 0 #[]).run P w = .ok (.slice (some ⟨w.heap.size, 0, none⟩) 0 0) (w.alloc (.cells #[] e))) (h : At L0 w0 L w)
 (hK : ∀ b w', At L0 w0 (Part.row e size (.slice (some ⟨b, 0, none⟩) 0 0) 0 [] :: L) w' → K (a.put d (.slice (some ⟨b, 0, none⟩) 0 0)) w') : wpOp P ops Q i K a w := by
 subst hd
 refine wpOp_val ho hw (v := .slice (some ⟨w.heap.size, 0, none⟩) 0 0) (w' := w.alloc (.cells #[] e)) (by simp [execOp, hop, hrun, Result.andThen]) (hK _ _ ?_)
 refine h.new ((Ext.refl w).alloc _) _ ⟨by simp, .inr ⟨w.heap.size, 0, #[], rfl, Nat.zero_le _, heap_alloc_new w _, Nat.le_refl _, Nat.zero_le _, by simp, by simp⟩⟩ (fun b hb => ?_)
 have hb2 : (Value.slice (some ⟨w.heap.size, 0, none⟩) 0 0).ownBlock = some b := hb
 cases hb2
 exact Nat.le_refl _
theorem ret_eq {e : Ending} {v : Value} {R : World → Prop} {w' : World} (h : e = .returned v ∧ R w') : ∃ u, e = .returned u ∧ (u = v ∧ R w') := ⟨v, h.1, rfl, h.2⟩
end
end Go
section
namespace Go
open _root_.Go.Proofs.YtgbpfgdjnhbcgaaGreatDoor
open Go.RowKit
end Go
end
end
