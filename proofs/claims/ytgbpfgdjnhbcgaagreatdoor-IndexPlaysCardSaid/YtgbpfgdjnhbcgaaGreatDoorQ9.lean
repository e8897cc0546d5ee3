/- AttrW, joined. -/
import Derived.Test.YtgbpfgdjnhbcgaaGreatDoorQ3
import Derived.Test.YtgbpfgdjnhbcgaaGreatDoorQ8
set_option linter.unusedSimpArgs false
set_option linter.unusedVariables false
set_option maxRecDepth 100000
set_option maxHeartbeats 16000000
section
namespace Go.Proofs.YtgbpfgdjnhbcgaaGreatDoor.Attr
open Go.RowKit
theorem idRight_any (r t : Int) (w : World) : Calls Tryz.prog 33 #[.agg #[.int .i64 r, .int .i64 t]] w fun e w' => e = .returned (.bool (rightI r t)) ∧ Ext w w' := by
 have hA : At [] w [] w := At.start (L0 := []) trivial
 have hF := hA.facts
 obtain ⟨x0, h0⟩ : ∃ x, decide (0 ≤ r) = x := ⟨_, rfl⟩
 obtain ⟨x1, h1⟩ : ∃ x, decide (r ≤ 6) = x := ⟨_, rfl⟩
 obtain ⟨x2, h2⟩ : ∃ x, decide (0 ≤ t) = x := ⟨_, rfl⟩
 obtain ⟨x3, h3⟩ : ∃ x, decide (t < 1024) = x := ⟨_, rfl⟩
 have e : rightI r t = (x0 && x1 && x2 && x3) := by unfold rightI; rw [h0, h1, h2, h3]
 rw [e]
 clear e
 have hF := hA.facts; (try simp only [uY] at hA hF)
 go_enter Tryz.func33, Tryz.ntmps33
 cases x0
 · go_wp2_with (first | ((with_reducible refine gbx ?_); refine wC (E := 29) hA ?_; clear hF hA; intro bX w1 hA hbX hF; (try simp only [uY] at hA hF)) | ((with_reducible refine gst ?_); refine wT hA ?_; clear hF hA; intro w1 hA hF; (try simp only [uY] at hA hF)) | ((with_reducible refine gbx ?_); refine wC hA ?_; clear hF hA; intro b1 w1 hA hb1 hF; (try simp only [uY] at hA hF)))
   go_ret
   exact ⟨rfl, hA.toExt⟩
 · cases x1
   · go_wp2_with (first | ((with_reducible refine gbx ?_); refine wC (E := 29) hA ?_; clear hF hA; intro bX w1 hA hbX hF; (try simp only [uY] at hA hF)) | ((with_reducible refine gst ?_); refine wT hA ?_; clear hF hA; intro w1 hA hF; (try simp only [uY] at hA hF)) | ((with_reducible refine gbx ?_); refine wC hA ?_; clear hF hA; intro b1 w1 hA hb1 hF; (try simp only [uY] at hA hF)))
     go_ret
     exact ⟨rfl, hA.toExt⟩
   · cases x2
     · go_wp2_with (first | ((with_reducible refine gbx ?_); refine wC (E := 29) hA ?_; clear hF hA; intro bX w1 hA hbX hF; (try simp only [uY] at hA hF)) | ((with_reducible refine gst ?_); refine wT hA ?_; clear hF hA; intro w1 hA hF; (try simp only [uY] at hA hF)) | ((with_reducible refine gbx ?_); refine wC hA ?_; clear hF hA; intro b1 w1 hA hb1 hF; (try simp only [uY] at hA hF)))
       go_ret
       exact ⟨rfl, hA.toExt⟩
     · cases x3
       · go_wp2_with (first | ((with_reducible refine gbx ?_); refine wC (E := 29) hA ?_; clear hF hA; intro bX w1 hA hbX hF; (try simp only [uY] at hA hF)) | ((with_reducible refine gst ?_); refine wT hA ?_; clear hF hA; intro w1 hA hF; (try simp only [uY] at hA hF)) | ((with_reducible refine gbx ?_); refine wC hA ?_; clear hF hA; intro b1 w1 hA hb1 hF; (try simp only [uY] at hA hF)))
         go_ret
         exact ⟨rfl, hA.toExt⟩
       · go_wp2_with (first | ((with_reducible refine gbx ?_); refine wC (E := 29) hA ?_; clear hF hA; intro bX w1 hA hbX hF; (try simp only [uY] at hA hF)) | ((with_reducible refine gst ?_); refine wT hA ?_; clear hF hA; intro w1 hA hF; (try simp only [uY] at hA hF)) | ((with_reducible refine gbx ?_); refine wC hA ?_; clear hF hA; intro b1 w1 hA hb1 hF; (try simp only [uY] at hA hF)))
         go_ret
         exact ⟨rfl, hA.toExt⟩
theorem merge_any (a b : A8) (w : World) : Calls Tryz.prog 35 #[a.val, b.val] w fun e w' => e = .returned (a.merge b).val ∧ Ext w w' := by
 have hA : At [] w [] w := At.start (L0 := []) trivial
 have hF := hA.facts
 obtain ⟨s, d0, d1, d2, d3, d4, d5, d6⟩ := a
 obtain ⟨t, f0, f1, f2, f3, f4, f5, f6⟩ := b
 simp only [A8.val, A8.merge]
 have hF := hA.facts; (try simp only [uY] at hA hF)
 go_enter Tryz.func35, Tryz.ntmps35
 go_wp2_with (first | ((with_reducible show wpList _ _ _ ({ dst := some 2, op := Op.box _ _, type := _, pos := _, after := _, guard := _ } :: _) _ _); ((with_reducible refine gbx ?_); refine wH 40 [.int .i64 s, .int .i64 d0, .int .i64 d1, .int .i64 d2, .int .i64 d3, .int .i64 d4, .int .i64 d5, .int .i64 d6] hA ?_; clear hF hA; intro bA w1 hA hbA hF; (try simp only [uY] at hA hF))) | ((with_reducible show wpList _ _ _ ({ dst := some 3, op := Op.box _ _, type := _, pos := _, after := _, guard := _ } :: _) _ _); ((with_reducible refine gbx ?_); refine wH 40 [.int .i64 t, .int .i64 f0, .int .i64 f1, .int .i64 f2, .int .i64 f3, .int .i64 f4, .int .i64 f5, .int .i64 f6] hA ?_; clear hF hA; intro bB w1 hA hbB hF; (try simp only [uY] at hA hF))) | ((with_reducible refine gal ?_); refine wG 40 [.int .i64 0, .int .i64 0, .int .i64 0, .int .i64 0, .int .i64 0, .int .i64 0, .int .i64 0, .int .i64 0] hA ?_; clear hF hA; intro bR w1 hA hbR hF; (try simp only [uY] at hA hF)) | ((with_reducible refine gst ?_); refine wT hA ?_; clear hF hA; intro w1 hA hF; (try simp only [uY] at hA hF)) | ((with_reducible refine gbx ?_); refine wC hA ?_; clear hF hA; intro b1 w1 hA hb1 hF; (try simp only [uY] at hA hF)))
 refine wp_loop_rounds 8 ?_
 rw [rounds_succ]
 go_wp2_with (first | ((with_reducible refine gst ?_); refine wT hA ?_; clear hF hA; intro w1 hA hF; (try simp only [uY] at hA hF)) | ((with_reducible refine gbx ?_); refine wC hA ?_; clear hF hA; intro b1 w1 hA hb1 hF; (try simp only [uY] at hA hF)))
 try go_frame
 (refine wp_region_head 12 (Cl _ _ _) (by kernel_rfl) (by kernel_rfl) (Cl.drew hA) ?_); (simp only [List.take_succ_cons, List.take_zero, List.drop_succ_cons, List.drop_zero]); (have hn1 := Cl.none hA); (have hn2 := Cl.none2 hA); (repeat (first | go_big_quiet_skip | (go_big_quiet_want; (first | (refine qL ?_; go_frame; go_big_quiet_on) | (go_big_quiet_op; (first | go_big_quiet_on | ((apply Exists.intro); (refine ⟨fun w1 hw => ?_, ?_⟩); (focus ((have hw := Cl.out hw); (fail))); (go_big_quiet_on))))))))
 (refine wpQuiet_nil ?_); (intro w1 hB); (clear hF hA hn1 hn2); (have hA := Cl.out hB); (clear hB); have hF := hA.facts; (try simp only [uY] at hA hF)
 go_wp2_with (first | ((with_reducible refine gst ?_); refine wT hA ?_; clear hF hA; intro w1 hA hF; (try simp only [uY] at hA hF)) | ((with_reducible refine gbx ?_); refine wC hA ?_; clear hF hA; intro b1 w1 hA hb1 hF; (try simp only [uY] at hA hF)))
 rw [rounds_succ]
 go_wp2_with (first | ((with_reducible refine gst ?_); refine wT hA ?_; clear hF hA; intro w1 hA hF; (try simp only [uY] at hA hF)) | ((with_reducible refine gbx ?_); refine wC hA ?_; clear hF hA; intro b1 w1 hA hb1 hF; (try simp only [uY] at hA hF)))
 try go_frame
 (refine wp_region_head 12 (Cl _ _ _) (by kernel_rfl) (by kernel_rfl) (Cl.drew hA) ?_); (simp only [List.take_succ_cons, List.take_zero, List.drop_succ_cons, List.drop_zero]); (have hn1 := Cl.none hA); (have hn2 := Cl.none2 hA); (repeat (first | go_big_quiet_skip | (go_big_quiet_want; (first | (refine qL ?_; go_frame; go_big_quiet_on) | (go_big_quiet_op; (first | go_big_quiet_on | ((apply Exists.intro); (refine ⟨fun w1 hw => ?_, ?_⟩); (focus ((have hw := Cl.out hw); (fail))); (go_big_quiet_on))))))))
 (refine wpQuiet_nil ?_); (intro w1 hB); (clear hF hA hn1 hn2); (have hA := Cl.out hB); (clear hB); have hF := hA.facts; (try simp only [uY] at hA hF)
 go_wp2_with (first | ((with_reducible refine gst ?_); refine wT hA ?_; clear hF hA; intro w1 hA hF; (try simp only [uY] at hA hF)) | ((with_reducible refine gbx ?_); refine wC hA ?_; clear hF hA; intro b1 w1 hA hb1 hF; (try simp only [uY] at hA hF)))
 rw [rounds_succ]
 go_wp2_with (first | ((with_reducible refine gst ?_); refine wT hA ?_; clear hF hA; intro w1 hA hF; (try simp only [uY] at hA hF)) | ((with_reducible refine gbx ?_); refine wC hA ?_; clear hF hA; intro b1 w1 hA hb1 hF; (try simp only [uY] at hA hF)))
 try go_frame
 (refine wp_region_head 12 (Cl _ _ _) (by kernel_rfl) (by kernel_rfl) (Cl.drew hA) ?_); (simp only [List.take_succ_cons, List.take_zero, List.drop_succ_cons, List.drop_zero]); (have hn1 := Cl.none hA); (have hn2 := Cl.none2 hA); (repeat (first | go_big_quiet_skip | (go_big_quiet_want; (first | (refine qL ?_; go_frame; go_big_quiet_on) | (go_big_quiet_op; (first | go_big_quiet_on | ((apply Exists.intro); (refine ⟨fun w1 hw => ?_, ?_⟩); (focus ((have hw := Cl.out hw); (fail))); (go_big_quiet_on))))))))
 (refine wpQuiet_nil ?_); (intro w1 hB); (clear hF hA hn1 hn2); (have hA := Cl.out hB); (clear hB); have hF := hA.facts; (try simp only [uY] at hA hF)
 go_wp2_with (first | ((with_reducible refine gst ?_); refine wT hA ?_; clear hF hA; intro w1 hA hF; (try simp only [uY] at hA hF)) | ((with_reducible refine gbx ?_); refine wC hA ?_; clear hF hA; intro b1 w1 hA hb1 hF; (try simp only [uY] at hA hF)))
 rw [rounds_succ]
 go_wp2_with (first | ((with_reducible refine gst ?_); refine wT hA ?_; clear hF hA; intro w1 hA hF; (try simp only [uY] at hA hF)) | ((with_reducible refine gbx ?_); refine wC hA ?_; clear hF hA; intro b1 w1 hA hb1 hF; (try simp only [uY] at hA hF)))
 try go_frame
 (refine wp_region_head 12 (Cl _ _ _) (by kernel_rfl) (by kernel_rfl) (Cl.drew hA) ?_); (simp only [List.take_succ_cons, List.take_zero, List.drop_succ_cons, List.drop_zero]); (have hn1 := Cl.none hA); (have hn2 := Cl.none2 hA); (repeat (first | go_big_quiet_skip | (go_big_quiet_want; (first | (refine qL ?_; go_frame; go_big_quiet_on) | (go_big_quiet_op; (first | go_big_quiet_on | ((apply Exists.intro); (refine ⟨fun w1 hw => ?_, ?_⟩); (focus ((have hw := Cl.out hw); (fail))); (go_big_quiet_on))))))))
 (refine wpQuiet_nil ?_); (intro w1 hB); (clear hF hA hn1 hn2); (have hA := Cl.out hB); (clear hB); have hF := hA.facts; (try simp only [uY] at hA hF)
 go_wp2_with (first | ((with_reducible refine gst ?_); refine wT hA ?_; clear hF hA; intro w1 hA hF; (try simp only [uY] at hA hF)) | ((with_reducible refine gbx ?_); refine wC hA ?_; clear hF hA; intro b1 w1 hA hb1 hF; (try simp only [uY] at hA hF)))
 rw [rounds_succ]
 go_wp2_with (first | ((with_reducible refine gst ?_); refine wT hA ?_; clear hF hA; intro w1 hA hF; (try simp only [uY] at hA hF)) | ((with_reducible refine gbx ?_); refine wC hA ?_; clear hF hA; intro b1 w1 hA hb1 hF; (try simp only [uY] at hA hF)))
 try go_frame
 (refine wp_region_head 12 (Cl _ _ _) (by kernel_rfl) (by kernel_rfl) (Cl.drew hA) ?_); (simp only [List.take_succ_cons, List.take_zero, List.drop_succ_cons, List.drop_zero]); (have hn1 := Cl.none hA); (have hn2 := Cl.none2 hA); (repeat (first | go_big_quiet_skip | (go_big_quiet_want; (first | (refine qL ?_; go_frame; go_big_quiet_on) | (go_big_quiet_op; (first | go_big_quiet_on | ((apply Exists.intro); (refine ⟨fun w1 hw => ?_, ?_⟩); (focus ((have hw := Cl.out hw); (fail))); (go_big_quiet_on))))))))
 (refine wpQuiet_nil ?_); (intro w1 hB); (clear hF hA hn1 hn2); (have hA := Cl.out hB); (clear hB); have hF := hA.facts; (try simp only [uY] at hA hF)
 go_wp2_with (first | ((with_reducible refine gst ?_); refine wT hA ?_; clear hF hA; intro w1 hA hF; (try simp only [uY] at hA hF)) | ((with_reducible refine gbx ?_); refine wC hA ?_; clear hF hA; intro b1 w1 hA hb1 hF; (try simp only [uY] at hA hF)))
 rw [rounds_succ]
 go_wp2_with (first | ((with_reducible refine gst ?_); refine wT hA ?_; clear hF hA; intro w1 hA hF; (try simp only [uY] at hA hF)) | ((with_reducible refine gbx ?_); refine wC hA ?_; clear hF hA; intro b1 w1 hA hb1 hF; (try simp only [uY] at hA hF)))
 try go_frame
 (refine wp_region_head 12 (Cl _ _ _) (by kernel_rfl) (by kernel_rfl) (Cl.drew hA) ?_); (simp only [List.take_succ_cons, List.take_zero, List.drop_succ_cons, List.drop_zero]); (have hn1 := Cl.none hA); (have hn2 := Cl.none2 hA); (repeat (first | go_big_quiet_skip | (go_big_quiet_want; (first | (refine qL ?_; go_frame; go_big_quiet_on) | (go_big_quiet_op; (first | go_big_quiet_on | ((apply Exists.intro); (refine ⟨fun w1 hw => ?_, ?_⟩); (focus ((have hw := Cl.out hw); (fail))); (go_big_quiet_on))))))))
 (refine wpQuiet_nil ?_); (intro w1 hB); (clear hF hA hn1 hn2); (have hA := Cl.out hB); (clear hB); have hF := hA.facts; (try simp only [uY] at hA hF)
 go_wp2_with (first | ((with_reducible refine gst ?_); refine wT hA ?_; clear hF hA; intro w1 hA hF; (try simp only [uY] at hA hF)) | ((with_reducible refine gbx ?_); refine wC hA ?_; clear hF hA; intro b1 w1 hA hb1 hF; (try simp only [uY] at hA hF)))
 rw [rounds_succ]
 go_wp2_with (first | ((with_reducible refine gst ?_); refine wT hA ?_; clear hF hA; intro w1 hA hF; (try simp only [uY] at hA hF)) | ((with_reducible refine gbx ?_); refine wC hA ?_; clear hF hA; intro b1 w1 hA hb1 hF; (try simp only [uY] at hA hF)))
 try go_frame
 (refine wp_region_head 12 (Cl _ _ _) (by kernel_rfl) (by kernel_rfl) (Cl.drew hA) ?_); (simp only [List.take_succ_cons, List.take_zero, List.drop_succ_cons, List.drop_zero]); (have hn1 := Cl.none hA); (have hn2 := Cl.none2 hA); (repeat (first | go_big_quiet_skip | (go_big_quiet_want; (first | (refine qL ?_; go_frame; go_big_quiet_on) | (go_big_quiet_op; (first | go_big_quiet_on | ((apply Exists.intro); (refine ⟨fun w1 hw => ?_, ?_⟩); (focus ((have hw := Cl.out hw); (fail))); (go_big_quiet_on))))))))
 (refine wpQuiet_nil ?_); (intro w1 hB); (clear hF hA hn1 hn2); (have hA := Cl.out hB); (clear hB); have hF := hA.facts; (try simp only [uY] at hA hF)
 go_wp2_with (first | ((with_reducible refine gst ?_); refine wT hA ?_; clear hF hA; intro w1 hA hF; (try simp only [uY] at hA hF)) | ((with_reducible refine gbx ?_); refine wC hA ?_; clear hF hA; intro b1 w1 hA hb1 hF; (try simp only [uY] at hA hF)))
 rw [rounds_succ]
 go_wp2_with (first | ((with_reducible refine gst ?_); refine wT hA ?_; clear hF hA; intro w1 hA hF; (try simp only [uY] at hA hF)) | ((with_reducible refine gbx ?_); refine wC hA ?_; clear hF hA; intro b1 w1 hA hb1 hF; (try simp only [uY] at hA hF)))
 refine bodyPost_ret (v := .agg #[.int .i64 (max s t), .int .i64 (max d0 f0), .int .i64 (max d1 f1), .int .i64 (max d2 f2), .int .i64 (max d3 f3), .int .i64 (max d4 f4), .int .i64 (max d5 f5), .int .i64 (max d6 f6)]) (by simp [results, Tryz.results35, go_sem, hF]) rfl ⟨rfl, hA.toExt⟩
theorem past_any (a : A8) (q : Int) (w : World) : Calls Tryz.prog 36 #[a.val, .int .i64 q] w fun e w' => e = .returned (a.past q).val ∧ Ext w w' := by
 have hA : At [] w [] w := At.start (L0 := []) trivial
 have hF := hA.facts
 obtain ⟨s, d0, d1, d2, d3, d4, d5, d6⟩ := a
 by_cases hq : 0 ≤ q
 · have hw : IntKind.i64.wrap (min q 1073741823 + 1) = min q 1073741823 + 1 := by rw [IntKind.wrap_i64] <;> omega
   have e : A8.past ⟨s, d0, d1, d2, d3, d4, d5, d6⟩ q = ⟨max s (min q 1073741823 + 1), d0, d1, d2, d3, d4, d5, d6⟩ := by unfold A8.past; rw [if_pos hq]
   rw [e]
   simp only [A8.val]
   clear e
   have hF := hA.facts; (try simp only [uY] at hA hF)
   go_enter Tryz.func36, Tryz.ntmps36
   go_wp2_with (first | ((with_reducible refine gbx ?_); refine wH 40 [.int .i64 s, .int .i64 d0, .int .i64 d1, .int .i64 d2, .int .i64 d3, .int .i64 d4, .int .i64 d5, .int .i64 d6] hA ?_; clear hF hA; intro bA w1 hA hbA hF; (try simp only [uY] at hA hF)) | ((with_reducible refine gal ?_); refine wG 40 [.int .i64 0, .int .i64 0, .int .i64 0, .int .i64 0, .int .i64 0, .int .i64 0, .int .i64 0, .int .i64 0] hA ?_; clear hF hA; intro bR w1 hA hbR hF; (try simp only [uY] at hA hF)) | ((with_reducible refine gst ?_); refine wT hA ?_; clear hF hA; intro w1 hA hF; (try simp only [uY] at hA hF)) | ((with_reducible refine gbx ?_); refine wC hA ?_; clear hF hA; intro b1 w1 hA hb1 hF; (try simp only [uY] at hA hF)))
   refine bodyPost_ret (v := .agg #[.int .i64 (max s (min q 1073741823 + 1)), .int .i64 d0, .int .i64 d1, .int .i64 d2, .int .i64 d3, .int .i64 d4, .int .i64 d5, .int .i64 d6]) (by simp [results, Tryz.results36, go_sem, hF]) rfl ⟨rfl, hA.toExt⟩
 · have e : A8.past ⟨s, d0, d1, d2, d3, d4, d5, d6⟩ q = ⟨s, d0, d1, d2, d3, d4, d5, d6⟩ := by unfold A8.past; rw [if_neg hq]
   rw [e]
   simp only [A8.val]
   clear e
   have hF := hA.facts; (try simp only [uY] at hA hF)
   go_enter Tryz.func36, Tryz.ntmps36
   go_wp2_with (first | ((with_reducible refine gbx ?_); refine wH 40 [.int .i64 s, .int .i64 d0, .int .i64 d1, .int .i64 d2, .int .i64 d3, .int .i64 d4, .int .i64 d5, .int .i64 d6] hA ?_; clear hF hA; intro bA w1 hA hbA hF; (try simp only [uY] at hA hF)) | ((with_reducible refine gal ?_); refine wG 40 [.int .i64 0, .int .i64 0, .int .i64 0, .int .i64 0, .int .i64 0, .int .i64 0, .int .i64 0, .int .i64 0] hA ?_; clear hF hA; intro bR w1 hA hbR hF; (try simp only [uY] at hA hF)) | ((with_reducible refine gst ?_); refine wT hA ?_; clear hF hA; intro w1 hA hF; (try simp only [uY] at hA hF)) | ((with_reducible refine gbx ?_); refine wC hA ?_; clear hF hA; intro b1 w1 hA hb1 hF; (try simp only [uY] at hA hF)))
   refine bodyPost_ret (v := .agg #[.int .i64 s, .int .i64 d0, .int .i64 d1, .int .i64 d2, .int .i64 d3, .int .i64 d4, .int .i64 d5, .int .i64 d6]) (by simp [results, Tryz.results36, go_sem, hF]) rfl ⟨rfl, hA.toExt⟩
theorem own_any (a : A8) (r t : Int) (w : World) : Calls Tryz.prog 37 #[a.val, .agg #[.int .i64 r, .int .i64 t]] w fun e w' => e = .returned (a.own r t).val ∧ Ext w w' := by
 have hA : At [] w [] w := At.start (L0 := []) trivial
 have hF := hA.facts
 obtain ⟨s, d0, d1, d2, d3, d4, d5, d6⟩ := a
 have hr := fun w => idRight_any r t w
 by_cases hb : rightI r t = true
 · rw [hb] at hr
   have hq := rightI_iff.1 hb
   have e : ∀ a : A8, a.own r t = a.set r.toNat t := fun a => by unfold A8.own; rw [if_pos hb]
   rw [e]
   clear e hb
   obtain ⟨q, rfl⟩ : ∃ q : Nat, r = q := ⟨r.toNat, by omega⟩
   have hq7 : q = 0 ∨ q = 1 ∨ q = 2 ∨ q = 3 ∨ q = 4 ∨ q = 5 ∨ q = 6 := by omega
   clear hq
   have hF := hA.facts; (try simp only [uY] at hA hF)
   rcases hq7 with rfl | rfl | rfl | rfl | rfl | rfl | rfl
   · simp only [A8.val, A8.set, Int.toNat_natCast] at *
     go_enter Tryz.func37, Tryz.ntmps37
     go_wp2_with (first | ((with_reducible refine gbx ?_); refine wH 40 [.int .i64 s, .int .i64 d0, .int .i64 d1, .int .i64 d2, .int .i64 d3, .int .i64 d4, .int .i64 d5, .int .i64 d6] hA ?_; clear hF hA; intro bA w1 hA hbA hF; (try simp only [uY] at hA hF)) | ((with_reducible refine gbx ?_); refine wH 29 [.int .i64 ((0 : Nat) : Int), .int .i64 t] hA ?_; clear hF hA; intro bI w1 hA hbI hF; (try simp only [uY] at hA hF)) | ((with_reducible refine gal ?_); refine wG 40 [.int .i64 0, .int .i64 0, .int .i64 0, .int .i64 0, .int .i64 0, .int .i64 0, .int .i64 0, .int .i64 0] hA ?_; clear hF hA; intro bR w1 hA hbR hF; (try simp only [uY] at hA hF)) | ((with_reducible refine gst ?_); refine wT hA ?_; clear hF hA; intro w1 hA hF; (try simp only [uY] at hA hF)) | ((with_reducible refine gbx ?_); refine wC hA ?_; clear hF hA; intro b1 w1 hA hb1 hF; (try simp only [uY] at hA hF)))
     refine (hr _).mono ?_
     clear hr
     rintro e w1 ⟨rfl, hx⟩
     have hB := hA.ext hx
     clear hF hA hx; have hA := hB; clear hB
     have hF := hA.facts; (try simp only [uY] at hA hF)
     go_wp2_with (first | ((with_reducible refine gst ?_); refine wT hA ?_; clear hF hA; intro w1 hA hF; (try simp only [uY] at hA hF)) | ((with_reducible refine gbx ?_); refine wC hA ?_; clear hF hA; intro b1 w1 hA hb1 hF; (try simp only [uY] at hA hF)))
     refine bodyPost_ret (v := .agg #[.int .i64 s, .int .i64 t, .int .i64 d1, .int .i64 d2, .int .i64 d3, .int .i64 d4, .int .i64 d5, .int .i64 d6]) (by simp [results, Tryz.results37, go_sem, hF]) rfl ⟨rfl, hA.toExt⟩
   · simp only [A8.val, A8.set, Int.toNat_natCast] at *
     go_enter Tryz.func37, Tryz.ntmps37
     go_wp2_with (first | ((with_reducible refine gbx ?_); refine wH 40 [.int .i64 s, .int .i64 d0, .int .i64 d1, .int .i64 d2, .int .i64 d3, .int .i64 d4, .int .i64 d5, .int .i64 d6] hA ?_; clear hF hA; intro bA w1 hA hbA hF; (try simp only [uY] at hA hF)) | ((with_reducible refine gbx ?_); refine wH 29 [.int .i64 ((1 : Nat) : Int), .int .i64 t] hA ?_; clear hF hA; intro bI w1 hA hbI hF; (try simp only [uY] at hA hF)) | ((with_reducible refine gal ?_); refine wG 40 [.int .i64 0, .int .i64 0, .int .i64 0, .int .i64 0, .int .i64 0, .int .i64 0, .int .i64 0, .int .i64 0] hA ?_; clear hF hA; intro bR w1 hA hbR hF; (try simp only [uY] at hA hF)) | ((with_reducible refine gst ?_); refine wT hA ?_; clear hF hA; intro w1 hA hF; (try simp only [uY] at hA hF)) | ((with_reducible refine gbx ?_); refine wC hA ?_; clear hF hA; intro b1 w1 hA hb1 hF; (try simp only [uY] at hA hF)))
     refine (hr _).mono ?_
     clear hr
     rintro e w1 ⟨rfl, hx⟩
     have hB := hA.ext hx
     clear hF hA hx; have hA := hB; clear hB
     have hF := hA.facts; (try simp only [uY] at hA hF)
     go_wp2_with (first | ((with_reducible refine gst ?_); refine wT hA ?_; clear hF hA; intro w1 hA hF; (try simp only [uY] at hA hF)) | ((with_reducible refine gbx ?_); refine wC hA ?_; clear hF hA; intro b1 w1 hA hb1 hF; (try simp only [uY] at hA hF)))
     refine bodyPost_ret (v := .agg #[.int .i64 s, .int .i64 d0, .int .i64 t, .int .i64 d2, .int .i64 d3, .int .i64 d4, .int .i64 d5, .int .i64 d6]) (by simp [results, Tryz.results37, go_sem, hF]) rfl ⟨rfl, hA.toExt⟩
   · simp only [A8.val, A8.set, Int.toNat_natCast] at *
     go_enter Tryz.func37, Tryz.ntmps37
     go_wp2_with (first | ((with_reducible refine gbx ?_); refine wH 40 [.int .i64 s, .int .i64 d0, .int .i64 d1, .int .i64 d2, .int .i64 d3, .int .i64 d4, .int .i64 d5, .int .i64 d6] hA ?_; clear hF hA; intro bA w1 hA hbA hF; (try simp only [uY] at hA hF)) | ((with_reducible refine gbx ?_); refine wH 29 [.int .i64 ((2 : Nat) : Int), .int .i64 t] hA ?_; clear hF hA; intro bI w1 hA hbI hF; (try simp only [uY] at hA hF)) | ((with_reducible refine gal ?_); refine wG 40 [.int .i64 0, .int .i64 0, .int .i64 0, .int .i64 0, .int .i64 0, .int .i64 0, .int .i64 0, .int .i64 0] hA ?_; clear hF hA; intro bR w1 hA hbR hF; (try simp only [uY] at hA hF)) | ((with_reducible refine gst ?_); refine wT hA ?_; clear hF hA; intro w1 hA hF; (try simp only [uY] at hA hF)) | ((with_reducible refine gbx ?_); refine wC hA ?_; clear hF hA; intro b1 w1 hA hb1 hF; (try simp only [uY] at hA hF)))
     refine (hr _).mono ?_
     clear hr
     rintro e w1 ⟨rfl, hx⟩
     have hB := hA.ext hx
     clear hF hA hx; have hA := hB; clear hB
     have hF := hA.facts; (try simp only [uY] at hA hF)
     go_wp2_with (first | ((with_reducible refine gst ?_); refine wT hA ?_; clear hF hA; intro w1 hA hF; (try simp only [uY] at hA hF)) | ((with_reducible refine gbx ?_); refine wC hA ?_; clear hF hA; intro b1 w1 hA hb1 hF; (try simp only [uY] at hA hF)))
     refine bodyPost_ret (v := .agg #[.int .i64 s, .int .i64 d0, .int .i64 d1, .int .i64 t, .int .i64 d3, .int .i64 d4, .int .i64 d5, .int .i64 d6]) (by simp [results, Tryz.results37, go_sem, hF]) rfl ⟨rfl, hA.toExt⟩
   · simp only [A8.val, A8.set, Int.toNat_natCast] at *
     go_enter Tryz.func37, Tryz.ntmps37
     go_wp2_with (first | ((with_reducible refine gbx ?_); refine wH 40 [.int .i64 s, .int .i64 d0, .int .i64 d1, .int .i64 d2, .int .i64 d3, .int .i64 d4, .int .i64 d5, .int .i64 d6] hA ?_; clear hF hA; intro bA w1 hA hbA hF; (try simp only [uY] at hA hF)) | ((with_reducible refine gbx ?_); refine wH 29 [.int .i64 ((3 : Nat) : Int), .int .i64 t] hA ?_; clear hF hA; intro bI w1 hA hbI hF; (try simp only [uY] at hA hF)) | ((with_reducible refine gal ?_); refine wG 40 [.int .i64 0, .int .i64 0, .int .i64 0, .int .i64 0, .int .i64 0, .int .i64 0, .int .i64 0, .int .i64 0] hA ?_; clear hF hA; intro bR w1 hA hbR hF; (try simp only [uY] at hA hF)) | ((with_reducible refine gst ?_); refine wT hA ?_; clear hF hA; intro w1 hA hF; (try simp only [uY] at hA hF)) | ((with_reducible refine gbx ?_); refine wC hA ?_; clear hF hA; intro b1 w1 hA hb1 hF; (try simp only [uY] at hA hF)))
     refine (hr _).mono ?_
     clear hr
     rintro e w1 ⟨rfl, hx⟩
     have hB := hA.ext hx
     clear hF hA hx; have hA := hB; clear hB
     have hF := hA.facts; (try simp only [uY] at hA hF)
     go_wp2_with (first | ((with_reducible refine gst ?_); refine wT hA ?_; clear hF hA; intro w1 hA hF; (try simp only [uY] at hA hF)) | ((with_reducible refine gbx ?_); refine wC hA ?_; clear hF hA; intro b1 w1 hA hb1 hF; (try simp only [uY] at hA hF)))
     refine bodyPost_ret (v := .agg #[.int .i64 s, .int .i64 d0, .int .i64 d1, .int .i64 d2, .int .i64 t, .int .i64 d4, .int .i64 d5, .int .i64 d6]) (by simp [results, Tryz.results37, go_sem, hF]) rfl ⟨rfl, hA.toExt⟩
   · simp only [A8.val, A8.set, Int.toNat_natCast] at *
     go_enter Tryz.func37, Tryz.ntmps37
     go_wp2_with (first | ((with_reducible refine gbx ?_); refine wH 40 [.int .i64 s, .int .i64 d0, .int .i64 d1, .int .i64 d2, .int .i64 d3, .int .i64 d4, .int .i64 d5, .int .i64 d6] hA ?_; clear hF hA; intro bA w1 hA hbA hF; (try simp only [uY] at hA hF)) | ((with_reducible refine gbx ?_); refine wH 29 [.int .i64 ((4 : Nat) : Int), .int .i64 t] hA ?_; clear hF hA; intro bI w1 hA hbI hF; (try simp only [uY] at hA hF)) | ((with_reducible refine gal ?_); refine wG 40 [.int .i64 0, .int .i64 0, .int .i64 0, .int .i64 0, .int .i64 0, .int .i64 0, .int .i64 0, .int .i64 0] hA ?_; clear hF hA; intro bR w1 hA hbR hF; (try simp only [uY] at hA hF)) | ((with_reducible refine gst ?_); refine wT hA ?_; clear hF hA; intro w1 hA hF; (try simp only [uY] at hA hF)) | ((with_reducible refine gbx ?_); refine wC hA ?_; clear hF hA; intro b1 w1 hA hb1 hF; (try simp only [uY] at hA hF)))
     refine (hr _).mono ?_
     clear hr
     rintro e w1 ⟨rfl, hx⟩
     have hB := hA.ext hx
     clear hF hA hx; have hA := hB; clear hB
     have hF := hA.facts; (try simp only [uY] at hA hF)
     go_wp2_with (first | ((with_reducible refine gst ?_); refine wT hA ?_; clear hF hA; intro w1 hA hF; (try simp only [uY] at hA hF)) | ((with_reducible refine gbx ?_); refine wC hA ?_; clear hF hA; intro b1 w1 hA hb1 hF; (try simp only [uY] at hA hF)))
     refine bodyPost_ret (v := .agg #[.int .i64 s, .int .i64 d0, .int .i64 d1, .int .i64 d2, .int .i64 d3, .int .i64 t, .int .i64 d5, .int .i64 d6]) (by simp [results, Tryz.results37, go_sem, hF]) rfl ⟨rfl, hA.toExt⟩
   · simp only [A8.val, A8.set, Int.toNat_natCast] at *
     go_enter Tryz.func37, Tryz.ntmps37
     go_wp2_with (first | ((with_reducible refine gbx ?_); refine wH 40 [.int .i64 s, .int .i64 d0, .int .i64 d1, .int .i64 d2, .int .i64 d3, .int .i64 d4, .int .i64 d5, .int .i64 d6] hA ?_; clear hF hA; intro bA w1 hA hbA hF; (try simp only [uY] at hA hF)) | ((with_reducible refine gbx ?_); refine wH 29 [.int .i64 ((5 : Nat) : Int), .int .i64 t] hA ?_; clear hF hA; intro bI w1 hA hbI hF; (try simp only [uY] at hA hF)) | ((with_reducible refine gal ?_); refine wG 40 [.int .i64 0, .int .i64 0, .int .i64 0, .int .i64 0, .int .i64 0, .int .i64 0, .int .i64 0, .int .i64 0] hA ?_; clear hF hA; intro bR w1 hA hbR hF; (try simp only [uY] at hA hF)) | ((with_reducible refine gst ?_); refine wT hA ?_; clear hF hA; intro w1 hA hF; (try simp only [uY] at hA hF)) | ((with_reducible refine gbx ?_); refine wC hA ?_; clear hF hA; intro b1 w1 hA hb1 hF; (try simp only [uY] at hA hF)))
     refine (hr _).mono ?_
     clear hr
     rintro e w1 ⟨rfl, hx⟩
     have hB := hA.ext hx
     clear hF hA hx; have hA := hB; clear hB
     have hF := hA.facts; (try simp only [uY] at hA hF)
     go_wp2_with (first | ((with_reducible refine gst ?_); refine wT hA ?_; clear hF hA; intro w1 hA hF; (try simp only [uY] at hA hF)) | ((with_reducible refine gbx ?_); refine wC hA ?_; clear hF hA; intro b1 w1 hA hb1 hF; (try simp only [uY] at hA hF)))
     refine bodyPost_ret (v := .agg #[.int .i64 s, .int .i64 d0, .int .i64 d1, .int .i64 d2, .int .i64 d3, .int .i64 d4, .int .i64 t, .int .i64 d6]) (by simp [results, Tryz.results37, go_sem, hF]) rfl ⟨rfl, hA.toExt⟩
   · simp only [A8.val, A8.set, Int.toNat_natCast] at *
     go_enter Tryz.func37, Tryz.ntmps37
     go_wp2_with (first | ((with_reducible refine gbx ?_); refine wH 40 [.int .i64 s, .int .i64 d0, .int .i64 d1, .int .i64 d2, .int .i64 d3, .int .i64 d4, .int .i64 d5, .int .i64 d6] hA ?_; clear hF hA; intro bA w1 hA hbA hF; (try simp only [uY] at hA hF)) | ((with_reducible refine gbx ?_); refine wH 29 [.int .i64 ((6 : Nat) : Int), .int .i64 t] hA ?_; clear hF hA; intro bI w1 hA hbI hF; (try simp only [uY] at hA hF)) | ((with_reducible refine gal ?_); refine wG 40 [.int .i64 0, .int .i64 0, .int .i64 0, .int .i64 0, .int .i64 0, .int .i64 0, .int .i64 0, .int .i64 0] hA ?_; clear hF hA; intro bR w1 hA hbR hF; (try simp only [uY] at hA hF)) | ((with_reducible refine gst ?_); refine wT hA ?_; clear hF hA; intro w1 hA hF; (try simp only [uY] at hA hF)) | ((with_reducible refine gbx ?_); refine wC hA ?_; clear hF hA; intro b1 w1 hA hb1 hF; (try simp only [uY] at hA hF)))
     refine (hr _).mono ?_
     clear hr
     rintro e w1 ⟨rfl, hx⟩
     have hB := hA.ext hx
     clear hF hA hx; have hA := hB; clear hB
     have hF := hA.facts; (try simp only [uY] at hA hF)
     go_wp2_with (first | ((with_reducible refine gst ?_); refine wT hA ?_; clear hF hA; intro w1 hA hF; (try simp only [uY] at hA hF)) | ((with_reducible refine gbx ?_); refine wC hA ?_; clear hF hA; intro b1 w1 hA hb1 hF; (try simp only [uY] at hA hF)))
     refine bodyPost_ret (v := .agg #[.int .i64 s, .int .i64 d0, .int .i64 d1, .int .i64 d2, .int .i64 d3, .int .i64 d4, .int .i64 d5, .int .i64 t]) (by simp [results, Tryz.results37, go_sem, hF]) rfl ⟨rfl, hA.toExt⟩
 · have hb2 : rightI r t = false := by simpa using hb
   rw [hb2] at hr
   have e : ∀ a : A8, a.own r t = a := fun a => by unfold A8.own; rw [if_neg hb]
   rw [e]
   clear e hb hb2
   simp only [A8.val]
   have hF := hA.facts; (try simp only [uY] at hA hF)
   go_enter Tryz.func37, Tryz.ntmps37
   go_wp2_with (first | ((with_reducible refine gbx ?_); refine wH 40 [.int .i64 s, .int .i64 d0, .int .i64 d1, .int .i64 d2, .int .i64 d3, .int .i64 d4, .int .i64 d5, .int .i64 d6] hA ?_; clear hF hA; intro bA w1 hA hbA hF; (try simp only [uY] at hA hF)) | ((with_reducible refine gbx ?_); refine wH 29 [.int .i64 r, .int .i64 t] hA ?_; clear hF hA; intro bI w1 hA hbI hF; (try simp only [uY] at hA hF)) | ((with_reducible refine gal ?_); refine wG 40 [.int .i64 0, .int .i64 0, .int .i64 0, .int .i64 0, .int .i64 0, .int .i64 0, .int .i64 0, .int .i64 0] hA ?_; clear hF hA; intro bR w1 hA hbR hF; (try simp only [uY] at hA hF)) | ((with_reducible refine gst ?_); refine wT hA ?_; clear hF hA; intro w1 hA hF; (try simp only [uY] at hA hF)) | ((with_reducible refine gbx ?_); refine wC hA ?_; clear hF hA; intro b1 w1 hA hb1 hF; (try simp only [uY] at hA hF)))
   refine (hr _).mono ?_
   clear hr
   rintro e w1 ⟨rfl, hx⟩
   have hB := hA.ext hx
   clear hF hA hx; have hA := hB; clear hB
   have hF := hA.facts; (try simp only [uY] at hA hF)
   go_wp2_with (first | ((with_reducible refine gst ?_); refine wT hA ?_; clear hF hA; intro w1 hA hF; (try simp only [uY] at hA hF)) | ((with_reducible refine gbx ?_); refine wC hA ?_; clear hF hA; intro b1 w1 hA hb1 hF; (try simp only [uY] at hA hF)))
   refine bodyPost_ret (v := .agg #[.int .i64 s, .int .i64 d0, .int .i64 d1, .int .i64 d2, .int .i64 d3, .int .i64 d4, .int .i64 d5, .int .i64 d6]) (by simp [results, Tryz.results37, go_sem, hF]) rfl ⟨rfl, hA.toExt⟩
theorem right_any (a : A8) (w : World) : Calls Tryz.prog 47 #[a.val] w fun e w' => e = .returned (.bool a.right) ∧ Ext w w' := by
 have hA : At [] w [] w := At.start (L0 := []) trivial
 have hF := hA.facts
 obtain ⟨s, d0, d1, d2, d3, d4, d5, d6⟩ := a
 have hi0 : ∀ w, (Instr.index 38 (.agg #[.int .i64 d0, .int .i64 d1, .int .i64 d2, .int .i64 d3, .int .i64 d4, .int .i64 d5, .int .i64 d6]) (.int .i64 0)).run Tryz.prog w = .ok (.int .i64 d0) w := fun w => by kernel_rfl
 have hi1 : ∀ w, (Instr.index 38 (.agg #[.int .i64 d0, .int .i64 d1, .int .i64 d2, .int .i64 d3, .int .i64 d4, .int .i64 d5, .int .i64 d6]) (.int .i64 1)).run Tryz.prog w = .ok (.int .i64 d1) w := fun w => by kernel_rfl
 have hi2 : ∀ w, (Instr.index 38 (.agg #[.int .i64 d0, .int .i64 d1, .int .i64 d2, .int .i64 d3, .int .i64 d4, .int .i64 d5, .int .i64 d6]) (.int .i64 2)).run Tryz.prog w = .ok (.int .i64 d2) w := fun w => by kernel_rfl
 have hi3 : ∀ w, (Instr.index 38 (.agg #[.int .i64 d0, .int .i64 d1, .int .i64 d2, .int .i64 d3, .int .i64 d4, .int .i64 d5, .int .i64 d6]) (.int .i64 3)).run Tryz.prog w = .ok (.int .i64 d3) w := fun w => by kernel_rfl
 have hi4 : ∀ w, (Instr.index 38 (.agg #[.int .i64 d0, .int .i64 d1, .int .i64 d2, .int .i64 d3, .int .i64 d4, .int .i64 d5, .int .i64 d6]) (.int .i64 4)).run Tryz.prog w = .ok (.int .i64 d4) w := fun w => by kernel_rfl
 have hi5 : ∀ w, (Instr.index 38 (.agg #[.int .i64 d0, .int .i64 d1, .int .i64 d2, .int .i64 d3, .int .i64 d4, .int .i64 d5, .int .i64 d6]) (.int .i64 5)).run Tryz.prog w = .ok (.int .i64 d5) w := fun w => by kernel_rfl
 have hi6 : ∀ w, (Instr.index 38 (.agg #[.int .i64 d0, .int .i64 d1, .int .i64 d2, .int .i64 d3, .int .i64 d4, .int .i64 d5, .int .i64 d6]) (.int .i64 6)).run Tryz.prog w = .ok (.int .i64 d6) w := fun w => by kernel_rfl
 obtain ⟨x0, hx0⟩ : ∃ x, decide (d0 < 0) = x := ⟨_, rfl⟩
 obtain ⟨y0, hy0⟩ : ∃ y, decide (1024 < d0) = y := ⟨_, rfl⟩
 obtain ⟨x1, hx1⟩ : ∃ x, decide (d1 < 0) = x := ⟨_, rfl⟩
 obtain ⟨y1, hy1⟩ : ∃ y, decide (1024 < d1) = y := ⟨_, rfl⟩
 obtain ⟨x2, hx2⟩ : ∃ x, decide (d2 < 0) = x := ⟨_, rfl⟩
 obtain ⟨y2, hy2⟩ : ∃ y, decide (1024 < d2) = y := ⟨_, rfl⟩
 obtain ⟨x3, hx3⟩ : ∃ x, decide (d3 < 0) = x := ⟨_, rfl⟩
 obtain ⟨y3, hy3⟩ : ∃ y, decide (1024 < d3) = y := ⟨_, rfl⟩
 obtain ⟨x4, hx4⟩ : ∃ x, decide (d4 < 0) = x := ⟨_, rfl⟩
 obtain ⟨y4, hy4⟩ : ∃ y, decide (1024 < d4) = y := ⟨_, rfl⟩
 obtain ⟨x5, hx5⟩ : ∃ x, decide (d5 < 0) = x := ⟨_, rfl⟩
 obtain ⟨y5, hy5⟩ : ∃ y, decide (1024 < d5) = y := ⟨_, rfl⟩
 obtain ⟨x6, hx6⟩ : ∃ x, decide (d6 < 0) = x := ⟨_, rfl⟩
 obtain ⟨y6, hy6⟩ : ∃ y, decide (1024 < d6) = y := ⟨_, rfl⟩
 obtain ⟨s0, hs0⟩ : ∃ x, decide (0 ≤ s) = x := ⟨_, rfl⟩
 obtain ⟨s1, hs1⟩ : ∃ x, decide (s ≤ 1073741824) = x := ⟨_, rfl⟩
 have e : A8.right ⟨s, d0, d1, d2, d3, d4, d5, d6⟩ = (!(x0 || y0) && !(x1 || y1) && !(x2 || y2) && !(x3 || y3) && !(x4 || y4) && !(x5 || y5) && !(x6 || y6) && (s0 && s1)) := by unfold A8.right badD; rw [hx0, hy0, hx1, hy1, hx2, hy2, hx3, hy3, hx4, hy4, hx5, hy5, hx6, hy6, hs0, hs1]
 rw [e]
 clear e
 simp only [A8.val]
 have hF := hA.facts; (try simp only [uY] at hA hF)
 go_enter Tryz.func47, Tryz.ntmps47
 go_wp2_with (first | ((with_reducible refine gbx ?_); refine wH 40 [.int .i64 s, .int .i64 d0, .int .i64 d1, .int .i64 d2, .int .i64 d3, .int .i64 d4, .int .i64 d5, .int .i64 d6] hA ?_; clear hF hA; intro bA w1 hA hbA hF; (try simp only [uY] at hA hF)) | ((with_reducible refine gst ?_); refine wT hA ?_; clear hF hA; intro w1 hA hF; (try simp only [uY] at hA hF)) | ((with_reducible refine gbx ?_); refine wC hA ?_; clear hF hA; intro b1 w1 hA hb1 hF; (try simp only [uY] at hA hF)))
 refine wp_loop_rounds 8 ?_
 rw [rounds_succ]
 cases x0
 · cases y0
   · go_wp2_with (first | ((with_reducible refine gst ?_); refine wT hA ?_; clear hF hA; intro w1 hA hF; (try simp only [uY] at hA hF)) | ((with_reducible refine gbx ?_); refine wC hA ?_; clear hF hA; intro b1 w1 hA hb1 hF; (try simp only [uY] at hA hF)))
     rw [rounds_succ]
     cases x1
     · cases y1
       · go_wp2_with (first | ((with_reducible refine gst ?_); refine wT hA ?_; clear hF hA; intro w1 hA hF; (try simp only [uY] at hA hF)) | ((with_reducible refine gbx ?_); refine wC hA ?_; clear hF hA; intro b1 w1 hA hb1 hF; (try simp only [uY] at hA hF)))
         rw [rounds_succ]
         cases x2
         · cases y2
           · go_wp2_with (first | ((with_reducible refine gst ?_); refine wT hA ?_; clear hF hA; intro w1 hA hF; (try simp only [uY] at hA hF)) | ((with_reducible refine gbx ?_); refine wC hA ?_; clear hF hA; intro b1 w1 hA hb1 hF; (try simp only [uY] at hA hF)))
             rw [rounds_succ]
             cases x3
             · cases y3
               · go_wp2_with (first | ((with_reducible refine gst ?_); refine wT hA ?_; clear hF hA; intro w1 hA hF; (try simp only [uY] at hA hF)) | ((with_reducible refine gbx ?_); refine wC hA ?_; clear hF hA; intro b1 w1 hA hb1 hF; (try simp only [uY] at hA hF)))
                 rw [rounds_succ]
                 cases x4
                 · cases y4
                   · go_wp2_with (first | ((with_reducible refine gst ?_); refine wT hA ?_; clear hF hA; intro w1 hA hF; (try simp only [uY] at hA hF)) | ((with_reducible refine gbx ?_); refine wC hA ?_; clear hF hA; intro b1 w1 hA hb1 hF; (try simp only [uY] at hA hF)))
                     rw [rounds_succ]
                     cases x5
                     · cases y5
                       · go_wp2_with (first | ((with_reducible refine gst ?_); refine wT hA ?_; clear hF hA; intro w1 hA hF; (try simp only [uY] at hA hF)) | ((with_reducible refine gbx ?_); refine wC hA ?_; clear hF hA; intro b1 w1 hA hb1 hF; (try simp only [uY] at hA hF)))
                         rw [rounds_succ]
                         cases x6
                         · cases y6
                           · go_wp2_with (first | ((with_reducible refine gst ?_); refine wT hA ?_; clear hF hA; intro w1 hA hF; (try simp only [uY] at hA hF)) | ((with_reducible refine gbx ?_); refine wC hA ?_; clear hF hA; intro b1 w1 hA hb1 hF; (try simp only [uY] at hA hF)))
                             rw [rounds_succ]
                             cases s0
                             · go_wp2_with (first | ((with_reducible refine gst ?_); refine wT hA ?_; clear hF hA; intro w1 hA hF; (try simp only [uY] at hA hF)) | ((with_reducible refine gbx ?_); refine wC hA ?_; clear hF hA; intro b1 w1 hA hb1 hF; (try simp only [uY] at hA hF)))
                               go_ret
                               exact ⟨rfl, hA.toExt⟩
                             · go_wp2_with (first | ((with_reducible refine gst ?_); refine wT hA ?_; clear hF hA; intro w1 hA hF; (try simp only [uY] at hA hF)) | ((with_reducible refine gbx ?_); refine wC hA ?_; clear hF hA; intro b1 w1 hA hb1 hF; (try simp only [uY] at hA hF)))
                               go_ret
                               exact ⟨rfl, hA.toExt⟩
                           · go_wp2_with (first | ((with_reducible refine gst ?_); refine wT hA ?_; clear hF hA; intro w1 hA hF; (try simp only [uY] at hA hF)) | ((with_reducible refine gbx ?_); refine wC hA ?_; clear hF hA; intro b1 w1 hA hb1 hF; (try simp only [uY] at hA hF)))
                             go_ret
                             exact ⟨rfl, hA.toExt⟩
                         · go_wp2_with (first | ((with_reducible refine gst ?_); refine wT hA ?_; clear hF hA; intro w1 hA hF; (try simp only [uY] at hA hF)) | ((with_reducible refine gbx ?_); refine wC hA ?_; clear hF hA; intro b1 w1 hA hb1 hF; (try simp only [uY] at hA hF)))
                           go_ret
                           exact ⟨rfl, hA.toExt⟩
                       · go_wp2_with (first | ((with_reducible refine gst ?_); refine wT hA ?_; clear hF hA; intro w1 hA hF; (try simp only [uY] at hA hF)) | ((with_reducible refine gbx ?_); refine wC hA ?_; clear hF hA; intro b1 w1 hA hb1 hF; (try simp only [uY] at hA hF)))
                         go_ret
                         exact ⟨rfl, hA.toExt⟩
                     · go_wp2_with (first | ((with_reducible refine gst ?_); refine wT hA ?_; clear hF hA; intro w1 hA hF; (try simp only [uY] at hA hF)) | ((with_reducible refine gbx ?_); refine wC hA ?_; clear hF hA; intro b1 w1 hA hb1 hF; (try simp only [uY] at hA hF)))
                       go_ret
                       exact ⟨rfl, hA.toExt⟩
                   · go_wp2_with (first | ((with_reducible refine gst ?_); refine wT hA ?_; clear hF hA; intro w1 hA hF; (try simp only [uY] at hA hF)) | ((with_reducible refine gbx ?_); refine wC hA ?_; clear hF hA; intro b1 w1 hA hb1 hF; (try simp only [uY] at hA hF)))
                     go_ret
                     exact ⟨rfl, hA.toExt⟩
                 · go_wp2_with (first | ((with_reducible refine gst ?_); refine wT hA ?_; clear hF hA; intro w1 hA hF; (try simp only [uY] at hA hF)) | ((with_reducible refine gbx ?_); refine wC hA ?_; clear hF hA; intro b1 w1 hA hb1 hF; (try simp only [uY] at hA hF)))
                   go_ret
                   exact ⟨rfl, hA.toExt⟩
               · go_wp2_with (first | ((with_reducible refine gst ?_); refine wT hA ?_; clear hF hA; intro w1 hA hF; (try simp only [uY] at hA hF)) | ((with_reducible refine gbx ?_); refine wC hA ?_; clear hF hA; intro b1 w1 hA hb1 hF; (try simp only [uY] at hA hF)))
                 go_ret
                 exact ⟨rfl, hA.toExt⟩
             · go_wp2_with (first | ((with_reducible refine gst ?_); refine wT hA ?_; clear hF hA; intro w1 hA hF; (try simp only [uY] at hA hF)) | ((with_reducible refine gbx ?_); refine wC hA ?_; clear hF hA; intro b1 w1 hA hb1 hF; (try simp only [uY] at hA hF)))
               go_ret
               exact ⟨rfl, hA.toExt⟩
           · go_wp2_with (first | ((with_reducible refine gst ?_); refine wT hA ?_; clear hF hA; intro w1 hA hF; (try simp only [uY] at hA hF)) | ((with_reducible refine gbx ?_); refine wC hA ?_; clear hF hA; intro b1 w1 hA hb1 hF; (try simp only [uY] at hA hF)))
             go_ret
             exact ⟨rfl, hA.toExt⟩
         · go_wp2_with (first | ((with_reducible refine gst ?_); refine wT hA ?_; clear hF hA; intro w1 hA hF; (try simp only [uY] at hA hF)) | ((with_reducible refine gbx ?_); refine wC hA ?_; clear hF hA; intro b1 w1 hA hb1 hF; (try simp only [uY] at hA hF)))
           go_ret
           exact ⟨rfl, hA.toExt⟩
       · go_wp2_with (first | ((with_reducible refine gst ?_); refine wT hA ?_; clear hF hA; intro w1 hA hF; (try simp only [uY] at hA hF)) | ((with_reducible refine gbx ?_); refine wC hA ?_; clear hF hA; intro b1 w1 hA hb1 hF; (try simp only [uY] at hA hF)))
         go_ret
         exact ⟨rfl, hA.toExt⟩
     · go_wp2_with (first | ((with_reducible refine gst ?_); refine wT hA ?_; clear hF hA; intro w1 hA hF; (try simp only [uY] at hA hF)) | ((with_reducible refine gbx ?_); refine wC hA ?_; clear hF hA; intro b1 w1 hA hb1 hF; (try simp only [uY] at hA hF)))
       go_ret
       exact ⟨rfl, hA.toExt⟩
   · go_wp2_with (first | ((with_reducible refine gst ?_); refine wT hA ?_; clear hF hA; intro w1 hA hF; (try simp only [uY] at hA hF)) | ((with_reducible refine gbx ?_); refine wC hA ?_; clear hF hA; intro b1 w1 hA hb1 hF; (try simp only [uY] at hA hF)))
     go_ret
     exact ⟨rfl, hA.toExt⟩
 · go_wp2_with (first | ((with_reducible refine gst ?_); refine wT hA ?_; clear hF hA; intro w1 hA hF; (try simp only [uY] at hA hF)) | ((with_reducible refine gbx ?_); refine wC hA ?_; clear hF hA; intro b1 w1 hA hb1 hF; (try simp only [uY] at hA hF)))
   go_ret
   exact ⟨rfl, hA.toExt⟩
end Go.Proofs.YtgbpfgdjnhbcgaaGreatDoor.Attr
end
