/- RefD, RefN, RegG, IndexS, IndexP, IxE, joined. -/
import Derived.Test.YtgbpfgdjnhbcgaaGreatDoorQ13
set_option linter.unusedSimpArgs false
set_option linter.unusedVariables false
set_option maxRecDepth 100000
set_option maxHeartbeats 16000000
section
namespace Go.Proofs.YtgbpfgdjnhbcgaaGreatDoor.Cmd
open Go.RowKit
open Path (bl rightB overB)
open Attr (A8 rightI)
attribute [-go_sem] run_eql_struct run_neq_struct run_eqGuard_agg
theorem idR_any (r t : Int) (w : World) : Calls Tryz.prog 39 #[.agg #[.int .i64 r, .int .i64 t]] w fun e w' => e = .returned (.bool (rightI r t)) ∧ Ext w w' := by
 have hA : At [] w [] w := At.start (L0 := []) trivial
 have hF := hA.facts
 obtain ⟨x0, h0⟩ : ∃ x, decide (0 ≤ r) = x := ⟨_, rfl⟩
 obtain ⟨x1, h1⟩ : ∃ x, decide (r < 7) = x := ⟨_, rfl⟩
 obtain ⟨x2, h2⟩ : ∃ x, decide (0 ≤ t) = x := ⟨_, rfl⟩
 obtain ⟨x3, h3⟩ : ∃ x, decide (t < 1024) = x := ⟨_, rfl⟩
 have e : rightI r t = (x0 && x1 && x2 && x3) := by
  have h6 : decide (r ≤ 6) = x1 := by rw [← h1, decide_eq_decide]; omega
  unfold rightI; rw [h0, h6, h2, h3]
 rw [e]
 clear e
 have hF := hA.facts; (try simp only [uY] at hA hF)
 go_enter Tryz.func39, Tryz.ntmps39
 cases x0
 · go_wp2_with (first | ((with_reducible refine gbx ?_); refine wH 59 [.int .i64 r, .int .i64 t] hA ?_; clear hF hA; intro bX w1 hA hbX hF; (try simp only [uY] at hA hF)) | ((with_reducible refine gst ?_); refine wT hA ?_; clear hF hA; intro w1 hA hF; (try simp only [uY] at hA hF)) | ((with_reducible refine gbx ?_); refine wC hA ?_; clear hF hA; intro b1 w1 hA hb1 hF; (try simp only [uY] at hA hF)))
   go_ret
   exact ⟨rfl, hA.toExt⟩
 · cases x1
   · go_wp2_with (first | ((with_reducible refine gbx ?_); refine wH 59 [.int .i64 r, .int .i64 t] hA ?_; clear hF hA; intro bX w1 hA hbX hF; (try simp only [uY] at hA hF)) | ((with_reducible refine gst ?_); refine wT hA ?_; clear hF hA; intro w1 hA hF; (try simp only [uY] at hA hF)) | ((with_reducible refine gbx ?_); refine wC hA ?_; clear hF hA; intro b1 w1 hA hb1 hF; (try simp only [uY] at hA hF)))
     go_ret
     exact ⟨rfl, hA.toExt⟩
   · cases x2
     · go_wp2_with (first | ((with_reducible refine gbx ?_); refine wH 59 [.int .i64 r, .int .i64 t] hA ?_; clear hF hA; intro bX w1 hA hbX hF; (try simp only [uY] at hA hF)) | ((with_reducible refine gst ?_); refine wT hA ?_; clear hF hA; intro w1 hA hF; (try simp only [uY] at hA hF)) | ((with_reducible refine gbx ?_); refine wC hA ?_; clear hF hA; intro b1 w1 hA hb1 hF; (try simp only [uY] at hA hF)))
       go_ret
       exact ⟨rfl, hA.toExt⟩
     · cases x3
       · go_wp2_with (first | ((with_reducible refine gbx ?_); refine wH 59 [.int .i64 r, .int .i64 t] hA ?_; clear hF hA; intro bX w1 hA hbX hF; (try simp only [uY] at hA hF)) | ((with_reducible refine gst ?_); refine wT hA ?_; clear hF hA; intro w1 hA hF; (try simp only [uY] at hA hF)) | ((with_reducible refine gbx ?_); refine wC hA ?_; clear hF hA; intro b1 w1 hA hb1 hF; (try simp only [uY] at hA hF)))
         go_ret
         exact ⟨rfl, hA.toExt⟩
       · go_wp2_with (first | ((with_reducible refine gbx ?_); refine wH 59 [.int .i64 r, .int .i64 t] hA ?_; clear hF hA; intro bX w1 hA hbX hF; (try simp only [uY] at hA hF)) | ((with_reducible refine gst ?_); refine wT hA ?_; clear hF hA; intro w1 hA hF; (try simp only [uY] at hA hF)) | ((with_reducible refine gbx ?_); refine wC hA ?_; clear hF hA; intro b1 w1 hA hb1 hF; (try simp only [uY] at hA hF)))
         go_ret
         exact ⟨rfl, hA.toExt⟩
theorem attrR_any (a : A8) (w : World) : Calls Tryz.prog 25 #[a.val] w fun e w' => e = .returned (.bool a.right) ∧ Ext w w' := by
 have hA : At [] w [] w := At.start (L0 := []) trivial
 have hF := hA.facts
 obtain ⟨s, d0, d1, d2, d3, d4, d5, d6⟩ := a
 obtain ⟨x0, hx0⟩ : ∃ x, decide (d0 < 0) = x := ⟨_, rfl⟩
 obtain ⟨y0, hy0⟩ : ∃ y, decide (1024 < d0) = y := ⟨_, rfl⟩
 obtain ⟨x1, hx1⟩ : ∃ x, decide (d1 < 0) = x := ⟨_, rfl⟩
 obtain ⟨y1, hy1⟩ : ∃ y, decide (1024 < d1) = y := ⟨_, rfl⟩
 obtain ⟨x2, hx2⟩ : ∃ x, decide (d2 < 0) = x := ⟨_, rfl⟩
 obtain ⟨y2, hy2⟩ : ∃ y, decide (1024 < d2) = y := ⟨_, rfl⟩
 obtain ⟨x3, hx3⟩ : ∃ x, decide (d3 < 0) = x := ⟨_, rfl⟩
 obtain ⟨y3, hy3⟩ : ∃ y, decide (1024 < d3) = y := ⟨_, rfl⟩
 obtain ⟨x4, hx4⟩ : ∃ x, decide (d4 < 0) = x := ⟨_, rfl⟩
 obtain ⟨y4, hy4⟩ : ∃ y, decide (1024 < d4) = y := ⟨_, rfl⟩
 obtain ⟨x5, hx5⟩ : ∃ x, decide (d5 < 0) = x := ⟨_, rfl⟩
 obtain ⟨y5, hy5⟩ : ∃ y, decide (1024 < d5) = y := ⟨_, rfl⟩
 obtain ⟨x6, hx6⟩ : ∃ x, decide (d6 < 0) = x := ⟨_, rfl⟩
 obtain ⟨y6, hy6⟩ : ∃ y, decide (1024 < d6) = y := ⟨_, rfl⟩
 obtain ⟨s0, hs0⟩ : ∃ x, decide (0 ≤ s) = x := ⟨_, rfl⟩
 obtain ⟨s1, hs1⟩ : ∃ x, decide (s ≤ 1073741824) = x := ⟨_, rfl⟩
 have e : A8.right ⟨s, d0, d1, d2, d3, d4, d5, d6⟩ = (!(x0 || y0) && !(x1 || y1) && !(x2 || y2) && !(x3 || y3) && !(x4 || y4) && !(x5 || y5) && !(x6 || y6) && (s0 && s1)) := by unfold A8.right Attr.badD; rw [hx0, hy0, hx1, hy1, hx2, hy2, hx3, hy3, hx4, hy4, hx5, hy5, hx6, hy6, hs0, hs1]
 rw [e]
 clear e
 simp only [A8.val]
 have hF := hA.facts; (try simp only [uY] at hA hF)
 go_enter Tryz.func25, Tryz.ntmps25
 go_wp2_with (first | ((with_reducible refine gbx ?_); refine wH 51 [.int .i64 s, .int .i64 d0, .int .i64 d1, .int .i64 d2, .int .i64 d3, .int .i64 d4, .int .i64 d5, .int .i64 d6] hA ?_; clear hF hA; intro bA w1 hA hbA hF; (try simp only [uY] at hA hF)) | ((with_reducible refine gst ?_); refine wT hA ?_; clear hF hA; intro w1 hA hF; (try simp only [uY] at hA hF)) | ((with_reducible refine gbx ?_); refine wC hA ?_; clear hF hA; intro b1 w1 hA hb1 hF; (try simp only [uY] at hA hF)))
 refine wp_loop_rounds 8 ?_
 rw [rounds_succ]
 cases x0
 · cases y0
   · go_wp2_with (first | ((with_reducible refine gst ?_); refine wT hA ?_; clear hF hA; intro w1 hA hF; (try simp only [uY] at hA hF)) | ((with_reducible refine gbx ?_); refine wC hA ?_; clear hF hA; intro b1 w1 hA hb1 hF; (try simp only [uY] at hA hF)))
     rw [rounds_succ]
     cases x1
     · cases y1
       · go_wp2_with (first | ((with_reducible refine gst ?_); refine wT hA ?_; clear hF hA; intro w1 hA hF; (try simp only [uY] at hA hF)) | ((with_reducible refine gbx ?_); refine wC hA ?_; clear hF hA; intro b1 w1 hA hb1 hF; (try simp only [uY] at hA hF)))
         rw [rounds_succ]
         cases x2
         · cases y2
           · go_wp2_with (first | ((with_reducible refine gst ?_); refine wT hA ?_; clear hF hA; intro w1 hA hF; (try simp only [uY] at hA hF)) | ((with_reducible refine gbx ?_); refine wC hA ?_; clear hF hA; intro b1 w1 hA hb1 hF; (try simp only [uY] at hA hF)))
             rw [rounds_succ]
             cases x3
             · cases y3
               · go_wp2_with (first | ((with_reducible refine gst ?_); refine wT hA ?_; clear hF hA; intro w1 hA hF; (try simp only [uY] at hA hF)) | ((with_reducible refine gbx ?_); refine wC hA ?_; clear hF hA; intro b1 w1 hA hb1 hF; (try simp only [uY] at hA hF)))
                 rw [rounds_succ]
                 cases x4
                 · cases y4
                   · go_wp2_with (first | ((with_reducible refine gst ?_); refine wT hA ?_; clear hF hA; intro w1 hA hF; (try simp only [uY] at hA hF)) | ((with_reducible refine gbx ?_); refine wC hA ?_; clear hF hA; intro b1 w1 hA hb1 hF; (try simp only [uY] at hA hF)))
                     rw [rounds_succ]
                     cases x5
                     · cases y5
                       · go_wp2_with (first | ((with_reducible refine gst ?_); refine wT hA ?_; clear hF hA; intro w1 hA hF; (try simp only [uY] at hA hF)) | ((with_reducible refine gbx ?_); refine wC hA ?_; clear hF hA; intro b1 w1 hA hb1 hF; (try simp only [uY] at hA hF)))
                         rw [rounds_succ]
                         cases x6
                         · cases y6
                           · go_wp2_with (first | ((with_reducible refine gst ?_); refine wT hA ?_; clear hF hA; intro w1 hA hF; (try simp only [uY] at hA hF)) | ((with_reducible refine gbx ?_); refine wC hA ?_; clear hF hA; intro b1 w1 hA hb1 hF; (try simp only [uY] at hA hF)))
                             rw [rounds_succ]
                             cases s0
                             · go_wp2_with (first | ((with_reducible refine gst ?_); refine wT hA ?_; clear hF hA; intro w1 hA hF; (try simp only [uY] at hA hF)) | ((with_reducible refine gbx ?_); refine wC hA ?_; clear hF hA; intro b1 w1 hA hb1 hF; (try simp only [uY] at hA hF)))
                               go_ret
                               exact ⟨rfl, hA.toExt⟩
                             · go_wp2_with (first | ((with_reducible refine gst ?_); refine wT hA ?_; clear hF hA; intro w1 hA hF; (try simp only [uY] at hA hF)) | ((with_reducible refine gbx ?_); refine wC hA ?_; clear hF hA; intro b1 w1 hA hb1 hF; (try simp only [uY] at hA hF)))
                               go_ret
                               exact ⟨rfl, hA.toExt⟩
                           · go_wp2_with (first | ((with_reducible refine gst ?_); refine wT hA ?_; clear hF hA; intro w1 hA hF; (try simp only [uY] at hA hF)) | ((with_reducible refine gbx ?_); refine wC hA ?_; clear hF hA; intro b1 w1 hA hb1 hF; (try simp only [uY] at hA hF)))
                             go_ret
                             exact ⟨rfl, hA.toExt⟩
                         · go_wp2_with (first | ((with_reducible refine gst ?_); refine wT hA ?_; clear hF hA; intro w1 hA hF; (try simp only [uY] at hA hF)) | ((with_reducible refine gbx ?_); refine wC hA ?_; clear hF hA; intro b1 w1 hA hb1 hF; (try simp only [uY] at hA hF)))
                           go_ret
                           exact ⟨rfl, hA.toExt⟩
                       · go_wp2_with (first | ((with_reducible refine gst ?_); refine wT hA ?_; clear hF hA; intro w1 hA hF; (try simp only [uY] at hA hF)) | ((with_reducible refine gbx ?_); refine wC hA ?_; clear hF hA; intro b1 w1 hA hb1 hF; (try simp only [uY] at hA hF)))
                         go_ret
                         exact ⟨rfl, hA.toExt⟩
                     · go_wp2_with (first | ((with_reducible refine gst ?_); refine wT hA ?_; clear hF hA; intro w1 hA hF; (try simp only [uY] at hA hF)) | ((with_reducible refine gbx ?_); refine wC hA ?_; clear hF hA; intro b1 w1 hA hb1 hF; (try simp only [uY] at hA hF)))
                       go_ret
                       exact ⟨rfl, hA.toExt⟩
                   · go_wp2_with (first | ((with_reducible refine gst ?_); refine wT hA ?_; clear hF hA; intro w1 hA hF; (try simp only [uY] at hA hF)) | ((with_reducible refine gbx ?_); refine wC hA ?_; clear hF hA; intro b1 w1 hA hb1 hF; (try simp only [uY] at hA hF)))
                     go_ret
                     exact ⟨rfl, hA.toExt⟩
                 · go_wp2_with (first | ((with_reducible refine gst ?_); refine wT hA ?_; clear hF hA; intro w1 hA hF; (try simp only [uY] at hA hF)) | ((with_reducible refine gbx ?_); refine wC hA ?_; clear hF hA; intro b1 w1 hA hb1 hF; (try simp only [uY] at hA hF)))
                   go_ret
                   exact ⟨rfl, hA.toExt⟩
               · go_wp2_with (first | ((with_reducible refine gst ?_); refine wT hA ?_; clear hF hA; intro w1 hA hF; (try simp only [uY] at hA hF)) | ((with_reducible refine gbx ?_); refine wC hA ?_; clear hF hA; intro b1 w1 hA hb1 hF; (try simp only [uY] at hA hF)))
                 go_ret
                 exact ⟨rfl, hA.toExt⟩
             · go_wp2_with (first | ((with_reducible refine gst ?_); refine wT hA ?_; clear hF hA; intro w1 hA hF; (try simp only [uY] at hA hF)) | ((with_reducible refine gbx ?_); refine wC hA ?_; clear hF hA; intro b1 w1 hA hb1 hF; (try simp only [uY] at hA hF)))
               go_ret
               exact ⟨rfl, hA.toExt⟩
           · go_wp2_with (first | ((with_reducible refine gst ?_); refine wT hA ?_; clear hF hA; intro w1 hA hF; (try simp only [uY] at hA hF)) | ((with_reducible refine gbx ?_); refine wC hA ?_; clear hF hA; intro b1 w1 hA hb1 hF; (try simp only [uY] at hA hF)))
             go_ret
             exact ⟨rfl, hA.toExt⟩
         · go_wp2_with (first | ((with_reducible refine gst ?_); refine wT hA ?_; clear hF hA; intro w1 hA hF; (try simp only [uY] at hA hF)) | ((with_reducible refine gbx ?_); refine wC hA ?_; clear hF hA; intro b1 w1 hA hb1 hF; (try simp only [uY] at hA hF)))
           go_ret
           exact ⟨rfl, hA.toExt⟩
       · go_wp2_with (first | ((with_reducible refine gst ?_); refine wT hA ?_; clear hF hA; intro w1 hA hF; (try simp only [uY] at hA hF)) | ((with_reducible refine gbx ?_); refine wC hA ?_; clear hF hA; intro b1 w1 hA hb1 hF; (try simp only [uY] at hA hF)))
         go_ret
         exact ⟨rfl, hA.toExt⟩
     · go_wp2_with (first | ((with_reducible refine gst ?_); refine wT hA ?_; clear hF hA; intro w1 hA hF; (try simp only [uY] at hA hF)) | ((with_reducible refine gbx ?_); refine wC hA ?_; clear hF hA; intro b1 w1 hA hb1 hF; (try simp only [uY] at hA hF)))
       go_ret
       exact ⟨rfl, hA.toExt⟩
   · go_wp2_with (first | ((with_reducible refine gst ?_); refine wT hA ?_; clear hF hA; intro w1 hA hF; (try simp only [uY] at hA hF)) | ((with_reducible refine gbx ?_); refine wC hA ?_; clear hF hA; intro b1 w1 hA hb1 hF; (try simp only [uY] at hA hF)))
     go_ret
     exact ⟨rfl, hA.toExt⟩
 · go_wp2_with (first | ((with_reducible refine gst ?_); refine wT hA ?_; clear hF hA; intro w1 hA hF; (try simp only [uY] at hA hF)) | ((with_reducible refine gbx ?_); refine wC hA ?_; clear hF hA; intro b1 w1 hA hb1 hF; (try simp only [uY] at hA hF)))
   go_ret
   exact ⟨rfl, hA.toExt⟩
theorem rightR_no (c : Cm) (hk : c.kind < 0 ∨ 8 < c.kind) (w : World) : Calls Tryz.prog 61 #[c.val] w fun e w' => e = .returned (.bool false) ∧ Ext w w' := by
 have hA : At [] w [] w := At.start (L0 := []) trivial
 have hF := hA.facts
 obtain ⟨kind, num, foot, req, path, mode, n, time⟩ := c
 simp only [Cm.val] at *
 have hF := hA.facts; (try simp only [uY] at hA hF)
 rcases Int.lt_or_le kind 0 with h | h
 · clear hk
   go_enter Tryz.func61, Tryz.ntmps61
   go_wp2_with (first | ((with_reducible refine gbx ?_); refine wH 57 [.int .i64 kind, .int .u64 num, .string foot, .int .u64 req, .string path, .int .i64 mode, .int .u64 n, .int .i64 time] hA ?_; clear hF hA; intro bX w1 hA hbX hF; (try simp only [uY] at hA hF)) | ((with_reducible refine gst ?_); refine wT hA ?_; clear hF hA; intro w1 hA hF; (try simp only [uY] at hA hF)) | ((with_reducible refine gbx ?_); refine wC hA ?_; clear hF hA; intro b1 w1 hA hb1 hF; (try simp only [uY] at hA hF)))
   go_ret
   exact ⟨rfl, hA.toExt⟩
 · have h8 : 8 < kind := by omega
   have e0 : decide (kind < 0) = false := decide_eq_false (by omega)
   clear hk h
   go_enter Tryz.func61, Tryz.ntmps61
   go_wp2_with (first | ((with_reducible refine gbx ?_); refine wH 57 [.int .i64 kind, .int .u64 num, .string foot, .int .u64 req, .string path, .int .i64 mode, .int .u64 n, .int .i64 time] hA ?_; clear hF hA; intro bX w1 hA hbX hF; (try simp only [uY] at hA hF)) | ((with_reducible refine gst ?_); refine wT hA ?_; clear hF hA; intro w1 hA hF; (try simp only [uY] at hA hF)) | ((with_reducible refine gbx ?_); refine wC hA ?_; clear hF hA; intro b1 w1 hA hb1 hF; (try simp only [uY] at hA hF)))
   go_ret
   exact ⟨rfl, hA.toExt⟩
theorem empty_if (f : ByteArray) : if decide (¬ f.toList = []) then ¬ f.toList = [] else f.toList = [] := by
 by_cases h : f.toList = [] <;> simp [h]
theorem refRight_ok (c : Cm) (hf : c.foot.size ≤ 1000) (hp : c.path.size ≤ 1000) : ∃ b, ∀ w, Calls Tryz.prog 61 #[c.val] w fun e w' => e = .returned (.bool b) ∧ Ext w w' := by
 obtain ⟨kind, num, foot, req, path, mode, n, time⟩ := c
 simp only at hf hp
 by_cases h0 : kind = 0
 · subst h0
   exact ⟨_, fun w => rightR_0 num foot req path mode n time w rfl (empty_if foot) rfl (empty_if path) rfl rfl rfl rfl rfl⟩
 by_cases h1 : kind = 1
 · subst h1
   exact ⟨_, fun w => rightR_1 num foot req path mode n time w (empty_if path) rfl hf rfl rfl rfl rfl rfl (fun h => decide_eq_true (by have := of_decide_eq_true h; omega)) rfl rfl⟩
 by_cases h2 : kind = 2
 · subst h2
   exact ⟨_, fun w => rightR_2 num foot req path mode n time w (empty_if path) rfl rfl rfl hf rfl rfl rfl rfl⟩
 by_cases h3 : kind = 3
 · subst h3
   exact ⟨_, fun w => rightR_3 num foot req path mode n time w (empty_if path) rfl rfl hf rfl rfl rfl rfl⟩
 by_cases h4 : kind = 4
 · subst h4
   exact ⟨_, fun w => rightR_4 num foot req path mode n time w rfl rfl hf rfl rfl hp rfl rfl rfl rfl rfl⟩
 by_cases h5 : kind = 5
 · subst h5
   exact ⟨_, fun w => rightR_5 num foot req path mode n time w rfl rfl hf rfl rfl hp rfl rfl rfl rfl rfl⟩
 by_cases h6 : kind = 6
 · subst h6
   exact ⟨_, fun w => rightR_6 num foot req path mode n time w rfl rfl rfl hf rfl rfl hp rfl rfl rfl⟩
 by_cases h7 : kind = 7
 · subst h7
   exact ⟨_, fun w => rightR_7 num foot req path mode n time w rfl rfl hf rfl rfl hp rfl rfl rfl rfl rfl⟩
 by_cases h8 : kind = 8
 · subst h8
   exact ⟨_, fun w => rightR_8 num foot req path mode n time w rfl (empty_if path) rfl rfl hf rfl rfl rfl⟩
 exact ⟨false, fun w => rightR_no ⟨kind, num, foot, req, path, mode, n, time⟩ (by show kind < 0 ∨ 8 < kind; omega) w⟩
theorem footR_1 (num : Int) (foot : ByteArray) (req : Int) (path : ByteArray) (mode n time : Int) (w : World) (hrc : ∀ w, Calls Tryz.prog 61 #[.agg #[.int .i64 1, .int .u64 num, .string foot, .int .u64 req, .string path, .int .i64 mode, .int .u64 n, .int .i64 time]] w fun e w' => e = .returned (.bool true) ∧ Ext w w') :
 Calls Tryz.prog 38 #[.agg #[.int .i64 1, .int .u64 num, .string foot, .int .u64 req, .string path, .int .i64 mode, .int .u64 n, .int .i64 time]] w fun e w' => e = .returned (.tuple #[.string foot, .bool true]) ∧ Ext w w' := by
 have hA : At [] w [] w := At.start (L0 := []) trivial
 have hF := hA.facts
 have hh := fun w => hasR_any w
 have hix : ∀ w, (Instr.index 112 (.agg #[.bool false, .bool false, .bool false, .bool false, .bool false, .bool false, .bool true, .bool true, .bool false, .bool false, .bool true, .bool true, .bool true, .bool true, .bool false, .bool false, .bool false, .bool false, .bool true, .bool true, .bool false, .bool false, .bool false, .bool true, .bool true, .bool true, .bool true, .bool true, .bool false, .bool false, .bool true, .bool true, .bool true, .bool true, .bool false, .bool false, .bool true, .bool true, .bool true, .bool false, .bool false, .bool false, .bool true, .bool true, .bool true, .bool false, .bool true, .bool false, .bool true, .bool false, .bool false, .bool false, .bool false, .bool true]) (.int .i64 1)).run Tryz.prog w = .ok (.agg #[.bool true, .bool true, .bool false, .bool false, .bool true, .bool true]) w := fun w => by kernel_rfl
 have hiy : ∀ w, (Instr.index 111 (.agg #[.bool true, .bool true, .bool false, .bool false, .bool true, .bool true]) (.int .i64 2)).run Tryz.prog w = .ok (.bool false) w := fun w => by kernel_rfl
 have hF := hA.facts; (try simp only [uY] at hA hF)
 go_enter Tryz.func38, Tryz.ntmps38
 go_wp2_with (first | ((with_reducible refine gbx ?_); refine wH 57 [.int .i64 1, .int .u64 num, .string foot, .int .u64 req, .string path, .int .i64 mode, .int .u64 n, .int .i64 time] hA ?_; clear hF hA; intro bX w1 hA hbX hF; (try simp only [uY] at hA hF)) | ((with_reducible refine gst ?_); refine wT hA ?_; clear hF hA; intro w1 hA hF; (try simp only [uY] at hA hF)) | ((with_reducible refine gbx ?_); refine wC hA ?_; clear hF hA; intro b1 w1 hA hb1 hF; (try simp only [uY] at hA hF)))
 refine (hrc _).mono ?_
 clear hrc
 rintro e w1 ⟨rfl, hx⟩
 have hB := hA.ext hx
 clear hF hA hx; have hA := hB; clear hB
 have hF := hA.facts; (try simp only [uY] at hA hF)
 go_wp2_with (first | ((with_reducible refine gst ?_); refine wT hA ?_; clear hF hA; intro w1 hA hF; (try simp only [uY] at hA hF)) | ((with_reducible refine gbx ?_); refine wC hA ?_; clear hF hA; intro b1 w1 hA hb1 hF; (try simp only [uY] at hA hF)))
 try go_frame
 refine cl3 hA ?_; clear hF hA; intro w1 hA hF; (try simp only [uY] at hA hF)
 clear hh hix hiy
 go_wp2_with (first | ((with_reducible refine gst ?_); refine wT hA ?_; clear hF hA; intro w1 hA hF; (try simp only [uY] at hA hF)) | ((with_reducible refine gbx ?_); refine wC hA ?_; clear hF hA; intro b1 w1 hA hb1 hF; (try simp only [uY] at hA hF)))
 refine bodyPost_ret (v := .tuple #[.string foot, .bool true]) (by simp [results, Tryz.results38, go_sem, hF]) rfl ⟨rfl, hA.toExt⟩
theorem footR_2 (num : Int) (foot : ByteArray) (req : Int) (path : ByteArray) (mode n time : Int) (w : World) (hrc : ∀ w, Calls Tryz.prog 61 #[.agg #[.int .i64 2, .int .u64 num, .string foot, .int .u64 req, .string path, .int .i64 mode, .int .u64 n, .int .i64 time]] w fun e w' => e = .returned (.bool true) ∧ Ext w w') :
 Calls Tryz.prog 38 #[.agg #[.int .i64 2, .int .u64 num, .string foot, .int .u64 req, .string path, .int .i64 mode, .int .u64 n, .int .i64 time]] w fun e w' => e = .returned (.tuple #[.string foot, .bool true]) ∧ Ext w w' := by
 have hA : At [] w [] w := At.start (L0 := []) trivial
 have hF := hA.facts
 have hh := fun w => hasR_any w
 have hix : ∀ w, (Instr.index 112 (.agg #[.bool false, .bool false, .bool false, .bool false, .bool false, .bool false, .bool true, .bool true, .bool false, .bool false, .bool true, .bool true, .bool true, .bool true, .bool false, .bool false, .bool false, .bool false, .bool true, .bool true, .bool false, .bool false, .bool false, .bool true, .bool true, .bool true, .bool true, .bool true, .bool false, .bool false, .bool true, .bool true, .bool true, .bool true, .bool false, .bool false, .bool true, .bool true, .bool true, .bool false, .bool false, .bool false, .bool true, .bool true, .bool true, .bool false, .bool true, .bool false, .bool true, .bool false, .bool false, .bool false, .bool false, .bool true]) (.int .i64 2)).run Tryz.prog w = .ok (.agg #[.bool true, .bool true, .bool false, .bool false, .bool false, .bool false]) w := fun w => by kernel_rfl
 have hiy : ∀ w, (Instr.index 111 (.agg #[.bool true, .bool true, .bool false, .bool false, .bool false, .bool false]) (.int .i64 2)).run Tryz.prog w = .ok (.bool false) w := fun w => by kernel_rfl
 have hF := hA.facts; (try simp only [uY] at hA hF)
 go_enter Tryz.func38, Tryz.ntmps38
 go_wp2_with (first | ((with_reducible refine gbx ?_); refine wH 57 [.int .i64 2, .int .u64 num, .string foot, .int .u64 req, .string path, .int .i64 mode, .int .u64 n, .int .i64 time] hA ?_; clear hF hA; intro bX w1 hA hbX hF; (try simp only [uY] at hA hF)) | ((with_reducible refine gst ?_); refine wT hA ?_; clear hF hA; intro w1 hA hF; (try simp only [uY] at hA hF)) | ((with_reducible refine gbx ?_); refine wC hA ?_; clear hF hA; intro b1 w1 hA hb1 hF; (try simp only [uY] at hA hF)))
 refine (hrc _).mono ?_
 clear hrc
 rintro e w1 ⟨rfl, hx⟩
 have hB := hA.ext hx
 clear hF hA hx; have hA := hB; clear hB
 have hF := hA.facts; (try simp only [uY] at hA hF)
 go_wp2_with (first | ((with_reducible refine gst ?_); refine wT hA ?_; clear hF hA; intro w1 hA hF; (try simp only [uY] at hA hF)) | ((with_reducible refine gbx ?_); refine wC hA ?_; clear hF hA; intro b1 w1 hA hb1 hF; (try simp only [uY] at hA hF)))
 try go_frame
 refine cl3 hA ?_; clear hF hA; intro w1 hA hF; (try simp only [uY] at hA hF)
 clear hh hix hiy
 go_wp2_with (first | ((with_reducible refine gst ?_); refine wT hA ?_; clear hF hA; intro w1 hA hF; (try simp only [uY] at hA hF)) | ((with_reducible refine gbx ?_); refine wC hA ?_; clear hF hA; intro b1 w1 hA hb1 hF; (try simp only [uY] at hA hF)))
 refine bodyPost_ret (v := .tuple #[.string foot, .bool true]) (by simp [results, Tryz.results38, go_sem, hF]) rfl ⟨rfl, hA.toExt⟩
theorem footR_3 (num : Int) (foot : ByteArray) (req : Int) (path : ByteArray) (mode n time : Int) (w : World) (hrc : ∀ w, Calls Tryz.prog 61 #[.agg #[.int .i64 3, .int .u64 num, .string foot, .int .u64 req, .string path, .int .i64 mode, .int .u64 n, .int .i64 time]] w fun e w' => e = .returned (.bool true) ∧ Ext w w') :
 Calls Tryz.prog 38 #[.agg #[.int .i64 3, .int .u64 num, .string foot, .int .u64 req, .string path, .int .i64 mode, .int .u64 n, .int .i64 time]] w fun e w' => e = .returned (.tuple #[.string foot, .bool true]) ∧ Ext w w' := by
 have hA : At [] w [] w := At.start (L0 := []) trivial
 have hF := hA.facts
 have hh := fun w => hasR_any w
 have hix : ∀ w, (Instr.index 112 (.agg #[.bool false, .bool false, .bool false, .bool false, .bool false, .bool false, .bool true, .bool true, .bool false, .bool false, .bool true, .bool true, .bool true, .bool true, .bool false, .bool false, .bool false, .bool false, .bool true, .bool true, .bool false, .bool false, .bool false, .bool true, .bool true, .bool true, .bool true, .bool true, .bool false, .bool false, .bool true, .bool true, .bool true, .bool true, .bool false, .bool false, .bool true, .bool true, .bool true, .bool false, .bool false, .bool false, .bool true, .bool true, .bool true, .bool false, .bool true, .bool false, .bool true, .bool false, .bool false, .bool false, .bool false, .bool true]) (.int .i64 3)).run Tryz.prog w = .ok (.agg #[.bool true, .bool true, .bool false, .bool false, .bool false, .bool true]) w := fun w => by kernel_rfl
 have hiy : ∀ w, (Instr.index 111 (.agg #[.bool true, .bool true, .bool false, .bool false, .bool false, .bool true]) (.int .i64 2)).run Tryz.prog w = .ok (.bool false) w := fun w => by kernel_rfl
 have hF := hA.facts; (try simp only [uY] at hA hF)
 go_enter Tryz.func38, Tryz.ntmps38
 go_wp2_with (first | ((with_reducible refine gbx ?_); refine wH 57 [.int .i64 3, .int .u64 num, .string foot, .int .u64 req, .string path, .int .i64 mode, .int .u64 n, .int .i64 time] hA ?_; clear hF hA; intro bX w1 hA hbX hF; (try simp only [uY] at hA hF)) | ((with_reducible refine gst ?_); refine wT hA ?_; clear hF hA; intro w1 hA hF; (try simp only [uY] at hA hF)) | ((with_reducible refine gbx ?_); refine wC hA ?_; clear hF hA; intro b1 w1 hA hb1 hF; (try simp only [uY] at hA hF)))
 refine (hrc _).mono ?_
 clear hrc
 rintro e w1 ⟨rfl, hx⟩
 have hB := hA.ext hx
 clear hF hA hx; have hA := hB; clear hB
 have hF := hA.facts; (try simp only [uY] at hA hF)
 go_wp2_with (first | ((with_reducible refine gst ?_); refine wT hA ?_; clear hF hA; intro w1 hA hF; (try simp only [uY] at hA hF)) | ((with_reducible refine gbx ?_); refine wC hA ?_; clear hF hA; intro b1 w1 hA hb1 hF; (try simp only [uY] at hA hF)))
 try go_frame
 refine cl3 hA ?_; clear hF hA; intro w1 hA hF; (try simp only [uY] at hA hF)
 clear hh hix hiy
 go_wp2_with (first | ((with_reducible refine gst ?_); refine wT hA ?_; clear hF hA; intro w1 hA hF; (try simp only [uY] at hA hF)) | ((with_reducible refine gbx ?_); refine wC hA ?_; clear hF hA; intro b1 w1 hA hb1 hF; (try simp only [uY] at hA hF)))
 refine bodyPost_ret (v := .tuple #[.string foot, .bool true]) (by simp [results, Tryz.results38, go_sem, hF]) rfl ⟨rfl, hA.toExt⟩
theorem footR_4 (num : Int) (foot : ByteArray) (req : Int) (path : ByteArray) (mode n time : Int) (w : World) (hrc : ∀ w, Calls Tryz.prog 61 #[.agg #[.int .i64 4, .int .u64 num, .string foot, .int .u64 req, .string path, .int .i64 mode, .int .u64 n, .int .i64 time]] w fun e w' => e = .returned (.bool true) ∧ Ext w w') :
 Calls Tryz.prog 38 #[.agg #[.int .i64 4, .int .u64 num, .string foot, .int .u64 req, .string path, .int .i64 mode, .int .u64 n, .int .i64 time]] w fun e w' => e = .returned (.tuple #[.string path, .bool true]) ∧ Ext w w' := by
 have hA : At [] w [] w := At.start (L0 := []) trivial
 have hF := hA.facts
 have hh := fun w => hasR_any w
 have hix : ∀ w, (Instr.index 112 (.agg #[.bool false, .bool false, .bool false, .bool false, .bool false, .bool false, .bool true, .bool true, .bool false, .bool false, .bool true, .bool true, .bool true, .bool true, .bool false, .bool false, .bool false, .bool false, .bool true, .bool true, .bool false, .bool false, .bool false, .bool true, .bool true, .bool true, .bool true, .bool true, .bool false, .bool false, .bool true, .bool true, .bool true, .bool true, .bool false, .bool false, .bool true, .bool true, .bool true, .bool false, .bool false, .bool false, .bool true, .bool true, .bool true, .bool false, .bool true, .bool false, .bool true, .bool false, .bool false, .bool false, .bool false, .bool true]) (.int .i64 4)).run Tryz.prog w = .ok (.agg #[.bool true, .bool true, .bool true, .bool true, .bool false, .bool false]) w := fun w => by kernel_rfl
 have hiy : ∀ w, (Instr.index 111 (.agg #[.bool true, .bool true, .bool true, .bool true, .bool false, .bool false]) (.int .i64 2)).run Tryz.prog w = .ok (.bool true) w := fun w => by kernel_rfl
 have hF := hA.facts; (try simp only [uY] at hA hF)
 go_enter Tryz.func38, Tryz.ntmps38
 go_wp2_with (first | ((with_reducible refine gbx ?_); refine wH 57 [.int .i64 4, .int .u64 num, .string foot, .int .u64 req, .string path, .int .i64 mode, .int .u64 n, .int .i64 time] hA ?_; clear hF hA; intro bX w1 hA hbX hF; (try simp only [uY] at hA hF)) | ((with_reducible refine gst ?_); refine wT hA ?_; clear hF hA; intro w1 hA hF; (try simp only [uY] at hA hF)) | ((with_reducible refine gbx ?_); refine wC hA ?_; clear hF hA; intro b1 w1 hA hb1 hF; (try simp only [uY] at hA hF)))
 refine (hrc _).mono ?_
 clear hrc
 rintro e w1 ⟨rfl, hx⟩
 have hB := hA.ext hx
 clear hF hA hx; have hA := hB; clear hB
 have hF := hA.facts; (try simp only [uY] at hA hF)
 go_wp2_with (first | ((with_reducible refine gst ?_); refine wT hA ?_; clear hF hA; intro w1 hA hF; (try simp only [uY] at hA hF)) | ((with_reducible refine gbx ?_); refine wC hA ?_; clear hF hA; intro b1 w1 hA hb1 hF; (try simp only [uY] at hA hF)))
 try go_frame
 refine cl3 hA ?_; clear hF hA; intro w1 hA hF; (try simp only [uY] at hA hF)
 clear hh hix hiy
 go_wp2_with (first | ((with_reducible refine gst ?_); refine wT hA ?_; clear hF hA; intro w1 hA hF; (try simp only [uY] at hA hF)) | ((with_reducible refine gbx ?_); refine wC hA ?_; clear hF hA; intro b1 w1 hA hb1 hF; (try simp only [uY] at hA hF)))
 refine bodyPost_ret (v := .tuple #[.string path, .bool true]) (by simp [results, Tryz.results38, go_sem, hF]) rfl ⟨rfl, hA.toExt⟩
theorem footR_5 (num : Int) (foot : ByteArray) (req : Int) (path : ByteArray) (mode n time : Int) (w : World) (hrc : ∀ w, Calls Tryz.prog 61 #[.agg #[.int .i64 5, .int .u64 num, .string foot, .int .u64 req, .string path, .int .i64 mode, .int .u64 n, .int .i64 time]] w fun e w' => e = .returned (.bool true) ∧ Ext w w') :
 Calls Tryz.prog 38 #[.agg #[.int .i64 5, .int .u64 num, .string foot, .int .u64 req, .string path, .int .i64 mode, .int .u64 n, .int .i64 time]] w fun e w' => e = .returned (.tuple #[.string path, .bool true]) ∧ Ext w w' := by
 have hA : At [] w [] w := At.start (L0 := []) trivial
 have hF := hA.facts
 have hh := fun w => hasR_any w
 have hix : ∀ w, (Instr.index 112 (.agg #[.bool false, .bool false, .bool false, .bool false, .bool false, .bool false, .bool true, .bool true, .bool false, .bool false, .bool true, .bool true, .bool true, .bool true, .bool false, .bool false, .bool false, .bool false, .bool true, .bool true, .bool false, .bool false, .bool false, .bool true, .bool true, .bool true, .bool true, .bool true, .bool false, .bool false, .bool true, .bool true, .bool true, .bool true, .bool false, .bool false, .bool true, .bool true, .bool true, .bool false, .bool false, .bool false, .bool true, .bool true, .bool true, .bool false, .bool true, .bool false, .bool true, .bool false, .bool false, .bool false, .bool false, .bool true]) (.int .i64 5)).run Tryz.prog w = .ok (.agg #[.bool true, .bool true, .bool true, .bool true, .bool false, .bool false]) w := fun w => by kernel_rfl
 have hiy : ∀ w, (Instr.index 111 (.agg #[.bool true, .bool true, .bool true, .bool true, .bool false, .bool false]) (.int .i64 2)).run Tryz.prog w = .ok (.bool true) w := fun w => by kernel_rfl
 have hF := hA.facts; (try simp only [uY] at hA hF)
 go_enter Tryz.func38, Tryz.ntmps38
 go_wp2_with (first | ((with_reducible refine gbx ?_); refine wH 57 [.int .i64 5, .int .u64 num, .string foot, .int .u64 req, .string path, .int .i64 mode, .int .u64 n, .int .i64 time] hA ?_; clear hF hA; intro bX w1 hA hbX hF; (try simp only [uY] at hA hF)) | ((with_reducible refine gst ?_); refine wT hA ?_; clear hF hA; intro w1 hA hF; (try simp only [uY] at hA hF)) | ((with_reducible refine gbx ?_); refine wC hA ?_; clear hF hA; intro b1 w1 hA hb1 hF; (try simp only [uY] at hA hF)))
 refine (hrc _).mono ?_
 clear hrc
 rintro e w1 ⟨rfl, hx⟩
 have hB := hA.ext hx
 clear hF hA hx; have hA := hB; clear hB
 have hF := hA.facts; (try simp only [uY] at hA hF)
 go_wp2_with (first | ((with_reducible refine gst ?_); refine wT hA ?_; clear hF hA; intro w1 hA hF; (try simp only [uY] at hA hF)) | ((with_reducible refine gbx ?_); refine wC hA ?_; clear hF hA; intro b1 w1 hA hb1 hF; (try simp only [uY] at hA hF)))
 try go_frame
 refine cl3 hA ?_; clear hF hA; intro w1 hA hF; (try simp only [uY] at hA hF)
 clear hh hix hiy
 go_wp2_with (first | ((with_reducible refine gst ?_); refine wT hA ?_; clear hF hA; intro w1 hA hF; (try simp only [uY] at hA hF)) | ((with_reducible refine gbx ?_); refine wC hA ?_; clear hF hA; intro b1 w1 hA hb1 hF; (try simp only [uY] at hA hF)))
 refine bodyPost_ret (v := .tuple #[.string path, .bool true]) (by simp [results, Tryz.results38, go_sem, hF]) rfl ⟨rfl, hA.toExt⟩
theorem footR_6 (num : Int) (foot : ByteArray) (req : Int) (path : ByteArray) (mode n time : Int) (w : World) (hrc : ∀ w, Calls Tryz.prog 61 #[.agg #[.int .i64 6, .int .u64 num, .string foot, .int .u64 req, .string path, .int .i64 mode, .int .u64 n, .int .i64 time]] w fun e w' => e = .returned (.bool true) ∧ Ext w w') :
 Calls Tryz.prog 38 #[.agg #[.int .i64 6, .int .u64 num, .string foot, .int .u64 req, .string path, .int .i64 mode, .int .u64 n, .int .i64 time]] w fun e w' => e = .returned (.tuple #[.string path, .bool true]) ∧ Ext w w' := by
 have hA : At [] w [] w := At.start (L0 := []) trivial
 have hF := hA.facts
 have hh := fun w => hasR_any w
 have hix : ∀ w, (Instr.index 112 (.agg #[.bool false, .bool false, .bool false, .bool false, .bool false, .bool false, .bool true, .bool true, .bool false, .bool false, .bool true, .bool true, .bool true, .bool true, .bool false, .bool false, .bool false, .bool false, .bool true, .bool true, .bool false, .bool false, .bool false, .bool true, .bool true, .bool true, .bool true, .bool true, .bool false, .bool false, .bool true, .bool true, .bool true, .bool true, .bool false, .bool false, .bool true, .bool true, .bool true, .bool false, .bool false, .bool false, .bool true, .bool true, .bool true, .bool false, .bool true, .bool false, .bool true, .bool false, .bool false, .bool false, .bool false, .bool true]) (.int .i64 6)).run Tryz.prog w = .ok (.agg #[.bool true, .bool true, .bool true, .bool false, .bool false, .bool false]) w := fun w => by kernel_rfl
 have hiy : ∀ w, (Instr.index 111 (.agg #[.bool true, .bool true, .bool true, .bool false, .bool false, .bool false]) (.int .i64 2)).run Tryz.prog w = .ok (.bool true) w := fun w => by kernel_rfl
 have hF := hA.facts; (try simp only [uY] at hA hF)
 go_enter Tryz.func38, Tryz.ntmps38
 go_wp2_with (first | ((with_reducible refine gbx ?_); refine wH 57 [.int .i64 6, .int .u64 num, .string foot, .int .u64 req, .string path, .int .i64 mode, .int .u64 n, .int .i64 time] hA ?_; clear hF hA; intro bX w1 hA hbX hF; (try simp only [uY] at hA hF)) | ((with_reducible refine gst ?_); refine wT hA ?_; clear hF hA; intro w1 hA hF; (try simp only [uY] at hA hF)) | ((with_reducible refine gbx ?_); refine wC hA ?_; clear hF hA; intro b1 w1 hA hb1 hF; (try simp only [uY] at hA hF)))
 refine (hrc _).mono ?_
 clear hrc
 rintro e w1 ⟨rfl, hx⟩
 have hB := hA.ext hx
 clear hF hA hx; have hA := hB; clear hB
 have hF := hA.facts; (try simp only [uY] at hA hF)
 go_wp2_with (first | ((with_reducible refine gst ?_); refine wT hA ?_; clear hF hA; intro w1 hA hF; (try simp only [uY] at hA hF)) | ((with_reducible refine gbx ?_); refine wC hA ?_; clear hF hA; intro b1 w1 hA hb1 hF; (try simp only [uY] at hA hF)))
 try go_frame
 refine cl3 hA ?_; clear hF hA; intro w1 hA hF; (try simp only [uY] at hA hF)
 clear hh hix hiy
 go_wp2_with (first | ((with_reducible refine gst ?_); refine wT hA ?_; clear hF hA; intro w1 hA hF; (try simp only [uY] at hA hF)) | ((with_reducible refine gbx ?_); refine wC hA ?_; clear hF hA; intro b1 w1 hA hb1 hF; (try simp only [uY] at hA hF)))
 refine bodyPost_ret (v := .tuple #[.string path, .bool true]) (by simp [results, Tryz.results38, go_sem, hF]) rfl ⟨rfl, hA.toExt⟩
theorem footR_7 (num : Int) (foot : ByteArray) (req : Int) (path : ByteArray) (mode n time : Int) (w : World) (hrc : ∀ w, Calls Tryz.prog 61 #[.agg #[.int .i64 7, .int .u64 num, .string foot, .int .u64 req, .string path, .int .i64 mode, .int .u64 n, .int .i64 time]] w fun e w' => e = .returned (.bool true) ∧ Ext w w') :
 Calls Tryz.prog 38 #[.agg #[.int .i64 7, .int .u64 num, .string foot, .int .u64 req, .string path, .int .i64 mode, .int .u64 n, .int .i64 time]] w fun e w' => e = .returned (.tuple #[.string path, .bool true]) ∧ Ext w w' := by
 have hA : At [] w [] w := At.start (L0 := []) trivial
 have hF := hA.facts
 have hh := fun w => hasR_any w
 have hix : ∀ w, (Instr.index 112 (.agg #[.bool false, .bool false, .bool false, .bool false, .bool false, .bool false, .bool true, .bool true, .bool false, .bool false, .bool true, .bool true, .bool true, .bool true, .bool false, .bool false, .bool false, .bool false, .bool true, .bool true, .bool false, .bool false, .bool false, .bool true, .bool true, .bool true, .bool true, .bool true, .bool false, .bool false, .bool true, .bool true, .bool true, .bool true, .bool false, .bool false, .bool true, .bool true, .bool true, .bool false, .bool false, .bool false, .bool true, .bool true, .bool true, .bool false, .bool true, .bool false, .bool true, .bool false, .bool false, .bool false, .bool false, .bool true]) (.int .i64 7)).run Tryz.prog w = .ok (.agg #[.bool true, .bool true, .bool true, .bool false, .bool true, .bool false]) w := fun w => by kernel_rfl
 have hiy : ∀ w, (Instr.index 111 (.agg #[.bool true, .bool true, .bool true, .bool false, .bool true, .bool false]) (.int .i64 2)).run Tryz.prog w = .ok (.bool true) w := fun w => by kernel_rfl
 have hF := hA.facts; (try simp only [uY] at hA hF)
 go_enter Tryz.func38, Tryz.ntmps38
 go_wp2_with (first | ((with_reducible refine gbx ?_); refine wH 57 [.int .i64 7, .int .u64 num, .string foot, .int .u64 req, .string path, .int .i64 mode, .int .u64 n, .int .i64 time] hA ?_; clear hF hA; intro bX w1 hA hbX hF; (try simp only [uY] at hA hF)) | ((with_reducible refine gst ?_); refine wT hA ?_; clear hF hA; intro w1 hA hF; (try simp only [uY] at hA hF)) | ((with_reducible refine gbx ?_); refine wC hA ?_; clear hF hA; intro b1 w1 hA hb1 hF; (try simp only [uY] at hA hF)))
 refine (hrc _).mono ?_
 clear hrc
 rintro e w1 ⟨rfl, hx⟩
 have hB := hA.ext hx
 clear hF hA hx; have hA := hB; clear hB
 have hF := hA.facts; (try simp only [uY] at hA hF)
 go_wp2_with (first | ((with_reducible refine gst ?_); refine wT hA ?_; clear hF hA; intro w1 hA hF; (try simp only [uY] at hA hF)) | ((with_reducible refine gbx ?_); refine wC hA ?_; clear hF hA; intro b1 w1 hA hb1 hF; (try simp only [uY] at hA hF)))
 try go_frame
 refine cl3 hA ?_; clear hF hA; intro w1 hA hF; (try simp only [uY] at hA hF)
 clear hh hix hiy
 go_wp2_with (first | ((with_reducible refine gst ?_); refine wT hA ?_; clear hF hA; intro w1 hA hF; (try simp only [uY] at hA hF)) | ((with_reducible refine gbx ?_); refine wC hA ?_; clear hF hA; intro b1 w1 hA hb1 hF; (try simp only [uY] at hA hF)))
 refine bodyPost_ret (v := .tuple #[.string path, .bool true]) (by simp [results, Tryz.results38, go_sem, hF]) rfl ⟨rfl, hA.toExt⟩
theorem footR_8 (num : Int) (foot : ByteArray) (req : Int) (path : ByteArray) (mode n time : Int) (w : World) (hrc : ∀ w, Calls Tryz.prog 61 #[.agg #[.int .i64 8, .int .u64 num, .string foot, .int .u64 req, .string path, .int .i64 mode, .int .u64 n, .int .i64 time]] w fun e w' => e = .returned (.bool true) ∧ Ext w w') :
 Calls Tryz.prog 38 #[.agg #[.int .i64 8, .int .u64 num, .string foot, .int .u64 req, .string path, .int .i64 mode, .int .u64 n, .int .i64 time]] w fun e w' => e = .returned (.tuple #[.string foot, .bool true]) ∧ Ext w w' := by
 have hA : At [] w [] w := At.start (L0 := []) trivial
 have hF := hA.facts
 have hh := fun w => hasR_any w
 have hix : ∀ w, (Instr.index 112 (.agg #[.bool false, .bool false, .bool false, .bool false, .bool false, .bool false, .bool true, .bool true, .bool false, .bool false, .bool true, .bool true, .bool true, .bool true, .bool false, .bool false, .bool false, .bool false, .bool true, .bool true, .bool false, .bool false, .bool false, .bool true, .bool true, .bool true, .bool true, .bool true, .bool false, .bool false, .bool true, .bool true, .bool true, .bool true, .bool false, .bool false, .bool true, .bool true, .bool true, .bool false, .bool false, .bool false, .bool true, .bool true, .bool true, .bool false, .bool true, .bool false, .bool true, .bool false, .bool false, .bool false, .bool false, .bool true]) (.int .i64 8)).run Tryz.prog w = .ok (.agg #[.bool true, .bool false, .bool false, .bool false, .bool false, .bool true]) w := fun w => by kernel_rfl
 have hiy : ∀ w, (Instr.index 111 (.agg #[.bool true, .bool false, .bool false, .bool false, .bool false, .bool true]) (.int .i64 2)).run Tryz.prog w = .ok (.bool false) w := fun w => by kernel_rfl
 have hF := hA.facts; (try simp only [uY] at hA hF)
 go_enter Tryz.func38, Tryz.ntmps38
 go_wp2_with (first | ((with_reducible refine gbx ?_); refine wH 57 [.int .i64 8, .int .u64 num, .string foot, .int .u64 req, .string path, .int .i64 mode, .int .u64 n, .int .i64 time] hA ?_; clear hF hA; intro bX w1 hA hbX hF; (try simp only [uY] at hA hF)) | ((with_reducible refine gst ?_); refine wT hA ?_; clear hF hA; intro w1 hA hF; (try simp only [uY] at hA hF)) | ((with_reducible refine gbx ?_); refine wC hA ?_; clear hF hA; intro b1 w1 hA hb1 hF; (try simp only [uY] at hA hF)))
 refine (hrc _).mono ?_
 clear hrc
 rintro e w1 ⟨rfl, hx⟩
 have hB := hA.ext hx
 clear hF hA hx; have hA := hB; clear hB
 have hF := hA.facts; (try simp only [uY] at hA hF)
 go_wp2_with (first | ((with_reducible refine gst ?_); refine wT hA ?_; clear hF hA; intro w1 hA hF; (try simp only [uY] at hA hF)) | ((with_reducible refine gbx ?_); refine wC hA ?_; clear hF hA; intro b1 w1 hA hb1 hF; (try simp only [uY] at hA hF)))
 try go_frame
 refine cl3 hA ?_; clear hF hA; intro w1 hA hF; (try simp only [uY] at hA hF)
 clear hh hix hiy
 go_wp2_with (first | ((with_reducible refine gst ?_); refine wT hA ?_; clear hF hA; intro w1 hA hF; (try simp only [uY] at hA hF)) | ((with_reducible refine gbx ?_); refine wC hA ?_; clear hF hA; intro b1 w1 hA hb1 hF; (try simp only [uY] at hA hF)))
 refine bodyPost_ret (v := .tuple #[.string foot, .bool true]) (by simp [results, Tryz.results38, go_sem, hF]) rfl ⟨rfl, hA.toExt⟩
theorem footR_no (c : Cm) (w : World) {rc : Bool} (hrc : ∀ w, Calls Tryz.prog 61 #[c.val] w fun e w' => e = .returned (.bool rc) ∧ Ext w w') (hk : rc = false ∨ c.kind = 0) :
 Calls Tryz.prog 38 #[c.val] w fun e w' => e = .returned (.tuple #[.string .empty, .bool false]) ∧ Ext w w' := by
 have hA : At [] w [] w := At.start (L0 := []) trivial
 have hF := hA.facts
 obtain ⟨kind, num, foot, req, path, mode, n, time⟩ := c
 simp only [Cm.val] at *
 have hF := hA.facts; (try simp only [uY] at hA hF)
 cases rc
 · go_enter Tryz.func38, Tryz.ntmps38
   go_wp2_with (first | ((with_reducible refine gbx ?_); refine wH 57 [.int .i64 kind, .int .u64 num, .string foot, .int .u64 req, .string path, .int .i64 mode, .int .u64 n, .int .i64 time] hA ?_; clear hF hA; intro bX w1 hA hbX hF; (try simp only [uY] at hA hF)) | ((with_reducible refine gst ?_); refine wT hA ?_; clear hF hA; intro w1 hA hF; (try simp only [uY] at hA hF)) | ((with_reducible refine gbx ?_); refine wC hA ?_; clear hF hA; intro b1 w1 hA hb1 hF; (try simp only [uY] at hA hF)))
   refine (hrc _).mono ?_
   clear hrc
   rintro e w1 ⟨rfl, hx⟩
   have hB := hA.ext hx
   clear hF hA hx; have hA := hB; clear hB
   have hF := hA.facts; (try simp only [uY] at hA hF)
   go_wp2_with (first | ((with_reducible refine gst ?_); refine wT hA ?_; clear hF hA; intro w1 hA hF; (try simp only [uY] at hA hF)) | ((with_reducible refine gbx ?_); refine wC hA ?_; clear hF hA; intro b1 w1 hA hb1 hF; (try simp only [uY] at hA hF)))
   refine bodyPost_ret (v := .tuple #[.string ⟨#[]⟩, .bool false]) (by simp [results, Tryz.results38, go_sem, hF]) rfl ⟨rfl, hA.toExt⟩
 · have hk0 : kind = 0 := by rcases hk with h | h; cases h; exact h
   subst hk0
   clear hk
   go_enter Tryz.func38, Tryz.ntmps38
   go_wp2_with (first | ((with_reducible refine gbx ?_); refine wH 57 [.int .i64 0, .int .u64 num, .string foot, .int .u64 req, .string path, .int .i64 mode, .int .u64 n, .int .i64 time] hA ?_; clear hF hA; intro bX w1 hA hbX hF; (try simp only [uY] at hA hF)) | ((with_reducible refine gst ?_); refine wT hA ?_; clear hF hA; intro w1 hA hF; (try simp only [uY] at hA hF)) | ((with_reducible refine gbx ?_); refine wC hA ?_; clear hF hA; intro b1 w1 hA hb1 hF; (try simp only [uY] at hA hF)))
   refine (hrc _).mono ?_
   clear hrc
   rintro e w1 ⟨rfl, hx⟩
   have hB := hA.ext hx
   clear hF hA hx; have hA := hB; clear hB
   have hF := hA.facts; (try simp only [uY] at hA hF)
   go_wp2_with (first | ((with_reducible refine gst ?_); refine wT hA ?_; clear hF hA; intro w1 hA hF; (try simp only [uY] at hA hF)) | ((with_reducible refine gbx ?_); refine wC hA ?_; clear hF hA; intro b1 w1 hA hb1 hF; (try simp only [uY] at hA hF)))
   refine bodyPost_ret (v := .tuple #[.string ⟨#[]⟩, .bool false]) (by simp [results, Tryz.results38, go_sem, hF]) rfl ⟨rfl, hA.toExt⟩
theorem refFoot_ok (c : Cm) (hf : c.foot.size ≤ 1000) (hp : c.path.size ≤ 1000) : ∃ (f : ByteArray) (b : Bool), ∀ w, Calls Tryz.prog 38 #[c.val] w fun e w' => e = .returned (.tuple #[.string f, .bool b]) ∧ Ext w w' := by
 by_cases hk : c.kind < 0 ∨ 8 < c.kind
 · exact ⟨_, _, fun w => footR_no c w (fun w => rightR_no c hk w) (.inl rfl)⟩
 obtain ⟨rc, hrc⟩ := refRight_ok c hf hp
 cases rc with
 | false => exact ⟨_, _, fun w => footR_no c w hrc (.inl rfl)⟩
 | true =>
  obtain ⟨kind, num, foot, req, path, mode, n, time⟩ := c
  by_cases h0 : kind = 0
  · exact ⟨_, _, fun w => footR_no ⟨kind, num, foot, req, path, mode, n, time⟩ w hrc (.inr h0)⟩
  by_cases h1 : kind = 1
  · subst h1
    exact ⟨_, _, fun w => footR_1 num foot req path mode n time w hrc⟩
  by_cases h2 : kind = 2
  · subst h2
    exact ⟨_, _, fun w => footR_2 num foot req path mode n time w hrc⟩
  by_cases h3 : kind = 3
  · subst h3
    exact ⟨_, _, fun w => footR_3 num foot req path mode n time w hrc⟩
  by_cases h4 : kind = 4
  · subst h4
    exact ⟨_, _, fun w => footR_4 num foot req path mode n time w hrc⟩
  by_cases h5 : kind = 5
  · subst h5
    exact ⟨_, _, fun w => footR_5 num foot req path mode n time w hrc⟩
  by_cases h6 : kind = 6
  · subst h6
    exact ⟨_, _, fun w => footR_6 num foot req path mode n time w hrc⟩
  by_cases h7 : kind = 7
  · subst h7
    exact ⟨_, _, fun w => footR_7 num foot req path mode n time w hrc⟩
  by_cases h8 : kind = 8
  · subst h8
    exact ⟨_, _, fun w => footR_8 num foot req path mode n time w hrc⟩
  exact absurd (show kind < 0 ∨ 8 < kind by omega) hk
end Go.Proofs.YtgbpfgdjnhbcgaaGreatDoor.Cmd
end
section
namespace Go.Proofs.YtgbpfgdjnhbcgaaGreatDoor.Ix
open Go.RowKit
open Path (bl rightB overB)
open Attr (A8 rightI)
open Cmd (Cm through0 idR_any refFoot_ok)
attribute [-go_sem] run_eql_struct run_neq_struct run_eqGuard_agg
theorem of12_any (c : Cm) (w : World) : Calls Tryz.prog 15 #[c.val] w fun e w' => e = .returned c.val ∧ Ext w w' := by
 have hA : At [] w [] w := At.start (L0 := []) trivial
 have hF := hA.facts
 obtain ⟨kind, num, foot, req, path, mode, n, time⟩ := c
 simp only [Cm.val]
 have hF := hA.facts; (try simp only [uZ] at hA hF)
 go_enter Tryz.func15, Tryz.ntmps15
 go_wp2_with (first | ((with_reducible refine gbx ?_); refine wH 27 [.int .i64 kind, .int .u64 num, .string foot, .int .u64 req, .string path, .int .i64 mode, .int .u64 n, .int .i64 time] hA ?_; clear hF hA; intro bX w1 hA hbX hF; (try simp only [uZ] at hA hF)) | ((with_reducible refine gal ?_); refine wG 57 [.int .i64 0, .int .u64 0, .string .empty, .int .u64 0, .string .empty, .int .i64 0, .int .u64 0, .int .i64 0] hA ?_; clear hF hA; intro bR w1 hA hbR hF; (try simp only [uZ] at hA hF)) | ((with_reducible refine gst ?_); refine wT hA ?_; clear hF hA; intro w1 hA hF; (try simp only [uZ] at hA hF)) | ((with_reducible refine gbx ?_); refine wC hA ?_; clear hF hA; intro b1 w1 hA hb1 hF; (try simp only [uZ] at hA hF)))
 refine bodyPost_ret (v := .agg #[.int .i64 kind, .int .u64 num, .string foot, .int .u64 req, .string path, .int .i64 mode, .int .u64 n, .int .i64 time]) (by simp [results, Tryz.results15, go_sem, hF]) rfl ⟨rfl, hA.toExt⟩
def smallB (c : Cm) : Bool := decide (c.path.size < 200) && decide (c.foot.size < 200)
theorem small_any (c : Cm) (w : World) : Calls Tryz.prog 7 #[c.val] w fun e w' => e = .returned (.bool (smallB c)) ∧ Ext w w' := by
 have hA : At [] w [] w := At.start (L0 := []) trivial
 have hF := hA.facts
 obtain ⟨kind, num, foot, req, path, mode, n, time⟩ := c
 unfold smallB
 simp only [Cm.val]
 obtain ⟨x0, h0⟩ : ∃ x, decide (path.size < 200) = x := ⟨_, rfl⟩
 obtain ⟨x1, h1⟩ : ∃ x, decide (foot.size < 200) = x := ⟨_, rfl⟩
 have g0 : decide ((path.size : Int) < 200) = x0 := by rw [← h0, decide_eq_decide]; omega
 have g1 : decide ((foot.size : Int) < 200) = x1 := by rw [← h1, decide_eq_decide]; omega
 rw [h0, h1]
 clear h0 h1
 have hF := hA.facts; (try simp only [uZ] at hA hF)
 cases x0
 · go_enter Tryz.func7, Tryz.ntmps7
   go_wp2_with (first | ((with_reducible refine gbx ?_); refine wH 27 [.int .i64 kind, .int .u64 num, .string foot, .int .u64 req, .string path, .int .i64 mode, .int .u64 n, .int .i64 time] hA ?_; clear hF hA; intro bX w1 hA hbX hF; (try simp only [uZ] at hA hF)) | ((with_reducible refine gst ?_); refine wT hA ?_; clear hF hA; intro w1 hA hF; (try simp only [uZ] at hA hF)) | ((with_reducible refine gbx ?_); refine wC hA ?_; clear hF hA; intro b1 w1 hA hb1 hF; (try simp only [uZ] at hA hF)))
   go_ret
   exact ⟨rfl, hA.toExt⟩
 · go_enter Tryz.func7, Tryz.ntmps7
   go_wp2_with (first | ((with_reducible refine gbx ?_); refine wH 27 [.int .i64 kind, .int .u64 num, .string foot, .int .u64 req, .string path, .int .i64 mode, .int .u64 n, .int .i64 time] hA ?_; clear hF hA; intro bX w1 hA hbX hF; (try simp only [uZ] at hA hF)) | ((with_reducible refine gst ?_); refine wT hA ?_; clear hF hA; intro w1 hA hF; (try simp only [uZ] at hA hF)) | ((with_reducible refine gbx ?_); refine wC hA ?_; clear hF hA; intro b1 w1 hA hb1 hF; (try simp only [uZ] at hA hF)))
   go_ret
   exact ⟨rfl, hA.toExt⟩
def cutI (q : Int) : Int := if q < 0 then 0 else if 1073741824 < q then 1073741824 else q
theorem cut_any (q : Int) (w : World) : Calls Tryz.prog 41 #[.int .i64 q] w fun e w' => e = .returned (.int .i64 (cutI q)) ∧ Ext w w' := by
 have hA : At [] w [] w := At.start (L0 := []) trivial
 unfold cutI
 by_cases h0 : q < 0
 · rw [if_pos h0]
   go_enter Tryz.func41, Tryz.ntmps41
   go_wp2_with fail
   go_ret
   exact ⟨rfl, hA.toExt⟩
 · rw [if_neg h0]
   by_cases h1 : 1073741824 < q
   · rw [if_pos h1]
     go_enter Tryz.func41, Tryz.ntmps41
     go_wp2_with fail
     go_ret
     exact ⟨rfl, hA.toExt⟩
   · rw [if_neg h1]
     go_enter Tryz.func41, Tryz.ntmps41
     go_wp2_with fail
     go_ret
     exact ⟨rfl, hA.toExt⟩
theorem infoN : (Tryz.prog.info? 53).map (fun i => (i.zero, i.size, i.bytes)) = some (some (.agg #[.string .empty, .int .u64 0, .int .i64 0, .int .i64 0, .int .i64 0, .int .i64 0, .int .i64 0, .int .i64 0, .int .i64 0, .int .i64 0]), 10, 88) := by kernel_rfl
end Go.Proofs.YtgbpfgdjnhbcgaaGreatDoor.Ix
end
section
namespace Go
open _root_.Go.Proofs.YtgbpfgdjnhbcgaaGreatDoor
open Go.RowKit
section
variable {P : Program} {ops : Array Oper} {Q : Exit → Act → World → Prop} {md : Region.Mode} {S : World → Prop} {L0 L F : List Part} {w0 w : World}
theorem opAlloc_at {i : Nat} {d : Option Tmp} {o : Oper} {a : Act} {K : Act → World → Prop} {E : TypeId} (ho : ops[i]? = some o) (hd : o.dst = d) (hw : Region.wanted o (yielded ops a.tmps) = true) (hop : o.op = .alloc E) {z : Value} (hz : (P.info? E).map (·.zero) = some (some z)) {vs : List Value} (hv : z.cells = vs.toArray) (h : At L0 w0 L w)
 (hK : ∀ b w', At L0 w0 (Part.cells b vs E :: L) w' → K (a.put d (.pointer (some ⟨b, 0, none⟩))) w') : wpOp P ops Q i K a w := by
 subst hd
 refine wpOp_val ho hw (v := .pointer (some ⟨w.heap.size, 0, none⟩)) (w' := w.alloc (.cells vs.toArray E)) ?_ (hK _ _ (h.alloc vs E))
 cases hq : P.info? E with
 | none => simp [hq] at hz
 | some i =>
  have hi : i.zero = some z := by simpa [hq] using hz
  simp [execOp, hop, Instr.alloc, zeroValue, typeInfo, hq, hi, newVar, newRow, hv, Result.andThen]
theorem opZero_at {i : Nat} {d : Option Tmp} {o : Oper} {a : Act} {K : Act → World → Prop} {t : TypeId} {e : TypeId} (size : Nat) (ho : ops[i]? = some o) (hd : o.dst = d) (hw : Region.wanted o (yielded ops a.tmps) = true) (hop : o.op = .buildSlice t 0 #[])
 (hrun : ∀ w, (Instr.buildSlice t 0 #[]).run P w = .ok (.slice (some ⟨w.heap.size, 0, none⟩) 0 0) (w.alloc (.cells #[] e))) (h : At L0 w0 L w)
 (hK : ∀ b w', At L0 w0 (Part.row e size (.slice (some ⟨b, 0, none⟩) 0 0) 0 [] :: L) w' → K (a.put d (.slice (some ⟨b, 0, none⟩) 0 0)) w') : wpOp P ops Q i K a w := by
 subst hd
 refine wpOp_val ho hw (v := .slice (some ⟨w.heap.size, 0, none⟩) 0 0) (w' := w.alloc (.cells #[] e)) (by simp [execOp, hop, hrun, Result.andThen]) (hK _ _ ?_)
 refine h.new ((Ext.refl w).alloc _) _ ⟨by simp, .inr ⟨w.heap.size, 0, #[], rfl, Nat.zero_le _, heap_alloc_new w _, Nat.le_refl _, Nat.zero_le _, by simp, by simp⟩⟩ (fun b hb => ?_)
 have hb2 : (Value.slice (some ⟨w.heap.size, 0, none⟩) 0 0).ownBlock = some b := hb
 cases hb2
 exact Nat.le_refl _
theorem ret_eq {e : Ending} {v : Value} {R : World → Prop} {w' : World} (h : e = .returned v ∧ R w') : ∃ u, e = .returned u ∧ (u = v ∧ R w') := ⟨v, h.1, rfl, h.2⟩
end
end Go
section
namespace Go
open _root_.Go.Proofs.YtgbpfgdjnhbcgaaGreatDoor
open Go.RowKit
end Go
end
end
section
namespace Go.Proofs.YtgbpfgdjnhbcgaaGreatDoor.Ix
open Go.RowKit
open Go.Maps (Keyed)
open Path (bl rightB overB)
open Attr (A8 rightI)
open Cmd (Cm keyC footC through0 attrR_any)
attribute [-go_sem] run_eql_struct run_neq_struct run_eqGuard_agg
structure Op12 where
 kind : Int
 c : Cm
 r : Int
 t : Int
 q : Int
 e : En
def Op12.cells (o : Op12) : List Value := [.int .i64 o.kind] ++ o.c.cells ++ [.int .i64 o.r, .int .i64 o.t, .int .i64 o.q, .string o.e.foot, .int .u64 o.e.num] ++ o.e.a.cells
structure Op12.ok (o : Op12) : Prop where
 cf : o.c.foot.size ≤ 1000
 cp : o.c.path.size ≤ 1000
 n0 : 0 ≤ o.c.num
 n1 : o.c.num < big64
 ef : o.e.foot.size ≤ 1000
 e0 : 0 ≤ o.e.num
 e1 : o.e.num < big64
def stepE (es : List En) (o : Op12) : List En := if o.kind = 1 then noteE es (keyC o.c) o.r o.t o.q else if o.kind = 2 then addE es o.e.foot o.e.num o.e.a else es
end Go.Proofs.YtgbpfgdjnhbcgaaGreatDoor.Ix
end
section
namespace Go.Proofs.YtgbpfgdjnhbcgaaGreatDoor.Ix
open Path (bl rightB overB)
open Attr (A8 rightI)
open Cmd (Cm keyC footC)
structure Fine (a : A8) : Prop where
 s0 : 0 ≤ a.s
 s1 : a.s ≤ 1073741824
 d0 : 0 ≤ a.d0 ∧ a.d0 ≤ 1024
 d1 : 0 ≤ a.d1 ∧ a.d1 ≤ 1024
 d2 : 0 ≤ a.d2 ∧ a.d2 ≤ 1024
 d3 : 0 ≤ a.d3 ∧ a.d3 ≤ 1024
 d4 : 0 ≤ a.d4 ∧ a.d4 ≤ 1024
 d5 : 0 ≤ a.d5 ∧ a.d5 ≤ 1024
 d6 : 0 ≤ a.d6 ∧ a.d6 ≤ 1024
theorem fine_iff {a : A8} : a.right = true ↔ Fine a := by
 unfold A8.right Attr.badD
 simp only [Bool.and_eq_true, Bool.not_eq_true', Bool.or_eq_false_iff, decide_eq_false_iff_not, decide_eq_true_iff]
 constructor
 · rintro ⟨⟨⟨⟨⟨⟨⟨h0, h1⟩, h2⟩, h3⟩, h4⟩, h5⟩, h6⟩, h7⟩
   constructor <;> omega
 · rintro ⟨s0, s1, h0, h1, h2, h3, h4, h5, h6⟩
   omega
theorem fine_zero : Fine A8.zero := by constructor <;> (simp only [A8.zero]; omega)
theorem fine_merge {a b : A8} (h : Fine a) (k : Fine b) : Fine (a.merge b) := by
 obtain ⟨h0, h1, h2, h3, h4, h5, h6, h7, h8⟩ := h
 obtain ⟨k0, k1, k2, k3, k4, k5, k6, k7, k8⟩ := k
 constructor <;> (simp only [A8.merge]; omega)
theorem fine_set {a : A8} (h : Fine a) (q : Nat) {v : Int} (h0 : 0 ≤ v) (h1 : v ≤ 1024) : Fine (a.set q v) := by
 obtain ⟨k0, k1, k2, k3, k4, k5, k6, k7, k8⟩ := h
 unfold A8.set
 split <;> constructor <;> (try simp only) <;> omega
theorem fine_note {r t q : Int} (h : rightI r t = true) : Fine (noteA r t q) := by
 have h := Attr.rightI_iff.1 h
 unfold noteA
 refine fine_set ?_ _ (by omega) (by omega)
 constructor <;> (simp only [A8.zero]; omega)
def FineL (es : List En) : Prop := ∀ e ∈ es, Fine e.a ∧ e.foot.size ≤ 1000
end Go.Proofs.YtgbpfgdjnhbcgaaGreatDoor.Ix
end
section
namespace Go.Proofs.YtgbpfgdjnhbcgaaGreatDoor.Ix
open Path (bl rightB)
open Attr (A8 rightI)
open Cmd (Cm keyC footC)
open Wire (Byt shortN short_lo short_hi fixL byteN textB textL)
end Go.Proofs.YtgbpfgdjnhbcgaaGreatDoor.Ix
end
