/- RefD, joined. -/
import Derived.Test.YtgbpfgdjnhbcgaaGreatDoorR15
import Derived.Test.YtgbpfgdjnhbcgaaGreatDoorR8
set_option linter.unusedSimpArgs false
set_option linter.unusedVariables false
set_option maxRecDepth 100000
set_option maxHeartbeats 16000000
section
namespace Go.Proofs.YtgbpfgdjnhbcgaaGreatDoor.Cmd
open Go.RowKit
open Path (bl rightB overB)
open Attr (A8 rightI)
attribute [-go_sem] run_eql_struct run_neq_struct run_eqGuard_agg
theorem idR_any (r t : Int) (w : World) : Calls Tryz.prog 39 #[.agg #[.int .i64 r, .int .i64 t]] w fun e w' => e = .returned (.bool (rightI r t)) ∧ Ext w w' := by
 have hA : At [] w [] w := At.start (L0 := []) trivial
 have hF := hA.facts
 obtain ⟨x0, h0⟩ : ∃ x, decide (0 ≤ r) = x := ⟨_, rfl⟩
 obtain ⟨x1, h1⟩ : ∃ x, decide (r < 7) = x := ⟨_, rfl⟩
 obtain ⟨x2, h2⟩ : ∃ x, decide (0 ≤ t) = x := ⟨_, rfl⟩
 obtain ⟨x3, h3⟩ : ∃ x, decide (t < 1024) = x := ⟨_, rfl⟩
 have e : rightI r t = (x0 && x1 && x2 && x3) := by
  have h6 : decide (r ≤ 6) = x1 := by rw [← h1, decide_eq_decide]; omega
  unfold rightI; rw [h0, h6, h2, h3]
 rw [e]
 clear e
 have hF := hA.facts; (try simp only [uY] at hA hF)
 go_enter Tryz.func39, Tryz.ntmps39
 cases x0
 · go_wp2_with (first | ((with_reducible refine gbx ?_); refine wH 59 [.int .i64 r, .int .i64 t] hA ?_; clear hF hA; intro bX w1 hA hbX hF; (try simp only [uY] at hA hF)) | ((with_reducible refine gst ?_); refine wT hA ?_; clear hF hA; intro w1 hA hF; (try simp only [uY] at hA hF)) | ((with_reducible refine gbx ?_); refine wC hA ?_; clear hF hA; intro b1 w1 hA hb1 hF; (try simp only [uY] at hA hF)))
   go_ret
   exact ⟨rfl, hA.toExt⟩
 · cases x1
   · go_wp2_with (first | ((with_reducible refine gbx ?_); refine wH 59 [.int .i64 r, .int .i64 t] hA ?_; clear hF hA; intro bX w1 hA hbX hF; (try simp only [uY] at hA hF)) | ((with_reducible refine gst ?_); refine wT hA ?_; clear hF hA; intro w1 hA hF; (try simp only [uY] at hA hF)) | ((with_reducible refine gbx ?_); refine wC hA ?_; clear hF hA; intro b1 w1 hA hb1 hF; (try simp only [uY] at hA hF)))
     go_ret
     exact ⟨rfl, hA.toExt⟩
   · cases x2
     · go_wp2_with (first | ((with_reducible refine gbx ?_); refine wH 59 [.int .i64 r, .int .i64 t] hA ?_; clear hF hA; intro bX w1 hA hbX hF; (try simp only [uY] at hA hF)) | ((with_reducible refine gst ?_); refine wT hA ?_; clear hF hA; intro w1 hA hF; (try simp only [uY] at hA hF)) | ((with_reducible refine gbx ?_); refine wC hA ?_; clear hF hA; intro b1 w1 hA hb1 hF; (try simp only [uY] at hA hF)))
       go_ret
       exact ⟨rfl, hA.toExt⟩
     · cases x3
       · go_wp2_with (first | ((with_reducible refine gbx ?_); refine wH 59 [.int .i64 r, .int .i64 t] hA ?_; clear hF hA; intro bX w1 hA hbX hF; (try simp only [uY] at hA hF)) | ((with_reducible refine gst ?_); refine wT hA ?_; clear hF hA; intro w1 hA hF; (try simp only [uY] at hA hF)) | ((with_reducible refine gbx ?_); refine wC hA ?_; clear hF hA; intro b1 w1 hA hb1 hF; (try simp only [uY] at hA hF)))
         go_ret
         exact ⟨rfl, hA.toExt⟩
       · go_wp2_with (first | ((with_reducible refine gbx ?_); refine wH 59 [.int .i64 r, .int .i64 t] hA ?_; clear hF hA; intro bX w1 hA hbX hF; (try simp only [uY] at hA hF)) | ((with_reducible refine gst ?_); refine wT hA ?_; clear hF hA; intro w1 hA hF; (try simp only [uY] at hA hF)) | ((with_reducible refine gbx ?_); refine wC hA ?_; clear hF hA; intro b1 w1 hA hb1 hF; (try simp only [uY] at hA hF)))
         go_ret
         exact ⟨rfl, hA.toExt⟩
theorem attrR_any (a : A8) (w : World) : Calls Tryz.prog 25 #[a.val] w fun e w' => e = .returned (.bool a.right) ∧ Ext w w' := by
 have hA : At [] w [] w := At.start (L0 := []) trivial
 have hF := hA.facts
 obtain ⟨s, d0, d1, d2, d3, d4, d5, d6⟩ := a
 obtain ⟨x0, hx0⟩ : ∃ x, decide (d0 < 0) = x := ⟨_, rfl⟩
 obtain ⟨y0, hy0⟩ : ∃ y, decide (1024 < d0) = y := ⟨_, rfl⟩
 obtain ⟨x1, hx1⟩ : ∃ x, decide (d1 < 0) = x := ⟨_, rfl⟩
 obtain ⟨y1, hy1⟩ : ∃ y, decide (1024 < d1) = y := ⟨_, rfl⟩
 obtain ⟨x2, hx2⟩ : ∃ x, decide (d2 < 0) = x := ⟨_, rfl⟩
 obtain ⟨y2, hy2⟩ : ∃ y, decide (1024 < d2) = y := ⟨_, rfl⟩
 obtain ⟨x3, hx3⟩ : ∃ x, decide (d3 < 0) = x := ⟨_, rfl⟩
 obtain ⟨y3, hy3⟩ : ∃ y, decide (1024 < d3) = y := ⟨_, rfl⟩
 obtain ⟨x4, hx4⟩ : ∃ x, decide (d4 < 0) = x := ⟨_, rfl⟩
 obtain ⟨y4, hy4⟩ : ∃ y, decide (1024 < d4) = y := ⟨_, rfl⟩
 obtain ⟨x5, hx5⟩ : ∃ x, decide (d5 < 0) = x := ⟨_, rfl⟩
 obtain ⟨y5, hy5⟩ : ∃ y, decide (1024 < d5) = y := ⟨_, rfl⟩
 obtain ⟨x6, hx6⟩ : ∃ x, decide (d6 < 0) = x := ⟨_, rfl⟩
 obtain ⟨y6, hy6⟩ : ∃ y, decide (1024 < d6) = y := ⟨_, rfl⟩
 obtain ⟨s0, hs0⟩ : ∃ x, decide (0 ≤ s) = x := ⟨_, rfl⟩
 obtain ⟨s1, hs1⟩ : ∃ x, decide (s ≤ 1073741824) = x := ⟨_, rfl⟩
 have e : A8.right ⟨s, d0, d1, d2, d3, d4, d5, d6⟩ = (!(x0 || y0) && !(x1 || y1) && !(x2 || y2) && !(x3 || y3) && !(x4 || y4) && !(x5 || y5) && !(x6 || y6) && (s0 && s1)) := by unfold A8.right Attr.badD; rw [hx0, hy0, hx1, hy1, hx2, hy2, hx3, hy3, hx4, hy4, hx5, hy5, hx6, hy6, hs0, hs1]
 rw [e]
 clear e
 simp only [A8.val]
 have hF := hA.facts; (try simp only [uY] at hA hF)
 go_enter Tryz.func25, Tryz.ntmps25
 go_wp2_with (first | ((with_reducible refine gbx ?_); refine wH 51 [.int .i64 s, .int .i64 d0, .int .i64 d1, .int .i64 d2, .int .i64 d3, .int .i64 d4, .int .i64 d5, .int .i64 d6] hA ?_; clear hF hA; intro bA w1 hA hbA hF; (try simp only [uY] at hA hF)) | ((with_reducible refine gst ?_); refine wT hA ?_; clear hF hA; intro w1 hA hF; (try simp only [uY] at hA hF)) | ((with_reducible refine gbx ?_); refine wC hA ?_; clear hF hA; intro b1 w1 hA hb1 hF; (try simp only [uY] at hA hF)))
 refine wp_loop_rounds 8 ?_
 rw [rounds_succ]
 cases x0
 · cases y0
   · go_wp2_with (first | ((with_reducible refine gst ?_); refine wT hA ?_; clear hF hA; intro w1 hA hF; (try simp only [uY] at hA hF)) | ((with_reducible refine gbx ?_); refine wC hA ?_; clear hF hA; intro b1 w1 hA hb1 hF; (try simp only [uY] at hA hF)))
     rw [rounds_succ]
     cases x1
     · cases y1
       · go_wp2_with (first | ((with_reducible refine gst ?_); refine wT hA ?_; clear hF hA; intro w1 hA hF; (try simp only [uY] at hA hF)) | ((with_reducible refine gbx ?_); refine wC hA ?_; clear hF hA; intro b1 w1 hA hb1 hF; (try simp only [uY] at hA hF)))
         rw [rounds_succ]
         cases x2
         · cases y2
           · go_wp2_with (first | ((with_reducible refine gst ?_); refine wT hA ?_; clear hF hA; intro w1 hA hF; (try simp only [uY] at hA hF)) | ((with_reducible refine gbx ?_); refine wC hA ?_; clear hF hA; intro b1 w1 hA hb1 hF; (try simp only [uY] at hA hF)))
             rw [rounds_succ]
             cases x3
             · cases y3
               · go_wp2_with (first | ((with_reducible refine gst ?_); refine wT hA ?_; clear hF hA; intro w1 hA hF; (try simp only [uY] at hA hF)) | ((with_reducible refine gbx ?_); refine wC hA ?_; clear hF hA; intro b1 w1 hA hb1 hF; (try simp only [uY] at hA hF)))
                 rw [rounds_succ]
                 cases x4
                 · cases y4
                   · go_wp2_with (first | ((with_reducible refine gst ?_); refine wT hA ?_; clear hF hA; intro w1 hA hF; (try simp only [uY] at hA hF)) | ((with_reducible refine gbx ?_); refine wC hA ?_; clear hF hA; intro b1 w1 hA hb1 hF; (try simp only [uY] at hA hF)))
                     rw [rounds_succ]
                     cases x5
                     · cases y5
                       · go_wp2_with (first | ((with_reducible refine gst ?_); refine wT hA ?_; clear hF hA; intro w1 hA hF; (try simp only [uY] at hA hF)) | ((with_reducible refine gbx ?_); refine wC hA ?_; clear hF hA; intro b1 w1 hA hb1 hF; (try simp only [uY] at hA hF)))
                         rw [rounds_succ]
                         cases x6
                         · cases y6
                           · go_wp2_with (first | ((with_reducible refine gst ?_); refine wT hA ?_; clear hF hA; intro w1 hA hF; (try simp only [uY] at hA hF)) | ((with_reducible refine gbx ?_); refine wC hA ?_; clear hF hA; intro b1 w1 hA hb1 hF; (try simp only [uY] at hA hF)))
                             rw [rounds_succ]
                             cases s0
                             · go_wp2_with (first | ((with_reducible refine gst ?_); refine wT hA ?_; clear hF hA; intro w1 hA hF; (try simp only [uY] at hA hF)) | ((with_reducible refine gbx ?_); refine wC hA ?_; clear hF hA; intro b1 w1 hA hb1 hF; (try simp only [uY] at hA hF)))
                               go_ret
                               exact ⟨rfl, hA.toExt⟩
                             · go_wp2_with (first | ((with_reducible refine gst ?_); refine wT hA ?_; clear hF hA; intro w1 hA hF; (try simp only [uY] at hA hF)) | ((with_reducible refine gbx ?_); refine wC hA ?_; clear hF hA; intro b1 w1 hA hb1 hF; (try simp only [uY] at hA hF)))
                               go_ret
                               exact ⟨rfl, hA.toExt⟩
                           · go_wp2_with (first | ((with_reducible refine gst ?_); refine wT hA ?_; clear hF hA; intro w1 hA hF; (try simp only [uY] at hA hF)) | ((with_reducible refine gbx ?_); refine wC hA ?_; clear hF hA; intro b1 w1 hA hb1 hF; (try simp only [uY] at hA hF)))
                             go_ret
                             exact ⟨rfl, hA.toExt⟩
                         · go_wp2_with (first | ((with_reducible refine gst ?_); refine wT hA ?_; clear hF hA; intro w1 hA hF; (try simp only [uY] at hA hF)) | ((with_reducible refine gbx ?_); refine wC hA ?_; clear hF hA; intro b1 w1 hA hb1 hF; (try simp only [uY] at hA hF)))
                           go_ret
                           exact ⟨rfl, hA.toExt⟩
                       · go_wp2_with (first | ((with_reducible refine gst ?_); refine wT hA ?_; clear hF hA; intro w1 hA hF; (try simp only [uY] at hA hF)) | ((with_reducible refine gbx ?_); refine wC hA ?_; clear hF hA; intro b1 w1 hA hb1 hF; (try simp only [uY] at hA hF)))
                         go_ret
                         exact ⟨rfl, hA.toExt⟩
                     · go_wp2_with (first | ((with_reducible refine gst ?_); refine wT hA ?_; clear hF hA; intro w1 hA hF; (try simp only [uY] at hA hF)) | ((with_reducible refine gbx ?_); refine wC hA ?_; clear hF hA; intro b1 w1 hA hb1 hF; (try simp only [uY] at hA hF)))
                       go_ret
                       exact ⟨rfl, hA.toExt⟩
                   · go_wp2_with (first | ((with_reducible refine gst ?_); refine wT hA ?_; clear hF hA; intro w1 hA hF; (try simp only [uY] at hA hF)) | ((with_reducible refine gbx ?_); refine wC hA ?_; clear hF hA; intro b1 w1 hA hb1 hF; (try simp only [uY] at hA hF)))
                     go_ret
                     exact ⟨rfl, hA.toExt⟩
                 · go_wp2_with (first | ((with_reducible refine gst ?_); refine wT hA ?_; clear hF hA; intro w1 hA hF; (try simp only [uY] at hA hF)) | ((with_reducible refine gbx ?_); refine wC hA ?_; clear hF hA; intro b1 w1 hA hb1 hF; (try simp only [uY] at hA hF)))
                   go_ret
                   exact ⟨rfl, hA.toExt⟩
               · go_wp2_with (first | ((with_reducible refine gst ?_); refine wT hA ?_; clear hF hA; intro w1 hA hF; (try simp only [uY] at hA hF)) | ((with_reducible refine gbx ?_); refine wC hA ?_; clear hF hA; intro b1 w1 hA hb1 hF; (try simp only [uY] at hA hF)))
                 go_ret
                 exact ⟨rfl, hA.toExt⟩
             · go_wp2_with (first | ((with_reducible refine gst ?_); refine wT hA ?_; clear hF hA; intro w1 hA hF; (try simp only [uY] at hA hF)) | ((with_reducible refine gbx ?_); refine wC hA ?_; clear hF hA; intro b1 w1 hA hb1 hF; (try simp only [uY] at hA hF)))
               go_ret
               exact ⟨rfl, hA.toExt⟩
           · go_wp2_with (first | ((with_reducible refine gst ?_); refine wT hA ?_; clear hF hA; intro w1 hA hF; (try simp only [uY] at hA hF)) | ((with_reducible refine gbx ?_); refine wC hA ?_; clear hF hA; intro b1 w1 hA hb1 hF; (try simp only [uY] at hA hF)))
             go_ret
             exact ⟨rfl, hA.toExt⟩
         · go_wp2_with (first | ((with_reducible refine gst ?_); refine wT hA ?_; clear hF hA; intro w1 hA hF; (try simp only [uY] at hA hF)) | ((with_reducible refine gbx ?_); refine wC hA ?_; clear hF hA; intro b1 w1 hA hb1 hF; (try simp only [uY] at hA hF)))
           go_ret
           exact ⟨rfl, hA.toExt⟩
       · go_wp2_with (first | ((with_reducible refine gst ?_); refine wT hA ?_; clear hF hA; intro w1 hA hF; (try simp only [uY] at hA hF)) | ((with_reducible refine gbx ?_); refine wC hA ?_; clear hF hA; intro b1 w1 hA hb1 hF; (try simp only [uY] at hA hF)))
         go_ret
         exact ⟨rfl, hA.toExt⟩
     · go_wp2_with (first | ((with_reducible refine gst ?_); refine wT hA ?_; clear hF hA; intro w1 hA hF; (try simp only [uY] at hA hF)) | ((with_reducible refine gbx ?_); refine wC hA ?_; clear hF hA; intro b1 w1 hA hb1 hF; (try simp only [uY] at hA hF)))
       go_ret
       exact ⟨rfl, hA.toExt⟩
   · go_wp2_with (first | ((with_reducible refine gst ?_); refine wT hA ?_; clear hF hA; intro w1 hA hF; (try simp only [uY] at hA hF)) | ((with_reducible refine gbx ?_); refine wC hA ?_; clear hF hA; intro b1 w1 hA hb1 hF; (try simp only [uY] at hA hF)))
     go_ret
     exact ⟨rfl, hA.toExt⟩
 · go_wp2_with (first | ((with_reducible refine gst ?_); refine wT hA ?_; clear hF hA; intro w1 hA hF; (try simp only [uY] at hA hF)) | ((with_reducible refine gbx ?_); refine wC hA ?_; clear hF hA; intro b1 w1 hA hb1 hF; (try simp only [uY] at hA hF)))
   go_ret
   exact ⟨rfl, hA.toExt⟩
theorem rightR_no (c : Cm) (hk : c.kind < 0 ∨ 8 < c.kind) (w : World) : Calls Tryz.prog 61 #[c.val] w fun e w' => e = .returned (.bool false) ∧ Ext w w' := by
 have hA : At [] w [] w := At.start (L0 := []) trivial
 have hF := hA.facts
 obtain ⟨kind, num, foot, req, path, mode, n, time⟩ := c
 simp only [Cm.val] at *
 have hF := hA.facts; (try simp only [uY] at hA hF)
 rcases Int.lt_or_le kind 0 with h | h
 · clear hk
   go_enter Tryz.func61, Tryz.ntmps61
   go_wp2_with (first | ((with_reducible refine gbx ?_); refine wH 57 [.int .i64 kind, .int .u64 num, .string foot, .int .u64 req, .string path, .int .i64 mode, .int .u64 n, .int .i64 time] hA ?_; clear hF hA; intro bX w1 hA hbX hF; (try simp only [uY] at hA hF)) | ((with_reducible refine gst ?_); refine wT hA ?_; clear hF hA; intro w1 hA hF; (try simp only [uY] at hA hF)) | ((with_reducible refine gbx ?_); refine wC hA ?_; clear hF hA; intro b1 w1 hA hb1 hF; (try simp only [uY] at hA hF)))
   go_ret
   exact ⟨rfl, hA.toExt⟩
 · have h8 : 8 < kind := by omega
   have e0 : decide (kind < 0) = false := decide_eq_false (by omega)
   clear hk h
   go_enter Tryz.func61, Tryz.ntmps61
   go_wp2_with (first | ((with_reducible refine gbx ?_); refine wH 57 [.int .i64 kind, .int .u64 num, .string foot, .int .u64 req, .string path, .int .i64 mode, .int .u64 n, .int .i64 time] hA ?_; clear hF hA; intro bX w1 hA hbX hF; (try simp only [uY] at hA hF)) | ((with_reducible refine gst ?_); refine wT hA ?_; clear hF hA; intro w1 hA hF; (try simp only [uY] at hA hF)) | ((with_reducible refine gbx ?_); refine wC hA ?_; clear hF hA; intro b1 w1 hA hb1 hF; (try simp only [uY] at hA hF)))
   go_ret
   exact ⟨rfl, hA.toExt⟩
theorem empty_if (f : ByteArray) : if decide (¬ f.toList = []) then ¬ f.toList = [] else f.toList = [] := by
 by_cases h : f.toList = [] <;> simp [h]
theorem refRight_ok (c : Cm) (hf : c.foot.size ≤ 1000) (hp : c.path.size ≤ 1000) : ∃ b, ∀ w, Calls Tryz.prog 61 #[c.val] w fun e w' => e = .returned (.bool b) ∧ Ext w w' := by
 obtain ⟨kind, num, foot, req, path, mode, n, time⟩ := c
 simp only at hf hp
 by_cases h0 : kind = 0
 · subst h0
   exact ⟨_, fun w => rightR_0 num foot req path mode n time w rfl (empty_if foot) rfl (empty_if path) rfl rfl rfl rfl rfl⟩
 by_cases h1 : kind = 1
 · subst h1
   exact ⟨_, fun w => rightR_1 num foot req path mode n time w (empty_if path) rfl hf rfl rfl rfl rfl rfl (fun h => decide_eq_true (by have := of_decide_eq_true h; omega)) rfl rfl⟩
 by_cases h2 : kind = 2
 · subst h2
   exact ⟨_, fun w => rightR_2 num foot req path mode n time w (empty_if path) rfl rfl rfl hf rfl rfl rfl rfl⟩
 by_cases h3 : kind = 3
 · subst h3
   exact ⟨_, fun w => rightR_3 num foot req path mode n time w (empty_if path) rfl rfl hf rfl rfl rfl rfl⟩
 by_cases h4 : kind = 4
 · subst h4
   exact ⟨_, fun w => rightR_4 num foot req path mode n time w rfl rfl hf rfl rfl hp rfl rfl rfl rfl rfl⟩
 by_cases h5 : kind = 5
 · subst h5
   exact ⟨_, fun w => rightR_5 num foot req path mode n time w rfl rfl hf rfl rfl hp rfl rfl rfl rfl rfl⟩
 by_cases h6 : kind = 6
 · subst h6
   exact ⟨_, fun w => rightR_6 num foot req path mode n time w rfl rfl rfl hf rfl rfl hp rfl rfl rfl⟩
 by_cases h7 : kind = 7
 · subst h7
   exact ⟨_, fun w => rightR_7 num foot req path mode n time w rfl rfl hf rfl rfl hp rfl rfl rfl rfl rfl⟩
 by_cases h8 : kind = 8
 · subst h8
   exact ⟨_, fun w => rightR_8 num foot req path mode n time w rfl (empty_if path) rfl rfl hf rfl rfl rfl⟩
 exact ⟨false, fun w => rightR_no ⟨kind, num, foot, req, path, mode, n, time⟩ (by show kind < 0 ∨ 8 < kind; omega) w⟩
theorem footR_1 (num : Int) (foot : ByteArray) (req : Int) (path : ByteArray) (mode n time : Int) (w : World) (hrc : ∀ w, Calls Tryz.prog 61 #[.agg #[.int .i64 1, .int .u64 num, .string foot, .int .u64 req, .string path, .int .i64 mode, .int .u64 n, .int .i64 time]] w fun e w' => e = .returned (.bool true) ∧ Ext w w') :
 Calls Tryz.prog 38 #[.agg #[.int .i64 1, .int .u64 num, .string foot, .int .u64 req, .string path, .int .i64 mode, .int .u64 n, .int .i64 time]] w fun e w' => e = .returned (.tuple #[.string foot, .bool true]) ∧ Ext w w' := by
 have hA : At [] w [] w := At.start (L0 := []) trivial
 have hF := hA.facts
 have hh := fun w => hasR_any w
 have hix : ∀ w, (Instr.index 112 (.agg #[.bool false, .bool false, .bool false, .bool false, .bool false, .bool false, .bool true, .bool true, .bool false, .bool false, .bool true, .bool true, .bool true, .bool true, .bool false, .bool false, .bool false, .bool false, .bool true, .bool true, .bool false, .bool false, .bool false, .bool true, .bool true, .bool true, .bool true, .bool true, .bool false, .bool false, .bool true, .bool true, .bool true, .bool true, .bool false, .bool false, .bool true, .bool true, .bool true, .bool false, .bool false, .bool false, .bool true, .bool true, .bool true, .bool false, .bool true, .bool false, .bool true, .bool false, .bool false, .bool false, .bool false, .bool true]) (.int .i64 1)).run Tryz.prog w = .ok (.agg #[.bool true, .bool true, .bool false, .bool false, .bool true, .bool true]) w := fun w => by kernel_rfl
 have hiy : ∀ w, (Instr.index 111 (.agg #[.bool true, .bool true, .bool false, .bool false, .bool true, .bool true]) (.int .i64 2)).run Tryz.prog w = .ok (.bool false) w := fun w => by kernel_rfl
 have hF := hA.facts; (try simp only [uY] at hA hF)
 go_enter Tryz.func38, Tryz.ntmps38
 go_wp2_with (first | ((with_reducible refine gbx ?_); refine wH 57 [.int .i64 1, .int .u64 num, .string foot, .int .u64 req, .string path, .int .i64 mode, .int .u64 n, .int .i64 time] hA ?_; clear hF hA; intro bX w1 hA hbX hF; (try simp only [uY] at hA hF)) | ((with_reducible refine gst ?_); refine wT hA ?_; clear hF hA; intro w1 hA hF; (try simp only [uY] at hA hF)) | ((with_reducible refine gbx ?_); refine wC hA ?_; clear hF hA; intro b1 w1 hA hb1 hF; (try simp only [uY] at hA hF)))
 refine (hrc _).mono ?_
 clear hrc
 rintro e w1 ⟨rfl, hx⟩
 have hB := hA.ext hx
 clear hF hA hx; have hA := hB; clear hB
 have hF := hA.facts; (try simp only [uY] at hA hF)
 go_wp2_with (first | ((with_reducible refine gst ?_); refine wT hA ?_; clear hF hA; intro w1 hA hF; (try simp only [uY] at hA hF)) | ((with_reducible refine gbx ?_); refine wC hA ?_; clear hF hA; intro b1 w1 hA hb1 hF; (try simp only [uY] at hA hF)))
 try go_frame
 refine cl2 hA ?_; clear hF hA; intro w1 hA hF; (try simp only [uY] at hA hF)
 clear hh hix hiy
 go_wp2_with (first | ((with_reducible refine gst ?_); refine wT hA ?_; clear hF hA; intro w1 hA hF; (try simp only [uY] at hA hF)) | ((with_reducible refine gbx ?_); refine wC hA ?_; clear hF hA; intro b1 w1 hA hb1 hF; (try simp only [uY] at hA hF)))
 refine bodyPost_ret (v := .tuple #[.string foot, .bool true]) (by simp [results, Tryz.results38, go_sem, hF]) rfl ⟨rfl, hA.toExt⟩
theorem footR_2 (num : Int) (foot : ByteArray) (req : Int) (path : ByteArray) (mode n time : Int) (w : World) (hrc : ∀ w, Calls Tryz.prog 61 #[.agg #[.int .i64 2, .int .u64 num, .string foot, .int .u64 req, .string path, .int .i64 mode, .int .u64 n, .int .i64 time]] w fun e w' => e = .returned (.bool true) ∧ Ext w w') :
 Calls Tryz.prog 38 #[.agg #[.int .i64 2, .int .u64 num, .string foot, .int .u64 req, .string path, .int .i64 mode, .int .u64 n, .int .i64 time]] w fun e w' => e = .returned (.tuple #[.string foot, .bool true]) ∧ Ext w w' := by
 have hA : At [] w [] w := At.start (L0 := []) trivial
 have hF := hA.facts
 have hh := fun w => hasR_any w
 have hix : ∀ w, (Instr.index 112 (.agg #[.bool false, .bool false, .bool false, .bool false, .bool false, .bool false, .bool true, .bool true, .bool false, .bool false, .bool true, .bool true, .bool true, .bool true, .bool false, .bool false, .bool false, .bool false, .bool true, .bool true, .bool false, .bool false, .bool false, .bool true, .bool true, .bool true, .bool true, .bool true, .bool false, .bool false, .bool true, .bool true, .bool true, .bool true, .bool false, .bool false, .bool true, .bool true, .bool true, .bool false, .bool false, .bool false, .bool true, .bool true, .bool true, .bool false, .bool true, .bool false, .bool true, .bool false, .bool false, .bool false, .bool false, .bool true]) (.int .i64 2)).run Tryz.prog w = .ok (.agg #[.bool true, .bool true, .bool false, .bool false, .bool false, .bool false]) w := fun w => by kernel_rfl
 have hiy : ∀ w, (Instr.index 111 (.agg #[.bool true, .bool true, .bool false, .bool false, .bool false, .bool false]) (.int .i64 2)).run Tryz.prog w = .ok (.bool false) w := fun w => by kernel_rfl
 have hF := hA.facts; (try simp only [uY] at hA hF)
 go_enter Tryz.func38, Tryz.ntmps38
 go_wp2_with (first | ((with_reducible refine gbx ?_); refine wH 57 [.int .i64 2, .int .u64 num, .string foot, .int .u64 req, .string path, .int .i64 mode, .int .u64 n, .int .i64 time] hA ?_; clear hF hA; intro bX w1 hA hbX hF; (try simp only [uY] at hA hF)) | ((with_reducible refine gst ?_); refine wT hA ?_; clear hF hA; intro w1 hA hF; (try simp only [uY] at hA hF)) | ((with_reducible refine gbx ?_); refine wC hA ?_; clear hF hA; intro b1 w1 hA hb1 hF; (try simp only [uY] at hA hF)))
 refine (hrc _).mono ?_
 clear hrc
 rintro e w1 ⟨rfl, hx⟩
 have hB := hA.ext hx
 clear hF hA hx; have hA := hB; clear hB
 have hF := hA.facts; (try simp only [uY] at hA hF)
 go_wp2_with (first | ((with_reducible refine gst ?_); refine wT hA ?_; clear hF hA; intro w1 hA hF; (try simp only [uY] at hA hF)) | ((with_reducible refine gbx ?_); refine wC hA ?_; clear hF hA; intro b1 w1 hA hb1 hF; (try simp only [uY] at hA hF)))
 try go_frame
 refine cl2 hA ?_; clear hF hA; intro w1 hA hF; (try simp only [uY] at hA hF)
 clear hh hix hiy
 go_wp2_with (first | ((with_reducible refine gst ?_); refine wT hA ?_; clear hF hA; intro w1 hA hF; (try simp only [uY] at hA hF)) | ((with_reducible refine gbx ?_); refine wC hA ?_; clear hF hA; intro b1 w1 hA hb1 hF; (try simp only [uY] at hA hF)))
 refine bodyPost_ret (v := .tuple #[.string foot, .bool true]) (by simp [results, Tryz.results38, go_sem, hF]) rfl ⟨rfl, hA.toExt⟩
theorem footR_3 (num : Int) (foot : ByteArray) (req : Int) (path : ByteArray) (mode n time : Int) (w : World) (hrc : ∀ w, Calls Tryz.prog 61 #[.agg #[.int .i64 3, .int .u64 num, .string foot, .int .u64 req, .string path, .int .i64 mode, .int .u64 n, .int .i64 time]] w fun e w' => e = .returned (.bool true) ∧ Ext w w') :
 Calls Tryz.prog 38 #[.agg #[.int .i64 3, .int .u64 num, .string foot, .int .u64 req, .string path, .int .i64 mode, .int .u64 n, .int .i64 time]] w fun e w' => e = .returned (.tuple #[.string foot, .bool true]) ∧ Ext w w' := by
 have hA : At [] w [] w := At.start (L0 := []) trivial
 have hF := hA.facts
 have hh := fun w => hasR_any w
 have hix : ∀ w, (Instr.index 112 (.agg #[.bool false, .bool false, .bool false, .bool false, .bool false, .bool false, .bool true, .bool true, .bool false, .bool false, .bool true, .bool true, .bool true, .bool true, .bool false, .bool false, .bool false, .bool false, .bool true, .bool true, .bool false, .bool false, .bool false, .bool true, .bool true, .bool true, .bool true, .bool true, .bool false, .bool false, .bool true, .bool true, .bool true, .bool true, .bool false, .bool false, .bool true, .bool true, .bool true, .bool false, .bool false, .bool false, .bool true, .bool true, .bool true, .bool false, .bool true, .bool false, .bool true, .bool false, .bool false, .bool false, .bool false, .bool true]) (.int .i64 3)).run Tryz.prog w = .ok (.agg #[.bool true, .bool true, .bool false, .bool false, .bool false, .bool true]) w := fun w => by kernel_rfl
 have hiy : ∀ w, (Instr.index 111 (.agg #[.bool true, .bool true, .bool false, .bool false, .bool false, .bool true]) (.int .i64 2)).run Tryz.prog w = .ok (.bool false) w := fun w => by kernel_rfl
 have hF := hA.facts; (try simp only [uY] at hA hF)
 go_enter Tryz.func38, Tryz.ntmps38
 go_wp2_with (first | ((with_reducible refine gbx ?_); refine wH 57 [.int .i64 3, .int .u64 num, .string foot, .int .u64 req, .string path, .int .i64 mode, .int .u64 n, .int .i64 time] hA ?_; clear hF hA; intro bX w1 hA hbX hF; (try simp only [uY] at hA hF)) | ((with_reducible refine gst ?_); refine wT hA ?_; clear hF hA; intro w1 hA hF; (try simp only [uY] at hA hF)) | ((with_reducible refine gbx ?_); refine wC hA ?_; clear hF hA; intro b1 w1 hA hb1 hF; (try simp only [uY] at hA hF)))
 refine (hrc _).mono ?_
 clear hrc
 rintro e w1 ⟨rfl, hx⟩
 have hB := hA.ext hx
 clear hF hA hx; have hA := hB; clear hB
 have hF := hA.facts; (try simp only [uY] at hA hF)
 go_wp2_with (first | ((with_reducible refine gst ?_); refine wT hA ?_; clear hF hA; intro w1 hA hF; (try simp only [uY] at hA hF)) | ((with_reducible refine gbx ?_); refine wC hA ?_; clear hF hA; intro b1 w1 hA hb1 hF; (try simp only [uY] at hA hF)))
 try go_frame
 refine cl2 hA ?_; clear hF hA; intro w1 hA hF; (try simp only [uY] at hA hF)
 clear hh hix hiy
 go_wp2_with (first | ((with_reducible refine gst ?_); refine wT hA ?_; clear hF hA; intro w1 hA hF; (try simp only [uY] at hA hF)) | ((with_reducible refine gbx ?_); refine wC hA ?_; clear hF hA; intro b1 w1 hA hb1 hF; (try simp only [uY] at hA hF)))
 refine bodyPost_ret (v := .tuple #[.string foot, .bool true]) (by simp [results, Tryz.results38, go_sem, hF]) rfl ⟨rfl, hA.toExt⟩
theorem footR_4 (num : Int) (foot : ByteArray) (req : Int) (path : ByteArray) (mode n time : Int) (w : World) (hrc : ∀ w, Calls Tryz.prog 61 #[.agg #[.int .i64 4, .int .u64 num, .string foot, .int .u64 req, .string path, .int .i64 mode, .int .u64 n, .int .i64 time]] w fun e w' => e = .returned (.bool true) ∧ Ext w w') :
 Calls Tryz.prog 38 #[.agg #[.int .i64 4, .int .u64 num, .string foot, .int .u64 req, .string path, .int .i64 mode, .int .u64 n, .int .i64 time]] w fun e w' => e = .returned (.tuple #[.string path, .bool true]) ∧ Ext w w' := by
 have hA : At [] w [] w := At.start (L0 := []) trivial
 have hF := hA.facts
 have hh := fun w => hasR_any w
 have hix : ∀ w, (Instr.index 112 (.agg #[.bool false, .bool false, .bool false, .bool false, .bool false, .bool false, .bool true, .bool true, .bool false, .bool false, .bool true, .bool true, .bool true, .bool true, .bool false, .bool false, .bool false, .bool false, .bool true, .bool true, .bool false, .bool false, .bool false, .bool true, .bool true, .bool true, .bool true, .bool true, .bool false, .bool false, .bool true, .bool true, .bool true, .bool true, .bool false, .bool false, .bool true, .bool true, .bool true, .bool false, .bool false, .bool false, .bool true, .bool true, .bool true, .bool false, .bool true, .bool false, .bool true, .bool false, .bool false, .bool false, .bool false, .bool true]) (.int .i64 4)).run Tryz.prog w = .ok (.agg #[.bool true, .bool true, .bool true, .bool true, .bool false, .bool false]) w := fun w => by kernel_rfl
 have hiy : ∀ w, (Instr.index 111 (.agg #[.bool true, .bool true, .bool true, .bool true, .bool false, .bool false]) (.int .i64 2)).run Tryz.prog w = .ok (.bool true) w := fun w => by kernel_rfl
 have hF := hA.facts; (try simp only [uY] at hA hF)
 go_enter Tryz.func38, Tryz.ntmps38
 go_wp2_with (first | ((with_reducible refine gbx ?_); refine wH 57 [.int .i64 4, .int .u64 num, .string foot, .int .u64 req, .string path, .int .i64 mode, .int .u64 n, .int .i64 time] hA ?_; clear hF hA; intro bX w1 hA hbX hF; (try simp only [uY] at hA hF)) | ((with_reducible refine gst ?_); refine wT hA ?_; clear hF hA; intro w1 hA hF; (try simp only [uY] at hA hF)) | ((with_reducible refine gbx ?_); refine wC hA ?_; clear hF hA; intro b1 w1 hA hb1 hF; (try simp only [uY] at hA hF)))
 refine (hrc _).mono ?_
 clear hrc
 rintro e w1 ⟨rfl, hx⟩
 have hB := hA.ext hx
 clear hF hA hx; have hA := hB; clear hB
 have hF := hA.facts; (try simp only [uY] at hA hF)
 go_wp2_with (first | ((with_reducible refine gst ?_); refine wT hA ?_; clear hF hA; intro w1 hA hF; (try simp only [uY] at hA hF)) | ((with_reducible refine gbx ?_); refine wC hA ?_; clear hF hA; intro b1 w1 hA hb1 hF; (try simp only [uY] at hA hF)))
 try go_frame
 refine cl2 hA ?_; clear hF hA; intro w1 hA hF; (try simp only [uY] at hA hF)
 clear hh hix hiy
 go_wp2_with (first | ((with_reducible refine gst ?_); refine wT hA ?_; clear hF hA; intro w1 hA hF; (try simp only [uY] at hA hF)) | ((with_reducible refine gbx ?_); refine wC hA ?_; clear hF hA; intro b1 w1 hA hb1 hF; (try simp only [uY] at hA hF)))
 refine bodyPost_ret (v := .tuple #[.string path, .bool true]) (by simp [results, Tryz.results38, go_sem, hF]) rfl ⟨rfl, hA.toExt⟩
theorem footR_5 (num : Int) (foot : ByteArray) (req : Int) (path : ByteArray) (mode n time : Int) (w : World) (hrc : ∀ w, Calls Tryz.prog 61 #[.agg #[.int .i64 5, .int .u64 num, .string foot, .int .u64 req, .string path, .int .i64 mode, .int .u64 n, .int .i64 time]] w fun e w' => e = .returned (.bool true) ∧ Ext w w') :
 Calls Tryz.prog 38 #[.agg #[.int .i64 5, .int .u64 num, .string foot, .int .u64 req, .string path, .int .i64 mode, .int .u64 n, .int .i64 time]] w fun e w' => e = .returned (.tuple #[.string path, .bool true]) ∧ Ext w w' := by
 have hA : At [] w [] w := At.start (L0 := []) trivial
 have hF := hA.facts
 have hh := fun w => hasR_any w
 have hix : ∀ w, (Instr.index 112 (.agg #[.bool false, .bool false, .bool false, .bool false, .bool false, .bool false, .bool true, .bool true, .bool false, .bool false, .bool true, .bool true, .bool true, .bool true, .bool false, .bool false, .bool false, .bool false, .bool true, .bool true, .bool false, .bool false, .bool false, .bool true, .bool true, .bool true, .bool true, .bool true, .bool false, .bool false, .bool true, .bool true, .bool true, .bool true, .bool false, .bool false, .bool true, .bool true, .bool true, .bool false, .bool false, .bool false, .bool true, .bool true, .bool true, .bool false, .bool true, .bool false, .bool true, .bool false, .bool false, .bool false, .bool false, .bool true]) (.int .i64 5)).run Tryz.prog w = .ok (.agg #[.bool true, .bool true, .bool true, .bool true, .bool false, .bool false]) w := fun w => by kernel_rfl
 have hiy : ∀ w, (Instr.index 111 (.agg #[.bool true, .bool true, .bool true, .bool true, .bool false, .bool false]) (.int .i64 2)).run Tryz.prog w = .ok (.bool true) w := fun w => by kernel_rfl
 have hF := hA.facts; (try simp only [uY] at hA hF)
 go_enter Tryz.func38, Tryz.ntmps38
 go_wp2_with (first | ((with_reducible refine gbx ?_); refine wH 57 [.int .i64 5, .int .u64 num, .string foot, .int .u64 req, .string path, .int .i64 mode, .int .u64 n, .int .i64 time] hA ?_; clear hF hA; intro bX w1 hA hbX hF; (try simp only [uY] at hA hF)) | ((with_reducible refine gst ?_); refine wT hA ?_; clear hF hA; intro w1 hA hF; (try simp only [uY] at hA hF)) | ((with_reducible refine gbx ?_); refine wC hA ?_; clear hF hA; intro b1 w1 hA hb1 hF; (try simp only [uY] at hA hF)))
 refine (hrc _).mono ?_
 clear hrc
 rintro e w1 ⟨rfl, hx⟩
 have hB := hA.ext hx
 clear hF hA hx; have hA := hB; clear hB
 have hF := hA.facts; (try simp only [uY] at hA hF)
 go_wp2_with (first | ((with_reducible refine gst ?_); refine wT hA ?_; clear hF hA; intro w1 hA hF; (try simp only [uY] at hA hF)) | ((with_reducible refine gbx ?_); refine wC hA ?_; clear hF hA; intro b1 w1 hA hb1 hF; (try simp only [uY] at hA hF)))
 try go_frame
 refine cl2 hA ?_; clear hF hA; intro w1 hA hF; (try simp only [uY] at hA hF)
 clear hh hix hiy
 go_wp2_with (first | ((with_reducible refine gst ?_); refine wT hA ?_; clear hF hA; intro w1 hA hF; (try simp only [uY] at hA hF)) | ((with_reducible refine gbx ?_); refine wC hA ?_; clear hF hA; intro b1 w1 hA hb1 hF; (try simp only [uY] at hA hF)))
 refine bodyPost_ret (v := .tuple #[.string path, .bool true]) (by simp [results, Tryz.results38, go_sem, hF]) rfl ⟨rfl, hA.toExt⟩
theorem footR_6 (num : Int) (foot : ByteArray) (req : Int) (path : ByteArray) (mode n time : Int) (w : World) (hrc : ∀ w, Calls Tryz.prog 61 #[.agg #[.int .i64 6, .int .u64 num, .string foot, .int .u64 req, .string path, .int .i64 mode, .int .u64 n, .int .i64 time]] w fun e w' => e = .returned (.bool true) ∧ Ext w w') :
 Calls Tryz.prog 38 #[.agg #[.int .i64 6, .int .u64 num, .string foot, .int .u64 req, .string path, .int .i64 mode, .int .u64 n, .int .i64 time]] w fun e w' => e = .returned (.tuple #[.string path, .bool true]) ∧ Ext w w' := by
 have hA : At [] w [] w := At.start (L0 := []) trivial
 have hF := hA.facts
 have hh := fun w => hasR_any w
 have hix : ∀ w, (Instr.index 112 (.agg #[.bool false, .bool false, .bool false, .bool false, .bool false, .bool false, .bool true, .bool true, .bool false, .bool false, .bool true, .bool true, .bool true, .bool true, .bool false, .bool false, .bool false, .bool false, .bool true, .bool true, .bool false, .bool false, .bool false, .bool true, .bool true, .bool true, .bool true, .bool true, .bool false, .bool false, .bool true, .bool true, .bool true, .bool true, .bool false, .bool false, .bool true, .bool true, .bool true, .bool false, .bool false, .bool false, .bool true, .bool true, .bool true, .bool false, .bool true, .bool false, .bool true, .bool false, .bool false, .bool false, .bool false, .bool true]) (.int .i64 6)).run Tryz.prog w = .ok (.agg #[.bool true, .bool true, .bool true, .bool false, .bool false, .bool false]) w := fun w => by kernel_rfl
 have hiy : ∀ w, (Instr.index 111 (.agg #[.bool true, .bool true, .bool true, .bool false, .bool false, .bool false]) (.int .i64 2)).run Tryz.prog w = .ok (.bool true) w := fun w => by kernel_rfl
 have hF := hA.facts; (try simp only [uY] at hA hF)
 go_enter Tryz.func38, Tryz.ntmps38
 go_wp2_with (first | ((with_reducible refine gbx ?_); refine wH 57 [.int .i64 6, .int .u64 num, .string foot, .int .u64 req, .string path, .int .i64 mode, .int .u64 n, .int .i64 time] hA ?_; clear hF hA; intro bX w1 hA hbX hF; (try simp only [uY] at hA hF)) | ((with_reducible refine gst ?_); refine wT hA ?_; clear hF hA; intro w1 hA hF; (try simp only [uY] at hA hF)) | ((with_reducible refine gbx ?_); refine wC hA ?_; clear hF hA; intro b1 w1 hA hb1 hF; (try simp only [uY] at hA hF)))
 refine (hrc _).mono ?_
 clear hrc
 rintro e w1 ⟨rfl, hx⟩
 have hB := hA.ext hx
 clear hF hA hx; have hA := hB; clear hB
 have hF := hA.facts; (try simp only [uY] at hA hF)
 go_wp2_with (first | ((with_reducible refine gst ?_); refine wT hA ?_; clear hF hA; intro w1 hA hF; (try simp only [uY] at hA hF)) | ((with_reducible refine gbx ?_); refine wC hA ?_; clear hF hA; intro b1 w1 hA hb1 hF; (try simp only [uY] at hA hF)))
 try go_frame
 refine cl2 hA ?_; clear hF hA; intro w1 hA hF; (try simp only [uY] at hA hF)
 clear hh hix hiy
 go_wp2_with (first | ((with_reducible refine gst ?_); refine wT hA ?_; clear hF hA; intro w1 hA hF; (try simp only [uY] at hA hF)) | ((with_reducible refine gbx ?_); refine wC hA ?_; clear hF hA; intro b1 w1 hA hb1 hF; (try simp only [uY] at hA hF)))
 refine bodyPost_ret (v := .tuple #[.string path, .bool true]) (by simp [results, Tryz.results38, go_sem, hF]) rfl ⟨rfl, hA.toExt⟩
theorem footR_7 (num : Int) (foot : ByteArray) (req : Int) (path : ByteArray) (mode n time : Int) (w : World) (hrc : ∀ w, Calls Tryz.prog 61 #[.agg #[.int .i64 7, .int .u64 num, .string foot, .int .u64 req, .string path, .int .i64 mode, .int .u64 n, .int .i64 time]] w fun e w' => e = .returned (.bool true) ∧ Ext w w') :
 Calls Tryz.prog 38 #[.agg #[.int .i64 7, .int .u64 num, .string foot, .int .u64 req, .string path, .int .i64 mode, .int .u64 n, .int .i64 time]] w fun e w' => e = .returned (.tuple #[.string path, .bool true]) ∧ Ext w w' := by
 have hA : At [] w [] w := At.start (L0 := []) trivial
 have hF := hA.facts
 have hh := fun w => hasR_any w
 have hix : ∀ w, (Instr.index 112 (.agg #[.bool false, .bool false, .bool false, .bool false, .bool false, .bool false, .bool true, .bool true, .bool false, .bool false, .bool true, .bool true, .bool true, .bool true, .bool false, .bool false, .bool false, .bool false, .bool true, .bool true, .bool false, .bool false, .bool false, .bool true, .bool true, .bool true, .bool true, .bool true, .bool false, .bool false, .bool true, .bool true, .bool true, .bool true, .bool false, .bool false, .bool true, .bool true, .bool true, .bool false, .bool false, .bool false, .bool true, .bool true, .bool true, .bool false, .bool true, .bool false, .bool true, .bool false, .bool false, .bool false, .bool false, .bool true]) (.int .i64 7)).run Tryz.prog w = .ok (.agg #[.bool true, .bool true, .bool true, .bool false, .bool true, .bool false]) w := fun w => by kernel_rfl
 have hiy : ∀ w, (Instr.index 111 (.agg #[.bool true, .bool true, .bool true, .bool false, .bool true, .bool false]) (.int .i64 2)).run Tryz.prog w = .ok (.bool true) w := fun w => by kernel_rfl
 have hF := hA.facts; (try simp only [uY] at hA hF)
 go_enter Tryz.func38, Tryz.ntmps38
 go_wp2_with (first | ((with_reducible refine gbx ?_); refine wH 57 [.int .i64 7, .int .u64 num, .string foot, .int .u64 req, .string path, .int .i64 mode, .int .u64 n, .int .i64 time] hA ?_; clear hF hA; intro bX w1 hA hbX hF; (try simp only [uY] at hA hF)) | ((with_reducible refine gst ?_); refine wT hA ?_; clear hF hA; intro w1 hA hF; (try simp only [uY] at hA hF)) | ((with_reducible refine gbx ?_); refine wC hA ?_; clear hF hA; intro b1 w1 hA hb1 hF; (try simp only [uY] at hA hF)))
 refine (hrc _).mono ?_
 clear hrc
 rintro e w1 ⟨rfl, hx⟩
 have hB := hA.ext hx
 clear hF hA hx; have hA := hB; clear hB
 have hF := hA.facts; (try simp only [uY] at hA hF)
 go_wp2_with (first | ((with_reducible refine gst ?_); refine wT hA ?_; clear hF hA; intro w1 hA hF; (try simp only [uY] at hA hF)) | ((with_reducible refine gbx ?_); refine wC hA ?_; clear hF hA; intro b1 w1 hA hb1 hF; (try simp only [uY] at hA hF)))
 try go_frame
 refine cl2 hA ?_; clear hF hA; intro w1 hA hF; (try simp only [uY] at hA hF)
 clear hh hix hiy
 go_wp2_with (first | ((with_reducible refine gst ?_); refine wT hA ?_; clear hF hA; intro w1 hA hF; (try simp only [uY] at hA hF)) | ((with_reducible refine gbx ?_); refine wC hA ?_; clear hF hA; intro b1 w1 hA hb1 hF; (try simp only [uY] at hA hF)))
 refine bodyPost_ret (v := .tuple #[.string path, .bool true]) (by simp [results, Tryz.results38, go_sem, hF]) rfl ⟨rfl, hA.toExt⟩
theorem footR_8 (num : Int) (foot : ByteArray) (req : Int) (path : ByteArray) (mode n time : Int) (w : World) (hrc : ∀ w, Calls Tryz.prog 61 #[.agg #[.int .i64 8, .int .u64 num, .string foot, .int .u64 req, .string path, .int .i64 mode, .int .u64 n, .int .i64 time]] w fun e w' => e = .returned (.bool true) ∧ Ext w w') :
 Calls Tryz.prog 38 #[.agg #[.int .i64 8, .int .u64 num, .string foot, .int .u64 req, .string path, .int .i64 mode, .int .u64 n, .int .i64 time]] w fun e w' => e = .returned (.tuple #[.string foot, .bool true]) ∧ Ext w w' := by
 have hA : At [] w [] w := At.start (L0 := []) trivial
 have hF := hA.facts
 have hh := fun w => hasR_any w
 have hix : ∀ w, (Instr.index 112 (.agg #[.bool false, .bool false, .bool false, .bool false, .bool false, .bool false, .bool true, .bool true, .bool false, .bool false, .bool true, .bool true, .bool true, .bool true, .bool false, .bool false, .bool false, .bool false, .bool true, .bool true, .bool false, .bool false, .bool false, .bool true, .bool true, .bool true, .bool true, .bool true, .bool false, .bool false, .bool true, .bool true, .bool true, .bool true, .bool false, .bool false, .bool true, .bool true, .bool true, .bool false, .bool false, .bool false, .bool true, .bool true, .bool true, .bool false, .bool true, .bool false, .bool true, .bool false, .bool false, .bool false, .bool false, .bool true]) (.int .i64 8)).run Tryz.prog w = .ok (.agg #[.bool true, .bool false, .bool false, .bool false, .bool false, .bool true]) w := fun w => by kernel_rfl
 have hiy : ∀ w, (Instr.index 111 (.agg #[.bool true, .bool false, .bool false, .bool false, .bool false, .bool true]) (.int .i64 2)).run Tryz.prog w = .ok (.bool false) w := fun w => by kernel_rfl
 have hF := hA.facts; (try simp only [uY] at hA hF)
 go_enter Tryz.func38, Tryz.ntmps38
 go_wp2_with (first | ((with_reducible refine gbx ?_); refine wH 57 [.int .i64 8, .int .u64 num, .string foot, .int .u64 req, .string path, .int .i64 mode, .int .u64 n, .int .i64 time] hA ?_; clear hF hA; intro bX w1 hA hbX hF; (try simp only [uY] at hA hF)) | ((with_reducible refine gst ?_); refine wT hA ?_; clear hF hA; intro w1 hA hF; (try simp only [uY] at hA hF)) | ((with_reducible refine gbx ?_); refine wC hA ?_; clear hF hA; intro b1 w1 hA hb1 hF; (try simp only [uY] at hA hF)))
 refine (hrc _).mono ?_
 clear hrc
 rintro e w1 ⟨rfl, hx⟩
 have hB := hA.ext hx
 clear hF hA hx; have hA := hB; clear hB
 have hF := hA.facts; (try simp only [uY] at hA hF)
 go_wp2_with (first | ((with_reducible refine gst ?_); refine wT hA ?_; clear hF hA; intro w1 hA hF; (try simp only [uY] at hA hF)) | ((with_reducible refine gbx ?_); refine wC hA ?_; clear hF hA; intro b1 w1 hA hb1 hF; (try simp only [uY] at hA hF)))
 try go_frame
 refine cl2 hA ?_; clear hF hA; intro w1 hA hF; (try simp only [uY] at hA hF)
 clear hh hix hiy
 go_wp2_with (first | ((with_reducible refine gst ?_); refine wT hA ?_; clear hF hA; intro w1 hA hF; (try simp only [uY] at hA hF)) | ((with_reducible refine gbx ?_); refine wC hA ?_; clear hF hA; intro b1 w1 hA hb1 hF; (try simp only [uY] at hA hF)))
 refine bodyPost_ret (v := .tuple #[.string foot, .bool true]) (by simp [results, Tryz.results38, go_sem, hF]) rfl ⟨rfl, hA.toExt⟩
theorem footR_no (c : Cm) (w : World) {rc : Bool} (hrc : ∀ w, Calls Tryz.prog 61 #[c.val] w fun e w' => e = .returned (.bool rc) ∧ Ext w w') (hk : rc = false ∨ c.kind = 0) :
 Calls Tryz.prog 38 #[c.val] w fun e w' => e = .returned (.tuple #[.string .empty, .bool false]) ∧ Ext w w' := by
 have hA : At [] w [] w := At.start (L0 := []) trivial
 have hF := hA.facts
 obtain ⟨kind, num, foot, req, path, mode, n, time⟩ := c
 simp only [Cm.val] at *
 have hF := hA.facts; (try simp only [uY] at hA hF)
 cases rc
 · go_enter Tryz.func38, Tryz.ntmps38
   go_wp2_with (first | ((with_reducible refine gbx ?_); refine wH 57 [.int .i64 kind, .int .u64 num, .string foot, .int .u64 req, .string path, .int .i64 mode, .int .u64 n, .int .i64 time] hA ?_; clear hF hA; intro bX w1 hA hbX hF; (try simp only [uY] at hA hF)) | ((with_reducible refine gst ?_); refine wT hA ?_; clear hF hA; intro w1 hA hF; (try simp only [uY] at hA hF)) | ((with_reducible refine gbx ?_); refine wC hA ?_; clear hF hA; intro b1 w1 hA hb1 hF; (try simp only [uY] at hA hF)))
   refine (hrc _).mono ?_
   clear hrc
   rintro e w1 ⟨rfl, hx⟩
   have hB := hA.ext hx
   clear hF hA hx; have hA := hB; clear hB
   have hF := hA.facts; (try simp only [uY] at hA hF)
   go_wp2_with (first | ((with_reducible refine gst ?_); refine wT hA ?_; clear hF hA; intro w1 hA hF; (try simp only [uY] at hA hF)) | ((with_reducible refine gbx ?_); refine wC hA ?_; clear hF hA; intro b1 w1 hA hb1 hF; (try simp only [uY] at hA hF)))
   refine bodyPost_ret (v := .tuple #[.string ⟨#[]⟩, .bool false]) (by simp [results, Tryz.results38, go_sem, hF]) rfl ⟨rfl, hA.toExt⟩
 · have hk0 : kind = 0 := by rcases hk with h | h; cases h; exact h
   subst hk0
   clear hk
   go_enter Tryz.func38, Tryz.ntmps38
   go_wp2_with (first | ((with_reducible refine gbx ?_); refine wH 57 [.int .i64 0, .int .u64 num, .string foot, .int .u64 req, .string path, .int .i64 mode, .int .u64 n, .int .i64 time] hA ?_; clear hF hA; intro bX w1 hA hbX hF; (try simp only [uY] at hA hF)) | ((with_reducible refine gst ?_); refine wT hA ?_; clear hF hA; intro w1 hA hF; (try simp only [uY] at hA hF)) | ((with_reducible refine gbx ?_); refine wC hA ?_; clear hF hA; intro b1 w1 hA hb1 hF; (try simp only [uY] at hA hF)))
   refine (hrc _).mono ?_
   clear hrc
   rintro e w1 ⟨rfl, hx⟩
   have hB := hA.ext hx
   clear hF hA hx; have hA := hB; clear hB
   have hF := hA.facts; (try simp only [uY] at hA hF)
   go_wp2_with (first | ((with_reducible refine gst ?_); refine wT hA ?_; clear hF hA; intro w1 hA hF; (try simp only [uY] at hA hF)) | ((with_reducible refine gbx ?_); refine wC hA ?_; clear hF hA; intro b1 w1 hA hb1 hF; (try simp only [uY] at hA hF)))
   refine bodyPost_ret (v := .tuple #[.string ⟨#[]⟩, .bool false]) (by simp [results, Tryz.results38, go_sem, hF]) rfl ⟨rfl, hA.toExt⟩
theorem refFoot_ok (c : Cm) (hf : c.foot.size ≤ 1000) (hp : c.path.size ≤ 1000) : ∃ (f : ByteArray) (b : Bool), ∀ w, Calls Tryz.prog 38 #[c.val] w fun e w' => e = .returned (.tuple #[.string f, .bool b]) ∧ Ext w w' := by
 by_cases hk : c.kind < 0 ∨ 8 < c.kind
 · exact ⟨_, _, fun w => footR_no c w (fun w => rightR_no c hk w) (.inl rfl)⟩
 obtain ⟨rc, hrc⟩ := refRight_ok c hf hp
 cases rc with
 | false => exact ⟨_, _, fun w => footR_no c w hrc (.inl rfl)⟩
 | true =>
  obtain ⟨kind, num, foot, req, path, mode, n, time⟩ := c
  by_cases h0 : kind = 0
  · exact ⟨_, _, fun w => footR_no ⟨kind, num, foot, req, path, mode, n, time⟩ w hrc (.inr h0)⟩
  by_cases h1 : kind = 1
  · subst h1
    exact ⟨_, _, fun w => footR_1 num foot req path mode n time w hrc⟩
  by_cases h2 : kind = 2
  · subst h2
    exact ⟨_, _, fun w => footR_2 num foot req path mode n time w hrc⟩
  by_cases h3 : kind = 3
  · subst h3
    exact ⟨_, _, fun w => footR_3 num foot req path mode n time w hrc⟩
  by_cases h4 : kind = 4
  · subst h4
    exact ⟨_, _, fun w => footR_4 num foot req path mode n time w hrc⟩
  by_cases h5 : kind = 5
  · subst h5
    exact ⟨_, _, fun w => footR_5 num foot req path mode n time w hrc⟩
  by_cases h6 : kind = 6
  · subst h6
    exact ⟨_, _, fun w => footR_6 num foot req path mode n time w hrc⟩
  by_cases h7 : kind = 7
  · subst h7
    exact ⟨_, _, fun w => footR_7 num foot req path mode n time w hrc⟩
  by_cases h8 : kind = 8
  · subst h8
    exact ⟨_, _, fun w => footR_8 num foot req path mode n time w hrc⟩
  exact absurd (show kind < 0 ∨ 8 < kind by omega) hk
end Go.Proofs.YtgbpfgdjnhbcgaaGreatDoor.Cmd
end
