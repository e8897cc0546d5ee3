/- IpB, RefS, joined. -/
import Derived.Test.YtgbpfgdjnhbcgaaGreatDoorQ16
set_option linter.unusedSimpArgs false
set_option linter.unusedVariables false
set_option maxRecDepth 100000
set_option maxHeartbeats 16000000
section
namespace Go.Proofs.YtgbpfgdjnhbcgaaGreatDoor.Ix
open Go.RowKit
open Path (bl rightB overB)
open Attr (A8 rightI)
open Cmd (Cm through0 idR_any footR_is keyC footC fD)
attribute [-go_sem] run_eql_struct run_neq_struct run_eqGuard_agg
def MgI (a b x : A8) (q : Nat) : Prop := x.s = max a.s b.s ∧ x.d0 = (if 0 < q then max a.d0 b.d0 else a.d0) ∧ x.d1 = (if 1 < q then max a.d1 b.d1 else a.d1) ∧ x.d2 = (if 2 < q then max a.d2 b.d2 else a.d2) ∧ x.d3 = (if 3 < q then max a.d3 b.d3 else a.d3) ∧ x.d4 = (if 4 < q then max a.d4 b.d4 else a.d4) ∧ x.d5 = (if 5 < q then max a.d5 b.d5 else a.d5) ∧ x.d6 = (if 6 < q then max a.d6 b.d6 else a.d6)
def MgRel (w : World) (a b : A8) (bR bA bB : Nat) (k : Nat) (u : Value) (wr : World) : Prop :=
 ∃ (q : Nat) (x : A8), u = .int .i64 q ∧ q + k = 7 ∧ MgI a b x q ∧ At [] w [Part.cells bR A8.zero.cells 51, Part.cells bA x.cells 51, Part.cells bB b.cells 51] wr
theorem mergeR_any (a b : A8) (w : World) : Calls Tryz.prog 26 #[a.val, b.val] w fun e w' => e = .returned (a.merge b).val ∧ Ext w w' := by
 have hA : At [] w [] w := At.start (L0 := []) trivial
 have hF := hA.facts
 obtain ⟨x0, x1, x2, x3, x4, x5, x6, x7⟩ := a
 obtain ⟨y0, y1, y2, y3, y4, y5, y6, y7⟩ := b
 by_cases hs : x0 < y0
 · skip
   have hx0 := Lib.hid (show MgI ⟨x0, x1, x2, x3, x4, x5, x6, x7⟩ ⟨y0, y1, y2, y3, y4, y5, y6, y7⟩ ⟨y0, x1, x2, x3, x4, x5, x6, x7⟩ 0 by unfold MgI; simp only; omega)
   simp only [A8.val]
   have hF := hA.facts; (try simp only [uZ] at hA hF)
   go_enter Tryz.func26, Tryz.ntmps26
   go_wp2_with (first | (((with_reducible show wpList _ _ _ ({ dst := some 2, op := Op.box _ _, type := _, pos := _, after := _, guard := _ } :: _) _ _)); ((with_reducible refine gbx ?_); refine wH 51 [.int .i64 x0, .int .i64 x1, .int .i64 x2, .int .i64 x3, .int .i64 x4, .int .i64 x5, .int .i64 x6, .int .i64 x7] hA ?_; clear hF hA; intro bA w1 hA hbA hF; (try simp only [uZ] at hA hF))) | (((with_reducible show wpList _ _ _ ({ dst := some 3, op := Op.box _ _, type := _, pos := _, after := _, guard := _ } :: _) _ _)); ((with_reducible refine gbx ?_); refine wH 51 [.int .i64 y0, .int .i64 y1, .int .i64 y2, .int .i64 y3, .int .i64 y4, .int .i64 y5, .int .i64 y6, .int .i64 y7] hA ?_; clear hF hA; intro bB w1 hA hbB hF; (try simp only [uZ] at hA hF))) | (((with_reducible show wpList _ _ _ ({ dst := some 4, op := Op.alloc _, type := _, pos := _, after := _, guard := _ } :: _) _ _)); ((with_reducible refine gal ?_); refine wG 51 [.int .i64 0, .int .i64 0, .int .i64 0, .int .i64 0, .int .i64 0, .int .i64 0, .int .i64 0, .int .i64 0] hA ?_; clear hF hA; intro bR w1 hA hbR hF; (try simp only [uZ] at hA hF))) | ((with_reducible refine gst ?_); refine wT hA ?_; clear hF hA; intro w1 hA hF; (try simp only [uZ] at hA hF)) | ((with_reducible refine gbx ?_); refine wC hA ?_; clear hF hA; intro b1 w1 hA hb1 hF; (try simp only [uZ] at hA hF)))
   try go_frame
   clear hs
   go_loopg [5] 7 (MgRel w ⟨x0, x1, x2, x3, x4, x5, x6, x7⟩ ⟨y0, y1, y2, y3, y4, y5, y6, y7⟩ bR bA bB)
   case atStart => exact ⟨0, ⟨y0, x1, x2, x3, x4, x5, x6, x7⟩, rfl, rfl, hx0.out, hA.pick pZ⟩
   case round =>
    clear hx0
    obtain ⟨q, x, rfl, hqk, hx, hB⟩ := hrel
    clear hF hA; have hA := hB; clear hB
    by_cases hq : q < 7
    · have hx' := Lib.hid hx
      clear hx
      obtain ⟨z0, z1, z2, z3, z4, z5, z6, z7⟩ := x
      simp only [A8.cells, A8.zero] at hA
      have h7 : q = 0 ∨ q = 1 ∨ q = 2 ∨ q = 3 ∨ q = 4 ∨ q = 5 ∨ q = 6 := by omega
      clear hq
      rcases h7 with rfl | rfl | rfl | rfl | rfl | rfl | rfl
      · by_cases hc : z1 < y1
        · skip
          have hF := hA.facts; (try simp only [uZ] at hA hF)
          go_wp2_with (first | ((with_reducible refine gst ?_); refine wT hA ?_; clear hF hA; intro w1 hA hF; (try simp only [uZ] at hA hF)) | ((with_reducible refine gbx ?_); refine wC hA ?_; clear hF hA; intro b1 w1 hA hb1 hF; (try simp only [uZ] at hA hF)))
          try go_frame
          refine cl0 hA ?_; clear hF hA; intro w1 hA hF; (try simp only [uZ] at hA hF)
          go_wp2_with (first | ((with_reducible refine gst ?_); refine wT hA ?_; clear hF hA; intro w1 hA hF; (try simp only [uZ] at hA hF)) | ((with_reducible refine gbx ?_); refine wC hA ?_; clear hF hA; intro b1 w1 hA hb1 hF; (try simp only [uZ] at hA hF)))
          go_roundg (gk - 1)
          case measure => omega
          case rel =>
           refine ⟨1, ⟨z0, y1, z2, z3, z4, z5, z6, z7⟩, rfl, by omega, ?_, hA.pick pZ⟩
           have hx := hx'.out
           unfold MgI at hx ⊢
           simp only at hx ⊢
           omega
        · have hc0 : z1 ≥ y1 := by omega
          have hF := hA.facts; (try simp only [uZ] at hA hF)
          go_wp2_with (first | ((with_reducible refine gst ?_); refine wT hA ?_; clear hF hA; intro w1 hA hF; (try simp only [uZ] at hA hF)) | ((with_reducible refine gbx ?_); refine wC hA ?_; clear hF hA; intro b1 w1 hA hb1 hF; (try simp only [uZ] at hA hF)))
          try go_frame
          refine cl0 hA ?_; clear hF hA; intro w1 hA hF; (try simp only [uZ] at hA hF)
          go_wp2_with (first | ((with_reducible refine gst ?_); refine wT hA ?_; clear hF hA; intro w1 hA hF; (try simp only [uZ] at hA hF)) | ((with_reducible refine gbx ?_); refine wC hA ?_; clear hF hA; intro b1 w1 hA hb1 hF; (try simp only [uZ] at hA hF)))
          go_roundg (gk - 1)
          case measure => omega
          case rel =>
           refine ⟨1, ⟨z0, z1, z2, z3, z4, z5, z6, z7⟩, rfl, by omega, ?_, hA.pick pZ⟩
           have hx := hx'.out
           unfold MgI at hx ⊢
           simp only at hx ⊢
           omega
      · by_cases hc : z2 < y2
        · skip
          have hF := hA.facts; (try simp only [uZ] at hA hF)
          go_wp2_with (first | ((with_reducible refine gst ?_); refine wT hA ?_; clear hF hA; intro w1 hA hF; (try simp only [uZ] at hA hF)) | ((with_reducible refine gbx ?_); refine wC hA ?_; clear hF hA; intro b1 w1 hA hb1 hF; (try simp only [uZ] at hA hF)))
          try go_frame
          refine cl0 hA ?_; clear hF hA; intro w1 hA hF; (try simp only [uZ] at hA hF)
          go_wp2_with (first | ((with_reducible refine gst ?_); refine wT hA ?_; clear hF hA; intro w1 hA hF; (try simp only [uZ] at hA hF)) | ((with_reducible refine gbx ?_); refine wC hA ?_; clear hF hA; intro b1 w1 hA hb1 hF; (try simp only [uZ] at hA hF)))
          go_roundg (gk - 1)
          case measure => omega
          case rel =>
           refine ⟨2, ⟨z0, z1, y2, z3, z4, z5, z6, z7⟩, rfl, by omega, ?_, hA.pick pZ⟩
           have hx := hx'.out
           unfold MgI at hx ⊢
           simp only at hx ⊢
           omega
        · have hc0 : z2 ≥ y2 := by omega
          have hF := hA.facts; (try simp only [uZ] at hA hF)
          go_wp2_with (first | ((with_reducible refine gst ?_); refine wT hA ?_; clear hF hA; intro w1 hA hF; (try simp only [uZ] at hA hF)) | ((with_reducible refine gbx ?_); refine wC hA ?_; clear hF hA; intro b1 w1 hA hb1 hF; (try simp only [uZ] at hA hF)))
          try go_frame
          refine cl0 hA ?_; clear hF hA; intro w1 hA hF; (try simp only [uZ] at hA hF)
          go_wp2_with (first | ((with_reducible refine gst ?_); refine wT hA ?_; clear hF hA; intro w1 hA hF; (try simp only [uZ] at hA hF)) | ((with_reducible refine gbx ?_); refine wC hA ?_; clear hF hA; intro b1 w1 hA hb1 hF; (try simp only [uZ] at hA hF)))
          go_roundg (gk - 1)
          case measure => omega
          case rel =>
           refine ⟨2, ⟨z0, z1, z2, z3, z4, z5, z6, z7⟩, rfl, by omega, ?_, hA.pick pZ⟩
           have hx := hx'.out
           unfold MgI at hx ⊢
           simp only at hx ⊢
           omega
      · by_cases hc : z3 < y3
        · skip
          have hF := hA.facts; (try simp only [uZ] at hA hF)
          go_wp2_with (first | ((with_reducible refine gst ?_); refine wT hA ?_; clear hF hA; intro w1 hA hF; (try simp only [uZ] at hA hF)) | ((with_reducible refine gbx ?_); refine wC hA ?_; clear hF hA; intro b1 w1 hA hb1 hF; (try simp only [uZ] at hA hF)))
          try go_frame
          refine cl0 hA ?_; clear hF hA; intro w1 hA hF; (try simp only [uZ] at hA hF)
          go_wp2_with (first | ((with_reducible refine gst ?_); refine wT hA ?_; clear hF hA; intro w1 hA hF; (try simp only [uZ] at hA hF)) | ((with_reducible refine gbx ?_); refine wC hA ?_; clear hF hA; intro b1 w1 hA hb1 hF; (try simp only [uZ] at hA hF)))
          go_roundg (gk - 1)
          case measure => omega
          case rel =>
           refine ⟨3, ⟨z0, z1, z2, y3, z4, z5, z6, z7⟩, rfl, by omega, ?_, hA.pick pZ⟩
           have hx := hx'.out
           unfold MgI at hx ⊢
           simp only at hx ⊢
           omega
        · have hc0 : z3 ≥ y3 := by omega
          have hF := hA.facts; (try simp only [uZ] at hA hF)
          go_wp2_with (first | ((with_reducible refine gst ?_); refine wT hA ?_; clear hF hA; intro w1 hA hF; (try simp only [uZ] at hA hF)) | ((with_reducible refine gbx ?_); refine wC hA ?_; clear hF hA; intro b1 w1 hA hb1 hF; (try simp only [uZ] at hA hF)))
          try go_frame
          refine cl0 hA ?_; clear hF hA; intro w1 hA hF; (try simp only [uZ] at hA hF)
          go_wp2_with (first | ((with_reducible refine gst ?_); refine wT hA ?_; clear hF hA; intro w1 hA hF; (try simp only [uZ] at hA hF)) | ((with_reducible refine gbx ?_); refine wC hA ?_; clear hF hA; intro b1 w1 hA hb1 hF; (try simp only [uZ] at hA hF)))
          go_roundg (gk - 1)
          case measure => omega
          case rel =>
           refine ⟨3, ⟨z0, z1, z2, z3, z4, z5, z6, z7⟩, rfl, by omega, ?_, hA.pick pZ⟩
           have hx := hx'.out
           unfold MgI at hx ⊢
           simp only at hx ⊢
           omega
      · by_cases hc : z4 < y4
        · skip
          have hF := hA.facts; (try simp only [uZ] at hA hF)
          go_wp2_with (first | ((with_reducible refine gst ?_); refine wT hA ?_; clear hF hA; intro w1 hA hF; (try simp only [uZ] at hA hF)) | ((with_reducible refine gbx ?_); refine wC hA ?_; clear hF hA; intro b1 w1 hA hb1 hF; (try simp only [uZ] at hA hF)))
          try go_frame
          refine cl0 hA ?_; clear hF hA; intro w1 hA hF; (try simp only [uZ] at hA hF)
          go_wp2_with (first | ((with_reducible refine gst ?_); refine wT hA ?_; clear hF hA; intro w1 hA hF; (try simp only [uZ] at hA hF)) | ((with_reducible refine gbx ?_); refine wC hA ?_; clear hF hA; intro b1 w1 hA hb1 hF; (try simp only [uZ] at hA hF)))
          go_roundg (gk - 1)
          case measure => omega
          case rel =>
           refine ⟨4, ⟨z0, z1, z2, z3, y4, z5, z6, z7⟩, rfl, by omega, ?_, hA.pick pZ⟩
           have hx := hx'.out
           unfold MgI at hx ⊢
           simp only at hx ⊢
           omega
        · have hc0 : z4 ≥ y4 := by omega
          have hF := hA.facts; (try simp only [uZ] at hA hF)
          go_wp2_with (first | ((with_reducible refine gst ?_); refine wT hA ?_; clear hF hA; intro w1 hA hF; (try simp only [uZ] at hA hF)) | ((with_reducible refine gbx ?_); refine wC hA ?_; clear hF hA; intro b1 w1 hA hb1 hF; (try simp only [uZ] at hA hF)))
          try go_frame
          refine cl0 hA ?_; clear hF hA; intro w1 hA hF; (try simp only [uZ] at hA hF)
          go_wp2_with (first | ((with_reducible refine gst ?_); refine wT hA ?_; clear hF hA; intro w1 hA hF; (try simp only [uZ] at hA hF)) | ((with_reducible refine gbx ?_); refine wC hA ?_; clear hF hA; intro b1 w1 hA hb1 hF; (try simp only [uZ] at hA hF)))
          go_roundg (gk - 1)
          case measure => omega
          case rel =>
           refine ⟨4, ⟨z0, z1, z2, z3, z4, z5, z6, z7⟩, rfl, by omega, ?_, hA.pick pZ⟩
           have hx := hx'.out
           unfold MgI at hx ⊢
           simp only at hx ⊢
           omega
      · by_cases hc : z5 < y5
        · skip
          have hF := hA.facts; (try simp only [uZ] at hA hF)
          go_wp2_with (first | ((with_reducible refine gst ?_); refine wT hA ?_; clear hF hA; intro w1 hA hF; (try simp only [uZ] at hA hF)) | ((with_reducible refine gbx ?_); refine wC hA ?_; clear hF hA; intro b1 w1 hA hb1 hF; (try simp only [uZ] at hA hF)))
          try go_frame
          refine cl0 hA ?_; clear hF hA; intro w1 hA hF; (try simp only [uZ] at hA hF)
          go_wp2_with (first | ((with_reducible refine gst ?_); refine wT hA ?_; clear hF hA; intro w1 hA hF; (try simp only [uZ] at hA hF)) | ((with_reducible refine gbx ?_); refine wC hA ?_; clear hF hA; intro b1 w1 hA hb1 hF; (try simp only [uZ] at hA hF)))
          go_roundg (gk - 1)
          case measure => omega
          case rel =>
           refine ⟨5, ⟨z0, z1, z2, z3, z4, y5, z6, z7⟩, rfl, by omega, ?_, hA.pick pZ⟩
           have hx := hx'.out
           unfold MgI at hx ⊢
           simp only at hx ⊢
           omega
        · have hc0 : z5 ≥ y5 := by omega
          have hF := hA.facts; (try simp only [uZ] at hA hF)
          go_wp2_with (first | ((with_reducible refine gst ?_); refine wT hA ?_; clear hF hA; intro w1 hA hF; (try simp only [uZ] at hA hF)) | ((with_reducible refine gbx ?_); refine wC hA ?_; clear hF hA; intro b1 w1 hA hb1 hF; (try simp only [uZ] at hA hF)))
          try go_frame
          refine cl0 hA ?_; clear hF hA; intro w1 hA hF; (try simp only [uZ] at hA hF)
          go_wp2_with (first | ((with_reducible refine gst ?_); refine wT hA ?_; clear hF hA; intro w1 hA hF; (try simp only [uZ] at hA hF)) | ((with_reducible refine gbx ?_); refine wC hA ?_; clear hF hA; intro b1 w1 hA hb1 hF; (try simp only [uZ] at hA hF)))
          go_roundg (gk - 1)
          case measure => omega
          case rel =>
           refine ⟨5, ⟨z0, z1, z2, z3, z4, z5, z6, z7⟩, rfl, by omega, ?_, hA.pick pZ⟩
           have hx := hx'.out
           unfold MgI at hx ⊢
           simp only at hx ⊢
           omega
      · by_cases hc : z6 < y6
        · skip
          have hF := hA.facts; (try simp only [uZ] at hA hF)
          go_wp2_with (first | ((with_reducible refine gst ?_); refine wT hA ?_; clear hF hA; intro w1 hA hF; (try simp only [uZ] at hA hF)) | ((with_reducible refine gbx ?_); refine wC hA ?_; clear hF hA; intro b1 w1 hA hb1 hF; (try simp only [uZ] at hA hF)))
          try go_frame
          refine cl0 hA ?_; clear hF hA; intro w1 hA hF; (try simp only [uZ] at hA hF)
          go_wp2_with (first | ((with_reducible refine gst ?_); refine wT hA ?_; clear hF hA; intro w1 hA hF; (try simp only [uZ] at hA hF)) | ((with_reducible refine gbx ?_); refine wC hA ?_; clear hF hA; intro b1 w1 hA hb1 hF; (try simp only [uZ] at hA hF)))
          go_roundg (gk - 1)
          case measure => omega
          case rel =>
           refine ⟨6, ⟨z0, z1, z2, z3, z4, z5, y6, z7⟩, rfl, by omega, ?_, hA.pick pZ⟩
           have hx := hx'.out
           unfold MgI at hx ⊢
           simp only at hx ⊢
           omega
        · have hc0 : z6 ≥ y6 := by omega
          have hF := hA.facts; (try simp only [uZ] at hA hF)
          go_wp2_with (first | ((with_reducible refine gst ?_); refine wT hA ?_; clear hF hA; intro w1 hA hF; (try simp only [uZ] at hA hF)) | ((with_reducible refine gbx ?_); refine wC hA ?_; clear hF hA; intro b1 w1 hA hb1 hF; (try simp only [uZ] at hA hF)))
          try go_frame
          refine cl0 hA ?_; clear hF hA; intro w1 hA hF; (try simp only [uZ] at hA hF)
          go_wp2_with (first | ((with_reducible refine gst ?_); refine wT hA ?_; clear hF hA; intro w1 hA hF; (try simp only [uZ] at hA hF)) | ((with_reducible refine gbx ?_); refine wC hA ?_; clear hF hA; intro b1 w1 hA hb1 hF; (try simp only [uZ] at hA hF)))
          go_roundg (gk - 1)
          case measure => omega
          case rel =>
           refine ⟨6, ⟨z0, z1, z2, z3, z4, z5, z6, z7⟩, rfl, by omega, ?_, hA.pick pZ⟩
           have hx := hx'.out
           unfold MgI at hx ⊢
           simp only at hx ⊢
           omega
      · by_cases hc : z7 < y7
        · skip
          have hF := hA.facts; (try simp only [uZ] at hA hF)
          go_wp2_with (first | ((with_reducible refine gst ?_); refine wT hA ?_; clear hF hA; intro w1 hA hF; (try simp only [uZ] at hA hF)) | ((with_reducible refine gbx ?_); refine wC hA ?_; clear hF hA; intro b1 w1 hA hb1 hF; (try simp only [uZ] at hA hF)))
          try go_frame
          refine cl0 hA ?_; clear hF hA; intro w1 hA hF; (try simp only [uZ] at hA hF)
          go_wp2_with (first | ((with_reducible refine gst ?_); refine wT hA ?_; clear hF hA; intro w1 hA hF; (try simp only [uZ] at hA hF)) | ((with_reducible refine gbx ?_); refine wC hA ?_; clear hF hA; intro b1 w1 hA hb1 hF; (try simp only [uZ] at hA hF)))
          go_roundg (gk - 1)
          case measure => omega
          case rel =>
           refine ⟨7, ⟨z0, z1, z2, z3, z4, z5, z6, y7⟩, rfl, by omega, ?_, hA.pick pZ⟩
           have hx := hx'.out
           unfold MgI at hx ⊢
           simp only at hx ⊢
           omega
        · have hc0 : z7 ≥ y7 := by omega
          have hF := hA.facts; (try simp only [uZ] at hA hF)
          go_wp2_with (first | ((with_reducible refine gst ?_); refine wT hA ?_; clear hF hA; intro w1 hA hF; (try simp only [uZ] at hA hF)) | ((with_reducible refine gbx ?_); refine wC hA ?_; clear hF hA; intro b1 w1 hA hb1 hF; (try simp only [uZ] at hA hF)))
          try go_frame
          refine cl0 hA ?_; clear hF hA; intro w1 hA hF; (try simp only [uZ] at hA hF)
          go_wp2_with (first | ((with_reducible refine gst ?_); refine wT hA ?_; clear hF hA; intro w1 hA hF; (try simp only [uZ] at hA hF)) | ((with_reducible refine gbx ?_); refine wC hA ?_; clear hF hA; intro b1 w1 hA hb1 hF; (try simp only [uZ] at hA hF)))
          go_roundg (gk - 1)
          case measure => omega
          case rel =>
           refine ⟨7, ⟨z0, z1, z2, z3, z4, z5, z6, z7⟩, rfl, by omega, ?_, hA.pick pZ⟩
           have hx := hx'.out
           unfold MgI at hx ⊢
           simp only at hx ⊢
           omega
    · skip
      have hx' := Lib.hid hx
      clear hx
      obtain ⟨z0, z1, z2, z3, z4, z5, z6, z7⟩ := x
      simp only [A8.cells, A8.zero] at hA
      have hF := hA.facts; (try simp only [uZ] at hA hF)
      go_wp2_with (first | ((with_reducible refine gst ?_); refine wT hA ?_; clear hF hA; intro w1 hA hF; (try simp only [uZ] at hA hF)) | ((with_reducible refine gbx ?_); refine wC hA ?_; clear hF hA; intro b1 w1 hA hb1 hF; (try simp only [uZ] at hA hF)))
      have e : A8.merge ⟨x0, x1, x2, x3, x4, x5, x6, x7⟩ ⟨y0, y1, y2, y3, y4, y5, y6, y7⟩ = ⟨z0, z1, z2, z3, z4, z5, z6, z7⟩ := by
       have hx := hx'.out
       unfold MgI at hx
       simp only at hx
       unfold A8.merge
       simp only [A8.mk.injEq]
       omega
      rw [e]
      refine bodyPost_ret (v := .agg #[.int .i64 z0, .int .i64 z1, .int .i64 z2, .int .i64 z3, .int .i64 z4, .int .i64 z5, .int .i64 z6, .int .i64 z7]) (by simp [results, Tryz.results26, go_sem, hF]) rfl ⟨rfl, hA.toExt⟩
 · have hs0 : x0 ≥ y0 := by omega
   have hx0 := Lib.hid (show MgI ⟨x0, x1, x2, x3, x4, x5, x6, x7⟩ ⟨y0, y1, y2, y3, y4, y5, y6, y7⟩ ⟨x0, x1, x2, x3, x4, x5, x6, x7⟩ 0 by unfold MgI; simp only; omega)
   simp only [A8.val]
   have hF := hA.facts; (try simp only [uZ] at hA hF)
   go_enter Tryz.func26, Tryz.ntmps26
   go_wp2_with (first | (((with_reducible show wpList _ _ _ ({ dst := some 2, op := Op.box _ _, type := _, pos := _, after := _, guard := _ } :: _) _ _)); ((with_reducible refine gbx ?_); refine wH 51 [.int .i64 x0, .int .i64 x1, .int .i64 x2, .int .i64 x3, .int .i64 x4, .int .i64 x5, .int .i64 x6, .int .i64 x7] hA ?_; clear hF hA; intro bA w1 hA hbA hF; (try simp only [uZ] at hA hF))) | (((with_reducible show wpList _ _ _ ({ dst := some 3, op := Op.box _ _, type := _, pos := _, after := _, guard := _ } :: _) _ _)); ((with_reducible refine gbx ?_); refine wH 51 [.int .i64 y0, .int .i64 y1, .int .i64 y2, .int .i64 y3, .int .i64 y4, .int .i64 y5, .int .i64 y6, .int .i64 y7] hA ?_; clear hF hA; intro bB w1 hA hbB hF; (try simp only [uZ] at hA hF))) | (((with_reducible show wpList _ _ _ ({ dst := some 4, op := Op.alloc _, type := _, pos := _, after := _, guard := _ } :: _) _ _)); ((with_reducible refine gal ?_); refine wG 51 [.int .i64 0, .int .i64 0, .int .i64 0, .int .i64 0, .int .i64 0, .int .i64 0, .int .i64 0, .int .i64 0] hA ?_; clear hF hA; intro bR w1 hA hbR hF; (try simp only [uZ] at hA hF))) | ((with_reducible refine gst ?_); refine wT hA ?_; clear hF hA; intro w1 hA hF; (try simp only [uZ] at hA hF)) | ((with_reducible refine gbx ?_); refine wC hA ?_; clear hF hA; intro b1 w1 hA hb1 hF; (try simp only [uZ] at hA hF)))
   try go_frame
   clear hs
   go_loopg [5] 7 (MgRel w ⟨x0, x1, x2, x3, x4, x5, x6, x7⟩ ⟨y0, y1, y2, y3, y4, y5, y6, y7⟩ bR bA bB)
   case atStart => exact ⟨0, ⟨x0, x1, x2, x3, x4, x5, x6, x7⟩, rfl, rfl, hx0.out, hA.pick pZ⟩
   case round =>
    clear hx0
    obtain ⟨q, x, rfl, hqk, hx, hB⟩ := hrel
    clear hF hA; have hA := hB; clear hB
    by_cases hq : q < 7
    · have hx' := Lib.hid hx
      clear hx
      obtain ⟨z0, z1, z2, z3, z4, z5, z6, z7⟩ := x
      simp only [A8.cells, A8.zero] at hA
      have h7 : q = 0 ∨ q = 1 ∨ q = 2 ∨ q = 3 ∨ q = 4 ∨ q = 5 ∨ q = 6 := by omega
      clear hq
      rcases h7 with rfl | rfl | rfl | rfl | rfl | rfl | rfl
      · by_cases hc : z1 < y1
        · skip
          have hF := hA.facts; (try simp only [uZ] at hA hF)
          go_wp2_with (first | ((with_reducible refine gst ?_); refine wT hA ?_; clear hF hA; intro w1 hA hF; (try simp only [uZ] at hA hF)) | ((with_reducible refine gbx ?_); refine wC hA ?_; clear hF hA; intro b1 w1 hA hb1 hF; (try simp only [uZ] at hA hF)))
          try go_frame
          refine cl0 hA ?_; clear hF hA; intro w1 hA hF; (try simp only [uZ] at hA hF)
          go_wp2_with (first | ((with_reducible refine gst ?_); refine wT hA ?_; clear hF hA; intro w1 hA hF; (try simp only [uZ] at hA hF)) | ((with_reducible refine gbx ?_); refine wC hA ?_; clear hF hA; intro b1 w1 hA hb1 hF; (try simp only [uZ] at hA hF)))
          go_roundg (gk - 1)
          case measure => omega
          case rel =>
           refine ⟨1, ⟨z0, y1, z2, z3, z4, z5, z6, z7⟩, rfl, by omega, ?_, hA.pick pZ⟩
           have hx := hx'.out
           unfold MgI at hx ⊢
           simp only at hx ⊢
           omega
        · have hc0 : z1 ≥ y1 := by omega
          have hF := hA.facts; (try simp only [uZ] at hA hF)
          go_wp2_with (first | ((with_reducible refine gst ?_); refine wT hA ?_; clear hF hA; intro w1 hA hF; (try simp only [uZ] at hA hF)) | ((with_reducible refine gbx ?_); refine wC hA ?_; clear hF hA; intro b1 w1 hA hb1 hF; (try simp only [uZ] at hA hF)))
          try go_frame
          refine cl0 hA ?_; clear hF hA; intro w1 hA hF; (try simp only [uZ] at hA hF)
          go_wp2_with (first | ((with_reducible refine gst ?_); refine wT hA ?_; clear hF hA; intro w1 hA hF; (try simp only [uZ] at hA hF)) | ((with_reducible refine gbx ?_); refine wC hA ?_; clear hF hA; intro b1 w1 hA hb1 hF; (try simp only [uZ] at hA hF)))
          go_roundg (gk - 1)
          case measure => omega
          case rel =>
           refine ⟨1, ⟨z0, z1, z2, z3, z4, z5, z6, z7⟩, rfl, by omega, ?_, hA.pick pZ⟩
           have hx := hx'.out
           unfold MgI at hx ⊢
           simp only at hx ⊢
           omega
      · by_cases hc : z2 < y2
        · skip
          have hF := hA.facts; (try simp only [uZ] at hA hF)
          go_wp2_with (first | ((with_reducible refine gst ?_); refine wT hA ?_; clear hF hA; intro w1 hA hF; (try simp only [uZ] at hA hF)) | ((with_reducible refine gbx ?_); refine wC hA ?_; clear hF hA; intro b1 w1 hA hb1 hF; (try simp only [uZ] at hA hF)))
          try go_frame
          refine cl0 hA ?_; clear hF hA; intro w1 hA hF; (try simp only [uZ] at hA hF)
          go_wp2_with (first | ((with_reducible refine gst ?_); refine wT hA ?_; clear hF hA; intro w1 hA hF; (try simp only [uZ] at hA hF)) | ((with_reducible refine gbx ?_); refine wC hA ?_; clear hF hA; intro b1 w1 hA hb1 hF; (try simp only [uZ] at hA hF)))
          go_roundg (gk - 1)
          case measure => omega
          case rel =>
           refine ⟨2, ⟨z0, z1, y2, z3, z4, z5, z6, z7⟩, rfl, by omega, ?_, hA.pick pZ⟩
           have hx := hx'.out
           unfold MgI at hx ⊢
           simp only at hx ⊢
           omega
        · have hc0 : z2 ≥ y2 := by omega
          have hF := hA.facts; (try simp only [uZ] at hA hF)
          go_wp2_with (first | ((with_reducible refine gst ?_); refine wT hA ?_; clear hF hA; intro w1 hA hF; (try simp only [uZ] at hA hF)) | ((with_reducible refine gbx ?_); refine wC hA ?_; clear hF hA; intro b1 w1 hA hb1 hF; (try simp only [uZ] at hA hF)))
          try go_frame
          refine cl0 hA ?_; clear hF hA; intro w1 hA hF; (try simp only [uZ] at hA hF)
          go_wp2_with (first | ((with_reducible refine gst ?_); refine wT hA ?_; clear hF hA; intro w1 hA hF; (try simp only [uZ] at hA hF)) | ((with_reducible refine gbx ?_); refine wC hA ?_; clear hF hA; intro b1 w1 hA hb1 hF; (try simp only [uZ] at hA hF)))
          go_roundg (gk - 1)
          case measure => omega
          case rel =>
           refine ⟨2, ⟨z0, z1, z2, z3, z4, z5, z6, z7⟩, rfl, by omega, ?_, hA.pick pZ⟩
           have hx := hx'.out
           unfold MgI at hx ⊢
           simp only at hx ⊢
           omega
      · by_cases hc : z3 < y3
        · skip
          have hF := hA.facts; (try simp only [uZ] at hA hF)
          go_wp2_with (first | ((with_reducible refine gst ?_); refine wT hA ?_; clear hF hA; intro w1 hA hF; (try simp only [uZ] at hA hF)) | ((with_reducible refine gbx ?_); refine wC hA ?_; clear hF hA; intro b1 w1 hA hb1 hF; (try simp only [uZ] at hA hF)))
          try go_frame
          refine cl0 hA ?_; clear hF hA; intro w1 hA hF; (try simp only [uZ] at hA hF)
          go_wp2_with (first | ((with_reducible refine gst ?_); refine wT hA ?_; clear hF hA; intro w1 hA hF; (try simp only [uZ] at hA hF)) | ((with_reducible refine gbx ?_); refine wC hA ?_; clear hF hA; intro b1 w1 hA hb1 hF; (try simp only [uZ] at hA hF)))
          go_roundg (gk - 1)
          case measure => omega
          case rel =>
           refine ⟨3, ⟨z0, z1, z2, y3, z4, z5, z6, z7⟩, rfl, by omega, ?_, hA.pick pZ⟩
           have hx := hx'.out
           unfold MgI at hx ⊢
           simp only at hx ⊢
           omega
        · have hc0 : z3 ≥ y3 := by omega
          have hF := hA.facts; (try simp only [uZ] at hA hF)
          go_wp2_with (first | ((with_reducible refine gst ?_); refine wT hA ?_; clear hF hA; intro w1 hA hF; (try simp only [uZ] at hA hF)) | ((with_reducible refine gbx ?_); refine wC hA ?_; clear hF hA; intro b1 w1 hA hb1 hF; (try simp only [uZ] at hA hF)))
          try go_frame
          refine cl0 hA ?_; clear hF hA; intro w1 hA hF; (try simp only [uZ] at hA hF)
          go_wp2_with (first | ((with_reducible refine gst ?_); refine wT hA ?_; clear hF hA; intro w1 hA hF; (try simp only [uZ] at hA hF)) | ((with_reducible refine gbx ?_); refine wC hA ?_; clear hF hA; intro b1 w1 hA hb1 hF; (try simp only [uZ] at hA hF)))
          go_roundg (gk - 1)
          case measure => omega
          case rel =>
           refine ⟨3, ⟨z0, z1, z2, z3, z4, z5, z6, z7⟩, rfl, by omega, ?_, hA.pick pZ⟩
           have hx := hx'.out
           unfold MgI at hx ⊢
           simp only at hx ⊢
           omega
      · by_cases hc : z4 < y4
        · skip
          have hF := hA.facts; (try simp only [uZ] at hA hF)
          go_wp2_with (first | ((with_reducible refine gst ?_); refine wT hA ?_; clear hF hA; intro w1 hA hF; (try simp only [uZ] at hA hF)) | ((with_reducible refine gbx ?_); refine wC hA ?_; clear hF hA; intro b1 w1 hA hb1 hF; (try simp only [uZ] at hA hF)))
          try go_frame
          refine cl0 hA ?_; clear hF hA; intro w1 hA hF; (try simp only [uZ] at hA hF)
          go_wp2_with (first | ((with_reducible refine gst ?_); refine wT hA ?_; clear hF hA; intro w1 hA hF; (try simp only [uZ] at hA hF)) | ((with_reducible refine gbx ?_); refine wC hA ?_; clear hF hA; intro b1 w1 hA hb1 hF; (try simp only [uZ] at hA hF)))
          go_roundg (gk - 1)
          case measure => omega
          case rel =>
           refine ⟨4, ⟨z0, z1, z2, z3, y4, z5, z6, z7⟩, rfl, by omega, ?_, hA.pick pZ⟩
           have hx := hx'.out
           unfold MgI at hx ⊢
           simp only at hx ⊢
           omega
        · have hc0 : z4 ≥ y4 := by omega
          have hF := hA.facts; (try simp only [uZ] at hA hF)
          go_wp2_with (first | ((with_reducible refine gst ?_); refine wT hA ?_; clear hF hA; intro w1 hA hF; (try simp only [uZ] at hA hF)) | ((with_reducible refine gbx ?_); refine wC hA ?_; clear hF hA; intro b1 w1 hA hb1 hF; (try simp only [uZ] at hA hF)))
          try go_frame
          refine cl0 hA ?_; clear hF hA; intro w1 hA hF; (try simp only [uZ] at hA hF)
          go_wp2_with (first | ((with_reducible refine gst ?_); refine wT hA ?_; clear hF hA; intro w1 hA hF; (try simp only [uZ] at hA hF)) | ((with_reducible refine gbx ?_); refine wC hA ?_; clear hF hA; intro b1 w1 hA hb1 hF; (try simp only [uZ] at hA hF)))
          go_roundg (gk - 1)
          case measure => omega
          case rel =>
           refine ⟨4, ⟨z0, z1, z2, z3, z4, z5, z6, z7⟩, rfl, by omega, ?_, hA.pick pZ⟩
           have hx := hx'.out
           unfold MgI at hx ⊢
           simp only at hx ⊢
           omega
      · by_cases hc : z5 < y5
        · skip
          have hF := hA.facts; (try simp only [uZ] at hA hF)
          go_wp2_with (first | ((with_reducible refine gst ?_); refine wT hA ?_; clear hF hA; intro w1 hA hF; (try simp only [uZ] at hA hF)) | ((with_reducible refine gbx ?_); refine wC hA ?_; clear hF hA; intro b1 w1 hA hb1 hF; (try simp only [uZ] at hA hF)))
          try go_frame
          refine cl0 hA ?_; clear hF hA; intro w1 hA hF; (try simp only [uZ] at hA hF)
          go_wp2_with (first | ((with_reducible refine gst ?_); refine wT hA ?_; clear hF hA; intro w1 hA hF; (try simp only [uZ] at hA hF)) | ((with_reducible refine gbx ?_); refine wC hA ?_; clear hF hA; intro b1 w1 hA hb1 hF; (try simp only [uZ] at hA hF)))
          go_roundg (gk - 1)
          case measure => omega
          case rel =>
           refine ⟨5, ⟨z0, z1, z2, z3, z4, y5, z6, z7⟩, rfl, by omega, ?_, hA.pick pZ⟩
           have hx := hx'.out
           unfold MgI at hx ⊢
           simp only at hx ⊢
           omega
        · have hc0 : z5 ≥ y5 := by omega
          have hF := hA.facts; (try simp only [uZ] at hA hF)
          go_wp2_with (first | ((with_reducible refine gst ?_); refine wT hA ?_; clear hF hA; intro w1 hA hF; (try simp only [uZ] at hA hF)) | ((with_reducible refine gbx ?_); refine wC hA ?_; clear hF hA; intro b1 w1 hA hb1 hF; (try simp only [uZ] at hA hF)))
          try go_frame
          refine cl0 hA ?_; clear hF hA; intro w1 hA hF; (try simp only [uZ] at hA hF)
          go_wp2_with (first | ((with_reducible refine gst ?_); refine wT hA ?_; clear hF hA; intro w1 hA hF; (try simp only [uZ] at hA hF)) | ((with_reducible refine gbx ?_); refine wC hA ?_; clear hF hA; intro b1 w1 hA hb1 hF; (try simp only [uZ] at hA hF)))
          go_roundg (gk - 1)
          case measure => omega
          case rel =>
           refine ⟨5, ⟨z0, z1, z2, z3, z4, z5, z6, z7⟩, rfl, by omega, ?_, hA.pick pZ⟩
           have hx := hx'.out
           unfold MgI at hx ⊢
           simp only at hx ⊢
           omega
      · by_cases hc : z6 < y6
        · skip
          have hF := hA.facts; (try simp only [uZ] at hA hF)
          go_wp2_with (first | ((with_reducible refine gst ?_); refine wT hA ?_; clear hF hA; intro w1 hA hF; (try simp only [uZ] at hA hF)) | ((with_reducible refine gbx ?_); refine wC hA ?_; clear hF hA; intro b1 w1 hA hb1 hF; (try simp only [uZ] at hA hF)))
          try go_frame
          refine cl0 hA ?_; clear hF hA; intro w1 hA hF; (try simp only [uZ] at hA hF)
          go_wp2_with (first | ((with_reducible refine gst ?_); refine wT hA ?_; clear hF hA; intro w1 hA hF; (try simp only [uZ] at hA hF)) | ((with_reducible refine gbx ?_); refine wC hA ?_; clear hF hA; intro b1 w1 hA hb1 hF; (try simp only [uZ] at hA hF)))
          go_roundg (gk - 1)
          case measure => omega
          case rel =>
           refine ⟨6, ⟨z0, z1, z2, z3, z4, z5, y6, z7⟩, rfl, by omega, ?_, hA.pick pZ⟩
           have hx := hx'.out
           unfold MgI at hx ⊢
           simp only at hx ⊢
           omega
        · have hc0 : z6 ≥ y6 := by omega
          have hF := hA.facts; (try simp only [uZ] at hA hF)
          go_wp2_with (first | ((with_reducible refine gst ?_); refine wT hA ?_; clear hF hA; intro w1 hA hF; (try simp only [uZ] at hA hF)) | ((with_reducible refine gbx ?_); refine wC hA ?_; clear hF hA; intro b1 w1 hA hb1 hF; (try simp only [uZ] at hA hF)))
          try go_frame
          refine cl0 hA ?_; clear hF hA; intro w1 hA hF; (try simp only [uZ] at hA hF)
          go_wp2_with (first | ((with_reducible refine gst ?_); refine wT hA ?_; clear hF hA; intro w1 hA hF; (try simp only [uZ] at hA hF)) | ((with_reducible refine gbx ?_); refine wC hA ?_; clear hF hA; intro b1 w1 hA hb1 hF; (try simp only [uZ] at hA hF)))
          go_roundg (gk - 1)
          case measure => omega
          case rel =>
           refine ⟨6, ⟨z0, z1, z2, z3, z4, z5, z6, z7⟩, rfl, by omega, ?_, hA.pick pZ⟩
           have hx := hx'.out
           unfold MgI at hx ⊢
           simp only at hx ⊢
           omega
      · by_cases hc : z7 < y7
        · skip
          have hF := hA.facts; (try simp only [uZ] at hA hF)
          go_wp2_with (first | ((with_reducible refine gst ?_); refine wT hA ?_; clear hF hA; intro w1 hA hF; (try simp only [uZ] at hA hF)) | ((with_reducible refine gbx ?_); refine wC hA ?_; clear hF hA; intro b1 w1 hA hb1 hF; (try simp only [uZ] at hA hF)))
          try go_frame
          refine cl0 hA ?_; clear hF hA; intro w1 hA hF; (try simp only [uZ] at hA hF)
          go_wp2_with (first | ((with_reducible refine gst ?_); refine wT hA ?_; clear hF hA; intro w1 hA hF; (try simp only [uZ] at hA hF)) | ((with_reducible refine gbx ?_); refine wC hA ?_; clear hF hA; intro b1 w1 hA hb1 hF; (try simp only [uZ] at hA hF)))
          go_roundg (gk - 1)
          case measure => omega
          case rel =>
           refine ⟨7, ⟨z0, z1, z2, z3, z4, z5, z6, y7⟩, rfl, by omega, ?_, hA.pick pZ⟩
           have hx := hx'.out
           unfold MgI at hx ⊢
           simp only at hx ⊢
           omega
        · have hc0 : z7 ≥ y7 := by omega
          have hF := hA.facts; (try simp only [uZ] at hA hF)
          go_wp2_with (first | ((with_reducible refine gst ?_); refine wT hA ?_; clear hF hA; intro w1 hA hF; (try simp only [uZ] at hA hF)) | ((with_reducible refine gbx ?_); refine wC hA ?_; clear hF hA; intro b1 w1 hA hb1 hF; (try simp only [uZ] at hA hF)))
          try go_frame
          refine cl0 hA ?_; clear hF hA; intro w1 hA hF; (try simp only [uZ] at hA hF)
          go_wp2_with (first | ((with_reducible refine gst ?_); refine wT hA ?_; clear hF hA; intro w1 hA hF; (try simp only [uZ] at hA hF)) | ((with_reducible refine gbx ?_); refine wC hA ?_; clear hF hA; intro b1 w1 hA hb1 hF; (try simp only [uZ] at hA hF)))
          go_roundg (gk - 1)
          case measure => omega
          case rel =>
           refine ⟨7, ⟨z0, z1, z2, z3, z4, z5, z6, z7⟩, rfl, by omega, ?_, hA.pick pZ⟩
           have hx := hx'.out
           unfold MgI at hx ⊢
           simp only at hx ⊢
           omega
    · skip
      have hx' := Lib.hid hx
      clear hx
      obtain ⟨z0, z1, z2, z3, z4, z5, z6, z7⟩ := x
      simp only [A8.cells, A8.zero] at hA
      have hF := hA.facts; (try simp only [uZ] at hA hF)
      go_wp2_with (first | ((with_reducible refine gst ?_); refine wT hA ?_; clear hF hA; intro w1 hA hF; (try simp only [uZ] at hA hF)) | ((with_reducible refine gbx ?_); refine wC hA ?_; clear hF hA; intro b1 w1 hA hb1 hF; (try simp only [uZ] at hA hF)))
      have e : A8.merge ⟨x0, x1, x2, x3, x4, x5, x6, x7⟩ ⟨y0, y1, y2, y3, y4, y5, y6, y7⟩ = ⟨z0, z1, z2, z3, z4, z5, z6, z7⟩ := by
       have hx := hx'.out
       unfold MgI at hx
       simp only at hx
       unfold A8.merge
       simp only [A8.mk.injEq]
       omega
      rw [e]
      refine bodyPost_ret (v := .agg #[.int .i64 z0, .int .i64 z1, .int .i64 z2, .int .i64 z3, .int .i64 z4, .int .i64 z5, .int .i64 z6, .int .i64 z7]) (by simp [results, Tryz.results26, go_sem, hF]) rfl ⟨rfl, hA.toExt⟩
end Go.Proofs.YtgbpfgdjnhbcgaaGreatDoor.Ix
end
section
namespace Go.Proofs.YtgbpfgdjnhbcgaaGreatDoor.Path
open Go.RowKit
theorem partsR_right {s : ByteArray} (w : World) (hs : s.size ≤ 2000000) (hr : rightB (bl s) = true) : Calls Tryz.prog 70 #[.string s] w fun e w' => ∃ (v : Value) (ws : List ByteArray), e = .returned (.tuple #[v, .int .i64 0]) ∧ At [] w [rowS v ws] w' ∧ splits (bl s) = ws.map bl :=
 (partsR_any s w hs).mono fun e w' ⟨v, ws, he, hT, hres, hl⟩ => by
  have h1 := parts_right hr
  rcases hres with h | ⟨h, _⟩
  · rw [h1] at h
    rw [h1] at he
    exact ⟨v, ws, he, hT, Option.some.inj h⟩
  · rw [h1] at h; cases h
theorem rightR_is {s : ByteArray} {b : Bool} (w : World) (hs : s.size ≤ 2000000) (hb : rightB (bl s) = b) : Calls Tryz.prog 24 #[.string s] w fun e w' => e = .returned (.bool b) ∧ Ext w w' := hb ▸ rightR_any s w hs
def RPartsP (s : ByteArray) (w : World) (e : Ending) (w' : World) : Prop := ∃ (v : Value) (ws : List ByteArray), e = .returned (.tuple #[v, .int .i64 0]) ∧ At [] w [rowS v ws] w' ∧ splits (bl s) = ws.map bl
def AboveRel (w : World) (g1 g2 : Nat) (c1 c2 : List Value) (ws us : List ByteArray) (k : Nat) (u9 : Value) (wr : World) : Prop :=
 ∃ i : Nat, u9 = .int .i64 i ∧ i + k = ws.length ∧ At [] w [Part.cells g1 c1 9, Part.cells g2 c2 9] wr ∧ ∀ j, j < i → (us.map bl)[j]? = (ws.map bl)[j]?
theorem aboveR_any (p q : ByteArray) (w : World) (hp : p.size ≤ 2000000) (hq : q.size ≤ 2000000) : Calls Tryz.prog 63 #[.string p, .string q] w fun e w' => e = .returned (.bool (aboveB (bl p) (bl q))) ∧ Ext w w' := by
 have hA := At.start (w0 := w) (L0 := []) trivial
 have hF := hA.facts
 cases h1 : rightB (bl p)
 · have hb := Lib.hid (show aboveB (bl p) (bl q) = false by simp [aboveB, h1])
   go_enter Tryz.func63, Tryz.ntmps63
   go_wp2_with fail
   refine (rightR_is w hp h1).mono ?_
   rintro e w1 ⟨rfl, hx⟩
   go_wp2_with fail
   go_ret
   exact ⟨by rw [hb.out]; rfl, hx⟩
 · cases h2 : rightB (bl q)
   · have hb := Lib.hid (show aboveB (bl p) (bl q) = false by simp [aboveB, h1, h2])
     go_enter Tryz.func63, Tryz.ntmps63
     go_wp2_with fail
     refine (rightR_is w hp h1).mono ?_
     rintro e w1 ⟨rfl, hx⟩
     go_wp2_with fail
     refine (rightR_is w1 hq h2).mono ?_
     rintro e w2 ⟨rfl, hx2⟩
     go_wp2_with fail
     go_ret
     exact ⟨by rw [hb.out]; rfl, hx.trans hx2⟩
   · have hab : aboveB (bl p) (bl q) = decide (splits (bl p) <+: splits (bl q)) := by rw [aboveB_parts, h1, h2]; simp
     have hq2 : ∀ w, Calls Tryz.prog 70 #[.string q] w (RPartsP q w) := fun w => partsR_right w (by omega) h2
     have hp2 : ∀ w, Calls Tryz.prog 70 #[.string p] w (RPartsP p w) := fun w => partsR_right w (by omega) h1
     go_enter Tryz.func63, Tryz.ntmps63
     go_wp2_with fail
     refine (rightR_is w hp h1).mono ?_
     rintro e w1 ⟨rfl, hx⟩
     go_wp2_with fail
     refine (rightR_is w1 hq h2).mono ?_
     rintro e w2 ⟨rfl, hx2⟩
     have hB := (hA.ext hx).ext hx2
     clear hF hA hx hx2; have hA := hB; clear hB
     go_wp2_with fail
     refine (hp2 w2).mono ?_
     clear hp2
     rintro e w3 ⟨v, ws, rfl, hT, hws⟩
     have hB := hA.call0 hT
     clear hA hT; have hA := hB; clear hB
     simp only [List.append_nil] at hA
     go_wp2_with fail
     refine (hq2 w3).mono ?_
     clear hq2
     rintro e w4 ⟨u, us, rfl, hT, hus⟩
     have hB := hA.call0 hT
     clear hA hT; have hA := hB; clear hB
     simp only [uA] at hA
     have n1 := splits_len (bl p)
     have n2 := splits_len (bl q)
     have m1 := splits_len_le (bl p)
     have m2 := splits_len_le (bl q)
     rw [hws] at hab n1 m1
     rw [hus] at hab n2 m2
     simp only [List.length_map] at n1 n2 m1 m2
     have z1 : (bl p).length = p.size := by simp
     have z2 : (bl q).length = q.size := by simp
     rw [z1] at m1
     rw [z2] at m2
     clear hws hus h1 h2 z1 z2
     obtain ⟨ax, cap, rfl, _, _, _⟩ := hA.row_form (v := v) (n := ws.length) (xs := flatS ws) sR
     obtain ⟨bx, cbp, rfl, _, _, _⟩ := hA.row_form (v := u) (n := us.length) (xs := flatS us) sR
     obtain ⟨g1, c1, rfl, _, _, hcl1, hct1, hB⟩ := hA.row_open (ax := ax) (cap := cap) (n := ws.length) (xs := flatS ws) sR (by omega)
     obtain ⟨g2, c2, rfl, _, _, hcl2, hct2, hB2⟩ := hB.row_open (ax := bx) (cap := cbp) (n := us.length) (xs := flatS us) sR (by omega)
     have x1 := Lib.hid (fun (j : Nat) (x : ByteArray) (hx : ws[j]? = some x) => flatS_at hct1 hx)
     have x2 := Lib.hid (fun (j : Nat) (x : ByteArray) (hx : us[j]? = some x) => flatS_at hct2 hx)
     clear hA hB hct1 hct2 hcl1 hcl2
     have hA := hB2
     clear hB2
     have hab' := Lib.hid hab
     clear hab
     have hF := hA.facts; (try simp only [uZ] at hA hF)
     by_cases hl : us.length < ws.length
     · have hb : aboveB (bl p) (bl q) = false := by
        rw [hab'.out, decide_eq_false_iff_not]
        intro h
        have := h.length_le
        simp at this
        omega
       have hb' := Lib.hid hb
       clear hb
       go_wp2_with fail
       go_ret
       exact ⟨by rw [hb'.out]; rfl, hA.toExt⟩
     · go_wp2_with fail
       go_loopg [9] ws.length (AboveRel w g1 g2 c1 c2 ws us)
       case atStart => exact ⟨0, rfl, by simp, hA.pick (by with_reducible repeat (first | exact Picks.nil | refine Picks.cons sR ?_)), nofun⟩
       case round =>
        obtain ⟨i, rfl, hk, hB, heq⟩ := hrel
        clear hF hA; have hA := hB; clear hB
        by_cases hi : i < ws.length
        · have hj : i < us.length := by omega
          have c1i : c1[i]? = some (.string ws[i]) := x1.out i _ (List.getElem?_eq_getElem hi)
          have c2i : c2[i]? = some (.string us[i]) := x2.out i _ (List.getElem?_eq_getElem hj)
          have hw1 : (ws.map bl)[i]? = some (bl ws[i]) := by simp [hi]
          have hw2 : (us.map bl)[i]? = some (bl us[i]) := by simp [hj]
          generalize ws[i] = x at *
          generalize us[i] = y at *
          have hxy := eqB x y
          have heq' := Lib.hid heq
          have hF := hA.facts; (try simp only [uZ] at hA hF)
          by_cases hc : bl x = bl y
          · rw [decide_eq_true hc] at hxy
            have hc' := Lib.hid hc
            have hw1' := Lib.hid hw1
            have hw2' := Lib.hid hw2
            clear hc hw1 hw2 heq
            go_wp2_with fail
            refine cl6 hA ?_; clear hF hA; intro w1 hA hF; (try simp only [uZ] at hA hF)
            go_wp2_with fail
            go_roundg (gk - 1)
            case measure => omega
            case rel =>
             refine ⟨i + 1, by simp, by omega, hA, fun j hj => ?_⟩
             by_cases e : j = i
             · subst e; rw [hw1'.out, hw2'.out, hc'.out]
             · exact heq'.out j (by omega)
          · rw [decide_eq_false hc] at hxy
            have hb : aboveB (bl p) (bl q) = false := by
             rw [hab'.out, decide_eq_false_iff_not]
             intro h
             have h3 := List.prefix_iff_getElem?.1 h i (by simpa using hi)
             rw [hw2] at h3
             have h4 := List.getElem?_eq_some_iff.1 hw1
             obtain ⟨_, h4⟩ := h4
             rw [h4] at h3
             exact hc (Option.some.inj h3).symm
            have hb' := Lib.hid hb
            clear hc hw1 hw2 heq hb
            go_wp2_with fail
            refine cl6 hA ?_; clear hF hA; intro w1 hA hF; (try simp only [uZ] at hA hF)
            go_wp2_with fail
            go_ret
            exact ⟨by rw [hb'.out]; rfl, hA.toExt⟩
        · have hb : aboveB (bl p) (bl q) = true := by
           rw [hab'.out, decide_eq_true_eq]
           refine List.prefix_iff_getElem?.2 fun j hj => ?_
           rw [heq j (by simp at hj; omega)]
           exact List.getElem?_eq_getElem hj
          have hb' := Lib.hid hb
          clear hb heq
          have hF := hA.facts; (try simp only [uZ] at hA hF)
          go_wp2_with fail
          go_ret
          exact ⟨by rw [hb'.out]; rfl, hA.toExt⟩
theorem overlapR_any (p q : ByteArray) (w : World) (hp : p.size ≤ 2000000) (hq : q.size ≤ 2000000) : Calls Tryz.prog 40 #[.string p, .string q] w fun e w' => e = .returned (.bool (overB (bl p) (bl q))) ∧ Ext w w' := by
 have h1 := aboveR_any p q w hp hq
 have h2 := fun w => aboveR_any q p w hq hp
 have ho : overB (bl p) (bl q) = (aboveB (bl p) (bl q) || aboveB (bl q) (bl p)) := rfl
 rw [ho]
 clear ho
 generalize aboveB (bl p) (bl q) = b1 at *
 generalize aboveB (bl q) (bl p) = b2 at *
 cases b1
 · go_enter Tryz.func40, Tryz.ntmps40
   go_wp2_with fail
   refine h1.mono ?_
   clear h1
   rintro e w1 ⟨rfl, hx⟩
   go_wp2_with fail
   refine (h2 w1).mono ?_
   clear h2
   rintro e w2 ⟨rfl, hx2⟩
   cases b2
   all_goals
    go_wp2_with fail
    go_ret
    exact ⟨rfl, hx.trans hx2⟩
 · go_enter Tryz.func40, Tryz.ntmps40
   go_wp2_with fail
   refine h1.mono ?_
   clear h1
   rintro e w1 ⟨rfl, hx⟩
   go_wp2_with fail
   go_ret
   exact ⟨rfl, hx⟩
end Go.Proofs.YtgbpfgdjnhbcgaaGreatDoor.Path
end
