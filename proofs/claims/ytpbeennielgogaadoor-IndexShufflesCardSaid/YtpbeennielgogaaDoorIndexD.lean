/- The walk of an index' Add. -/
import Derived.Test.YtpbeennielgogaaDoorIndexW
namespace Go.Proofs.YtpbeennielgogaaDoor.Ix
open Go.RowKit
open Go.Maps (Keyed)
open Path (bl rightB overB)
open Attr (A8 rightI)
open Cmd (Cm keyC footC through0)
set_option linter.unusedSimpArgs false
set_option linter.unusedVariables false
attribute [-go_sem] run_eql_struct run_neq_struct run_eqGuard_agg

def En.val (e : En) : Value := .agg #[.string e.foot, .int .u64 e.num, .int .i64 e.a.s, .int .i64 e.a.d0, .int .i64 e.a.d1, .int .i64 e.a.d2, .int .i64 e.a.d3, .int .i64 e.a.d4, .int .i64 e.a.d5, .int .i64 e.a.d6]
def En.ok (e : En) : Bool := rightB (bl e.foot) && e.a.right
set_option maxRecDepth 100000 in
set_option maxHeartbeats 4000000 in
theorem add_any {w : World} {p m : Nat} {es : List En} (h : Sep [IxP p m es] w) (e : En) (hf : e.foot.size ≤ 1000) (h0 : 0 ≤ e.num) (h1 : e.num < big64) :
    Calls Tryd.prog 21 #[.pointer (some ⟨p, 0, none⟩), e.val] w fun o w' => o = .returned (.int .i64 (if e.ok then 0 else 10)) ∧ At [IxP p m es] w [IxP p m (addE es e.foot e.num e.a)] w' := by
  have hA := begin0 h
  have hF := hA.facts
  clear h
  obtain ⟨f, n, v⟩ := e
  simp only at hf h0 h1
  have hpr := fun w => Path.right_any f w (by omega)
  have har := fun w => Attr.right_any v w
  unfold En.ok addE
  simp only
  obtain ⟨rf, hrf⟩ : ∃ x, rightB (bl f) = x := ⟨_, rfl⟩
  obtain ⟨ar, har0⟩ : ∃ x, v.right = x := ⟨_, rfl⟩
  rw [hrf] at hpr
  rw [har0] at har
  rw [hrf, har0]
  clear hrf har0
  obtain ⟨kl, hkl⟩ := keyK (f := f) (n := n) (by unfold maxLen; omega) h0 h1
  unfold keyV at hkl
  obtain ⟨old, hold0⟩ : ∃ old, ((find es f n).map (·.a)).getD A8.zero = old := ⟨_, rfl⟩
  have hold := Lib.hid hold0
  have hmg := fun w => Attr.merge_any old v w
  obtain ⟨mg, hmgd⟩ : ∃ mg, old.merge v = mg := ⟨_, rfl⟩
  have hmg' := Lib.hid hmgd
  rw [hmgd] at hmg
  clear hold0 hmgd
  obtain ⟨a0, a1, a2, a3, a4, a5, a6, a7⟩ := v
  obtain ⟨o0, o1, o2, o3, o4, o5, o6, o7⟩ := old
  obtain ⟨g0, g1, g2, g3, g4, g5, g6, g7⟩ := mg
  simp only [A8.val] at hmg har
  simp only [En.val]
  (try simp only [uA] at hA); have hF := hA.facts; (try simp only [fA, and_true, true_and] at hF)
  cases rf
  · simp only [Bool.false_and, Bool.false_eq_true, if_false]
    go_enter Tryd.func21, Tryd.ntmps21
    go_wp2_with (first | ((with_reducible refine gbx ?_); refine wX 42 (.agg #[.string f, .int .u64 n, .int .i64 a0, .int .i64 a1, .int .i64 a2, .int .i64 a3, .int .i64 a4, .int .i64 a5, .int .i64 a6, .int .i64 a7]) [.string f, .int .u64 n, .int .i64 a0, .int .i64 a1, .int .i64 a2, .int .i64 a3, .int .i64 a4, .int .i64 a5, .int .i64 a6, .int .i64 a7] hA ?_; clear hF hA; intro bE w1 hA hbE; (try simp only [uA] at hA); have hF := hA.facts; (try simp only [fA, and_true, true_and] at hF)) | ((with_reducible refine gst ?_); refine wS hA ?_; clear hF hA; intro w1 hA; (try simp only [uA] at hA); have hF := hA.facts; (try simp only [fA, and_true, true_and] at hF)) | ((with_reducible refine gbx ?_); refine wB hA ?_; clear hF hA; intro b1 w1 hA hb1; (try simp only [uA] at hA); have hF := hA.facts; (try simp only [fA, and_true, true_and] at hF)))
    refine (hpr _).mono ?_
    clear hpr
    rintro e w1 ⟨rfl, hx⟩
    have hB := hA.ext hx
    clear hF hA hx
    have hA := hB
    clear hB
    have hF := hA.facts
    (try simp only [uA] at hA); have hF := hA.facts; (try simp only [fA, and_true, true_and] at hF)
    go_wp2_with (first | ((with_reducible refine gst ?_); refine wS hA ?_; clear hF hA; intro w1 hA; (try simp only [uA] at hA); have hF := hA.facts; (try simp only [fA, and_true, true_and] at hF)) | ((with_reducible refine gbx ?_); refine wB hA ?_; clear hF hA; intro b1 w1 hA hb1; (try simp only [uA] at hA); have hF := hA.facts; (try simp only [fA, and_true, true_and] at hF)))
    go_ret
    exact ⟨rfl, close0 hA (by with_reducible repeat (first | exact Sel.here | apply Sel.there)) (by with_reducible repeat (first | exact Sel.here | apply Sel.there))⟩
  · cases ar
    · simp only [Bool.and_false, Bool.false_eq_true, if_false]
      go_enter Tryd.func21, Tryd.ntmps21
      go_wp2_with (first | ((with_reducible refine gbx ?_); refine wX 42 (.agg #[.string f, .int .u64 n, .int .i64 a0, .int .i64 a1, .int .i64 a2, .int .i64 a3, .int .i64 a4, .int .i64 a5, .int .i64 a6, .int .i64 a7]) [.string f, .int .u64 n, .int .i64 a0, .int .i64 a1, .int .i64 a2, .int .i64 a3, .int .i64 a4, .int .i64 a5, .int .i64 a6, .int .i64 a7] hA ?_; clear hF hA; intro bE w1 hA hbE; (try simp only [uA] at hA); have hF := hA.facts; (try simp only [fA, and_true, true_and] at hF)) | ((with_reducible refine gst ?_); refine wS hA ?_; clear hF hA; intro w1 hA; (try simp only [uA] at hA); have hF := hA.facts; (try simp only [fA, and_true, true_and] at hF)) | ((with_reducible refine gbx ?_); refine wB hA ?_; clear hF hA; intro b1 w1 hA hb1; (try simp only [uA] at hA); have hF := hA.facts; (try simp only [fA, and_true, true_and] at hF)))
      refine (hpr _).mono ?_
      clear hpr
      rintro e w1 ⟨rfl, hx⟩
      have hB := hA.ext hx
      clear hF hA hx
      have hA := hB
      clear hB
      have hF := hA.facts
      (try simp only [uA] at hA); have hF := hA.facts; (try simp only [fA, and_true, true_and] at hF)
      go_wp2_with (first | ((with_reducible refine gst ?_); refine wS hA ?_; clear hF hA; intro w1 hA; (try simp only [uA] at hA); have hF := hA.facts; (try simp only [fA, and_true, true_and] at hF)) | ((with_reducible refine gbx ?_); refine wB hA ?_; clear hF hA; intro b1 w1 hA hb1; (try simp only [uA] at hA); have hF := hA.facts; (try simp only [fA, and_true, true_and] at hF)))
      refine (har _).mono ?_
      clear har
      rintro e w1 ⟨rfl, hx⟩
      have hB := hA.ext hx
      clear hF hA hx
      have hA := hB
      clear hB
      have hF := hA.facts
      (try simp only [uA] at hA); have hF := hA.facts; (try simp only [fA, and_true, true_and] at hF)
      go_wp2_with (first | ((with_reducible refine gst ?_); refine wS hA ?_; clear hF hA; intro w1 hA; (try simp only [uA] at hA); have hF := hA.facts; (try simp only [fA, and_true, true_and] at hF)) | ((with_reducible refine gbx ?_); refine wB hA ?_; clear hF hA; intro b1 w1 hA hb1; (try simp only [uA] at hA); have hF := hA.facts; (try simp only [fA, and_true, true_and] at hF)))
      go_ret
      exact ⟨rfl, close0 hA (by with_reducible repeat (first | exact Sel.here | apply Sel.there)) (by with_reducible repeat (first | exact Sel.here | apply Sel.there))⟩
    · simp only [Bool.and_true, if_true]
      go_enter Tryd.func21, Tryd.ntmps21
      go_wp2_with (first | ((with_reducible refine gbx ?_); refine wX 42 (.agg #[.string f, .int .u64 n, .int .i64 a0, .int .i64 a1, .int .i64 a2, .int .i64 a3, .int .i64 a4, .int .i64 a5, .int .i64 a6, .int .i64 a7]) [.string f, .int .u64 n, .int .i64 a0, .int .i64 a1, .int .i64 a2, .int .i64 a3, .int .i64 a4, .int .i64 a5, .int .i64 a6, .int .i64 a7] hA ?_; clear hF hA; intro bE w1 hA hbE; (try simp only [uA] at hA); have hF := hA.facts; (try simp only [fA, and_true, true_and] at hF)) | ((with_reducible refine gst ?_); refine wS hA ?_; clear hF hA; intro w1 hA; (try simp only [uA] at hA); have hF := hA.facts; (try simp only [fA, and_true, true_and] at hF)) | ((with_reducible refine gbx ?_); refine wB hA ?_; clear hF hA; intro b1 w1 hA hb1; (try simp only [uA] at hA); have hF := hA.facts; (try simp only [fA, and_true, true_and] at hF)))
      refine (hpr _).mono ?_
      clear hpr
      rintro e w1 ⟨rfl, hx⟩
      have hB := hA.ext hx
      clear hF hA hx
      have hA := hB
      clear hB
      have hF := hA.facts
      (try simp only [uA] at hA); have hF := hA.facts; (try simp only [fA, and_true, true_and] at hF)
      go_wp2_with (first | ((with_reducible refine gst ?_); refine wS hA ?_; clear hF hA; intro w1 hA; (try simp only [uA] at hA); have hF := hA.facts; (try simp only [fA, and_true, true_and] at hF)) | ((with_reducible refine gbx ?_); refine wB hA ?_; clear hF hA; intro b1 w1 hA hb1; (try simp only [uA] at hA); have hF := hA.facts; (try simp only [fA, and_true, true_and] at hF)))
      refine (har _).mono ?_
      clear har
      rintro e w1 ⟨rfl, hx⟩
      have hB := hA.ext hx
      clear hF hA hx
      have hA := hB
      clear hB
      have hF := hA.facts
      (try simp only [uA] at hA); have hF := hA.facts; (try simp only [fA, and_true, true_and] at hF)
      go_wp2_with (first | ((with_reducible refine gst ?_); refine wS hA ?_; clear hF hA; intro w1 hA; (try simp only [uA] at hA); have hF := hA.facts; (try simp only [fA, and_true, true_and] at hF)) | ((with_reducible refine gbx ?_); refine wB hA ?_; clear hF hA; intro b1 w1 hA hb1; (try simp only [uA] at hA); have hF := hA.facts; (try simp only [fA, and_true, true_and] at hF)))
      try go_frame
      (refine wp_region_head 16 (Cl _ _ _) (by kernel_rfl) (by kernel_rfl) (Cl.drew hA) ?_); (simp only [List.take_succ_cons, List.take_zero, List.drop_succ_cons, List.drop_zero]); (have hn1 := Cl.none hA); (have hn2 := Cl.none2 hA); (repeat (first | go_big_quiet_skip | (go_big_quiet_want; (first | (refine quiet_loads_at (ty := 37) (n := 2) rfl rfl (by with_reducible repeat (first | exact Sel.here | apply Sel.there)) (by kernel_rfl) (by kernel_rfl) (by first | assumption | ((try simp only [List.drop_succ_cons, List.drop_zero, List.take_succ_cons, List.take_zero]) <;> exact rfl)) (by exact rfl) ?_; go_frame; go_big_quiet_on) | (refine quiet_loads_at (ty := 40) (n := 8) rfl rfl (by with_reducible repeat (first | exact Sel.here | apply Sel.there)) (by kernel_rfl) (by kernel_rfl) (by first | assumption | ((try simp only [List.drop_succ_cons, List.drop_zero, List.take_succ_cons, List.take_zero]) <;> exact rfl)) (by exact rfl) ?_; go_frame; go_big_quiet_on) | (refine quiet_find_at rfl (by (try simp only [Act.eval, eV]) <;> exact rfl) (by (try simp only [Act.eval, eV]) <;> exact rfl) (k := 37) (es := es) (f := f) (n := n) (by with_reducible repeat (first | exact Sel.here | apply Sel.there)) lawK Tryd.underlying57 hkl (fun _ => by kernel_rfl) hold.out ?_; go_frame; go_big_quiet_on) | (refine quiet_load_at rfl rfl (by with_reducible repeat (first | exact Sel.here | apply Sel.there)) (by kernel_rfl) (by first | assumption | exact rfl) ?_; go_frame; go_big_quiet_on) | (go_big_quiet_op; (first | go_big_quiet_on | ((apply Exists.intro); (refine ⟨fun w1 hw => ?_, ?_⟩); (focus ((have hw := Cl.out hw); (exact through0 hw (hmg _)))); (go_big_quiet_on))))))))
      (refine wpQuiet_nil ?_); (intro w1 hB); (clear hF hA hn1 hn2); (have hA := Cl.out hB); (clear hB); (try simp only [uA] at hA); have hF := hA.facts; (try simp only [fA, and_true, true_and] at hF)
      go_wp2_with (first | (refine wpList_mergeE_at (k := 37) (es := es) (f := f) (n := n) (v := ⟨a0, a1, a2, a3, a4, a5, a6, a7⟩) rfl rfl (by (try simp only [Act.eval, eV]) <;> exact rfl) (by (try simp only [Act.eval, eV]) <;> exact rfl) (by rw [hold.out, hmg'.out]; exact rfl) hA (by with_reducible repeat (first | exact Sel.here | apply Sel.there)) lawK Tryd.underlying57 hkl ?_; intro w1 hB; clear hF hA; have hA := hB; clear hB; (try simp only [uA] at hA); have hF := hA.facts; (try simp only [fA, and_true, true_and] at hF)) | ((with_reducible refine gst ?_); refine wS hA ?_; clear hF hA; intro w1 hA; (try simp only [uA] at hA); have hF := hA.facts; (try simp only [fA, and_true, true_and] at hF)) | ((with_reducible refine gbx ?_); refine wB hA ?_; clear hF hA; intro b1 w1 hA hb1; (try simp only [uA] at hA); have hF := hA.facts; (try simp only [fA, and_true, true_and] at hF)))
      go_ret
      exact ⟨rfl, close0 hA (by with_reducible repeat (first | exact Sel.here | apply Sel.there)) (by with_reducible repeat (first | exact Sel.here | apply Sel.there))⟩
end Go.Proofs.YtpbeennielgogaaDoor.Ix
