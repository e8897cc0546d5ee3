/- GraW, joined. -/
import Derived.Test.YtgicohkmfbbbdaaK7
import Derived.Test.YtgicohkmfbbbdaaK3
import Derived.Test.YtgicohkmfbbbdaaK5
import Derived.Deep.LoopGhost
import Derived.Deep.Cut
import Derived.Deep.QuietTactic
import Derived.BigQuiet
section
namespace Go.Proofs.Ytgicohkmfbbbdaa.Gr
open Go.RowKit
open Go.Maps (Keyed)
open Attr (A8 rightI thro guardB guardB_at eqlB_at neqB_at)
set_option linter.unusedSimpArgs false
set_option linter.unusedVariables false
attribute [-go_sem] run_eql_struct run_neq_struct run_eqGuard_agg
attribute [local go_sem] guardB_at eqlB_at neqB_at

def NewPost (w : World) (e : Ending) (w' : World) : Prop := ∃ p m, e = .returned (.pointer (some ⟨p, 0, none⟩)) ∧ At [] w [GrP p m []] w'
set_option maxRecDepth 100000 in
theorem new_any (w : World) : Calls Try.prog 35 #[] w (NewPost w) := by
  have hA : At [] w [] w := At.start (L0 := []) trivial
  have hF := hA.facts
  go_enter Try.func35, Try.ntmps35
  go_wp2_with (first | ((with_reducible refine gbx ?_); refine wB (E := 84) hA ?_; clear hF hA; intro p w1 hA hp; (try simp only [uA] at hA); have hF := hA.facts; (try simp only [fZ] at hF)) | ((with_reducible refine gst ?_); refine wS hA ?_; clear hF hA; intro w1 hA; (try simp only [uA] at hA); have hF := hA.facts; (try simp only [fZ] at hF)) | ((with_reducible refine gbx ?_); refine wB hA ?_; clear hF hA; intro b1 w1 hA hb1; (try simp only [uA] at hA); have hF := hA.facts; (try simp only [fZ] at hF)) | (refine wpList_makeMap_at Try.prog 38 rfl rfl hA ?_; intro m w1 hB hm; clear hF hA; have hA := hB; clear hB; (try simp only [uA] at hA); have hF := hA.facts; (try simp only [fZ] at hF)))
  go_ret
  exact ⟨p, m, rfl, close0 (es := []) hA sZ sZ⟩
set_option maxRecDepth 100000 in
theorem count_any {w : World} {p m : Nat} {es : List (I2 × A8)} (h : Sep [GrP p m es] w) : Calls Try.prog 39 #[.pointer (some ⟨p, 0, none⟩)] w fun e w' => e = .returned (.int .i64 es.length) ∧ At [GrP p m es] w [GrP p m es] w' := by
  have hA := begin0 h
  have hF := hA.facts
  have hel : (ents es).length = es.length := by simp [ents]
  clear h
  (try simp only [uA] at hA); have hF := hA.facts; (try simp only [fZ] at hF)
  go_enter Try.func39, Try.ntmps39
  go_wp2_with (first | ((with_reducible refine gst ?_); refine wS hA ?_; clear hF hA; intro w1 hA; (try simp only [uA] at hA); have hF := hA.facts; (try simp only [fZ] at hF)) | ((with_reducible refine gbx ?_); refine wB hA ?_; clear hF hA; intro b1 w1 hA hb1; (try simp only [uA] at hA); have hF := hA.facts; (try simp only [fZ] at hF)) | (refine wpList_len_map_at rfl rfl (by (try simp only [Act.eval, eV]) <;> exact rfl) hA (k := 38) (es := ents es) sR Try.underlying82 ?_))
  go_ret
  exact ⟨rfl, close0 hA sR sR⟩
set_option maxRecDepth 100000 in
set_option maxHeartbeats 1000000 in
theorem has_any {w : World} {p m : Nat} {es : List (I2 × A8)} (h : Sep [GrP p m es] w) (x : I2) (hx : okD x) : Calls Try.prog 16 #[.pointer (some ⟨p, 0, none⟩), idV x] w fun e w' => e = .returned (.bool (getA es x).isSome) ∧ At [GrP p m es] w [GrP p m es] w' := by
  have hA := begin0 h
  have hF := hA.facts
  obtain ⟨kl, hk⟩ := keyI hx
  clear h hx
  cases hg : getA es x with
  | none =>
    have hq := Lib.hid hg
    clear hg
    obtain ⟨r, t⟩ := x
    simp only [idV] at *
    (try simp only [uA] at hA); have hF := hA.facts; (try simp only [fZ] at hF)
    go_enter Try.func16, Try.ntmps16
    go_wp2_with (first | ((with_reducible refine gbx ?_); refine wX 38 (.agg #[.int .i64 r, .int .i64 t]) [.int .i64 r, .int .i64 t] hA ?_; clear hF hA; intro bI w1 hA hbI; (try simp only [uA] at hA); have hF := hA.facts; (try simp only [fZ] at hF)) | ((with_reducible refine gst ?_); refine wS hA ?_; clear hF hA; intro w1 hA; (try simp only [uA] at hA); have hF := hA.facts; (try simp only [fZ] at hF)) | ((with_reducible refine gbx ?_); refine wB hA ?_; clear hF hA; intro b1 w1 hA hb1; (try simp only [uA] at hA); have hF := hA.facts; (try simp only [fZ] at hF)))
    try go_frame
    (refine wp_region_new (a1 := ?a1_q1) (v := ?v_q1) 9 5 65 _ (.agg #[.int .i64 0, .int .i64 0, .int .i64 0, .int .i64 0, .int .i64 0, .int .i64 0, .int .i64 0, .int .i64 0]) [.int .i64 0, .int .i64 0, .int .i64 0, .int .i64 0, .int .i64 0, .int .i64 0, .int .i64 0, .int .i64 0] ([.int .i64 0, .int .i64 0, .int .i64 0, .int .i64 0, .int .i64 0, .int .i64 0, .int .i64 0, .int .i64 0]) (by kernel_rfl) (by kernel_rfl) rfl rfl ?hyd_q1 (by kernel_rfl) rfl hA ?h1_q1 ?hd_q1 ?hy_q1 ?hu_q1 ?hsz_q1 ?hus_q1 ?hl_q1 ?h2_q1); (case h1_q1 => (intro R wR hR; (try clear hF); (simp only [List.take_succ_cons, List.take_zero, List.drop_succ_cons, List.drop_zero]); (have hn1 := Cl.none hR); (have hn2 := Cl.none2 hR); (repeat (first | go_big_quiet_skip | (go_big_quiet_want; (first | (refine quiet_loads_at (ty := 38) (n := 2) rfl rfl sR (by kernel_rfl) (by kernel_rfl) (by first | assumption | ((try simp only [List.drop_succ_cons, List.drop_zero, List.take_succ_cons, List.take_zero]) <;> exact rfl)) (by exact rfl) ?_; go_frame; go_big_quiet_on) | ((refine quiet_look_none_at rfl rfl (by (try simp only [Act.eval, eV]) <;> exact rfl) (k := 38) (es := ents es) sR lawI Try.underlying82 hk (getA_none hq.out) (z := A8.zero.val) (fun _ => by kernel_rfl) ?_); go_frame; go_big_quiet_on) | (refine quiet_load_at rfl rfl sR (by kernel_rfl) (by first | assumption | exact rfl) ?_; go_frame; go_big_quiet_on) | (go_big_quiet_op; (first | go_big_quiet_on)))))); (refine wpQuiet_nil ?_); exact rfl)); (case hyd_q1 => rfl); (case hd_q1 => (first | decide | simp)); (case hy_q1 => ((try simp only [Act.eval, Array.getD_eq_getD_getElem?, List.getElem?_toArray, List.getElem?_cons_succ, List.getElem?_cons_zero, Option.getD_some]); exact rfl)); (case hu_q1 => exact rfl); (case hsz_q1 => kernel_rfl); (case hus_q1 => rfl); (case hl_q1 => rfl); (intro b1 w1 hB hb1; clear hF hA; have hA := hB; clear hB; (simp only [List.drop_succ_cons, List.drop_zero]); (try simp only [uA] at hA); have hF := hA.facts; (try simp only [fZ] at hF); (try go_frame))
    go_wp2_with (first | ((with_reducible refine gst ?_); refine wS hA ?_; clear hF hA; intro w1 hA; (try simp only [uA] at hA); have hF := hA.facts; (try simp only [fZ] at hF)) | ((with_reducible refine gbx ?_); refine wB hA ?_; clear hF hA; intro b1 w1 hA hb1; (try simp only [uA] at hA); have hF := hA.facts; (try simp only [fZ] at hF)))
    go_ret
    exact ⟨rfl, close0 hA sZ sZ⟩
  | some b =>
    have hq := Lib.hid (getA_ent hg)
    clear hg
    obtain ⟨r, t⟩ := x
    obtain ⟨bs, b0, b1, b2, b3, b4, b5, b6⟩ := b
    simp only [idV, A8.val] at *
    (try simp only [uA] at hA); have hF := hA.facts; (try simp only [fZ] at hF)
    go_enter Try.func16, Try.ntmps16
    go_wp2_with (first | ((with_reducible refine gbx ?_); refine wX 38 (.agg #[.int .i64 r, .int .i64 t]) [.int .i64 r, .int .i64 t] hA ?_; clear hF hA; intro bI w1 hA hbI; (try simp only [uA] at hA); have hF := hA.facts; (try simp only [fZ] at hF)) | ((with_reducible refine gst ?_); refine wS hA ?_; clear hF hA; intro w1 hA; (try simp only [uA] at hA); have hF := hA.facts; (try simp only [fZ] at hF)) | ((with_reducible refine gbx ?_); refine wB hA ?_; clear hF hA; intro b1 w1 hA hb1; (try simp only [uA] at hA); have hF := hA.facts; (try simp only [fZ] at hF)))
    try go_frame
    (refine wp_region_new (a1 := ?a1_q2) (v := ?v_q2) 9 5 65 _ (.agg #[.int .i64 0, .int .i64 0, .int .i64 0, .int .i64 0, .int .i64 0, .int .i64 0, .int .i64 0, .int .i64 0]) [.int .i64 0, .int .i64 0, .int .i64 0, .int .i64 0, .int .i64 0, .int .i64 0, .int .i64 0, .int .i64 0] ([.int .i64 bs, .int .i64 b0, .int .i64 b1, .int .i64 b2, .int .i64 b3, .int .i64 b4, .int .i64 b5, .int .i64 b6]) (by kernel_rfl) (by kernel_rfl) rfl rfl ?hyd_q2 (by kernel_rfl) rfl hA ?h1_q2 ?hd_q2 ?hy_q2 ?hu_q2 ?hsz_q2 ?hus_q2 ?hl_q2 ?h2_q2); (case h1_q2 => (intro R wR hR; (try clear hF); (simp only [List.take_succ_cons, List.take_zero, List.drop_succ_cons, List.drop_zero]); (have hn1 := Cl.none hR); (have hn2 := Cl.none2 hR); (repeat (first | go_big_quiet_skip | (go_big_quiet_want; (first | (refine quiet_loads_at (ty := 38) (n := 2) rfl rfl sR (by kernel_rfl) (by kernel_rfl) (by first | assumption | ((try simp only [List.drop_succ_cons, List.drop_zero, List.take_succ_cons, List.take_zero]) <;> exact rfl)) (by exact rfl) ?_; go_frame; go_big_quiet_on) | ((refine quiet_look_some_at rfl rfl (by (try simp only [Act.eval, eV]) <;> exact rfl) (k := 38) (es := ents es) sR lawI Try.underlying82 hk (hq.out) ?_); go_frame; go_big_quiet_on) | (refine quiet_load_at rfl rfl sR (by kernel_rfl) (by first | assumption | exact rfl) ?_; go_frame; go_big_quiet_on) | (go_big_quiet_op; (first | go_big_quiet_on)))))); (refine wpQuiet_nil ?_); exact rfl)); (case hyd_q2 => rfl); (case hd_q2 => (first | decide | simp)); (case hy_q2 => ((try simp only [Act.eval, Array.getD_eq_getD_getElem?, List.getElem?_toArray, List.getElem?_cons_succ, List.getElem?_cons_zero, Option.getD_some]); exact rfl)); (case hu_q2 => exact rfl); (case hsz_q2 => kernel_rfl); (case hus_q2 => rfl); (case hl_q2 => rfl); (intro b1 w1 hB hb1; clear hF hA; have hA := hB; clear hB; (simp only [List.drop_succ_cons, List.drop_zero]); (try simp only [uA] at hA); have hF := hA.facts; (try simp only [fZ] at hF); (try go_frame))
    go_wp2_with (first | ((with_reducible refine gst ?_); refine wS hA ?_; clear hF hA; intro w1 hA; (try simp only [uA] at hA); have hF := hA.facts; (try simp only [fZ] at hF)) | ((with_reducible refine gbx ?_); refine wB hA ?_; clear hF hA; intro b1 w1 hA hb1; (try simp only [uA] at hA); have hF := hA.facts; (try simp only [fZ] at hF)))
    go_ret
    exact ⟨rfl, close0 hA sZ sZ⟩
theorem split_of {es : List (I2 × A8)} {x : I2} {a : A8} (h : getA es x = some a) : ∃ l1 l2, ents es = ents l1 ++ (idV x, a.val) :: ents l2 := by
  obtain ⟨l1, l2, e⟩ := List.append_of_mem (getA_mem h)
  exact ⟨l1, l2, by rw [e]; simp [ents, ent]⟩
set_option maxRecDepth 100000 in
set_option maxHeartbeats 2000000 in
theorem add_any {w : World} {p m : Nat} {es : List (I2 × A8)} (h : Sep [GrP p m es] w) (x : I2) (hx : okD x) (a : A8) : Calls Try.prog 36 #[.pointer (some ⟨p, 0, none⟩), idV x, a.val] w fun e w' => e = .returned (.int .i64 (addG es x a).2) ∧ At [GrP p m es] w [GrP p m (addG es x a).1] w' := by
  have hA := begin0 h
  have hF := hA.facts
  obtain ⟨kl, hk⟩ := keyI hx
  have how := fun w => Attr.owns_any a x.1 x.2 w
  clear h hx
  unfold addG
  generalize Attr.ownsB a x.1 x.2 = ow at *
  cases hg : getA es x with
  | none =>
    have hq := Lib.hid hg
    clear hg
    have hne : ents es ++ [(idV x, a.val)] = ents (es ++ [(x, a)]) := by simp [ents, ent]
    obtain ⟨r, t⟩ := x
    obtain ⟨us, u0, u1, u2, u3, u4, u5, u6⟩ := a
    simp only [idV, A8.val] at *
    (try simp only [uA] at hA); have hF := hA.facts; (try simp only [fZ] at hF)
    go_enter Try.func36, Try.ntmps36
    go_wp2_with (first | ((with_reducible refine gbx ?_); refine wX 38 (.agg #[.int .i64 r, .int .i64 t]) [.int .i64 r, .int .i64 t] hA ?_; clear hF hA; intro bI w1 hA hbI; (try simp only [uA] at hA); have hF := hA.facts; (try simp only [fZ] at hF)) | ((with_reducible refine gbx ?_); refine wX 65 (.agg #[.int .i64 us, .int .i64 u0, .int .i64 u1, .int .i64 u2, .int .i64 u3, .int .i64 u4, .int .i64 u5, .int .i64 u6]) [.int .i64 us, .int .i64 u0, .int .i64 u1, .int .i64 u2, .int .i64 u3, .int .i64 u4, .int .i64 u5, .int .i64 u6] hA ?_; clear hF hA; intro bA w1 hA hbA; (try simp only [uA] at hA); have hF := hA.facts; (try simp only [fZ] at hF)) | ((with_reducible refine gst ?_); refine wS hA ?_; clear hF hA; intro w1 hA; (try simp only [uA] at hA); have hF := hA.facts; (try simp only [fZ] at hF)) | ((with_reducible refine gbx ?_); refine wB hA ?_; clear hF hA; intro b1 w1 hA hb1; (try simp only [uA] at hA); have hF := hA.facts; (try simp only [fZ] at hF)))
    try go_frame
    (refine wp_region_new (a1 := ?a1_q3) (v := ?v_q3) 9 7 65 _ (.agg #[.int .i64 0, .int .i64 0, .int .i64 0, .int .i64 0, .int .i64 0, .int .i64 0, .int .i64 0, .int .i64 0]) [.int .i64 0, .int .i64 0, .int .i64 0, .int .i64 0, .int .i64 0, .int .i64 0, .int .i64 0, .int .i64 0] ([.int .i64 0, .int .i64 0, .int .i64 0, .int .i64 0, .int .i64 0, .int .i64 0, .int .i64 0, .int .i64 0]) (by kernel_rfl) (by kernel_rfl) rfl rfl ?hyd_q3 (by kernel_rfl) rfl hA ?h1_q3 ?hd_q3 ?hy_q3 ?hu_q3 ?hsz_q3 ?hus_q3 ?hl_q3 ?h2_q3); (case h1_q3 => (intro R wR hR; (try clear hF); (simp only [List.take_succ_cons, List.take_zero, List.drop_succ_cons, List.drop_zero]); (have hn1 := Cl.none hR); (have hn2 := Cl.none2 hR); (repeat (first | go_big_quiet_skip | (go_big_quiet_want; (first | (refine quiet_loads_at (ty := 38) (n := 2) rfl rfl sR (by kernel_rfl) (by kernel_rfl) (by first | assumption | ((try simp only [List.drop_succ_cons, List.drop_zero, List.take_succ_cons, List.take_zero]) <;> exact rfl)) (by exact rfl) ?_; go_frame; go_big_quiet_on) | ((refine quiet_look_none_at rfl rfl (by (try simp only [Act.eval, eV]) <;> exact rfl) (k := 38) (es := ents es) sR lawI Try.underlying82 hk (getA_none hq.out) (z := A8.zero.val) (fun _ => by kernel_rfl) ?_); go_frame; go_big_quiet_on) | (refine quiet_load_at rfl rfl sR (by kernel_rfl) (by first | assumption | exact rfl) ?_; go_frame; go_big_quiet_on) | (go_big_quiet_op; (first | go_big_quiet_on)))))); (refine wpQuiet_nil ?_); exact rfl)); (case hyd_q3 => rfl); (case hd_q3 => (first | decide | simp)); (case hy_q3 => ((try simp only [Act.eval, Array.getD_eq_getD_getElem?, List.getElem?_toArray, List.getElem?_cons_succ, List.getElem?_cons_zero, Option.getD_some]); exact rfl)); (case hu_q3 => exact rfl); (case hsz_q3 => kernel_rfl); (case hus_q3 => rfl); (case hl_q3 => rfl); (intro b1 w1 hB hb1; clear hF hA; have hA := hB; clear hB; (simp only [List.drop_succ_cons, List.drop_zero]); (try simp only [uA] at hA); have hF := hA.facts; (try simp only [fZ] at hF); (try go_frame))
    go_wp2_with (first | ((with_reducible refine gst ?_); refine wS hA ?_; clear hF hA; intro w1 hA; (try simp only [uA] at hA); have hF := hA.facts; (try simp only [fZ] at hF)) | ((with_reducible refine gbx ?_); refine wB hA ?_; clear hF hA; intro b1 w1 hA hb1; (try simp only [uA] at hA); have hF := hA.facts; (try simp only [fZ] at hF)))
    refine (how _).mono ?_
    rintro e w1 ⟨rfl, hx⟩
    have hB := hA.ext hx
    clear hF hA hx how; have hA := hB; clear hB
    (try simp only [uA] at hA); have hF := hA.facts; (try simp only [fZ] at hF)
    cases ow
    · go_wp2_with (first | ((with_reducible refine gst ?_); refine wS hA ?_; clear hF hA; intro w1 hA; (try simp only [uA] at hA); have hF := hA.facts; (try simp only [fZ] at hF)) | ((with_reducible refine gbx ?_); refine wB hA ?_; clear hF hA; intro b1 w1 hA hb1; (try simp only [uA] at hA); have hF := hA.facts; (try simp only [fZ] at hF)))
      go_ret
      exact ⟨rfl, close0 hA sZ sZ⟩
    · skip
      go_wp2_with (first | ((with_reducible refine gst ?_); refine wS hA ?_; clear hF hA; intro w1 hA; (try simp only [uA] at hA); have hF := hA.facts; (try simp only [fZ] at hF)) | ((with_reducible refine gbx ?_); refine wB hA ?_; clear hF hA; intro b1 w1 hA hb1; (try simp only [uA] at hA); have hF := hA.facts; (try simp only [fZ] at hF)))
      try go_frame
      (refine wp_region_head 6 (Cl _ _ _) (by kernel_rfl) (by kernel_rfl) (Cl.drew hA) ?_); (simp only [List.take_succ_cons, List.take_zero, List.drop_succ_cons, List.drop_zero]); (have hn1 := Cl.none hA); (have hn2 := Cl.none2 hA); (repeat (first | go_big_quiet_skip | (go_big_quiet_want; (first | (refine quiet_loads_at (ty := 38) (n := 2) rfl rfl sR (by kernel_rfl) (by kernel_rfl) (by first | assumption | ((try simp only [List.drop_succ_cons, List.drop_zero, List.take_succ_cons, List.take_zero]) <;> exact rfl)) (by exact rfl) ?_; go_frame; go_big_quiet_on) | (refine quiet_loads_at (ty := 65) (n := 8) rfl rfl sR (by kernel_rfl) (by kernel_rfl) (by first | assumption | ((try simp only [List.drop_succ_cons, List.drop_zero, List.take_succ_cons, List.take_zero]) <;> exact rfl)) (by exact rfl) ?_; go_frame; go_big_quiet_on) | (refine quiet_load_at rfl rfl sR (by kernel_rfl) (by first | assumption | exact rfl) ?_; go_frame; go_big_quiet_on) | (go_big_quiet_op; (first | go_big_quiet_on))))))
      (refine wpQuiet_nil ?_); (intro w1 hB); (clear hF hA hn1 hn2); (have hA := Cl.out hB); (clear hB); (try simp only [uA] at hA); have hF := hA.facts; (try simp only [fZ] at hF)
      refine wpList_put_new_at (b := m) (key := .agg #[.int .i64 r, .int .i64 t]) (val := .agg #[.int .i64 us, .int .i64 u0, .int .i64 u1, .int .i64 u2, .int .i64 u3, .int .i64 u4, .int .i64 u5, .int .i64 u6]) (es := ents es) rfl rfl (by (try simp only [Act.eval, eV]) <;> exact rfl) (by (try simp only [Act.eval, eV]) <;> exact rfl) (by (try simp only [Act.eval, eV]) <;> exact rfl) hA sR lawI Try.underlying82 hk (getA_none hq.out) ?_
      intro w1 hB
      clear hF hA
      have hA := hB; clear hB; rw [hne] at hA
      (try simp only [uA] at hA); have hF := hA.facts; (try simp only [fZ] at hF)
      go_wp2_with (first | ((with_reducible refine gst ?_); refine wS hA ?_; clear hF hA; intro w1 hA; (try simp only [uA] at hA); have hF := hA.facts; (try simp only [fZ] at hF)) | ((with_reducible refine gbx ?_); refine wB hA ?_; clear hF hA; intro b1 w1 hA hb1; (try simp only [uA] at hA); have hF := hA.facts; (try simp only [fZ] at hF)))
      go_ret
      exact ⟨rfl, close0 hA sZ sZ⟩
  | some b =>
    have hsp := Lib.hid (show Attr.eqA b a = true → ∃ l1 l2, ents es = ents l1 ++ (idV x, a.val) :: ents l2 from fun e => by rw [Attr.eqA_iff.1 e] at hg; exact split_of hg)
    have hq := Lib.hid (getA_ent hg)
    clear hg
    simp only
    obtain ⟨ee, hee⟩ : ∃ e, Attr.eqA b a = e := ⟨_, rfl⟩
    rw [hee] at hsp
    obtain ⟨r, t⟩ := x
    obtain ⟨us, u0, u1, u2, u3, u4, u5, u6⟩ := a
    obtain ⟨bs, b0, b1, b2, b3, b4, b5, b6⟩ := b
    rw [hee]
    simp only [idV, A8.val] at *
    (try simp only [uA] at hA); have hF := hA.facts; (try simp only [fZ] at hF)
    go_enter Try.func36, Try.ntmps36
    go_wp2_with (first | ((with_reducible refine gbx ?_); refine wX 38 (.agg #[.int .i64 r, .int .i64 t]) [.int .i64 r, .int .i64 t] hA ?_; clear hF hA; intro bI w1 hA hbI; (try simp only [uA] at hA); have hF := hA.facts; (try simp only [fZ] at hF)) | ((with_reducible refine gbx ?_); refine wX 65 (.agg #[.int .i64 us, .int .i64 u0, .int .i64 u1, .int .i64 u2, .int .i64 u3, .int .i64 u4, .int .i64 u5, .int .i64 u6]) [.int .i64 us, .int .i64 u0, .int .i64 u1, .int .i64 u2, .int .i64 u3, .int .i64 u4, .int .i64 u5, .int .i64 u6] hA ?_; clear hF hA; intro bA w1 hA hbA; (try simp only [uA] at hA); have hF := hA.facts; (try simp only [fZ] at hF)) | ((with_reducible refine gst ?_); refine wS hA ?_; clear hF hA; intro w1 hA; (try simp only [uA] at hA); have hF := hA.facts; (try simp only [fZ] at hF)) | ((with_reducible refine gbx ?_); refine wB hA ?_; clear hF hA; intro b1 w1 hA hb1; (try simp only [uA] at hA); have hF := hA.facts; (try simp only [fZ] at hF)))
    try go_frame
    (refine wp_region_new (a1 := ?a1_q4) (v := ?v_q4) 9 7 65 _ (.agg #[.int .i64 0, .int .i64 0, .int .i64 0, .int .i64 0, .int .i64 0, .int .i64 0, .int .i64 0, .int .i64 0]) [.int .i64 0, .int .i64 0, .int .i64 0, .int .i64 0, .int .i64 0, .int .i64 0, .int .i64 0, .int .i64 0] ([.int .i64 bs, .int .i64 b0, .int .i64 b1, .int .i64 b2, .int .i64 b3, .int .i64 b4, .int .i64 b5, .int .i64 b6]) (by kernel_rfl) (by kernel_rfl) rfl rfl ?hyd_q4 (by kernel_rfl) rfl hA ?h1_q4 ?hd_q4 ?hy_q4 ?hu_q4 ?hsz_q4 ?hus_q4 ?hl_q4 ?h2_q4); (case h1_q4 => (intro R wR hR; (try clear hF); (simp only [List.take_succ_cons, List.take_zero, List.drop_succ_cons, List.drop_zero]); (have hn1 := Cl.none hR); (have hn2 := Cl.none2 hR); (repeat (first | go_big_quiet_skip | (go_big_quiet_want; (first | (refine quiet_loads_at (ty := 38) (n := 2) rfl rfl sR (by kernel_rfl) (by kernel_rfl) (by first | assumption | ((try simp only [List.drop_succ_cons, List.drop_zero, List.take_succ_cons, List.take_zero]) <;> exact rfl)) (by exact rfl) ?_; go_frame; go_big_quiet_on) | ((refine quiet_look_some_at rfl rfl (by (try simp only [Act.eval, eV]) <;> exact rfl) (k := 38) (es := ents es) sR lawI Try.underlying82 hk (hq.out) ?_); go_frame; go_big_quiet_on) | (refine quiet_load_at rfl rfl sR (by kernel_rfl) (by first | assumption | exact rfl) ?_; go_frame; go_big_quiet_on) | (go_big_quiet_op; (first | go_big_quiet_on)))))); (refine wpQuiet_nil ?_); exact rfl)); (case hyd_q4 => rfl); (case hd_q4 => (first | decide | simp)); (case hy_q4 => ((try simp only [Act.eval, Array.getD_eq_getD_getElem?, List.getElem?_toArray, List.getElem?_cons_succ, List.getElem?_cons_zero, Option.getD_some]); exact rfl)); (case hu_q4 => exact rfl); (case hsz_q4 => kernel_rfl); (case hus_q4 => rfl); (case hl_q4 => rfl); (intro b1 w1 hB hb1; clear hF hA; have hA := hB; clear hB; (simp only [List.drop_succ_cons, List.drop_zero]); (try simp only [uA] at hA); have hF := hA.facts; (try simp only [fZ] at hF); (try go_frame))
    go_wp2_with (first | ((with_reducible refine gst ?_); refine wS hA ?_; clear hF hA; intro w1 hA; (try simp only [uA] at hA); have hF := hA.facts; (try simp only [fZ] at hF)) | ((with_reducible refine gbx ?_); refine wB hA ?_; clear hF hA; intro b1 w1 hA hb1; (try simp only [uA] at hA); have hF := hA.facts; (try simp only [fZ] at hF)))
    refine (how _).mono ?_
    rintro e w1 ⟨rfl, hx⟩
    have hB := hA.ext hx
    clear hF hA hx how; have hA := hB; clear hB
    (try simp only [uA] at hA); have hF := hA.facts; (try simp only [fZ] at hF)
    cases ow
    · go_wp2_with (first | ((with_reducible refine gst ?_); refine wS hA ?_; clear hF hA; intro w1 hA; (try simp only [uA] at hA); have hF := hA.facts; (try simp only [fZ] at hF)) | ((with_reducible refine gbx ?_); refine wB hA ?_; clear hF hA; intro b1 w1 hA hb1; (try simp only [uA] at hA); have hF := hA.facts; (try simp only [fZ] at hF)))
      go_ret
      exact ⟨rfl, close0 hA sZ sZ⟩
    · cases ee
      · go_wp2_with (first | ((with_reducible refine gst ?_); refine wS hA ?_; clear hF hA; intro w1 hA; (try simp only [uA] at hA); have hF := hA.facts; (try simp only [fZ] at hF)) | ((with_reducible refine gbx ?_); refine wB hA ?_; clear hF hA; intro b1 w1 hA hb1; (try simp only [uA] at hA); have hF := hA.facts; (try simp only [fZ] at hF)))
        go_ret
        exact ⟨rfl, close0 hA sZ sZ⟩
      · obtain ⟨l1, l2, hl⟩ := hsp.out (by rfl)
        have hl' := Lib.hid hl
        rw [hl] at hA
        clear hl
        go_wp2_with (first | ((with_reducible refine gst ?_); refine wS hA ?_; clear hF hA; intro w1 hA; (try simp only [uA] at hA); have hF := hA.facts; (try simp only [fZ] at hF)) | ((with_reducible refine gbx ?_); refine wB hA ?_; clear hF hA; intro b1 w1 hA hb1; (try simp only [uA] at hA); have hF := hA.facts; (try simp only [fZ] at hF)))
        try go_frame
        (refine wp_region_head 6 (Cl _ _ _) (by kernel_rfl) (by kernel_rfl) (Cl.drew hA) ?_); (simp only [List.take_succ_cons, List.take_zero, List.drop_succ_cons, List.drop_zero]); (have hn1 := Cl.none hA); (have hn2 := Cl.none2 hA); (repeat (first | go_big_quiet_skip | (go_big_quiet_want; (first | (refine quiet_loads_at (ty := 38) (n := 2) rfl rfl sR (by kernel_rfl) (by kernel_rfl) (by first | assumption | ((try simp only [List.drop_succ_cons, List.drop_zero, List.take_succ_cons, List.take_zero]) <;> exact rfl)) (by exact rfl) ?_; go_frame; go_big_quiet_on) | (refine quiet_loads_at (ty := 65) (n := 8) rfl rfl sR (by kernel_rfl) (by kernel_rfl) (by first | assumption | ((try simp only [List.drop_succ_cons, List.drop_zero, List.take_succ_cons, List.take_zero]) <;> exact rfl)) (by exact rfl) ?_; go_frame; go_big_quiet_on) | (refine quiet_load_at rfl rfl sR (by kernel_rfl) (by first | assumption | exact rfl) ?_; go_frame; go_big_quiet_on) | (go_big_quiet_op; (first | go_big_quiet_on))))))
        (refine wpQuiet_nil ?_); (intro w1 hB); (clear hF hA hn1 hn2); (have hA := Cl.out hB); (clear hB); (try simp only [uA] at hA); have hF := hA.facts; (try simp only [fZ] at hF)
        refine wpList_put_there_at (b := m) (key := .agg #[.int .i64 r, .int .i64 t]) (val := .agg #[.int .i64 us, .int .i64 u0, .int .i64 u1, .int .i64 u2, .int .i64 u3, .int .i64 u4, .int .i64 u5, .int .i64 u6]) (u := .agg #[.int .i64 us, .int .i64 u0, .int .i64 u1, .int .i64 u2, .int .i64 u3, .int .i64 u4, .int .i64 u5, .int .i64 u6]) (l1 := ents l1) (l2 := ents l2) rfl rfl (by (try simp only [Act.eval, eV]) <;> exact rfl) (by (try simp only [Act.eval, eV]) <;> exact rfl) (by (try simp only [Act.eval, eV]) <;> exact rfl) hA sR lawI Try.underlying82 hk ?_
        intro w1 hB
        clear hF hA
        have hA := hB; clear hB; rw [← hl'.out] at hA
        (try simp only [uA] at hA); have hF := hA.facts; (try simp only [fZ] at hF)
        go_wp2_with (first | ((with_reducible refine gst ?_); refine wS hA ?_; clear hF hA; intro w1 hA; (try simp only [uA] at hA); have hF := hA.facts; (try simp only [fZ] at hF)) | ((with_reducible refine gbx ?_); refine wB hA ?_; clear hF hA; intro b1 w1 hA hb1; (try simp only [uA] at hA); have hF := hA.facts; (try simp only [fZ] at hF)))
        go_ret
        exact ⟨rfl, close0 hA sZ sZ⟩
set_option maxRecDepth 100000 in
set_option maxHeartbeats 2000000 in
theorem fhas_any (f : F7) (x : I2) (w : World) : Calls Try.prog 15 #[f.val, idV x] w fun e w' => e = .returned (.bool (behind f x)) ∧ Ext w w' := by
  have hA : At [] w [] w := At.start (L0 := []) trivial
  have hF := hA.facts
  have hri := fun w => Attr.idRight_any x.1 x.2 w
  obtain ⟨r, t⟩ := x
  obtain ⟨f0, f1, f2, f3, f4, f5, f6⟩ := f
  unfold behind
  simp only [F7.val, idV] at *
  cases hp : rightI r t with
  | false =>
    rw [hp] at hri
    clear hp
    (try simp only [uA] at hA); have hF := hA.facts; (try simp only [fZ] at hF)
    go_enter Try.func15, Try.ntmps15
    go_wp2_with (first | ((with_reducible refine gbx ?_); refine wX 24 (.agg #[.int .i64 f0, .int .i64 f1, .int .i64 f2, .int .i64 f3, .int .i64 f4, .int .i64 f5, .int .i64 f6]) [.int .i64 f0, .int .i64 f1, .int .i64 f2, .int .i64 f3, .int .i64 f4, .int .i64 f5, .int .i64 f6] hA ?_; clear hF hA; intro bF w1 hA hbF; (try simp only [uA] at hA); have hF := hA.facts; (try simp only [fZ] at hF)) | ((with_reducible refine gbx ?_); refine wX 38 (.agg #[.int .i64 r, .int .i64 t]) [.int .i64 r, .int .i64 t] hA ?_; clear hF hA; intro bI w1 hA hbI; (try simp only [uA] at hA); have hF := hA.facts; (try simp only [fZ] at hF)) | ((with_reducible refine gst ?_); refine wS hA ?_; clear hF hA; intro w1 hA; (try simp only [uA] at hA); have hF := hA.facts; (try simp only [fZ] at hF)) | ((with_reducible refine gbx ?_); refine wB hA ?_; clear hF hA; intro b1 w1 hA hb1; (try simp only [uA] at hA); have hF := hA.facts; (try simp only [fZ] at hF)))
    try go_frame
    (refine wp_region_all (Cl _ _ _) (by kernel_rfl) (by kernel_rfl) (Cl.drew hA) ?_); (have hn1 := Cl.none hA); (have hn2 := Cl.none2 hA); (repeat (first | go_big_quiet_skip | (go_big_quiet_want; (first | (refine quiet_loads_at (ty := 38) (n := 2) rfl rfl sR (by kernel_rfl) (by kernel_rfl) (by first | assumption | ((try simp only [List.drop_succ_cons, List.drop_zero, List.take_succ_cons, List.take_zero]) <;> exact rfl)) (by exact rfl) ?_; go_frame; go_big_quiet_on) | (refine quiet_load_at rfl rfl sR (by kernel_rfl) (by first | assumption | exact rfl) ?_; go_frame; go_big_quiet_on) | (go_big_quiet_op; (first | go_big_quiet_on | ((apply Exists.intro); (refine ⟨fun w1 hw => ?_, ?_⟩); (focus ((have hw := Cl.out hw); (exact thro hw (hri _)))); (go_big_quiet_on))))))))
    (refine wpQuiet_nil ?_); (intro w1 hB); (clear hF hA hn1 hn2); (have hA := Cl.out hB); (clear hB); (try simp only [uA] at hA); have hF := hA.facts; (try simp only [fZ] at hF)
    go_wp2_with (first | ((with_reducible refine gst ?_); refine wS hA ?_; clear hF hA; intro w1 hA; (try simp only [uA] at hA); have hF := hA.facts; (try simp only [fZ] at hF)) | ((with_reducible refine gbx ?_); refine wB hA ?_; clear hF hA; intro b1 w1 hA hb1; (try simp only [uA] at hA); have hF := hA.facts; (try simp only [fZ] at hF)))
    go_ret
    exact ⟨rfl, hA.toExt⟩
  | true =>
    have h7 := Attr.rightI_iff.1 hp
    rw [hp] at hri
    clear hp
    (try simp only [uA] at hA); have hF := hA.facts; (try simp only [fZ] at hF)
    rcases (show r = 0 ∨ r = 1 ∨ r = 2 ∨ r = 3 ∨ r = 4 ∨ r = 5 ∨ r = 6 by omega) with rfl | rfl | rfl | rfl | rfl | rfl | rfl
    · clear h7
      go_enter Try.func15, Try.ntmps15
      go_wp2_with (first | ((with_reducible refine gbx ?_); refine wX 24 (.agg #[.int .i64 f0, .int .i64 f1, .int .i64 f2, .int .i64 f3, .int .i64 f4, .int .i64 f5, .int .i64 f6]) [.int .i64 f0, .int .i64 f1, .int .i64 f2, .int .i64 f3, .int .i64 f4, .int .i64 f5, .int .i64 f6] hA ?_; clear hF hA; intro bF w1 hA hbF; (try simp only [uA] at hA); have hF := hA.facts; (try simp only [fZ] at hF)) | ((with_reducible refine gbx ?_); refine wX 38 (.agg #[.int .i64 0, .int .i64 t]) [.int .i64 0, .int .i64 t] hA ?_; clear hF hA; intro bI w1 hA hbI; (try simp only [uA] at hA); have hF := hA.facts; (try simp only [fZ] at hF)) | ((with_reducible refine gst ?_); refine wS hA ?_; clear hF hA; intro w1 hA; (try simp only [uA] at hA); have hF := hA.facts; (try simp only [fZ] at hF)) | ((with_reducible refine gbx ?_); refine wB hA ?_; clear hF hA; intro b1 w1 hA hb1; (try simp only [uA] at hA); have hF := hA.facts; (try simp only [fZ] at hF)))
      try go_frame
      (refine wp_region_all (Cl _ _ _) (by kernel_rfl) (by kernel_rfl) (Cl.drew hA) ?_); (have hn1 := Cl.none hA); (have hn2 := Cl.none2 hA); (repeat (first | go_big_quiet_skip | (go_big_quiet_want; (first | (refine quiet_loads_at (ty := 38) (n := 2) rfl rfl sR (by kernel_rfl) (by kernel_rfl) (by first | assumption | ((try simp only [List.drop_succ_cons, List.drop_zero, List.take_succ_cons, List.take_zero]) <;> exact rfl)) (by exact rfl) ?_; go_frame; go_big_quiet_on) | (refine quiet_load_at rfl rfl sR (by kernel_rfl) (by first | assumption | exact rfl) ?_; go_frame; go_big_quiet_on) | (go_big_quiet_op; (first | go_big_quiet_on | ((apply Exists.intro); (refine ⟨fun w1 hw => ?_, ?_⟩); (focus ((have hw := Cl.out hw); (exact thro hw (hri _)))); (go_big_quiet_on))))))))
      (refine wpQuiet_nil ?_); (intro w1 hB); (clear hF hA hn1 hn2); (have hA := Cl.out hB); (clear hB); (try simp only [uA] at hA); have hF := hA.facts; (try simp only [fZ] at hF)
      go_wp2_with (first | ((with_reducible refine gst ?_); refine wS hA ?_; clear hF hA; intro w1 hA; (try simp only [uA] at hA); have hF := hA.facts; (try simp only [fZ] at hF)) | ((with_reducible refine gbx ?_); refine wB hA ?_; clear hF hA; intro b1 w1 hA hb1; (try simp only [uA] at hA); have hF := hA.facts; (try simp only [fZ] at hF)))
      go_ret
      exact ⟨rfl, hA.toExt⟩
    · clear h7
      go_enter Try.func15, Try.ntmps15
      go_wp2_with (first | ((with_reducible refine gbx ?_); refine wX 24 (.agg #[.int .i64 f0, .int .i64 f1, .int .i64 f2, .int .i64 f3, .int .i64 f4, .int .i64 f5, .int .i64 f6]) [.int .i64 f0, .int .i64 f1, .int .i64 f2, .int .i64 f3, .int .i64 f4, .int .i64 f5, .int .i64 f6] hA ?_; clear hF hA; intro bF w1 hA hbF; (try simp only [uA] at hA); have hF := hA.facts; (try simp only [fZ] at hF)) | ((with_reducible refine gbx ?_); refine wX 38 (.agg #[.int .i64 1, .int .i64 t]) [.int .i64 1, .int .i64 t] hA ?_; clear hF hA; intro bI w1 hA hbI; (try simp only [uA] at hA); have hF := hA.facts; (try simp only [fZ] at hF)) | ((with_reducible refine gst ?_); refine wS hA ?_; clear hF hA; intro w1 hA; (try simp only [uA] at hA); have hF := hA.facts; (try simp only [fZ] at hF)) | ((with_reducible refine gbx ?_); refine wB hA ?_; clear hF hA; intro b1 w1 hA hb1; (try simp only [uA] at hA); have hF := hA.facts; (try simp only [fZ] at hF)))
      try go_frame
      (refine wp_region_all (Cl _ _ _) (by kernel_rfl) (by kernel_rfl) (Cl.drew hA) ?_); (have hn1 := Cl.none hA); (have hn2 := Cl.none2 hA); (repeat (first | go_big_quiet_skip | (go_big_quiet_want; (first | (refine quiet_loads_at (ty := 38) (n := 2) rfl rfl sR (by kernel_rfl) (by kernel_rfl) (by first | assumption | ((try simp only [List.drop_succ_cons, List.drop_zero, List.take_succ_cons, List.take_zero]) <;> exact rfl)) (by exact rfl) ?_; go_frame; go_big_quiet_on) | (refine quiet_load_at rfl rfl sR (by kernel_rfl) (by first | assumption | exact rfl) ?_; go_frame; go_big_quiet_on) | (go_big_quiet_op; (first | go_big_quiet_on | ((apply Exists.intro); (refine ⟨fun w1 hw => ?_, ?_⟩); (focus ((have hw := Cl.out hw); (exact thro hw (hri _)))); (go_big_quiet_on))))))))
      (refine wpQuiet_nil ?_); (intro w1 hB); (clear hF hA hn1 hn2); (have hA := Cl.out hB); (clear hB); (try simp only [uA] at hA); have hF := hA.facts; (try simp only [fZ] at hF)
      go_wp2_with (first | ((with_reducible refine gst ?_); refine wS hA ?_; clear hF hA; intro w1 hA; (try simp only [uA] at hA); have hF := hA.facts; (try simp only [fZ] at hF)) | ((with_reducible refine gbx ?_); refine wB hA ?_; clear hF hA; intro b1 w1 hA hb1; (try simp only [uA] at hA); have hF := hA.facts; (try simp only [fZ] at hF)))
      go_ret
      exact ⟨rfl, hA.toExt⟩
    · clear h7
      go_enter Try.func15, Try.ntmps15
      go_wp2_with (first | ((with_reducible refine gbx ?_); refine wX 24 (.agg #[.int .i64 f0, .int .i64 f1, .int .i64 f2, .int .i64 f3, .int .i64 f4, .int .i64 f5, .int .i64 f6]) [.int .i64 f0, .int .i64 f1, .int .i64 f2, .int .i64 f3, .int .i64 f4, .int .i64 f5, .int .i64 f6] hA ?_; clear hF hA; intro bF w1 hA hbF; (try simp only [uA] at hA); have hF := hA.facts; (try simp only [fZ] at hF)) | ((with_reducible refine gbx ?_); refine wX 38 (.agg #[.int .i64 2, .int .i64 t]) [.int .i64 2, .int .i64 t] hA ?_; clear hF hA; intro bI w1 hA hbI; (try simp only [uA] at hA); have hF := hA.facts; (try simp only [fZ] at hF)) | ((with_reducible refine gst ?_); refine wS hA ?_; clear hF hA; intro w1 hA; (try simp only [uA] at hA); have hF := hA.facts; (try simp only [fZ] at hF)) | ((with_reducible refine gbx ?_); refine wB hA ?_; clear hF hA; intro b1 w1 hA hb1; (try simp only [uA] at hA); have hF := hA.facts; (try simp only [fZ] at hF)))
      try go_frame
      (refine wp_region_all (Cl _ _ _) (by kernel_rfl) (by kernel_rfl) (Cl.drew hA) ?_); (have hn1 := Cl.none hA); (have hn2 := Cl.none2 hA); (repeat (first | go_big_quiet_skip | (go_big_quiet_want; (first | (refine quiet_loads_at (ty := 38) (n := 2) rfl rfl sR (by kernel_rfl) (by kernel_rfl) (by first | assumption | ((try simp only [List.drop_succ_cons, List.drop_zero, List.take_succ_cons, List.take_zero]) <;> exact rfl)) (by exact rfl) ?_; go_frame; go_big_quiet_on) | (refine quiet_load_at rfl rfl sR (by kernel_rfl) (by first | assumption | exact rfl) ?_; go_frame; go_big_quiet_on) | (go_big_quiet_op; (first | go_big_quiet_on | ((apply Exists.intro); (refine ⟨fun w1 hw => ?_, ?_⟩); (focus ((have hw := Cl.out hw); (exact thro hw (hri _)))); (go_big_quiet_on))))))))
      (refine wpQuiet_nil ?_); (intro w1 hB); (clear hF hA hn1 hn2); (have hA := Cl.out hB); (clear hB); (try simp only [uA] at hA); have hF := hA.facts; (try simp only [fZ] at hF)
      go_wp2_with (first | ((with_reducible refine gst ?_); refine wS hA ?_; clear hF hA; intro w1 hA; (try simp only [uA] at hA); have hF := hA.facts; (try simp only [fZ] at hF)) | ((with_reducible refine gbx ?_); refine wB hA ?_; clear hF hA; intro b1 w1 hA hb1; (try simp only [uA] at hA); have hF := hA.facts; (try simp only [fZ] at hF)))
      go_ret
      exact ⟨rfl, hA.toExt⟩
    · clear h7
      go_enter Try.func15, Try.ntmps15
      go_wp2_with (first | ((with_reducible refine gbx ?_); refine wX 24 (.agg #[.int .i64 f0, .int .i64 f1, .int .i64 f2, .int .i64 f3, .int .i64 f4, .int .i64 f5, .int .i64 f6]) [.int .i64 f0, .int .i64 f1, .int .i64 f2, .int .i64 f3, .int .i64 f4, .int .i64 f5, .int .i64 f6] hA ?_; clear hF hA; intro bF w1 hA hbF; (try simp only [uA] at hA); have hF := hA.facts; (try simp only [fZ] at hF)) | ((with_reducible refine gbx ?_); refine wX 38 (.agg #[.int .i64 3, .int .i64 t]) [.int .i64 3, .int .i64 t] hA ?_; clear hF hA; intro bI w1 hA hbI; (try simp only [uA] at hA); have hF := hA.facts; (try simp only [fZ] at hF)) | ((with_reducible refine gst ?_); refine wS hA ?_; clear hF hA; intro w1 hA; (try simp only [uA] at hA); have hF := hA.facts; (try simp only [fZ] at hF)) | ((with_reducible refine gbx ?_); refine wB hA ?_; clear hF hA; intro b1 w1 hA hb1; (try simp only [uA] at hA); have hF := hA.facts; (try simp only [fZ] at hF)))
      try go_frame
      (refine wp_region_all (Cl _ _ _) (by kernel_rfl) (by kernel_rfl) (Cl.drew hA) ?_); (have hn1 := Cl.none hA); (have hn2 := Cl.none2 hA); (repeat (first | go_big_quiet_skip | (go_big_quiet_want; (first | (refine quiet_loads_at (ty := 38) (n := 2) rfl rfl sR (by kernel_rfl) (by kernel_rfl) (by first | assumption | ((try simp only [List.drop_succ_cons, List.drop_zero, List.take_succ_cons, List.take_zero]) <;> exact rfl)) (by exact rfl) ?_; go_frame; go_big_quiet_on) | (refine quiet_load_at rfl rfl sR (by kernel_rfl) (by first | assumption | exact rfl) ?_; go_frame; go_big_quiet_on) | (go_big_quiet_op; (first | go_big_quiet_on | ((apply Exists.intro); (refine ⟨fun w1 hw => ?_, ?_⟩); (focus ((have hw := Cl.out hw); (exact thro hw (hri _)))); (go_big_quiet_on))))))))
      (refine wpQuiet_nil ?_); (intro w1 hB); (clear hF hA hn1 hn2); (have hA := Cl.out hB); (clear hB); (try simp only [uA] at hA); have hF := hA.facts; (try simp only [fZ] at hF)
      go_wp2_with (first | ((with_reducible refine gst ?_); refine wS hA ?_; clear hF hA; intro w1 hA; (try simp only [uA] at hA); have hF := hA.facts; (try simp only [fZ] at hF)) | ((with_reducible refine gbx ?_); refine wB hA ?_; clear hF hA; intro b1 w1 hA hb1; (try simp only [uA] at hA); have hF := hA.facts; (try simp only [fZ] at hF)))
      go_ret
      exact ⟨rfl, hA.toExt⟩
    · clear h7
      go_enter Try.func15, Try.ntmps15
      go_wp2_with (first | ((with_reducible refine gbx ?_); refine wX 24 (.agg #[.int .i64 f0, .int .i64 f1, .int .i64 f2, .int .i64 f3, .int .i64 f4, .int .i64 f5, .int .i64 f6]) [.int .i64 f0, .int .i64 f1, .int .i64 f2, .int .i64 f3, .int .i64 f4, .int .i64 f5, .int .i64 f6] hA ?_; clear hF hA; intro bF w1 hA hbF; (try simp only [uA] at hA); have hF := hA.facts; (try simp only [fZ] at hF)) | ((with_reducible refine gbx ?_); refine wX 38 (.agg #[.int .i64 4, .int .i64 t]) [.int .i64 4, .int .i64 t] hA ?_; clear hF hA; intro bI w1 hA hbI; (try simp only [uA] at hA); have hF := hA.facts; (try simp only [fZ] at hF)) | ((with_reducible refine gst ?_); refine wS hA ?_; clear hF hA; intro w1 hA; (try simp only [uA] at hA); have hF := hA.facts; (try simp only [fZ] at hF)) | ((with_reducible refine gbx ?_); refine wB hA ?_; clear hF hA; intro b1 w1 hA hb1; (try simp only [uA] at hA); have hF := hA.facts; (try simp only [fZ] at hF)))
      try go_frame
      (refine wp_region_all (Cl _ _ _) (by kernel_rfl) (by kernel_rfl) (Cl.drew hA) ?_); (have hn1 := Cl.none hA); (have hn2 := Cl.none2 hA); (repeat (first | go_big_quiet_skip | (go_big_quiet_want; (first | (refine quiet_loads_at (ty := 38) (n := 2) rfl rfl sR (by kernel_rfl) (by kernel_rfl) (by first | assumption | ((try simp only [List.drop_succ_cons, List.drop_zero, List.take_succ_cons, List.take_zero]) <;> exact rfl)) (by exact rfl) ?_; go_frame; go_big_quiet_on) | (refine quiet_load_at rfl rfl sR (by kernel_rfl) (by first | assumption | exact rfl) ?_; go_frame; go_big_quiet_on) | (go_big_quiet_op; (first | go_big_quiet_on | ((apply Exists.intro); (refine ⟨fun w1 hw => ?_, ?_⟩); (focus ((have hw := Cl.out hw); (exact thro hw (hri _)))); (go_big_quiet_on))))))))
      (refine wpQuiet_nil ?_); (intro w1 hB); (clear hF hA hn1 hn2); (have hA := Cl.out hB); (clear hB); (try simp only [uA] at hA); have hF := hA.facts; (try simp only [fZ] at hF)
      go_wp2_with (first | ((with_reducible refine gst ?_); refine wS hA ?_; clear hF hA; intro w1 hA; (try simp only [uA] at hA); have hF := hA.facts; (try simp only [fZ] at hF)) | ((with_reducible refine gbx ?_); refine wB hA ?_; clear hF hA; intro b1 w1 hA hb1; (try simp only [uA] at hA); have hF := hA.facts; (try simp only [fZ] at hF)))
      go_ret
      exact ⟨rfl, hA.toExt⟩
    · clear h7
      go_enter Try.func15, Try.ntmps15
      go_wp2_with (first | ((with_reducible refine gbx ?_); refine wX 24 (.agg #[.int .i64 f0, .int .i64 f1, .int .i64 f2, .int .i64 f3, .int .i64 f4, .int .i64 f5, .int .i64 f6]) [.int .i64 f0, .int .i64 f1, .int .i64 f2, .int .i64 f3, .int .i64 f4, .int .i64 f5, .int .i64 f6] hA ?_; clear hF hA; intro bF w1 hA hbF; (try simp only [uA] at hA); have hF := hA.facts; (try simp only [fZ] at hF)) | ((with_reducible refine gbx ?_); refine wX 38 (.agg #[.int .i64 5, .int .i64 t]) [.int .i64 5, .int .i64 t] hA ?_; clear hF hA; intro bI w1 hA hbI; (try simp only [uA] at hA); have hF := hA.facts; (try simp only [fZ] at hF)) | ((with_reducible refine gst ?_); refine wS hA ?_; clear hF hA; intro w1 hA; (try simp only [uA] at hA); have hF := hA.facts; (try simp only [fZ] at hF)) | ((with_reducible refine gbx ?_); refine wB hA ?_; clear hF hA; intro b1 w1 hA hb1; (try simp only [uA] at hA); have hF := hA.facts; (try simp only [fZ] at hF)))
      try go_frame
      (refine wp_region_all (Cl _ _ _) (by kernel_rfl) (by kernel_rfl) (Cl.drew hA) ?_); (have hn1 := Cl.none hA); (have hn2 := Cl.none2 hA); (repeat (first | go_big_quiet_skip | (go_big_quiet_want; (first | (refine quiet_loads_at (ty := 38) (n := 2) rfl rfl sR (by kernel_rfl) (by kernel_rfl) (by first | assumption | ((try simp only [List.drop_succ_cons, List.drop_zero, List.take_succ_cons, List.take_zero]) <;> exact rfl)) (by exact rfl) ?_; go_frame; go_big_quiet_on) | (refine quiet_load_at rfl rfl sR (by kernel_rfl) (by first | assumption | exact rfl) ?_; go_frame; go_big_quiet_on) | (go_big_quiet_op; (first | go_big_quiet_on | ((apply Exists.intro); (refine ⟨fun w1 hw => ?_, ?_⟩); (focus ((have hw := Cl.out hw); (exact thro hw (hri _)))); (go_big_quiet_on))))))))
      (refine wpQuiet_nil ?_); (intro w1 hB); (clear hF hA hn1 hn2); (have hA := Cl.out hB); (clear hB); (try simp only [uA] at hA); have hF := hA.facts; (try simp only [fZ] at hF)
      go_wp2_with (first | ((with_reducible refine gst ?_); refine wS hA ?_; clear hF hA; intro w1 hA; (try simp only [uA] at hA); have hF := hA.facts; (try simp only [fZ] at hF)) | ((with_reducible refine gbx ?_); refine wB hA ?_; clear hF hA; intro b1 w1 hA hb1; (try simp only [uA] at hA); have hF := hA.facts; (try simp only [fZ] at hF)))
      go_ret
      exact ⟨rfl, hA.toExt⟩
    · clear h7
      go_enter Try.func15, Try.ntmps15
      go_wp2_with (first | ((with_reducible refine gbx ?_); refine wX 24 (.agg #[.int .i64 f0, .int .i64 f1, .int .i64 f2, .int .i64 f3, .int .i64 f4, .int .i64 f5, .int .i64 f6]) [.int .i64 f0, .int .i64 f1, .int .i64 f2, .int .i64 f3, .int .i64 f4, .int .i64 f5, .int .i64 f6] hA ?_; clear hF hA; intro bF w1 hA hbF; (try simp only [uA] at hA); have hF := hA.facts; (try simp only [fZ] at hF)) | ((with_reducible refine gbx ?_); refine wX 38 (.agg #[.int .i64 6, .int .i64 t]) [.int .i64 6, .int .i64 t] hA ?_; clear hF hA; intro bI w1 hA hbI; (try simp only [uA] at hA); have hF := hA.facts; (try simp only [fZ] at hF)) | ((with_reducible refine gst ?_); refine wS hA ?_; clear hF hA; intro w1 hA; (try simp only [uA] at hA); have hF := hA.facts; (try simp only [fZ] at hF)) | ((with_reducible refine gbx ?_); refine wB hA ?_; clear hF hA; intro b1 w1 hA hb1; (try simp only [uA] at hA); have hF := hA.facts; (try simp only [fZ] at hF)))
      try go_frame
      (refine wp_region_all (Cl _ _ _) (by kernel_rfl) (by kernel_rfl) (Cl.drew hA) ?_); (have hn1 := Cl.none hA); (have hn2 := Cl.none2 hA); (repeat (first | go_big_quiet_skip | (go_big_quiet_want; (first | (refine quiet_loads_at (ty := 38) (n := 2) rfl rfl sR (by kernel_rfl) (by kernel_rfl) (by first | assumption | ((try simp only [List.drop_succ_cons, List.drop_zero, List.take_succ_cons, List.take_zero]) <;> exact rfl)) (by exact rfl) ?_; go_frame; go_big_quiet_on) | (refine quiet_load_at rfl rfl sR (by kernel_rfl) (by first | assumption | exact rfl) ?_; go_frame; go_big_quiet_on) | (go_big_quiet_op; (first | go_big_quiet_on | ((apply Exists.intro); (refine ⟨fun w1 hw => ?_, ?_⟩); (focus ((have hw := Cl.out hw); (exact thro hw (hri _)))); (go_big_quiet_on))))))))
      (refine wpQuiet_nil ?_); (intro w1 hB); (clear hF hA hn1 hn2); (have hA := Cl.out hB); (clear hB); (try simp only [uA] at hA); have hF := hA.facts; (try simp only [fZ] at hF)
      go_wp2_with (first | ((with_reducible refine gst ?_); refine wS hA ?_; clear hF hA; intro w1 hA; (try simp only [uA] at hA); have hF := hA.facts; (try simp only [fZ] at hF)) | ((with_reducible refine gbx ?_); refine wB hA ?_; clear hF hA; intro b1 w1 hA hb1; (try simp only [uA] at hA); have hF := hA.facts; (try simp only [fZ] at hF)))
      go_ret
      exact ⟨rfl, hA.toExt⟩
def LeadRel (w : World) (L : List Part) (f : F7) (a : A8) (bA bI bF : Nat) (r t : Int) (k : Nat) (u : Value) (v : Value) (wr : World) : Prop :=
  ∃ q : Nat, u = .int .i64 q ∧ q + k = 7 ∧ At L w (rowI2 v (leadsU f a q) :: L ++ [Part.cells bF f.cells 24]) wr
theorem index7 (d : Nat → Int) (q : Nat) (hq : q < 7) (w : World) : (Instr.index 23 (.agg #[.int .i64 (d 0), .int .i64 (d 1), .int .i64 (d 2), .int .i64 (d 3), .int .i64 (d 4), .int .i64 (d 5), .int .i64 (d 6)]) (.int .i64 q)).run Try.prog w = .ok (.int .i64 (d q)) w := by
  rcases (show q = 0 ∨ q = 1 ∨ q = 2 ∨ q = 3 ∨ q = 4 ∨ q = 5 ∨ q = 6 by omega) with rfl | rfl | rfl | rfl | rfl | rfl | rfl <;> kernel_rfl
theorem f7_get (f : F7) {q : Nat} (hq : q < 7) : f.cells[q]? = some (.int .i64 (f.at q)) := by
  rcases (show q = 0 ∨ q = 1 ∨ q = 2 ∨ q = 3 ∨ q = 4 ∨ q = 5 ∨ q = 6 by omega) with rfl | rfl | rfl | rfl | rfl | rfl | rfl <;> rfl
/-- a loop's parts -/
def LdRel (w : World) (p m bA bI bF : Nat) (es : List (I2 × A8)) (f : F7) (a : A8) (r t : Int) (k : Nat) (u v : Value) (wr : World) : Prop :=
  ∃ q : Nat, u = .int .i64 q ∧ q + k = 7 ∧ At [GrP p m es] w [rowI2 v (leadsU f a q), Part.cells bF f.cells 24, headC p m, mapC m (ents es)] wr
def LeadsPost (p m : Nat) (es : List (I2 × A8)) (l : List I2) (w : World) (e : Ending) (w' : World) : Prop := ∃ v, e = .returned v ∧ At [GrP p m es] w [rowI2 v l, GrP p m es] w'
set_option maxRecDepth 100000 in
set_option maxHeartbeats 2000000 in
theorem leads_any {w : World} {p m : Nat} {es : List (I2 × A8)} (h : Sep [GrP p m es] w) (f : F7) (x : I2) (hx : okD x) (hd : ∀ a, getA es x = some a → ∀ q, q < 7 → 0 ≤ a.dep q ∧ a.dep q ≤ 1024) :
    Calls Try.prog 20 #[.pointer (some ⟨p, 0, none⟩), f.val, idV x] w (LeadsPost p m es (leadsG es f x) w) := by
  obtain ⟨i0, hi0, hz0, hz1, hz2⟩ := info_parts infoI
  have hA := begin0 h
  have hF := hA.facts
  obtain ⟨kl, hk⟩ := keyI hx
  clear h hx
  unfold leadsG
  cases hg : getA es x with
  | none =>
    have hq := Lib.hid hg
    clear hg hd
    obtain ⟨r, t⟩ := x
    obtain ⟨f0, f1, f2, f3, f4, f5, f6⟩ := f
    simp only [F7.val, idV] at *
    (try simp only [uA] at hA); have hF := hA.facts; (try simp only [fZ] at hF)
    go_enter Try.func20, Try.ntmps20
    go_wp2_with (first | ((with_reducible refine gbx ?_); refine wX 38 (.agg #[.int .i64 r, .int .i64 t]) [.int .i64 r, .int .i64 t] hA ?_; clear hF hA; intro bI w1 hA hbI; (try simp only [uA] at hA); have hF := hA.facts; (try simp only [fZ] at hF)) | ((with_reducible refine gbx ?_); refine wX 24 (.agg #[.int .i64 f0, .int .i64 f1, .int .i64 f2, .int .i64 f3, .int .i64 f4, .int .i64 f5, .int .i64 f6]) [.int .i64 f0, .int .i64 f1, .int .i64 f2, .int .i64 f3, .int .i64 f4, .int .i64 f5, .int .i64 f6] hA ?_; clear hF hA; intro bF w1 hA hbF; (try simp only [uA] at hA); have hF := hA.facts; (try simp only [fZ] at hF)) | ((with_reducible refine gst ?_); refine wS hA ?_; clear hF hA; intro w1 hA; (try simp only [uA] at hA); have hF := hA.facts; (try simp only [fZ] at hF)) | ((with_reducible refine gbx ?_); refine wB hA ?_; clear hF hA; intro b1 w1 hA hb1; (try simp only [uA] at hA); have hF := hA.facts; (try simp only [fZ] at hF)))
    try go_frame
    (refine wp_region_new (a1 := ?a1_q5) (v := ?v_q5) 9 7 65 _ (.agg #[.int .i64 0, .int .i64 0, .int .i64 0, .int .i64 0, .int .i64 0, .int .i64 0, .int .i64 0, .int .i64 0]) [.int .i64 0, .int .i64 0, .int .i64 0, .int .i64 0, .int .i64 0, .int .i64 0, .int .i64 0, .int .i64 0] ([.int .i64 0, .int .i64 0, .int .i64 0, .int .i64 0, .int .i64 0, .int .i64 0, .int .i64 0, .int .i64 0]) (by kernel_rfl) (by kernel_rfl) rfl rfl ?hyd_q5 (by kernel_rfl) rfl hA ?h1_q5 ?hd_q5 ?hy_q5 ?hu_q5 ?hsz_q5 ?hus_q5 ?hl_q5 ?h2_q5); (case h1_q5 => (intro R wR hR; (try clear hF); (simp only [List.take_succ_cons, List.take_zero, List.drop_succ_cons, List.drop_zero]); (have hn1 := Cl.none hR); (have hn2 := Cl.none2 hR); (repeat (first | go_big_quiet_skip | (go_big_quiet_want; (first | (refine quiet_loads_at (ty := 38) (n := 2) rfl rfl sR (by kernel_rfl) (by kernel_rfl) (by first | assumption | ((try simp only [List.drop_succ_cons, List.drop_zero, List.take_succ_cons, List.take_zero]) <;> exact rfl)) (by exact rfl) ?_; go_frame; go_big_quiet_on) | ((refine quiet_look_none_at rfl rfl (by (try simp only [Act.eval, eV]) <;> exact rfl) (k := 38) (es := ents es) sR lawI Try.underlying82 hk (getA_none hq.out) (z := A8.zero.val) (fun _ => by kernel_rfl) ?_); go_frame; go_big_quiet_on) | (refine quiet_load_at rfl rfl sR (by kernel_rfl) (by first | assumption | exact rfl) ?_; go_frame; go_big_quiet_on) | (go_big_quiet_op; (first | go_big_quiet_on)))))); (refine wpQuiet_nil ?_); exact rfl)); (case hyd_q5 => rfl); (case hd_q5 => (first | decide | simp)); (case hy_q5 => ((try simp only [Act.eval, Array.getD_eq_getD_getElem?, List.getElem?_toArray, List.getElem?_cons_succ, List.getElem?_cons_zero, Option.getD_some]); exact rfl)); (case hu_q5 => exact rfl); (case hsz_q5 => kernel_rfl); (case hus_q5 => rfl); (case hl_q5 => rfl); (intro b1 w1 hB hb1; clear hF hA; have hA := hB; clear hB; (simp only [List.drop_succ_cons, List.drop_zero]); (try simp only [uA] at hA); have hF := hA.facts; (try simp only [fZ] at hF); (try go_frame))
    go_wp2_with (first | ((with_reducible refine gst ?_); refine wS hA ?_; clear hF hA; intro w1 hA; (try simp only [uA] at hA); have hF := hA.facts; (try simp only [fZ] at hF)) | ((with_reducible refine gbx ?_); refine wB hA ?_; clear hF hA; intro b1 w1 hA hb1; (try simp only [uA] at hA); have hF := hA.facts; (try simp only [fZ] at hF)))
    go_ret
    exact ⟨_, rfl, (fold0 (hA.row_nil 38 2) sZ sZ).only2 sZ sZ⟩
  | some b =>
    have hq := Lib.hid (getA_ent hg)
    have hd' := Lib.hid (hd b hg)
    clear hg hd
    have hlen := fun q => leadsU_len f b q
    have hlen' := Lib.hid hlen
    clear hlen
    obtain ⟨r, t⟩ := x
    have hfe : f = ⟨f.f0, f.f1, f.f2, f.f3, f.f4, f.f5, f.f6⟩ := rfl
    have hbe : b = ⟨b.s, b.d0, b.d1, b.d2, b.d3, b.d4, b.d5, b.d6⟩ := rfl
    simp only [F7.val, idV, A8.val] at *
    (try simp only [uA] at hA); have hF := hA.facts; (try simp only [fZ] at hF)
    go_enter Try.func20, Try.ntmps20
    go_wp2_with (first | ((with_reducible refine gbx ?_); refine wX 38 (.agg #[.int .i64 r, .int .i64 t]) [.int .i64 r, .int .i64 t] hA ?_; clear hF hA; intro bI w1 hA hbI; (try simp only [uA] at hA); have hF := hA.facts; (try simp only [fZ] at hF)) | ((with_reducible refine gbx ?_); refine wX 24 (.agg #[.int .i64 f.f0, .int .i64 f.f1, .int .i64 f.f2, .int .i64 f.f3, .int .i64 f.f4, .int .i64 f.f5, .int .i64 f.f6]) [.int .i64 f.f0, .int .i64 f.f1, .int .i64 f.f2, .int .i64 f.f3, .int .i64 f.f4, .int .i64 f.f5, .int .i64 f.f6] hA ?_; clear hF hA; intro bF w1 hA hbF; (try simp only [uA] at hA); have hF := hA.facts; (try simp only [fZ] at hF)) | ((with_reducible refine gst ?_); refine wS hA ?_; clear hF hA; intro w1 hA; (try simp only [uA] at hA); have hF := hA.facts; (try simp only [fZ] at hF)) | ((with_reducible refine gbx ?_); refine wB hA ?_; clear hF hA; intro b1 w1 hA hb1; (try simp only [uA] at hA); have hF := hA.facts; (try simp only [fZ] at hF)))
    try go_frame
    (refine wp_region_new (a1 := ?a1_q6) (v := ?v_q6) 9 7 65 _ (.agg #[.int .i64 0, .int .i64 0, .int .i64 0, .int .i64 0, .int .i64 0, .int .i64 0, .int .i64 0, .int .i64 0]) [.int .i64 0, .int .i64 0, .int .i64 0, .int .i64 0, .int .i64 0, .int .i64 0, .int .i64 0, .int .i64 0] ([.int .i64 (b.s), .int .i64 (b.d0), .int .i64 (b.d1), .int .i64 (b.d2), .int .i64 (b.d3), .int .i64 (b.d4), .int .i64 (b.d5), .int .i64 (b.d6)]) (by kernel_rfl) (by kernel_rfl) rfl rfl ?hyd_q6 (by kernel_rfl) rfl hA ?h1_q6 ?hd_q6 ?hy_q6 ?hu_q6 ?hsz_q6 ?hus_q6 ?hl_q6 ?h2_q6); (case h1_q6 => (intro R wR hR; (try clear hF); (simp only [List.take_succ_cons, List.take_zero, List.drop_succ_cons, List.drop_zero]); (have hn1 := Cl.none hR); (have hn2 := Cl.none2 hR); (repeat (first | go_big_quiet_skip | (go_big_quiet_want; (first | (refine quiet_loads_at (ty := 38) (n := 2) rfl rfl sR (by kernel_rfl) (by kernel_rfl) (by first | assumption | ((try simp only [List.drop_succ_cons, List.drop_zero, List.take_succ_cons, List.take_zero]) <;> exact rfl)) (by exact rfl) ?_; go_frame; go_big_quiet_on) | ((refine quiet_look_some_at rfl rfl (by (try simp only [Act.eval, eV]) <;> exact rfl) (k := 38) (es := ents es) sR lawI Try.underlying82 hk (hq.out) ?_); go_frame; go_big_quiet_on) | (refine quiet_load_at rfl rfl sR (by kernel_rfl) (by first | assumption | exact rfl) ?_; go_frame; go_big_quiet_on) | (go_big_quiet_op; (first | go_big_quiet_on)))))); (refine wpQuiet_nil ?_); exact rfl)); (case hyd_q6 => rfl); (case hd_q6 => (first | decide | simp)); (case hy_q6 => ((try simp only [Act.eval, Array.getD_eq_getD_getElem?, List.getElem?_toArray, List.getElem?_cons_succ, List.getElem?_cons_zero, Option.getD_some]); exact rfl)); (case hu_q6 => exact rfl); (case hsz_q6 => kernel_rfl); (case hus_q6 => rfl); (case hl_q6 => rfl); (intro b1 w1 hB hb1; clear hF hA; have hA := hB; clear hB; (simp only [List.drop_succ_cons, List.drop_zero]); (try simp only [uA] at hA); have hF := hA.facts; (try simp only [fZ] at hF); (try go_frame))
    go_wp2_with (first | ((with_reducible refine gst ?_); refine wS hA ?_; clear hF hA; intro w1 hA; (try simp only [uA] at hA); have hF := hA.facts; (try simp only [fZ] at hF)) | ((with_reducible refine gbx ?_); refine wB hA ?_; clear hF hA; intro b1 w1 hA hb1; (try simp only [uA] at hA); have hF := hA.facts; (try simp only [fZ] at hF)))
    have hB := hA.row_nil 38 2
    clear hF hA; have hA := hB; clear hB
    go_loopg [25, 9] 7 (LdRel w p m b1 bI bF es f b r t)
    case atStart => exact ⟨0, rfl, rfl, hA.pick pZ⟩
    case round =>
      obtain ⟨q, rfl, hqk, hB⟩ := hrel
      clear hF hA; have hA := hB; clear hB
      by_cases hq7 : q < 7
      · have hix : ∀ w, (Instr.index 23 (.agg #[.int .i64 b.d0, .int .i64 b.d1, .int .i64 b.d2, .int .i64 b.d3, .int .i64 b.d4, .int .i64 b.d5, .int .i64 b.d6]) (.int .i64 q)).run Try.prog w = .ok (.int .i64 (b.dep q)) w := fun w => index7 (fun q => b.dep q) q hq7 w
        have hcf : wr.cell? ⟨bF, q, none⟩ = some (.int .i64 (f.at q)) := by
          have hb : BlockIs wr bF f.cells 24 := hA.get (A := Part.cells bF f.cells 24) sR
          rw [hb.cell]
          exact f7_get f hq7
        have hdq := hd'.out q hq7
        have hsc := Lib.hid (leadsU_succ f b q)
        have hll := hlen'.out q
        generalize b.dep q = dq at *
        generalize f.at q = fq at *
        generalize leadsU f b q = l at *
        obtain ⟨ax, cap, hv9, hax, hcp, _⟩ := hA.row_form .here
        have hax' := Lib.hid hax
        subst hv9
        clear hax
        (try simp only [uA] at hA); have hF := hA.facts; (try simp only [fZ] at hF)
        by_cases hlt : fq < dq
        · have hwr : IntKind.i64.wrap (dq - 1) = dq - 1 := by rw [IntKind.wrap_i64] <;> omega
          rw [if_pos hlt] at hsc
          go_wp2_with (first | ((with_reducible show wpList _ _ _ ({ dst := _, op := Op.buildSlice _ _ _, type := _, pos := _, after := _, guard := _ } :: _) _ _); refine wpList_one_at (e := 38) (vs := idL ((q : Int), dq - 1)) rfl rfl (by (try simp only [Act.eval, eV]) <;> exact rfl) (fun _ => by kernel_rfl) hA ?_; intro b39 w1 hB hb39; clear hF hA; have hA := hB; clear hB; (try simp only [uA] at hA); have hF := hA.facts; (try simp only [fZ] at hF)) | ((with_reducible show wpList _ _ _ ({ dst := _, op := Op.call { callee := Callee.builtin Builtin.append, args := _, argTypes := _ }, type := _, pos := _, after := _, guard := _ } :: _) _ _); refine wpList_append_at (e := 38) (size := 2) (v := .slice ax l.length cap) (xs := flatI l) (n := l.length) (m := 1) (news := idL ((q : Int), dq - 1)) rfl _ _ 31 rfl Try.underlying31 hi0 hz0 hz1 hz2 rfl (by omega) hA sR (by (try simp only [Act.eval, eV]) <;> exact rfl) (by (try simp only [Act.eval, eV]) <;> exact rfl) rfl (hA.cells_reads sR _ _) (idL_one _) (by unfold maxLen; omega) (by omega) ?_; intro v1 w1 hB; rw [rowI2_snoc] at hB; clear hF hA; have hA := hB; clear hB; (try simp only [uA] at hA); have hF := hA.facts; (try simp only [fZ] at hF)) | ((with_reducible refine gst ?_); refine wS hA ?_; clear hF hA; intro w1 hA; (try simp only [uA] at hA); have hF := hA.facts; (try simp only [fZ] at hF)) | ((with_reducible refine gbx ?_); refine wB hA ?_; clear hF hA; intro b1 w1 hA hb1; (try simp only [uA] at hA); have hF := hA.facts; (try simp only [fZ] at hF)))
          go_roundg (gk - 1)
          case measure => omega
          case rel => exact ⟨q + 1, by simp, by omega, by rw [hsc.out]; exact hA.pick pZ⟩
        · rw [if_neg hlt, List.append_nil] at hsc
          go_wp2_with (first | ((with_reducible refine gst ?_); refine wS hA ?_; clear hF hA; intro w1 hA; (try simp only [uA] at hA); have hF := hA.facts; (try simp only [fZ] at hF)) | ((with_reducible refine gbx ?_); refine wB hA ?_; clear hF hA; intro b1 w1 hA hb1; (try simp only [uA] at hA); have hF := hA.facts; (try simp only [fZ] at hF)))
          go_roundg (gk - 1)
          case measure => omega
          case rel => exact ⟨q + 1, by simp, by omega, by rw [hsc.out]; exact hA.pick pZ⟩
      · have hq2 : q = 7 := by omega
        subst hq2
        (try simp only [uA] at hA); have hF := hA.facts; (try simp only [fZ] at hF)
        go_wp2_with (first | ((with_reducible refine gst ?_); refine wS hA ?_; clear hF hA; intro w1 hA; (try simp only [uA] at hA); have hF := hA.facts; (try simp only [fZ] at hF)) | ((with_reducible refine gbx ?_); refine wB hA ?_; clear hF hA; intro b1 w1 hA hb1; (try simp only [uA] at hA); have hF := hA.facts; (try simp only [fZ] at hF)))
        go_ret
        exact ⟨_, rfl, (fold0 hA sZ sZ).only2 sZ sZ⟩
end Go.Proofs.Ytgicohkmfbbbdaa.Gr
end
