/- The document's answer of layer 12 (index): Note at no list; the law's of, small. -/
import Derived.Test.YtpbeennielgogaaDoorRefD
import Derived.Lib.MinMax
namespace Go.Proofs.YtpbeennielgogaaDoor.Ix
open Go.RowKit
open Path (bl rightB overB)
open Attr (A8 rightI)
open Cmd (Cm through0 idR_any refFoot_ok)
set_option linter.unusedSimpArgs false
set_option linter.unusedVariables false
attribute [-go_sem] run_eql_struct run_neq_struct run_eqGuard_agg

set_option maxRecDepth 100000 in
theorem of12_any (c : Cm) (w : World) : Calls Tryd.prog 20 #[c.val] w fun e w' => e = .returned c.val ∧ Ext w w' := by
  have hA : At [] w [] w := At.start (L0 := []) trivial
  have hF := hA.facts
  obtain ⟨kind, num, foot, req, path, mode, n, time⟩ := c
  simp only [Cm.val]
  (try simp only [uA] at hA); have hF := hA.facts; (try simp only [fA, facts_row, and_true, true_and] at hF)
  go_enter Tryd.func20, Tryd.ntmps20
  go_wp2_with (first | ((with_reducible refine gbx ?_); refine wX 28 (.agg #[.int .i64 kind, .int .u64 num, .string foot, .int .u64 req, .string path, .int .i64 mode, .int .u64 n, .int .i64 time]) [.int .i64 kind, .int .u64 num, .string foot, .int .u64 req, .string path, .int .i64 mode, .int .u64 n, .int .i64 time] hA ?_; clear hF hA; intro bX w1 hA hbX; (try simp only [uA] at hA); have hF := hA.facts; (try simp only [fA, facts_row, and_true, true_and] at hF)) | ((with_reducible refine gal ?_); refine wA 62 (.agg #[.int .i64 0, .int .u64 0, .string .empty, .int .u64 0, .string .empty, .int .i64 0, .int .u64 0, .int .i64 0]) [.int .i64 0, .int .u64 0, .string .empty, .int .u64 0, .string .empty, .int .i64 0, .int .u64 0, .int .i64 0] hA ?_; clear hF hA; intro bR w1 hA hbR; (try simp only [uA] at hA); have hF := hA.facts; (try simp only [fA, facts_row, and_true, true_and] at hF)) | ((with_reducible refine gst ?_); refine wS hA ?_; clear hF hA; intro w1 hA; (try simp only [uA] at hA); have hF := hA.facts; (try simp only [fA, facts_row, and_true, true_and] at hF)) | ((with_reducible refine gbx ?_); refine wB hA ?_; clear hF hA; intro b1 w1 hA hb1; (try simp only [uA] at hA); have hF := hA.facts; (try simp only [fA, facts_row, and_true, true_and] at hF)))
  refine bodyPost_ret (v := .agg #[.int .i64 kind, .int .u64 num, .string foot, .int .u64 req, .string path, .int .i64 mode, .int .u64 n, .int .i64 time]) (by simp [results, Tryd.results20, go_sem, hF]) rfl ⟨rfl, hA.toExt⟩
def smallB (c : Cm) : Bool := decide (c.path.size < 200) && decide (c.foot.size < 200)
set_option maxRecDepth 100000 in
theorem small_any (c : Cm) (w : World) : Calls Tryd.prog 7 #[c.val] w fun e w' => e = .returned (.bool (smallB c)) ∧ Ext w w' := by
  have hA : At [] w [] w := At.start (L0 := []) trivial
  have hF := hA.facts
  obtain ⟨kind, num, foot, req, path, mode, n, time⟩ := c
  unfold smallB
  simp only [Cm.val]
  obtain ⟨x0, h0⟩ : ∃ x, decide (path.size < 200) = x := ⟨_, rfl⟩
  obtain ⟨x1, h1⟩ : ∃ x, decide (foot.size < 200) = x := ⟨_, rfl⟩
  have g0 : decide ((path.size : Int) < 200) = x0 := by rw [← h0, decide_eq_decide]; omega
  have g1 : decide ((foot.size : Int) < 200) = x1 := by rw [← h1, decide_eq_decide]; omega
  rw [h0, h1]
  clear h0 h1
  (try simp only [uA] at hA); have hF := hA.facts; (try simp only [fA, facts_row, and_true, true_and] at hF)
  cases x0
  · go_enter Tryd.func7, Tryd.ntmps7
    go_wp2_with (first | ((with_reducible refine gbx ?_); refine wX 28 (.agg #[.int .i64 kind, .int .u64 num, .string foot, .int .u64 req, .string path, .int .i64 mode, .int .u64 n, .int .i64 time]) [.int .i64 kind, .int .u64 num, .string foot, .int .u64 req, .string path, .int .i64 mode, .int .u64 n, .int .i64 time] hA ?_; clear hF hA; intro bX w1 hA hbX; (try simp only [uA] at hA); have hF := hA.facts; (try simp only [fA, facts_row, and_true, true_and] at hF)) | ((with_reducible refine gst ?_); refine wS hA ?_; clear hF hA; intro w1 hA; (try simp only [uA] at hA); have hF := hA.facts; (try simp only [fA, facts_row, and_true, true_and] at hF)) | ((with_reducible refine gbx ?_); refine wB hA ?_; clear hF hA; intro b1 w1 hA hb1; (try simp only [uA] at hA); have hF := hA.facts; (try simp only [fA, facts_row, and_true, true_and] at hF)))
    go_ret
    exact ⟨rfl, hA.toExt⟩
  · go_enter Tryd.func7, Tryd.ntmps7
    go_wp2_with (first | ((with_reducible refine gbx ?_); refine wX 28 (.agg #[.int .i64 kind, .int .u64 num, .string foot, .int .u64 req, .string path, .int .i64 mode, .int .u64 n, .int .i64 time]) [.int .i64 kind, .int .u64 num, .string foot, .int .u64 req, .string path, .int .i64 mode, .int .u64 n, .int .i64 time] hA ?_; clear hF hA; intro bX w1 hA hbX; (try simp only [uA] at hA); have hF := hA.facts; (try simp only [fA, facts_row, and_true, true_and] at hF)) | ((with_reducible refine gst ?_); refine wS hA ?_; clear hF hA; intro w1 hA; (try simp only [uA] at hA); have hF := hA.facts; (try simp only [fA, facts_row, and_true, true_and] at hF)) | ((with_reducible refine gbx ?_); refine wB hA ?_; clear hF hA; intro b1 w1 hA hb1; (try simp only [uA] at hA); have hF := hA.facts; (try simp only [fA, facts_row, and_true, true_and] at hF)))
    go_ret
    exact ⟨rfl, hA.toExt⟩
def cutI (q : Int) : Int := if q < 0 then 0 else if 1073741824 < q then 1073741824 else q
set_option maxRecDepth 100000 in
theorem cut_any (q : Int) (w : World) : Calls Tryd.prog 31 #[.int .i64 q] w fun e w' => e = .returned (.int .i64 (cutI q)) ∧ Ext w w' := by
  have hA : At [] w [] w := At.start (L0 := []) trivial
  unfold cutI
  by_cases h0 : q < 0
  · rw [if_pos h0]
    go_enter Tryd.func31, Tryd.ntmps31
    go_wp2_with fail
    go_ret
    exact ⟨rfl, hA.toExt⟩
  · rw [if_neg h0]
    by_cases h1 : 1073741824 < q
    · rw [if_pos h1]
      go_enter Tryd.func31, Tryd.ntmps31
      go_wp2_with fail
      go_ret
      exact ⟨rfl, hA.toExt⟩
    · rw [if_neg h1]
      go_enter Tryd.func31, Tryd.ntmps31
      go_wp2_with fail
      go_ret
      exact ⟨rfl, hA.toExt⟩
theorem infoN : (Tryd.prog.info? 70).map (fun i => (i.zero, i.size, i.bytes)) = some (some (.agg #[.string .empty, .int .u64 0, .int .i64 0, .int .i64 0, .int .i64 0, .int .i64 0, .int .i64 0, .int .i64 0, .int .i64 0, .int .i64 0]), 10, 88) := by kernel_rfl
set_option maxRecDepth 100000 in
set_option maxHeartbeats 4000000 in
theorem noteR_nil (c : Cm) (hf : c.foot.size ≤ 1000) (hp : c.path.size ≤ 1000) (r t q : Int) (w : World) :
    Calls Tryd.prog 19 #[.slice none 0 0, c.val, .agg #[.int .i64 r, .int .i64 t], .int .i64 q] w fun e w' => ∃ v, e = .returned v ∧ Ext w w' := by
  obtain ⟨i0, hi0, hz0, hz1, hz2⟩ := info_parts infoN
  have hA : At [] w [] w := At.start (L0 := []) trivial
  have hF := hA.facts
  obtain ⟨ff, fb, hfo⟩ := refFoot_ok c hf hp
  have hri := fun w => idR_any r t w
  obtain ⟨ri, hrid⟩ : ∃ ri, rightI r t = ri := ⟨_, rfl⟩
  rw [hrid] at hri
  have hcu := fun w => cut_any q w
  generalize cutI q = cq at *
  obtain ⟨kind, num, foot, req, path, mode, n, time⟩ := c
  simp only [Cm.val] at *
  cases fb with
  | false =>
    (try simp only [uA] at hA); have hF := hA.facts; (try simp only [fA, facts_row, and_true, true_and] at hF)
    go_enter Tryd.func19, Tryd.ntmps19
    go_wp2_with (first | ((with_reducible refine gbx ?_); refine wX 62 (.agg #[.int .i64 kind, .int .u64 num, .string foot, .int .u64 req, .string path, .int .i64 mode, .int .u64 n, .int .i64 time]) [.int .i64 kind, .int .u64 num, .string foot, .int .u64 req, .string path, .int .i64 mode, .int .u64 n, .int .i64 time] hA ?_; clear hF hA; intro bC w1 hA hbC; (try simp only [uA] at hA); have hF := hA.facts; (try simp only [fA, facts_row, and_true, true_and] at hF)) | ((with_reducible refine gbx ?_); refine wX 64 (.agg #[.int .i64 r, .int .i64 t]) [.int .i64 r, .int .i64 t] hA ?_; clear hF hA; intro bI w1 hA hbI; (try simp only [uA] at hA); have hF := hA.facts; (try simp only [fA, facts_row, and_true, true_and] at hF)) | ((with_reducible refine gst ?_); refine wS hA ?_; clear hF hA; intro w1 hA; (try simp only [uA] at hA); have hF := hA.facts; (try simp only [fA, facts_row, and_true, true_and] at hF)) | ((with_reducible refine gbx ?_); refine wB hA ?_; clear hF hA; intro b1 w1 hA hb1; (try simp only [uA] at hA); have hF := hA.facts; (try simp only [fA, facts_row, and_true, true_and] at hF)))
    refine (hfo _).mono ?_
    clear hfo
    rintro e w1 ⟨rfl, hx⟩
    have hB := hA.ext hx
    clear hF hA hx
    have hA := hB
    clear hB
    have hF := hA.facts
    (try simp only [uA] at hA); have hF := hA.facts; (try simp only [fA, facts_row, and_true, true_and] at hF)
    go_wp2_with (first | ((with_reducible refine gst ?_); refine wS hA ?_; clear hF hA; intro w1 hA; (try simp only [uA] at hA); have hF := hA.facts; (try simp only [fA, facts_row, and_true, true_and] at hF)) | ((with_reducible refine gbx ?_); refine wB hA ?_; clear hF hA; intro b1 w1 hA hb1; (try simp only [uA] at hA); have hF := hA.facts; (try simp only [fA, facts_row, and_true, true_and] at hF)))
    go_ret
    exact ⟨_, rfl, hA.toExt⟩
  | true =>
    cases ri with
    | false =>
      (try simp only [uA] at hA); have hF := hA.facts; (try simp only [fA, facts_row, and_true, true_and] at hF)
      go_enter Tryd.func19, Tryd.ntmps19
      go_wp2_with (first | ((with_reducible refine gbx ?_); refine wX 62 (.agg #[.int .i64 kind, .int .u64 num, .string foot, .int .u64 req, .string path, .int .i64 mode, .int .u64 n, .int .i64 time]) [.int .i64 kind, .int .u64 num, .string foot, .int .u64 req, .string path, .int .i64 mode, .int .u64 n, .int .i64 time] hA ?_; clear hF hA; intro bC w1 hA hbC; (try simp only [uA] at hA); have hF := hA.facts; (try simp only [fA, facts_row, and_true, true_and] at hF)) | ((with_reducible refine gbx ?_); refine wX 64 (.agg #[.int .i64 r, .int .i64 t]) [.int .i64 r, .int .i64 t] hA ?_; clear hF hA; intro bI w1 hA hbI; (try simp only [uA] at hA); have hF := hA.facts; (try simp only [fA, facts_row, and_true, true_and] at hF)) | ((with_reducible refine gst ?_); refine wS hA ?_; clear hF hA; intro w1 hA; (try simp only [uA] at hA); have hF := hA.facts; (try simp only [fA, facts_row, and_true, true_and] at hF)) | ((with_reducible refine gbx ?_); refine wB hA ?_; clear hF hA; intro b1 w1 hA hb1; (try simp only [uA] at hA); have hF := hA.facts; (try simp only [fA, facts_row, and_true, true_and] at hF)))
      refine (hfo _).mono ?_
      clear hfo
      rintro e w1 ⟨rfl, hx⟩
      have hB := hA.ext hx
      clear hF hA hx
      have hA := hB
      clear hB
      have hF := hA.facts
      (try simp only [uA] at hA); have hF := hA.facts; (try simp only [fA, facts_row, and_true, true_and] at hF)
      go_wp2_with (first | ((with_reducible refine gst ?_); refine wS hA ?_; clear hF hA; intro w1 hA; (try simp only [uA] at hA); have hF := hA.facts; (try simp only [fA, facts_row, and_true, true_and] at hF)) | ((with_reducible refine gbx ?_); refine wB hA ?_; clear hF hA; intro b1 w1 hA hb1; (try simp only [uA] at hA); have hF := hA.facts; (try simp only [fA, facts_row, and_true, true_and] at hF)))
      refine (hri _).mono ?_
      clear hri
      rintro e w1 ⟨rfl, hx⟩
      have hB := hA.ext hx
      clear hF hA hx
      have hA := hB
      clear hB
      have hF := hA.facts
      (try simp only [uA] at hA); have hF := hA.facts; (try simp only [fA, facts_row, and_true, true_and] at hF)
      go_wp2_with (first | ((with_reducible refine gst ?_); refine wS hA ?_; clear hF hA; intro w1 hA; (try simp only [uA] at hA); have hF := hA.facts; (try simp only [fA, facts_row, and_true, true_and] at hF)) | ((with_reducible refine gbx ?_); refine wB hA ?_; clear hF hA; intro b1 w1 hA hb1; (try simp only [uA] at hA); have hF := hA.facts; (try simp only [fA, facts_row, and_true, true_and] at hF)))
      go_ret
      exact ⟨_, rfl, hA.toExt⟩
    | true =>
      have hq := Attr.rightI_iff.1 hrid
      have hq7 : r = 0 ∨ r = 1 ∨ r = 2 ∨ r = 3 ∨ r = 4 ∨ r = 5 ∨ r = 6 := by omega
      have hwt : IntKind.i64.wrap (t + 1) = t + 1 := by rw [IntKind.wrap_i64] <;> omega
      clear hq hrid
      have hB := hA.row_nil 70 10
      clear hF hA
      have hA := hB
      clear hB
      have hF := hA.facts
      (try simp only [uA] at hA); have hF := hA.facts; (try simp only [fA, facts_row, and_true, true_and] at hF)
      rcases hq7 with rfl | rfl | rfl | rfl | rfl | rfl | rfl
      · go_enter Tryd.func19, Tryd.ntmps19
        go_wp2_with (first | ((with_reducible refine gbx ?_); refine wX 62 (.agg #[.int .i64 kind, .int .u64 num, .string foot, .int .u64 req, .string path, .int .i64 mode, .int .u64 n, .int .i64 time]) [.int .i64 kind, .int .u64 num, .string foot, .int .u64 req, .string path, .int .i64 mode, .int .u64 n, .int .i64 time] hA ?_; clear hF hA; intro bC w1 hA hbC; (try simp only [uA] at hA); have hF := hA.facts; (try simp only [fA, facts_row, and_true, true_and] at hF)) | ((with_reducible refine gbx ?_); refine wX 64 (.agg #[.int .i64 0, .int .i64 t]) [.int .i64 0, .int .i64 t] hA ?_; clear hF hA; intro bI w1 hA hbI; (try simp only [uA] at hA); have hF := hA.facts; (try simp only [fA, facts_row, and_true, true_and] at hF)) | ((with_reducible refine gst ?_); refine wS hA ?_; clear hF hA; intro w1 hA; (try simp only [uA] at hA); have hF := hA.facts; (try simp only [fA, facts_row, and_true, true_and] at hF)) | ((with_reducible refine gbx ?_); refine wB hA ?_; clear hF hA; intro b1 w1 hA hb1; (try simp only [uA] at hA); have hF := hA.facts; (try simp only [fA, facts_row, and_true, true_and] at hF)))
        refine (hfo _).mono ?_
        clear hfo
        rintro e w1 ⟨rfl, hx⟩
        have hB := hA.ext hx
        clear hF hA hx
        have hA := hB
        clear hB
        have hF := hA.facts
        (try simp only [uA] at hA); have hF := hA.facts; (try simp only [fA, facts_row, and_true, true_and] at hF)
        go_wp2_with (first | ((with_reducible refine gst ?_); refine wS hA ?_; clear hF hA; intro w1 hA; (try simp only [uA] at hA); have hF := hA.facts; (try simp only [fA, facts_row, and_true, true_and] at hF)) | ((with_reducible refine gbx ?_); refine wB hA ?_; clear hF hA; intro b1 w1 hA hb1; (try simp only [uA] at hA); have hF := hA.facts; (try simp only [fA, facts_row, and_true, true_and] at hF)))
        refine (hri _).mono ?_
        clear hri
        rintro e w1 ⟨rfl, hx⟩
        have hB := hA.ext hx
        clear hF hA hx
        have hA := hB
        clear hB
        have hF := hA.facts
        (try simp only [uA] at hA); have hF := hA.facts; (try simp only [fA, facts_row, and_true, true_and] at hF)
        go_wp2_with (first | ((with_reducible refine gal ?_); refine wA 70 (.agg #[.string .empty, .int .u64 0, .int .i64 0, .int .i64 0, .int .i64 0, .int .i64 0, .int .i64 0, .int .i64 0, .int .i64 0, .int .i64 0]) [.string .empty, .int .u64 0, .int .i64 0, .int .i64 0, .int .i64 0, .int .i64 0, .int .i64 0, .int .i64 0, .int .i64 0, .int .i64 0] hA ?_; clear hF hA; intro bN w1 hA hbN; (try simp only [uA] at hA); have hF := hA.facts; (try simp only [fA, facts_row, and_true, true_and] at hF)) | ((with_reducible refine gst ?_); refine wS hA ?_; clear hF hA; intro w1 hA; (try simp only [uA] at hA); have hF := hA.facts; (try simp only [fA, facts_row, and_true, true_and] at hF)) | ((with_reducible refine gbx ?_); refine wB hA ?_; clear hF hA; intro b1 w1 hA hb1; (try simp only [uA] at hA); have hF := hA.facts; (try simp only [fA, facts_row, and_true, true_and] at hF)))
        refine (hcu _).mono ?_
        clear hcu
        rintro e w1 ⟨rfl, hx⟩
        have hB := hA.ext hx
        clear hF hA hx
        have hA := hB
        clear hB
        have hF := hA.facts
        (try simp only [uA] at hA); have hF := hA.facts; (try simp only [fA, facts_row, and_true, true_and] at hF)
        go_wp2_with (first | ((with_reducible show wpList _ _ _ ({ dst := some 44, op := Op.call _, type := _, pos := _, after := _, guard := _ } :: _) _ _); refine wpList_append_at (e := 70) (size := 10) (v := .slice none 0 0) (xs := []) (n := 0) (m := 0) (news := []) rfl _ _ 45 rfl Tryd.underlying45 hi0 hz0 hz1 hz2 rfl (by omega) hA (by with_reducible repeat (first | exact Sel.here | apply Sel.there)) (by (try simp only [Act.eval, eV]) <;> exact rfl) (by (try simp only [Act.eval, eV]) <;> exact rfl) rfl (hA.row_reads (v := .slice none 0 0) (n := 0) (xs := []) (by with_reducible repeat (first | exact Sel.here | apply Sel.there))) nofun (by unfold maxLen; omega) (by omega) ?_; intro v1 w1 hB; clear hF hA; have hA := hB; clear hB; (try simp only [Nat.zero_add, List.append_nil, List.nil_append] at hA); (try simp only [uA] at hA); have hF := hA.facts; (try simp only [fA, facts_row, and_true, true_and] at hF)) | ((with_reducible show wpList _ _ _ ({ dst := _, op := Op.buildSlice _ _ _, type := _, pos := _, after := _, guard := _ } :: _) _ _); refine wpList_one_at (e := 70) (vs := [.string ff, .int .u64 num, .int .i64 cq, .int .i64 (t + 1), .int .i64 0, .int .i64 0, .int .i64 0, .int .i64 0, .int .i64 0, .int .i64 0]) rfl rfl (by (try simp only [Act.eval, eV]) <;> exact rfl) (fun _ => by kernel_rfl) hA ?_; intro b2 w1 hB hb2; clear hF hA; have hA := hB; clear hB; (try simp only [uA] at hA); have hF := hA.facts; (try simp only [fA, facts_row, and_true, true_and] at hF)) | ((with_reducible show wpList _ _ _ ({ dst := some 48, op := Op.call _, type := _, pos := _, after := _, guard := _ } :: _) _ _); refine wpList_append_at (e := 70) (size := 10) (v := v1) (xs := []) (n := 0) (m := 1) (news := [.string ff, .int .u64 num, .int .i64 cq, .int .i64 (t + 1), .int .i64 0, .int .i64 0, .int .i64 0, .int .i64 0, .int .i64 0, .int .i64 0]) rfl _ _ 45 rfl Tryd.underlying45 hi0 hz0 hz1 hz2 rfl (by omega) hA (by with_reducible repeat (first | exact Sel.here | apply Sel.there)) (by (try simp only [Act.eval, eV]) <;> exact rfl) (by (try simp only [Act.eval, eV]) <;> exact rfl) rfl (hA.cells_reads (by with_reducible repeat (first | exact Sel.here | apply Sel.there)) _ _) (by intro u hu; simp only [List.mem_cons, List.not_mem_nil, or_false] at hu; rcases hu with rfl | rfl | rfl | rfl | rfl | rfl | rfl | rfl | rfl | rfl <;> rfl) (by unfold maxLen; omega) (by omega) ?_; intro v2 w1 hB; clear hF hA; have hA := hB; clear hB; (try simp only [Nat.zero_add, List.append_nil, List.nil_append] at hA); (try simp only [uA] at hA); have hF := hA.facts; (try simp only [fA, facts_row, and_true, true_and] at hF)) | ((with_reducible refine gst ?_); refine wS hA ?_; clear hF hA; intro w1 hA; (try simp only [uA] at hA); have hF := hA.facts; (try simp only [fA, facts_row, and_true, true_and] at hF)) | ((with_reducible refine gbx ?_); refine wB hA ?_; clear hF hA; intro b1 w1 hA hb1; (try simp only [uA] at hA); have hF := hA.facts; (try simp only [fA, facts_row, and_true, true_and] at hF)))
        go_ret
        exact ⟨_, rfl, hA.toExt⟩
      · go_enter Tryd.func19, Tryd.ntmps19
        go_wp2_with (first | ((with_reducible refine gbx ?_); refine wX 62 (.agg #[.int .i64 kind, .int .u64 num, .string foot, .int .u64 req, .string path, .int .i64 mode, .int .u64 n, .int .i64 time]) [.int .i64 kind, .int .u64 num, .string foot, .int .u64 req, .string path, .int .i64 mode, .int .u64 n, .int .i64 time] hA ?_; clear hF hA; intro bC w1 hA hbC; (try simp only [uA] at hA); have hF := hA.facts; (try simp only [fA, facts_row, and_true, true_and] at hF)) | ((with_reducible refine gbx ?_); refine wX 64 (.agg #[.int .i64 1, .int .i64 t]) [.int .i64 1, .int .i64 t] hA ?_; clear hF hA; intro bI w1 hA hbI; (try simp only [uA] at hA); have hF := hA.facts; (try simp only [fA, facts_row, and_true, true_and] at hF)) | ((with_reducible refine gst ?_); refine wS hA ?_; clear hF hA; intro w1 hA; (try simp only [uA] at hA); have hF := hA.facts; (try simp only [fA, facts_row, and_true, true_and] at hF)) | ((with_reducible refine gbx ?_); refine wB hA ?_; clear hF hA; intro b1 w1 hA hb1; (try simp only [uA] at hA); have hF := hA.facts; (try simp only [fA, facts_row, and_true, true_and] at hF)))
        refine (hfo _).mono ?_
        clear hfo
        rintro e w1 ⟨rfl, hx⟩
        have hB := hA.ext hx
        clear hF hA hx
        have hA := hB
        clear hB
        have hF := hA.facts
        (try simp only [uA] at hA); have hF := hA.facts; (try simp only [fA, facts_row, and_true, true_and] at hF)
        go_wp2_with (first | ((with_reducible refine gst ?_); refine wS hA ?_; clear hF hA; intro w1 hA; (try simp only [uA] at hA); have hF := hA.facts; (try simp only [fA, facts_row, and_true, true_and] at hF)) | ((with_reducible refine gbx ?_); refine wB hA ?_; clear hF hA; intro b1 w1 hA hb1; (try simp only [uA] at hA); have hF := hA.facts; (try simp only [fA, facts_row, and_true, true_and] at hF)))
        refine (hri _).mono ?_
        clear hri
        rintro e w1 ⟨rfl, hx⟩
        have hB := hA.ext hx
        clear hF hA hx
        have hA := hB
        clear hB
        have hF := hA.facts
        (try simp only [uA] at hA); have hF := hA.facts; (try simp only [fA, facts_row, and_true, true_and] at hF)
        go_wp2_with (first | ((with_reducible refine gal ?_); refine wA 70 (.agg #[.string .empty, .int .u64 0, .int .i64 0, .int .i64 0, .int .i64 0, .int .i64 0, .int .i64 0, .int .i64 0, .int .i64 0, .int .i64 0]) [.string .empty, .int .u64 0, .int .i64 0, .int .i64 0, .int .i64 0, .int .i64 0, .int .i64 0, .int .i64 0, .int .i64 0, .int .i64 0] hA ?_; clear hF hA; intro bN w1 hA hbN; (try simp only [uA] at hA); have hF := hA.facts; (try simp only [fA, facts_row, and_true, true_and] at hF)) | ((with_reducible refine gst ?_); refine wS hA ?_; clear hF hA; intro w1 hA; (try simp only [uA] at hA); have hF := hA.facts; (try simp only [fA, facts_row, and_true, true_and] at hF)) | ((with_reducible refine gbx ?_); refine wB hA ?_; clear hF hA; intro b1 w1 hA hb1; (try simp only [uA] at hA); have hF := hA.facts; (try simp only [fA, facts_row, and_true, true_and] at hF)))
        refine (hcu _).mono ?_
        clear hcu
        rintro e w1 ⟨rfl, hx⟩
        have hB := hA.ext hx
        clear hF hA hx
        have hA := hB
        clear hB
        have hF := hA.facts
        (try simp only [uA] at hA); have hF := hA.facts; (try simp only [fA, facts_row, and_true, true_and] at hF)
        go_wp2_with (first | ((with_reducible show wpList _ _ _ ({ dst := some 44, op := Op.call _, type := _, pos := _, after := _, guard := _ } :: _) _ _); refine wpList_append_at (e := 70) (size := 10) (v := .slice none 0 0) (xs := []) (n := 0) (m := 0) (news := []) rfl _ _ 45 rfl Tryd.underlying45 hi0 hz0 hz1 hz2 rfl (by omega) hA (by with_reducible repeat (first | exact Sel.here | apply Sel.there)) (by (try simp only [Act.eval, eV]) <;> exact rfl) (by (try simp only [Act.eval, eV]) <;> exact rfl) rfl (hA.row_reads (v := .slice none 0 0) (n := 0) (xs := []) (by with_reducible repeat (first | exact Sel.here | apply Sel.there))) nofun (by unfold maxLen; omega) (by omega) ?_; intro v1 w1 hB; clear hF hA; have hA := hB; clear hB; (try simp only [Nat.zero_add, List.append_nil, List.nil_append] at hA); (try simp only [uA] at hA); have hF := hA.facts; (try simp only [fA, facts_row, and_true, true_and] at hF)) | ((with_reducible show wpList _ _ _ ({ dst := _, op := Op.buildSlice _ _ _, type := _, pos := _, after := _, guard := _ } :: _) _ _); refine wpList_one_at (e := 70) (vs := [.string ff, .int .u64 num, .int .i64 cq, .int .i64 0, .int .i64 (t + 1), .int .i64 0, .int .i64 0, .int .i64 0, .int .i64 0, .int .i64 0]) rfl rfl (by (try simp only [Act.eval, eV]) <;> exact rfl) (fun _ => by kernel_rfl) hA ?_; intro b2 w1 hB hb2; clear hF hA; have hA := hB; clear hB; (try simp only [uA] at hA); have hF := hA.facts; (try simp only [fA, facts_row, and_true, true_and] at hF)) | ((with_reducible show wpList _ _ _ ({ dst := some 48, op := Op.call _, type := _, pos := _, after := _, guard := _ } :: _) _ _); refine wpList_append_at (e := 70) (size := 10) (v := v1) (xs := []) (n := 0) (m := 1) (news := [.string ff, .int .u64 num, .int .i64 cq, .int .i64 0, .int .i64 (t + 1), .int .i64 0, .int .i64 0, .int .i64 0, .int .i64 0, .int .i64 0]) rfl _ _ 45 rfl Tryd.underlying45 hi0 hz0 hz1 hz2 rfl (by omega) hA (by with_reducible repeat (first | exact Sel.here | apply Sel.there)) (by (try simp only [Act.eval, eV]) <;> exact rfl) (by (try simp only [Act.eval, eV]) <;> exact rfl) rfl (hA.cells_reads (by with_reducible repeat (first | exact Sel.here | apply Sel.there)) _ _) (by intro u hu; simp only [List.mem_cons, List.not_mem_nil, or_false] at hu; rcases hu with rfl | rfl | rfl | rfl | rfl | rfl | rfl | rfl | rfl | rfl <;> rfl) (by unfold maxLen; omega) (by omega) ?_; intro v2 w1 hB; clear hF hA; have hA := hB; clear hB; (try simp only [Nat.zero_add, List.append_nil, List.nil_append] at hA); (try simp only [uA] at hA); have hF := hA.facts; (try simp only [fA, facts_row, and_true, true_and] at hF)) | ((with_reducible refine gst ?_); refine wS hA ?_; clear hF hA; intro w1 hA; (try simp only [uA] at hA); have hF := hA.facts; (try simp only [fA, facts_row, and_true, true_and] at hF)) | ((with_reducible refine gbx ?_); refine wB hA ?_; clear hF hA; intro b1 w1 hA hb1; (try simp only [uA] at hA); have hF := hA.facts; (try simp only [fA, facts_row, and_true, true_and] at hF)))
        go_ret
        exact ⟨_, rfl, hA.toExt⟩
      · go_enter Tryd.func19, Tryd.ntmps19
        go_wp2_with (first | ((with_reducible refine gbx ?_); refine wX 62 (.agg #[.int .i64 kind, .int .u64 num, .string foot, .int .u64 req, .string path, .int .i64 mode, .int .u64 n, .int .i64 time]) [.int .i64 kind, .int .u64 num, .string foot, .int .u64 req, .string path, .int .i64 mode, .int .u64 n, .int .i64 time] hA ?_; clear hF hA; intro bC w1 hA hbC; (try simp only [uA] at hA); have hF := hA.facts; (try simp only [fA, facts_row, and_true, true_and] at hF)) | ((with_reducible refine gbx ?_); refine wX 64 (.agg #[.int .i64 2, .int .i64 t]) [.int .i64 2, .int .i64 t] hA ?_; clear hF hA; intro bI w1 hA hbI; (try simp only [uA] at hA); have hF := hA.facts; (try simp only [fA, facts_row, and_true, true_and] at hF)) | ((with_reducible refine gst ?_); refine wS hA ?_; clear hF hA; intro w1 hA; (try simp only [uA] at hA); have hF := hA.facts; (try simp only [fA, facts_row, and_true, true_and] at hF)) | ((with_reducible refine gbx ?_); refine wB hA ?_; clear hF hA; intro b1 w1 hA hb1; (try simp only [uA] at hA); have hF := hA.facts; (try simp only [fA, facts_row, and_true, true_and] at hF)))
        refine (hfo _).mono ?_
        clear hfo
        rintro e w1 ⟨rfl, hx⟩
        have hB := hA.ext hx
        clear hF hA hx
        have hA := hB
        clear hB
        have hF := hA.facts
        (try simp only [uA] at hA); have hF := hA.facts; (try simp only [fA, facts_row, and_true, true_and] at hF)
        go_wp2_with (first | ((with_reducible refine gst ?_); refine wS hA ?_; clear hF hA; intro w1 hA; (try simp only [uA] at hA); have hF := hA.facts; (try simp only [fA, facts_row, and_true, true_and] at hF)) | ((with_reducible refine gbx ?_); refine wB hA ?_; clear hF hA; intro b1 w1 hA hb1; (try simp only [uA] at hA); have hF := hA.facts; (try simp only [fA, facts_row, and_true, true_and] at hF)))
        refine (hri _).mono ?_
        clear hri
        rintro e w1 ⟨rfl, hx⟩
        have hB := hA.ext hx
        clear hF hA hx
        have hA := hB
        clear hB
        have hF := hA.facts
        (try simp only [uA] at hA); have hF := hA.facts; (try simp only [fA, facts_row, and_true, true_and] at hF)
        go_wp2_with (first | ((with_reducible refine gal ?_); refine wA 70 (.agg #[.string .empty, .int .u64 0, .int .i64 0, .int .i64 0, .int .i64 0, .int .i64 0, .int .i64 0, .int .i64 0, .int .i64 0, .int .i64 0]) [.string .empty, .int .u64 0, .int .i64 0, .int .i64 0, .int .i64 0, .int .i64 0, .int .i64 0, .int .i64 0, .int .i64 0, .int .i64 0] hA ?_; clear hF hA; intro bN w1 hA hbN; (try simp only [uA] at hA); have hF := hA.facts; (try simp only [fA, facts_row, and_true, true_and] at hF)) | ((with_reducible refine gst ?_); refine wS hA ?_; clear hF hA; intro w1 hA; (try simp only [uA] at hA); have hF := hA.facts; (try simp only [fA, facts_row, and_true, true_and] at hF)) | ((with_reducible refine gbx ?_); refine wB hA ?_; clear hF hA; intro b1 w1 hA hb1; (try simp only [uA] at hA); have hF := hA.facts; (try simp only [fA, facts_row, and_true, true_and] at hF)))
        refine (hcu _).mono ?_
        clear hcu
        rintro e w1 ⟨rfl, hx⟩
        have hB := hA.ext hx
        clear hF hA hx
        have hA := hB
        clear hB
        have hF := hA.facts
        (try simp only [uA] at hA); have hF := hA.facts; (try simp only [fA, facts_row, and_true, true_and] at hF)
        go_wp2_with (first | ((with_reducible show wpList _ _ _ ({ dst := some 44, op := Op.call _, type := _, pos := _, after := _, guard := _ } :: _) _ _); refine wpList_append_at (e := 70) (size := 10) (v := .slice none 0 0) (xs := []) (n := 0) (m := 0) (news := []) rfl _ _ 45 rfl Tryd.underlying45 hi0 hz0 hz1 hz2 rfl (by omega) hA (by with_reducible repeat (first | exact Sel.here | apply Sel.there)) (by (try simp only [Act.eval, eV]) <;> exact rfl) (by (try simp only [Act.eval, eV]) <;> exact rfl) rfl (hA.row_reads (v := .slice none 0 0) (n := 0) (xs := []) (by with_reducible repeat (first | exact Sel.here | apply Sel.there))) nofun (by unfold maxLen; omega) (by omega) ?_; intro v1 w1 hB; clear hF hA; have hA := hB; clear hB; (try simp only [Nat.zero_add, List.append_nil, List.nil_append] at hA); (try simp only [uA] at hA); have hF := hA.facts; (try simp only [fA, facts_row, and_true, true_and] at hF)) | ((with_reducible show wpList _ _ _ ({ dst := _, op := Op.buildSlice _ _ _, type := _, pos := _, after := _, guard := _ } :: _) _ _); refine wpList_one_at (e := 70) (vs := [.string ff, .int .u64 num, .int .i64 cq, .int .i64 0, .int .i64 0, .int .i64 (t + 1), .int .i64 0, .int .i64 0, .int .i64 0, .int .i64 0]) rfl rfl (by (try simp only [Act.eval, eV]) <;> exact rfl) (fun _ => by kernel_rfl) hA ?_; intro b2 w1 hB hb2; clear hF hA; have hA := hB; clear hB; (try simp only [uA] at hA); have hF := hA.facts; (try simp only [fA, facts_row, and_true, true_and] at hF)) | ((with_reducible show wpList _ _ _ ({ dst := some 48, op := Op.call _, type := _, pos := _, after := _, guard := _ } :: _) _ _); refine wpList_append_at (e := 70) (size := 10) (v := v1) (xs := []) (n := 0) (m := 1) (news := [.string ff, .int .u64 num, .int .i64 cq, .int .i64 0, .int .i64 0, .int .i64 (t + 1), .int .i64 0, .int .i64 0, .int .i64 0, .int .i64 0]) rfl _ _ 45 rfl Tryd.underlying45 hi0 hz0 hz1 hz2 rfl (by omega) hA (by with_reducible repeat (first | exact Sel.here | apply Sel.there)) (by (try simp only [Act.eval, eV]) <;> exact rfl) (by (try simp only [Act.eval, eV]) <;> exact rfl) rfl (hA.cells_reads (by with_reducible repeat (first | exact Sel.here | apply Sel.there)) _ _) (by intro u hu; simp only [List.mem_cons, List.not_mem_nil, or_false] at hu; rcases hu with rfl | rfl | rfl | rfl | rfl | rfl | rfl | rfl | rfl | rfl <;> rfl) (by unfold maxLen; omega) (by omega) ?_; intro v2 w1 hB; clear hF hA; have hA := hB; clear hB; (try simp only [Nat.zero_add, List.append_nil, List.nil_append] at hA); (try simp only [uA] at hA); have hF := hA.facts; (try simp only [fA, facts_row, and_true, true_and] at hF)) | ((with_reducible refine gst ?_); refine wS hA ?_; clear hF hA; intro w1 hA; (try simp only [uA] at hA); have hF := hA.facts; (try simp only [fA, facts_row, and_true, true_and] at hF)) | ((with_reducible refine gbx ?_); refine wB hA ?_; clear hF hA; intro b1 w1 hA hb1; (try simp only [uA] at hA); have hF := hA.facts; (try simp only [fA, facts_row, and_true, true_and] at hF)))
        go_ret
        exact ⟨_, rfl, hA.toExt⟩
      · go_enter Tryd.func19, Tryd.ntmps19
        go_wp2_with (first | ((with_reducible refine gbx ?_); refine wX 62 (.agg #[.int .i64 kind, .int .u64 num, .string foot, .int .u64 req, .string path, .int .i64 mode, .int .u64 n, .int .i64 time]) [.int .i64 kind, .int .u64 num, .string foot, .int .u64 req, .string path, .int .i64 mode, .int .u64 n, .int .i64 time] hA ?_; clear hF hA; intro bC w1 hA hbC; (try simp only [uA] at hA); have hF := hA.facts; (try simp only [fA, facts_row, and_true, true_and] at hF)) | ((with_reducible refine gbx ?_); refine wX 64 (.agg #[.int .i64 3, .int .i64 t]) [.int .i64 3, .int .i64 t] hA ?_; clear hF hA; intro bI w1 hA hbI; (try simp only [uA] at hA); have hF := hA.facts; (try simp only [fA, facts_row, and_true, true_and] at hF)) | ((with_reducible refine gst ?_); refine wS hA ?_; clear hF hA; intro w1 hA; (try simp only [uA] at hA); have hF := hA.facts; (try simp only [fA, facts_row, and_true, true_and] at hF)) | ((with_reducible refine gbx ?_); refine wB hA ?_; clear hF hA; intro b1 w1 hA hb1; (try simp only [uA] at hA); have hF := hA.facts; (try simp only [fA, facts_row, and_true, true_and] at hF)))
        refine (hfo _).mono ?_
        clear hfo
        rintro e w1 ⟨rfl, hx⟩
        have hB := hA.ext hx
        clear hF hA hx
        have hA := hB
        clear hB
        have hF := hA.facts
        (try simp only [uA] at hA); have hF := hA.facts; (try simp only [fA, facts_row, and_true, true_and] at hF)
        go_wp2_with (first | ((with_reducible refine gst ?_); refine wS hA ?_; clear hF hA; intro w1 hA; (try simp only [uA] at hA); have hF := hA.facts; (try simp only [fA, facts_row, and_true, true_and] at hF)) | ((with_reducible refine gbx ?_); refine wB hA ?_; clear hF hA; intro b1 w1 hA hb1; (try simp only [uA] at hA); have hF := hA.facts; (try simp only [fA, facts_row, and_true, true_and] at hF)))
        refine (hri _).mono ?_
        clear hri
        rintro e w1 ⟨rfl, hx⟩
        have hB := hA.ext hx
        clear hF hA hx
        have hA := hB
        clear hB
        have hF := hA.facts
        (try simp only [uA] at hA); have hF := hA.facts; (try simp only [fA, facts_row, and_true, true_and] at hF)
        go_wp2_with (first | ((with_reducible refine gal ?_); refine wA 70 (.agg #[.string .empty, .int .u64 0, .int .i64 0, .int .i64 0, .int .i64 0, .int .i64 0, .int .i64 0, .int .i64 0, .int .i64 0, .int .i64 0]) [.string .empty, .int .u64 0, .int .i64 0, .int .i64 0, .int .i64 0, .int .i64 0, .int .i64 0, .int .i64 0, .int .i64 0, .int .i64 0] hA ?_; clear hF hA; intro bN w1 hA hbN; (try simp only [uA] at hA); have hF := hA.facts; (try simp only [fA, facts_row, and_true, true_and] at hF)) | ((with_reducible refine gst ?_); refine wS hA ?_; clear hF hA; intro w1 hA; (try simp only [uA] at hA); have hF := hA.facts; (try simp only [fA, facts_row, and_true, true_and] at hF)) | ((with_reducible refine gbx ?_); refine wB hA ?_; clear hF hA; intro b1 w1 hA hb1; (try simp only [uA] at hA); have hF := hA.facts; (try simp only [fA, facts_row, and_true, true_and] at hF)))
        refine (hcu _).mono ?_
        clear hcu
        rintro e w1 ⟨rfl, hx⟩
        have hB := hA.ext hx
        clear hF hA hx
        have hA := hB
        clear hB
        have hF := hA.facts
        (try simp only [uA] at hA); have hF := hA.facts; (try simp only [fA, facts_row, and_true, true_and] at hF)
        go_wp2_with (first | ((with_reducible show wpList _ _ _ ({ dst := some 44, op := Op.call _, type := _, pos := _, after := _, guard := _ } :: _) _ _); refine wpList_append_at (e := 70) (size := 10) (v := .slice none 0 0) (xs := []) (n := 0) (m := 0) (news := []) rfl _ _ 45 rfl Tryd.underlying45 hi0 hz0 hz1 hz2 rfl (by omega) hA (by with_reducible repeat (first | exact Sel.here | apply Sel.there)) (by (try simp only [Act.eval, eV]) <;> exact rfl) (by (try simp only [Act.eval, eV]) <;> exact rfl) rfl (hA.row_reads (v := .slice none 0 0) (n := 0) (xs := []) (by with_reducible repeat (first | exact Sel.here | apply Sel.there))) nofun (by unfold maxLen; omega) (by omega) ?_; intro v1 w1 hB; clear hF hA; have hA := hB; clear hB; (try simp only [Nat.zero_add, List.append_nil, List.nil_append] at hA); (try simp only [uA] at hA); have hF := hA.facts; (try simp only [fA, facts_row, and_true, true_and] at hF)) | ((with_reducible show wpList _ _ _ ({ dst := _, op := Op.buildSlice _ _ _, type := _, pos := _, after := _, guard := _ } :: _) _ _); refine wpList_one_at (e := 70) (vs := [.string ff, .int .u64 num, .int .i64 cq, .int .i64 0, .int .i64 0, .int .i64 0, .int .i64 (t + 1), .int .i64 0, .int .i64 0, .int .i64 0]) rfl rfl (by (try simp only [Act.eval, eV]) <;> exact rfl) (fun _ => by kernel_rfl) hA ?_; intro b2 w1 hB hb2; clear hF hA; have hA := hB; clear hB; (try simp only [uA] at hA); have hF := hA.facts; (try simp only [fA, facts_row, and_true, true_and] at hF)) | ((with_reducible show wpList _ _ _ ({ dst := some 48, op := Op.call _, type := _, pos := _, after := _, guard := _ } :: _) _ _); refine wpList_append_at (e := 70) (size := 10) (v := v1) (xs := []) (n := 0) (m := 1) (news := [.string ff, .int .u64 num, .int .i64 cq, .int .i64 0, .int .i64 0, .int .i64 0, .int .i64 (t + 1), .int .i64 0, .int .i64 0, .int .i64 0]) rfl _ _ 45 rfl Tryd.underlying45 hi0 hz0 hz1 hz2 rfl (by omega) hA (by with_reducible repeat (first | exact Sel.here | apply Sel.there)) (by (try simp only [Act.eval, eV]) <;> exact rfl) (by (try simp only [Act.eval, eV]) <;> exact rfl) rfl (hA.cells_reads (by with_reducible repeat (first | exact Sel.here | apply Sel.there)) _ _) (by intro u hu; simp only [List.mem_cons, List.not_mem_nil, or_false] at hu; rcases hu with rfl | rfl | rfl | rfl | rfl | rfl | rfl | rfl | rfl | rfl <;> rfl) (by unfold maxLen; omega) (by omega) ?_; intro v2 w1 hB; clear hF hA; have hA := hB; clear hB; (try simp only [Nat.zero_add, List.append_nil, List.nil_append] at hA); (try simp only [uA] at hA); have hF := hA.facts; (try simp only [fA, facts_row, and_true, true_and] at hF)) | ((with_reducible refine gst ?_); refine wS hA ?_; clear hF hA; intro w1 hA; (try simp only [uA] at hA); have hF := hA.facts; (try simp only [fA, facts_row, and_true, true_and] at hF)) | ((with_reducible refine gbx ?_); refine wB hA ?_; clear hF hA; intro b1 w1 hA hb1; (try simp only [uA] at hA); have hF := hA.facts; (try simp only [fA, facts_row, and_true, true_and] at hF)))
        go_ret
        exact ⟨_, rfl, hA.toExt⟩
      · go_enter Tryd.func19, Tryd.ntmps19
        go_wp2_with (first | ((with_reducible refine gbx ?_); refine wX 62 (.agg #[.int .i64 kind, .int .u64 num, .string foot, .int .u64 req, .string path, .int .i64 mode, .int .u64 n, .int .i64 time]) [.int .i64 kind, .int .u64 num, .string foot, .int .u64 req, .string path, .int .i64 mode, .int .u64 n, .int .i64 time] hA ?_; clear hF hA; intro bC w1 hA hbC; (try simp only [uA] at hA); have hF := hA.facts; (try simp only [fA, facts_row, and_true, true_and] at hF)) | ((with_reducible refine gbx ?_); refine wX 64 (.agg #[.int .i64 4, .int .i64 t]) [.int .i64 4, .int .i64 t] hA ?_; clear hF hA; intro bI w1 hA hbI; (try simp only [uA] at hA); have hF := hA.facts; (try simp only [fA, facts_row, and_true, true_and] at hF)) | ((with_reducible refine gst ?_); refine wS hA ?_; clear hF hA; intro w1 hA; (try simp only [uA] at hA); have hF := hA.facts; (try simp only [fA, facts_row, and_true, true_and] at hF)) | ((with_reducible refine gbx ?_); refine wB hA ?_; clear hF hA; intro b1 w1 hA hb1; (try simp only [uA] at hA); have hF := hA.facts; (try simp only [fA, facts_row, and_true, true_and] at hF)))
        refine (hfo _).mono ?_
        clear hfo
        rintro e w1 ⟨rfl, hx⟩
        have hB := hA.ext hx
        clear hF hA hx
        have hA := hB
        clear hB
        have hF := hA.facts
        (try simp only [uA] at hA); have hF := hA.facts; (try simp only [fA, facts_row, and_true, true_and] at hF)
        go_wp2_with (first | ((with_reducible refine gst ?_); refine wS hA ?_; clear hF hA; intro w1 hA; (try simp only [uA] at hA); have hF := hA.facts; (try simp only [fA, facts_row, and_true, true_and] at hF)) | ((with_reducible refine gbx ?_); refine wB hA ?_; clear hF hA; intro b1 w1 hA hb1; (try simp only [uA] at hA); have hF := hA.facts; (try simp only [fA, facts_row, and_true, true_and] at hF)))
        refine (hri _).mono ?_
        clear hri
        rintro e w1 ⟨rfl, hx⟩
        have hB := hA.ext hx
        clear hF hA hx
        have hA := hB
        clear hB
        have hF := hA.facts
        (try simp only [uA] at hA); have hF := hA.facts; (try simp only [fA, facts_row, and_true, true_and] at hF)
        go_wp2_with (first | ((with_reducible refine gal ?_); refine wA 70 (.agg #[.string .empty, .int .u64 0, .int .i64 0, .int .i64 0, .int .i64 0, .int .i64 0, .int .i64 0, .int .i64 0, .int .i64 0, .int .i64 0]) [.string .empty, .int .u64 0, .int .i64 0, .int .i64 0, .int .i64 0, .int .i64 0, .int .i64 0, .int .i64 0, .int .i64 0, .int .i64 0] hA ?_; clear hF hA; intro bN w1 hA hbN; (try simp only [uA] at hA); have hF := hA.facts; (try simp only [fA, facts_row, and_true, true_and] at hF)) | ((with_reducible refine gst ?_); refine wS hA ?_; clear hF hA; intro w1 hA; (try simp only [uA] at hA); have hF := hA.facts; (try simp only [fA, facts_row, and_true, true_and] at hF)) | ((with_reducible refine gbx ?_); refine wB hA ?_; clear hF hA; intro b1 w1 hA hb1; (try simp only [uA] at hA); have hF := hA.facts; (try simp only [fA, facts_row, and_true, true_and] at hF)))
        refine (hcu _).mono ?_
        clear hcu
        rintro e w1 ⟨rfl, hx⟩
        have hB := hA.ext hx
        clear hF hA hx
        have hA := hB
        clear hB
        have hF := hA.facts
        (try simp only [uA] at hA); have hF := hA.facts; (try simp only [fA, facts_row, and_true, true_and] at hF)
        go_wp2_with (first | ((with_reducible show wpList _ _ _ ({ dst := some 44, op := Op.call _, type := _, pos := _, after := _, guard := _ } :: _) _ _); refine wpList_append_at (e := 70) (size := 10) (v := .slice none 0 0) (xs := []) (n := 0) (m := 0) (news := []) rfl _ _ 45 rfl Tryd.underlying45 hi0 hz0 hz1 hz2 rfl (by omega) hA (by with_reducible repeat (first | exact Sel.here | apply Sel.there)) (by (try simp only [Act.eval, eV]) <;> exact rfl) (by (try simp only [Act.eval, eV]) <;> exact rfl) rfl (hA.row_reads (v := .slice none 0 0) (n := 0) (xs := []) (by with_reducible repeat (first | exact Sel.here | apply Sel.there))) nofun (by unfold maxLen; omega) (by omega) ?_; intro v1 w1 hB; clear hF hA; have hA := hB; clear hB; (try simp only [Nat.zero_add, List.append_nil, List.nil_append] at hA); (try simp only [uA] at hA); have hF := hA.facts; (try simp only [fA, facts_row, and_true, true_and] at hF)) | ((with_reducible show wpList _ _ _ ({ dst := _, op := Op.buildSlice _ _ _, type := _, pos := _, after := _, guard := _ } :: _) _ _); refine wpList_one_at (e := 70) (vs := [.string ff, .int .u64 num, .int .i64 cq, .int .i64 0, .int .i64 0, .int .i64 0, .int .i64 0, .int .i64 (t + 1), .int .i64 0, .int .i64 0]) rfl rfl (by (try simp only [Act.eval, eV]) <;> exact rfl) (fun _ => by kernel_rfl) hA ?_; intro b2 w1 hB hb2; clear hF hA; have hA := hB; clear hB; (try simp only [uA] at hA); have hF := hA.facts; (try simp only [fA, facts_row, and_true, true_and] at hF)) | ((with_reducible show wpList _ _ _ ({ dst := some 48, op := Op.call _, type := _, pos := _, after := _, guard := _ } :: _) _ _); refine wpList_append_at (e := 70) (size := 10) (v := v1) (xs := []) (n := 0) (m := 1) (news := [.string ff, .int .u64 num, .int .i64 cq, .int .i64 0, .int .i64 0, .int .i64 0, .int .i64 0, .int .i64 (t + 1), .int .i64 0, .int .i64 0]) rfl _ _ 45 rfl Tryd.underlying45 hi0 hz0 hz1 hz2 rfl (by omega) hA (by with_reducible repeat (first | exact Sel.here | apply Sel.there)) (by (try simp only [Act.eval, eV]) <;> exact rfl) (by (try simp only [Act.eval, eV]) <;> exact rfl) rfl (hA.cells_reads (by with_reducible repeat (first | exact Sel.here | apply Sel.there)) _ _) (by intro u hu; simp only [List.mem_cons, List.not_mem_nil, or_false] at hu; rcases hu with rfl | rfl | rfl | rfl | rfl | rfl | rfl | rfl | rfl | rfl <;> rfl) (by unfold maxLen; omega) (by omega) ?_; intro v2 w1 hB; clear hF hA; have hA := hB; clear hB; (try simp only [Nat.zero_add, List.append_nil, List.nil_append] at hA); (try simp only [uA] at hA); have hF := hA.facts; (try simp only [fA, facts_row, and_true, true_and] at hF)) | ((with_reducible refine gst ?_); refine wS hA ?_; clear hF hA; intro w1 hA; (try simp only [uA] at hA); have hF := hA.facts; (try simp only [fA, facts_row, and_true, true_and] at hF)) | ((with_reducible refine gbx ?_); refine wB hA ?_; clear hF hA; intro b1 w1 hA hb1; (try simp only [uA] at hA); have hF := hA.facts; (try simp only [fA, facts_row, and_true, true_and] at hF)))
        go_ret
        exact ⟨_, rfl, hA.toExt⟩
      · go_enter Tryd.func19, Tryd.ntmps19
        go_wp2_with (first | ((with_reducible refine gbx ?_); refine wX 62 (.agg #[.int .i64 kind, .int .u64 num, .string foot, .int .u64 req, .string path, .int .i64 mode, .int .u64 n, .int .i64 time]) [.int .i64 kind, .int .u64 num, .string foot, .int .u64 req, .string path, .int .i64 mode, .int .u64 n, .int .i64 time] hA ?_; clear hF hA; intro bC w1 hA hbC; (try simp only [uA] at hA); have hF := hA.facts; (try simp only [fA, facts_row, and_true, true_and] at hF)) | ((with_reducible refine gbx ?_); refine wX 64 (.agg #[.int .i64 5, .int .i64 t]) [.int .i64 5, .int .i64 t] hA ?_; clear hF hA; intro bI w1 hA hbI; (try simp only [uA] at hA); have hF := hA.facts; (try simp only [fA, facts_row, and_true, true_and] at hF)) | ((with_reducible refine gst ?_); refine wS hA ?_; clear hF hA; intro w1 hA; (try simp only [uA] at hA); have hF := hA.facts; (try simp only [fA, facts_row, and_true, true_and] at hF)) | ((with_reducible refine gbx ?_); refine wB hA ?_; clear hF hA; intro b1 w1 hA hb1; (try simp only [uA] at hA); have hF := hA.facts; (try simp only [fA, facts_row, and_true, true_and] at hF)))
        refine (hfo _).mono ?_
        clear hfo
        rintro e w1 ⟨rfl, hx⟩
        have hB := hA.ext hx
        clear hF hA hx
        have hA := hB
        clear hB
        have hF := hA.facts
        (try simp only [uA] at hA); have hF := hA.facts; (try simp only [fA, facts_row, and_true, true_and] at hF)
        go_wp2_with (first | ((with_reducible refine gst ?_); refine wS hA ?_; clear hF hA; intro w1 hA; (try simp only [uA] at hA); have hF := hA.facts; (try simp only [fA, facts_row, and_true, true_and] at hF)) | ((with_reducible refine gbx ?_); refine wB hA ?_; clear hF hA; intro b1 w1 hA hb1; (try simp only [uA] at hA); have hF := hA.facts; (try simp only [fA, facts_row, and_true, true_and] at hF)))
        refine (hri _).mono ?_
        clear hri
        rintro e w1 ⟨rfl, hx⟩
        have hB := hA.ext hx
        clear hF hA hx
        have hA := hB
        clear hB
        have hF := hA.facts
        (try simp only [uA] at hA); have hF := hA.facts; (try simp only [fA, facts_row, and_true, true_and] at hF)
        go_wp2_with (first | ((with_reducible refine gal ?_); refine wA 70 (.agg #[.string .empty, .int .u64 0, .int .i64 0, .int .i64 0, .int .i64 0, .int .i64 0, .int .i64 0, .int .i64 0, .int .i64 0, .int .i64 0]) [.string .empty, .int .u64 0, .int .i64 0, .int .i64 0, .int .i64 0, .int .i64 0, .int .i64 0, .int .i64 0, .int .i64 0, .int .i64 0] hA ?_; clear hF hA; intro bN w1 hA hbN; (try simp only [uA] at hA); have hF := hA.facts; (try simp only [fA, facts_row, and_true, true_and] at hF)) | ((with_reducible refine gst ?_); refine wS hA ?_; clear hF hA; intro w1 hA; (try simp only [uA] at hA); have hF := hA.facts; (try simp only [fA, facts_row, and_true, true_and] at hF)) | ((with_reducible refine gbx ?_); refine wB hA ?_; clear hF hA; intro b1 w1 hA hb1; (try simp only [uA] at hA); have hF := hA.facts; (try simp only [fA, facts_row, and_true, true_and] at hF)))
        refine (hcu _).mono ?_
        clear hcu
        rintro e w1 ⟨rfl, hx⟩
        have hB := hA.ext hx
        clear hF hA hx
        have hA := hB
        clear hB
        have hF := hA.facts
        (try simp only [uA] at hA); have hF := hA.facts; (try simp only [fA, facts_row, and_true, true_and] at hF)
        go_wp2_with (first | ((with_reducible show wpList _ _ _ ({ dst := some 44, op := Op.call _, type := _, pos := _, after := _, guard := _ } :: _) _ _); refine wpList_append_at (e := 70) (size := 10) (v := .slice none 0 0) (xs := []) (n := 0) (m := 0) (news := []) rfl _ _ 45 rfl Tryd.underlying45 hi0 hz0 hz1 hz2 rfl (by omega) hA (by with_reducible repeat (first | exact Sel.here | apply Sel.there)) (by (try simp only [Act.eval, eV]) <;> exact rfl) (by (try simp only [Act.eval, eV]) <;> exact rfl) rfl (hA.row_reads (v := .slice none 0 0) (n := 0) (xs := []) (by with_reducible repeat (first | exact Sel.here | apply Sel.there))) nofun (by unfold maxLen; omega) (by omega) ?_; intro v1 w1 hB; clear hF hA; have hA := hB; clear hB; (try simp only [Nat.zero_add, List.append_nil, List.nil_append] at hA); (try simp only [uA] at hA); have hF := hA.facts; (try simp only [fA, facts_row, and_true, true_and] at hF)) | ((with_reducible show wpList _ _ _ ({ dst := _, op := Op.buildSlice _ _ _, type := _, pos := _, after := _, guard := _ } :: _) _ _); refine wpList_one_at (e := 70) (vs := [.string ff, .int .u64 num, .int .i64 cq, .int .i64 0, .int .i64 0, .int .i64 0, .int .i64 0, .int .i64 0, .int .i64 (t + 1), .int .i64 0]) rfl rfl (by (try simp only [Act.eval, eV]) <;> exact rfl) (fun _ => by kernel_rfl) hA ?_; intro b2 w1 hB hb2; clear hF hA; have hA := hB; clear hB; (try simp only [uA] at hA); have hF := hA.facts; (try simp only [fA, facts_row, and_true, true_and] at hF)) | ((with_reducible show wpList _ _ _ ({ dst := some 48, op := Op.call _, type := _, pos := _, after := _, guard := _ } :: _) _ _); refine wpList_append_at (e := 70) (size := 10) (v := v1) (xs := []) (n := 0) (m := 1) (news := [.string ff, .int .u64 num, .int .i64 cq, .int .i64 0, .int .i64 0, .int .i64 0, .int .i64 0, .int .i64 0, .int .i64 (t + 1), .int .i64 0]) rfl _ _ 45 rfl Tryd.underlying45 hi0 hz0 hz1 hz2 rfl (by omega) hA (by with_reducible repeat (first | exact Sel.here | apply Sel.there)) (by (try simp only [Act.eval, eV]) <;> exact rfl) (by (try simp only [Act.eval, eV]) <;> exact rfl) rfl (hA.cells_reads (by with_reducible repeat (first | exact Sel.here | apply Sel.there)) _ _) (by intro u hu; simp only [List.mem_cons, List.not_mem_nil, or_false] at hu; rcases hu with rfl | rfl | rfl | rfl | rfl | rfl | rfl | rfl | rfl | rfl <;> rfl) (by unfold maxLen; omega) (by omega) ?_; intro v2 w1 hB; clear hF hA; have hA := hB; clear hB; (try simp only [Nat.zero_add, List.append_nil, List.nil_append] at hA); (try simp only [uA] at hA); have hF := hA.facts; (try simp only [fA, facts_row, and_true, true_and] at hF)) | ((with_reducible refine gst ?_); refine wS hA ?_; clear hF hA; intro w1 hA; (try simp only [uA] at hA); have hF := hA.facts; (try simp only [fA, facts_row, and_true, true_and] at hF)) | ((with_reducible refine gbx ?_); refine wB hA ?_; clear hF hA; intro b1 w1 hA hb1; (try simp only [uA] at hA); have hF := hA.facts; (try simp only [fA, facts_row, and_true, true_and] at hF)))
        go_ret
        exact ⟨_, rfl, hA.toExt⟩
      · go_enter Tryd.func19, Tryd.ntmps19
        go_wp2_with (first | ((with_reducible refine gbx ?_); refine wX 62 (.agg #[.int .i64 kind, .int .u64 num, .string foot, .int .u64 req, .string path, .int .i64 mode, .int .u64 n, .int .i64 time]) [.int .i64 kind, .int .u64 num, .string foot, .int .u64 req, .string path, .int .i64 mode, .int .u64 n, .int .i64 time] hA ?_; clear hF hA; intro bC w1 hA hbC; (try simp only [uA] at hA); have hF := hA.facts; (try simp only [fA, facts_row, and_true, true_and] at hF)) | ((with_reducible refine gbx ?_); refine wX 64 (.agg #[.int .i64 6, .int .i64 t]) [.int .i64 6, .int .i64 t] hA ?_; clear hF hA; intro bI w1 hA hbI; (try simp only [uA] at hA); have hF := hA.facts; (try simp only [fA, facts_row, and_true, true_and] at hF)) | ((with_reducible refine gst ?_); refine wS hA ?_; clear hF hA; intro w1 hA; (try simp only [uA] at hA); have hF := hA.facts; (try simp only [fA, facts_row, and_true, true_and] at hF)) | ((with_reducible refine gbx ?_); refine wB hA ?_; clear hF hA; intro b1 w1 hA hb1; (try simp only [uA] at hA); have hF := hA.facts; (try simp only [fA, facts_row, and_true, true_and] at hF)))
        refine (hfo _).mono ?_
        clear hfo
        rintro e w1 ⟨rfl, hx⟩
        have hB := hA.ext hx
        clear hF hA hx
        have hA := hB
        clear hB
        have hF := hA.facts
        (try simp only [uA] at hA); have hF := hA.facts; (try simp only [fA, facts_row, and_true, true_and] at hF)
        go_wp2_with (first | ((with_reducible refine gst ?_); refine wS hA ?_; clear hF hA; intro w1 hA; (try simp only [uA] at hA); have hF := hA.facts; (try simp only [fA, facts_row, and_true, true_and] at hF)) | ((with_reducible refine gbx ?_); refine wB hA ?_; clear hF hA; intro b1 w1 hA hb1; (try simp only [uA] at hA); have hF := hA.facts; (try simp only [fA, facts_row, and_true, true_and] at hF)))
        refine (hri _).mono ?_
        clear hri
        rintro e w1 ⟨rfl, hx⟩
        have hB := hA.ext hx
        clear hF hA hx
        have hA := hB
        clear hB
        have hF := hA.facts
        (try simp only [uA] at hA); have hF := hA.facts; (try simp only [fA, facts_row, and_true, true_and] at hF)
        go_wp2_with (first | ((with_reducible refine gal ?_); refine wA 70 (.agg #[.string .empty, .int .u64 0, .int .i64 0, .int .i64 0, .int .i64 0, .int .i64 0, .int .i64 0, .int .i64 0, .int .i64 0, .int .i64 0]) [.string .empty, .int .u64 0, .int .i64 0, .int .i64 0, .int .i64 0, .int .i64 0, .int .i64 0, .int .i64 0, .int .i64 0, .int .i64 0] hA ?_; clear hF hA; intro bN w1 hA hbN; (try simp only [uA] at hA); have hF := hA.facts; (try simp only [fA, facts_row, and_true, true_and] at hF)) | ((with_reducible refine gst ?_); refine wS hA ?_; clear hF hA; intro w1 hA; (try simp only [uA] at hA); have hF := hA.facts; (try simp only [fA, facts_row, and_true, true_and] at hF)) | ((with_reducible refine gbx ?_); refine wB hA ?_; clear hF hA; intro b1 w1 hA hb1; (try simp only [uA] at hA); have hF := hA.facts; (try simp only [fA, facts_row, and_true, true_and] at hF)))
        refine (hcu _).mono ?_
        clear hcu
        rintro e w1 ⟨rfl, hx⟩
        have hB := hA.ext hx
        clear hF hA hx
        have hA := hB
        clear hB
        have hF := hA.facts
        (try simp only [uA] at hA); have hF := hA.facts; (try simp only [fA, facts_row, and_true, true_and] at hF)
        go_wp2_with (first | ((with_reducible show wpList _ _ _ ({ dst := some 44, op := Op.call _, type := _, pos := _, after := _, guard := _ } :: _) _ _); refine wpList_append_at (e := 70) (size := 10) (v := .slice none 0 0) (xs := []) (n := 0) (m := 0) (news := []) rfl _ _ 45 rfl Tryd.underlying45 hi0 hz0 hz1 hz2 rfl (by omega) hA (by with_reducible repeat (first | exact Sel.here | apply Sel.there)) (by (try simp only [Act.eval, eV]) <;> exact rfl) (by (try simp only [Act.eval, eV]) <;> exact rfl) rfl (hA.row_reads (v := .slice none 0 0) (n := 0) (xs := []) (by with_reducible repeat (first | exact Sel.here | apply Sel.there))) nofun (by unfold maxLen; omega) (by omega) ?_; intro v1 w1 hB; clear hF hA; have hA := hB; clear hB; (try simp only [Nat.zero_add, List.append_nil, List.nil_append] at hA); (try simp only [uA] at hA); have hF := hA.facts; (try simp only [fA, facts_row, and_true, true_and] at hF)) | ((with_reducible show wpList _ _ _ ({ dst := _, op := Op.buildSlice _ _ _, type := _, pos := _, after := _, guard := _ } :: _) _ _); refine wpList_one_at (e := 70) (vs := [.string ff, .int .u64 num, .int .i64 cq, .int .i64 0, .int .i64 0, .int .i64 0, .int .i64 0, .int .i64 0, .int .i64 0, .int .i64 (t + 1)]) rfl rfl (by (try simp only [Act.eval, eV]) <;> exact rfl) (fun _ => by kernel_rfl) hA ?_; intro b2 w1 hB hb2; clear hF hA; have hA := hB; clear hB; (try simp only [uA] at hA); have hF := hA.facts; (try simp only [fA, facts_row, and_true, true_and] at hF)) | ((with_reducible show wpList _ _ _ ({ dst := some 48, op := Op.call _, type := _, pos := _, after := _, guard := _ } :: _) _ _); refine wpList_append_at (e := 70) (size := 10) (v := v1) (xs := []) (n := 0) (m := 1) (news := [.string ff, .int .u64 num, .int .i64 cq, .int .i64 0, .int .i64 0, .int .i64 0, .int .i64 0, .int .i64 0, .int .i64 0, .int .i64 (t + 1)]) rfl _ _ 45 rfl Tryd.underlying45 hi0 hz0 hz1 hz2 rfl (by omega) hA (by with_reducible repeat (first | exact Sel.here | apply Sel.there)) (by (try simp only [Act.eval, eV]) <;> exact rfl) (by (try simp only [Act.eval, eV]) <;> exact rfl) rfl (hA.cells_reads (by with_reducible repeat (first | exact Sel.here | apply Sel.there)) _ _) (by intro u hu; simp only [List.mem_cons, List.not_mem_nil, or_false] at hu; rcases hu with rfl | rfl | rfl | rfl | rfl | rfl | rfl | rfl | rfl | rfl <;> rfl) (by unfold maxLen; omega) (by omega) ?_; intro v2 w1 hB; clear hF hA; have hA := hB; clear hB; (try simp only [Nat.zero_add, List.append_nil, List.nil_append] at hA); (try simp only [uA] at hA); have hF := hA.facts; (try simp only [fA, facts_row, and_true, true_and] at hF)) | ((with_reducible refine gst ?_); refine wS hA ?_; clear hF hA; intro w1 hA; (try simp only [uA] at hA); have hF := hA.facts; (try simp only [fA, facts_row, and_true, true_and] at hF)) | ((with_reducible refine gbx ?_); refine wB hA ?_; clear hF hA; intro b1 w1 hA hb1; (try simp only [uA] at hA); have hF := hA.facts; (try simp only [fA, facts_row, and_true, true_and] at hF)))
        go_ret
        exact ⟨_, rfl, hA.toExt⟩
end Go.Proofs.YtpbeennielgogaaDoor.Ix
