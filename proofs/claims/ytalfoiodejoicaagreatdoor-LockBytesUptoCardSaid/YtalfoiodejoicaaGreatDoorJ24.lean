/- WireB, EncB, TakB, TakC, joined. -/
import Derived.Test.YtalfoiodejoicaaGreatDoorJ23
import Derived.Lib.AppendStr
import Derived.Test.YtalfoiodejoicaaGreatDoorJ9
import Derived.Test.YtalfoiodejoicaaGreatDoorJ18
section
namespace Go.Proofs.YtalfoiodejoicaaGreatDoor.Wire
open Go.RowKit
set_option linter.unusedVariables false
set_option linter.unusedSimpArgs false

abbrev outC (b : Nat) (u : Value) : Part := .cells b [u] 76
def OutPost (w : World) (b : Nat) (u : Value) (l m : List Int) (e : Ending) (w' : World) : Prop := ∃ u', e = .returned (.pointer (some ⟨b, 0, none⟩)) ∧ At [outC b u, rowY u l] w [outC b u', rowY u' (l ++ m)] w'
theorem oneY (y : Int) (w : World) : (Instr.buildSlice 74 1 #[(0, .int .u8 y)]).run Tryz.prog w = .ok (.slice (some ⟨w.heap.size, 0, none⟩) 1 1) (w.alloc (.cells (encY y).toArray 5)) := by kernel_rfl
set_option maxRecDepth 100000 in
theorem outByte {w : World} {b : Nat} {u : Value} {l : List Int} (h : Sep [outC b u, rowY u l] w) (y : Int) (hl : l.length ≤ 100000000000000) :
    Calls Tryz.prog 62 #[.pointer (some ⟨b, 0, none⟩), .int .u8 y] w (OutPost w b u l [y]) := by
  obtain ⟨i0, hi0, hz0, hz1, hz2⟩ := info_parts infoY
  have hA := At.start h
  have hF := hA.facts
  clear h
  obtain ⟨ax, cap, rfl, hax, hcap, _⟩ := hA.row_form (v := u) (n := l.length) (xs := flatY l) (by with_reducible repeat (first | exact Sel.here | apply Sel.there))
  have hone := oneY y
  (try simp only [setL, List.set_cons_zero, List.set_cons_succ, List.cons_append, List.nil_append] at hA); (have hF := hA.facts); (try simp only [facts_cons, facts_nil, facts_cells, facts_old, facts_fact, facts_obj, facts_map, facts_iter, facts_row, and_true, true_and] at hF)
  go_enter Tryz.func62, Tryz.ntmps62
  go_wp2_with (first
    | ((with_reducible show wpList _ _ _ ({ dst := _, op := Op.buildSlice _ _ _, type := _, pos := _, after := _, guard := _ } :: _) _ _); refine wpList_one_at (e := 5) (vs := encY y) rfl rfl (by (try simp only [Act.eval, Array.getD_eq_getD_getElem?, List.getElem?_toArray, List.getElem?_cons_succ, List.getElem?_cons_zero, Option.getD_some]) <;> exact rfl) hone hA ?_; intro b2 w5 hB hb2; clear hF hA; have hA := hB; clear hB; (try simp only [setL, List.set_cons_zero, List.set_cons_succ, List.cons_append, List.nil_append] at hA); (have hF := hA.facts); (try simp only [facts_cons, facts_nil, facts_cells, facts_old, facts_fact, facts_obj, facts_map, facts_iter, facts_row, and_true, true_and] at hF))
    | ((with_reducible show wpList _ _ _ ({ dst := _, op := Op.call { callee := Callee.builtin Builtin.append, args := _, argTypes := _ }, type := _, pos := _, after := _, guard := _ } :: _) _ _); refine wpList_append_at (e := 5) (size := 1) (v := .slice ax l.length cap) (xs := flatY l) (n := l.length) (m := 1) (news := encY y) rfl _ _ 74 rfl Tryz.underlying74 hi0 hz0 hz1 hz2 rfl (by omega) hA (by with_reducible repeat (first | exact Sel.here | apply Sel.there)) (by (try simp only [Act.eval, Array.getD_eq_getD_getElem?, List.getElem?_toArray, List.getElem?_cons_succ, List.getElem?_cons_zero, Option.getD_some]) <;> exact rfl) (by (try simp only [Act.eval, Array.getD_eq_getD_getElem?, List.getElem?_toArray, List.getElem?_cons_succ, List.getElem?_cons_zero, Option.getD_some]) <;> exact rfl) rfl (hA.cells_reads (by with_reducible repeat (first | exact Sel.here | apply Sel.there)) _ _) (encY_one _) (by unfold maxLen; omega) (by omega) ?_; intro v2 w7 hB; rw [rowY_snoc] at hB; obtain ⟨cx, cn, ccap, hcv, hcn⟩ := hB.row_hid (v := v2) (n := (l ++ [y]).length) (xs := flatY (l ++ [y])) (by with_reducible repeat (first | exact Sel.here | apply Sel.there)); subst hcv; clear hF hA; have hA := hB; clear hB; (try simp only [setL, List.set_cons_zero, List.set_cons_succ, List.cons_append, List.nil_append] at hA); (have hF := hA.facts); (try simp only [facts_cons, facts_nil, facts_cells, facts_old, facts_fact, facts_obj, facts_map, facts_iter, facts_row, and_true, true_and] at hF))
    | ((with_reducible show wpList _ _ _ ({ dst := _, op := Op.store _ _ _, type := _, pos := _, after := _, guard := _ } :: _) _ _); refine wpList_store_at rfl rfl rfl (by (try simp only [Act.eval, Array.getD_eq_getD_getElem?, List.getElem?_toArray, List.getElem?_cons_succ, List.getElem?_cons_zero, Option.getD_some]) <;> exact rfl) (by exact rfl) hA (by with_reducible repeat (first | exact Sel.here | apply Sel.there)) (by kernel_rfl) rfl (by first | decide | (simp; done) | omega) ?_; intro w1 hB; clear hF hA; have hA := hB; clear hB; (try simp only [setL, List.set_cons_zero, List.set_cons_succ, List.cons_append, List.nil_append] at hA); (have hF := hA.facts); (try simp only [facts_cons, facts_nil, facts_cells, facts_old, facts_fact, facts_obj, facts_map, facts_iter, facts_row, and_true, true_and] at hF)) | ((with_reducible show wpList _ _ _ ({ dst := _, op := Op.box _ _, type := _, pos := _, after := _, guard := _ } :: _) _ _); refine wpList_box_at rfl rfl (by (try simp only [Act.eval, Array.getD_eq_getD_getElem?, List.getElem?_toArray, List.getElem?_cons_succ, List.getElem?_cons_zero, Option.getD_some]) <;> exact rfl) (by exact rfl) hA ?_; intro b1 w1 hB hb1; clear hF hA; have hA := hB; clear hB; (try simp only [setL, List.set_cons_zero, List.set_cons_succ, List.cons_append, List.nil_append] at hA); (have hF := hA.facts); (try simp only [facts_cons, facts_nil, facts_cells, facts_old, facts_fact, facts_obj, facts_map, facts_iter, facts_row, and_true, true_and] at hF)))
  go_ret
  exact ⟨.slice cx cn ccap, rfl, hA.only2 (A := outC b (.slice cx cn ccap)) (B := rowY (.slice cx cn ccap) (l ++ [y])) (by with_reducible repeat (first | exact Sel.here | apply Sel.there)) (by with_reducible repeat (first | exact Sel.here | apply Sel.there))⟩
set_option maxRecDepth 100000 in
set_option maxHeartbeats 1000000 in
theorem outShort {w : World} {b : Nat} {u : Value} {l : List Int} (h : Sep [outC b u, rowY u l] w) (v : Nat) (hv : v < 18446744073709551616) (hl : l.length ≤ 100000000000000) :
    Calls Tryz.prog 59 #[.pointer (some ⟨b, 0, none⟩), .int .u64 v] w (OutPost w b u l (shortN v)) := by
  obtain ⟨i0, hi0, hz0, hz1, hz2⟩ := info_parts infoY
  have hA := At.start h
  have hF := hA.facts
  clear h
  have hnl : (shortN v).length ≤ 10 := short_len 9 v (by omega)
  obtain ⟨ax, cap, rfl, hax, hcap, _⟩ := hA.row_form (v := u) (n := l.length) (xs := flatY l) (by with_reducible repeat (first | exact Sel.here | apply Sel.there))
  (try simp only [setL, List.set_cons_zero, List.set_cons_succ, List.cons_append, List.nil_append] at hA); (have hF := hA.facts); (try simp only [facts_cons, facts_nil, facts_cells, facts_old, facts_fact, facts_obj, facts_map, facts_iter, facts_row, and_true, true_and] at hF)
  go_enter Tryz.func59, Tryz.ntmps59
  go_wp2_with fail
  have hm : Tryz.prog.follows .mixedOrders = true := by kernel_rfl
  have hA := hA.drew
  refine wp_region_held (S := fun _ => True) hm ?_
  change wpAnyH _ _ _ _ _ 11 _ _ w.drew
  generalize w.drew = w2 at *
  refine wpAnyH_takeD (i := 0) (d := some 5) (v := (.pointer (some ⟨b, 0, none⟩))) rfl rfl (by kernel_rfl) (by kernel_rfl) (by kernel_rfl) (fun _ _ _ h => h) rfl (fun w' hS => by simp [execOp, go_sem, Act.eval, Act.put]) trivial ?_
  go_frame
  refine wpAnyH_takeD (i := 1) (d := some 6) (v := (.pointer (some ⟨b, 0, none⟩))) rfl rfl (by kernel_rfl) (by kernel_rfl) (by kernel_rfl) (fun _ _ _ h => h) rfl (fun w' hS => by simp [execOp, go_sem, Act.eval, Act.put]) trivial ?_
  go_frame
  refine wpAnyH_takeD (i := 2) (d := some 7) (v := (.pointer (some ⟨b, 0, none⟩))) rfl rfl (by kernel_rfl) (by kernel_rfl) (by kernel_rfl) (fun _ _ _ h => h) rfl (fun w' hS => by simp [execOp, go_sem, Act.eval, Act.put]) trivial ?_
  go_frame
  refine wpAnyH_takeD (i := 3) (d := some 8) (v := (.pointer (some ⟨b, 0, none⟩))) rfl rfl (by kernel_rfl) (by kernel_rfl) (by kernel_rfl) (fun _ _ _ h => h) rfl (fun w' hS => by kernel_rfl) trivial ?_
  go_frame
  refine wpAnyH_takeD (i := 5) (d := some 10) (v := (.int .u64 v)) rfl rfl (by kernel_rfl) (by kernel_rfl) (by kernel_rfl) (fun _ _ _ h => h) rfl (fun w' hS => by simp [execOp, go_sem, Act.eval, Act.put]) trivial ?_
  go_frame
  refine wpAnyH_two (i := 4) (j := 6) (by kernel_rfl) ?_ ?_
  · skip
    refine wpOp_val (i := 4) (v := .slice ax l.length cap) rfl rfl (run_load_one (b := b) (j := 0) rfl (by exact rfl) (hA.get (A := outC b (.slice ax l.length cap)) (by with_reducible repeat (first | exact Sel.here | apply Sel.there))) (by kernel_rfl) rfl) ?_
    refine ⟨trivial, ?_⟩
    change wpAnyH _ _ _ _ _ _ _ (Act.put _ (some 9) _) _
    go_frame
    refine wpAnyH_one (i := 6) (by kernel_rfl) ?_
    refine opCall_at (i := 6) (d := some 11) rfl rfl rfl (fn := 101) (args := #[.int .u64 v]) (by simp [execOp, go_sem, Act.eval, Act.put]) (short_any v w2 hv) ?_
    intro uu z1 hT
    have hB := hA.call0 hT
    simp only [List.cons_append, List.nil_append] at hB
    obtain ⟨nx, nn, ncap, hnv, hnn⟩ := hB.row_hid (v := uu) (n := (shortN v).length) (xs := flatY (shortN v)) (by with_reducible repeat (first | exact Sel.here | apply Sel.there))
    subst hnv
    have hnn2 := hnn.out
    subst hnn2
    refine ⟨trivial, ?_⟩
    go_frame
    refine wpAnyH_one (i := 7) (by kernel_rfl) ?_
    refine opAppend_at (k := 7) (d := some 12) (e := 5) (size := 1) (v := .slice ax l.length cap) (xs := flatY l) (n := l.length) (m := (shortN v).length) (news := flatY (shortN v)) rfl rfl rfl rfl (.tmp 9) (.tmp 11) 74 rfl Tryz.underlying74 hi0 hz0 hz1 hz2 rfl (by omega) hB (by with_reducible repeat (first | exact Sel.here | apply Sel.there)) (by (try simp only [Act.eval, Array.getD_eq_getD_getElem?, List.getElem?_toArray, List.getElem?_cons_succ, List.getElem?_cons_zero, Option.getD_some]) <;> exact rfl) (by (try simp only [Act.eval, Array.getD_eq_getD_getElem?, List.getElem?_toArray, List.getElem?_cons_succ, List.getElem?_cons_zero, Option.getD_some]) <;> exact rfl) (flat_len _ _ encY_len _) (hB.row_reads (v := .slice nx (shortN v).length ncap) (n := (shortN v).length) (xs := flatY (shortN v)) (by with_reducible repeat (first | exact Sel.here | apply Sel.there))) (flat_one encY_one _) (by unfold maxLen; omega) (by omega) ?_
    intro v2 z2 hC
    rw [rowY_app] at hC
    obtain ⟨cx, cn, ccap, hcv, hcn⟩ := hC.row_hid (v := v2) (n := (l ++ shortN v).length) (xs := flatY (l ++ shortN v)) (by with_reducible repeat (first | exact Sel.here | apply Sel.there))
    subst hcv
    have hcn2 := hcn.out
    clear hcn
    refine ⟨trivial, ?_⟩
    go_frame
    refine wpAnyH_takeD (i := 8) (d := some 13) (v := (.pointer (some ⟨b, 0, none⟩))) rfl rfl (by kernel_rfl) (by kernel_rfl) (by kernel_rfl) (fun _ _ _ h => h) rfl (fun w' hS => by simp [execOp, go_sem, Act.eval, Act.put]) trivial ?_
    go_frame
    refine wpAnyH_takeD (i := 9) (d := some 14) (v := (.pointer (some ⟨b, 0, none⟩))) rfl rfl (by kernel_rfl) (by kernel_rfl) (by kernel_rfl) (fun _ _ _ h => h) rfl (fun w' hS => by kernel_rfl) trivial ?_
    go_frame
    refine wpAnyH_one (i := 10) (by kernel_rfl) ?_
    refine opStore_at (i := 10) (x := .tmp 14) (y := .tmp 12) (ty := 74) (b := b) (j := 0) (v := .slice cx cn ccap) (vs := [.slice cx cn ccap]) rfl rfl rfl rfl (by (try simp only [Act.eval, Array.getD_eq_getD_getElem?, List.getElem?_toArray, List.getElem?_cons_succ, List.getElem?_cons_zero, Option.getD_some]) <;> exact rfl) (by (try simp only [Act.eval, Array.getD_eq_getD_getElem?, List.getElem?_toArray, List.getElem?_cons_succ, List.getElem?_cons_zero, Option.getD_some]) <;> exact rfl) rfl hC (c := [.slice ax l.length cap]) (by with_reducible repeat (first | exact Sel.here | apply Sel.there)) (by kernel_rfl) rfl (by simp) ?_
    intro z3 hD
    simp only [setL, List.set_cons_zero] at hD
    refine ⟨trivial, ?_⟩
    refine wpAnyH_done (by kernel_rfl) ?_ _
    try go_frame
    go_wp2_with fail
    go_ret
    exact ⟨.slice cx cn ccap, rfl, hD.only2 (A := outC b (.slice cx cn ccap)) (B := rowY (.slice cx cn ccap) (l ++ shortN v)) (by with_reducible repeat (first | exact Sel.here | apply Sel.there)) (by with_reducible repeat (first | exact Sel.here | apply Sel.there))⟩
  · skip
    refine opCall_at (i := 6) (d := some 11) rfl rfl rfl (fn := 101) (args := #[.int .u64 v]) (by simp [execOp, go_sem, Act.eval, Act.put]) (short_any v w2 hv) ?_
    intro uu z1 hT
    have hB := hA.call0 hT
    simp only [List.cons_append, List.nil_append] at hB
    obtain ⟨nx, nn, ncap, hnv, hnn⟩ := hB.row_hid (v := uu) (n := (shortN v).length) (xs := flatY (shortN v)) (by with_reducible repeat (first | exact Sel.here | apply Sel.there))
    subst hnv
    have hnn2 := hnn.out
    subst hnn2
    refine ⟨trivial, ?_⟩
    go_frame
    refine wpAnyH_one (i := 4) (by kernel_rfl) ?_
    refine wpOp_val (i := 4) (v := .slice ax l.length cap) rfl rfl (run_load_one (b := b) (j := 0) rfl (by exact rfl) (hB.get (A := outC b (.slice ax l.length cap)) (by with_reducible repeat (first | exact Sel.here | apply Sel.there))) (by kernel_rfl) rfl) ?_
    refine ⟨trivial, ?_⟩
    change wpAnyH _ _ _ _ _ _ _ (Act.put _ (some 9) _) _
    go_frame
    refine wpAnyH_one (i := 7) (by kernel_rfl) ?_
    refine opAppend_at (k := 7) (d := some 12) (e := 5) (size := 1) (v := .slice ax l.length cap) (xs := flatY l) (n := l.length) (m := (shortN v).length) (news := flatY (shortN v)) rfl rfl rfl rfl (.tmp 9) (.tmp 11) 74 rfl Tryz.underlying74 hi0 hz0 hz1 hz2 rfl (by omega) hB (by with_reducible repeat (first | exact Sel.here | apply Sel.there)) (by (try simp only [Act.eval, Array.getD_eq_getD_getElem?, List.getElem?_toArray, List.getElem?_cons_succ, List.getElem?_cons_zero, Option.getD_some]) <;> exact rfl) (by (try simp only [Act.eval, Array.getD_eq_getD_getElem?, List.getElem?_toArray, List.getElem?_cons_succ, List.getElem?_cons_zero, Option.getD_some]) <;> exact rfl) (flat_len _ _ encY_len _) (hB.row_reads (v := .slice nx (shortN v).length ncap) (n := (shortN v).length) (xs := flatY (shortN v)) (by with_reducible repeat (first | exact Sel.here | apply Sel.there))) (flat_one encY_one _) (by unfold maxLen; omega) (by omega) ?_
    intro v2 z2 hC
    rw [rowY_app] at hC
    obtain ⟨cx, cn, ccap, hcv, hcn⟩ := hC.row_hid (v := v2) (n := (l ++ shortN v).length) (xs := flatY (l ++ shortN v)) (by with_reducible repeat (first | exact Sel.here | apply Sel.there))
    subst hcv
    have hcn2 := hcn.out
    clear hcn
    refine ⟨trivial, ?_⟩
    go_frame
    refine wpAnyH_takeD (i := 8) (d := some 13) (v := (.pointer (some ⟨b, 0, none⟩))) rfl rfl (by kernel_rfl) (by kernel_rfl) (by kernel_rfl) (fun _ _ _ h => h) rfl (fun w' hS => by simp [execOp, go_sem, Act.eval, Act.put]) trivial ?_
    go_frame
    refine wpAnyH_takeD (i := 9) (d := some 14) (v := (.pointer (some ⟨b, 0, none⟩))) rfl rfl (by kernel_rfl) (by kernel_rfl) (by kernel_rfl) (fun _ _ _ h => h) rfl (fun w' hS => by kernel_rfl) trivial ?_
    go_frame
    refine wpAnyH_one (i := 10) (by kernel_rfl) ?_
    refine opStore_at (i := 10) (x := .tmp 14) (y := .tmp 12) (ty := 74) (b := b) (j := 0) (v := .slice cx cn ccap) (vs := [.slice cx cn ccap]) rfl rfl rfl rfl (by (try simp only [Act.eval, Array.getD_eq_getD_getElem?, List.getElem?_toArray, List.getElem?_cons_succ, List.getElem?_cons_zero, Option.getD_some]) <;> exact rfl) (by (try simp only [Act.eval, Array.getD_eq_getD_getElem?, List.getElem?_toArray, List.getElem?_cons_succ, List.getElem?_cons_zero, Option.getD_some]) <;> exact rfl) rfl hC (c := [.slice ax l.length cap]) (by with_reducible repeat (first | exact Sel.here | apply Sel.there)) (by kernel_rfl) rfl (by simp) ?_
    intro z3 hD
    simp only [setL, List.set_cons_zero] at hD
    refine ⟨trivial, ?_⟩
    refine wpAnyH_done (by kernel_rfl) ?_ _
    try go_frame
    go_wp2_with fail
    go_ret
    exact ⟨.slice cx cn ccap, rfl, hD.only2 (A := outC b (.slice cx cn ccap)) (B := rowY (.slice cx cn ccap) (l ++ shortN v)) (by with_reducible repeat (first | exact Sel.here | apply Sel.there)) (by with_reducible repeat (first | exact Sel.here | apply Sel.there))⟩
set_option maxRecDepth 100000 in
set_option maxHeartbeats 1000000 in
theorem outFixed {w : World} {b : Nat} {u : Value} {l : List Int} (h : Sep [outC b u, rowY u l] w) (v : Nat) (hv : v < 18446744073709551616) (hl : l.length ≤ 100000000000000) :
    Calls Tryz.prog 61 #[.pointer (some ⟨b, 0, none⟩), .int .u64 v] w (OutPost w b u l (fixL v)) := by
  obtain ⟨i0, hi0, hz0, hz1, hz2⟩ := info_parts infoY
  have hA := At.start h
  have hF := hA.facts
  clear h
  have hnl : (fixL v).length ≤ 10 := by simp [fixL]
  obtain ⟨ax, cap, rfl, hax, hcap, _⟩ := hA.row_form (v := u) (n := l.length) (xs := flatY l) (by with_reducible repeat (first | exact Sel.here | apply Sel.there))
  (try simp only [setL, List.set_cons_zero, List.set_cons_succ, List.cons_append, List.nil_append] at hA); (have hF := hA.facts); (try simp only [facts_cons, facts_nil, facts_cells, facts_old, facts_fact, facts_obj, facts_map, facts_iter, facts_row, and_true, true_and] at hF)
  go_enter Tryz.func61, Tryz.ntmps61
  go_wp2_with fail
  have hm : Tryz.prog.follows .mixedOrders = true := by kernel_rfl
  have hA := hA.drew
  refine wp_region_held (S := fun _ => True) hm ?_
  change wpAnyH _ _ _ _ _ 11 _ _ w.drew
  generalize w.drew = w2 at *
  refine wpAnyH_takeD (i := 0) (d := some 5) (v := (.pointer (some ⟨b, 0, none⟩))) rfl rfl (by kernel_rfl) (by kernel_rfl) (by kernel_rfl) (fun _ _ _ h => h) rfl (fun w' hS => by simp [execOp, go_sem, Act.eval, Act.put]) trivial ?_
  go_frame
  refine wpAnyH_takeD (i := 1) (d := some 6) (v := (.pointer (some ⟨b, 0, none⟩))) rfl rfl (by kernel_rfl) (by kernel_rfl) (by kernel_rfl) (fun _ _ _ h => h) rfl (fun w' hS => by simp [execOp, go_sem, Act.eval, Act.put]) trivial ?_
  go_frame
  refine wpAnyH_takeD (i := 2) (d := some 7) (v := (.pointer (some ⟨b, 0, none⟩))) rfl rfl (by kernel_rfl) (by kernel_rfl) (by kernel_rfl) (fun _ _ _ h => h) rfl (fun w' hS => by simp [execOp, go_sem, Act.eval, Act.put]) trivial ?_
  go_frame
  refine wpAnyH_takeD (i := 3) (d := some 8) (v := (.pointer (some ⟨b, 0, none⟩))) rfl rfl (by kernel_rfl) (by kernel_rfl) (by kernel_rfl) (fun _ _ _ h => h) rfl (fun w' hS => by kernel_rfl) trivial ?_
  go_frame
  refine wpAnyH_takeD (i := 5) (d := some 10) (v := (.int .u64 v)) rfl rfl (by kernel_rfl) (by kernel_rfl) (by kernel_rfl) (fun _ _ _ h => h) rfl (fun w' hS => by simp [execOp, go_sem, Act.eval, Act.put]) trivial ?_
  go_frame
  refine wpAnyH_two (i := 4) (j := 6) (by kernel_rfl) ?_ ?_
  · skip
    refine wpOp_val (i := 4) (v := .slice ax l.length cap) rfl rfl (run_load_one (b := b) (j := 0) rfl (by exact rfl) (hA.get (A := outC b (.slice ax l.length cap)) (by with_reducible repeat (first | exact Sel.here | apply Sel.there))) (by kernel_rfl) rfl) ?_
    refine ⟨trivial, ?_⟩
    change wpAnyH _ _ _ _ _ _ _ (Act.put _ (some 9) _) _
    go_frame
    refine wpAnyH_one (i := 6) (by kernel_rfl) ?_
    refine opCall_at (i := 6) (d := some 11) rfl rfl rfl (fn := 102) (args := #[.int .u64 v, .int .i64 8]) (by simp [execOp, go_sem, Act.eval, Act.put]) (bytes8_any v w2 hv) ?_
    intro uu z1 hT
    have hB := hA.call0 hT
    simp only [List.cons_append, List.nil_append] at hB
    obtain ⟨nx, nn, ncap, hnv, hnn⟩ := hB.row_hid (v := uu) (n := (fixL v).length) (xs := flatY (fixL v)) (by with_reducible repeat (first | exact Sel.here | apply Sel.there))
    subst hnv
    have hnn2 := hnn.out
    subst hnn2
    refine ⟨trivial, ?_⟩
    go_frame
    refine wpAnyH_one (i := 7) (by kernel_rfl) ?_
    refine opAppend_at (k := 7) (d := some 12) (e := 5) (size := 1) (v := .slice ax l.length cap) (xs := flatY l) (n := l.length) (m := (fixL v).length) (news := flatY (fixL v)) rfl rfl rfl rfl (.tmp 9) (.tmp 11) 74 rfl Tryz.underlying74 hi0 hz0 hz1 hz2 rfl (by omega) hB (by with_reducible repeat (first | exact Sel.here | apply Sel.there)) (by (try simp only [Act.eval, Array.getD_eq_getD_getElem?, List.getElem?_toArray, List.getElem?_cons_succ, List.getElem?_cons_zero, Option.getD_some]) <;> exact rfl) (by (try simp only [Act.eval, Array.getD_eq_getD_getElem?, List.getElem?_toArray, List.getElem?_cons_succ, List.getElem?_cons_zero, Option.getD_some]) <;> exact rfl) (flat_len _ _ encY_len _) (hB.row_reads (v := .slice nx (fixL v).length ncap) (n := (fixL v).length) (xs := flatY (fixL v)) (by with_reducible repeat (first | exact Sel.here | apply Sel.there))) (flat_one encY_one _) (by unfold maxLen; omega) (by omega) ?_
    intro v2 z2 hC
    rw [rowY_app] at hC
    obtain ⟨cx, cn, ccap, hcv, hcn⟩ := hC.row_hid (v := v2) (n := (l ++ fixL v).length) (xs := flatY (l ++ fixL v)) (by with_reducible repeat (first | exact Sel.here | apply Sel.there))
    subst hcv
    have hcn2 := hcn.out
    clear hcn
    refine ⟨trivial, ?_⟩
    go_frame
    refine wpAnyH_takeD (i := 8) (d := some 13) (v := (.pointer (some ⟨b, 0, none⟩))) rfl rfl (by kernel_rfl) (by kernel_rfl) (by kernel_rfl) (fun _ _ _ h => h) rfl (fun w' hS => by simp [execOp, go_sem, Act.eval, Act.put]) trivial ?_
    go_frame
    refine wpAnyH_takeD (i := 9) (d := some 14) (v := (.pointer (some ⟨b, 0, none⟩))) rfl rfl (by kernel_rfl) (by kernel_rfl) (by kernel_rfl) (fun _ _ _ h => h) rfl (fun w' hS => by kernel_rfl) trivial ?_
    go_frame
    refine wpAnyH_one (i := 10) (by kernel_rfl) ?_
    refine opStore_at (i := 10) (x := .tmp 14) (y := .tmp 12) (ty := 74) (b := b) (j := 0) (v := .slice cx cn ccap) (vs := [.slice cx cn ccap]) rfl rfl rfl rfl (by (try simp only [Act.eval, Array.getD_eq_getD_getElem?, List.getElem?_toArray, List.getElem?_cons_succ, List.getElem?_cons_zero, Option.getD_some]) <;> exact rfl) (by (try simp only [Act.eval, Array.getD_eq_getD_getElem?, List.getElem?_toArray, List.getElem?_cons_succ, List.getElem?_cons_zero, Option.getD_some]) <;> exact rfl) rfl hC (c := [.slice ax l.length cap]) (by with_reducible repeat (first | exact Sel.here | apply Sel.there)) (by kernel_rfl) rfl (by simp) ?_
    intro z3 hD
    simp only [setL, List.set_cons_zero] at hD
    refine ⟨trivial, ?_⟩
    refine wpAnyH_done (by kernel_rfl) ?_ _
    try go_frame
    go_wp2_with fail
    go_ret
    exact ⟨.slice cx cn ccap, rfl, hD.only2 (A := outC b (.slice cx cn ccap)) (B := rowY (.slice cx cn ccap) (l ++ fixL v)) (by with_reducible repeat (first | exact Sel.here | apply Sel.there)) (by with_reducible repeat (first | exact Sel.here | apply Sel.there))⟩
  · skip
    refine opCall_at (i := 6) (d := some 11) rfl rfl rfl (fn := 102) (args := #[.int .u64 v, .int .i64 8]) (by simp [execOp, go_sem, Act.eval, Act.put]) (bytes8_any v w2 hv) ?_
    intro uu z1 hT
    have hB := hA.call0 hT
    simp only [List.cons_append, List.nil_append] at hB
    obtain ⟨nx, nn, ncap, hnv, hnn⟩ := hB.row_hid (v := uu) (n := (fixL v).length) (xs := flatY (fixL v)) (by with_reducible repeat (first | exact Sel.here | apply Sel.there))
    subst hnv
    have hnn2 := hnn.out
    subst hnn2
    refine ⟨trivial, ?_⟩
    go_frame
    refine wpAnyH_one (i := 4) (by kernel_rfl) ?_
    refine wpOp_val (i := 4) (v := .slice ax l.length cap) rfl rfl (run_load_one (b := b) (j := 0) rfl (by exact rfl) (hB.get (A := outC b (.slice ax l.length cap)) (by with_reducible repeat (first | exact Sel.here | apply Sel.there))) (by kernel_rfl) rfl) ?_
    refine ⟨trivial, ?_⟩
    change wpAnyH _ _ _ _ _ _ _ (Act.put _ (some 9) _) _
    go_frame
    refine wpAnyH_one (i := 7) (by kernel_rfl) ?_
    refine opAppend_at (k := 7) (d := some 12) (e := 5) (size := 1) (v := .slice ax l.length cap) (xs := flatY l) (n := l.length) (m := (fixL v).length) (news := flatY (fixL v)) rfl rfl rfl rfl (.tmp 9) (.tmp 11) 74 rfl Tryz.underlying74 hi0 hz0 hz1 hz2 rfl (by omega) hB (by with_reducible repeat (first | exact Sel.here | apply Sel.there)) (by (try simp only [Act.eval, Array.getD_eq_getD_getElem?, List.getElem?_toArray, List.getElem?_cons_succ, List.getElem?_cons_zero, Option.getD_some]) <;> exact rfl) (by (try simp only [Act.eval, Array.getD_eq_getD_getElem?, List.getElem?_toArray, List.getElem?_cons_succ, List.getElem?_cons_zero, Option.getD_some]) <;> exact rfl) (flat_len _ _ encY_len _) (hB.row_reads (v := .slice nx (fixL v).length ncap) (n := (fixL v).length) (xs := flatY (fixL v)) (by with_reducible repeat (first | exact Sel.here | apply Sel.there))) (flat_one encY_one _) (by unfold maxLen; omega) (by omega) ?_
    intro v2 z2 hC
    rw [rowY_app] at hC
    obtain ⟨cx, cn, ccap, hcv, hcn⟩ := hC.row_hid (v := v2) (n := (l ++ fixL v).length) (xs := flatY (l ++ fixL v)) (by with_reducible repeat (first | exact Sel.here | apply Sel.there))
    subst hcv
    have hcn2 := hcn.out
    clear hcn
    refine ⟨trivial, ?_⟩
    go_frame
    refine wpAnyH_takeD (i := 8) (d := some 13) (v := (.pointer (some ⟨b, 0, none⟩))) rfl rfl (by kernel_rfl) (by kernel_rfl) (by kernel_rfl) (fun _ _ _ h => h) rfl (fun w' hS => by simp [execOp, go_sem, Act.eval, Act.put]) trivial ?_
    go_frame
    refine wpAnyH_takeD (i := 9) (d := some 14) (v := (.pointer (some ⟨b, 0, none⟩))) rfl rfl (by kernel_rfl) (by kernel_rfl) (by kernel_rfl) (fun _ _ _ h => h) rfl (fun w' hS => by kernel_rfl) trivial ?_
    go_frame
    refine wpAnyH_one (i := 10) (by kernel_rfl) ?_
    refine opStore_at (i := 10) (x := .tmp 14) (y := .tmp 12) (ty := 74) (b := b) (j := 0) (v := .slice cx cn ccap) (vs := [.slice cx cn ccap]) rfl rfl rfl rfl (by (try simp only [Act.eval, Array.getD_eq_getD_getElem?, List.getElem?_toArray, List.getElem?_cons_succ, List.getElem?_cons_zero, Option.getD_some]) <;> exact rfl) (by (try simp only [Act.eval, Array.getD_eq_getD_getElem?, List.getElem?_toArray, List.getElem?_cons_succ, List.getElem?_cons_zero, Option.getD_some]) <;> exact rfl) rfl hC (c := [.slice ax l.length cap]) (by with_reducible repeat (first | exact Sel.here | apply Sel.there)) (by kernel_rfl) rfl (by simp) ?_
    intro z3 hD
    simp only [setL, List.set_cons_zero] at hD
    refine ⟨trivial, ?_⟩
    refine wpAnyH_done (by kernel_rfl) ?_ _
    try go_frame
    go_wp2_with fail
    go_ret
    exact ⟨.slice cx cn ccap, rfl, hD.only2 (A := outC b (.slice cx cn ccap)) (B := rowY (.slice cx cn ccap) (l ++ fixL v)) (by with_reducible repeat (first | exact Sel.here | apply Sel.there)) (by with_reducible repeat (first | exact Sel.here | apply Sel.there))⟩
/-! ### Texts -/
def textL (s : ByteArray) : List Int := s.data.toList.map (fun x => (x.toNat : Int))
theorem textL_len (s : ByteArray) : (textL s).length = s.size := by unfold textL; rw [List.length_map]; exact Array.length_toList
theorem str_flat (s : ByteArray) : Lib.strCells s = flatY (textL s) := by
  unfold Lib.strCells textL
  generalize s.data.toList = r
  show _ = (r.map _).flatMap encY
  induction r with
  | nil => rfl
  | cons c r ih => rw [List.map_cons, List.map_cons, List.flatMap_cons, ← ih]; rfl
theorem append_text (w : World) {t u ty e : TypeId} {i : TypeInfo} {P : Program} (ht : P.underlying t = some (.slice e)) (hu : P.underlying u = some .string) (hi : P.info? e = some i) (hz : i.zero = some (.int .u8 0)) (hsize : i.size = 1) (hby : i.bytes = 1)
    (v : Value) (n : Nat) (xs : List Value) (hown : w.ownsRow 0 e 1 v n xs) (s : ByteArray) (h63 : n + s.size ≤ 130000000000000) :
    ∃ v' w', (Builtin.append_ #[t, u] ty #[v, .string s]).run P w = .ok v' w' ∧ w'.ownsRow 0 e 1 v' (n + s.size) (xs ++ Lib.strCells s) ∧ w.grownBy w' v.ownBlock ∧ (v'.ownBlock = v.ownBlock ∨ v'.ownBlock = some w.heap.size) := by
  obtain ⟨v', w', h1, h2, h3, h4⟩ := Lib.run_append_own_string (P := P) w 0 t u ty e i ht hu hi hz hsize hby v n xs hown s (by unfold maxLen; omega) (by omega) (Nat.zero_le _)
  refine ⟨v', w', h1, h2, h3, ?_⟩
  have hxl : xs.length = n := by simpa using hown.1
  rcases hown.2 with ⟨rfl, rfl⟩ | ⟨g, cap, cur, rfl, hbg, hg, hnc, hcm, hcs, htake⟩
  · by_cases hm : s.size = 0
    · have := h4.2 ⟨rfl, hm⟩
      subst this
      exact .inl rfl
    · have hr := run_append_nil_string (P := P) w t u ty e i (.int .u8 0) ht hu hi hz s (by omega) (by omega) (by rw [hby]; omega)
      rw [h1] at hr
      cases hr
      exact .inr rfl
  · by_cases hroom : n + s.size ≤ cap
    · have hr := Lib.run_append_room_string (P := P) w t u ty e i ht hu hi hsize g n cap cur hg s hroom (by omega)
      rw [h1] at hr
      cases hr
      exact .inl rfl
    · have holds : ∀ j u, xs[j]? = some u → w.cell? ((⟨g, 0, none⟩ : Addr).add j) = some u := hown.cells (g := g) rfl
      have hr := Lib.run_append_grow_string (P := P) w t u ty e i (.int .u8 0) ht hu hi hz ⟨g, 0, none⟩ n cap xs (by rw [hsize]; simpa using hxl) holds s (by omega) (by omega) (by rw [hby]; exact growslice_fits (by omega) (by omega))
      rw [h1] at hr
      cases hr
      exact .inr rfl
theorem wpList_append_text_at {P : Program} {ops : Array Oper} {rest : List Oper} {o : Oper} {a : Act} {Q : Exit → Act → World → Prop} {L0 L F : List Part} {w0 w : World} {e : TypeId} {n : Nat} {v : Value} {xs : List Value} {i : TypeInfo} (hg : o.guard = none) (s' x : Operand) (t u : TypeId) (ho : o.op = .call { callee := .builtin .append, args := #[s', x], argTypes := #[t, u] })
    (ht : P.underlying t = some (.slice e)) (hu : P.underlying u = some .string) (hi : P.info? e = some i) (hz : i.zero = some (.int .u8 0)) (hsize : i.size = 1) (hby : i.bytes = 1)
    (h : At L0 w0 L w) (s : Sel (Part.row e 1 v n xs) L F) (hs : a.eval s' = v) {tx : ByteArray} (hx : a.eval x = .string tx) (h63 : n + tx.size ≤ 130000000000000)
    (hK : ∀ v' w', At L0 w0 (Part.row e 1 v' (n + tx.size) (xs ++ Lib.strCells tx) :: F) w' → wpList P ops Q rest (a.put o.dst v') w') : wpList P ops Q (o :: rest) a w := by
  obtain ⟨v', w', h1, h2, h3, h4⟩ := append_text (P := P) (ty := o.type) w ht hu hi hz hsize hby v n xs (h.get s) tx h63
  refine wpList_val hg ?_ (hK v' w' (h.turn s _ h2 (fun b hb => by
      rcases h4 with h4 | h4
      · exact .inl (show v.ownBlock = some b from by rw [← h4]; exact hb)
      · right
        have hb' : v'.ownBlock = some b := hb
        rw [h4] at hb'
        cases hb'
        exact Nat.le_refl _) (exc_grown h3)))
  simp [execOp, ho, resolve, invoke, builtin, hs, hx, h1, Result.andThen]
def textB (s : ByteArray) : List Int := shortN s.size ++ textL s
set_option maxRecDepth 100000 in
set_option maxHeartbeats 1000000 in
theorem outText {w : World} {b : Nat} {u : Value} {l : List Int} (h : Sep [outC b u, rowY u l] w) (s : ByteArray) (hsz : s.size ≤ 20000000000000) (hl : l.length ≤ 100000000000000) :
    Calls Tryz.prog 60 #[.pointer (some ⟨b, 0, none⟩), .string s] w (OutPost w b u l (textB s)) := by
  obtain ⟨i0, hi0, hz0, hz1, hz2⟩ := info_parts infoY
  have hA := At.start h
  have hF := hA.facts
  have hw : IntKind.u64.wrap (s.size : Int) = (s.size : Int) := by rw [IntKind.wrap_u64]; omega
  have hnl : (shortN s.size).length ≤ 10 := short_len 9 s.size (by omega)
  (try simp only [setL, List.set_cons_zero, List.set_cons_succ, List.cons_append, List.nil_append] at hA); (have hF := hA.facts); (try simp only [facts_cons, facts_nil, facts_cells, facts_old, facts_fact, facts_obj, facts_map, facts_iter, facts_row, and_true, true_and] at hF)
  go_enter Tryz.func60, Tryz.ntmps60
  go_wp2_with fail
  refine (outShort h s.size (by omega) hl).mono ?_
  clear h hF hA
  rintro e w' ⟨u', rfl, hA⟩
  have hll : (l ++ shortN s.size).length ≤ 100000000000010 := by rw [List.length_append]; omega
  obtain ⟨l2, hl2⟩ : ∃ z, l ++ shortN s.size = z := ⟨_, rfl⟩
  rw [hl2] at hA hll
  obtain ⟨ax, an, cap, hav, han⟩ := hA.row_hid (v := u') (n := l2.length) (xs := flatY l2) (by with_reducible repeat (first | exact Sel.here | apply Sel.there))
  subst hav
  have han2 := han.out
  subst han2
  clear han
  have hF := hA.facts
  (try simp only [setL, List.set_cons_zero, List.set_cons_succ, List.cons_append, List.nil_append] at hA); (have hF := hA.facts); (try simp only [facts_cons, facts_nil, facts_cells, facts_old, facts_fact, facts_obj, facts_map, facts_iter, facts_row, and_true, true_and] at hF)
  go_wp2_with (first
    | (with_reducible show wpList _ _ _ ({ dst := _, op := Op.call { callee := Callee.builtin Builtin.append, args := _, argTypes := _ }, type := _, pos := _, after := _, guard := _ } :: _) _ _; refine wpList_append_text_at (e := 5) (v := .slice ax l2.length cap) (xs := flatY l2) (n := l2.length) (tx := s) rfl _ _ 74 9 rfl Tryz.underlying74 Tryz.underlying9 hi0 hz0 hz1 hz2 hA (by with_reducible repeat (first | exact Sel.here | apply Sel.there)) (by (try simp only [Act.eval, Array.getD_eq_getD_getElem?, List.getElem?_toArray, List.getElem?_cons_succ, List.getElem?_cons_zero, Option.getD_some]) <;> exact rfl) (by (try simp only [Act.eval, Array.getD_eq_getD_getElem?, List.getElem?_toArray, List.getElem?_cons_succ, List.getElem?_cons_zero, Option.getD_some]) <;> exact rfl) (by omega) ?_; intro v2 w7 hB; rw [str_flat, ← textL_len, rowY_app] at hB; obtain ⟨cx, cn, ccap, hcv, hcn⟩ := hB.row_hid (v := v2) (n := (l2 ++ textL s).length) (xs := flatY (l2 ++ textL s)) (by with_reducible repeat (first | exact Sel.here | apply Sel.there)); subst hcv; clear hF hA; have hA := hB; clear hB; (try simp only [setL, List.set_cons_zero, List.set_cons_succ, List.cons_append, List.nil_append] at hA); (have hF := hA.facts); (try simp only [facts_cons, facts_nil, facts_cells, facts_old, facts_fact, facts_obj, facts_map, facts_iter, facts_row, and_true, true_and] at hF))
    | ((with_reducible show wpList _ _ _ ({ dst := _, op := Op.store _ _ _, type := _, pos := _, after := _, guard := _ } :: _) _ _); refine wpList_store_at rfl rfl rfl (by (try simp only [Act.eval, Array.getD_eq_getD_getElem?, List.getElem?_toArray, List.getElem?_cons_succ, List.getElem?_cons_zero, Option.getD_some]) <;> exact rfl) (by exact rfl) hA (by with_reducible repeat (first | exact Sel.here | apply Sel.there)) (by kernel_rfl) rfl (by first | decide | (simp; done) | omega) ?_; intro w1 hB; clear hF hA; have hA := hB; clear hB; (try simp only [setL, List.set_cons_zero, List.set_cons_succ, List.cons_append, List.nil_append] at hA); (have hF := hA.facts); (try simp only [facts_cons, facts_nil, facts_cells, facts_old, facts_fact, facts_obj, facts_map, facts_iter, facts_row, and_true, true_and] at hF)) | ((with_reducible show wpList _ _ _ ({ dst := _, op := Op.box _ _, type := _, pos := _, after := _, guard := _ } :: _) _ _); refine wpList_box_at rfl rfl (by (try simp only [Act.eval, Array.getD_eq_getD_getElem?, List.getElem?_toArray, List.getElem?_cons_succ, List.getElem?_cons_zero, Option.getD_some]) <;> exact rfl) (by exact rfl) hA ?_; intro b1 w1 hB hb1; clear hF hA; have hA := hB; clear hB; (try simp only [setL, List.set_cons_zero, List.set_cons_succ, List.cons_append, List.nil_append] at hA); (have hF := hA.facts); (try simp only [facts_cons, facts_nil, facts_cells, facts_old, facts_fact, facts_obj, facts_map, facts_iter, facts_row, and_true, true_and] at hF)))
  go_ret
  refine ⟨.slice cx cn ccap, rfl, ?_⟩
  have hE := hA.only2 (A := outC b (.slice cx cn ccap)) (B := rowY (.slice cx cn ccap) (l2 ++ textL s)) (by with_reducible repeat (first | exact Sel.here | apply Sel.there)) (by with_reducible repeat (first | exact Sel.here | apply Sel.there))
  rw [← hl2, List.append_assoc] at hE
  exact hE
end Go.Proofs.YtalfoiodejoicaaGreatDoor.Wire
end

section
namespace Go.Proofs.YtalfoiodejoicaaGreatDoor.Enc
open _root_.Go.Proofs.YtalfoiodejoicaaGreatDoor.Wire
set_option linter.unusedSimpArgs false
set_option linter.unusedVariables false

/-! ### Codes of which none is the beginning of another one -/
theorem short_cut : ∀ (v w : Nat) (r s : List Int), shortN v ++ r = shortN w ++ s → v = w ∧ r = s := by
  intro v
  induction v using Nat.strongRecOn with
  | _ v ih =>
    intro w r s h
    by_cases hv : v < 128
    · by_cases hw : w < 128
      · rw [short_lo hv, short_lo hw] at h
        simp only [List.cons_append, List.nil_append, List.cons.injEq] at h
        exact ⟨by omega, h.2⟩
      · rw [short_lo hv, short_hi (v := w) (by omega)] at h
        simp only [List.cons_append, List.nil_append, List.cons.injEq] at h
        omega
    · by_cases hw : w < 128
      · rw [short_hi (v := v) (by omega), short_lo hw] at h
        simp only [List.cons_append, List.nil_append, List.cons.injEq] at h
        omega
      · rw [short_hi (v := v) (by omega), short_hi (v := w) (by omega)] at h
        simp only [List.cons_append, List.cons.injEq] at h
        obtain ⟨h1, h2⟩ := ih (v / 128) (by omega) (w / 128) r s h.2
        exact ⟨by omega, h2⟩
theorem fix_cut {v w : Nat} (hv : v < 18446744073709551616) (hw : w < 18446744073709551616) {r s : List Int} (h : fixL v ++ r = fixL w ++ s) : v = w ∧ r = s := by
  unfold fixL byteN at h
  simp only [List.cons_append, List.nil_append, List.cons.injEq] at h
  obtain ⟨h0, h1, h2, h3, h4, h5, h6, h7, h8⟩ := h
  refine ⟨?_, h8⟩
  simp only [Nat.reducePow, Int.natCast_inj, Nat.div_one] at h0 h1 h2 h3 h4 h5 h6 h7
  omega
theorem textL_inj {s t : ByteArray} (h : textL s = textL t) : s = t := by
  unfold textL at h
  refine Go.WideShapes.bytes_inj ?_
  have : ∀ (a b : List UInt8), a.map (fun x => (x.toNat : Int)) = b.map (fun x => (x.toNat : Int)) → a = b := by
    intro a
    induction a with
    | nil => intro b hb; cases b with
      | nil => rfl
      | cons x b => simp at hb
    | cons x a ih => intro b hb; cases b with
      | nil => simp at hb
      | cons y b =>
        simp only [List.map_cons, List.cons.injEq] at hb
        rw [ih b hb.2, show x = y from UInt8.toNat_inj.1 (by omega)]
  exact this _ _ h
theorem text_cut {s t : ByteArray} {q r : List Int} (h : textB s ++ q = textB t ++ r) : s = t ∧ q = r := by
  unfold textB at h
  rw [List.append_assoc, List.append_assoc] at h
  obtain ⟨h1, h2⟩ := short_cut _ _ _ _ h
  have h3 := List.append_inj h2 (by rw [textL_len, textL_len, h1])
  exact ⟨textL_inj h3.1, h3.2⟩
theorem list_cut {α : Type} {f : α → List Int} {P : α → Prop} (hf : ∀ a b r s, P a → P b → f a ++ r = f b ++ s → a = b ∧ r = s) : ∀ (l m : List α), (∀ a ∈ l, P a) → (∀ a ∈ m, P a) → l.length = m.length → ∀ r s, l.flatMap f ++ r = m.flatMap f ++ s → l = m ∧ r = s
  | [], [], _, _, _, r, s, h => ⟨rfl, h⟩
  | [], _ :: _, _, _, h, _, _, _ => by simp at h
  | _ :: _, [], _, _, h, _, _, _ => by simp at h
  | a :: l, b :: m, hl, hm, hn, r, s, h => by
    rw [List.flatMap_cons, List.flatMap_cons, List.append_assoc, List.append_assoc] at h
    obtain ⟨h1, h2⟩ := hf a b _ _ (hl a (List.mem_cons_self ..)) (hm b (List.mem_cons_self ..)) h
    obtain ⟨h3, h4⟩ := list_cut hf l m (fun x hx => hl x (List.mem_cons_of_mem _ hx)) (fun x hx => hm x (List.mem_cons_of_mem _ hx)) (by simpa using hn) r s h2
    exact ⟨by rw [h1, h3], h4⟩
end Go.Proofs.YtalfoiodejoicaaGreatDoor.Enc
end

section
namespace Go.Proofs.YtalfoiodejoicaaGreatDoor.Lock
open _root_.Go.Proofs.YtalfoiodejoicaaGreatDoor.Wire
open _root_.Go.Proofs.YtalfoiodejoicaaGreatDoor.Enc
set_option linter.unusedSimpArgs false
set_option linter.unusedVariables false

def encE (e : Ent) : List Int := textB e.path ++ fixL e.num.toNat ++ textB e.foot ++ [e.mode] ++ fixL e.n.toNat ++ shortN e.stamp.toNat
def encC (c : ByteArray × Int) : List Int := textB c.1 ++ fixL c.2.toNat
def encB (es : List Ent) (cs : List (ByteArray × Int)) : List Int := shortN es.length ++ es.flatMap encE ++ shortN cs.length ++ cs.flatMap encC
structure okE (e : Ent) : Prop where
  n0 : 0 ≤ e.num
  n1 : e.num < 18446744073709551616
  k0 : 0 ≤ e.n
  k1 : e.n < 18446744073709551616
  s0 : 0 ≤ e.stamp
def okC (c : ByteArray × Int) : Prop := 0 ≤ c.2 ∧ c.2 < 18446744073709551616
theorem encE_cut (a b : Ent) (r s : List Int) (ha : okE a) (hb : okE b) (h : encE a ++ r = encE b ++ s) : a = b ∧ r = s := by
  obtain ⟨p1, n1, f1, m1, k1, s1⟩ := a
  obtain ⟨p2, n2, f2, m2, k2, s2⟩ := b
  obtain ⟨a0, a1, a2, a3, a4⟩ := ha
  obtain ⟨b0, b1, b2, b3, b4⟩ := hb
  simp only at a0 a1 a2 a3 a4 b0 b1 b2 b3 b4
  unfold encE at h
  simp only [List.append_assoc] at h
  obtain ⟨q1, h1⟩ := text_cut h
  obtain ⟨e1, h2⟩ := fix_cut (v := n1.toNat) (w := n2.toNat) (by omega) (by omega) h1
  obtain ⟨q2, h3⟩ := text_cut h2
  simp only [List.cons_append, List.nil_append, List.cons.injEq] at h3
  obtain ⟨q3, h4⟩ := h3
  obtain ⟨e2, h5⟩ := fix_cut (v := k1.toNat) (w := k2.toNat) (by omega) (by omega) h4
  obtain ⟨e3, h6⟩ := short_cut _ _ _ _ h5
  refine ⟨?_, h6⟩
  rw [q1, q2, q3, show n1 = n2 from by omega, show k1 = k2 from by omega, show s1 = s2 from by omega]
theorem encC_cut (a b : ByteArray × Int) (r s : List Int) (ha : okC a) (hb : okC b) (h : encC a ++ r = encC b ++ s) : a = b ∧ r = s := by
  obtain ⟨p1, n1⟩ := a
  obtain ⟨p2, n2⟩ := b
  obtain ⟨a0, a1⟩ := ha
  obtain ⟨b0, b1⟩ := hb
  simp only at a0 a1 b0 b1
  unfold encC at h
  simp only [List.append_assoc] at h
  obtain ⟨q1, h1⟩ := text_cut h
  obtain ⟨e1, h2⟩ := fix_cut (v := n1.toNat) (w := n2.toNat) (by omega) (by omega) h1
  refine ⟨?_, h2⟩
  rw [q1, show n1 = n2 from by omega]
theorem encB_iff {es fs : List Ent} {cs ds : List (ByteArray × Int)} (h1 : ∀ e ∈ es, okE e) (h2 : ∀ e ∈ fs, okE e) (h3 : ∀ c ∈ cs, okC c) (h4 : ∀ c ∈ ds, okC c) : encB es cs = encB fs ds ↔ es = fs ∧ cs = ds := by
  constructor
  · intro h
    unfold encB at h
    simp only [List.append_assoc] at h
    obtain ⟨e1, g1⟩ := short_cut _ _ _ _ h
    obtain ⟨e2, g2⟩ := list_cut encE_cut es fs h1 h2 e1 _ _ g1
    obtain ⟨e3, g3⟩ := short_cut _ _ _ _ g2
    have h' : cs.flatMap encC ++ [] = ds.flatMap encC ++ [] := by rw [List.append_nil, List.append_nil]; exact g3
    exact ⟨e2, (list_cut encC_cut cs ds h3 h4 e3 _ _ h').1⟩
  · rintro ⟨rfl, rfl⟩; rfl
end Go.Proofs.YtalfoiodejoicaaGreatDoor.Lock
end

section
namespace Go.Proofs.YtalfoiodejoicaaGreatDoor.Lock
set_option linter.unusedSimpArgs false
set_option linter.unusedVariables false

theorem same_perm {α : Type} : ∀ {l m : List α}, l.Nodup → l.length = m.length → (∀ x ∈ l, x ∈ m) → l.Perm m
  | [], m, _, hlen, _ => by rw [List.eq_nil_of_length_eq_zero (l := m) hlen.symm]
  | x :: l, m, hl, hlen, h => by
    obtain ⟨p, q, rfl⟩ := List.append_of_mem (h x (by simp))
    have hx : x ∉ l := (List.nodup_cons.1 hl).1
    have ih := same_perm (l := l) (m := p ++ q) (List.nodup_cons.1 hl).2 (by simp at hlen ⊢; omega) (fun y hy => by
      have := h y (by simp [hy])
      simp only [List.mem_append, List.mem_cons] at this ⊢
      rcases this with q | rfl | q
      · exact .inl q
      · exact absurd hy hx
      · exact .inr q)
    exact (List.Perm.cons x ih).trans List.perm_middle.symm
/-- the sorted lists are one just if each entry of the one is the other's -/
theorem list_same {es fs l m : List Ent} (h1 : l.Perm es) (h2 : m.Perm fs) (s1 : l.Pairwise ltE) (s2 : m.Pairwise ltE) (nd : es.Nodup) : l = m ↔ es.length = fs.length ∧ ∀ x ∈ es, x ∈ fs := by
  constructor
  · rintro rfl
    exact ⟨h1.length_eq.symm.trans h2.length_eq, fun x hx => h2.mem_iff.1 (h1.mem_iff.2 hx)⟩
  · rintro ⟨hn, hm⟩
    exact sorted_one s1 s2 (h1.trans ((same_perm nd hn hm).trans h2.symm))
/-- what is found of an entry's key in a book -/
theorem find_iff {fs : List Ent} (hk : fs.Pairwise (fun a b => ¬(a.path = b.path ∧ a.num = b.num ∧ a.foot = b.foot))) (e : Ent) : find fs e.path e.num e.foot = some e ↔ e ∈ fs := by
  constructor
  · intro h
    obtain ⟨l1, l2, rfl, _⟩ := find_split h
    simp
  · intro h
    cases hf : find fs e.path e.num e.foot with
    | none => exact absurd ⟨rfl, rfl, rfl⟩ (find_none_iff.1 hf e h)
    | some x =>
      obtain ⟨l1, l2, hs, p1, p2, p3, _⟩ := find_split hf
      have hx : x ∈ fs := by rw [hs]; simp
      by_cases hxe : x = e
      · rw [hxe]
      · exfalso
        obtain ⟨i, hi, rfl⟩ := List.mem_iff_getElem.1 hx
        obtain ⟨j, hj, rfl⟩ := List.mem_iff_getElem.1 h
        have hp := List.pairwise_iff_getElem.1 hk
        rcases Nat.lt_trichotomy i j with q | q | q
        · exact hp i j hi hj q ⟨p1, p2, p3⟩
        · subst q; exact hxe rfl
        · exact hp j i hj hi q ⟨p1.symm, p2.symm, p3.symm⟩
theorem keys_nodup {fs : List Ent} (hk : fs.Pairwise (fun a b => ¬(a.path = b.path ∧ a.num = b.num ∧ a.foot = b.foot))) : fs.Nodup :=
  hk.imp (fun h e => h (by rw [e]; exact ⟨rfl, rfl, rfl⟩))
/-- counters: sorted by their paths in any strict order, they are one just if each of the one is the other's -/
theorem counters_same {cs ds l m : List (ByteArray × Int)} {lt : (ByteArray × Int) → (ByteArray × Int) → Prop} (asy : ∀ x y, lt x y → ¬ lt y x) (h1 : l.Perm cs) (h2 : m.Perm ds) (s1 : l.Pairwise lt) (s2 : m.Pairwise lt) (nd : cs.Nodup) : l = m ↔ cs.length = ds.length ∧ ∀ x ∈ cs, x ∈ ds := by
  constructor
  · rintro rfl
    exact ⟨h1.length_eq.symm.trans h2.length_eq, fun x hx => h2.mem_iff.1 (h1.mem_iff.2 hx)⟩
  · rintro ⟨hn, hm⟩
    exact (h1.trans ((same_perm nd hn hm).trans h2.symm)).eq_of_pairwise (fun a b _ _ q r => absurd r (asy a b q)) s1 s2
end Go.Proofs.YtalfoiodejoicaaGreatDoor.Lock
end
