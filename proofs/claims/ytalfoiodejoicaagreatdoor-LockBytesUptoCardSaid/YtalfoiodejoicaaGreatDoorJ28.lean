/- LockLd, joined. -/
import Derived.Test.YtalfoiodejoicaaGreatDoorJ27
section
namespace Go.Proofs.YtalfoiodejoicaaGreatDoor.Lock
open Go.RowKit
open Go.Maps (Keyed)
open Path (bl rightB overB)
set_option linter.unusedSimpArgs false
set_option linter.unusedVariables false

section
variable {a : Pl} {t s : S3} {k j : Nat} {w : World} {vL vC : Value}
theorem idx_isSome {L : List Ent} {p : ByteArray} {n : Int} {f : ByteArray} {b : Bool} (h : (find L p n f).isSome = b) : (b = true → 0 ≤ idxD L p n f) ∧ (b = false → idxD L p n f = -1) := by
  subst h
  exact find_idx
theorem remove_same {s : S3} {p : ByteArray} {n : Int} {f : ByteArray} (h : (find s.es p n f).isSome = false) : s.remove p n f = s := by
  have : find s.es p n f = none := by
    cases hq : find s.es p n f with
    | none => rfl
    | some x => rw [hq] at h; cases h
  exact remove_none (b := ⟨0, 0, 0, s.first, s.es, s.cs⟩) this
set_option maxRecDepth 100000 in
set_option maxHeartbeats 4000000 in
theorem step2_any (h : Sep [bookS a t, rowE vL s.es, rowC vC s.cs] w) (hI : Inv t k) (hJ : Inv s j) (hk : k ≤ 1000) (hj : j ≤ 1000) (p : ByteArray) (n : Int) (f : ByteArray) (mode : Int) (ho : (⟨2, mode, p, n, f⟩ : Op).ok) :
    Calls Tryz.prog 20 #[.pointer (some ⟨a.p, 0, none⟩), .agg #[.int .u64 s.first, vL, vC], .agg #[.int .i64 2, .int .i64 mode, .string p, .int .u64 n, .string f]] w (StepPost w a t s vL vC ⟨2, mode, p, n, f⟩) := by
  obtain ⟨hp0, h0, h1, hf⟩ := ho
  simp only at hp0 h0 h1 hf
  have hp : p.size ≤ 1000 := by omega
  have hA := At.start h
  have hF := hA.facts
  clear h
  obtain ⟨ax, cap, rfl, _, _, _⟩ := hA.row_form (v := vL) (xs := flatE s.es) (by with_reducible repeat (first | exact Sel.here | apply Sel.there))
  obtain ⟨cx, cap2, rfl, _, _, _⟩ := hA.row_form (v := vC) (xs := flatC s.cs) (by with_reducible repeat (first | exact Sel.here | apply Sel.there))
  obtain ⟨q1, hq1⟩ : ∃ q, (find t.es p n f).isSome = q := ⟨_, rfl⟩
  obtain ⟨q2, hq2⟩ : ∃ q, (find s.es p n f).isSome = q := ⟨_, rfl⟩
  have hok : okB t s ⟨2, mode, p, n, f⟩ = decide (q1 = q2) := by
    unfold okB
    rw [if_neg (by simp), if_pos rfl, hq1, hq2]
  have hst : t.step ⟨2, mode, p, n, f⟩ = t.remove p n f := by unfold S3.step; rw [if_neg (by simp), if_pos rfl]
  have hss : s.step ⟨2, mode, p, n, f⟩ = s.remove p n f := by unfold S3.step; rw [if_neg (by simp), if_pos rfl]
  have hre : q2 = false → s.remove p n f = s := fun q => remove_same (hq2.trans q)
  have hrd : s.remove p n f = ⟨s.first, dropF false p n f s.es, s.cs⟩ := by rw [dropF_one]; rfl
  unfold StepPost
  rw [hok, hst, hss]
  have hrm := fun (w1 : World) (q : Sep [bookS a t] w1) => remove_at q hp h0 h1 hf
  rw [hq1] at hrm
  have hfi := fun (w1 : World) (q : Sep [rowE (.slice ax s.es.length cap) s.es] w1) => findR_any q s.first (.slice cx s.cs.length cap2) ⟨_, _, _, rfl⟩ p n f (hJ.len' hj)
  have hix := idx_isSome hq2
  generalize idxD s.es p n f = ix at *
  have hdr := fun (w1 : World) (q : Sep [rowE (.slice ax s.es.length cap) s.es] w1) => dropR_any q s.first (.slice cx s.cs.length cap2) ⟨_, _, _, rfl⟩ p n f false (hJ.len' hj)
  generalize t.remove p n f = t' at *
  clear hq1 hq2 hok hst hss hI hJ
  (try simp only [setL, List.set_cons_zero, List.set_cons_succ, List.cons_append, List.nil_append] at hA); (have hF := hA.facts); (try simp only [facts_cons, facts_nil, facts_cells, facts_old, facts_fact, facts_obj, facts_map, facts_iter, facts_row, and_true, true_and] at hF)
  cases q2 with
  | false =>
    rw [hre rfl]
    have hi2 := hix.2 rfl
    subst hi2
    clear hre hrd hix hdr
    cases q1
    all_goals
      go_enter Tryz.func20, Tryz.ntmps20
      go_wp2_with (first | ((with_reducible show wpList _ _ _ ({ dst := _, op := Op.box _ _, type := _, pos := _, after := _, guard := _ } :: _) _ _); refine wpList_box_at (E := 68) rfl rfl (by (try simp only [Act.eval, Array.getD_eq_getD_getElem?, List.getElem?_toArray, List.getElem?_cons_succ, List.getElem?_cons_zero, Option.getD_some]) <;> exact rfl) (by exact rfl) hA ?_; intro bX w1 hB hbX; clear hF hA; have hA := hB; clear hB; (try simp only [setL, List.set_cons_zero, List.set_cons_succ, List.cons_append, List.nil_append] at hA); (have hF := hA.facts); (try simp only [facts_cons, facts_nil, facts_cells, facts_old, facts_fact, facts_obj, facts_map, facts_iter, facts_row, and_true, true_and] at hF)) | ((with_reducible show wpList _ _ _ ({ dst := _, op := Op.box _ _, type := _, pos := _, after := _, guard := _ } :: _) _ _); refine wpList_box_at (E := 70) rfl rfl (by (try simp only [Act.eval, Array.getD_eq_getD_getElem?, List.getElem?_toArray, List.getElem?_cons_succ, List.getElem?_cons_zero, Option.getD_some]) <;> exact rfl) (by exact rfl) hA ?_; intro bO w1 hB hbO; clear hF hA; have hA := hB; clear hB; (try simp only [setL, List.set_cons_zero, List.set_cons_succ, List.cons_append, List.nil_append] at hA); (have hF := hA.facts); (try simp only [facts_cons, facts_nil, facts_cells, facts_old, facts_fact, facts_obj, facts_map, facts_iter, facts_row, and_true, true_and] at hF)) | ((with_reducible show wpList _ _ _ ({ dst := _, op := Op.alloc _, type := _, pos := _, after := _, guard := _ } :: _) _ _); refine wpList_alloc_at (E := 68) (z := .agg #[.int .u64 0, .slice none 0 0, .slice none 0 0]) (vs := [.int .u64 0, .slice none 0 0, .slice none 0 0]) rfl rfl (by kernel_rfl) rfl hA ?_; intro bR w1 hB hbR; clear hF hA; have hA := hB; clear hB; (try simp only [setL, List.set_cons_zero, List.set_cons_succ, List.cons_append, List.nil_append] at hA); (have hF := hA.facts); (try simp only [facts_cons, facts_nil, facts_cells, facts_old, facts_fact, facts_obj, facts_map, facts_iter, facts_row, and_true, true_and] at hF)) | ((with_reducible show wpList _ _ _ ({ dst := _, op := Op.alloc _, type := _, pos := _, after := _, guard := _ } :: _) _ _); refine wpList_alloc_at (E := 25) (z := .agg #[.int .u64 0, .string .empty]) (vs := [.int .u64 0, .string .empty]) rfl rfl (by kernel_rfl) rfl hA ?_; intro bS w1 hB hbS; clear hF hA; have hA := hB; clear hB; (try simp only [setL, List.set_cons_zero, List.set_cons_succ, List.cons_append, List.nil_append] at hA); (have hF := hA.facts); (try simp only [facts_cons, facts_nil, facts_cells, facts_old, facts_fact, facts_obj, facts_map, facts_iter, facts_row, and_true, true_and] at hF)) | ((with_reducible show wpList _ _ _ ({ dst := _, op := Op.store _ _ _, type := _, pos := _, after := _, guard := _ } :: _) _ _); refine wpList_store_at rfl rfl rfl (by (try simp only [Act.eval, Array.getD_eq_getD_getElem?, List.getElem?_toArray, List.getElem?_cons_succ, List.getElem?_cons_zero, Option.getD_some]) <;> exact rfl) (by exact rfl) hA (by with_reducible repeat (first | exact Sel.here | apply Sel.there)) (by kernel_rfl) rfl (by first | decide | (simp; done) | omega) ?_; intro w1 hB; clear hF hA; have hA := hB; clear hB; (try simp only [setL, List.set_cons_zero, List.set_cons_succ, List.cons_append, List.nil_append] at hA); (have hF := hA.facts); (try simp only [facts_cons, facts_nil, facts_cells, facts_old, facts_fact, facts_obj, facts_map, facts_iter, facts_row, and_true, true_and] at hF)) | ((with_reducible show wpList _ _ _ ({ dst := _, op := Op.box _ _, type := _, pos := _, after := _, guard := _ } :: _) _ _); refine wpList_box_at rfl rfl (by (try simp only [Act.eval, Array.getD_eq_getD_getElem?, List.getElem?_toArray, List.getElem?_cons_succ, List.getElem?_cons_zero, Option.getD_some]) <;> exact rfl) (by exact rfl) hA ?_; intro b1 w1 hB hb1; clear hF hA; have hA := hB; clear hB; (try simp only [setL, List.set_cons_zero, List.set_cons_succ, List.cons_append, List.nil_append] at hA); (have hF := hA.facts); (try simp only [facts_cons, facts_nil, facts_cells, facts_old, facts_fact, facts_obj, facts_map, facts_iter, facts_row, and_true, true_and] at hF)))
      refine (hrm _ (hA.sep1 (A := bookS a t) (by with_reducible repeat (first | exact Sel.here | apply Sel.there)))).mono ?_
      clear hrm
      simp only [Bool.false_eq_true, if_false, if_true]
      rintro e w1 ⟨rfl, hT⟩; have hB := hA.call1 (by with_reducible repeat (first | exact Sel.here | apply Sel.there)) hT; clear hF hA hT; have hA := hB; clear hB; (try simp only [setL, List.set_cons_zero, List.set_cons_succ, List.cons_append, List.nil_append] at hA); (have hF := hA.facts); (try simp only [facts_cons, facts_nil, facts_cells, facts_old, facts_fact, facts_obj, facts_map, facts_iter, facts_row, and_true, true_and] at hF)
      go_wp2_with (first | ((with_reducible show wpList _ _ _ ({ dst := _, op := Op.store _ _ _, type := _, pos := _, after := _, guard := _ } :: _) _ _); refine wpList_store_at rfl rfl rfl (by (try simp only [Act.eval, Array.getD_eq_getD_getElem?, List.getElem?_toArray, List.getElem?_cons_succ, List.getElem?_cons_zero, Option.getD_some]) <;> exact rfl) (by exact rfl) hA (by with_reducible repeat (first | exact Sel.here | apply Sel.there)) (by kernel_rfl) rfl (by first | decide | (simp; done) | omega) ?_; intro w1 hB; clear hF hA; have hA := hB; clear hB; (try simp only [setL, List.set_cons_zero, List.set_cons_succ, List.cons_append, List.nil_append] at hA); (have hF := hA.facts); (try simp only [facts_cons, facts_nil, facts_cells, facts_old, facts_fact, facts_obj, facts_map, facts_iter, facts_row, and_true, true_and] at hF)) | ((with_reducible show wpList _ _ _ ({ dst := _, op := Op.box _ _, type := _, pos := _, after := _, guard := _ } :: _) _ _); refine wpList_box_at rfl rfl (by (try simp only [Act.eval, Array.getD_eq_getD_getElem?, List.getElem?_toArray, List.getElem?_cons_succ, List.getElem?_cons_zero, Option.getD_some]) <;> exact rfl) (by exact rfl) hA ?_; intro b1 w1 hB hb1; clear hF hA; have hA := hB; clear hB; (try simp only [setL, List.set_cons_zero, List.set_cons_succ, List.cons_append, List.nil_append] at hA); (have hF := hA.facts); (try simp only [facts_cons, facts_nil, facts_cells, facts_old, facts_fact, facts_obj, facts_map, facts_iter, facts_row, and_true, true_and] at hF)))
      refine (hfi _ (hA.sep1 (A := rowE (.slice ax s.es.length cap) s.es) (by with_reducible repeat (first | exact Sel.here | apply Sel.there)))).mono ?_
      clear hfi
      rintro e w1 ⟨rfl, hT⟩; have hB := hA.call1 (by with_reducible repeat (first | exact Sel.here | apply Sel.there)) hT; clear hF hA hT; have hA := hB; clear hB; (try simp only [setL, List.set_cons_zero, List.set_cons_succ, List.cons_append, List.nil_append] at hA); (have hF := hA.facts); (try simp only [facts_cons, facts_nil, facts_cells, facts_old, facts_fact, facts_obj, facts_map, facts_iter, facts_row, and_true, true_and] at hF)
      go_wp2_with (first | ((with_reducible show wpList _ _ _ ({ dst := _, op := Op.store _ _ _, type := _, pos := _, after := _, guard := _ } :: _) _ _); refine wpList_store_at rfl rfl rfl (by (try simp only [Act.eval, Array.getD_eq_getD_getElem?, List.getElem?_toArray, List.getElem?_cons_succ, List.getElem?_cons_zero, Option.getD_some]) <;> exact rfl) (by exact rfl) hA (by with_reducible repeat (first | exact Sel.here | apply Sel.there)) (by kernel_rfl) rfl (by first | decide | (simp; done) | omega) ?_; intro w1 hB; clear hF hA; have hA := hB; clear hB; (try simp only [setL, List.set_cons_zero, List.set_cons_succ, List.cons_append, List.nil_append] at hA); (have hF := hA.facts); (try simp only [facts_cons, facts_nil, facts_cells, facts_old, facts_fact, facts_obj, facts_map, facts_iter, facts_row, and_true, true_and] at hF)) | ((with_reducible show wpList _ _ _ ({ dst := _, op := Op.box _ _, type := _, pos := _, after := _, guard := _ } :: _) _ _); refine wpList_box_at rfl rfl (by (try simp only [Act.eval, Array.getD_eq_getD_getElem?, List.getElem?_toArray, List.getElem?_cons_succ, List.getElem?_cons_zero, Option.getD_some]) <;> exact rfl) (by exact rfl) hA ?_; intro b1 w1 hB hb1; clear hF hA; have hA := hB; clear hB; (try simp only [setL, List.set_cons_zero, List.set_cons_succ, List.cons_append, List.nil_append] at hA); (have hF := hA.facts); (try simp only [facts_cons, facts_nil, facts_cells, facts_old, facts_fact, facts_obj, facts_map, facts_iter, facts_row, and_true, true_and] at hF)))
    · refine bodyPost_ret (v := .tuple #[.agg #[.int .u64 s.first, .slice ax s.es.length cap, .slice cx s.cs.length cap2], .bool true]) (by simp [results, Tryz.results20, go_sem, hF]) rfl ⟨.slice ax s.es.length cap, .slice cx s.cs.length cap2, by simp, hA.pick (by with_reducible repeat (first | exact Picks.nil | refine Picks.cons (by with_reducible repeat (first | exact Sel.here | apply Sel.there)) ?_))⟩
    · refine bodyPost_ret (v := .tuple #[.agg #[.int .u64 s.first, .slice ax s.es.length cap, .slice cx s.cs.length cap2], .bool false]) (by simp [results, Tryz.results20, go_sem, hF]) rfl ⟨.slice ax s.es.length cap, .slice cx s.cs.length cap2, by simp, hA.pick (by with_reducible repeat (first | exact Picks.nil | refine Picks.cons (by with_reducible repeat (first | exact Sel.here | apply Sel.there)) ?_))⟩
  | true =>
    rw [hrd]
    have hi2 := hix.1 rfl
    have hi3 : ¬ ix < 0 := by omega
    clear hre hrd hix
    unfold DropPost at hdr
    generalize dropF false p n f s.es = L' at *
    cases q1
    all_goals
      go_enter Tryz.func20, Tryz.ntmps20
      go_wp2_with (first | ((with_reducible show wpList _ _ _ ({ dst := _, op := Op.box _ _, type := _, pos := _, after := _, guard := _ } :: _) _ _); refine wpList_box_at (E := 68) rfl rfl (by (try simp only [Act.eval, Array.getD_eq_getD_getElem?, List.getElem?_toArray, List.getElem?_cons_succ, List.getElem?_cons_zero, Option.getD_some]) <;> exact rfl) (by exact rfl) hA ?_; intro bX w1 hB hbX; clear hF hA; have hA := hB; clear hB; (try simp only [setL, List.set_cons_zero, List.set_cons_succ, List.cons_append, List.nil_append] at hA); (have hF := hA.facts); (try simp only [facts_cons, facts_nil, facts_cells, facts_old, facts_fact, facts_obj, facts_map, facts_iter, facts_row, and_true, true_and] at hF)) | ((with_reducible show wpList _ _ _ ({ dst := _, op := Op.box _ _, type := _, pos := _, after := _, guard := _ } :: _) _ _); refine wpList_box_at (E := 70) rfl rfl (by (try simp only [Act.eval, Array.getD_eq_getD_getElem?, List.getElem?_toArray, List.getElem?_cons_succ, List.getElem?_cons_zero, Option.getD_some]) <;> exact rfl) (by exact rfl) hA ?_; intro bO w1 hB hbO; clear hF hA; have hA := hB; clear hB; (try simp only [setL, List.set_cons_zero, List.set_cons_succ, List.cons_append, List.nil_append] at hA); (have hF := hA.facts); (try simp only [facts_cons, facts_nil, facts_cells, facts_old, facts_fact, facts_obj, facts_map, facts_iter, facts_row, and_true, true_and] at hF)) | ((with_reducible show wpList _ _ _ ({ dst := _, op := Op.alloc _, type := _, pos := _, after := _, guard := _ } :: _) _ _); refine wpList_alloc_at (E := 68) (z := .agg #[.int .u64 0, .slice none 0 0, .slice none 0 0]) (vs := [.int .u64 0, .slice none 0 0, .slice none 0 0]) rfl rfl (by kernel_rfl) rfl hA ?_; intro bR w1 hB hbR; clear hF hA; have hA := hB; clear hB; (try simp only [setL, List.set_cons_zero, List.set_cons_succ, List.cons_append, List.nil_append] at hA); (have hF := hA.facts); (try simp only [facts_cons, facts_nil, facts_cells, facts_old, facts_fact, facts_obj, facts_map, facts_iter, facts_row, and_true, true_and] at hF)) | ((with_reducible show wpList _ _ _ ({ dst := _, op := Op.alloc _, type := _, pos := _, after := _, guard := _ } :: _) _ _); refine wpList_alloc_at (E := 25) (z := .agg #[.int .u64 0, .string .empty]) (vs := [.int .u64 0, .string .empty]) rfl rfl (by kernel_rfl) rfl hA ?_; intro bS w1 hB hbS; clear hF hA; have hA := hB; clear hB; (try simp only [setL, List.set_cons_zero, List.set_cons_succ, List.cons_append, List.nil_append] at hA); (have hF := hA.facts); (try simp only [facts_cons, facts_nil, facts_cells, facts_old, facts_fact, facts_obj, facts_map, facts_iter, facts_row, and_true, true_and] at hF)) | ((with_reducible show wpList _ _ _ ({ dst := _, op := Op.store _ _ _, type := _, pos := _, after := _, guard := _ } :: _) _ _); refine wpList_store_at rfl rfl rfl (by (try simp only [Act.eval, Array.getD_eq_getD_getElem?, List.getElem?_toArray, List.getElem?_cons_succ, List.getElem?_cons_zero, Option.getD_some]) <;> exact rfl) (by exact rfl) hA (by with_reducible repeat (first | exact Sel.here | apply Sel.there)) (by kernel_rfl) rfl (by first | decide | (simp; done) | omega) ?_; intro w1 hB; clear hF hA; have hA := hB; clear hB; (try simp only [setL, List.set_cons_zero, List.set_cons_succ, List.cons_append, List.nil_append] at hA); (have hF := hA.facts); (try simp only [facts_cons, facts_nil, facts_cells, facts_old, facts_fact, facts_obj, facts_map, facts_iter, facts_row, and_true, true_and] at hF)) | ((with_reducible show wpList _ _ _ ({ dst := _, op := Op.box _ _, type := _, pos := _, after := _, guard := _ } :: _) _ _); refine wpList_box_at rfl rfl (by (try simp only [Act.eval, Array.getD_eq_getD_getElem?, List.getElem?_toArray, List.getElem?_cons_succ, List.getElem?_cons_zero, Option.getD_some]) <;> exact rfl) (by exact rfl) hA ?_; intro b1 w1 hB hb1; clear hF hA; have hA := hB; clear hB; (try simp only [setL, List.set_cons_zero, List.set_cons_succ, List.cons_append, List.nil_append] at hA); (have hF := hA.facts); (try simp only [facts_cons, facts_nil, facts_cells, facts_old, facts_fact, facts_obj, facts_map, facts_iter, facts_row, and_true, true_and] at hF)))
      refine (hrm _ (hA.sep1 (A := bookS a t) (by with_reducible repeat (first | exact Sel.here | apply Sel.there)))).mono ?_
      clear hrm
      simp only [Bool.false_eq_true, if_false, if_true]
      rintro e w1 ⟨rfl, hT⟩; have hB := hA.call1 (by with_reducible repeat (first | exact Sel.here | apply Sel.there)) hT; clear hF hA hT; have hA := hB; clear hB; (try simp only [setL, List.set_cons_zero, List.set_cons_succ, List.cons_append, List.nil_append] at hA); (have hF := hA.facts); (try simp only [facts_cons, facts_nil, facts_cells, facts_old, facts_fact, facts_obj, facts_map, facts_iter, facts_row, and_true, true_and] at hF)
      go_wp2_with (first | ((with_reducible show wpList _ _ _ ({ dst := _, op := Op.store _ _ _, type := _, pos := _, after := _, guard := _ } :: _) _ _); refine wpList_store_at rfl rfl rfl (by (try simp only [Act.eval, Array.getD_eq_getD_getElem?, List.getElem?_toArray, List.getElem?_cons_succ, List.getElem?_cons_zero, Option.getD_some]) <;> exact rfl) (by exact rfl) hA (by with_reducible repeat (first | exact Sel.here | apply Sel.there)) (by kernel_rfl) rfl (by first | decide | (simp; done) | omega) ?_; intro w1 hB; clear hF hA; have hA := hB; clear hB; (try simp only [setL, List.set_cons_zero, List.set_cons_succ, List.cons_append, List.nil_append] at hA); (have hF := hA.facts); (try simp only [facts_cons, facts_nil, facts_cells, facts_old, facts_fact, facts_obj, facts_map, facts_iter, facts_row, and_true, true_and] at hF)) | ((with_reducible show wpList _ _ _ ({ dst := _, op := Op.box _ _, type := _, pos := _, after := _, guard := _ } :: _) _ _); refine wpList_box_at rfl rfl (by (try simp only [Act.eval, Array.getD_eq_getD_getElem?, List.getElem?_toArray, List.getElem?_cons_succ, List.getElem?_cons_zero, Option.getD_some]) <;> exact rfl) (by exact rfl) hA ?_; intro b1 w1 hB hb1; clear hF hA; have hA := hB; clear hB; (try simp only [setL, List.set_cons_zero, List.set_cons_succ, List.cons_append, List.nil_append] at hA); (have hF := hA.facts); (try simp only [facts_cons, facts_nil, facts_cells, facts_old, facts_fact, facts_obj, facts_map, facts_iter, facts_row, and_true, true_and] at hF)))
      refine (hfi _ (hA.sep1 (A := rowE (.slice ax s.es.length cap) s.es) (by with_reducible repeat (first | exact Sel.here | apply Sel.there)))).mono ?_
      clear hfi
      rintro e w1 ⟨rfl, hT⟩; have hB := hA.call1 (by with_reducible repeat (first | exact Sel.here | apply Sel.there)) hT; clear hF hA hT; have hA := hB; clear hB; (try simp only [setL, List.set_cons_zero, List.set_cons_succ, List.cons_append, List.nil_append] at hA); (have hF := hA.facts); (try simp only [facts_cons, facts_nil, facts_cells, facts_old, facts_fact, facts_obj, facts_map, facts_iter, facts_row, and_true, true_and] at hF)
      go_wp2_with (first | ((with_reducible show wpList _ _ _ ({ dst := _, op := Op.store _ _ _, type := _, pos := _, after := _, guard := _ } :: _) _ _); refine wpList_store_at rfl rfl rfl (by (try simp only [Act.eval, Array.getD_eq_getD_getElem?, List.getElem?_toArray, List.getElem?_cons_succ, List.getElem?_cons_zero, Option.getD_some]) <;> exact rfl) (by exact rfl) hA (by with_reducible repeat (first | exact Sel.here | apply Sel.there)) (by kernel_rfl) rfl (by first | decide | (simp; done) | omega) ?_; intro w1 hB; clear hF hA; have hA := hB; clear hB; (try simp only [setL, List.set_cons_zero, List.set_cons_succ, List.cons_append, List.nil_append] at hA); (have hF := hA.facts); (try simp only [facts_cons, facts_nil, facts_cells, facts_old, facts_fact, facts_obj, facts_map, facts_iter, facts_row, and_true, true_and] at hF)) | ((with_reducible show wpList _ _ _ ({ dst := _, op := Op.box _ _, type := _, pos := _, after := _, guard := _ } :: _) _ _); refine wpList_box_at rfl rfl (by (try simp only [Act.eval, Array.getD_eq_getD_getElem?, List.getElem?_toArray, List.getElem?_cons_succ, List.getElem?_cons_zero, Option.getD_some]) <;> exact rfl) (by exact rfl) hA ?_; intro b1 w1 hB hb1; clear hF hA; have hA := hB; clear hB; (try simp only [setL, List.set_cons_zero, List.set_cons_succ, List.cons_append, List.nil_append] at hA); (have hF := hA.facts); (try simp only [facts_cons, facts_nil, facts_cells, facts_old, facts_fact, facts_obj, facts_map, facts_iter, facts_row, and_true, true_and] at hF)))
      refine (hdr _ (hA.sep1 (A := rowE (.slice ax s.es.length cap) s.es) (by with_reducible repeat (first | exact Sel.here | apply Sel.there)))).mono ?_
      clear hdr
      rintro e w5 ⟨v', rfl, hT⟩
      have hB := hA.call1 (A := rowE (.slice ax s.es.length cap) s.es) (by with_reducible repeat (first | exact Sel.here | apply Sel.there)) hT
      obtain ⟨dx, dn, dcap, hdv, hdn⟩ := hB.row_hid (v := v') (n := L'.length) (xs := flatE L') .here
      subst hdv
      clear hF hA hT
      have hA := hB
      clear hB
      (try simp only [setL, List.set_cons_zero, List.set_cons_succ, List.cons_append, List.nil_append] at hA); (have hF := hA.facts); (try simp only [facts_cons, facts_nil, facts_cells, facts_old, facts_fact, facts_obj, facts_map, facts_iter, facts_row, and_true, true_and] at hF)
      go_wp2_with (first | ((with_reducible show wpList _ _ _ ({ dst := _, op := Op.store _ _ _, type := _, pos := _, after := _, guard := _ } :: _) _ _); refine wpList_store_at rfl rfl rfl (by (try simp only [Act.eval, Array.getD_eq_getD_getElem?, List.getElem?_toArray, List.getElem?_cons_succ, List.getElem?_cons_zero, Option.getD_some]) <;> exact rfl) (by exact rfl) hA (by with_reducible repeat (first | exact Sel.here | apply Sel.there)) (by kernel_rfl) rfl (by first | decide | (simp; done) | omega) ?_; intro w1 hB; clear hF hA; have hA := hB; clear hB; (try simp only [setL, List.set_cons_zero, List.set_cons_succ, List.cons_append, List.nil_append] at hA); (have hF := hA.facts); (try simp only [facts_cons, facts_nil, facts_cells, facts_old, facts_fact, facts_obj, facts_map, facts_iter, facts_row, and_true, true_and] at hF)) | ((with_reducible show wpList _ _ _ ({ dst := _, op := Op.box _ _, type := _, pos := _, after := _, guard := _ } :: _) _ _); refine wpList_box_at rfl rfl (by (try simp only [Act.eval, Array.getD_eq_getD_getElem?, List.getElem?_toArray, List.getElem?_cons_succ, List.getElem?_cons_zero, Option.getD_some]) <;> exact rfl) (by exact rfl) hA ?_; intro b1 w1 hB hb1; clear hF hA; have hA := hB; clear hB; (try simp only [setL, List.set_cons_zero, List.set_cons_succ, List.cons_append, List.nil_append] at hA); (have hF := hA.facts); (try simp only [facts_cons, facts_nil, facts_cells, facts_old, facts_fact, facts_obj, facts_map, facts_iter, facts_row, and_true, true_and] at hF)))
    · refine bodyPost_ret (v := .tuple #[.agg #[.int .u64 s.first, .slice dx dn dcap, .slice cx s.cs.length cap2], .bool false]) (by simp [results, Tryz.results20, go_sem, hF]) rfl ⟨.slice dx dn dcap, .slice cx s.cs.length cap2, by simp, hA.pick (by with_reducible repeat (first | exact Picks.nil | refine Picks.cons (by with_reducible repeat (first | exact Sel.here | apply Sel.there)) ?_))⟩
    · refine bodyPost_ret (v := .tuple #[.agg #[.int .u64 s.first, .slice dx dn dcap, .slice cx s.cs.length cap2], .bool true]) (by simp [results, Tryz.results20, go_sem, hF]) rfl ⟨.slice dx dn dcap, .slice cx s.cs.length cap2, by simp, hA.pick (by with_reducible repeat (first | exact Picks.nil | refine Picks.cons (by with_reducible repeat (first | exact Sel.here | apply Sel.there)) ?_))⟩

set_option maxRecDepth 100000 in
set_option maxHeartbeats 4000000 in
theorem step0_any (h : Sep [bookS a t, rowE vL s.es, rowC vC s.cs] w) (kd mode : Int) (p : ByteArray) (n : Int) (f : ByteArray) (h1 : kd ≠ 1) (h2 : kd ≠ 2) (h3 : kd ≠ 3) :
    Calls Tryz.prog 20 #[.pointer (some ⟨a.p, 0, none⟩), .agg #[.int .u64 s.first, vL, vC], .agg #[.int .i64 kd, .int .i64 mode, .string p, .int .u64 n, .string f]] w (StepPost w a t s vL vC ⟨kd, mode, p, n, f⟩) := by
  have hA := At.start h
  have hF := hA.facts
  clear h
  obtain ⟨ax, cap, rfl, _, _, _⟩ := hA.row_form (v := vL) (xs := flatE s.es) (by with_reducible repeat (first | exact Sel.here | apply Sel.there))
  obtain ⟨cx, cap2, rfl, _, _, _⟩ := hA.row_form (v := vC) (xs := flatC s.cs) (by with_reducible repeat (first | exact Sel.here | apply Sel.there))
  have hok : okB t s ⟨kd, mode, p, n, f⟩ = true := by
    unfold okB
    rw [if_neg h1, if_neg h2, if_neg h3]
  have hst : t.step ⟨kd, mode, p, n, f⟩ = t := by unfold S3.step; rw [if_neg h1, if_neg h2, if_neg h3]
  have hss : s.step ⟨kd, mode, p, n, f⟩ = s := by unfold S3.step; rw [if_neg h1, if_neg h2, if_neg h3]
  unfold StepPost
  rw [hok, hst, hss]
  have e1 : (kd == 1) = false := by simpa using h1
  have e2 : (kd == 2) = false := by simpa using h2
  have e3 : (kd == 3) = false := by simpa using h3
  clear hok hst hss h1 h2 h3
  (try simp only [setL, List.set_cons_zero, List.set_cons_succ, List.cons_append, List.nil_append] at hA); (have hF := hA.facts); (try simp only [facts_cons, facts_nil, facts_cells, facts_old, facts_fact, facts_obj, facts_map, facts_iter, facts_row, and_true, true_and] at hF)
  go_enter Tryz.func20, Tryz.ntmps20
  go_wp2_with (first | ((with_reducible show wpList _ _ _ ({ dst := _, op := Op.box _ _, type := _, pos := _, after := _, guard := _ } :: _) _ _); refine wpList_box_at (E := 68) rfl rfl (by (try simp only [Act.eval, Array.getD_eq_getD_getElem?, List.getElem?_toArray, List.getElem?_cons_succ, List.getElem?_cons_zero, Option.getD_some]) <;> exact rfl) (by exact rfl) hA ?_; intro bX w1 hB hbX; clear hF hA; have hA := hB; clear hB; (try simp only [setL, List.set_cons_zero, List.set_cons_succ, List.cons_append, List.nil_append] at hA); (have hF := hA.facts); (try simp only [facts_cons, facts_nil, facts_cells, facts_old, facts_fact, facts_obj, facts_map, facts_iter, facts_row, and_true, true_and] at hF)) | ((with_reducible show wpList _ _ _ ({ dst := _, op := Op.box _ _, type := _, pos := _, after := _, guard := _ } :: _) _ _); refine wpList_box_at (E := 70) rfl rfl (by (try simp only [Act.eval, Array.getD_eq_getD_getElem?, List.getElem?_toArray, List.getElem?_cons_succ, List.getElem?_cons_zero, Option.getD_some]) <;> exact rfl) (by exact rfl) hA ?_; intro bO w1 hB hbO; clear hF hA; have hA := hB; clear hB; (try simp only [setL, List.set_cons_zero, List.set_cons_succ, List.cons_append, List.nil_append] at hA); (have hF := hA.facts); (try simp only [facts_cons, facts_nil, facts_cells, facts_old, facts_fact, facts_obj, facts_map, facts_iter, facts_row, and_true, true_and] at hF)) | ((with_reducible show wpList _ _ _ ({ dst := _, op := Op.alloc _, type := _, pos := _, after := _, guard := _ } :: _) _ _); refine wpList_alloc_at (E := 68) (z := .agg #[.int .u64 0, .slice none 0 0, .slice none 0 0]) (vs := [.int .u64 0, .slice none 0 0, .slice none 0 0]) rfl rfl (by kernel_rfl) rfl hA ?_; intro bR w1 hB hbR; clear hF hA; have hA := hB; clear hB; (try simp only [setL, List.set_cons_zero, List.set_cons_succ, List.cons_append, List.nil_append] at hA); (have hF := hA.facts); (try simp only [facts_cons, facts_nil, facts_cells, facts_old, facts_fact, facts_obj, facts_map, facts_iter, facts_row, and_true, true_and] at hF)) | ((with_reducible show wpList _ _ _ ({ dst := _, op := Op.alloc _, type := _, pos := _, after := _, guard := _ } :: _) _ _); refine wpList_alloc_at (E := 25) (z := .agg #[.int .u64 0, .string .empty]) (vs := [.int .u64 0, .string .empty]) rfl rfl (by kernel_rfl) rfl hA ?_; intro bS w1 hB hbS; clear hF hA; have hA := hB; clear hB; (try simp only [setL, List.set_cons_zero, List.set_cons_succ, List.cons_append, List.nil_append] at hA); (have hF := hA.facts); (try simp only [facts_cons, facts_nil, facts_cells, facts_old, facts_fact, facts_obj, facts_map, facts_iter, facts_row, and_true, true_and] at hF)) | ((with_reducible show wpList _ _ _ ({ dst := _, op := Op.store _ _ _, type := _, pos := _, after := _, guard := _ } :: _) _ _); refine wpList_store_at rfl rfl rfl (by (try simp only [Act.eval, Array.getD_eq_getD_getElem?, List.getElem?_toArray, List.getElem?_cons_succ, List.getElem?_cons_zero, Option.getD_some]) <;> exact rfl) (by exact rfl) hA (by with_reducible repeat (first | exact Sel.here | apply Sel.there)) (by kernel_rfl) rfl (by first | decide | (simp; done) | omega) ?_; intro w1 hB; clear hF hA; have hA := hB; clear hB; (try simp only [setL, List.set_cons_zero, List.set_cons_succ, List.cons_append, List.nil_append] at hA); (have hF := hA.facts); (try simp only [facts_cons, facts_nil, facts_cells, facts_old, facts_fact, facts_obj, facts_map, facts_iter, facts_row, and_true, true_and] at hF)) | ((with_reducible show wpList _ _ _ ({ dst := _, op := Op.box _ _, type := _, pos := _, after := _, guard := _ } :: _) _ _); refine wpList_box_at rfl rfl (by (try simp only [Act.eval, Array.getD_eq_getD_getElem?, List.getElem?_toArray, List.getElem?_cons_succ, List.getElem?_cons_zero, Option.getD_some]) <;> exact rfl) (by exact rfl) hA ?_; intro b1 w1 hB hb1; clear hF hA; have hA := hB; clear hB; (try simp only [setL, List.set_cons_zero, List.set_cons_succ, List.cons_append, List.nil_append] at hA); (have hF := hA.facts); (try simp only [facts_cons, facts_nil, facts_cells, facts_old, facts_fact, facts_obj, facts_map, facts_iter, facts_row, and_true, true_and] at hF)))
  refine bodyPost_ret (v := .tuple #[.agg #[.int .u64 s.first, .slice ax s.es.length cap, .slice cx s.cs.length cap2], .bool true]) (by simp [results, Tryz.results20, go_sem, hF]) rfl ⟨.slice ax s.es.length cap, .slice cx s.cs.length cap2, by simp, hA.pick (by with_reducible repeat (first | exact Picks.nil | refine Picks.cons (by with_reducible repeat (first | exact Sel.here | apply Sel.there)) ?_))⟩

/-! ### Kind 3 -/
set_option maxRecDepth 100000 in
set_option maxHeartbeats 4000000 in
theorem step3_any (h : Sep [bookS a t, rowE vL s.es, rowC vC s.cs] w) (hI : Inv t k) (hJ : Inv s j) (hk : k ≤ 1000) (hj : j ≤ 1000) (p : ByteArray) (n : Int) (f : ByteArray) (mode : Int) :
    Calls Tryz.prog 20 #[.pointer (some ⟨a.p, 0, none⟩), .agg #[.int .u64 s.first, vL, vC], .agg #[.int .i64 3, .int .i64 mode, .string p, .int .u64 n, .string f]] w (StepPost w a t s vL vC ⟨3, mode, p, n, f⟩) := by
  have hA := At.start h
  have hF := hA.facts
  clear h
  obtain ⟨ax, cap, rfl, _, _, _⟩ := hA.row_form (v := vL) (xs := flatE s.es) (by with_reducible repeat (first | exact Sel.here | apply Sel.there))
  obtain ⟨cx, cap2, rfl, _, _, _⟩ := hA.row_form (v := vC) (xs := flatC s.cs) (by with_reducible repeat (first | exact Sel.here | apply Sel.there))
  have hlt : (t.dropAll n f).es.length ≤ t.es.length := List.length_filter_le _ _
  have hls : (s.dropAll n f).es.length ≤ s.es.length := List.length_filter_le _ _
  have hmt := hI.len' hk
  have hms := hJ.len' hj
  have hok : okB t s ⟨3, mode, p, n, f⟩ = decide ((t.es.length : Int) - (t.dropAll n f).es.length = (s.es.length : Int) - (s.dropAll n f).es.length) := by
    unfold okB
    rw [if_neg (by simp), if_neg (by simp), if_pos rfl]
  have hst : t.step ⟨3, mode, p, n, f⟩ = t.dropAll n f := by unfold S3.step; rw [if_neg (by simp), if_neg (by simp), if_pos rfl]
  have hss : s.step ⟨3, mode, p, n, f⟩ = s.dropAll n f := by unfold S3.step; rw [if_neg (by simp), if_neg (by simp), if_pos rfl]
  have hrd : s.dropAll n f = ⟨s.first, dropF true .empty n f s.es, s.cs⟩ := by rw [dropF_all]; rfl
  unfold StepPost
  rw [hok, hst, hss]
  have hdp := fun (w1 : World) (q : Sep [bookS a t] w1) => drop_at q hI hk n f
  have hdr := fun (w1 : World) (q : Sep [rowE (.slice ax s.es.length cap) s.es] w1) => dropR_any q s.first (.slice cx s.cs.length cap2) ⟨_, _, _, rfl⟩ .empty n f true hms
  unfold DropPost at hdr
  rw [hrd] at hls ⊢
  simp only at hls ⊢
  generalize dropF true .empty n f s.es = L' at *
  generalize t.dropAll n f = t' at *
  clear hok hst hss hrd hI hJ
  (try simp only [setL, List.set_cons_zero, List.set_cons_succ, List.cons_append, List.nil_append] at hA); (have hF := hA.facts); (try simp only [facts_cons, facts_nil, facts_cells, facts_old, facts_fact, facts_obj, facts_map, facts_iter, facts_row, and_true, true_and] at hF)
  go_enter Tryz.func20, Tryz.ntmps20
  go_wp2_with (first | ((with_reducible show wpList _ _ _ ({ dst := _, op := Op.box _ _, type := _, pos := _, after := _, guard := _ } :: _) _ _); refine wpList_box_at (E := 68) rfl rfl (by (try simp only [Act.eval, Array.getD_eq_getD_getElem?, List.getElem?_toArray, List.getElem?_cons_succ, List.getElem?_cons_zero, Option.getD_some]) <;> exact rfl) (by exact rfl) hA ?_; intro bX w1 hB hbX; clear hF hA; have hA := hB; clear hB; (try simp only [setL, List.set_cons_zero, List.set_cons_succ, List.cons_append, List.nil_append] at hA); (have hF := hA.facts); (try simp only [facts_cons, facts_nil, facts_cells, facts_old, facts_fact, facts_obj, facts_map, facts_iter, facts_row, and_true, true_and] at hF)) | ((with_reducible show wpList _ _ _ ({ dst := _, op := Op.box _ _, type := _, pos := _, after := _, guard := _ } :: _) _ _); refine wpList_box_at (E := 70) rfl rfl (by (try simp only [Act.eval, Array.getD_eq_getD_getElem?, List.getElem?_toArray, List.getElem?_cons_succ, List.getElem?_cons_zero, Option.getD_some]) <;> exact rfl) (by exact rfl) hA ?_; intro bO w1 hB hbO; clear hF hA; have hA := hB; clear hB; (try simp only [setL, List.set_cons_zero, List.set_cons_succ, List.cons_append, List.nil_append] at hA); (have hF := hA.facts); (try simp only [facts_cons, facts_nil, facts_cells, facts_old, facts_fact, facts_obj, facts_map, facts_iter, facts_row, and_true, true_and] at hF)) | ((with_reducible show wpList _ _ _ ({ dst := _, op := Op.alloc _, type := _, pos := _, after := _, guard := _ } :: _) _ _); refine wpList_alloc_at (E := 68) (z := .agg #[.int .u64 0, .slice none 0 0, .slice none 0 0]) (vs := [.int .u64 0, .slice none 0 0, .slice none 0 0]) rfl rfl (by kernel_rfl) rfl hA ?_; intro bR w1 hB hbR; clear hF hA; have hA := hB; clear hB; (try simp only [setL, List.set_cons_zero, List.set_cons_succ, List.cons_append, List.nil_append] at hA); (have hF := hA.facts); (try simp only [facts_cons, facts_nil, facts_cells, facts_old, facts_fact, facts_obj, facts_map, facts_iter, facts_row, and_true, true_and] at hF)) | ((with_reducible show wpList _ _ _ ({ dst := _, op := Op.alloc _, type := _, pos := _, after := _, guard := _ } :: _) _ _); refine wpList_alloc_at (E := 25) (z := .agg #[.int .u64 0, .string .empty]) (vs := [.int .u64 0, .string .empty]) rfl rfl (by kernel_rfl) rfl hA ?_; intro bS w1 hB hbS; clear hF hA; have hA := hB; clear hB; (try simp only [setL, List.set_cons_zero, List.set_cons_succ, List.cons_append, List.nil_append] at hA); (have hF := hA.facts); (try simp only [facts_cons, facts_nil, facts_cells, facts_old, facts_fact, facts_obj, facts_map, facts_iter, facts_row, and_true, true_and] at hF)) | ((with_reducible show wpList _ _ _ ({ dst := _, op := Op.store _ _ _, type := _, pos := _, after := _, guard := _ } :: _) _ _); refine wpList_store_at rfl rfl rfl (by (try simp only [Act.eval, Array.getD_eq_getD_getElem?, List.getElem?_toArray, List.getElem?_cons_succ, List.getElem?_cons_zero, Option.getD_some]) <;> exact rfl) (by exact rfl) hA (by with_reducible repeat (first | exact Sel.here | apply Sel.there)) (by kernel_rfl) rfl (by first | decide | (simp; done) | omega) ?_; intro w1 hB; clear hF hA; have hA := hB; clear hB; (try simp only [setL, List.set_cons_zero, List.set_cons_succ, List.cons_append, List.nil_append] at hA); (have hF := hA.facts); (try simp only [facts_cons, facts_nil, facts_cells, facts_old, facts_fact, facts_obj, facts_map, facts_iter, facts_row, and_true, true_and] at hF)) | ((with_reducible show wpList _ _ _ ({ dst := _, op := Op.box _ _, type := _, pos := _, after := _, guard := _ } :: _) _ _); refine wpList_box_at rfl rfl (by (try simp only [Act.eval, Array.getD_eq_getD_getElem?, List.getElem?_toArray, List.getElem?_cons_succ, List.getElem?_cons_zero, Option.getD_some]) <;> exact rfl) (by exact rfl) hA ?_; intro b1 w1 hB hb1; clear hF hA; have hA := hB; clear hB; (try simp only [setL, List.set_cons_zero, List.set_cons_succ, List.cons_append, List.nil_append] at hA); (have hF := hA.facts); (try simp only [facts_cons, facts_nil, facts_cells, facts_old, facts_fact, facts_obj, facts_map, facts_iter, facts_row, and_true, true_and] at hF)))
  refine (hdr _ (hA.sep1 (A := rowE (.slice ax s.es.length cap) s.es) (by with_reducible repeat (first | exact Sel.here | apply Sel.there)))).mono ?_
  clear hdr
  rintro e w5 ⟨v', rfl, hT⟩
  have hB := hA.call1 (A := rowE (.slice ax s.es.length cap) s.es) (by with_reducible repeat (first | exact Sel.here | apply Sel.there)) hT
  obtain ⟨dx, dn, dcap, hdv, hdn⟩ := hB.row_hid (v := v') (n := L'.length) (xs := flatE L') .here
  have hdn2 := hdn.out
  subst hdv hdn2
  clear hF hA hT hdn
  have hA := hB
  clear hB
  simp only [List.cons_append, List.nil_append] at hA
  have hF := hA.facts
  (try simp only [setL, List.set_cons_zero, List.set_cons_succ, List.cons_append, List.nil_append] at hA); (have hF := hA.facts); (try simp only [facts_cons, facts_nil, facts_cells, facts_old, facts_fact, facts_obj, facts_map, facts_iter, facts_row, and_true, true_and] at hF)
  go_wp2_with (first | ((with_reducible show wpList _ _ _ ({ dst := _, op := Op.store _ _ _, type := _, pos := _, after := _, guard := _ } :: _) _ _); refine wpList_store_at rfl rfl rfl (by (try simp only [Act.eval, Array.getD_eq_getD_getElem?, List.getElem?_toArray, List.getElem?_cons_succ, List.getElem?_cons_zero, Option.getD_some]) <;> exact rfl) (by exact rfl) hA (by with_reducible repeat (first | exact Sel.here | apply Sel.there)) (by kernel_rfl) rfl (by first | decide | (simp; done) | omega) ?_; intro w1 hB; clear hF hA; have hA := hB; clear hB; (try simp only [setL, List.set_cons_zero, List.set_cons_succ, List.cons_append, List.nil_append] at hA); (have hF := hA.facts); (try simp only [facts_cons, facts_nil, facts_cells, facts_old, facts_fact, facts_obj, facts_map, facts_iter, facts_row, and_true, true_and] at hF)) | ((with_reducible show wpList _ _ _ ({ dst := _, op := Op.box _ _, type := _, pos := _, after := _, guard := _ } :: _) _ _); refine wpList_box_at rfl rfl (by (try simp only [Act.eval, Array.getD_eq_getD_getElem?, List.getElem?_toArray, List.getElem?_cons_succ, List.getElem?_cons_zero, Option.getD_some]) <;> exact rfl) (by exact rfl) hA ?_; intro b1 w1 hB hb1; clear hF hA; have hA := hB; clear hB; (try simp only [setL, List.set_cons_zero, List.set_cons_succ, List.cons_append, List.nil_append] at hA); (have hF := hA.facts); (try simp only [facts_cons, facts_nil, facts_cells, facts_old, facts_fact, facts_obj, facts_map, facts_iter, facts_row, and_true, true_and] at hF)))
  try go_frame
  obtain ⟨N, hN⟩ : ∃ N, w1.heap.size = N := ⟨_, rfl⟩
  refine wp_region_turn_store (a1 := ?a1) (v := ?v) 10 3 68 _ _ (b := bR) (j := 0) (us := [.int .u64 s.first, .slice dx L'.length dcap, .slice cx s.cs.length cap2]) (F' := [bookS a t', boxB bX s.first (.slice dx L'.length dcap) (.slice cx s.cs.length cap2), rowE (.slice dx L'.length dcap) L', boxS bS n f, Part.cells bO [.int .i64 3, .int .i64 mode, .string p, .int .u64 n, .string f] 70, rowC (.slice cx s.cs.length cap2) s.cs]) (by kernel_rfl) (by kernel_rfl) rfl hA (by with_reducible repeat (first | exact Sel.here | apply Sel.there)) hN ?h1 ?hx ?hy ?hu ?hsz ?hus ?hl ?h2
  case h1 =>
    intro R
    simp only [List.take_succ_cons, List.take_zero, List.drop_succ_cons, List.drop_zero]
    refine turn_both (v := .agg #[.int .u64 s.first, .slice dx L'.length dcap, .slice cx s.cs.length cap2]) rfl (by decide) (fun w hw => run_load_row (ty := 68) (n := 3) rfl rfl (hw.get (A := boxB bX s.first (.slice dx L'.length dcap) (.slice cx s.cs.length cap2)) (by with_reducible repeat (first | exact Sel.here | apply Sel.there))) (by kernel_rfl) (by kernel_rfl) rfl rfl) (fun w hw => run_load_row (ty := 68) (n := 3) rfl rfl (hw.get (A := boxB bX s.first (.slice dx L'.length dcap) (.slice cx s.cs.length cap2)) (by with_reducible repeat (first | exact Sel.here | apply Sel.there))) (by kernel_rfl) (by kernel_rfl) rfl rfl) ?_
    go_frame
    refine turn_pure (v := .pointer (some ⟨a.p, 0, none⟩)) rfl (by decide) (fun _ => rfl) ?_
    go_frame
    refine turn_both (v := .agg #[.int .u64 n, .string f]) rfl (by decide) (fun w hw => run_load_row (ty := 25) (n := 2) rfl rfl (hw.get (A := boxS bS n f) (by with_reducible repeat (first | exact Sel.here | apply Sel.there))) (by kernel_rfl) (by kernel_rfl) rfl rfl) (fun w hw => run_load_row (ty := 25) (n := 2) rfl rfl (hw.get (A := boxS bS n f) (by with_reducible repeat (first | exact Sel.here | apply Sel.there))) (by kernel_rfl) (by kernel_rfl) rfl rfl) ?_
    go_frame
    refine turn_call (v := .int .i64 ((t.es.length : Int) - (t'.es.length : Int))) (f := 57) (args := #[.pointer (some ⟨a.p, 0, none⟩), .agg #[.int .u64 n, .string f]]) rfl rfl (fun _ => by kernel_rfl) (fun w hw hs => (hdp _ (hw.sep1 (A := bookS a t) (by with_reducible repeat (first | exact Sel.here | apply Sel.there)))).mono fun e w' ⟨he, tt⟩ => ⟨he, (hw.call1 (A := bookS a t) (by with_reducible repeat (first | exact Sel.here | apply Sel.there)) tt).pick (by repeat (first | exact Picks.nil | refine Picks.cons (by repeat (first | exact Sel.here | apply Sel.there)) ?_))⟩) ?_
    go_frame
    refine turn_pure (v := .int .i64 s.es.length) rfl (by decide) (fun _ => rfl) ?_
    go_frame
    refine turn_pure (v := .pointer (some ⟨bX, 1, none⟩)) rfl (by decide) (fun _ => by kernel_rfl) ?_
    go_frame
    refine turn_both (v := .slice dx L'.length dcap) rfl (by decide) (fun w hw => run_load_one (ty := 65) rfl rfl (hw.get (A := boxB bX s.first (.slice dx L'.length dcap) (.slice cx s.cs.length cap2)) (by with_reducible repeat (first | exact Sel.here | apply Sel.there))) (by kernel_rfl) rfl) (fun w hw => run_load_one (ty := 65) rfl rfl (hw.get (A := boxB bX s.first (.slice dx L'.length dcap) (.slice cx s.cs.length cap2)) (by with_reducible repeat (first | exact Sel.here | apply Sel.there))) (by kernel_rfl) rfl) ?_
    go_frame
    refine turn_pure (v := .int .i64 L'.length) rfl (by decide) (fun _ => by kernel_rfl) ?_
    go_frame
    refine turn_pure (v := .int .i64 (IntKind.i64.wrap ((s.es.length : Int) - (L'.length : Int)))) rfl (by decide) (fun _ => by kernel_rfl) ?_
    go_frame
    refine turn_pure (v := .bool (((t.es.length : Int) - (t'.es.length : Int)) == (IntKind.i64.wrap ((s.es.length : Int) - (L'.length : Int))))) rfl (by decide) (fun _ => by kernel_rfl) ?_
    go_frame
    refine wpQuietL_nil ?_
    exact rfl
  case hx => rfl
  case hy => rfl
  case hu => rfl
  case hsz => kernel_rfl
  case hus => rfl
  case hl => (show 0 + 3 ≤ 3; omega)
  have hwr : IntKind.i64.wrap ((s.es.length : Int) - (L'.length : Int)) = (s.es.length : Int) - (L'.length : Int) := by rw [IntKind.wrap_i64] <;> omega
  rw [hwr]
  intro w6 hB
  clear hF hA hN
  have hA := hB
  clear hB
  simp only [List.drop_succ_cons, List.drop_zero]
  (try simp only [setL, List.set_cons_zero, List.set_cons_succ, List.cons_append, List.nil_append] at hA); (have hF := hA.facts); (try simp only [facts_cons, facts_nil, facts_cells, facts_old, facts_fact, facts_obj, facts_map, facts_iter, facts_row, and_true, true_and] at hF)
  try go_frame
  obtain ⟨db, hdb⟩ : ∃ db, (((t.es.length : Int) - (t'.es.length : Int)) == ((s.es.length : Int) - (L'.length : Int))) = db := ⟨_, rfl⟩
  have hdb2 : decide ((t.es.length : Int) - (t'.es.length : Int) = (s.es.length : Int) - (L'.length : Int)) = db := by rw [← hdb]; rfl
  rw [hdb]
  have hdb' := Lib.hid hdb2
  clear hdb hdb2
  go_wp2_with (first | ((with_reducible show wpList _ _ _ ({ dst := _, op := Op.store _ _ _, type := _, pos := _, after := _, guard := _ } :: _) _ _); refine wpList_store_at rfl rfl rfl (by (try simp only [Act.eval, Array.getD_eq_getD_getElem?, List.getElem?_toArray, List.getElem?_cons_succ, List.getElem?_cons_zero, Option.getD_some]) <;> exact rfl) (by exact rfl) hA (by with_reducible repeat (first | exact Sel.here | apply Sel.there)) (by kernel_rfl) rfl (by first | decide | (simp; done) | omega) ?_; intro w1 hB; clear hF hA; have hA := hB; clear hB; (try simp only [setL, List.set_cons_zero, List.set_cons_succ, List.cons_append, List.nil_append] at hA); (have hF := hA.facts); (try simp only [facts_cons, facts_nil, facts_cells, facts_old, facts_fact, facts_obj, facts_map, facts_iter, facts_row, and_true, true_and] at hF)) | ((with_reducible show wpList _ _ _ ({ dst := _, op := Op.box _ _, type := _, pos := _, after := _, guard := _ } :: _) _ _); refine wpList_box_at rfl rfl (by (try simp only [Act.eval, Array.getD_eq_getD_getElem?, List.getElem?_toArray, List.getElem?_cons_succ, List.getElem?_cons_zero, Option.getD_some]) <;> exact rfl) (by exact rfl) hA ?_; intro b1 w1 hB hb1; clear hF hA; have hA := hB; clear hB; (try simp only [setL, List.set_cons_zero, List.set_cons_succ, List.cons_append, List.nil_append] at hA); (have hF := hA.facts); (try simp only [facts_cons, facts_nil, facts_cells, facts_old, facts_fact, facts_obj, facts_map, facts_iter, facts_row, and_true, true_and] at hF)))
  refine bodyPost_ret (v := .tuple #[.agg #[.int .u64 s.first, .slice dx L'.length dcap, .slice cx s.cs.length cap2], .bool db]) (by simp [results, Tryz.results20, go_sem, hF]) rfl ⟨.slice dx L'.length dcap, .slice cx s.cs.length cap2, by rw [← hdb'.out], hA.pick (by with_reducible repeat (first | exact Picks.nil | refine Picks.cons (by with_reducible repeat (first | exact Sel.here | apply Sel.there)) ?_))⟩

/-- A step of both. -/
theorem step_any (h : Sep [bookS a t, rowE vL s.es, rowC vC s.cs] w) (hI : Inv t k) (hJ : Inv s j) (hk : k ≤ 1000) (hj : j ≤ 1000) (o : Op) (ho : o.ok) :
    Calls Tryz.prog 20 #[.pointer (some ⟨a.p, 0, none⟩), .agg #[.int .u64 s.first, vL, vC], .agg #[.int .i64 o.kind, .int .i64 o.mode, .string o.path, .int .u64 o.num, .string o.foot]] w (StepPost w a t s vL vC o) := by
  obtain ⟨kd, mode, p, n, f⟩ := o
  by_cases h1 : kd = 1
  · subst h1; exact step1_any h hI hJ hk hj p n f mode ho
  · by_cases h2 : kd = 2
    · subst h2; exact step2_any h hI hJ hk hj p n f mode ho
    · by_cases h3 : kd = 3
      · subst h3; exact step3_any h hI hJ hk hj p n f mode
      · exact step0_any h kd mode p n f h1 h2 h3
end
end Go.Proofs.YtalfoiodejoicaaGreatDoor.Lock
end
