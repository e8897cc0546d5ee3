/- LockI, PathM, PathN, joined. -/
import Derived.Test.YtalfoiodejoicaaGreatDoorJ12
import Derived.Test.YtalfoiodejoicaaGreatDoorJ8
import Derived.Test.YtalfoiodejoicaaGreatDoorJ5
import Derived.Deep.OwnRows
import Derived.Laws.OwnMore
section
namespace Go.Proofs.YtalfoiodejoicaaGreatDoor.Lock
open Go.RowKit
open Go.Maps (Keyed)
open Path (bl rightB overB)
set_option linter.unusedSimpArgs false
set_option linter.unusedVariables false

section
variable {w : World} {b : Bk} {p f : ByteArray} {n mode : Int}
theorem remove_none (h : find b.es p n f = none) : b.st.remove p n f = b.st := by
  unfold S3.remove Bk.st
  congr 1
  rw [List.filter_eq_self]
  intro e he
  have := find_none_iff.1 h e he
  simp only [Ent.is, Bool.not_eq_true', decide_eq_false_iff_not]
  exact this
theorem keys_of {es : List Ent} (h : (ents es).Pairwise (fun p q => p.1 ≠ q.1)) : es.Pairwise (fun a b => a.key ≠ b.key) := by
  unfold ents at h
  rw [List.pairwise_map] at h
  exact h
theorem is_key {a e : Ent} (h : a.is e.path e.num e.foot = true) : a.key = e.key := by
  simp [Ent.is] at h
  simp [Ent.key, keyV, h]
theorem remove_mid {l1 l2 : List Ent} {e : Ent} (hk : (l1 ++ e :: l2).Pairwise (fun a b => a.key ≠ b.key)) : (l1 ++ e :: l2).filter (fun x => !x.is e.path e.num e.foot) = l1 ++ l2 := by
  have h1 := List.pairwise_append.1 hk
  have h2 := List.pairwise_cons.1 h1.2.1
  have he : e.is e.path e.num e.foot = true := by simp [Ent.is]
  have f1 : l1.filter (fun x => !x.is e.path e.num e.foot) = l1 := by
    rw [List.filter_eq_self]
    intro x hx
    cases hq : x.is e.path e.num e.foot with
    | false => rfl
    | true => exact absurd (is_key hq) (h1.2.2 x hx e (by simp))
  have f2 : l2.filter (fun x => !x.is e.path e.num e.foot) = l2 := by
    rw [List.filter_eq_self]
    intro x hx
    cases hq : x.is e.path e.num e.foot with
    | false => rfl
    | true => exact absurd (is_key hq).symm (h2.1 x hx)
  rw [List.filter_append, List.filter_cons, he, f1, f2]
  rfl
set_option maxRecDepth 100000 in
set_option maxHeartbeats 2000000 in
theorem remove_no (h : Sep [BookP b] w) (hp : p.size ≤ maxLen) (h0 : 0 ≤ n) (h1 : n < big64) (hf : f.size ≤ maxLen) (hfi : find b.es p n f = none) :
    Calls Tryz.prog 52 #[.pointer (some ⟨b.p, 0, none⟩), .string p, .agg #[.int .u64 n, .string f]] w fun e w' => e = .returned (.int .i64 52) ∧ At [BookP b] w [BookP b] w' := by
  obtain ⟨kl, hk⟩ := keyP hp h0 h1 hf
  have hA := begin0 h
  have hF := hA.facts
  have hmiss := Lib.hid (find_none hfi)
  clear h hfi
  unfold keyV at *
  (try simp only [setL, List.set_cons_zero, List.set_cons_succ, List.cons_append, List.nil_append] at hA); (have hF := hA.facts); (try simp only [facts_cons, facts_nil, facts_cells, facts_old, facts_fact, facts_obj, facts_map, facts_iter, and_true, true_and] at hF)
  go_enter Tryz.func52, Tryz.ntmps52
  go_wp2_with (first | ((with_reducible show wpList _ _ _ ({ dst := _, op := Op.box _ _, type := _, pos := _, after := _, guard := _ } :: _) _ _); refine wpList_box_at (E := 25) rfl rfl (by (try simp only [Act.eval, Array.getD_eq_getD_getElem?, List.getElem?_toArray, List.getElem?_cons_succ, List.getElem?_cons_zero, Option.getD_some]) <;> exact rfl) (by exact rfl) hA ?_; intro bS w1 hB hbS; clear hF hA; have hA := hB; clear hB; (try simp only [setL, List.set_cons_zero, List.set_cons_succ, List.cons_append, List.nil_append] at hA); (have hF := hA.facts); (try simp only [facts_cons, facts_nil, facts_cells, facts_old, facts_fact, facts_obj, facts_map, facts_iter, and_true, true_and] at hF)) | ((with_reducible show wpList _ _ _ ({ dst := _, op := Op.store _ _ _, type := _, pos := _, after := _, guard := _ } :: _) _ _); refine wpList_store_at rfl rfl rfl (by (try simp only [Act.eval, Array.getD_eq_getD_getElem?, List.getElem?_toArray, List.getElem?_cons_succ, List.getElem?_cons_zero, Option.getD_some]) <;> exact rfl) (by exact rfl) hA (by with_reducible repeat (first | exact Sel.here | apply Sel.there)) (by kernel_rfl) rfl (by first | decide | (simp; done) | omega) ?_; intro w1 hB; clear hF hA; have hA := hB; clear hB; (try simp only [setL, List.set_cons_zero, List.set_cons_succ, List.cons_append, List.nil_append] at hA); (have hF := hA.facts); (try simp only [facts_cons, facts_nil, facts_cells, facts_old, facts_fact, facts_obj, facts_map, facts_iter, and_true, true_and] at hF)) | ((with_reducible show wpList _ _ _ ({ dst := _, op := Op.box _ _, type := _, pos := _, after := _, guard := _ } :: _) _ _); refine wpList_box_at rfl rfl (by (try simp only [Act.eval, Array.getD_eq_getD_getElem?, List.getElem?_toArray, List.getElem?_cons_succ, List.getElem?_cons_zero, Option.getD_some]) <;> exact rfl) (by exact rfl) hA ?_; intro b1 w1 hB hb1; clear hF hA; have hA := hB; clear hB; (try simp only [setL, List.set_cons_zero, List.set_cons_succ, List.cons_append, List.nil_append] at hA); (have hF := hA.facts); (try simp only [facts_cons, facts_nil, facts_cells, facts_old, facts_fact, facts_obj, facts_map, facts_iter, and_true, true_and] at hF)))
  (refine wp_region_new (a1 := ?a1_q4) (v := ?v_q4) 11 7 115 _ (.agg #[.string .empty, .int .u64 0, .string .empty, .int .i64 0, .int .u64 0, .int .i64 0]) [.string .empty, .int .u64 0, .string .empty, .int .i64 0, .int .u64 0, .int .i64 0] ([.string .empty, .int .u64 0, .string .empty, .int .i64 0, .int .u64 0, .int .i64 0]) (by kernel_rfl) (by kernel_rfl) rfl rfl ?hyd_q4 (by kernel_rfl) rfl hA ?h1_q4 ?hd_q4 ?hy_q4 ?hu_q4 ?hsz_q4 ?hus_q4 ?hl_q4 ?h2_q4); (case h1_q4 => (intro R wR hR; (try clear hF); (simp only [List.take_succ_cons, List.take_zero, List.drop_succ_cons, List.drop_zero]); (have hn1 := Cl.none hR); (have hn2 := Cl.none2 hR); (repeat (first | go_big_quiet_skip | (go_big_quiet_want; (first | (refine quiet_loads_at (ty := 25) (n := 2) rfl rfl (by with_reducible repeat (first | exact Sel.here | apply Sel.there)) (by kernel_rfl) (by kernel_rfl) (by first | assumption | ((try simp only [List.drop_succ_cons, List.drop_zero, List.take_succ_cons, List.take_zero]) <;> exact rfl)) (by exact rfl) ?_; go_frame; go_big_quiet_on) | (refine quiet_look_none_at rfl rfl (by (try simp only [Act.eval, Array.getD_eq_getD_getElem?, List.getElem?_toArray, List.getElem?_cons_succ, List.getElem?_cons_zero, Option.getD_some]) <;> exact rfl) (k := 160) (es := ents b.es) (by with_reducible repeat (first | exact Sel.here | apply Sel.there)) lawP Tryz.underlying120 hk hmiss.out (z := nullE.val) (fun _ => by kernel_rfl) ?_; go_frame; go_big_quiet_on) | (refine quiet_load_at rfl rfl (by with_reducible repeat (first | exact Sel.here | apply Sel.there)) (by kernel_rfl) (by first | assumption | exact rfl) ?_; go_frame; go_big_quiet_on) | (go_big_quiet_op; (first | go_big_quiet_on)))))); (refine wpQuiet_nil ?_); exact rfl)); (case hyd_q4 => rfl); (case hd_q4 => (first | decide | simp)); (case hy_q4 => ((try simp only [Act.eval, Array.getD_eq_getD_getElem?, List.getElem?_toArray, List.getElem?_cons_succ, List.getElem?_cons_zero, Option.getD_some]); exact rfl)); (case hu_q4 => exact rfl); (case hsz_q4 => kernel_rfl); (case hus_q4 => rfl); (case hl_q4 => rfl); (intro b1 w1 hB hb1; clear hF hA; have hA := hB; clear hB; (simp only [List.drop_succ_cons, List.drop_zero]); (try simp only [setL, List.set_cons_zero, List.set_cons_succ, List.cons_append, List.nil_append] at hA); (have hF := hA.facts); (try simp only [facts_cons, facts_nil, facts_cells, facts_old, facts_fact, facts_obj, facts_map, facts_iter, and_true, true_and] at hF); (try go_frame))
  go_wp2_with (first | ((with_reducible show wpList _ _ _ ({ dst := _, op := Op.store _ _ _, type := _, pos := _, after := _, guard := _ } :: _) _ _); refine wpList_store_at rfl rfl rfl (by (try simp only [Act.eval, Array.getD_eq_getD_getElem?, List.getElem?_toArray, List.getElem?_cons_succ, List.getElem?_cons_zero, Option.getD_some]) <;> exact rfl) (by exact rfl) hA (by with_reducible repeat (first | exact Sel.here | apply Sel.there)) (by kernel_rfl) rfl (by first | decide | (simp; done) | omega) ?_; intro w1 hB; clear hF hA; have hA := hB; clear hB; (try simp only [setL, List.set_cons_zero, List.set_cons_succ, List.cons_append, List.nil_append] at hA); (have hF := hA.facts); (try simp only [facts_cons, facts_nil, facts_cells, facts_old, facts_fact, facts_obj, facts_map, facts_iter, and_true, true_and] at hF)) | ((with_reducible show wpList _ _ _ ({ dst := _, op := Op.box _ _, type := _, pos := _, after := _, guard := _ } :: _) _ _); refine wpList_box_at rfl rfl (by (try simp only [Act.eval, Array.getD_eq_getD_getElem?, List.getElem?_toArray, List.getElem?_cons_succ, List.getElem?_cons_zero, Option.getD_some]) <;> exact rfl) (by exact rfl) hA ?_; intro b1 w1 hB hb1; clear hF hA; have hA := hB; clear hB; (try simp only [setL, List.set_cons_zero, List.set_cons_succ, List.cons_append, List.nil_append] at hA); (have hF := hA.facts); (try simp only [facts_cons, facts_nil, facts_cells, facts_old, facts_fact, facts_obj, facts_map, facts_iter, and_true, true_and] at hF)))
  go_ret
  exact ⟨rfl, close0 b hA (by with_reducible repeat (first | exact Sel.here | apply Sel.there)) (by with_reducible repeat (first | exact Sel.here | apply Sel.there)) (by with_reducible repeat (first | exact Sel.here | apply Sel.there))⟩
set_option maxRecDepth 100000 in
set_option maxHeartbeats 2000000 in
theorem remove_yes (h : Sep [BookP b] w) (hp : p.size ≤ maxLen) (h0 : 0 ≤ n) (h1 : n < big64) (hf : f.size ≤ maxLen) {x : Ent} (hfi : find b.es p n f = some x) :
    Calls Tryz.prog 52 #[.pointer (some ⟨b.p, 0, none⟩), .string p, .agg #[.int .u64 n, .string f]] w fun e w' => e = .returned (.int .i64 0) ∧ At [BookP b] w [BookP (b.with (b.st.remove p n f))] w' := by
  obtain ⟨kl, hk⟩ := keyP hp h0 h1 hf
  have hA := begin0 h
  have hmem := Lib.hid (find_mem hfi)
  obtain ⟨l1, l2, hes, rfl, rfl, rfl, _⟩ := find_split hfi
  have hkeys := keys_of (MapAt.keys (hA.get (A := mapC b.m (ents b.es)) (by with_reducible repeat (first | exact Sel.here | apply Sel.there))))
  rw [hes] at hkeys
  have hrem : b.st.remove x.path x.num x.foot = ⟨b.first, l1 ++ l2, b.cs⟩ := by
    unfold S3.remove Bk.st
    simp only [hes]
    rw [remove_mid hkeys]
  rw [hrem]
  have hF := hA.facts
  have hents : ents b.es = ents l1 ++ (x.key, x.val) :: ents l2 := by rw [hes]; simp [ents, ent]
  have hes' := Lib.hid hents
  clear h hfi hkeys hrem hes hents
  unfold Ent.val keyV at hmem
  unfold keyV at hk
  (try simp only [setL, List.set_cons_zero, List.set_cons_succ, List.cons_append, List.nil_append] at hA); (have hF := hA.facts); (try simp only [facts_cons, facts_nil, facts_cells, facts_old, facts_fact, facts_obj, facts_map, facts_iter, and_true, true_and] at hF)
  go_enter Tryz.func52, Tryz.ntmps52
  go_wp2_with (first | ((with_reducible show wpList _ _ _ ({ dst := _, op := Op.box _ _, type := _, pos := _, after := _, guard := _ } :: _) _ _); refine wpList_box_at (E := 25) rfl rfl (by (try simp only [Act.eval, Array.getD_eq_getD_getElem?, List.getElem?_toArray, List.getElem?_cons_succ, List.getElem?_cons_zero, Option.getD_some]) <;> exact rfl) (by exact rfl) hA ?_; intro bS w1 hB hbS; clear hF hA; have hA := hB; clear hB; (try simp only [setL, List.set_cons_zero, List.set_cons_succ, List.cons_append, List.nil_append] at hA); (have hF := hA.facts); (try simp only [facts_cons, facts_nil, facts_cells, facts_old, facts_fact, facts_obj, facts_map, facts_iter, and_true, true_and] at hF)) | ((with_reducible show wpList _ _ _ ({ dst := _, op := Op.store _ _ _, type := _, pos := _, after := _, guard := _ } :: _) _ _); refine wpList_store_at rfl rfl rfl (by (try simp only [Act.eval, Array.getD_eq_getD_getElem?, List.getElem?_toArray, List.getElem?_cons_succ, List.getElem?_cons_zero, Option.getD_some]) <;> exact rfl) (by exact rfl) hA (by with_reducible repeat (first | exact Sel.here | apply Sel.there)) (by kernel_rfl) rfl (by first | decide | (simp; done) | omega) ?_; intro w1 hB; clear hF hA; have hA := hB; clear hB; (try simp only [setL, List.set_cons_zero, List.set_cons_succ, List.cons_append, List.nil_append] at hA); (have hF := hA.facts); (try simp only [facts_cons, facts_nil, facts_cells, facts_old, facts_fact, facts_obj, facts_map, facts_iter, and_true, true_and] at hF)) | ((with_reducible show wpList _ _ _ ({ dst := _, op := Op.box _ _, type := _, pos := _, after := _, guard := _ } :: _) _ _); refine wpList_box_at rfl rfl (by (try simp only [Act.eval, Array.getD_eq_getD_getElem?, List.getElem?_toArray, List.getElem?_cons_succ, List.getElem?_cons_zero, Option.getD_some]) <;> exact rfl) (by exact rfl) hA ?_; intro b1 w1 hB hb1; clear hF hA; have hA := hB; clear hB; (try simp only [setL, List.set_cons_zero, List.set_cons_succ, List.cons_append, List.nil_append] at hA); (have hF := hA.facts); (try simp only [facts_cons, facts_nil, facts_cells, facts_old, facts_fact, facts_obj, facts_map, facts_iter, and_true, true_and] at hF)))
  (refine wp_region_new (a1 := ?a1_q5) (v := ?v_q5) 11 7 115 _ (.agg #[.string .empty, .int .u64 0, .string .empty, .int .i64 0, .int .u64 0, .int .i64 0]) [.string .empty, .int .u64 0, .string .empty, .int .i64 0, .int .u64 0, .int .i64 0] ([.string x.path, .int .u64 x.num, .string x.foot, .int .i64 x.mode, .int .u64 x.n, .int .i64 x.stamp]) (by kernel_rfl) (by kernel_rfl) rfl rfl ?hyd_q5 (by kernel_rfl) rfl hA ?h1_q5 ?hd_q5 ?hy_q5 ?hu_q5 ?hsz_q5 ?hus_q5 ?hl_q5 ?h2_q5); (case h1_q5 => (intro R wR hR; (try clear hF); (simp only [List.take_succ_cons, List.take_zero, List.drop_succ_cons, List.drop_zero]); (have hn1 := Cl.none hR); (have hn2 := Cl.none2 hR); (repeat (first | go_big_quiet_skip | (go_big_quiet_want; (first | (refine quiet_loads_at (ty := 25) (n := 2) rfl rfl (by with_reducible repeat (first | exact Sel.here | apply Sel.there)) (by kernel_rfl) (by kernel_rfl) (by first | assumption | ((try simp only [List.drop_succ_cons, List.drop_zero, List.take_succ_cons, List.take_zero]) <;> exact rfl)) (by exact rfl) ?_; go_frame; go_big_quiet_on) | (refine quiet_look_some_at rfl rfl (by (try simp only [Act.eval, Array.getD_eq_getD_getElem?, List.getElem?_toArray, List.getElem?_cons_succ, List.getElem?_cons_zero, Option.getD_some]) <;> exact rfl) (k := 160) (es := ents b.es) (by with_reducible repeat (first | exact Sel.here | apply Sel.there)) lawP Tryz.underlying120 hk hmem.out ?_; go_frame; go_big_quiet_on) | (refine quiet_load_at rfl rfl (by with_reducible repeat (first | exact Sel.here | apply Sel.there)) (by kernel_rfl) (by first | assumption | exact rfl) ?_; go_frame; go_big_quiet_on) | (go_big_quiet_op; (first | go_big_quiet_on)))))); (refine wpQuiet_nil ?_); exact rfl)); (case hyd_q5 => rfl); (case hd_q5 => (first | decide | simp)); (case hy_q5 => ((try simp only [Act.eval, Array.getD_eq_getD_getElem?, List.getElem?_toArray, List.getElem?_cons_succ, List.getElem?_cons_zero, Option.getD_some]); exact rfl)); (case hu_q5 => exact rfl); (case hsz_q5 => kernel_rfl); (case hus_q5 => rfl); (case hl_q5 => rfl); (intro b1 w1 hB hb1; clear hF hA; have hA := hB; clear hB; (simp only [List.drop_succ_cons, List.drop_zero]); (try simp only [setL, List.set_cons_zero, List.set_cons_succ, List.cons_append, List.nil_append] at hA); (have hF := hA.facts); (try simp only [facts_cons, facts_nil, facts_cells, facts_old, facts_fact, facts_obj, facts_map, facts_iter, and_true, true_and] at hF); (try go_frame))
  go_wp2_with (first | ((with_reducible show wpList _ _ _ ({ dst := _, op := Op.store _ _ _, type := _, pos := _, after := _, guard := _ } :: _) _ _); refine wpList_store_at rfl rfl rfl (by (try simp only [Act.eval, Array.getD_eq_getD_getElem?, List.getElem?_toArray, List.getElem?_cons_succ, List.getElem?_cons_zero, Option.getD_some]) <;> exact rfl) (by exact rfl) hA (by with_reducible repeat (first | exact Sel.here | apply Sel.there)) (by kernel_rfl) rfl (by first | decide | (simp; done) | omega) ?_; intro w1 hB; clear hF hA; have hA := hB; clear hB; (try simp only [setL, List.set_cons_zero, List.set_cons_succ, List.cons_append, List.nil_append] at hA); (have hF := hA.facts); (try simp only [facts_cons, facts_nil, facts_cells, facts_old, facts_fact, facts_obj, facts_map, facts_iter, and_true, true_and] at hF)) | ((with_reducible show wpList _ _ _ ({ dst := _, op := Op.box _ _, type := _, pos := _, after := _, guard := _ } :: _) _ _); refine wpList_box_at rfl rfl (by (try simp only [Act.eval, Array.getD_eq_getD_getElem?, List.getElem?_toArray, List.getElem?_cons_succ, List.getElem?_cons_zero, Option.getD_some]) <;> exact rfl) (by exact rfl) hA ?_; intro b1 w1 hB hb1; clear hF hA; have hA := hB; clear hB; (try simp only [setL, List.set_cons_zero, List.set_cons_succ, List.cons_append, List.nil_append] at hA); (have hF := hA.facts); (try simp only [facts_cons, facts_nil, facts_cells, facts_old, facts_fact, facts_obj, facts_map, facts_iter, and_true, true_and] at hF)))
  try go_frame
  (refine wp_region_head 7 (Cl _ _ _) (by kernel_rfl) (by kernel_rfl) (Cl.drew hA) ?_); (simp only [List.take_succ_cons, List.take_zero, List.drop_succ_cons, List.drop_zero]); (have hn1 := Cl.none hA); (have hn2 := Cl.none2 hA); (repeat (first | go_big_quiet_skip | (go_big_quiet_want; (first | (refine quiet_loads_at (ty := 25) (n := 2) rfl rfl (by with_reducible repeat (first | exact Sel.here | apply Sel.there)) (by kernel_rfl) (by kernel_rfl) (by first | assumption | ((try simp only [List.drop_succ_cons, List.drop_zero, List.take_succ_cons, List.take_zero]) <;> exact rfl)) (by exact rfl) ?_; go_frame; go_big_quiet_on) | (refine quiet_load_at rfl rfl (by with_reducible repeat (first | exact Sel.here | apply Sel.there)) (by kernel_rfl) (by first | assumption | exact rfl) ?_; go_frame; go_big_quiet_on) | (go_big_quiet_op; (first | go_big_quiet_on))))))
  (refine wpQuiet_nil ?_); (intro w1 hB); (clear hF hA hn1 hn2); (have hA := Cl.out hB); (clear hB); (try simp only [setL, List.set_cons_zero, List.set_cons_succ, List.cons_append, List.nil_append] at hA); (have hF := hA.facts); (try simp only [facts_cons, facts_nil, facts_cells, facts_old, facts_fact, facts_obj, facts_map, facts_iter, and_true, true_and] at hF)
  unfold mapC at hA
  rw [hes'.out] at hA
  unfold Ent.key keyV at hA
  (try simp only [setL, List.set_cons_zero, List.set_cons_succ, List.cons_append, List.nil_append] at hA); (have hF := hA.facts); (try simp only [facts_cons, facts_nil, facts_cells, facts_old, facts_fact, facts_obj, facts_map, facts_iter, and_true, true_and] at hF)
  go_wp2_with (first | ((with_reducible show wpList _ _ _ ({ dst := _, op := Op.store _ _ _, type := _, pos := _, after := _, guard := _ } :: _) _ _); refine wpList_store_at rfl rfl rfl (by (try simp only [Act.eval, Array.getD_eq_getD_getElem?, List.getElem?_toArray, List.getElem?_cons_succ, List.getElem?_cons_zero, Option.getD_some]) <;> exact rfl) (by exact rfl) hA (by with_reducible repeat (first | exact Sel.here | apply Sel.there)) (by kernel_rfl) rfl (by first | decide | (simp; done) | omega) ?_; intro w1 hB; clear hF hA; have hA := hB; clear hB; (try simp only [setL, List.set_cons_zero, List.set_cons_succ, List.cons_append, List.nil_append] at hA); (have hF := hA.facts); (try simp only [facts_cons, facts_nil, facts_cells, facts_old, facts_fact, facts_obj, facts_map, facts_iter, and_true, true_and] at hF)) | ((with_reducible show wpList _ _ _ ({ dst := _, op := Op.box _ _, type := _, pos := _, after := _, guard := _ } :: _) _ _); refine wpList_box_at rfl rfl (by (try simp only [Act.eval, Array.getD_eq_getD_getElem?, List.getElem?_toArray, List.getElem?_cons_succ, List.getElem?_cons_zero, Option.getD_some]) <;> exact rfl) (by exact rfl) hA ?_; intro b1 w1 hB hb1; clear hF hA; have hA := hB; clear hB; (try simp only [setL, List.set_cons_zero, List.set_cons_succ, List.cons_append, List.nil_append] at hA); (have hF := hA.facts); (try simp only [facts_cons, facts_nil, facts_cells, facts_old, facts_fact, facts_obj, facts_map, facts_iter, and_true, true_and] at hF)) | (refine wpList_del_there_at rfl rfl rfl (by (try simp only [Act.eval, Array.getD_eq_getD_getElem?, List.getElem?_toArray, List.getElem?_cons_succ, List.getElem?_cons_zero, Option.getD_some]) <;> exact rfl) hA (k := 160) (by with_reducible repeat (first | exact Sel.here | apply Sel.there)) lawP Tryz.underlying120 hk ?_; intro w1 hB; clear hF hA; have hA := hB; clear hB; (try simp only [setL, List.set_cons_zero, List.set_cons_succ, List.cons_append, List.nil_append] at hA); (have hF := hA.facts); (try simp only [facts_cons, facts_nil, facts_cells, facts_old, facts_fact, facts_obj, facts_map, facts_iter, and_true, true_and] at hF)))
  go_ret
  have hel : ents l1 ++ ents l2 = ents (l1 ++ l2) := by simp [ents]
  rw [hel] at hA
  exact ⟨rfl, close0 ⟨b.p, b.m, b.c, b.first, l1 ++ l2, b.cs⟩ hA (by with_reducible repeat (first | exact Sel.here | apply Sel.there)) (by with_reducible repeat (first | exact Sel.here | apply Sel.there)) (by with_reducible repeat (first | exact Sel.here | apply Sel.there))⟩
/-- Remove -/
theorem remove_any (h : Sep [BookP b] w) (hp : p.size ≤ maxLen) (h0 : 0 ≤ n) (h1 : n < big64) (hf : f.size ≤ maxLen) :
    Calls Tryz.prog 52 #[.pointer (some ⟨b.p, 0, none⟩), .string p, .agg #[.int .u64 n, .string f]] w fun e w' => e = .returned (.int .i64 (if (find b.es p n f).isSome = true then 0 else 52)) ∧ At [BookP b] w [BookP (b.with (b.st.remove p n f))] w' := by
  cases hfi : find b.es p n f with
  | none =>
    have := remove_no h hp h0 h1 hf hfi
    rw [remove_none hfi]
    exact this
  | some x => exact remove_yes h hp h0 h1 hf hfi

end
end Go.Proofs.YtalfoiodejoicaaGreatDoor.Lock
end

section
namespace Go.Proofs.YtalfoiodejoicaaGreatDoor.Path
open Go.RowKit
set_option linter.unusedSimpArgs false
set_option linter.unusedVariables false

theorem wpList_make_at {P : Program} {ops : Array Oper} {rest : List Oper} {o : Oper} {a : Act} {Q : Exit → Act → World → Prop} {L0 L : List Part} {w0 w : World} {t e : TypeId} {i : TypeInfo} {z : Value} {kl kc : IntKind} (hg : o.guard = none) (l c : Operand) (hop : o.op = .makeSlice t l c)
    (ht : P.underlying t = some (.slice e)) (hi : P.info? e = some i) (hz : i.zero = some z) (hsize : i.size = 1) (hz1 : z.cells = #[z]) (n : Nat) (hl : a.eval l = .int kl (n : Int)) (hc : a.eval c = .int kc (n : Int)) (hbytes : i.bytes * n ≤ 281474976710656) (h63 : n ≤ 9223372036854775807)
    (h : At L0 w0 L w) (hK : ∀ b w', At L0 w0 (Part.cells b (List.replicate n z) e :: L) w' → w0.heap.size ≤ b → wpList P ops Q rest (a.put o.dst (.slice (some ⟨b, 0, none⟩) n n)) w') : wpList P ops Q (o :: rest) a w := by
  have hr := run_make_row t e i z ht hi hz hsize hz1 kl kc n hbytes h63 w
  have hA := h.alloc (List.replicate n z) e
  rw [show (List.replicate n z).toArray = madeCells #[z] n from by rw [← toList_madeCells_one z n]] at hA
  refine wpList_val hg ?_ (hK _ _ hA h.size)
  simp [execOp, hop, hl, hc, hr, Result.andThen]
theorem count_splits : ∀ l : Bs, Lib.countByte l 47 + 1 = (splits l).length
  | [] => rfl
  | c :: r => by
    have ih := count_splits r
    unfold Lib.countByte at ih ⊢
    rw [splits_cons]
    split
    · rename_i h; subst h; simp; omega
    · rename_i h
      rw [List.count_cons]
      have hl := splits_len r
      simp [h]
      omega
theorem count_any (s : ByteArray) (w : World) : Calls Tryz.prog 184 #[.string s, .string ⟨#[47]⟩] w fun e w' => e = .returned (.int .i64 (Lib.countByte s.data.toList 47)) ∧ w = w' :=
  (Tryz.strings_Count_one s 47 w).mono fun _ _ ⟨he, hw⟩ => ⟨he, hw.symm⟩
theorem index_c (r : ByteArray) (w : World) : Calls Tryz.prog 185 #[.string r, .string ⟨#[47]⟩] w fun e w' => e = .returned (.int .i64 (Lib.indexByte r.data.toList 47)) ∧ w = w' :=
  (Tryz.strings_Index_one _ _ _).mono fun _ _ ⟨he, hw⟩ => ⟨he, hw.symm⟩
def strCells (ws : List ByteArray) (k : Nat) : List Value := ws.map Value.string ++ List.replicate k (.string ⟨#[]⟩)
theorem strCells_set (ws : List ByteArray) (k : Nat) (x : ByteArray) : setL (strCells ws (k + 1)) ws.length [.string x] = strCells (ws ++ [x]) k := by
  simp [setL, strCells, List.replicate_succ]
theorem flatS_map (ws : List ByteArray) : flatS ws = ws.map Value.string := by
  induction ws with
  | nil => rfl
  | cons x r ih => simp only [flatS, List.flatMap_cons, List.map_cons] at ih ⊢; rw [ih]; rfl
def GenRel (s : ByteArray) (w : World) (g N : Nat) (k : Nat) (u0 u10 : Value) (wr : World) : Prop :=
  ∃ (ws : List ByteArray) (r : ByteArray), u0 = .string r ∧ u10 = .int .i64 ws.length ∧ ws.length + k = N ∧ r.size ≤ s.size ∧ splits (bl s) = ws.map bl ++ splits (bl r) ∧ At [] w [Part.cells g (strCells ws k) 9] wr
def SplitPost (s : ByteArray) (w : World) (e : Ending) (w' : World) : Prop := ∃ (v : Value) (ws : List ByteArray), e = .returned v ∧ ws.map bl = splits (bl s) ∧ At [] w [rowS v ws] w'
set_option maxRecDepth 100000 in
set_option maxHeartbeats 2000000 in
theorem genSplit_any (s : ByteArray) (w : World) (hs : s.size ≤ 2000000) : Calls Tryz.prog 167 #[.string s, .string ⟨#[47]⟩, .int .i64 0, .int .i64 (-1)] w (SplitPost s w) := by
  have hA := At.start (w0 := w) (L0 := []) trivial
  have hF := hA.facts
  obtain ⟨i0, hi0, hz0, hz1, hz2⟩ := info_parts infoStr
  have hN0 := count_splits (bl s)
  have hle := splits_len_le (bl s)
  have hsz : (bl s).length = s.size := by simp
  have h1 := splits_len (bl s)
  obtain ⟨N, hN⟩ : ∃ N, (splits (bl s)).length = N := ⟨_, rfl⟩
  rw [hN] at hN0 hle h1
  have hc : ((Lib.countByte s.data.toList 47 : Nat) : Int) = (N : Int) - 1 := by
    have : Lib.countByte s.data.toList 47 + 1 = N := hN0
    omega
  have hN' := Lib.hid hN
  rw [hsz] at hle
  clear hN0 hsz hN
  have hcnt := count_any s w
  rw [hc] at hcnt
  clear hc
  have hmin : min (N : Int) ((s.size : Int) + 1) = N := by omega
  go_enter Tryz.func167, Tryz.ntmps167
  go_wp2_with fail
  refine hcnt.mono ?_
  clear hcnt
  rintro e _ ⟨rfl, rfl⟩
  go_wp2_with (refine wpList_make_at rfl _ _ rfl Tryz.underlying135 hi0 hz0 hz1 rfl N (by (try simp only [Act.eval, Array.getD_eq_getD_getElem?, List.getElem?_toArray, List.getElem?_cons_succ, List.getElem?_cons_zero, Option.getD_some]) <;> exact rfl) (by (try simp only [Act.eval, Array.getD_eq_getD_getElem?, List.getElem?_toArray, List.getElem?_cons_succ, List.getElem?_cons_zero, Option.getD_some]) <;> exact rfl) (by rw [hz2]; omega) (by omega) hA ?_; intro g w1 hB hg; clear hF hA; have hA := hB; clear hB; (try simp only [setL, List.set_cons_zero, List.set_cons_succ, List.cons_append, List.nil_append] at hA); (have hF := hA.facts); (try simp only [facts_cons, facts_nil, facts_cells, facts_old, facts_fact, facts_obj, facts_map, facts_iter, facts_row, and_true, true_and] at hF))
  try go_frame
  go_loopg [0, 10] N (GenRel s w g N)
  case atStart => exact ⟨[], s, rfl, rfl, by simp, Nat.le_refl _, rfl, hA⟩
  case round =>
    obtain ⟨ws, r, rfl, rfl, hk, hrs, hsp, hB⟩ := hrel
    clear hF hA
    have hA := hB
    clear hB
    have hrl : (splits (bl r)).length = gk := by
      have := congrArg List.length hsp
      rw [hN'.out] at this
      simp at this
      omega
    have hr1 := splits_len (bl r)
    by_cases hlt : ws.length + 1 < N
    · have hi : 0 ≤ Lib.indexByte (bl r) 47 := by
        rcases Int.lt_or_le (Lib.indexByte (bl r) 47) 0 with q | q
        · have := idx_none q
          rw [this] at hrl
          simp at hrl
          omega
        · exact q
      obtain ⟨i, hi2⟩ := Int.eq_ofNat_of_zero_le hi
      obtain ⟨hilt, hsr⟩ := idx_some hi2
      obtain ⟨m, rfl⟩ : ∃ m, gk = m + 1 := ⟨gk - 1, by omega⟩
      have hrz : (bl r).length = r.size := by simp
      have hil : i + 1 ≤ r.size := by omega
      have hix := index_c r wr
      rw [show Lib.indexByte r.data.toList 47 = (i : Int) from hi2] at hix
      have hst := strCells_set ws m (r.extract 0 i)
      have hsl : (strCells ws (m + 1)).length = ws.length + (m + 1) := by simp [strCells]
      have hsp' := Lib.hid hsp
      have hsr' := Lib.hid hsr
      have hst' := Lib.hid hst
      have hsl' := Lib.hid hsl
      clear hsp hsr hi2 hilt hi hrz hrl hst hsl hr1
      (try simp only [setL, List.set_cons_zero, List.set_cons_succ, List.cons_append, List.nil_append] at hA); (have hF := hA.facts); (try simp only [facts_cons, facts_nil, facts_cells, facts_old, facts_fact, facts_obj, facts_map, facts_iter, facts_row, and_true, true_and] at hF)
      go_wp2_with fail
      refine hix.mono ?_
      clear hix
      rintro e _ ⟨rfl, rfl⟩
      have hi' : decide ((i : Int) < 0) = false := by simp
      go_wp2_with (refine wpList_store_at (j := ws.length) rfl rfl rfl (by (try simp only [Act.eval, Array.getD_eq_getD_getElem?, List.getElem?_toArray, List.getElem?_cons_succ, List.getElem?_cons_zero, Option.getD_some]) <;> exact rfl) (vs := [.string (r.extract 0 i)]) (by exact rfl) hA (by with_reducible repeat (first | exact Sel.here | apply Sel.there)) (by kernel_rfl) rfl (by have := hsl'.out; simp only [List.length_cons, List.length_nil]; omega) ?_; intro w1 hB; clear hF hA; have hA := hB; clear hB; rw [hst'.out] at hA; (try simp only [setL, List.set_cons_zero, List.set_cons_succ, List.cons_append, List.nil_append] at hA); (have hF := hA.facts); (try simp only [facts_cons, facts_nil, facts_cells, facts_old, facts_fact, facts_obj, facts_map, facts_iter, facts_row, and_true, true_and] at hF))
      go_roundg m
      case measure => omega
      case rel =>
        have e1 : bl (r.extract 0 i) = (bl r).take i := by simp [bl]
        have e2 : bl (r.extract (i + 1) r.size) = (bl r).drop (i + 1) := by simp only [bl]; simp; rw [List.take_of_length_le (by simp)]
        exact ⟨ws ++ [r.extract 0 i], r.extract (i + 1) r.size, rfl, by simp, by simp; omega, by simp; omega, by rw [hsp'.out, hsr'.out, e2]; simp [e1], hA⟩
    · obtain rfl : gk = 1 := by omega
      have hone : splits (bl r) = [bl r] := by
        cases hq : splits (bl r) with
        | nil => exact absurd hq (splits_ne _)
        | cons a b =>
          rw [hq] at hrl
          simp at hrl
          subst hrl
          have := join_splits (bl r)
          rw [hq, join_one] at this
          rw [this]
      have hst : setL (strCells ws 1) ws.length [.string r] = strCells (ws ++ [r]) 0 := strCells_set ws 0 r
      have hsl : (strCells ws 1).length = ws.length + 1 := by simp [strCells]
      have hsp' := Lib.hid hsp
      have hone' := Lib.hid hone
      have hst' := Lib.hid hst
      have hsl' := Lib.hid hsl
      have hk' := Lib.hid hk
      have hge : ¬ ((ws.length : Int) < (N : Int) - 1) := by omega
      clear hsp hone hst hsl hrl hr1
      (try simp only [setL, List.set_cons_zero, List.set_cons_succ, List.cons_append, List.nil_append] at hA); (have hF := hA.facts); (try simp only [facts_cons, facts_nil, facts_cells, facts_old, facts_fact, facts_obj, facts_map, facts_iter, facts_row, and_true, true_and] at hF)
      go_wp2_with (refine wpList_store_at (j := ws.length) rfl rfl rfl (by (try simp only [Act.eval, Array.getD_eq_getD_getElem?, List.getElem?_toArray, List.getElem?_cons_succ, List.getElem?_cons_zero, Option.getD_some]) <;> exact rfl) (vs := [.string r]) (by exact rfl) hA (by with_reducible repeat (first | exact Sel.here | apply Sel.there)) (by kernel_rfl) rfl (by have := hsl'.out; simp only [List.length_cons, List.length_nil]; omega) ?_; intro w1 hB; clear hF hA; have hA := hB; clear hB; rw [hst'.out] at hA; (try simp only [setL, List.set_cons_zero, List.set_cons_succ, List.cons_append, List.nil_append] at hA); (have hF := hA.facts); (try simp only [facts_cons, facts_nil, facts_cells, facts_old, facts_fact, facts_obj, facts_map, facts_iter, facts_row, and_true, true_and] at hF))
      go_ret
      have e : strCells (ws ++ [r]) 0 = flatS (ws ++ [r]) := by simp [strCells, flatS_map]
      rw [e] at hA
      have hl : (ws ++ [r]).length = N := by simp; exact hk'.out
      have hA2 := hA.row_shut (n := (ws ++ [r]).length) (cap := N) (size := 1) (xs := flatS (ws ++ [r])) (by with_reducible repeat (first | exact Sel.here | apply Sel.there)) (by rw [flatS_map]; simp; have := hk'.out; omega) (by omega) (by unfold maxLen; omega) (by rw [List.take_of_length_le (by rw [flatS_map]; simp)])
      refine ⟨_, ws ++ [r], ?_, by rw [hsp'.out, hone'.out]; simp, hA2.pick (by with_reducible repeat (first | exact Picks.nil | refine Picks.cons (by with_reducible repeat (first | exact Sel.here | apply Sel.there)) ?_))⟩
      rw [hl]
      rfl
end Go.Proofs.YtalfoiodejoicaaGreatDoor.Path
end

section
namespace Go.Proofs.YtalfoiodejoicaaGreatDoor.Path
open Go.RowKit
open Go.Lib (compareBytes)
set_option linter.unusedSimpArgs false
set_option linter.unusedVariables false

set_option maxRecDepth 100000 in
theorem split_any (s : ByteArray) (w : World) (hs : s.size ≤ 2000000) : Calls Tryz.prog 137 #[.string s, .string ⟨#[47]⟩] w (SplitPost s w) := by
  go_enter Tryz.func137, Tryz.ntmps137
  go_wp2_with fail
  refine (genSplit_any s w hs).mono ?_
  rintro e w1 ⟨v, ws, rfl, h1, h2⟩
  go_wp2_with fail
  go_ret
  exact ⟨v, ws, rfl, h1, h2⟩
def PartsPost (s : ByteArray) (w : World) (e : Ending) (w' : World) : Prop := ∃ (v : Value) (ws : List ByteArray), e = .returned v ∧ ws.map bl = partsL (bl s) ∧ At [] w [rowS v ws] w'
set_option maxRecDepth 100000 in
theorem parts_any (s : ByteArray) (w : World) (hs : s.size ≤ 2000000) : Calls Tryz.prog 106 #[.string s] w (PartsPost s w) := by
  cases h1 : rightB (bl s)
  · have e : partsL (bl s) = [] := by simp [partsL, h1]
    have e' := Lib.hid e
    clear e
    go_enter Tryz.func106, Tryz.ntmps106
    go_wp2_with fail
    refine (right_is w hs h1).mono ?_
    rintro e w1 ⟨rfl, hx⟩
    go_wp2_with fail
    go_ret
    exact ⟨_, [], rfl, by rw [e'.out]; rfl, ((At.start (w0 := w) (L0 := []) trivial).ext hx).row_nil 9 1⟩
  · have e : partsL (bl s) = splits (bl s) := by simp [partsL, h1]
    have e' := Lib.hid e
    clear e
    go_enter Tryz.func106, Tryz.ntmps106
    go_wp2_with fail
    refine (right_is w hs h1).mono ?_
    rintro e w1 ⟨rfl, hx⟩
    go_wp2_with fail
    refine (split_any s w1 hs).mono ?_
    rintro e w2 ⟨v, ws, rfl, h2, h3⟩
    have hB := ((At.start (w0 := w) (L0 := []) trivial).ext hx).call0 h3
    clear h3 hx
    go_wp2_with fail
    go_ret
    exact ⟨_, ws, rfl, by rw [e'.out, h2], by simpa using hB⟩

theorem less_cb : ∀ (x y : List UInt8), Op.bytesLess x y = decide (compareBytes x y < 0)
  | [], [] => by simp [Op.bytesLess, compareBytes]
  | [], _ :: _ => by simp [Op.bytesLess, compareBytes]
  | _ :: _, [] => by simp [Op.bytesLess, compareBytes]
  | a :: x, b :: y => by
    rw [Op.bytesLess, less_cb x y]
    simp only [compareBytes]
    rcases Nat.lt_trichotomy a.toNat b.toNat with h | h | h
    · have h1 : a < b := UInt8.lt_iff_toNat_lt.2 h
      simp [h1]
    · have e : a = b := UInt8.toNat_inj.1 h
      subst e
      have h1 : ¬ a < a := fun q => by have := UInt8.lt_iff_toNat_lt.1 q; omega
      simp [h1]
    · have h1 : b < a := UInt8.lt_iff_toNat_lt.2 h
      have h2 : ¬ a < b := fun q => by have := UInt8.lt_iff_toNat_lt.1 q; omega
      have h3 : a ≠ b := fun e => by subst e; omega
      simp [h1, h2, h3]
set_option maxRecDepth 100000 in
theorem nan_any (s : ByteArray) (w : World) : Calls Tryz.prog 168 #[.string s] w fun e w' => e = .returned (.bool false) ∧ w = w' := by
  have h : (s.toList == s.toList) = true := by simp
  go_enter Tryz.func168, Tryz.ntmps168
  go_wp2_with fail
  go_ret
  exact ⟨by simp, rfl⟩
set_option maxRecDepth 100000 in
theorem cmpS_any (x y : ByteArray) (w : World) : Calls Tryz.prog 138 #[.string x, .string y] w fun e w' => e = .returned (.int .i64 (compareBytes (bl x) (bl y))) ∧ w = w' := by
  have key : ∀ c, compareBytes (bl x) (bl y) = c → (c = -1 ∨ c = 0 ∨ c = 1) → Calls Tryz.prog 138 #[.string x, .string y] w fun e w' => e = .returned (.int .i64 c) ∧ w = w' := by
    intro c hc h3
    have h1 : Op.bytesLess x.toList y.toList = decide (c < 0) := by rw [Lib.toList_data, Lib.toList_data, less_cb, ← hc]
    have h2 : Op.bytesLess y.toList x.toList = decide (0 < c) := by rw [Lib.toList_data, Lib.toList_data, less_cb, ← hc, cb_anti (bl x) (bl y)]; simp [bl]
    have h4 : (x.toList == y.toList) = decide (c = 0) := by
      rw [eqB]
      congr 1
      rw [← hc]
      exact propext ⟨fun e => by rw [e]; exact cb_self _, fun e => cb_eq e⟩
    clear hc
    rcases h3 with rfl | rfl | rfl
    all_goals
      simp only [Int.reduceNeg, Int.reduceLT, Int.reduceEq, decide_true, decide_false] at h1 h2 h4
      go_enter Tryz.func138, Tryz.ntmps138
      go_wp2_with (refine (nan_any _ _).mono ?_; rintro e _ ⟨rfl, rfl⟩)
      go_ret
      exact ⟨rfl, rfl⟩
  exact key _ rfl (cb_three _ _)

def CmpRel (ws us : List ByteArray) (w : World) (k : Nat) (u11 : Value) (wr : World) : Prop :=
  ∃ i : Nat, u11 = .int .i64 i ∧ i + k = ws.length ∧ i ≤ us.length ∧ cmpL (ws.map bl) (us.map bl) = cmpL ((ws.drop i).map bl) ((us.drop i).map bl) ∧ wr = w
set_option maxRecDepth 100000 in
set_option maxHeartbeats 2000000 in
theorem compareS_any {w : World} {ws us : List ByteArray} {g1 g2 c1 c2 : Nat} (h1 : ∀ (j : Nat) x, ws[j]? = some x → w.cell? ⟨g1, j, none⟩ = some (.string x)) (h2 : ∀ (j : Nat) x, us[j]? = some x → w.cell? ⟨g2, j, none⟩ = some (.string x)) (hw : ws.length ≤ 2000000) (hu : us.length ≤ 2000000) :
    Calls Tryz.prog 107 #[.slice (some ⟨g1, 0, none⟩) ws.length c1, .slice (some ⟨g2, 0, none⟩) us.length c2] w fun e w' => e = .returned (.int .i64 (cmpL (ws.map bl) (us.map bl))) ∧ w = w' := by
  have h1' := Lib.hid h1
  have h2' := Lib.hid h2
  clear h1 h2
  go_enter Tryz.func107, Tryz.ntmps107
  go_wp2_with fail
  go_loopg [5, 6, 7, 8, 11] ws.length (fun k _ _ _ _ u11 wr => CmpRel ws us w k u11 wr)
  case atStart => exact ⟨0, rfl, by simp, by simp, rfl, rfl⟩
  case round =>
    obtain ⟨i, rfl, hk, hiu, hc, rfl⟩ := hrel
    by_cases hi : i < ws.length
    · have x1 := h1'.out i ws[i] (List.getElem?_eq_getElem hi)
      have hd : ws.drop i = ws[i] :: ws.drop (i + 1) := List.drop_eq_getElem_cons hi
      rw [hd] at hc
      generalize ws[i] = x at *
      by_cases hj : i < us.length
      · have x2 := h2'.out i us[i] (List.getElem?_eq_getElem hj)
        have hd2 : us.drop i = us[i] :: us.drop (i + 1) := List.drop_eq_getElem_cons hj
        rw [hd2] at hc
        generalize us[i] = y at *
        simp only [List.map_cons] at hc
        rw [cmpL] at hc
        obtain ⟨cc, hcc⟩ : ∃ c, compareBytes (bl x) (bl y) = c := ⟨_, rfl⟩
        have hcm := cmpS_any x y wr
        rw [hcc] at hcm hc
        have hc' := Lib.hid hc
        clear hc hd hd2 hcc
        by_cases h0 : cc = 0
        · subst h0
          go_wp2_with fail
          refine hcm.mono ?_
          clear hcm
          rintro e _ ⟨rfl, rfl⟩
          go_wp2_with fail
          go_roundg (gk - 1)
          case measure => omega
          case rel => exact ⟨i + 1, by simp, by omega, by omega, by rw [hc'.out]; simp, rfl⟩
        · have h0' : (cc == 0) = false := by simpa using h0
          have hc2 := hc'.out
          rw [if_neg h0] at hc2
          have hc3 := Lib.hid hc2
          clear hc2 hc' h0
          go_wp2_with fail
          refine hcm.mono ?_
          clear hcm
          rintro e _ ⟨rfl, rfl⟩
          go_wp2_with fail
          go_ret
          exact ⟨by rw [hc3.out]; rfl, rfl⟩
      · have e2 : us.drop i = [] := List.drop_eq_nil_of_le (by omega)
        rw [e2] at hc
        simp only [List.map_cons, List.map_nil] at hc
        rw [cmpL] at hc
        have hc' := Lib.hid hc
        have hge : (us.length : Int) ≤ i := by omega
        clear hc hd e2
        go_wp2_with fail
        go_ret
        exact ⟨by rw [hc'.out]; rfl, rfl⟩
    · have e1 : ws.drop i = [] := List.drop_eq_nil_of_le (by omega)
      rw [e1] at hc
      obtain rfl : i = ws.length := by omega
      by_cases hlt : ws.length < us.length
      · obtain ⟨y, ys, hy⟩ : ∃ y ys, us.drop ws.length = y :: ys := by
          cases q : us.drop ws.length with
          | nil => have := List.drop_eq_nil_iff.1 q; omega
          | cons y ys => exact ⟨y, ys, rfl⟩
        rw [hy] at hc
        simp only [List.map_cons, List.map_nil] at hc
        rw [cmpL] at hc
        have hc' := Lib.hid hc
        clear hc e1 hy
        go_wp2_with fail
        go_ret
        exact ⟨by rw [hc'.out]; rfl, rfl⟩
      · have e2 : us.drop ws.length = [] := List.drop_eq_nil_of_le (by omega)
        rw [e2] at hc
        simp only [List.map_nil] at hc
        rw [cmpL] at hc
        have hc' := Lib.hid hc
        clear hc e1 e2
        go_wp2_with fail
        go_ret
        exact ⟨by rw [hc'.out]; rfl, rfl⟩
end Go.Proofs.YtalfoiodejoicaaGreatDoor.Path
end
