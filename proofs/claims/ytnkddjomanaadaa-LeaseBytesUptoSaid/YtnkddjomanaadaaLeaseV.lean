/- A book: something is told of a session that is unknown. -/
import Derived.Test.YtnkddjomanaadaaLeaseQ
import Derived.Test.YtnkddjomanaadaaSepT
namespace Go.Proofs.Ytnkddjomanaadaa.Lease
open Go.RowKit
open Go.Maps (Keyed)
set_option linter.unusedSimpArgs false
set_option linter.unusedVariables false

set_option maxRecDepth 100000 in
theorem known_at {w : World} {p m : Nat} {ss : List Ses} (h : Sep [BookP p m ss] w) {n : Int} {f : ByteArray} (h0 : 0 ≤ n) (h1 : n < big64) (hf : f.size ≤ maxLen) (hn : find ss n f = none) {S : Nat} (hS : w.heap.size = S) :
    Calls Try.prog 34 #[.pointer (some ⟨p, 0, none⟩), .agg #[.int .u64 n, .string f]] w fun e w' => e = .returned (.pointer (some ⟨S + 2, 0, none⟩)) ∧ At [BookP p m ss] w [BookP p m (ss ++ [fresh n f (S + 2) (S + 1)])] w' := by
  obtain ⟨kl, hk⟩ := keyS h0 h1 hf
  have hmiss := Lib.hid (find_none hn)
  have hA := begin0 h
  have hF := hA.facts
  have hS' := Lib.hid hS
  clear h hS
  unfold keyV at *
  go_enter Try.func34, Try.ntmps34
  go_wp2_with (first | (refine wpList_box_sz (E := 31) rfl rfl (by (try simp only [Act.eval, Array.getD_eq_getD_getElem?, List.getElem?_toArray, List.getElem?_cons_succ, List.getElem?_cons_zero, Option.getD_some]) <;> exact rfl) (by exact rfl) hA hS'.out ?_; intro w1 hB hS1; clear hF hA hS'; have hS' := Lib.hid hS1; clear hS1; have hA := hB; clear hB; (try simp only [setL, List.set_cons_zero, List.set_cons_succ, List.cons_append, List.nil_append] at hA); (have hF := hA.facts); (try simp only [facts_cons, facts_nil, facts_cells, facts_old, facts_fact, facts_obj, facts_map, facts_iter, and_true, true_and] at hF)))
  have hl : ∀ q, (Instr.lookup 56 (.map (some m)) (.agg #[.int .u64 n, .string f]) true).run Try.prog (w1.drewN q) = .ok (.tuple #[.pointer none, .bool false]) (w1.drewN q) := fun q =>
    MapAt.look_none (w := w1.drewN q) ((hA.drewN q).get (A := mapC m (ents ss)) (by with_reducible repeat (first | exact Sel.here | apply Sel.there))) lawS Try.underlying56 hk hmiss.out (by kernel_rfl) true
  go_quiet (fail)
  have hS2 := (show (World.drewN w1 nq).heap.size = S + 1 from hS'.out)
  have hA := hA.drewN nq
  clear hl hS'
  generalize World.drewN _ nq = w2 at *
  have hS' := Lib.hid hS2
  clear hS2 hF
  (try simp only [setL, List.set_cons_zero, List.set_cons_succ, List.cons_append, List.nil_append] at hA); (have hF := hA.facts); (try simp only [facts_cons, facts_nil, facts_cells, facts_old, facts_fact, facts_obj, facts_map, facts_iter, and_true, true_and] at hF)
  go_wp2_with (first | (refine wpList_makeMap_sz Try.prog 29 rfl rfl hA hS'.out ?_; intro w1 hB hS1; clear hF hA hS'; have hS' := Lib.hid hS1; clear hS1; have hA := hB; clear hB; (try simp only [setL, List.set_cons_zero, List.set_cons_succ, List.cons_append, List.nil_append] at hA); (have hF := hA.facts); (try simp only [facts_cons, facts_nil, facts_cells, facts_old, facts_fact, facts_obj, facts_map, facts_iter, and_true, true_and] at hF)) | (refine wpList_box_sz (E := 84) rfl rfl (by (try simp only [Act.eval, Array.getD_eq_getD_getElem?, List.getElem?_toArray, List.getElem?_cons_succ, List.getElem?_cons_zero, Option.getD_some]) <;> exact rfl) (by exact rfl) hA hS'.out ?_; intro w1 hB hS1; clear hF hA hS'; have hS' := Lib.hid hS1; clear hS1; have hA := hB; clear hB; (try simp only [setL, List.set_cons_zero, List.set_cons_succ, List.cons_append, List.nil_append] at hA); (have hF := hA.facts); (try simp only [facts_cons, facts_nil, facts_cells, facts_old, facts_fact, facts_obj, facts_map, facts_iter, and_true, true_and] at hF)))
  (refine wp_region_head 6 (fun w' => ∃ n, w' = World.drewN _ n) (by kernel_rfl) (by kernel_rfl) ⟨1, rfl⟩ ?_); (simp only [List.take_succ_cons, List.take_zero, List.drop_succ_cons, List.drop_zero]); (repeat (first | go_big_quiet_step (fail) | quiet_step (fail))); (refine wpQuiet_nil ?_); (rintro _ ⟨nq, rfl⟩)
  have hA := hA.drewN nq; generalize World.drewN _ nq = w1 at *; clear hF; (try simp only [setL, List.set_cons_zero, List.set_cons_succ, List.cons_append, List.nil_append] at hA); (have hF := hA.facts); (try simp only [facts_cons, facts_nil, facts_cells, facts_old, facts_fact, facts_obj, facts_map, facts_iter, and_true, true_and] at hF)
  refine wpList_put_new_at rfl rfl rfl (by (try simp only [Act.eval, Array.getD_eq_getD_getElem?, List.getElem?_toArray, List.getElem?_cons_succ, List.getElem?_cons_zero, Option.getD_some]) <;> exact rfl) (by (try simp only [Act.eval, Array.getD_eq_getD_getElem?, List.getElem?_toArray, List.getElem?_cons_succ, List.getElem?_cons_zero, Option.getD_some]) <;> exact rfl) hA (by with_reducible repeat (first | exact Sel.here | apply Sel.there)) lawS Try.underlying56 hk hmiss.out ?_
  intro w1 hB; clear hF hA; have hA := hB; clear hB; (try simp only [setL, List.set_cons_zero, List.set_cons_succ, List.cons_append, List.nil_append] at hA); (have hF := hA.facts); (try simp only [facts_cons, facts_nil, facts_cells, facts_old, facts_fact, facts_obj, facts_map, facts_iter, and_true, true_and] at hF)
  go_wp2_with fail
  go_ret
  exact ⟨rfl, close_new (fresh n f _ _) hA (by with_reducible repeat (first | exact Sel.here | apply Sel.there)) (by repeat (first | exact Sel.here | apply Sel.there)) (by repeat (first | exact Sel.here | apply Sel.there)) (by repeat (first | exact Sel.here | apply Sel.there)) (by with_reducible repeat (first | exact Sel.here | apply Sel.there))⟩
def TellNew (w : World) (p m : Nat) (ss : List Ses) (n : Int) (f : ByteArray) (r : Int) (c : Ans) (e : Ending) (w' : World) : Prop :=
  ∃ b t, e = .returned (.tuple #[]) ∧ At [BookP p m ss] w [BookP p m (ss ++ [{ fresh n f b t with told := [(r, c)] }])] w'
set_option maxRecDepth 100000 in
theorem tell_unknown {w : World} {p m : Nat} {ss : List Ses} (h : Sep [BookP p m ss] w) {n r : Int} {f : ByteArray} (h0 : 0 ≤ n) (h1 : n < big64) (hf : f.size ≤ maxLen) (hn : find ss n f = none) (r0 : 0 ≤ r) (r1 : r < big64) (c : Ans) :
    Calls Try.prog 21 #[.pointer (some ⟨p, 0, none⟩), .agg #[.int .u64 n, .string f], .int .u64 r, .agg #[.int .i64 c.e, .int .u64 c.n, .bool c.g]] w (TellNew w p m ss n f r c) := by
  obtain ⟨ku, hu⟩ := keyU r0 r1
  have hA := At.start h
  have hF := hA.facts
  have hl' : (look ss n f).told.length < 256 := by unfold look; rw [hn]; simp [fresh]
  clear h
  go_enter Try.func21, Try.ntmps21
  go_wp2_with (first | ((with_reducible show wpList _ _ _ ({ dst := _, op := Op.box _ _, type := _, pos := _, after := _, guard := _ } :: _) _ _); refine wpList_box_at (E := 31) rfl rfl (by (try simp only [Act.eval, Array.getD_eq_getD_getElem?, List.getElem?_toArray, List.getElem?_cons_succ, List.getElem?_cons_zero, Option.getD_some]) <;> exact rfl) (by exact rfl) hA ?_; intro bS w1 hB hbS; clear hF hA; have hA := hB; clear hB; (try simp only [setL, List.set_cons_zero, List.set_cons_succ, List.cons_append, List.nil_append] at hA); (have hF := hA.facts); (try simp only [facts_cons, facts_nil, facts_cells, facts_old, facts_fact, facts_obj, facts_map, facts_iter, and_true, true_and] at hF)) | ((with_reducible show wpList _ _ _ ({ dst := _, op := Op.box _ _, type := _, pos := _, after := _, guard := _ } :: _) _ _); refine wpList_box_at (E := 34) rfl rfl (by (try simp only [Act.eval, Array.getD_eq_getD_getElem?, List.getElem?_toArray, List.getElem?_cons_succ, List.getElem?_cons_zero, Option.getD_some]) <;> exact rfl) (by exact rfl) hA ?_; intro bA w1 hB hbA; clear hF hA; have hA := hB; clear hB; (try simp only [setL, List.set_cons_zero, List.set_cons_succ, List.cons_append, List.nil_append] at hA); (have hF := hA.facts); (try simp only [facts_cons, facts_nil, facts_cells, facts_old, facts_fact, facts_obj, facts_map, facts_iter, and_true, true_and] at hF)) | ((with_reducible show wpList _ _ _ ({ dst := _, op := Op.store _ _ _, type := _, pos := _, after := _, guard := _ } :: _) _ _); refine wpList_store_at rfl rfl rfl (by (try simp only [Act.eval, Array.getD_eq_getD_getElem?, List.getElem?_toArray, List.getElem?_cons_succ, List.getElem?_cons_zero, Option.getD_some]) <;> exact rfl) (by exact rfl) hA (by with_reducible repeat (first | exact Sel.here | apply Sel.there)) (by kernel_rfl) rfl (by first | decide | (simp; done) | omega) ?_; intro w1 hB; clear hF hA; have hA := hB; clear hB; (try simp only [setL, List.set_cons_zero, List.set_cons_succ, List.cons_append, List.nil_append] at hA); (have hF := hA.facts); (try simp only [facts_cons, facts_nil, facts_cells, facts_old, facts_fact, facts_obj, facts_map, facts_iter, and_true, true_and] at hF)) | ((with_reducible show wpList _ _ _ ({ dst := _, op := Op.box _ _, type := _, pos := _, after := _, guard := _ } :: _) _ _); refine wpList_box_at rfl rfl (by (try simp only [Act.eval, Array.getD_eq_getD_getElem?, List.getElem?_toArray, List.getElem?_cons_succ, List.getElem?_cons_zero, Option.getD_some]) <;> exact rfl) (by exact rfl) hA ?_; intro b1 w1 hB hb1; clear hF hA; have hA := hB; clear hB; (try simp only [setL, List.set_cons_zero, List.set_cons_succ, List.cons_append, List.nil_append] at hA); (have hF := hA.facts); (try simp only [facts_cons, facts_nil, facts_cells, facts_old, facts_fact, facts_obj, facts_map, facts_iter, and_true, true_and] at hF)))
  refine (told_none (hA.sep1 (by with_reducible repeat (first | exact Sel.here | apply Sel.there))) h0 h1 hf hn).mono ?_
  rintro e w1 ⟨rfl, hT⟩; have hB := hA.call1 (by with_reducible repeat (first | exact Sel.here | apply Sel.there)) hT; clear hF hA hT; have hA := hB; clear hB; (try simp only [setL, List.set_cons_zero, List.set_cons_succ, List.cons_append, List.nil_append] at hA); (have hF := hA.facts); (try simp only [facts_cons, facts_nil, facts_cells, facts_old, facts_fact, facts_obj, facts_map, facts_iter, and_true, true_and] at hF)
  go_wp2_with (first | ((with_reducible show wpList _ _ _ ({ dst := _, op := Op.alloc _, type := _, pos := _, after := _, guard := _ } :: _) _ _); refine wpList_alloc_at (E := 34) (z := .agg #[.int .i64 0, .int .u64 0, .bool false]) (vs := [.int .i64 0, .int .u64 0, .bool false]) rfl rfl (by kernel_rfl) rfl hA ?_; intro bQ w1 hB hbQ; clear hF hA; have hA := hB; clear hB; (try simp only [setL, List.set_cons_zero, List.set_cons_succ, List.cons_append, List.nil_append] at hA); (have hF := hA.facts); (try simp only [facts_cons, facts_nil, facts_cells, facts_old, facts_fact, facts_obj, facts_map, facts_iter, and_true, true_and] at hF)) | ((with_reducible show wpList _ _ _ ({ dst := _, op := Op.store _ _ _, type := _, pos := _, after := _, guard := _ } :: _) _ _); refine wpList_store_at rfl rfl rfl (by (try simp only [Act.eval, Array.getD_eq_getD_getElem?, List.getElem?_toArray, List.getElem?_cons_succ, List.getElem?_cons_zero, Option.getD_some]) <;> exact rfl) (by exact rfl) hA (by with_reducible repeat (first | exact Sel.here | apply Sel.there)) (by kernel_rfl) rfl (by first | decide | (simp; done) | omega) ?_; intro w1 hB; clear hF hA; have hA := hB; clear hB; (try simp only [setL, List.set_cons_zero, List.set_cons_succ, List.cons_append, List.nil_append] at hA); (have hF := hA.facts); (try simp only [facts_cons, facts_nil, facts_cells, facts_old, facts_fact, facts_obj, facts_map, facts_iter, and_true, true_and] at hF)) | ((with_reducible show wpList _ _ _ ({ dst := _, op := Op.box _ _, type := _, pos := _, after := _, guard := _ } :: _) _ _); refine wpList_box_at rfl rfl (by (try simp only [Act.eval, Array.getD_eq_getD_getElem?, List.getElem?_toArray, List.getElem?_cons_succ, List.getElem?_cons_zero, Option.getD_some]) <;> exact rfl) (by exact rfl) hA ?_; intro b1 w1 hB hb1; clear hF hA; have hA := hB; clear hB; (try simp only [setL, List.set_cons_zero, List.set_cons_succ, List.cons_append, List.nil_append] at hA); (have hF := hA.facts); (try simp only [facts_cons, facts_nil, facts_cells, facts_old, facts_fact, facts_obj, facts_map, facts_iter, and_true, true_and] at hF)))
  refine (room_yes (hA.sep1 (by with_reducible repeat (first | exact Sel.here | apply Sel.there))) h0 h1 hf hl').mono ?_
  rintro e w1 ⟨rfl, hT⟩; have hB := hA.call1 (by with_reducible repeat (first | exact Sel.here | apply Sel.there)) hT; clear hF hA hT; have hA := hB; clear hB; (try simp only [setL, List.set_cons_zero, List.set_cons_succ, List.cons_append, List.nil_append] at hA); (have hF := hA.facts); (try simp only [facts_cons, facts_nil, facts_cells, facts_old, facts_fact, facts_obj, facts_map, facts_iter, and_true, true_and] at hF)
  go_wp2_with fail
  obtain ⟨S, hS⟩ : ∃ S, w1.heap.size = S := ⟨_, rfl⟩
  refine wp_region_turn 8 2 (TurnC [BookP p m ss] w _ S [sesC (S + 2) (fresh n f (S + 2) (S + 1)).cells, toldC (S + 1) (saids []), restP (ss ++ []), headC p m, mapC m (ents (ss ++ [fresh n f (S + 2) (S + 1)])), Part.cells bQ [.int .i64 0, .int .u64 0, .bool false] 34, Part.cells bA [.int .i64 c.e, .int .u64 c.n, .bool c.g] 34, Part.cells bS [.int .u64 n, .string f] 31]) (by kernel_rfl) (by kernel_rfl) (by decide) (turnC_start hA hS) ?_
  simp only [List.take_succ_cons, List.take_zero, List.drop_succ_cons, List.drop_zero]
  refine turn_pure (v := .pointer (some ⟨p, 0, none⟩)) rfl (by decide) (fun _ => rfl) ?_
  go_frame
  refine turn_both (v := .agg #[.int .u64 n, .string f]) rfl (by decide) (fun w hw => run_load_row (ty := 31) (n := 2) rfl rfl (hw.get (A := Part.cells bS [.int .u64 n, .string f] 31) (by with_reducible repeat (first | exact Sel.here | apply Sel.there))) (by kernel_rfl) (by kernel_rfl) rfl rfl) (fun w hw => run_load_row (ty := 31) (n := 2) rfl rfl (hw.get (A := Part.cells bS [.int .u64 n, .string f] 31) (by with_reducible repeat (first | exact Sel.here | apply Sel.there))) (by kernel_rfl) (by kernel_rfl) rfl rfl) ?_
  go_frame
  refine turn_call (v := .pointer (some ⟨S + 2, 0, none⟩)) (f := 34) (args := #[.pointer (some ⟨p, 0, none⟩), .agg #[.int .u64 n, .string f]]) rfl rfl (fun _ => by kernel_rfl) (fun w hw hs => (known_at (m := m) (ss := ss) (hw.sep1 (by with_reducible repeat (first | exact Sel.here | apply Sel.there))) h0 h1 hf hn hs).mono fun e w' ⟨he, t⟩ => ⟨he, (open1 (l1 := ss) (l2 := []) (s := fresh n f (S + 2) (S + 1)) (hw.call1 (by with_reducible repeat (first | exact Sel.here | apply Sel.there)) t) (by repeat (first | exact Sel.here | apply Sel.there))).pick (by repeat (first | exact Picks.nil | refine Picks.cons (by repeat (first | exact Sel.here | apply Sel.there)) ?_))⟩) ?_
  go_frame
  refine turn_pure (v := .pointer (some ⟨S + 2, 0, none⟩)) rfl (by decide) (fun _ => rfl) ?_
  go_frame
  refine turn_pure (v := .pointer (some ⟨S + 2, 5, none⟩)) rfl (by decide) (fun _ => by kernel_rfl) ?_
  go_frame
  refine turn_wait (v := .map (some (S + 1))) rfl (by decide) (by kernel_rfl) (fun w hw => run_load_one (ty := 82) rfl rfl (hw.get (A := sesC (S + 2) (fresh n f (S + 2) (S + 1)).cells) (by with_reducible repeat (first | exact Sel.here | apply Sel.there))) (by kernel_rfl) rfl) ?_
  go_frame
  refine turn_pure (v := .int .u64 r) rfl (by decide) (fun _ => rfl) ?_
  go_frame
  refine turn_both (v := .agg #[.int .i64 c.e, .int .u64 c.n, .bool c.g]) rfl (by decide) (fun w hw => run_load_row (ty := 34) (n := 3) rfl rfl (hw.get (A := Part.cells bA [.int .i64 c.e, .int .u64 c.n, .bool c.g] 34) (by with_reducible repeat (first | exact Sel.here | apply Sel.there))) (by kernel_rfl) (by kernel_rfl) rfl rfl) (fun w hw => run_load_row (ty := 34) (n := 3) rfl rfl (hw.get (A := Part.cells bA [.int .i64 c.e, .int .u64 c.n, .bool c.g] 34) (by with_reducible repeat (first | exact Sel.here | apply Sel.there))) (by kernel_rfl) (by kernel_rfl) rfl rfl) ?_
  go_frame
  refine wpQuietL_nil ?_
  intro w2 hw2
  have hB := turnC_end hw2
  clear hF hA hw2 hS
  have hA := hB
  clear hB
  refine wpList_put_new_at rfl rfl rfl (by (try simp only [Act.eval, Array.getD_eq_getD_getElem?, List.getElem?_toArray, List.getElem?_cons_succ, List.getElem?_cons_zero, Option.getD_some]) <;> exact rfl) (by (try simp only [Act.eval, Array.getD_eq_getD_getElem?, List.getElem?_toArray, List.getElem?_cons_succ, List.getElem?_cons_zero, Option.getD_some]) <;> exact rfl) hA (k := 29) (es := saids []) (by with_reducible repeat (first | exact Sel.here | apply Sel.there)) lawU Try.underlying82 hu nofun ?_
  intro w1 hB; clear hA; have hA := hB; clear hB
  go_wp2_with fail
  go_end0
  refine ⟨S + 2, S + 1, rfl, ?_⟩
  have e1 : saids [] ++ [(Value.int .u64 r, Value.agg #[.int .i64 c.e, .int .u64 c.n, .bool c.g])] = saids [(r, c)] := by simp [saids, saidE, Ans.val]
  have e2 : ents (ss ++ [fresh n f (S + 2) (S + 1)]) = ents (ss ++ { fresh n f (S + 2) (S + 1) with told := [(r, c)] } :: []) := by simp [ents, ent, Ses.key, Ses.ptr]
  rw [e1, e2] at hA
  exact close1 (m := m) (l1 := ss) (l2 := []) (s := { fresh n f (S + 2) (S + 1) with told := [(r, c)] }) hA (by with_reducible repeat (first | exact Sel.here | apply Sel.there)) (by with_reducible repeat (first | exact Sel.here | apply Sel.there)) (by repeat (first | exact Sel.here | apply Sel.there)) (by repeat (first | exact Sel.here | apply Sel.there)) (by with_reducible repeat (first | exact Sel.here | apply Sel.there))
end Go.Proofs.Ytnkddjomanaadaa.Lease
