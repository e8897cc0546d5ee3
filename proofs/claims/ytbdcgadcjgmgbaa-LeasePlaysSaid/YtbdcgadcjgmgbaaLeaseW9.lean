/- The walks of a book: a session is kept; what is due where nothing is open. -/
import Derived.Test.YtbdcgadcjgmgbaaLeaseW7
namespace Go.Proofs.Ytbdcgadcjgmgbaa.Lease
open Go.RowKit
open Go.Maps (Keyed)
set_option linter.unusedSimpArgs false
set_option linter.unusedVariables false

def Ses.kept (s : Ses) (time : Int) : Ses := { s with dl := if s.dl < endI time s.ttl then endI time s.ttl else s.dl }
set_option maxRecDepth 100000 in
theorem keep_no {w : World} {p m : Nat} {ss : List Ses} (h : Sep [BookP p m ss] w) {n : Int} {f : ByteArray} (h0 : 0 ≤ n) (h1 : n < big64) (hf : f.size ≤ maxLen) (time : Int) (ho : (look ss n f).op = false) :
    Calls Try.prog 22 #[.pointer (some ⟨p, 0, none⟩), .agg #[.int .u64 n, .string f], .int .i64 time] w fun e w' => e = .returned (.int .i64 50) ∧ At [BookP p m ss] w [BookP p m ss] w' := by
  have hA := At.start h
  have hF := hA.facts
  clear h
  have hfd : ∀ a b c d e w, (Instr.field 66 (.agg #[a, b, c, d, e]) 0).run Try.prog w = .ok a w := fun _ _ _ _ _ _ => by kernel_rfl
  go_enter Try.func22, Try.ntmps22
  go_wp2_with (first | (refine wpList_store_at rfl rfl rfl (by (try simp only [Act.eval, Array.getD_eq_getD_getElem?, List.getElem?_toArray, List.getElem?_cons_succ, List.getElem?_cons_zero, Option.getD_some]) <;> exact rfl) (by exact rfl) hA (by with_reducible repeat (first | exact Sel.here | apply Sel.there)) (by kernel_rfl) rfl (by first | decide | (simp; done) | omega) ?_; intro w1 hB; clear hF hA; have hA := hB; clear hB; (try simp only [setL, List.set_cons_zero, List.set_cons_succ, List.cons_append, List.nil_append] at hA); (have hF := hA.facts); (try simp only [facts_cons, facts_nil, facts_cells, facts_old, facts_fact, facts_obj, facts_map, facts_iter, and_true, true_and] at hF)) | (refine wpList_box_at rfl rfl (by (try simp only [Act.eval, Array.getD_eq_getD_getElem?, List.getElem?_toArray, List.getElem?_cons_succ, List.getElem?_cons_zero, Option.getD_some]) <;> exact rfl) (by exact rfl) hA ?_; intro b1 w1 hB hb1; clear hF hA; have hA := hB; clear hB; (try simp only [setL, List.set_cons_zero, List.set_cons_succ, List.cons_append, List.nil_append] at hA); (have hF := hA.facts); (try simp only [facts_cons, facts_nil, facts_cells, facts_old, facts_fact, facts_obj, facts_map, facts_iter, and_true, true_and] at hF)))
  refine (info_any (hA.sep1 (by with_reducible repeat (first | exact Sel.here | apply Sel.there))) h0 h1 hf).mono ?_
  unfold Ses.info
  rw [ho]
  rintro e w1 ⟨rfl, hT⟩; have hB := hA.call1 (by with_reducible repeat (first | exact Sel.here | apply Sel.there)) hT; clear hF hA hT; have hA := hB; clear hB; (try simp only [setL, List.set_cons_zero, List.set_cons_succ, List.cons_append, List.nil_append] at hA); (have hF := hA.facts); (try simp only [facts_cons, facts_nil, facts_cells, facts_old, facts_fact, facts_obj, facts_map, facts_iter, and_true, true_and] at hF)
  go_wp2_with (first | (refine wpList_store_at rfl rfl rfl (by (try simp only [Act.eval, Array.getD_eq_getD_getElem?, List.getElem?_toArray, List.getElem?_cons_succ, List.getElem?_cons_zero, Option.getD_some]) <;> exact rfl) (by exact rfl) hA (by with_reducible repeat (first | exact Sel.here | apply Sel.there)) (by kernel_rfl) rfl (by first | decide | (simp; done) | omega) ?_; intro w1 hB; clear hF hA; have hA := hB; clear hB; (try simp only [setL, List.set_cons_zero, List.set_cons_succ, List.cons_append, List.nil_append] at hA); (have hF := hA.facts); (try simp only [facts_cons, facts_nil, facts_cells, facts_old, facts_fact, facts_obj, facts_map, facts_iter, and_true, true_and] at hF)) | (refine wpList_box_at rfl rfl (by (try simp only [Act.eval, Array.getD_eq_getD_getElem?, List.getElem?_toArray, List.getElem?_cons_succ, List.getElem?_cons_zero, Option.getD_some]) <;> exact rfl) (by exact rfl) hA ?_; intro b1 w1 hB hb1; clear hF hA; have hA := hB; clear hB; (try simp only [setL, List.set_cons_zero, List.set_cons_succ, List.cons_append, List.nil_append] at hA); (have hF := hA.facts); (try simp only [facts_cons, facts_nil, facts_cells, facts_old, facts_fact, facts_obj, facts_map, facts_iter, and_true, true_and] at hF)))
  go_ret
  exact ⟨rfl, hA.only1 (by with_reducible repeat (first | exact Sel.here | apply Sel.there))⟩
set_option maxRecDepth 100000 in
theorem keep_yes {w : World} {p m : Nat} {l1 l2 : List Ses} {s : Ses} (h : Sep [BookP p m (l1 ++ s :: l2)] w) {n : Int} {f : ByteArray} (h0 : 0 ≤ n) (h1 : n < big64) (hf : f.size ≤ maxLen) (time : Int) (hn : find (l1 ++ s :: l2) n f = some s) (hso : s.op = true) :
    Calls Try.prog 22 #[.pointer (some ⟨p, 0, none⟩), .agg #[.int .u64 n, .string f], .int .i64 time] w fun e w' => e = .returned (.int .i64 0) ∧ At [BookP p m (l1 ++ s :: l2)] w [BookP p m (l1 ++ s.kept time :: l2)] w' := by
  obtain ⟨kl, hk⟩ := keyS h0 h1 hf
  have hmem := Lib.hid (find_mem hn)
  have hA := At.start h
  have hF := hA.facts
  clear h
  have hk' : look (l1 ++ s :: l2) n f = s := by unfold look; rw [hn]; rfl
  have ho : (look (l1 ++ s :: l2) n f).op = true := by rw [hk']; exact hso
  clear hk' hso
  unfold keyV at *
  have hfd : ∀ a b c d e w, (Instr.field 66 (.agg #[a, b, c, d, e]) 0).run Try.prog w = .ok a w := fun _ _ _ _ _ _ => by kernel_rfl
  go_enter Try.func22, Try.ntmps22
  go_wp2_with (first | (refine wpList_store_at rfl rfl rfl (by (try simp only [Act.eval, Array.getD_eq_getD_getElem?, List.getElem?_toArray, List.getElem?_cons_succ, List.getElem?_cons_zero, Option.getD_some]) <;> exact rfl) (by exact rfl) hA (by with_reducible repeat (first | exact Sel.here | apply Sel.there)) (by kernel_rfl) rfl (by first | decide | (simp; done) | omega) ?_; intro w1 hB; clear hF hA; have hA := hB; clear hB; (try simp only [setL, List.set_cons_zero, List.set_cons_succ, List.cons_append, List.nil_append] at hA); (have hF := hA.facts); (try simp only [facts_cons, facts_nil, facts_cells, facts_old, facts_fact, facts_obj, facts_map, facts_iter, and_true, true_and] at hF)) | (refine wpList_box_at rfl rfl (by (try simp only [Act.eval, Array.getD_eq_getD_getElem?, List.getElem?_toArray, List.getElem?_cons_succ, List.getElem?_cons_zero, Option.getD_some]) <;> exact rfl) (by exact rfl) hA ?_; intro b1 w1 hB hb1; clear hF hA; have hA := hB; clear hB; (try simp only [setL, List.set_cons_zero, List.set_cons_succ, List.cons_append, List.nil_append] at hA); (have hF := hA.facts); (try simp only [facts_cons, facts_nil, facts_cells, facts_old, facts_fact, facts_obj, facts_map, facts_iter, and_true, true_and] at hF)))
  refine (info_any (hA.sep1 (by with_reducible repeat (first | exact Sel.here | apply Sel.there))) h0 h1 hf).mono ?_
  unfold Ses.info
  rw [ho]
  rintro e w1 ⟨rfl, hT⟩; have hB := hA.call1 (by with_reducible repeat (first | exact Sel.here | apply Sel.there)) hT; clear hF hA hT; have hA := hB; clear hB; (try simp only [setL, List.set_cons_zero, List.set_cons_succ, List.cons_append, List.nil_append] at hA); (have hF := hA.facts); (try simp only [facts_cons, facts_nil, facts_cells, facts_old, facts_fact, facts_obj, facts_map, facts_iter, and_true, true_and] at hF)
  go_wp2_with (first | (refine wpList_store_at rfl rfl rfl (by (try simp only [Act.eval, Array.getD_eq_getD_getElem?, List.getElem?_toArray, List.getElem?_cons_succ, List.getElem?_cons_zero, Option.getD_some]) <;> exact rfl) (by exact rfl) hA (by with_reducible repeat (first | exact Sel.here | apply Sel.there)) (by kernel_rfl) rfl (by first | decide | (simp; done) | omega) ?_; intro w1 hB; clear hF hA; have hA := hB; clear hB; (try simp only [setL, List.set_cons_zero, List.set_cons_succ, List.cons_append, List.nil_append] at hA); (have hF := hA.facts); (try simp only [facts_cons, facts_nil, facts_cells, facts_old, facts_fact, facts_obj, facts_map, facts_iter, and_true, true_and] at hF)) | (refine wpList_box_at rfl rfl (by (try simp only [Act.eval, Array.getD_eq_getD_getElem?, List.getElem?_toArray, List.getElem?_cons_succ, List.getElem?_cons_zero, Option.getD_some]) <;> exact rfl) (by exact rfl) hA ?_; intro b1 w1 hB hb1; clear hF hA; have hA := hB; clear hB; (try simp only [setL, List.set_cons_zero, List.set_cons_succ, List.cons_append, List.nil_append] at hA); (have hF := hA.facts); (try simp only [facts_cons, facts_nil, facts_cells, facts_old, facts_fact, facts_obj, facts_map, facts_iter, and_true, true_and] at hF)))
  have hA := open1 hA (by with_reducible repeat (first | exact Sel.here | apply Sel.there))
  simp only [Ses.cells] at hA
  (try simp only [setL, List.set_cons_zero, List.set_cons_succ, List.cons_append, List.nil_append] at hA); (have hF := hA.facts); (try simp only [facts_cons, facts_nil, facts_cells, facts_old, facts_fact, facts_obj, facts_map, facts_iter, and_true, true_and] at hF)
  have hl : ∀ q, (Instr.lookup 68 (.map (some m)) (.agg #[.int .u64 n, .string f]) false).run Try.prog (w1.drewN q) = .ok s.ptr (w1.drewN q) := fun q =>
    MapAt.look_some (w := w1.drewN q) ((hA.drewN q).get (A := mapC m (ents (l1 ++ s :: l2))) (by with_reducible repeat (first | exact Sel.here | apply Sel.there))) lawS Try.underlying68 hk hmem.out false
  unfold Ses.ptr at hl
  go_quiet (fail)
  have hA := hA.drewN nq; generalize World.drewN _ nq = w1 at *; clear hF; (try simp only [setL, List.set_cons_zero, List.set_cons_succ, List.cons_append, List.nil_append] at hA); (have hF := hA.facts); (try simp only [facts_cons, facts_nil, facts_cells, facts_old, facts_fact, facts_obj, facts_map, facts_iter, and_true, true_and] at hF)
  go_wp2_with (first | (refine wpList_store_at rfl rfl rfl (by (try simp only [Act.eval, Array.getD_eq_getD_getElem?, List.getElem?_toArray, List.getElem?_cons_succ, List.getElem?_cons_zero, Option.getD_some]) <;> exact rfl) (by exact rfl) hA (by with_reducible repeat (first | exact Sel.here | apply Sel.there)) (by kernel_rfl) rfl (by first | decide | (simp; done) | omega) ?_; intro w1 hB; clear hF hA; have hA := hB; clear hB; (try simp only [setL, List.set_cons_zero, List.set_cons_succ, List.cons_append, List.nil_append] at hA); (have hF := hA.facts); (try simp only [facts_cons, facts_nil, facts_cells, facts_old, facts_fact, facts_obj, facts_map, facts_iter, and_true, true_and] at hF)) | (refine wpList_box_at rfl rfl (by (try simp only [Act.eval, Array.getD_eq_getD_getElem?, List.getElem?_toArray, List.getElem?_cons_succ, List.getElem?_cons_zero, Option.getD_some]) <;> exact rfl) (by exact rfl) hA ?_; intro b1 w1 hB hb1; clear hF hA; have hA := hB; clear hB; (try simp only [setL, List.set_cons_zero, List.set_cons_succ, List.cons_append, List.nil_append] at hA); (have hF := hA.facts); (try simp only [facts_cons, facts_nil, facts_cells, facts_old, facts_fact, facts_obj, facts_map, facts_iter, and_true, true_and] at hF)))
  have hd : s.dl < endI time s.ttl ∨ ¬ s.dl < endI time s.ttl := by omega
  have e2 : ents (l1 ++ s :: l2) = ents (l1 ++ s.kept time :: l2) := by simp [ents, ent, Ses.key, Ses.ptr, Ses.kept]
  have e2' := Lib.hid e2
  clear e2
  rcases hd with hd | hd
  · have hkc : s.kept time = { s with dl := endI time s.ttl } := by unfold Ses.kept; rw [if_pos hd]
    have hkc' := Lib.hid hkc
    clear hkc
    (refine wp_region_head 14 (fun w' => ∃ n, w' = World.drewN _ n) (by kernel_rfl) (by kernel_rfl) ⟨1, rfl⟩ ?_); (simp only [List.take_succ_cons, List.take_zero, List.drop_succ_cons, List.drop_zero]); (repeat (first | go_big_quiet_step (exact (end_any _ _ _).mono fun _ _ ⟨he, hw⟩ => ⟨he, _, hw.symm⟩) | quiet_step (exact (end_any _ _ _).mono fun _ _ ⟨he, hw⟩ => ⟨he, _, hw.symm⟩))); (refine wpQuiet_nil ?_); (rintro _ ⟨nq, rfl⟩)
    have hA := hA.drewN nq; generalize World.drewN _ nq = w1 at *; clear hF; (try simp only [setL, List.set_cons_zero, List.set_cons_succ, List.cons_append, List.nil_append] at hA); (have hF := hA.facts); (try simp only [facts_cons, facts_nil, facts_cells, facts_old, facts_fact, facts_obj, facts_map, facts_iter, and_true, true_and] at hF)
    go_wp2_with (first | (refine wpList_store_at rfl rfl rfl (by (try simp only [Act.eval, Array.getD_eq_getD_getElem?, List.getElem?_toArray, List.getElem?_cons_succ, List.getElem?_cons_zero, Option.getD_some]) <;> exact rfl) (by exact rfl) hA (by with_reducible repeat (first | exact Sel.here | apply Sel.there)) (by kernel_rfl) rfl (by first | decide | (simp; done) | omega) ?_; intro w1 hB; clear hF hA; have hA := hB; clear hB; (try simp only [setL, List.set_cons_zero, List.set_cons_succ, List.cons_append, List.nil_append] at hA); (have hF := hA.facts); (try simp only [facts_cons, facts_nil, facts_cells, facts_old, facts_fact, facts_obj, facts_map, facts_iter, and_true, true_and] at hF)) | (refine wpList_box_at rfl rfl (by (try simp only [Act.eval, Array.getD_eq_getD_getElem?, List.getElem?_toArray, List.getElem?_cons_succ, List.getElem?_cons_zero, Option.getD_some]) <;> exact rfl) (by exact rfl) hA ?_; intro b1 w1 hB hb1; clear hF hA; have hA := hB; clear hB; (try simp only [setL, List.set_cons_zero, List.set_cons_succ, List.cons_append, List.nil_append] at hA); (have hF := hA.facts); (try simp only [facts_cons, facts_nil, facts_cells, facts_old, facts_fact, facts_obj, facts_map, facts_iter, and_true, true_and] at hF)))
    go_ret
    refine ⟨rfl, ?_⟩
    rw [e2'.out, hkc'.out] at hA
    rw [hkc'.out]
    exact close1 (m := m) (s := { s with dl := endI time s.ttl }) hA (by with_reducible repeat (first | exact Sel.here | apply Sel.there)) (by repeat (first | exact Sel.here | apply Sel.there)) (by repeat (first | exact Sel.here | apply Sel.there)) (by repeat (first | exact Sel.here | apply Sel.there)) (by repeat (first | exact Sel.here | apply Sel.there))
  · have hkc : s.kept time = s := by unfold Ses.kept; rw [if_neg hd]
    have hd' : endI time s.ttl ≤ s.dl := by omega
    have hkc' := Lib.hid hkc
    clear hkc
    (refine wp_region_head 14 (fun w' => ∃ n, w' = World.drewN _ n) (by kernel_rfl) (by kernel_rfl) ⟨1, rfl⟩ ?_); (simp only [List.take_succ_cons, List.take_zero, List.drop_succ_cons, List.drop_zero]); (repeat (first | go_big_quiet_step (exact (end_any _ _ _).mono fun _ _ ⟨he, hw⟩ => ⟨he, _, hw.symm⟩) | quiet_step (exact (end_any _ _ _).mono fun _ _ ⟨he, hw⟩ => ⟨he, _, hw.symm⟩))); (refine wpQuiet_nil ?_); (rintro _ ⟨nq, rfl⟩)
    have hA := hA.drewN nq; generalize World.drewN _ nq = w1 at *; clear hF; (try simp only [setL, List.set_cons_zero, List.set_cons_succ, List.cons_append, List.nil_append] at hA); (have hF := hA.facts); (try simp only [facts_cons, facts_nil, facts_cells, facts_old, facts_fact, facts_obj, facts_map, facts_iter, and_true, true_and] at hF)
    go_wp2_with (first | (refine wpList_store_at rfl rfl rfl (by (try simp only [Act.eval, Array.getD_eq_getD_getElem?, List.getElem?_toArray, List.getElem?_cons_succ, List.getElem?_cons_zero, Option.getD_some]) <;> exact rfl) (by exact rfl) hA (by with_reducible repeat (first | exact Sel.here | apply Sel.there)) (by kernel_rfl) rfl (by first | decide | (simp; done) | omega) ?_; intro w1 hB; clear hF hA; have hA := hB; clear hB; (try simp only [setL, List.set_cons_zero, List.set_cons_succ, List.cons_append, List.nil_append] at hA); (have hF := hA.facts); (try simp only [facts_cons, facts_nil, facts_cells, facts_old, facts_fact, facts_obj, facts_map, facts_iter, and_true, true_and] at hF)) | (refine wpList_box_at rfl rfl (by (try simp only [Act.eval, Array.getD_eq_getD_getElem?, List.getElem?_toArray, List.getElem?_cons_succ, List.getElem?_cons_zero, Option.getD_some]) <;> exact rfl) (by exact rfl) hA ?_; intro b1 w1 hB hb1; clear hF hA; have hA := hB; clear hB; (try simp only [setL, List.set_cons_zero, List.set_cons_succ, List.cons_append, List.nil_append] at hA); (have hF := hA.facts); (try simp only [facts_cons, facts_nil, facts_cells, facts_old, facts_fact, facts_obj, facts_map, facts_iter, and_true, true_and] at hF)))
    go_ret
    refine ⟨rfl, ?_⟩
    rw [e2'.out, hkc'.out] at hA
    rw [hkc'.out]
    exact close1 (m := m) (s := s) hA (by with_reducible repeat (first | exact Sel.here | apply Sel.there)) (by repeat (first | exact Sel.here | apply Sel.there)) (by repeat (first | exact Sel.here | apply Sel.there)) (by repeat (first | exact Sel.here | apply Sel.there)) (by repeat (first | exact Sel.here | apply Sel.there))
end Go.Proofs.Ytbdcgadcjgmgbaa.Lease
