/- The walks of a book: nothing is due where nothing is open. -/
import Derived.Test.YticmopnbfpgaiaaLeaseW9
import Derived.Test.YticmopnbfpgaiaaShelf
namespace Go.Proofs.Yticmopnbfpgaiaa.Lease
open Go.RowKit
open Go.Maps (Keyed)
set_option linter.unusedSimpArgs false
set_option linter.unusedVariables false

set_option maxRecDepth 100000 in
theorem ins_nil (fv : Value) (w : World) : Calls Try.prog 149 #[.slice none 0 0, .int .i64 0, .int .i64 0, fv] w fun e w' => e = .returned (.tuple #[]) ∧ w = w' := by
  go_enter Try.func149, Try.ntmps149
  go_wp2_with fail
  refine wp_loop_rounds 1 ?_
  rw [rounds_succ]
  go_wp2_with fail
  go_end0
  exact ⟨rfl, rfl⟩
set_option maxRecDepth 100000 in
theorem pdq_nil (fv : Value) (w : World) (k : Int) : Calls Try.prog 128 #[.slice none 0 0, .int .i64 0, .int .i64 0, .int .i64 k, fv] w fun e w' => e = .returned (.tuple #[]) ∧ w = w' := by
  go_enter Try.func128, Try.ntmps128
  go_wp2_with fail
  refine wp_loop_rounds 1 ?_
  rw [rounds_succ]
  go_wp2_with fail
  refine (ins_nil _ _).mono ?_
  rintro e _ ⟨rfl, rfl⟩
  go_wp2_with fail
  refine bodyPost_ret (results_none rfl _ _ _) rfl ?_
  exact ⟨rfl, rfl⟩
set_option maxRecDepth 100000 in
theorem sortFunc_nil (fv : Value) (w : World) : Calls Try.prog 105 #[.slice none 0 0, fv] w fun e w' => e = .returned (.tuple #[]) ∧ w = w' := by
  go_enter Try.func105, Try.ntmps105
  go_wp2_with fail
  refine (Try.bits_Len 0 _ (by omega) (by omega)).mono ?_
  rintro e _ ⟨rfl, rfl⟩
  go_wp2_with fail
  refine (pdq_nil _ _ _).mono ?_
  rintro e _ ⟨rfl, rfl⟩
  go_wp2_with fail
  go_end0
  exact ⟨rfl, rfl⟩
theorem sorted_nil (w : World) : Calls Try.prog 71 #[.slice none 0 0] w fun e w' => e = .returned (.slice none 0 0) ∧ w = w' := by
  go_enter Try.func71, Try.ntmps71
  go_wp2_with fail
  refine (sortFunc_nil _ _).mono ?_
  rintro e _ ⟨rfl, rfl⟩
  go_wp2_with fail
  go_ret
  exact ⟨rfl, rfl⟩

def DueRel (p m r : Nat) (ss : List Ses) (w : World) (k : Nat) (v : Value) (wr : World) : Prop :=
  ∃ ds : List Ses, At [BookP p m ss] w [Part.iter Try.prog 29 r m (ents ss) (ents ds), headC p m, restP ss] wr ∧ v = .slice none 0 0 ∧ ds.length + k = ss.length
set_option maxRecDepth 100000 in
theorem due_closed {w : World} {p m : Nat} {ss : List Ses} (h : Sep [BookP p m ss] w) (time : Int) (ho : ∀ s ∈ ss, s.op = false) :
    Calls Try.prog 23 #[.pointer (some ⟨p, 0, none⟩), .int .i64 time] w fun e w' => e = .returned (.slice none 0 0) ∧ At [BookP p m ss] w [BookP p m ss] w' := by
  have hA := begin0 h
  have hF := hA.facts
  (try simp only [setL, List.set_cons_zero, List.set_cons_succ, List.cons_append, List.nil_append] at hA); (have hF := hA.facts); (try simp only [facts_cons, facts_nil, facts_cells, facts_old, facts_fact, facts_obj, facts_map, facts_iter, and_true, true_and] at hF)
  clear h
  have ho' := Lib.hid ho
  clear ho
  go_enter Try.func23, Try.ntmps23
  go_wp2_with (first | (refine wpList_store_at rfl rfl rfl (by (try simp only [Act.eval, Array.getD_eq_getD_getElem?, List.getElem?_toArray, List.getElem?_cons_succ, List.getElem?_cons_zero, Option.getD_some]) <;> exact rfl) (by exact rfl) hA (by with_reducible repeat (first | exact Sel.here | apply Sel.there)) (by kernel_rfl) rfl (by first | decide | (simp; done) | omega) ?_; intro w1 hB; clear hF hA; have hA := hB; clear hB; (try simp only [setL, List.set_cons_zero, List.set_cons_succ, List.cons_append, List.nil_append] at hA); (have hF := hA.facts); (try simp only [facts_cons, facts_nil, facts_cells, facts_old, facts_fact, facts_obj, facts_map, facts_iter, and_true, true_and] at hF)) | (refine wpList_box_at rfl rfl (by (try simp only [Act.eval, Array.getD_eq_getD_getElem?, List.getElem?_toArray, List.getElem?_cons_succ, List.getElem?_cons_zero, Option.getD_some]) <;> exact rfl) (by exact rfl) hA ?_; intro b1 w1 hB hb1; clear hF hA; have hA := hB; clear hB; (try simp only [setL, List.set_cons_zero, List.set_cons_succ, List.cons_append, List.nil_append] at hA); (have hF := hA.facts); (try simp only [facts_cons, facts_nil, facts_cells, facts_old, facts_fact, facts_obj, facts_map, facts_iter, and_true, true_and] at hF)) | (refine wpList_range_at rfl rfl rfl hA (by with_reducible repeat (first | exact Sel.here | apply Sel.there)) Try.underlying132 ?_; intro r w1 hB hr; clear hF hA; have hA := hB; clear hB; (try simp only [setL, List.set_cons_zero, List.set_cons_succ, List.cons_append, List.nil_append] at hA); (have hF := hA.facts); (try simp only [facts_cons, facts_nil, facts_cells, facts_old, facts_fact, facts_obj, facts_map, facts_iter, and_true, true_and] at hF)))
  go_frame
  go_loopg [5] ss.length (DueRel p m r ss w)
  case atStart => exact ⟨[], hA, rfl, by simp⟩
  case round =>
    obtain ⟨ds, hA2, rfl, hk⟩ := hrel
    clear hF hA
    have hA := hA2
    clear hA2
    (try simp only [setL, List.set_cons_zero, List.set_cons_succ, List.cons_append, List.nil_append] at hA); (have hF := hA.facts); (try simp only [facts_cons, facts_nil, facts_cells, facts_old, facts_fact, facts_obj, facts_map, facts_iter, and_true, true_and] at hF)
    go_step
    go_step
    refine wpList_next_at rfl rfl rfl hA (by with_reducible repeat (first | exact Sel.here | apply Sel.there)) (fun hp => ?_) (fun q w1 hq hd hB => ?_)
    · have hM := At.ranged hA (by with_reducible repeat (first | exact Sel.here | apply Sel.there))
      go_wp2_with fail
      refine (sorted_nil _).mono ?_
      rintro e _ ⟨rfl, rfl⟩
      go_wp2_with fail
      go_ret
      exact ⟨rfl, close0 (m := m) (ss := ss) hM (by with_reducible repeat (first | exact Sel.here | apply Sel.there)) (by with_reducible repeat (first | exact Sel.here | apply Sel.there)) (by with_reducible repeat (first | exact Sel.here | apply Sel.there))⟩
    · obtain ⟨s, hs, rfl⟩ := List.mem_map.1 hq
      have hI : IterAt Try.prog 29 w1 r m (ents ss) (ents ds ++ [ent s]) := hB.get (A := Part.iter _ _ r m (ents ss) (ents ds ++ [ent s])) (by with_reducible repeat (first | exact Sel.here | apply Sel.there))
      have hen := hI.entry
      have hlen : (ds ++ [s]).length ≤ ss.length := by have := hI.len; simpa [ents] using this
      rw [ents_snoc] at hB
      obtain ⟨l1, l2, e⟩ := List.append_of_mem hs
      have he := Lib.hid e
      have hso := ho'.out s hs
      clear hF hA
      have hA := out' e hB (by with_reducible repeat (first | exact Sel.here | apply Sel.there))
      have hk' := Lib.hid hk
      simp only [List.length_append, List.length_cons, List.length_nil, Nat.zero_add] at hlen
      clear hI e hB hk hq hd
      simp only [Ses.cells] at hA
      (try simp only [setL, List.set_cons_zero, List.set_cons_succ, List.cons_append, List.nil_append] at hA); (have hF := hA.facts); (try simp only [facts_cons, facts_nil, facts_cells, facts_old, facts_fact, facts_obj, facts_map, facts_iter, and_true, true_and] at hF)
      simp only [ent, Ses.key, keyV, Ses.ptr] at hen
      go_wp2_with (first | (refine wpList_store_at rfl rfl rfl (by (try simp only [Act.eval, Array.getD_eq_getD_getElem?, List.getElem?_toArray, List.getElem?_cons_succ, List.getElem?_cons_zero, Option.getD_some]) <;> exact rfl) (by exact rfl) hA (by with_reducible repeat (first | exact Sel.here | apply Sel.there)) (by kernel_rfl) rfl (by first | decide | (simp; done) | omega) ?_; intro w1 hB; clear hF hA; have hA := hB; clear hB; (try simp only [setL, List.set_cons_zero, List.set_cons_succ, List.cons_append, List.nil_append] at hA); (have hF := hA.facts); (try simp only [facts_cons, facts_nil, facts_cells, facts_old, facts_fact, facts_obj, facts_map, facts_iter, and_true, true_and] at hF)) | (refine wpList_box_at rfl rfl (by (try simp only [Act.eval, Array.getD_eq_getD_getElem?, List.getElem?_toArray, List.getElem?_cons_succ, List.getElem?_cons_zero, Option.getD_some]) <;> exact rfl) (by exact rfl) hA ?_; intro b1 w1 hB hb1; clear hF hA; have hA := hB; clear hB; (try simp only [setL, List.set_cons_zero, List.set_cons_succ, List.cons_append, List.nil_append] at hA); (have hF := hA.facts); (try simp only [facts_cons, facts_nil, facts_cells, facts_old, facts_fact, facts_obj, facts_map, facts_iter, and_true, true_and] at hF)) | (refine wpList_alloc_at (E := 29) (z := .agg #[.int .u64 0, .string .empty]) (vs := [.int .u64 0, .string .empty]) rfl rfl (by kernel_rfl) rfl hA ?_; intro b1 w1 hB hb1; clear hF hA; have hA := hB; clear hB; (try simp only [setL, List.set_cons_zero, List.set_cons_succ, List.cons_append, List.nil_append] at hA); (have hF := hA.facts); (try simp only [facts_cons, facts_nil, facts_cells, facts_old, facts_fact, facts_obj, facts_map, facts_iter, and_true, true_and] at hF)))
      go_roundg (gk - 1)
      case measure => have := hk'.out; omega
      case rel => exact ⟨ds ++ [s], (in' he.out hA (by repeat (first | exact Sel.here | apply Sel.there)) (by with_reducible repeat (first | exact Sel.here | apply Sel.there)) (by with_reducible repeat (first | exact Sel.here | apply Sel.there))).only3 (by with_reducible repeat (first | exact Sel.here | apply Sel.there)) (by with_reducible repeat (first | exact Sel.here | apply Sel.there)) (by with_reducible repeat (first | exact Sel.here | apply Sel.there)), rfl, by have := hk'.out; simp; omega⟩
end Go.Proofs.Yticmopnbfpgaiaa.Lease
