/- LockK, CollM, MarkC, LockS, joined. -/
import Derived.Test.YtalfoiodejoicaaGreatDoorJ13
import Derived.RangeFuncNested
import Derived.RangeFuncBound
import Derived.RangeFuncCalls
import Derived.RangeFuncLeaves
import Derived.Shelf.Abstract
import Derived.WalkKit
import Derived.OwnWalkIn
import Derived.TacticsInMore
import Derived.LoopNIn
import Derived.LoopIn
import Derived.Maps.AppendAt
import Derived.Test.YtalfoiodejoicaaGreatDoorJ3
import Derived.Test.YtalfoiodejoicaaGreatDoorChecked
import Derived.Test.YtalfoiodejoicaaGreatDoorShelf
import Derived.Test.YtalfoiodejoicaaGreatDoorSort
import Derived.Deep.QuietTactic
import Derived.BigQuiet
import Derived.Deep.Cut
import Derived.WalkLawsBesides
import Derived.Test.YtalfoiodejoicaaGreatDoorJ9
section
namespace Go.Proofs.YtalfoiodejoicaaGreatDoor.Lock
open Go.RowKit
open Go.Maps (Keyed)
open Path (bl rightB overB)
set_option linter.unusedSimpArgs false
set_option linter.unusedVariables false
attribute [-go_sem] run_eql_struct run_neq_struct run_eqGuard_agg
theorem eqlE6 (p1 f1 p2 f2 : ByteArray) (n1 m1 k1 s1 n2 m2 k2 s2 : Int) (w : World) : (binOp .eql 115 (.agg #[.string p1, .int .u64 n1, .string f1, .int .i64 m1, .int .u64 k1, .int .i64 s1]) (.agg #[.string p2, .int .u64 n2, .string f2, .int .i64 m2, .int .u64 k2, .int .i64 s2])).run Tryz.prog w = .ok (.bool (decide ((⟨p1, n1, f1, m1, k1, s1⟩ : Ent) = ⟨p2, n2, f2, m2, k2, s2⟩))) w := eqlE ⟨p1, n1, f1, m1, k1, s1⟩ ⟨p2, n2, f2, m2, k2, s2⟩ w
attribute [local go_sem] guardE eqlE6

/-- is an entry granted? -/
def grantedB (es : List Ent) (e : Ent) : Bool := decide (find es e.path e.num e.foot = some e) && clearB es e
section
variable {w : World} {b : Bk} {e : Ent}
set_option maxRecDepth 100000 in
set_option maxHeartbeats 2000000 in
theorem granted_any (h : Sep [BookP b] w) (hp : e.path.size ≤ 1000000) (h0 : 0 ≤ e.num) (h1 : e.num < big64) (hf : e.foot.size ≤ maxLen) (hok : ∀ x ∈ b.es, x.path.size ≤ 1000000) :
    Calls Tryz.prog 51 #[.pointer (some ⟨b.p, 0, none⟩), e.val] w fun o w' => o = .returned (.bool (grantedB b.es e)) ∧ At [BookP b] w [BookP b] w' := by
  have hA := At.start h
  have hF := hA.facts
  have hpm : e.path.size ≤ maxLen := by unfold maxLen; omega
  have hcl := fun (w1 : World) (q : Sep [BookP b] w1) => clear_any q e hp hok
  unfold grantedB
  generalize clearB b.es e = c at *
  cases hfi : find b.es e.path e.num e.foot with
  | none =>
    have hfn := fun (w1 : World) (q : Sep [BookP b] w1) => find_no q hpm h0 h1 hf hfi
    clear h hfi hok
    obtain ⟨p1, n1, f1, m1, k1, s1⟩ := e
    simp only [Ent.val] at *
    (try simp only [setL, List.set_cons_zero, List.set_cons_succ, List.cons_append, List.nil_append] at hA); (have hF := hA.facts); (try simp only [facts_cons, facts_nil, facts_cells, facts_old, facts_fact, facts_obj, facts_map, facts_iter, and_true, true_and] at hF)
    go_enter Tryz.func51, Tryz.ntmps51
    go_wp2_with (first | ((with_reducible show wpList _ _ _ ({ dst := _, op := Op.box _ _, type := _, pos := _, after := _, guard := _ } :: _) _ _); refine wpList_box_at (E := 115) rfl rfl (by (try simp only [Act.eval, Array.getD_eq_getD_getElem?, List.getElem?_toArray, List.getElem?_cons_succ, List.getElem?_cons_zero, Option.getD_some]) <;> exact rfl) (by exact rfl) hA ?_; intro bX w1 hB hbX; clear hF hA; have hA := hB; clear hB; (try simp only [setL, List.set_cons_zero, List.set_cons_succ, List.cons_append, List.nil_append] at hA); (have hF := hA.facts); (try simp only [facts_cons, facts_nil, facts_cells, facts_old, facts_fact, facts_obj, facts_map, facts_iter, and_true, true_and] at hF)) | ((with_reducible show wpList _ _ _ ({ dst := _, op := Op.alloc _, type := _, pos := _, after := _, guard := _ } :: _) _ _); refine wpList_alloc_at (E := 115) (z := .agg #[.string .empty, .int .u64 0, .string .empty, .int .i64 0, .int .u64 0, .int .i64 0]) (vs := [.string .empty, .int .u64 0, .string .empty, .int .i64 0, .int .u64 0, .int .i64 0]) rfl rfl (by kernel_rfl) rfl hA ?_; intro bE w1 hB hbE; clear hF hA; have hA := hB; clear hB; (try simp only [setL, List.set_cons_zero, List.set_cons_succ, List.cons_append, List.nil_append] at hA); (have hF := hA.facts); (try simp only [facts_cons, facts_nil, facts_cells, facts_old, facts_fact, facts_obj, facts_map, facts_iter, and_true, true_and] at hF)) | ((with_reducible show wpList _ _ _ ({ dst := _, op := Op.store _ _ _, type := _, pos := _, after := _, guard := _ } :: _) _ _); refine wpList_store_at rfl rfl rfl (by (try simp only [Act.eval, Array.getD_eq_getD_getElem?, List.getElem?_toArray, List.getElem?_cons_succ, List.getElem?_cons_zero, Option.getD_some]) <;> exact rfl) (by exact rfl) hA (by with_reducible repeat (first | exact Sel.here | apply Sel.there)) (by kernel_rfl) rfl (by first | decide | (simp; done) | omega) ?_; intro w1 hB; clear hF hA; have hA := hB; clear hB; (try simp only [setL, List.set_cons_zero, List.set_cons_succ, List.cons_append, List.nil_append] at hA); (have hF := hA.facts); (try simp only [facts_cons, facts_nil, facts_cells, facts_old, facts_fact, facts_obj, facts_map, facts_iter, and_true, true_and] at hF)) | ((with_reducible show wpList _ _ _ ({ dst := _, op := Op.box _ _, type := _, pos := _, after := _, guard := _ } :: _) _ _); refine wpList_box_at rfl rfl (by (try simp only [Act.eval, Array.getD_eq_getD_getElem?, List.getElem?_toArray, List.getElem?_cons_succ, List.getElem?_cons_zero, Option.getD_some]) <;> exact rfl) (by exact rfl) hA ?_; intro b1 w1 hB hb1; clear hF hA; have hA := hB; clear hB; (try simp only [setL, List.set_cons_zero, List.set_cons_succ, List.cons_append, List.nil_append] at hA); (have hF := hA.facts); (try simp only [facts_cons, facts_nil, facts_cells, facts_old, facts_fact, facts_obj, facts_map, facts_iter, and_true, true_and] at hF)))
    refine (hfn _ (hA.sep1 (A := BookP b) (by with_reducible repeat (first | exact Sel.here | apply Sel.there)))).mono ?_
    clear hfn
    rintro e w1 ⟨rfl, hT⟩; have hB := hA.call1 (by with_reducible repeat (first | exact Sel.here | apply Sel.there)) hT; clear hF hA hT; have hA := hB; clear hB; (try simp only [setL, List.set_cons_zero, List.set_cons_succ, List.cons_append, List.nil_append] at hA); (have hF := hA.facts); (try simp only [facts_cons, facts_nil, facts_cells, facts_old, facts_fact, facts_obj, facts_map, facts_iter, and_true, true_and] at hF)
    go_wp2_with (first | ((with_reducible show wpList _ _ _ ({ dst := _, op := Op.alloc _, type := _, pos := _, after := _, guard := _ } :: _) _ _); refine wpList_alloc_at (E := 115) (z := .agg #[.string .empty, .int .u64 0, .string .empty, .int .i64 0, .int .u64 0, .int .i64 0]) (vs := [.string .empty, .int .u64 0, .string .empty, .int .i64 0, .int .u64 0, .int .i64 0]) rfl rfl (by kernel_rfl) rfl hA ?_; intro bE w1 hB hbE; clear hF hA; have hA := hB; clear hB; (try simp only [setL, List.set_cons_zero, List.set_cons_succ, List.cons_append, List.nil_append] at hA); (have hF := hA.facts); (try simp only [facts_cons, facts_nil, facts_cells, facts_old, facts_fact, facts_obj, facts_map, facts_iter, and_true, true_and] at hF)) | ((with_reducible show wpList _ _ _ ({ dst := _, op := Op.store _ _ _, type := _, pos := _, after := _, guard := _ } :: _) _ _); refine wpList_store_at rfl rfl rfl (by (try simp only [Act.eval, Array.getD_eq_getD_getElem?, List.getElem?_toArray, List.getElem?_cons_succ, List.getElem?_cons_zero, Option.getD_some]) <;> exact rfl) (by exact rfl) hA (by with_reducible repeat (first | exact Sel.here | apply Sel.there)) (by kernel_rfl) rfl (by first | decide | (simp; done) | omega) ?_; intro w1 hB; clear hF hA; have hA := hB; clear hB; (try simp only [setL, List.set_cons_zero, List.set_cons_succ, List.cons_append, List.nil_append] at hA); (have hF := hA.facts); (try simp only [facts_cons, facts_nil, facts_cells, facts_old, facts_fact, facts_obj, facts_map, facts_iter, and_true, true_and] at hF)) | ((with_reducible show wpList _ _ _ ({ dst := _, op := Op.box _ _, type := _, pos := _, after := _, guard := _ } :: _) _ _); refine wpList_box_at rfl rfl (by (try simp only [Act.eval, Array.getD_eq_getD_getElem?, List.getElem?_toArray, List.getElem?_cons_succ, List.getElem?_cons_zero, Option.getD_some]) <;> exact rfl) (by exact rfl) hA ?_; intro b1 w1 hB hb1; clear hF hA; have hA := hB; clear hB; (try simp only [setL, List.set_cons_zero, List.set_cons_succ, List.cons_append, List.nil_append] at hA); (have hF := hA.facts); (try simp only [facts_cons, facts_nil, facts_cells, facts_old, facts_fact, facts_obj, facts_map, facts_iter, and_true, true_and] at hF)))
    go_ret
    exact ⟨rfl, hA.only1 (by with_reducible repeat (first | exact Sel.here | apply Sel.there))⟩
  | some x =>
    have hfn := fun (w1 : World) (q : Sep [BookP b] w1) => find_yes q hpm h0 h1 hf hfi
    have hxe : (some x = some e) = (x = e) := by simp
    simp only [hxe]
    clear h hfi hok hxe
    obtain ⟨p1, n1, f1, m1, k1, s1⟩ := e
    obtain ⟨p2, n2, f2, m2, k2, s2⟩ := x
    simp only [Ent.val] at *
    obtain ⟨d, hd⟩ : ∃ d, decide ((⟨p2, n2, f2, m2, k2, s2⟩ : Ent) = ⟨p1, n1, f1, m1, k1, s1⟩) = d := ⟨_, rfl⟩
    have eq6 : ∀ w, (binOp .eql 115 (.agg #[.string p2, .int .u64 n2, .string f2, .int .i64 m2, .int .u64 k2, .int .i64 s2]) (.agg #[.string p1, .int .u64 n1, .string f1, .int .i64 m1, .int .u64 k1, .int .i64 s1])).run Tryz.prog w = .ok (.bool d) w := fun w => by rw [eqlE6, hd]
    rw [hd]
    clear hd
    (try simp only [setL, List.set_cons_zero, List.set_cons_succ, List.cons_append, List.nil_append] at hA); (have hF := hA.facts); (try simp only [facts_cons, facts_nil, facts_cells, facts_old, facts_fact, facts_obj, facts_map, facts_iter, and_true, true_and] at hF)
    go_enter Tryz.func51, Tryz.ntmps51
    go_wp2_with (first | ((with_reducible show wpList _ _ _ ({ dst := _, op := Op.box _ _, type := _, pos := _, after := _, guard := _ } :: _) _ _); refine wpList_box_at (E := 115) rfl rfl (by (try simp only [Act.eval, Array.getD_eq_getD_getElem?, List.getElem?_toArray, List.getElem?_cons_succ, List.getElem?_cons_zero, Option.getD_some]) <;> exact rfl) (by exact rfl) hA ?_; intro bX w1 hB hbX; clear hF hA; have hA := hB; clear hB; (try simp only [setL, List.set_cons_zero, List.set_cons_succ, List.cons_append, List.nil_append] at hA); (have hF := hA.facts); (try simp only [facts_cons, facts_nil, facts_cells, facts_old, facts_fact, facts_obj, facts_map, facts_iter, and_true, true_and] at hF)) | ((with_reducible show wpList _ _ _ ({ dst := _, op := Op.store _ _ _, type := _, pos := _, after := _, guard := _ } :: _) _ _); refine wpList_store_at rfl rfl rfl (by (try simp only [Act.eval, Array.getD_eq_getD_getElem?, List.getElem?_toArray, List.getElem?_cons_succ, List.getElem?_cons_zero, Option.getD_some]) <;> exact rfl) (by exact rfl) hA (by with_reducible repeat (first | exact Sel.here | apply Sel.there)) (by kernel_rfl) rfl (by first | decide | (simp; done) | omega) ?_; intro w1 hB; clear hF hA; have hA := hB; clear hB; (try simp only [setL, List.set_cons_zero, List.set_cons_succ, List.cons_append, List.nil_append] at hA); (have hF := hA.facts); (try simp only [facts_cons, facts_nil, facts_cells, facts_old, facts_fact, facts_obj, facts_map, facts_iter, and_true, true_and] at hF)) | ((with_reducible show wpList _ _ _ ({ dst := _, op := Op.box _ _, type := _, pos := _, after := _, guard := _ } :: _) _ _); refine wpList_box_at rfl rfl (by (try simp only [Act.eval, Array.getD_eq_getD_getElem?, List.getElem?_toArray, List.getElem?_cons_succ, List.getElem?_cons_zero, Option.getD_some]) <;> exact rfl) (by exact rfl) hA ?_; intro b1 w1 hB hb1; clear hF hA; have hA := hB; clear hB; (try simp only [setL, List.set_cons_zero, List.set_cons_succ, List.cons_append, List.nil_append] at hA); (have hF := hA.facts); (try simp only [facts_cons, facts_nil, facts_cells, facts_old, facts_fact, facts_obj, facts_map, facts_iter, and_true, true_and] at hF)))
    refine (hfn _ (hA.sep1 (A := BookP b) (by with_reducible repeat (first | exact Sel.here | apply Sel.there)))).mono ?_
    clear hfn
    rintro e w1 ⟨rfl, hT⟩; have hB := hA.call1 (by with_reducible repeat (first | exact Sel.here | apply Sel.there)) hT; clear hF hA hT; have hA := hB; clear hB; (try simp only [setL, List.set_cons_zero, List.set_cons_succ, List.cons_append, List.nil_append] at hA); (have hF := hA.facts); (try simp only [facts_cons, facts_nil, facts_cells, facts_old, facts_fact, facts_obj, facts_map, facts_iter, and_true, true_and] at hF)
    cases d
    · go_wp2_with (first | ((with_reducible show wpList _ _ _ ({ dst := _, op := Op.alloc _, type := _, pos := _, after := _, guard := _ } :: _) _ _); refine wpList_alloc_at (E := 115) (z := .agg #[.string .empty, .int .u64 0, .string .empty, .int .i64 0, .int .u64 0, .int .i64 0]) (vs := [.string .empty, .int .u64 0, .string .empty, .int .i64 0, .int .u64 0, .int .i64 0]) rfl rfl (by kernel_rfl) rfl hA ?_; intro bE w1 hB hbE; clear hF hA; have hA := hB; clear hB; (try simp only [setL, List.set_cons_zero, List.set_cons_succ, List.cons_append, List.nil_append] at hA); (have hF := hA.facts); (try simp only [facts_cons, facts_nil, facts_cells, facts_old, facts_fact, facts_obj, facts_map, facts_iter, and_true, true_and] at hF)) | ((with_reducible show wpList _ _ _ ({ dst := _, op := Op.store _ _ _, type := _, pos := _, after := _, guard := _ } :: _) _ _); refine wpList_store_at rfl rfl rfl (by (try simp only [Act.eval, Array.getD_eq_getD_getElem?, List.getElem?_toArray, List.getElem?_cons_succ, List.getElem?_cons_zero, Option.getD_some]) <;> exact rfl) (by exact rfl) hA (by with_reducible repeat (first | exact Sel.here | apply Sel.there)) (by kernel_rfl) rfl (by first | decide | (simp; done) | omega) ?_; intro w1 hB; clear hF hA; have hA := hB; clear hB; (try simp only [setL, List.set_cons_zero, List.set_cons_succ, List.cons_append, List.nil_append] at hA); (have hF := hA.facts); (try simp only [facts_cons, facts_nil, facts_cells, facts_old, facts_fact, facts_obj, facts_map, facts_iter, and_true, true_and] at hF)) | ((with_reducible show wpList _ _ _ ({ dst := _, op := Op.box _ _, type := _, pos := _, after := _, guard := _ } :: _) _ _); refine wpList_box_at rfl rfl (by (try simp only [Act.eval, Array.getD_eq_getD_getElem?, List.getElem?_toArray, List.getElem?_cons_succ, List.getElem?_cons_zero, Option.getD_some]) <;> exact rfl) (by exact rfl) hA ?_; intro b1 w1 hB hb1; clear hF hA; have hA := hB; clear hB; (try simp only [setL, List.set_cons_zero, List.set_cons_succ, List.cons_append, List.nil_append] at hA); (have hF := hA.facts); (try simp only [facts_cons, facts_nil, facts_cells, facts_old, facts_fact, facts_obj, facts_map, facts_iter, and_true, true_and] at hF)))
      go_ret
      exact ⟨rfl, hA.only1 (by with_reducible repeat (first | exact Sel.here | apply Sel.there))⟩
    · go_wp2_with (first | ((with_reducible show wpList _ _ _ ({ dst := _, op := Op.alloc _, type := _, pos := _, after := _, guard := _ } :: _) _ _); refine wpList_alloc_at (E := 115) (z := .agg #[.string .empty, .int .u64 0, .string .empty, .int .i64 0, .int .u64 0, .int .i64 0]) (vs := [.string .empty, .int .u64 0, .string .empty, .int .i64 0, .int .u64 0, .int .i64 0]) rfl rfl (by kernel_rfl) rfl hA ?_; intro bE w1 hB hbE; clear hF hA; have hA := hB; clear hB; (try simp only [setL, List.set_cons_zero, List.set_cons_succ, List.cons_append, List.nil_append] at hA); (have hF := hA.facts); (try simp only [facts_cons, facts_nil, facts_cells, facts_old, facts_fact, facts_obj, facts_map, facts_iter, and_true, true_and] at hF)) | ((with_reducible show wpList _ _ _ ({ dst := _, op := Op.store _ _ _, type := _, pos := _, after := _, guard := _ } :: _) _ _); refine wpList_store_at rfl rfl rfl (by (try simp only [Act.eval, Array.getD_eq_getD_getElem?, List.getElem?_toArray, List.getElem?_cons_succ, List.getElem?_cons_zero, Option.getD_some]) <;> exact rfl) (by exact rfl) hA (by with_reducible repeat (first | exact Sel.here | apply Sel.there)) (by kernel_rfl) rfl (by first | decide | (simp; done) | omega) ?_; intro w1 hB; clear hF hA; have hA := hB; clear hB; (try simp only [setL, List.set_cons_zero, List.set_cons_succ, List.cons_append, List.nil_append] at hA); (have hF := hA.facts); (try simp only [facts_cons, facts_nil, facts_cells, facts_old, facts_fact, facts_obj, facts_map, facts_iter, and_true, true_and] at hF)) | ((with_reducible show wpList _ _ _ ({ dst := _, op := Op.box _ _, type := _, pos := _, after := _, guard := _ } :: _) _ _); refine wpList_box_at rfl rfl (by (try simp only [Act.eval, Array.getD_eq_getD_getElem?, List.getElem?_toArray, List.getElem?_cons_succ, List.getElem?_cons_zero, Option.getD_some]) <;> exact rfl) (by exact rfl) hA ?_; intro b1 w1 hB hb1; clear hF hA; have hA := hB; clear hB; (try simp only [setL, List.set_cons_zero, List.set_cons_succ, List.cons_append, List.nil_append] at hA); (have hF := hA.facts); (try simp only [facts_cons, facts_nil, facts_cells, facts_old, facts_fact, facts_obj, facts_map, facts_iter, and_true, true_and] at hF)))
      refine (hcl _ (hA.sep1 (A := BookP b) (by with_reducible repeat (first | exact Sel.here | apply Sel.there)))).mono ?_
      clear hcl
      rintro e w1 ⟨rfl, hT⟩; have hB := hA.call1 (by with_reducible repeat (first | exact Sel.here | apply Sel.there)) hT; clear hF hA hT; have hA := hB; clear hB; (try simp only [setL, List.set_cons_zero, List.set_cons_succ, List.cons_append, List.nil_append] at hA); (have hF := hA.facts); (try simp only [facts_cons, facts_nil, facts_cells, facts_old, facts_fact, facts_obj, facts_map, facts_iter, and_true, true_and] at hF)
      go_wp2_with (first | ((with_reducible show wpList _ _ _ ({ dst := _, op := Op.store _ _ _, type := _, pos := _, after := _, guard := _ } :: _) _ _); refine wpList_store_at rfl rfl rfl (by (try simp only [Act.eval, Array.getD_eq_getD_getElem?, List.getElem?_toArray, List.getElem?_cons_succ, List.getElem?_cons_zero, Option.getD_some]) <;> exact rfl) (by exact rfl) hA (by with_reducible repeat (first | exact Sel.here | apply Sel.there)) (by kernel_rfl) rfl (by first | decide | (simp; done) | omega) ?_; intro w1 hB; clear hF hA; have hA := hB; clear hB; (try simp only [setL, List.set_cons_zero, List.set_cons_succ, List.cons_append, List.nil_append] at hA); (have hF := hA.facts); (try simp only [facts_cons, facts_nil, facts_cells, facts_old, facts_fact, facts_obj, facts_map, facts_iter, and_true, true_and] at hF)) | ((with_reducible show wpList _ _ _ ({ dst := _, op := Op.box _ _, type := _, pos := _, after := _, guard := _ } :: _) _ _); refine wpList_box_at rfl rfl (by (try simp only [Act.eval, Array.getD_eq_getD_getElem?, List.getElem?_toArray, List.getElem?_cons_succ, List.getElem?_cons_zero, Option.getD_some]) <;> exact rfl) (by exact rfl) hA ?_; intro b1 w1 hB hb1; clear hF hA; have hA := hB; clear hB; (try simp only [setL, List.set_cons_zero, List.set_cons_succ, List.cons_append, List.nil_append] at hA); (have hF := hA.facts); (try simp only [facts_cons, facts_nil, facts_cells, facts_old, facts_fact, facts_obj, facts_map, facts_iter, and_true, true_and] at hF)))
      go_ret
      exact ⟨rfl, hA.only1 (by with_reducible repeat (first | exact Sel.here | apply Sel.there))⟩
end
end Go.Proofs.YtalfoiodejoicaaGreatDoor.Lock
end

section
namespace Go.Proofs.YtalfoiodejoicaaGreatDoor.Mark
open Go.RowKit Go.Shelf
open Go.Maps (Keyed)
set_option linter.unusedSimpArgs false
set_option linter.unusedVariables false
attribute [local go_sem] Oper.semAt_some

/-- an instance's name, as a value -/
def idV (p : Int × Int) : Value := .agg #[.int .i64 p.1, .int .i64 p.2]
def idL (p : Int × Int) : List Value := [.int .i64 p.1, .int .i64 p.2]
def unV : Value → Int × Int
  | .agg #[.int _ a, .int _ b] => (a, b)
  | _ => (0, 0)
theorem unV_idV (p : Int × Int) : unV (idV p) = p := rfl
theorem idV_inj {p q : Int × Int} (h : idV p = idV q) : p = q := by rw [← unV_idV p, h, unV_idV]
theorem perm_of_idV {l m : List (Int × Int)} (h : (l.map idV).Perm (m.map idV)) : l.Perm m := by
  have := h.map unV
  simpa [List.map_map, Function.comp_def, unV_idV] using this

/-- how many entries of a range have come, read off the world -/
def seenOf (w : World) (r : Nat) : Nat := match w.heap[r]? with | some (.mapIter _ _ seen _) => seen.size | _ => 0
theorem seenOf_eq {P : Program} {k : TypeId} {w : World} {r b : Nat} {es done : List (Value × Value)} (h : IterAt P k w r b es done) : seenOf w r = done.length := by
  obtain ⟨_, _, ents, clock, c0, vs, hb, hr, hc, hd, _⟩ := h
  unfold seenOf
  rw [hr, ← hd]
  simp
theorem iter_walk {P : Program} {k : TypeId} {w : World} {r b : Nat} {es done : List (Value × Value)} (h : IterAt P k w r b es done) : ∃ o : Obj, w.heap[r]? = some o ∧ o.isWalk = true := by
  obtain ⟨_, _, ents, clock, c0, vs, hb, hr, _⟩ := h
  exact ⟨_, hr, rfl⟩
theorem iter_keeps {P : Program} {k : TypeId} {w w' : World} {r b : Nat} {es done : List (Value × Value)} (h : IterAt P k w r b es done) (hk : KeepsWalks w w') : IterAt P k w' r b es done := by
  have h0 := h
  obtain ⟨_, _, ents, clock, c0, vs, hb, hr, _⟩ := h0
  exact h.same ((hk.same b _ hb rfl).trans hb.symm) ((hk.same r _ hr rfl).trans hr.symm)
theorem grown_of_exc {w w' : World} {r : Nat} (h : Exc (fun q => q = r) w w') : w.grownBy w' (some r) := ⟨h.os, h.tape, h.output, h.size, fun k hk hn => h.block k hk (fun e => hn (by rw [e]))⟩
theorem grown_of_ext {w w' : World} (h : Ext w w') : w.grownBy w' none := ⟨Below.os h, Below.tape h, Below.output h, Below.size h, fun k hk _ => Below.block h k hk⟩

/-! ### slices.AppendSeq, slices.Collect -/
def Box (W : World) (B : Nat) (t : TypeId) (c : Array Value) : Prop := W.heap[B]? = some (.cells c t (0, 0))
theorem Box.own {β : Type} (B : Nat) (t : TypeId) (c : Array Value) : Own (fun (_ : β) W => Box W B t c) := fun s X Y row hs hg hrow =>
  (hg.block B (lt_of_some hs) (fun e => by obtain ⟨o, ho, hc⟩ := hrow B e.symm; rw [show X.heap[B]? = _ from hs] at ho; cases ho; cases hc)).trans hs
theorem two_new (W : World) (x y : Value) (t : TypeId) : ∀ (j : Nat) (u : Value), [x, y][j]? = some u → (W.alloc (.cells #[x, y] t)).cell? ((⟨W.heap.size, 0, none⟩ : Addr).add j) = some u := by
  intro j u h
  match j, h with
  | 0, h => simp at h; subst h; simp [Addr.add]
  | 1, h => simp at h; subst h; simp [Addr.add]
  | j + 2, h => simp at h
end Go.Proofs.YtalfoiodejoicaaGreatDoor.Mark
end

section
namespace Go.Proofs.YtalfoiodejoicaaGreatDoor.Mark
open Go.RowKit
open Go.Sort Go.Shelf
set_option linter.unusedSimpArgs false
set_option linter.unusedVariables false

def orI (a b : Int) : Int := if a = 0 then b else a
set_option maxRecDepth 100000 in
theorem or2 (a b : Int) (g : Nat) (w : World) (h0 : w.cell? ⟨g, 0, none⟩ = some (.int .i64 a)) (h1 : w.cell? ⟨g, 1, none⟩ = some (.int .i64 b)) :
    Calls Tryz.prog 37 #[.slice (some ⟨g, 0, none⟩) 2 2] w fun e w' => e = .returned (.int .i64 (orI a b)) ∧ w = w' := by
  by_cases ha : a = 0
  · subst ha
    by_cases hb : b = 0
    · subst hb
      go_enter Tryz.func37, Tryz.ntmps37
      go_wp2
      refine wp_loop_rounds 3 ?_
      rw [rounds_succ]
      go_wp2
      rw [rounds_succ]
      go_wp2
      rw [rounds_succ]
      go_wp2
      go_ret
      exact ⟨rfl, rfl⟩
    · have hb' : (b == 0) = false := by simpa using hb
      go_enter Tryz.func37, Tryz.ntmps37
      go_wp2
      refine wp_loop_rounds 2 ?_
      rw [rounds_succ]
      go_wp2
      rw [rounds_succ]
      go_wp2
      refine bodyPost_ret (results_tmp rfl _ _ _) rfl ?_
      exact ⟨rfl, rfl⟩
  · have ha' : (a == 0) = false := by simpa using ha
    have e : orI a b = a := by simp [orI, ha]
    rw [e]
    go_enter Tryz.func37, Tryz.ntmps37
    go_wp2
    refine wp_loop_rounds 1 ?_
    rw [rounds_succ]
    go_wp2
    refine bodyPost_ret (results_tmp rfl _ _ _) rfl ?_
    exact ⟨rfl, rfl⟩
def cmpID (x y : Int × Int) : Int := orI (Lib.compareInt x.1 y.1) (Lib.compareInt x.2 y.2)
theorem three_grow (W : World) (A B C : Obj) (n : Nat) : (((W.alloc A).alloc B).drewN n).alloc C = grow (W.drewN n) #[A, B, C] := by
  rw [alloc_eq_grow W, alloc_eq_grow _ B, alloc_eq_grow _ C, grow_grow]
  show grow (grow (W.drewN n) _) _ = _
  rw [grow_grow]
  rfl
theorem new_cell (X : World) (n : Nat) (h : X.heap.size = n) (cs : Array Value) (t : TypeId) (j : Nat) (v : Value) (hv : cs[j]? = some v) : (X.alloc (.cells cs t)).cell? ⟨n, j, none⟩ = some v := by
  subst h
  rw [World.cell?, World.alloc_heap_new]
  exact hv
/-! ### The order is one -/
def ltID (x y : Int × Int) : Prop := x.1 < y.1 ∨ (x.1 = y.1 ∧ x.2 < y.2)
instance (x y : Int × Int) : Decidable (ltID x y) := by unfold ltID; infer_instance
theorem cmpID_lt (x y : Int × Int) : ltOf cmpID x y = decide (ltID x y) := by
  unfold ltOf cmpID orI Lib.compareInt ltID
  by_cases h1 : x.1 < y.1
  · simp [h1]
  · by_cases h2 : y.1 < x.1
    · have : x.1 ≠ y.1 := by omega
      simp [h1, h2, this]
    · have : x.1 = y.1 := by omega
      by_cases h3 : x.2 < y.2
      · simp [this, h3]
      · by_cases h4 : y.2 < x.2 <;> simp [this, h3, h4]
theorem swoID : SWO (ltOf cmpID) where
  irrefl x := by rw [cmpID_lt]; simp [ltID]
  trans x y z h1 h2 := by rw [cmpID_lt] at *; simp only [decide_eq_true_eq, decide_eq_false_iff_not] at *; unfold ltID at *; omega
  ntrans x y z h1 h2 := by rw [cmpID_lt] at *; simp only [decide_eq_true_eq, decide_eq_false_iff_not] at *; unfold ltID at *; omega
theorem totID (x y : Int × Int) (h1 : ltOf cmpID x y = false) (h2 : ltOf cmpID y x = false) : x = y := by
  rw [cmpID_lt] at *
  simp only [decide_eq_true_eq, decide_eq_false_iff_not] at *
  obtain ⟨a, b⟩ := x
  obtain ⟨c, d⟩ := y
  unfold ltID at *
  simp only [Prod.mk.injEq]
  simp only at h1 h2
  omega
/-- names, sorted -/
def sortID (l : List (Int × Int)) : List (Int × Int) := l.mergeSort fun x y => !ltOf cmpID y x
end Go.Proofs.YtalfoiodejoicaaGreatDoor.Mark
end

section
namespace Go.Proofs.YtalfoiodejoicaaGreatDoor.Lock
open Go.Sort Go.Shelf
open Go.Lib (compareBytes compareInt)
open _root_.Go.Proofs.YtalfoiodejoicaaGreatDoor.Mark (orI)
open Path (bl rightB overB splits cmpL cmpP)
set_option linter.unusedSimpArgs false
set_option linter.unusedVariables false

def keyL (e : Ent) : List Path.Bs := splits (bl e.path)
/-- one stands ahead of another one -/
def ltE (x y : Ent) : Prop := cmpL (keyL x) (keyL y) < 0 ∨ (keyL x = keyL y ∧ x.stamp < y.stamp)
instance (x y : Ent) : Decidable (ltE x y) := by unfold ltE; infer_instance
def cmpE (x y : Ent) : Int := orI (cmpP (bl x.path) (bl y.path)) (compareInt x.stamp y.stamp)
theorem bl_inj {a b : ByteArray} (h : bl a = bl b) : a = b := by
  unfold bl at h
  have : a.data = b.data := by rw [← Array.toList_inj]; exact h
  cases a; cases b; simp_all
theorem key_path {x y : Ent} (h : keyL x = keyL y) : x.path = y.path := bl_inj (Path.splits_inj h)
theorem cmpE_lt {x y : Ent} (hx : rightB (bl x.path) = true) (hy : rightB (bl y.path) = true) : decide (cmpE x y < 0) = decide (ltE x y) := by
  have hcp : cmpP (bl x.path) (bl y.path) = cmpL (splits (bl x.path)) (splits (bl y.path)) := by simp [cmpP, hx, hy]
  unfold cmpE orI compareInt ltE
  rw [hcp]
  show _ = decide (cmpL (splits (bl x.path)) (splits (bl y.path)) < 0 ∨ (splits (bl x.path) = splits (bl y.path) ∧ x.stamp < y.stamp))
  generalize hp : splits (bl x.path) = p
  generalize hq : splits (bl y.path) = q
  by_cases h0 : cmpL p q = 0
  · have e := Path.cl_eq h0
    subst e
    rw [Path.cl_self]
    by_cases h1 : x.stamp < y.stamp
    · simp [h1]
    · by_cases h2 : y.stamp < x.stamp <;> simp [h1, h2]
  · have hne : p ≠ q := fun e => h0 (by rw [e]; exact Path.cl_self q)
    simp [h0, hne]
theorem ltE_irrefl (x : Ent) : ¬ ltE x x := by
  unfold ltE
  rw [Path.cl_self]
  omega
theorem ltE_trans {x y z : Ent} (h1 : ltE x y) (h2 : ltE y z) : ltE x z := by
  unfold ltE at *
  rcases h1 with h1 | ⟨h1, h1'⟩
  · rcases h2 with h2 | ⟨h2, _⟩
    · exact .inl (Path.cl_trans h1 h2)
    · exact .inl (by rw [← h2]; exact h1)
  · rcases h2 with h2 | ⟨h2, h2'⟩
    · exact .inl (by rw [h1]; exact h2)
    · exact .inr ⟨h1.trans h2, by omega⟩
theorem ltE_tri (x y : Ent) : ltE x y ∨ (keyL x = keyL y ∧ x.stamp = y.stamp) ∨ ltE y x := by
  unfold ltE
  have h := Path.cl_anti (keyL x) (keyL y)
  by_cases h0 : cmpL (keyL x) (keyL y) = 0
  · have e := Path.cl_eq h0
    rcases Int.lt_trichotomy x.stamp y.stamp with q | q | q
    · exact .inl (.inr ⟨e, q⟩)
    · exact .inr (.inl ⟨e, q⟩)
    · exact .inr (.inr (.inr ⟨e.symm, q⟩))
  · by_cases h1 : cmpL (keyL x) (keyL y) < 0
    · exact .inl (.inl h1)
    · exact .inr (.inr (.inl (by omega)))

/-- the entries of a list -/
abbrev EntI (es : List Ent) := {e : Ent // e ∈ es}
def cmpI (es : List Ent) (x y : EntI es) : Int := cmpE x.1 y.1
def encI (es : List Ent) (x : EntI es) : List Value := x.1.cells
/-- the list may be sorted: right paths, and of one path each has its stamp -/
structure Sortable (es : List Ent) : Prop where
  right : ∀ e ∈ es, rightB (bl e.path) = true
  one : ∀ a ∈ es, ∀ b ∈ es, a.path = b.path → a.stamp = b.stamp → a = b
theorem Inv.sortable {s : S3} {k : Nat} (h : Inv s k) : Sortable s.es := ⟨h.right, fun a ha b hb hp hs => by
  obtain ⟨i, hi⟩ := List.mem_iff_getElem?.1 ha
  obtain ⟨j, hj⟩ := List.mem_iff_getElem?.1 hb
  obtain ⟨hi1, hi2⟩ := List.getElem?_eq_some_iff.1 hi
  obtain ⟨hj1, hj2⟩ := List.getElem?_eq_some_iff.1 hj
  have hp' := List.pairwise_iff_getElem.1 h.order
  have ho : overB (bl a.path) (bl a.path) = true := Path.over_self (h.right a ha)
  rcases Nat.lt_trichotomy i j with q | q | q
  · have := hp' i j hi1 hj1 q
    rw [hi2, hj2, ← hp] at this
    have := this ho
    omega
  · subst q; rw [hi] at hj; exact Option.some.inj hj
  · have := hp' j i hj1 hi1 q
    rw [hi2, hj2, ← hp] at this
    have := this ho
    omega⟩
section
variable {es : List Ent} (H : Sortable es)
include H
theorem cmpI_lt (x y : EntI es) : ltOf (cmpI es) x y = decide (ltE x.1 y.1) := cmpE_lt (H.right _ x.2) (H.right _ y.2)
theorem totI (x y : EntI es) (h1 : ltOf (cmpI es) x y = false) (h2 : ltOf (cmpI es) y x = false) : x = y := by
  rw [cmpI_lt H] at *
  rcases ltE_tri x.1 y.1 with q | q | q
  · exact absurd q (of_decide_eq_false h1)
  · exact Subtype.ext (H.one _ x.2 _ y.2 (key_path q.1) q.2)
  · exact absurd q (of_decide_eq_false h2)
theorem swoI : SWO (ltOf (cmpI es)) where
  irrefl x := by rw [cmpI_lt H]; exact decide_eq_false (ltE_irrefl _)
  trans x y z h1 h2 := by rw [cmpI_lt H] at *; exact decide_eq_true (ltE_trans (of_decide_eq_true h1) (of_decide_eq_true h2))
  ntrans x y z h1 h2 := by
    rw [cmpI_lt H] at *
    refine decide_eq_false fun h => ?_
    have n1 := of_decide_eq_false h1
    have n2 := of_decide_eq_false h2
    rcases ltE_tri x.1 y.1 with q | q | q
    · exact n1 q
    · have e : x = y := Subtype.ext (H.one _ x.2 _ y.2 (key_path q.1) q.2)
      subst e; exact n2 h
    · exact n2 (ltE_trans q h)
/-- sorted -/
def sortI (_ : Sortable es) (l : List (EntI es)) : List (EntI es) := l.mergeSort fun x y => !ltOf (cmpI es) y x
omit H in
theorem sortI_len (H : Sortable es) (l : List (EntI es)) : (sortI H l).length = l.length := List.length_mergeSort l
omit H in
theorem sortI_perm (H : Sortable es) (l : List (EntI es)) : (sortI H l).Perm l := List.mergeSort_perm l _
omit H in
theorem sortI_le (H : Sortable es) (l : List (EntI es)) : (sortI H l).Pairwise (fun a b => (!ltOf (cmpI es) b a) = true) := by
  refine List.pairwise_mergeSort ?_ ?_ l
  · intro a b c h1 h2
    rw [cmpI_lt H] at *
    simp only [Bool.not_eq_true', decide_eq_false_iff_not] at *
    intro h
    rcases ltE_tri b.1 a.1 with q | q | q
    · exact h1 q
    · have e : b = a := Subtype.ext (H.one _ b.2 _ a.2 (key_path q.1) q.2)
      subst e; exact h2 h
    · exact h2 (ltE_trans h q)
  · intro a b
    rw [cmpI_lt H, cmpI_lt H]
    simp only [Bool.or_eq_true, Bool.not_eq_true', decide_eq_false_iff_not]
    by_cases h : ltE b.1 a.1
    · right
      intro h'
      exact ltE_irrefl _ (ltE_trans h h')
    · exact .inl h
end
theorem sortI_lt {es : List Ent} (H : Sortable es) (l : List (EntI es)) (hn : l.Nodup) : ((sortI H l).map (·.1)).Pairwise ltE := by
  have h2 : (sortI H l).Nodup := (sortI_perm H l).nodup_iff.2 hn
  rw [List.pairwise_map]
  refine ((sortI_le H l).and h2).imp ?_
  rintro a b ⟨h, hne⟩
  rw [cmpI_lt H] at h
  simp only [Bool.not_eq_true', decide_eq_false_iff_not] at h
  rcases ltE_tri a.1 b.1 with q | q | q
  · exact q
  · exact absurd (Subtype.ext (H.one _ a.2 _ b.2 (key_path q.1) q.2)) hne
  · exact absurd q h
/-- a row that is sorted is one -/
theorem sorted_one {l r : List Ent} (h1 : l.Pairwise ltE) (h2 : r.Pairwise ltE) (hp : l.Perm r) : l = r :=
  hp.eq_of_pairwise (le := ltE) (fun a b _ _ h3 h4 => absurd (ltE_trans h3 h4) (ltE_irrefl _)) h1 h2
/-- a list of entries of es, as such -/
def toI {es : List Ent} : (l : List Ent) → (∀ x ∈ l, x ∈ es) → List (EntI es)
  | [], _ => []
  | x :: l, h => ⟨x, h x (by simp)⟩ :: toI l (fun y hy => h y (by simp [hy]))
theorem toI_map {es : List Ent} : ∀ (l : List Ent) (h : ∀ x ∈ l, x ∈ es), (toI l h).map (·.1) = l
  | [], _ => rfl
  | x :: l, h => by rw [toI, List.map_cons, toI_map l]
theorem encI_flat {es : List Ent} (l : List (EntI es)) : l.flatMap (encI es) = (l.map (·.1)).flatMap Ent.cells := by
  induction l with
  | nil => rfl
  | cons x l ih => rw [List.flatMap_cons, List.map_cons, List.flatMap_cons, ih]; rfl
end Go.Proofs.YtalfoiodejoicaaGreatDoor.Lock
end
