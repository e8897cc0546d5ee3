/- The walks of a book: times, a session's count, a new book. -/
import Derived.Test.YtnkddjomanaadaaLeaseW3
import Derived.WalkLawsBesides
namespace Go.Proofs.Ytnkddjomanaadaa.Lease
open Go.RowKit
open Go.Maps (Keyed)
set_option linter.unusedSimpArgs false
set_option linter.unusedVariables false

def cutI (t : Int) : Int := if t < 0 then 0 else if 2199023255552 < t then 2199023255552 else t
theorem cutI_bd (t : Int) : 0 ≤ cutI t ∧ cutI t ≤ 2199023255552 := by unfold cutI; split <;> (try split) <;> omega
theorem cut_any (t : Int) (w : World) : Calls Try.prog 33 #[.int .i64 t] w fun e w' => e = .returned (.int .i64 (cutI t)) ∧ w = w' := by
  by_cases h0 : t < 0
  · have e : cutI t = 0 := by simp [cutI, h0]
    rw [e]
    go_enter Try.func33, Try.ntmps33
    go_wp2
    go_ret

    exact ⟨rfl, rfl⟩
  · by_cases h1 : 2199023255552 < t
    · have e : cutI t = 2199023255552 := by simp [cutI, h0, h1]
      rw [e]
      go_enter Try.func33, Try.ntmps33
      go_wp2
      go_ret
      exact ⟨rfl, rfl⟩
    · have e : cutI t = t := by simp [cutI, h0, h1]
      rw [e]
      go_enter Try.func33, Try.ntmps33
      go_wp2
      go_ret
      exact ⟨rfl, rfl⟩
def endI (time ttl : Int) : Int := cutI (cutI time + cutI ttl)
theorem end_any (time ttl : Int) (w : World) : Calls Try.prog 32 #[.int .i64 time, .int .i64 ttl] w fun e w' => e = .returned (.int .i64 (endI time ttl)) ∧ w = w' := by
  have b1 := cutI_bd time
  have b2 := cutI_bd ttl
  go_enter Try.func32, Try.ntmps32
  go_wp2_with fail
  refine (cut_any _ _).mono ?_
  rintro e _ ⟨rfl, rfl⟩
  go_wp2_with fail
  refine (cut_any _ _).mono ?_
  rintro e _ ⟨rfl, rfl⟩
  go_wp2_with fail
  refine (cut_any _ _).mono ?_
  rintro e _ ⟨rfl, rfl⟩
  go_wp2_with fail
  go_ret
  exact ⟨rfl, rfl⟩
def NewPost (w : World) (e : Ending) (w' : World) : Prop := ∃ p m, e = .returned (.pointer (some ⟨p, 0, none⟩)) ∧ At [] w [BookP p m []] w'
theorem new_any (w : World) : Calls Try.prog 5 #[] w (NewPost w) := by
  have hA := At.start (w0 := w) (L0 := []) trivial
  have hF := hA.facts
  go_enter Try.func5, Try.ntmps5
  go_wp2_with (first | ((with_reducible show wpList _ _ _ ({ dst := _, op := Op.store _ _ _, type := _, pos := _, after := _, guard := _ } :: _) _ _); refine wpList_store_at rfl rfl rfl (by (try simp only [Act.eval, Array.getD_eq_getD_getElem?, List.getElem?_toArray, List.getElem?_cons_succ, List.getElem?_cons_zero, Option.getD_some]) <;> exact rfl) (by exact rfl) hA (by with_reducible repeat (first | exact Sel.here | apply Sel.there)) (by kernel_rfl) rfl (by first | decide | (simp; done) | omega) ?_; intro w1 hB; clear hF hA; have hA := hB; clear hB; (try simp only [setL, List.set_cons_zero, List.set_cons_succ, List.cons_append, List.nil_append] at hA); (have hF := hA.facts); (try simp only [facts_cons, facts_nil, facts_cells, facts_old, facts_fact, facts_obj, facts_map, facts_iter, and_true, true_and] at hF)) | ((with_reducible show wpList _ _ _ ({ dst := _, op := Op.box _ _, type := _, pos := _, after := _, guard := _ } :: _) _ _); refine wpList_box_at rfl rfl (by (try simp only [Act.eval, Array.getD_eq_getD_getElem?, List.getElem?_toArray, List.getElem?_cons_succ, List.getElem?_cons_zero, Option.getD_some]) <;> exact rfl) (by exact rfl) hA ?_; intro b1 w1 hB hb1; clear hF hA; have hA := hB; clear hB; (try simp only [setL, List.set_cons_zero, List.set_cons_succ, List.cons_append, List.nil_append] at hA); (have hF := hA.facts); (try simp only [facts_cons, facts_nil, facts_cells, facts_old, facts_fact, facts_obj, facts_map, facts_iter, and_true, true_and] at hF)) | (refine wpList_makeMap_at Try.prog 31 rfl rfl hA ?_; intro b2 w1 hB hb2; clear hF hA; have hA := hB; clear hB; (try simp only [setL, List.set_cons_zero, List.set_cons_succ, List.cons_append, List.nil_append] at hA); (have hF := hA.facts); (try simp only [facts_cons, facts_nil, facts_cells, facts_old, facts_fact, facts_obj, facts_map, facts_iter, and_true, true_and] at hF)))
  go_ret
  have hB : At [] w [headC b1 b2, mapC b2 (ents [])] w1 := hA
  have hC := hB.new (Ext.refl w1) (restP []) trivial (fun b hb => by obtain ⟨A, hA, _⟩ := hb; cases hA)
  exact ⟨_, _, rfl, close0 (m := b2) (ss := []) hC (by repeat (first | exact Sel.here | apply Sel.there)) (by repeat (first | exact Sel.here | apply Sel.there)) (by repeat (first | exact Sel.here | apply Sel.there))⟩
end Go.Proofs.Ytnkddjomanaadaa.Lease
