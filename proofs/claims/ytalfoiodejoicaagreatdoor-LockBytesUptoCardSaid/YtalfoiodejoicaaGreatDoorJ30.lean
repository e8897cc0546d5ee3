/- LockBz, joined. -/
import Derived.Test.YtalfoiodejoicaaGreatDoorJ29
import Derived.BigQuiet
section
namespace Go.Proofs.YtalfoiodejoicaaGreatDoor.Lock
open Go.RowKit
open Go.Maps (Keyed)
open _root_.Go.Proofs.YtalfoiodejoicaaGreatDoor.Wire
open Path (bl rightB overB)
set_option linter.unusedSimpArgs false
set_option linter.unusedVariables false
attribute [-go_sem] run_eql_struct run_neq_struct run_eqGuard_agg
attribute [local go_sem] guardR guardCn eqlCn

abbrev docB (b : Nat) (f : Int) (v c : Value) : Part := Part.cells b [.int .u64 f, v, c] 68
def LyOne (w : World) (a1 a2 : Pl) (bD bE : Nat) (first : Int) (n : Nat) (k : Nat) (u : Value) (wr : World) : Prop :=
  ∃ (i : Nat) (s : S3) (vL vC : Value), u = .int .i64 i ∧ i + k = n ∧ Inv s i ∧ Feet s ∧ s.first = first ∧ At [Part.old w] w [docB bD first vL vC, bookS a1 s, rowE vL s.es, rowC vC s.cs, docB bE first (.slice none 0 0) (.slice none 0 0), bookS a2 ⟨first, [], []⟩, Part.old w] wr
def LyTwo (w : World) (a1 a2 : Pl) (bD bE : Nat) (first : Int) (s1 : S3) (v1 c1 : Value) (n : Nat) (k : Nat) (u : Value) (wr : World) : Prop :=
  ∃ (i : Nat) (s : S3) (vL vC : Value), u = .int .i64 i ∧ i + k = n ∧ Inv s i ∧ Feet s ∧ s.first = first ∧ At [Part.old w] w [docB bE first vL vC, bookS a2 s, rowE vL s.es, rowC vC s.cs, docB bD first v1 c1, bookS a1 s1, rowE v1 s1.es, rowC c1 s1.cs, Part.old w] wr
/-- the parts while the two are compared -/
def cmpL_ (w : World) (bD bE bO bQ : Nat) (first : Int) (s1 s2 : S3) (v1 c1 v2 c2 u1 u2 : Value) (l1 l2 : List Int) : List Part :=
  [rowE v1 s1.es, rowE v2 s2.es, rowC c1 s1.cs, rowC c2 s2.cs, docB bD first v1 c1, docB bE first v2 c2, outC bO u1, outC bQ u2, rowY u1 l1, rowY u2 l2, Part.old w]
def LyE (w : World) (bD bE bO bQ : Nat) (first : Int) (s1 s2 : S3) (v1 c1 v2 c2 u1 u2 : Value) (l1 l2 : List Int) (k : Nat) (x17 x101 : Value) (wr : World) : Prop :=
  ∃ (i : Nat) (q : Bool), x101 = .int .i64 i ∧ x17 = .bool q ∧ i + k = s1.es.length ∧ (q = true ↔ (s1.es.length = s2.es.length ∧ s1.cs.length = s2.cs.length) ∧ ∀ x ∈ s1.es.take i, x ∈ s2.es) ∧ At [Part.old w] w (cmpL_ w bD bE bO bQ first s1 s2 v1 c1 v2 c2 u1 u2 l1 l2) wr
def LyC (w : World) (bD bE bO bQ : Nat) (first : Int) (s1 s2 : S3) (v1 c1 v2 c2 u1 u2 : Value) (l1 l2 : List Int) (k : Nat) (x17 x132 : Value) (wr : World) : Prop :=
  ∃ (i : Nat) (q : Bool), x132 = .int .i64 i ∧ x17 = .bool q ∧ i + k = s1.cs.length ∧ (q = true ↔ ((s1.es.length = s2.es.length ∧ s1.cs.length = s2.cs.length) ∧ ∀ x ∈ s1.es, x ∈ s2.es) ∧ ∀ c ∈ s1.cs.take i, c ∈ s2.cs) ∧ At [Part.old w] w (cmpL_ w bD bE bO bQ first s1 s2 v1 c1 v2 c2 u1 u2 l1 l2) wr
def LyF (w : World) (L : List Part) (cs : List (ByteArray × Int)) (y : ByteArray × Int) (k : Nat) (x23 x139 : Value) (wr : World) : Prop :=
  ∃ (i : Nat) (f : Bool), x139 = .int .i64 i ∧ x23 = .bool f ∧ i + k = cs.length ∧ (f = true ↔ ∃ x ∈ cs.take i, x = y) ∧ At [Part.old w] w L wr
set_option maxRecDepth 100000 in
set_option maxHeartbeats 8000000 in
theorem bytes_law {w : World} {va vb : Value} {os ot : List Op} (hops : OpsAt w va os) (hopt : OpsAt w vb ot) (hol : os.length ≤ 9223372036854775807) (hot : ot.length ≤ 9223372036854775807) (hfo : ∀ o ∈ os, o.foot.size ≤ 2000000) (hft : ∀ o ∈ ot, o.foot.size ≤ 2000000) {first : Int} (f0 : 0 ≤ first) (f1 : first < big64) :
    Calls Tryz.prog 4 #[.int .u64 first, va, vb] w fun e w' => e = .returned (.bool true) ∧ Below w.heap.size w w' := by
  have hA : At [Part.old w] w [Part.old w] w := At.start ⟨fun _ _ => rfl, trivial, nofun⟩
  have hF := hA.facts
  have hfits := fun (w1 : World) (q : Sep [Part.old w] w1) => fits_any q hops 30 hol
  have hfitt := fun (w1 : World) (q : Sep [Part.old w] w1) => fits_any q hopt 30 hot
  obtain ⟨sa, sc, rfl, hel⟩ := hops
  obtain ⟨ta, tc, rfl, het⟩ := hopt
  have hel' := Lib.hid hel
  have het' := Lib.hid het
  have hfo' := Lib.hid hfo
  have hft' := Lib.hid hft
  clear hel het hfo hft
  (try simp only [setL, List.set_cons_zero, List.set_cons_succ, List.cons_append, List.nil_append] at hA); (have hF := hA.facts); (try simp only [facts_cons, facts_nil, facts_cells, facts_old, facts_fact, facts_obj, facts_map, facts_iter, facts_row, and_true, true_and] at hF)
  go_enter Tryz.func4, Tryz.ntmps4
  go_wp2_with (first | ((with_reducible show wpList _ _ _ ({ dst := _, op := Op.store _ _ _, type := _, pos := _, after := _, guard := _ } :: _) _ _); refine wpList_store_at rfl rfl rfl (by (try simp only [Act.eval, Array.getD_eq_getD_getElem?, List.getElem?_toArray, List.getElem?_cons_succ, List.getElem?_cons_zero, Option.getD_some]) <;> exact rfl) (by exact rfl) hA (by with_reducible repeat (first | exact Sel.here | apply Sel.there)) (by kernel_rfl) rfl (by first | decide | (simp; done) | omega) ?_; intro w1 hB; clear hF hA; have hA := hB; clear hB; (try simp only [setL, List.set_cons_zero, List.set_cons_succ, List.cons_append, List.nil_append] at hA); (have hF := hA.facts); (try simp only [facts_cons, facts_nil, facts_cells, facts_old, facts_fact, facts_obj, facts_map, facts_iter, facts_row, and_true, true_and] at hF)) | ((with_reducible show wpList _ _ _ ({ dst := _, op := Op.box _ _, type := _, pos := _, after := _, guard := _ } :: _) _ _); refine wpList_box_at rfl rfl (by (try simp only [Act.eval, Array.getD_eq_getD_getElem?, List.getElem?_toArray, List.getElem?_cons_succ, List.getElem?_cons_zero, Option.getD_some]) <;> exact rfl) (by exact rfl) hA ?_; intro b1 w1 hB hb1; clear hF hA; have hA := hB; clear hB; (try simp only [setL, List.set_cons_zero, List.set_cons_succ, List.cons_append, List.nil_append] at hA); (have hF := hA.facts); (try simp only [facts_cons, facts_nil, facts_cells, facts_old, facts_fact, facts_obj, facts_map, facts_iter, facts_row, and_true, true_and] at hF)))
  refine (anchor_any _).mono ?_
  rintro e w1 ⟨rfl, hx⟩
  have hB := hA.ext hx
  clear hF hA hx
  have hA := hB
  clear hB
  (try simp only [setL, List.set_cons_zero, List.set_cons_succ, List.cons_append, List.nil_append] at hA); (have hF := hA.facts); (try simp only [facts_cons, facts_nil, facts_cells, facts_old, facts_fact, facts_obj, facts_map, facts_iter, facts_row, and_true, true_and] at hF)
  go_wp2_with (first | ((with_reducible show wpList _ _ _ ({ dst := _, op := Op.store _ _ _, type := _, pos := _, after := _, guard := _ } :: _) _ _); refine wpList_store_at rfl rfl rfl (by (try simp only [Act.eval, Array.getD_eq_getD_getElem?, List.getElem?_toArray, List.getElem?_cons_succ, List.getElem?_cons_zero, Option.getD_some]) <;> exact rfl) (by exact rfl) hA (by with_reducible repeat (first | exact Sel.here | apply Sel.there)) (by kernel_rfl) rfl (by first | decide | (simp; done) | omega) ?_; intro w1 hB; clear hF hA; have hA := hB; clear hB; (try simp only [setL, List.set_cons_zero, List.set_cons_succ, List.cons_append, List.nil_append] at hA); (have hF := hA.facts); (try simp only [facts_cons, facts_nil, facts_cells, facts_old, facts_fact, facts_obj, facts_map, facts_iter, facts_row, and_true, true_and] at hF)) | ((with_reducible show wpList _ _ _ ({ dst := _, op := Op.box _ _, type := _, pos := _, after := _, guard := _ } :: _) _ _); refine wpList_box_at rfl rfl (by (try simp only [Act.eval, Array.getD_eq_getD_getElem?, List.getElem?_toArray, List.getElem?_cons_succ, List.getElem?_cons_zero, Option.getD_some]) <;> exact rfl) (by exact rfl) hA ?_; intro b1 w1 hB hb1; clear hF hA; have hA := hB; clear hB; (try simp only [setL, List.set_cons_zero, List.set_cons_succ, List.cons_append, List.nil_append] at hA); (have hF := hA.facts); (try simp only [facts_cons, facts_nil, facts_cells, facts_old, facts_fact, facts_obj, facts_map, facts_iter, facts_row, and_true, true_and] at hF)))
  refine (hfits _ (hA.sep1 (by with_reducible repeat (first | exact Sel.here | apply Sel.there)))).mono ?_
  clear hfits
  cases hfb : fitsB os 30 with
  | false =>
    rintro e w1 ⟨rfl, hT⟩; have hB := hA.call1 (by with_reducible repeat (first | exact Sel.here | apply Sel.there)) hT; clear hF hA hT; have hA := hB; clear hB; (try simp only [setL, List.set_cons_zero, List.set_cons_succ, List.cons_append, List.nil_append] at hA); (have hF := hA.facts); (try simp only [facts_cons, facts_nil, facts_cells, facts_old, facts_fact, facts_obj, facts_map, facts_iter, facts_row, and_true, true_and] at hF)
    go_wp2_with (first | ((with_reducible show wpList _ _ _ ({ dst := _, op := Op.store _ _ _, type := _, pos := _, after := _, guard := _ } :: _) _ _); refine wpList_store_at rfl rfl rfl (by (try simp only [Act.eval, Array.getD_eq_getD_getElem?, List.getElem?_toArray, List.getElem?_cons_succ, List.getElem?_cons_zero, Option.getD_some]) <;> exact rfl) (by exact rfl) hA (by with_reducible repeat (first | exact Sel.here | apply Sel.there)) (by kernel_rfl) rfl (by first | decide | (simp; done) | omega) ?_; intro w1 hB; clear hF hA; have hA := hB; clear hB; (try simp only [setL, List.set_cons_zero, List.set_cons_succ, List.cons_append, List.nil_append] at hA); (have hF := hA.facts); (try simp only [facts_cons, facts_nil, facts_cells, facts_old, facts_fact, facts_obj, facts_map, facts_iter, facts_row, and_true, true_and] at hF)) | ((with_reducible show wpList _ _ _ ({ dst := _, op := Op.box _ _, type := _, pos := _, after := _, guard := _ } :: _) _ _); refine wpList_box_at rfl rfl (by (try simp only [Act.eval, Array.getD_eq_getD_getElem?, List.getElem?_toArray, List.getElem?_cons_succ, List.getElem?_cons_zero, Option.getD_some]) <;> exact rfl) (by exact rfl) hA ?_; intro b1 w1 hB hb1; clear hF hA; have hA := hB; clear hB; (try simp only [setL, List.set_cons_zero, List.set_cons_succ, List.cons_append, List.nil_append] at hA); (have hF := hA.facts); (try simp only [facts_cons, facts_nil, facts_cells, facts_old, facts_fact, facts_obj, facts_map, facts_iter, facts_row, and_true, true_and] at hF)))
    go_ret
    exact ⟨rfl, below_old hA (by with_reducible repeat (first | exact Sel.here | apply Sel.there))⟩
  | true =>
    have hol2 : os.length ≤ 30 := by unfold fitsB at hfb; simp at hfb; omega
    have hosz := Lib.hid (show ∀ o ∈ os, o.path.size ≤ 100 from fun o ho => by unfold fitsB at hfb; simp at hfb; exact hfb.1 o ho)
    clear hfb
    rintro e w1 ⟨rfl, hT⟩; have hB := hA.call1 (by with_reducible repeat (first | exact Sel.here | apply Sel.there)) hT; clear hF hA hT; have hA := hB; clear hB; (try simp only [setL, List.set_cons_zero, List.set_cons_succ, List.cons_append, List.nil_append] at hA); (have hF := hA.facts); (try simp only [facts_cons, facts_nil, facts_cells, facts_old, facts_fact, facts_obj, facts_map, facts_iter, facts_row, and_true, true_and] at hF)
    go_wp2_with (first | ((with_reducible show wpList _ _ _ ({ dst := _, op := Op.store _ _ _, type := _, pos := _, after := _, guard := _ } :: _) _ _); refine wpList_store_at rfl rfl rfl (by (try simp only [Act.eval, Array.getD_eq_getD_getElem?, List.getElem?_toArray, List.getElem?_cons_succ, List.getElem?_cons_zero, Option.getD_some]) <;> exact rfl) (by exact rfl) hA (by with_reducible repeat (first | exact Sel.here | apply Sel.there)) (by kernel_rfl) rfl (by first | decide | (simp; done) | omega) ?_; intro w1 hB; clear hF hA; have hA := hB; clear hB; (try simp only [setL, List.set_cons_zero, List.set_cons_succ, List.cons_append, List.nil_append] at hA); (have hF := hA.facts); (try simp only [facts_cons, facts_nil, facts_cells, facts_old, facts_fact, facts_obj, facts_map, facts_iter, facts_row, and_true, true_and] at hF)) | ((with_reducible show wpList _ _ _ ({ dst := _, op := Op.box _ _, type := _, pos := _, after := _, guard := _ } :: _) _ _); refine wpList_box_at rfl rfl (by (try simp only [Act.eval, Array.getD_eq_getD_getElem?, List.getElem?_toArray, List.getElem?_cons_succ, List.getElem?_cons_zero, Option.getD_some]) <;> exact rfl) (by exact rfl) hA ?_; intro b1 w1 hB hb1; clear hF hA; have hA := hB; clear hB; (try simp only [setL, List.set_cons_zero, List.set_cons_succ, List.cons_append, List.nil_append] at hA); (have hF := hA.facts); (try simp only [facts_cons, facts_nil, facts_cells, facts_old, facts_fact, facts_obj, facts_map, facts_iter, facts_row, and_true, true_and] at hF)))
    refine (hfitt _ (hA.sep1 (by with_reducible repeat (first | exact Sel.here | apply Sel.there)))).mono ?_
    clear hfitt
    cases hfb : fitsB ot 30 with
    | false =>
      rintro e w1 ⟨rfl, hT⟩; have hB := hA.call1 (by with_reducible repeat (first | exact Sel.here | apply Sel.there)) hT; clear hF hA hT; have hA := hB; clear hB; (try simp only [setL, List.set_cons_zero, List.set_cons_succ, List.cons_append, List.nil_append] at hA); (have hF := hA.facts); (try simp only [facts_cons, facts_nil, facts_cells, facts_old, facts_fact, facts_obj, facts_map, facts_iter, facts_row, and_true, true_and] at hF)
      go_wp2_with (first | ((with_reducible show wpList _ _ _ ({ dst := _, op := Op.store _ _ _, type := _, pos := _, after := _, guard := _ } :: _) _ _); refine wpList_store_at rfl rfl rfl (by (try simp only [Act.eval, Array.getD_eq_getD_getElem?, List.getElem?_toArray, List.getElem?_cons_succ, List.getElem?_cons_zero, Option.getD_some]) <;> exact rfl) (by exact rfl) hA (by with_reducible repeat (first | exact Sel.here | apply Sel.there)) (by kernel_rfl) rfl (by first | decide | (simp; done) | omega) ?_; intro w1 hB; clear hF hA; have hA := hB; clear hB; (try simp only [setL, List.set_cons_zero, List.set_cons_succ, List.cons_append, List.nil_append] at hA); (have hF := hA.facts); (try simp only [facts_cons, facts_nil, facts_cells, facts_old, facts_fact, facts_obj, facts_map, facts_iter, facts_row, and_true, true_and] at hF)) | ((with_reducible show wpList _ _ _ ({ dst := _, op := Op.box _ _, type := _, pos := _, after := _, guard := _ } :: _) _ _); refine wpList_box_at rfl rfl (by (try simp only [Act.eval, Array.getD_eq_getD_getElem?, List.getElem?_toArray, List.getElem?_cons_succ, List.getElem?_cons_zero, Option.getD_some]) <;> exact rfl) (by exact rfl) hA ?_; intro b1 w1 hB hb1; clear hF hA; have hA := hB; clear hB; (try simp only [setL, List.set_cons_zero, List.set_cons_succ, List.cons_append, List.nil_append] at hA); (have hF := hA.facts); (try simp only [facts_cons, facts_nil, facts_cells, facts_old, facts_fact, facts_obj, facts_map, facts_iter, facts_row, and_true, true_and] at hF)))
      go_ret
      exact ⟨rfl, below_old hA (by with_reducible repeat (first | exact Sel.here | apply Sel.there))⟩
    | true =>
      have hot2 : ot.length ≤ 30 := by unfold fitsB at hfb; simp at hfb; omega
      have hotz := Lib.hid (show ∀ o ∈ ot, o.path.size ≤ 100 from fun o ho => by unfold fitsB at hfb; simp at hfb; exact hfb.1 o ho)
      clear hfb
      rintro e w1 ⟨rfl, hT⟩; have hB := hA.call1 (by with_reducible repeat (first | exact Sel.here | apply Sel.there)) hT; clear hF hA hT; have hA := hB; clear hB; (try simp only [setL, List.set_cons_zero, List.set_cons_succ, List.cons_append, List.nil_append] at hA); (have hF := hA.facts); (try simp only [facts_cons, facts_nil, facts_cells, facts_old, facts_fact, facts_obj, facts_map, facts_iter, facts_row, and_true, true_and] at hF)
      go_wp2_with (first | ((with_reducible show wpList _ _ _ ({ dst := _, op := Op.store _ _ _, type := _, pos := _, after := _, guard := _ } :: _) _ _); refine wpList_store_at rfl rfl rfl (by (try simp only [Act.eval, Array.getD_eq_getD_getElem?, List.getElem?_toArray, List.getElem?_cons_succ, List.getElem?_cons_zero, Option.getD_some]) <;> exact rfl) (by exact rfl) hA (by with_reducible repeat (first | exact Sel.here | apply Sel.there)) (by kernel_rfl) rfl (by first | decide | (simp; done) | omega) ?_; intro w1 hB; clear hF hA; have hA := hB; clear hB; (try simp only [setL, List.set_cons_zero, List.set_cons_succ, List.cons_append, List.nil_append] at hA); (have hF := hA.facts); (try simp only [facts_cons, facts_nil, facts_cells, facts_old, facts_fact, facts_obj, facts_map, facts_iter, facts_row, and_true, true_and] at hF)) | ((with_reducible show wpList _ _ _ ({ dst := _, op := Op.box _ _, type := _, pos := _, after := _, guard := _ } :: _) _ _); refine wpList_box_at rfl rfl (by (try simp only [Act.eval, Array.getD_eq_getD_getElem?, List.getElem?_toArray, List.getElem?_cons_succ, List.getElem?_cons_zero, Option.getD_some]) <;> exact rfl) (by exact rfl) hA ?_; intro b1 w1 hB hb1; clear hF hA; have hA := hB; clear hB; (try simp only [setL, List.set_cons_zero, List.set_cons_succ, List.cons_append, List.nil_append] at hA); (have hF := hA.facts); (try simp only [facts_cons, facts_nil, facts_cells, facts_old, facts_fact, facts_obj, facts_map, facts_iter, facts_row, and_true, true_and] at hF)))
      refine (new_at first _).mono ?_
      rintro e w2 ⟨a1, rfl, hT⟩
      have hB := hA.call0 hT
      clear hF hA hT
      have hA := hB
      clear hB
      simp only [List.cons_append, List.nil_append] at hA
      have hF := hA.facts
      (try simp only [setL, List.set_cons_zero, List.set_cons_succ, List.cons_append, List.nil_append] at hA); (have hF := hA.facts); (try simp only [facts_cons, facts_nil, facts_cells, facts_old, facts_fact, facts_obj, facts_map, facts_iter, facts_row, and_true, true_and] at hF)
      go_wp2_with (first | ((with_reducible show wpList _ _ _ ({ dst := _, op := Op.store _ _ _, type := _, pos := _, after := _, guard := _ } :: _) _ _); refine wpList_store_at rfl rfl rfl (by (try simp only [Act.eval, Array.getD_eq_getD_getElem?, List.getElem?_toArray, List.getElem?_cons_succ, List.getElem?_cons_zero, Option.getD_some]) <;> exact rfl) (by exact rfl) hA (by with_reducible repeat (first | exact Sel.here | apply Sel.there)) (by kernel_rfl) rfl (by first | decide | (simp; done) | omega) ?_; intro w1 hB; clear hF hA; have hA := hB; clear hB; (try simp only [setL, List.set_cons_zero, List.set_cons_succ, List.cons_append, List.nil_append] at hA); (have hF := hA.facts); (try simp only [facts_cons, facts_nil, facts_cells, facts_old, facts_fact, facts_obj, facts_map, facts_iter, facts_row, and_true, true_and] at hF)) | ((with_reducible show wpList _ _ _ ({ dst := _, op := Op.box _ _, type := _, pos := _, after := _, guard := _ } :: _) _ _); refine wpList_box_at rfl rfl (by (try simp only [Act.eval, Array.getD_eq_getD_getElem?, List.getElem?_toArray, List.getElem?_cons_succ, List.getElem?_cons_zero, Option.getD_some]) <;> exact rfl) (by exact rfl) hA ?_; intro b1 w1 hB hb1; clear hF hA; have hA := hB; clear hB; (try simp only [setL, List.set_cons_zero, List.set_cons_succ, List.cons_append, List.nil_append] at hA); (have hF := hA.facts); (try simp only [facts_cons, facts_nil, facts_cells, facts_old, facts_fact, facts_obj, facts_map, facts_iter, facts_row, and_true, true_and] at hF)))
      refine (new_at first _).mono ?_
      rintro e w2 ⟨a2, rfl, hT⟩
      have hB := hA.call0 hT
      clear hF hA hT
      have hA := hB
      clear hB
      simp only [List.cons_append, List.nil_append] at hA
      have hF := hA.facts
      (try simp only [setL, List.set_cons_zero, List.set_cons_succ, List.cons_append, List.nil_append] at hA); (have hF := hA.facts); (try simp only [facts_cons, facts_nil, facts_cells, facts_old, facts_fact, facts_obj, facts_map, facts_iter, facts_row, and_true, true_and] at hF)
      go_wp2_with (first | (with_reducible show wpList _ _ _ ({ dst := some 9, op := Op.alloc _, type := _, pos := _, after := _, guard := _ } :: _) _ _; ((with_reducible show wpList _ _ _ ({ dst := _, op := Op.alloc _, type := _, pos := _, after := _, guard := _ } :: _) _ _); refine wpList_alloc_at (E := 68) (z := .agg #[.int .u64 0, .slice none 0 0, .slice none 0 0]) (vs := [.int .u64 0, .slice none 0 0, .slice none 0 0]) rfl rfl (by kernel_rfl) rfl hA ?_; intro bD w1 hB hbD; clear hF hA; have hA := hB; clear hB; (try simp only [setL, List.set_cons_zero, List.set_cons_succ, List.cons_append, List.nil_append] at hA); (have hF := hA.facts); (try simp only [facts_cons, facts_nil, facts_cells, facts_old, facts_fact, facts_obj, facts_map, facts_iter, facts_row, and_true, true_and] at hF))) | ((with_reducible show wpList _ _ _ ({ dst := _, op := Op.alloc _, type := _, pos := _, after := _, guard := _ } :: _) _ _); refine wpList_alloc_at (E := 68) (z := .agg #[.int .u64 0, .slice none 0 0, .slice none 0 0]) (vs := [.int .u64 0, .slice none 0 0, .slice none 0 0]) rfl rfl (by kernel_rfl) rfl hA ?_; intro bE w1 hB hbE; clear hF hA; have hA := hB; clear hB; (try simp only [setL, List.set_cons_zero, List.set_cons_succ, List.cons_append, List.nil_append] at hA); (have hF := hA.facts); (try simp only [facts_cons, facts_nil, facts_cells, facts_old, facts_fact, facts_obj, facts_map, facts_iter, facts_row, and_true, true_and] at hF)) | ((with_reducible show wpList _ _ _ ({ dst := _, op := Op.store _ _ _, type := _, pos := _, after := _, guard := _ } :: _) _ _); refine wpList_store_at rfl rfl rfl (by (try simp only [Act.eval, Array.getD_eq_getD_getElem?, List.getElem?_toArray, List.getElem?_cons_succ, List.getElem?_cons_zero, Option.getD_some]) <;> exact rfl) (by exact rfl) hA (by with_reducible repeat (first | exact Sel.here | apply Sel.there)) (by kernel_rfl) rfl (by first | decide | (simp; done) | omega) ?_; intro w1 hB; clear hF hA; have hA := hB; clear hB; (try simp only [setL, List.set_cons_zero, List.set_cons_succ, List.cons_append, List.nil_append] at hA); (have hF := hA.facts); (try simp only [facts_cons, facts_nil, facts_cells, facts_old, facts_fact, facts_obj, facts_map, facts_iter, facts_row, and_true, true_and] at hF)) | ((with_reducible show wpList _ _ _ ({ dst := _, op := Op.box _ _, type := _, pos := _, after := _, guard := _ } :: _) _ _); refine wpList_box_at rfl rfl (by (try simp only [Act.eval, Array.getD_eq_getD_getElem?, List.getElem?_toArray, List.getElem?_cons_succ, List.getElem?_cons_zero, Option.getD_some]) <;> exact rfl) (by exact rfl) hA ?_; intro b1 w1 hB hb1; clear hF hA; have hA := hB; clear hB; (try simp only [setL, List.set_cons_zero, List.set_cons_succ, List.cons_append, List.nil_append] at hA); (have hF := hA.facts); (try simp only [facts_cons, facts_nil, facts_cells, facts_old, facts_fact, facts_obj, facts_map, facts_iter, facts_row, and_true, true_and] at hF)))
      have hB := row_nilE (row_nilC (row_nilE (row_nilC hA)))
      clear hF hA
      have hA := hB
      clear hB
      have hF := hA.facts
      (try simp only [setL, List.set_cons_zero, List.set_cons_succ, List.cons_append, List.nil_append] at hA); (have hF := hA.facts); (try simp only [facts_cons, facts_nil, facts_cells, facts_old, facts_fact, facts_obj, facts_map, facts_iter, facts_row, and_true, true_and] at hF)
      try go_frame
      go_loopg [46] os.length (LyOne w a1 a2 bD bE first os.length)
      case atStart => exact ⟨0, ⟨first, [], []⟩, _, _, rfl, by simp, inv_new f0 f1, nofun, rfl, hA.pick (by repeat (first | exact Picks.nil | refine Picks.cons (by repeat (first | exact Sel.here | apply Sel.there)) ?_))⟩
      case round =>
        obtain ⟨i, s, vL, vC, rfl, hik, hI, hFt, hsf, hB⟩ := hrel
        have hI' := Lib.hid hI
        have hFt' := Lib.hid hFt
        clear hF hA hI hFt
        have hA := hB
        clear hB
        obtain ⟨vx, vn, vc, hv, hvn⟩ := hA.row_hid (v := vL) (n := s.es.length) (xs := flatE s.es) (by with_reducible repeat (first | exact Sel.here | apply Sel.there))
        subst hv
        obtain ⟨kx, kn, kc, hk, hkn⟩ := hA.row_hid (v := vC) (n := s.cs.length) (xs := flatC s.cs) (by with_reducible repeat (first | exact Sel.here | apply Sel.there))
        subst hk
        by_cases hi : i < os.length
        · obtain ⟨b, off, rfl, ⟨c0, c1, c2, c3, c4⟩, hok⟩ := hel'.out i hi
          have hokp := hosz.out os[i] (List.getElem_mem hi)
          have hokf := hfo'.out os[i] (List.getElem_mem hi)
          obtain ⟨o, hoi⟩ : ∃ o, os[i] = o := ⟨_, rfl⟩
          simp only [hoi] at c0 c1 c2 c3 c4 hok hokp hokf
          clear hoi
          have c0 := old_cell (hA.get (A := Part.old w) (by with_reducible repeat (first | exact Sel.here | apply Sel.there))) c0
          have c1 := old_cell (hA.get (A := Part.old w) (by with_reducible repeat (first | exact Sel.here | apply Sel.there))) c1
          have c2 := old_cell (hA.get (A := Part.old w) (by with_reducible repeat (first | exact Sel.here | apply Sel.there))) c2
          have c3 := old_cell (hA.get (A := Part.old w) (by with_reducible repeat (first | exact Sel.here | apply Sel.there))) c3
          have c4 := old_cell (hA.get (A := Part.old w) (by with_reducible repeat (first | exact Sel.here | apply Sel.there))) c4
          have hokk := Lib.hid (show o.ok from ⟨hokp, hok.1, hok.2.1, hok.2.2.1⟩)
          have hFt2 := Lib.hid (feet_step hFt'.out hokf)
          clear hok hokp hokf hFt'
          have hst := fun (w1 : World) (q : Sep [bookS a1 s, rowE (.slice vx vn vc) s.es, rowC (.slice kx kn kc) s.cs] w1) => step_any (t := s) q hI'.out hI'.out (by omega) (by omega) o hokk.out
          unfold StepPost at hst
          rw [hsf] at hst
          have hF := hA.facts
          (try simp only [setL, List.set_cons_zero, List.set_cons_succ, List.cons_append, List.nil_append] at hA); (have hF := hA.facts); (try simp only [facts_cons, facts_nil, facts_cells, facts_old, facts_fact, facts_obj, facts_map, facts_iter, facts_row, and_true, true_and] at hF)
          go_wp2_with (first | ((with_reducible show wpList _ _ _ ({ dst := _, op := Op.store _ _ _, type := _, pos := _, after := _, guard := _ } :: _) _ _); refine wpList_store_at rfl rfl rfl (by (try simp only [Act.eval, Array.getD_eq_getD_getElem?, List.getElem?_toArray, List.getElem?_cons_succ, List.getElem?_cons_zero, Option.getD_some]) <;> exact rfl) (by exact rfl) hA (by with_reducible repeat (first | exact Sel.here | apply Sel.there)) (by kernel_rfl) rfl (by first | decide | (simp; done) | omega) ?_; intro w1 hB; clear hF hA; have hA := hB; clear hB; (try simp only [setL, List.set_cons_zero, List.set_cons_succ, List.cons_append, List.nil_append] at hA); (have hF := hA.facts); (try simp only [facts_cons, facts_nil, facts_cells, facts_old, facts_fact, facts_obj, facts_map, facts_iter, facts_row, and_true, true_and] at hF)) | ((with_reducible show wpList _ _ _ ({ dst := _, op := Op.box _ _, type := _, pos := _, after := _, guard := _ } :: _) _ _); refine wpList_box_at rfl rfl (by (try simp only [Act.eval, Array.getD_eq_getD_getElem?, List.getElem?_toArray, List.getElem?_cons_succ, List.getElem?_cons_zero, Option.getD_some]) <;> exact rfl) (by exact rfl) hA ?_; intro b1 w1 hB hb1; clear hF hA; have hA := hB; clear hB; (try simp only [setL, List.set_cons_zero, List.set_cons_succ, List.cons_append, List.nil_append] at hA); (have hF := hA.facts); (try simp only [facts_cons, facts_nil, facts_cells, facts_old, facts_fact, facts_obj, facts_map, facts_iter, facts_row, and_true, true_and] at hF)) | ((with_reducible show wpList _ _ _ ({ dst := _, op := Op.alloc _, type := _, pos := _, after := _, guard := _ } :: _) _ _); refine wpList_alloc_at (E := 70) (z := .agg #[.int .i64 0, .int .i64 0, .string .empty, .int .u64 0, .string .empty]) (vs := [.int .i64 0, .int .i64 0, .string .empty, .int .u64 0, .string .empty]) rfl rfl (by kernel_rfl) rfl hA ?_; intro b1 w1 hB hb1; clear hF hA; have hA := hB; clear hB; (try simp only [setL, List.set_cons_zero, List.set_cons_succ, List.cons_append, List.nil_append] at hA); (have hF := hA.facts); (try simp only [facts_cons, facts_nil, facts_cells, facts_old, facts_fact, facts_obj, facts_map, facts_iter, facts_row, and_true, true_and] at hF)))
          refine (hst _ (hA.seps (K := [bookS a1 s, rowE (.slice vx vn vc) s.es, rowC (.slice kx kn kc) s.cs]) (by with_reducible repeat (first | exact Picks.nil | refine Picks.cons (by with_reducible repeat (first | exact Sel.here | apply Sel.there)) ?_)))).mono ?_
          clear hst
          rintro e w3 ⟨vL', vC', rfl, hT⟩
          have hB := (hA.call3 (A := bookS a1 s) (B := rowE (.slice vx vn vc) s.es) (C := rowC (.slice kx kn kc) s.cs) (by with_reducible repeat (first | exact Sel.here | apply Sel.there)) (by with_reducible repeat (first | exact Sel.here | apply Sel.there)) (by with_reducible repeat (first | exact Sel.here | apply Sel.there)) hT)
          have hI2 := Lib.hid (inv_step hI'.out hokk.out)
          have hsf2 := (first_step s o).trans hsf
          clear hF hA hT c0 c1 c2 c3 c4 hI' hokk hsf
          have hA := hB
          clear hB
          simp only [List.cons_append, List.nil_append] at hA
          generalize okB s s o = ob at *
          generalize s.step o = s' at *
          obtain ⟨vx2, vn2, vc2, hv2, hvn2⟩ := hA.row_hid (v := vL') (n := s'.es.length) (xs := flatE s'.es) (by with_reducible repeat (first | exact Sel.here | apply Sel.there))
          subst hv2
          obtain ⟨kx2, kn2, kc2, hk2, hkn2⟩ := hA.row_hid (v := vC') (n := s'.cs.length) (xs := flatC s'.cs) (by with_reducible repeat (first | exact Sel.here | apply Sel.there))
          subst hk2
          have hsf3 := Lib.hid hsf2
          clear hsf2
          have hF := hA.facts
          (try simp only [setL, List.set_cons_zero, List.set_cons_succ, List.cons_append, List.nil_append] at hA); (have hF := hA.facts); (try simp only [facts_cons, facts_nil, facts_cells, facts_old, facts_fact, facts_obj, facts_map, facts_iter, facts_row, and_true, true_and] at hF)
          go_wp2_with (first | ((with_reducible show wpList _ _ _ ({ dst := _, op := Op.store _ _ _, type := _, pos := _, after := _, guard := _ } :: _) _ _); refine wpList_store_at rfl rfl rfl (by (try simp only [Act.eval, Array.getD_eq_getD_getElem?, List.getElem?_toArray, List.getElem?_cons_succ, List.getElem?_cons_zero, Option.getD_some]) <;> exact rfl) (by exact rfl) hA (by with_reducible repeat (first | exact Sel.here | apply Sel.there)) (by kernel_rfl) rfl (by first | decide | (simp; done) | omega) ?_; intro w1 hB; clear hF hA; have hA := hB; clear hB; (try simp only [setL, List.set_cons_zero, List.set_cons_succ, List.cons_append, List.nil_append] at hA); (have hF := hA.facts); (try simp only [facts_cons, facts_nil, facts_cells, facts_old, facts_fact, facts_obj, facts_map, facts_iter, facts_row, and_true, true_and] at hF)) | ((with_reducible show wpList _ _ _ ({ dst := _, op := Op.box _ _, type := _, pos := _, after := _, guard := _ } :: _) _ _); refine wpList_box_at rfl rfl (by (try simp only [Act.eval, Array.getD_eq_getD_getElem?, List.getElem?_toArray, List.getElem?_cons_succ, List.getElem?_cons_zero, Option.getD_some]) <;> exact rfl) (by exact rfl) hA ?_; intro b1 w1 hB hb1; clear hF hA; have hA := hB; clear hB; (try simp only [setL, List.set_cons_zero, List.set_cons_succ, List.cons_append, List.nil_append] at hA); (have hF := hA.facts); (try simp only [facts_cons, facts_nil, facts_cells, facts_old, facts_fact, facts_obj, facts_map, facts_iter, facts_row, and_true, true_and] at hF)))
          go_roundg (gk - 1)
          case measure => omega
          case rel => exact ⟨i + 1, s', _, _, by simp, by omega, hI2.out, hFt2.out, hsf3.out, hA.pick (by with_reducible repeat (first | exact Picks.nil | refine Picks.cons (by with_reducible repeat (first | exact Sel.here | apply Sel.there)) ?_))⟩
        · have hi30 : i ≤ 30 := by omega
          have hvn2 := hvn.out
          have hkn2 := hkn.out
          subst hvn2 hkn2
          clear hvn hkn hel' hosz hfo'
          have hsf' := Lib.hid hsf
          clear hsf
          have hF := hA.facts
          (try simp only [setL, List.set_cons_zero, List.set_cons_succ, List.cons_append, List.nil_append] at hA); (have hF := hA.facts); (try simp only [facts_cons, facts_nil, facts_cells, facts_old, facts_fact, facts_obj, facts_map, facts_iter, facts_row, and_true, true_and] at hF)
          go_wp2_with (first | ((with_reducible show wpList _ _ _ ({ dst := _, op := Op.store _ _ _, type := _, pos := _, after := _, guard := _ } :: _) _ _); refine wpList_store_at rfl rfl rfl (by (try simp only [Act.eval, Array.getD_eq_getD_getElem?, List.getElem?_toArray, List.getElem?_cons_succ, List.getElem?_cons_zero, Option.getD_some]) <;> exact rfl) (by exact rfl) hA (by with_reducible repeat (first | exact Sel.here | apply Sel.there)) (by kernel_rfl) rfl (by first | decide | (simp; done) | omega) ?_; intro w1 hB; clear hF hA; have hA := hB; clear hB; (try simp only [setL, List.set_cons_zero, List.set_cons_succ, List.cons_append, List.nil_append] at hA); (have hF := hA.facts); (try simp only [facts_cons, facts_nil, facts_cells, facts_old, facts_fact, facts_obj, facts_map, facts_iter, facts_row, and_true, true_and] at hF)) | ((with_reducible show wpList _ _ _ ({ dst := _, op := Op.box _ _, type := _, pos := _, after := _, guard := _ } :: _) _ _); refine wpList_box_at rfl rfl (by (try simp only [Act.eval, Array.getD_eq_getD_getElem?, List.getElem?_toArray, List.getElem?_cons_succ, List.getElem?_cons_zero, Option.getD_some]) <;> exact rfl) (by exact rfl) hA ?_; intro b1 w1 hB hb1; clear hF hA; have hA := hB; clear hB; (try simp only [setL, List.set_cons_zero, List.set_cons_succ, List.cons_append, List.nil_append] at hA); (have hF := hA.facts); (try simp only [facts_cons, facts_nil, facts_cells, facts_old, facts_fact, facts_obj, facts_map, facts_iter, facts_row, and_true, true_and] at hF)))
          clear hi hik
          have hB := row_nilE (row_nilC hA)
          clear hF hA
          have hA := hB
          clear hB
          have hF := hA.facts
          (try simp only [setL, List.set_cons_zero, List.set_cons_succ, List.cons_append, List.nil_append] at hA); (have hF := hA.facts); (try simp only [facts_cons, facts_nil, facts_cells, facts_old, facts_fact, facts_obj, facts_map, facts_iter, facts_row, and_true, true_and] at hF)
          try go_frame
          go_loopg [60] ot.length (LyTwo w a1 a2 bD bE first s (.slice vx s.es.length vc) (.slice kx s.cs.length kc) ot.length)
          case atStart => exact ⟨0, ⟨first, [], []⟩, _, _, rfl, by simp, inv_new f0 f1, nofun, rfl, hA.pick (by repeat (first | exact Picks.nil | refine Picks.cons (by repeat (first | exact Sel.here | apply Sel.there)) ?_))⟩
          case round =>
            obtain ⟨i2, t, vM, vD, rfl, hik, hJ, hGt, htf, hB⟩ := hrel
            have hJ' := Lib.hid hJ
            have hGt' := Lib.hid hGt
            clear hF hA hJ hGt
            have hA := hB
            clear hB
            obtain ⟨ux, un, uc, hv, hun⟩ := hA.row_hid (v := vM) (n := t.es.length) (xs := flatE t.es) (by with_reducible repeat (first | exact Sel.here | apply Sel.there))
            subst hv
            obtain ⟨jx, jn, jc, hk, hjn⟩ := hA.row_hid (v := vD) (n := t.cs.length) (xs := flatC t.cs) (by with_reducible repeat (first | exact Sel.here | apply Sel.there))
            subst hk
            by_cases hi : i2 < ot.length
            · obtain ⟨b, off, rfl, ⟨c0, c1, c2, c3, c4⟩, hok⟩ := het'.out i2 hi
              have hokp := hotz.out ot[i2] (List.getElem_mem hi)
              have hokf := hft'.out ot[i2] (List.getElem_mem hi)
              obtain ⟨o, hoi⟩ : ∃ o, ot[i2] = o := ⟨_, rfl⟩
              simp only [hoi] at c0 c1 c2 c3 c4 hok hokp hokf
              clear hoi
              have c0 := old_cell (hA.get (A := Part.old w) (by with_reducible repeat (first | exact Sel.here | apply Sel.there))) c0
              have c1 := old_cell (hA.get (A := Part.old w) (by with_reducible repeat (first | exact Sel.here | apply Sel.there))) c1
              have c2 := old_cell (hA.get (A := Part.old w) (by with_reducible repeat (first | exact Sel.here | apply Sel.there))) c2
              have c3 := old_cell (hA.get (A := Part.old w) (by with_reducible repeat (first | exact Sel.here | apply Sel.there))) c3
              have c4 := old_cell (hA.get (A := Part.old w) (by with_reducible repeat (first | exact Sel.here | apply Sel.there))) c4
              have hokk := Lib.hid (show o.ok from ⟨hokp, hok.1, hok.2.1, hok.2.2.1⟩)
              have hGt2 := Lib.hid (feet_step hGt'.out hokf)
              clear hok hokp hokf hGt'
              have hst := fun (w1 : World) (q : Sep [bookS a2 t, rowE (.slice ux un uc) t.es, rowC (.slice jx jn jc) t.cs] w1) => step_any (t := t) q hJ'.out hJ'.out (by omega) (by omega) o hokk.out
              unfold StepPost at hst
              rw [htf] at hst
              have hF := hA.facts
              (try simp only [setL, List.set_cons_zero, List.set_cons_succ, List.cons_append, List.nil_append] at hA); (have hF := hA.facts); (try simp only [facts_cons, facts_nil, facts_cells, facts_old, facts_fact, facts_obj, facts_map, facts_iter, facts_row, and_true, true_and] at hF)
              go_wp2_with (first | ((with_reducible show wpList _ _ _ ({ dst := _, op := Op.store _ _ _, type := _, pos := _, after := _, guard := _ } :: _) _ _); refine wpList_store_at rfl rfl rfl (by (try simp only [Act.eval, Array.getD_eq_getD_getElem?, List.getElem?_toArray, List.getElem?_cons_succ, List.getElem?_cons_zero, Option.getD_some]) <;> exact rfl) (by exact rfl) hA (by with_reducible repeat (first | exact Sel.here | apply Sel.there)) (by kernel_rfl) rfl (by first | decide | (simp; done) | omega) ?_; intro w1 hB; clear hF hA; have hA := hB; clear hB; (try simp only [setL, List.set_cons_zero, List.set_cons_succ, List.cons_append, List.nil_append] at hA); (have hF := hA.facts); (try simp only [facts_cons, facts_nil, facts_cells, facts_old, facts_fact, facts_obj, facts_map, facts_iter, facts_row, and_true, true_and] at hF)) | ((with_reducible show wpList _ _ _ ({ dst := _, op := Op.box _ _, type := _, pos := _, after := _, guard := _ } :: _) _ _); refine wpList_box_at rfl rfl (by (try simp only [Act.eval, Array.getD_eq_getD_getElem?, List.getElem?_toArray, List.getElem?_cons_succ, List.getElem?_cons_zero, Option.getD_some]) <;> exact rfl) (by exact rfl) hA ?_; intro b1 w1 hB hb1; clear hF hA; have hA := hB; clear hB; (try simp only [setL, List.set_cons_zero, List.set_cons_succ, List.cons_append, List.nil_append] at hA); (have hF := hA.facts); (try simp only [facts_cons, facts_nil, facts_cells, facts_old, facts_fact, facts_obj, facts_map, facts_iter, facts_row, and_true, true_and] at hF)) | ((with_reducible show wpList _ _ _ ({ dst := _, op := Op.alloc _, type := _, pos := _, after := _, guard := _ } :: _) _ _); refine wpList_alloc_at (E := 70) (z := .agg #[.int .i64 0, .int .i64 0, .string .empty, .int .u64 0, .string .empty]) (vs := [.int .i64 0, .int .i64 0, .string .empty, .int .u64 0, .string .empty]) rfl rfl (by kernel_rfl) rfl hA ?_; intro b1 w1 hB hb1; clear hF hA; have hA := hB; clear hB; (try simp only [setL, List.set_cons_zero, List.set_cons_succ, List.cons_append, List.nil_append] at hA); (have hF := hA.facts); (try simp only [facts_cons, facts_nil, facts_cells, facts_old, facts_fact, facts_obj, facts_map, facts_iter, facts_row, and_true, true_and] at hF)))
              refine (hst _ (hA.seps (K := [bookS a2 t, rowE (.slice ux un uc) t.es, rowC (.slice jx jn jc) t.cs]) (by with_reducible repeat (first | exact Picks.nil | refine Picks.cons (by with_reducible repeat (first | exact Sel.here | apply Sel.there)) ?_)))).mono ?_
              clear hst
              rintro e w3 ⟨vL', vC', rfl, hT⟩
              have hB := (hA.call3 (A := bookS a2 t) (B := rowE (.slice ux un uc) t.es) (C := rowC (.slice jx jn jc) t.cs) (by with_reducible repeat (first | exact Sel.here | apply Sel.there)) (by with_reducible repeat (first | exact Sel.here | apply Sel.there)) (by with_reducible repeat (first | exact Sel.here | apply Sel.there)) hT)
              have hJ2 := Lib.hid (inv_step hJ'.out hokk.out)
              have htf2 := (first_step t o).trans htf
              clear hF hA hT c0 c1 c2 c3 c4 hJ' hokk htf
              have hA := hB
              clear hB
              simp only [List.cons_append, List.nil_append] at hA
              generalize okB t t o = ob at *
              generalize t.step o = t' at *
              obtain ⟨vx2, vn2, vc2, hv2, hvn2⟩ := hA.row_hid (v := vL') (n := t'.es.length) (xs := flatE t'.es) (by with_reducible repeat (first | exact Sel.here | apply Sel.there))
              subst hv2
              obtain ⟨kx2, kn2, kc2, hk2, hkn2⟩ := hA.row_hid (v := vC') (n := t'.cs.length) (xs := flatC t'.cs) (by with_reducible repeat (first | exact Sel.here | apply Sel.there))
              subst hk2
              have htf3 := Lib.hid htf2
              clear htf2
              have hF := hA.facts
              (try simp only [setL, List.set_cons_zero, List.set_cons_succ, List.cons_append, List.nil_append] at hA); (have hF := hA.facts); (try simp only [facts_cons, facts_nil, facts_cells, facts_old, facts_fact, facts_obj, facts_map, facts_iter, facts_row, and_true, true_and] at hF)
              go_wp2_with (first | ((with_reducible show wpList _ _ _ ({ dst := _, op := Op.store _ _ _, type := _, pos := _, after := _, guard := _ } :: _) _ _); refine wpList_store_at rfl rfl rfl (by (try simp only [Act.eval, Array.getD_eq_getD_getElem?, List.getElem?_toArray, List.getElem?_cons_succ, List.getElem?_cons_zero, Option.getD_some]) <;> exact rfl) (by exact rfl) hA (by with_reducible repeat (first | exact Sel.here | apply Sel.there)) (by kernel_rfl) rfl (by first | decide | (simp; done) | omega) ?_; intro w1 hB; clear hF hA; have hA := hB; clear hB; (try simp only [setL, List.set_cons_zero, List.set_cons_succ, List.cons_append, List.nil_append] at hA); (have hF := hA.facts); (try simp only [facts_cons, facts_nil, facts_cells, facts_old, facts_fact, facts_obj, facts_map, facts_iter, facts_row, and_true, true_and] at hF)) | ((with_reducible show wpList _ _ _ ({ dst := _, op := Op.box _ _, type := _, pos := _, after := _, guard := _ } :: _) _ _); refine wpList_box_at rfl rfl (by (try simp only [Act.eval, Array.getD_eq_getD_getElem?, List.getElem?_toArray, List.getElem?_cons_succ, List.getElem?_cons_zero, Option.getD_some]) <;> exact rfl) (by exact rfl) hA ?_; intro b1 w1 hB hb1; clear hF hA; have hA := hB; clear hB; (try simp only [setL, List.set_cons_zero, List.set_cons_succ, List.cons_append, List.nil_append] at hA); (have hF := hA.facts); (try simp only [facts_cons, facts_nil, facts_cells, facts_old, facts_fact, facts_obj, facts_map, facts_iter, facts_row, and_true, true_and] at hF)))
              go_roundg (gk - 1)
              case measure => omega
              case rel => exact ⟨i2 + 1, t', _, _, by simp, by omega, hJ2.out, hGt2.out, htf3.out, hA.pick (by with_reducible repeat (first | exact Picks.nil | refine Picks.cons (by with_reducible repeat (first | exact Sel.here | apply Sel.there)) ?_))⟩
            · have hj30 : i2 ≤ 30 := by omega
              have hun2 := hun.out
              have hjn2 := hjn.out
              subst hun2 hjn2
              clear hun hjn het' hotz hft'
              have htf' := Lib.hid htf
              clear htf
              have hF := hA.facts
              (try simp only [setL, List.set_cons_zero, List.set_cons_succ, List.cons_append, List.nil_append] at hA); (have hF := hA.facts); (try simp only [facts_cons, facts_nil, facts_cells, facts_old, facts_fact, facts_obj, facts_map, facts_iter, facts_row, and_true, true_and] at hF)
              go_wp2_with (first | (with_reducible show wpList _ _ _ ({ dst := some 73, op := Op.box _ _, type := _, pos := _, after := _, guard := _ } :: _) _ _; ((with_reducible show wpList _ _ _ ({ dst := _, op := Op.box _ _, type := _, pos := _, after := _, guard := _ } :: _) _ _); refine wpList_box_at (E := 76) rfl rfl (by (try simp only [Act.eval, Array.getD_eq_getD_getElem?, List.getElem?_toArray, List.getElem?_cons_succ, List.getElem?_cons_zero, Option.getD_some]) <;> exact rfl) (by exact rfl) hA ?_; intro bO w1 hB hbO; clear hF hA; have hA := hB; clear hB; (try simp only [setL, List.set_cons_zero, List.set_cons_succ, List.cons_append, List.nil_append] at hA); (have hF := hA.facts); (try simp only [facts_cons, facts_nil, facts_cells, facts_old, facts_fact, facts_obj, facts_map, facts_iter, facts_row, and_true, true_and] at hF))) | ((with_reducible show wpList _ _ _ ({ dst := _, op := Op.box _ _, type := _, pos := _, after := _, guard := _ } :: _) _ _); refine wpList_box_at (E := 76) rfl rfl (by (try simp only [Act.eval, Array.getD_eq_getD_getElem?, List.getElem?_toArray, List.getElem?_cons_succ, List.getElem?_cons_zero, Option.getD_some]) <;> exact rfl) (by exact rfl) hA ?_; intro bQ w1 hB hbQ; clear hF hA; have hA := hB; clear hB; (try simp only [setL, List.set_cons_zero, List.set_cons_succ, List.cons_append, List.nil_append] at hA); (have hF := hA.facts); (try simp only [facts_cons, facts_nil, facts_cells, facts_old, facts_fact, facts_obj, facts_map, facts_iter, facts_row, and_true, true_and] at hF)) | ((with_reducible show wpList _ _ _ ({ dst := _, op := Op.store _ _ _, type := _, pos := _, after := _, guard := _ } :: _) _ _); refine wpList_store_at rfl rfl rfl (by (try simp only [Act.eval, Array.getD_eq_getD_getElem?, List.getElem?_toArray, List.getElem?_cons_succ, List.getElem?_cons_zero, Option.getD_some]) <;> exact rfl) (by exact rfl) hA (by with_reducible repeat (first | exact Sel.here | apply Sel.there)) (by kernel_rfl) rfl (by first | decide | (simp; done) | omega) ?_; intro w1 hB; clear hF hA; have hA := hB; clear hB; (try simp only [setL, List.set_cons_zero, List.set_cons_succ, List.cons_append, List.nil_append] at hA); (have hF := hA.facts); (try simp only [facts_cons, facts_nil, facts_cells, facts_old, facts_fact, facts_obj, facts_map, facts_iter, facts_row, and_true, true_and] at hF)) | ((with_reducible show wpList _ _ _ ({ dst := _, op := Op.box _ _, type := _, pos := _, after := _, guard := _ } :: _) _ _); refine wpList_box_at rfl rfl (by (try simp only [Act.eval, Array.getD_eq_getD_getElem?, List.getElem?_toArray, List.getElem?_cons_succ, List.getElem?_cons_zero, Option.getD_some]) <;> exact rfl) (by exact rfl) hA ?_; intro b1 w1 hB hb1; clear hF hA; have hA := hB; clear hB; (try simp only [setL, List.set_cons_zero, List.set_cons_succ, List.cons_append, List.nil_append] at hA); (have hF := hA.facts); (try simp only [facts_cons, facts_nil, facts_cells, facts_old, facts_fact, facts_obj, facts_map, facts_iter, facts_row, and_true, true_and] at hF)))
              clear hi hik
              change At _ _ (_ :: Part.cells bO [.slice none 0 0] 76 :: _) _ at hA
              have hB := rowY_nil (rowY_nil hA)
              clear hF hA
              have hA := hB
              clear hB
              have hF := hA.facts
              (try simp only [setL, List.set_cons_zero, List.set_cons_succ, List.cons_append, List.nil_append] at hA); (have hF := hA.facts); (try simp only [facts_cons, facts_nil, facts_cells, facts_old, facts_fact, facts_obj, facts_map, facts_iter, facts_row, and_true, true_and] at hF)
              refine (put_any (s := s) (hA.seps (K := [bookS a1 s, outC bO (.slice none 0 0), rowY (.slice none 0 0) []]) (by with_reducible repeat (first | exact Picks.nil | refine Picks.cons (by with_reducible repeat (first | exact Sel.here | apply Sel.there)) ?_))) hI'.out hFt'.out (by omega) (by simp)).mono ?_
              rintro e w3 ⟨L1, C1, u1, rfl, hp1, hw1, hq1, hr1, hT⟩
              have hB := hA.call3 (A := bookS a1 s) (B := outC bO (.slice none 0 0)) (C := rowY (.slice none 0 0) []) (by with_reducible repeat (first | exact Sel.here | apply Sel.there)) (by with_reducible repeat (first | exact Sel.here | apply Sel.there)) (by with_reducible repeat (first | exact Sel.here | apply Sel.there)) hT
              have hz1 := Lib.hid (show (L1.Perm s.es ∧ L1.Pairwise ltE) ∧ C1.Perm s.cs ∧ C1.Pairwise ltC from ⟨⟨hp1, hw1⟩, hq1, hr1⟩)
              clear hF hA hT hp1 hw1 hq1 hr1
              have hA := hB
              clear hB
              simp only [List.cons_append, List.nil_append] at hA
              have hF := hA.facts
              (try simp only [setL, List.set_cons_zero, List.set_cons_succ, List.cons_append, List.nil_append] at hA); (have hF := hA.facts); (try simp only [facts_cons, facts_nil, facts_cells, facts_old, facts_fact, facts_obj, facts_map, facts_iter, facts_row, and_true, true_and] at hF)
              go_wp2_with (first | ((with_reducible show wpList _ _ _ ({ dst := _, op := Op.store _ _ _, type := _, pos := _, after := _, guard := _ } :: _) _ _); refine wpList_store_at rfl rfl rfl (by (try simp only [Act.eval, Array.getD_eq_getD_getElem?, List.getElem?_toArray, List.getElem?_cons_succ, List.getElem?_cons_zero, Option.getD_some]) <;> exact rfl) (by exact rfl) hA (by with_reducible repeat (first | exact Sel.here | apply Sel.there)) (by kernel_rfl) rfl (by first | decide | (simp; done) | omega) ?_; intro w1 hB; clear hF hA; have hA := hB; clear hB; (try simp only [setL, List.set_cons_zero, List.set_cons_succ, List.cons_append, List.nil_append] at hA); (have hF := hA.facts); (try simp only [facts_cons, facts_nil, facts_cells, facts_old, facts_fact, facts_obj, facts_map, facts_iter, facts_row, and_true, true_and] at hF)) | ((with_reducible show wpList _ _ _ ({ dst := _, op := Op.box _ _, type := _, pos := _, after := _, guard := _ } :: _) _ _); refine wpList_box_at rfl rfl (by (try simp only [Act.eval, Array.getD_eq_getD_getElem?, List.getElem?_toArray, List.getElem?_cons_succ, List.getElem?_cons_zero, Option.getD_some]) <;> exact rfl) (by exact rfl) hA ?_; intro b1 w1 hB hb1; clear hF hA; have hA := hB; clear hB; (try simp only [setL, List.set_cons_zero, List.set_cons_succ, List.cons_append, List.nil_append] at hA); (have hF := hA.facts); (try simp only [facts_cons, facts_nil, facts_cells, facts_old, facts_fact, facts_obj, facts_map, facts_iter, facts_row, and_true, true_and] at hF)))
              refine (put_any (s := t) (hA.seps (K := [bookS a2 t, outC bQ (.slice none 0 0), rowY (.slice none 0 0) []]) (by with_reducible repeat (first | exact Picks.nil | refine Picks.cons (by with_reducible repeat (first | exact Sel.here | apply Sel.there)) ?_))) hJ'.out hGt'.out (by omega) (by simp)).mono ?_
              rintro e w3 ⟨L2, C2, u2, rfl, hp1, hw1, hq1, hr1, hT⟩
              have hB := hA.call3 (A := bookS a2 t) (B := outC bQ (.slice none 0 0)) (C := rowY (.slice none 0 0) []) (by with_reducible repeat (first | exact Sel.here | apply Sel.there)) (by with_reducible repeat (first | exact Sel.here | apply Sel.there)) (by with_reducible repeat (first | exact Sel.here | apply Sel.there)) hT
              have hz2 := Lib.hid (show (L2.Perm t.es ∧ L2.Pairwise ltE) ∧ C2.Perm t.cs ∧ C2.Pairwise ltC from ⟨⟨hp1, hw1⟩, hq1, hr1⟩)
              clear hF hA hT hp1 hw1 hq1 hr1
              have hA := hB
              clear hB
              simp only [List.cons_append, List.nil_append] at hA
              have hok1 := Lib.hid (hI'.out.okW hFt'.out (by omega))
              have hok2 := Lib.hid (hJ'.out.okW hGt'.out (by omega))
              have henc := Lib.hid (bytes_iff hI'.out hJ'.out hz1.out.1.1 hz2.out.1.1 hz1.out.1.2 hz2.out.1.2 hz1.out.2.1 hz2.out.2.1 hz1.out.2.2 hz2.out.2.2 hok1.out hok2.out)
              have hx1 := Lib.hid (show (encB L1 C1).length ≤ 140000000000000 from by
                have := encB_len (es := L1) (cs := C1) (fun e he => hok1.out e (hz1.out.1.1.mem_iff.1 he)) (fun c hc => hI'.out.okV c (hz1.out.2.1.mem_iff.1 hc)) (by rw [hz1.out.1.1.length_eq]; have := hI'.out.len; omega) (by rw [hz1.out.2.1.length_eq]; have := hI'.out.clen; omega)
                omega)
              have hx2 := Lib.hid (show (encB L2 C2).length ≤ 140000000000000 from by
                have := encB_len (es := L2) (cs := C2) (fun e he => hok2.out e (hz2.out.1.1.mem_iff.1 he)) (fun c hc => hJ'.out.okV c (hz2.out.2.1.mem_iff.1 hc)) (by rw [hz2.out.1.1.length_eq]; have := hJ'.out.len; omega) (by rw [hz2.out.2.1.length_eq]; have := hJ'.out.clen; omega)
                omega)
              generalize encB L1 C1 = l1 at *
              generalize encB L2 C2 = l2 at *
              clear hz1 hz2 hok1 hok2 hsf' htf' hFt' hGt'
              have hB := (hA.pick (K := cmpL_ w bD bE bO bQ first s t (.slice vx s.es.length vc) (.slice kx s.cs.length kc) (.slice ux t.es.length uc) (.slice jx t.cs.length jc) u1 u2 l1 l2) (by repeat (first | exact Picks.nil | refine Picks.cons (by repeat (first | exact Sel.here | apply Sel.there)) ?_)))
              clear hF hA
              have hA := hB
              clear hB
              unfold cmpL_ at hA
              have hls : s.es.length ≤ 30 := by have := hI'.out.len; omega
              have hlt : t.es.length ≤ 30 := by have := hJ'.out.len; omega
              have hcs : s.cs.length ≤ 30 := by have := hI'.out.clen; omega
              have hct : t.cs.length ≤ 30 := by have := hJ'.out.clen; omega
              obtain ⟨q1, hq1⟩ : ∃ q, ((s.es.length : Int) == (t.es.length : Int)) = q := ⟨_, rfl⟩
              obtain ⟨q2, hq2⟩ : ∃ q, ((s.cs.length : Int) == (t.cs.length : Int)) = q := ⟨_, rfl⟩
              have hqi := Lib.hid (show (q1 && q2) = true ↔ s.es.length = t.es.length ∧ s.cs.length = t.cs.length by rw [← hq1, ← hq2]; simp; omega)
              have hF := hA.facts
              (try simp only [setL, List.set_cons_zero, List.set_cons_succ, List.cons_append, List.nil_append] at hA); (have hF := hA.facts); (try simp only [facts_cons, facts_nil, facts_cells, facts_old, facts_fact, facts_obj, facts_map, facts_iter, facts_row, and_true, true_and] at hF)
              cases q1
              all_goals
                go_wp2_with (first | ((with_reducible show wpList _ _ _ ({ dst := _, op := Op.store _ _ _, type := _, pos := _, after := _, guard := _ } :: _) _ _); refine wpList_store_at rfl rfl rfl (by (try simp only [Act.eval, Array.getD_eq_getD_getElem?, List.getElem?_toArray, List.getElem?_cons_succ, List.getElem?_cons_zero, Option.getD_some]) <;> exact rfl) (by exact rfl) hA (by with_reducible repeat (first | exact Sel.here | apply Sel.there)) (by kernel_rfl) rfl (by first | decide | (simp; done) | omega) ?_; intro w1 hB; clear hF hA; have hA := hB; clear hB; (try simp only [setL, List.set_cons_zero, List.set_cons_succ, List.cons_append, List.nil_append] at hA); (have hF := hA.facts); (try simp only [facts_cons, facts_nil, facts_cells, facts_old, facts_fact, facts_obj, facts_map, facts_iter, facts_row, and_true, true_and] at hF)) | ((with_reducible show wpList _ _ _ ({ dst := _, op := Op.box _ _, type := _, pos := _, after := _, guard := _ } :: _) _ _); refine wpList_box_at rfl rfl (by (try simp only [Act.eval, Array.getD_eq_getD_getElem?, List.getElem?_toArray, List.getElem?_cons_succ, List.getElem?_cons_zero, Option.getD_some]) <;> exact rfl) (by exact rfl) hA ?_; intro b1 w1 hB hb1; clear hF hA; have hA := hB; clear hB; (try simp only [setL, List.set_cons_zero, List.set_cons_succ, List.cons_append, List.nil_append] at hA); (have hF := hA.facts); (try simp only [facts_cons, facts_nil, facts_cells, facts_old, facts_fact, facts_obj, facts_map, facts_iter, facts_row, and_true, true_and] at hF)))
                try go_frame
                simp only [Bool.false_and, Bool.true_and] at hqi
                go_loopg [17, 101] s.es.length (fun k x17 x101 wr => LyE w bD bE bO bQ first s t (.slice vx s.es.length vc) (.slice kx s.cs.length kc) (.slice ux t.es.length uc) (.slice jx t.cs.length jc) u1 u2 l1 l2 k x17 x101 wr)
                case atStart => exact ⟨0, _, rfl, rfl, by simp, by rw [hqi.out]; simp, hA⟩
                case round =>
                  obtain ⟨i3, q, rfl, rfl, hik, hqr, hB⟩ := hrel
                  have hqr' := Lib.hid hqr
                  clear hF hA hqr
                  unfold cmpL_ at hB
                  have hA := hB
                  clear hB
                  by_cases hi : i3 < s.es.length
                  · obtain ⟨g, c, rfl, cp1, cm, cl, ct, hB⟩ := hA.row_open (ax := vx) (cap := vc) (n := s.es.length) (xs := flatE s.es) (by with_reducible repeat (first | exact Sel.here | apply Sel.there)) (by omega)
                    have hct2 := ct
                    have hx : s.es[i3]? = some s.es[i3] := List.getElem?_eq_getElem hi
                    have c0 : c[i3 * 6]? = some (.string s.es[i3].path) := cells_at Ent.cells_len hct2 hx 0 (by omega)
                    have c1 : c[i3 * 6 + 1]? = some (.int .u64 s.es[i3].num) := cells_at Ent.cells_len hct2 hx 1 (by omega)
                    have c2 : c[i3 * 6 + 2]? = some (.string s.es[i3].foot) := cells_at Ent.cells_len hct2 hx 2 (by omega)
                    have c3 : c[i3 * 6 + 3]? = some (.int .i64 s.es[i3].mode) := cells_at Ent.cells_len hct2 hx 3 (by omega)
                    have c4 : c[i3 * 6 + 4]? = some (.int .u64 s.es[i3].n) := cells_at Ent.cells_len hct2 hx 4 (by omega)
                    have c5 : c[i3 * 6 + 5]? = some (.int .i64 s.es[i3].stamp) := cells_at Ent.cells_len hct2 hx 5 (by omega)
                    have hst : (q = true ∧ s.es[i3] ∈ t.es) ↔ (s.es.length = t.es.length ∧ s.cs.length = t.cs.length) ∧ ∀ x ∈ s.es.take (i3 + 1), x ∈ t.es := by
                      rw [hqr'.out, mem_step hi, and_assoc]
                    have hfo := found_iff hJ'.out s.es[i3]
                    obtain ⟨x, hxi⟩ : ∃ x, s.es[i3] = x := ⟨_, rfl⟩
                    simp only [hxi] at c0 c1 c2 c3 c4 c5 hst hfo
                    have hst' := Lib.hid hst
                    clear hA hx hxi hct2 hst
                    have hA := hB
                    clear hB
                    have hfd := fun (w1 : World) (q' : Sep [rowE (.slice ux t.es.length uc) t.es] w1) => findR_any q' first (.slice jx t.cs.length jc) ⟨_, _, _, rfl⟩ x.path x.num x.foot (by omega)
                    have hqq : (q = false ∧ ∃ ix, idxD t.es x.path x.num x.foot = ix) ∨ (q = true ∧ idxD t.es x.path x.num x.foot = -1 ∧ x ∉ t.es) ∨ (q = true ∧ ∃ jn, ∃ h : jn < t.es.length, idxD t.es x.path x.num x.foot = (jn : Int) ∧ (t.es[jn] = x ↔ x ∈ t.es)) := by
                      cases q
                      · exact .inl ⟨rfl, _, rfl⟩
                      · rcases hfo with h | h
                        · exact .inr (.inl ⟨rfl, h⟩)
                        · exact .inr (.inr ⟨rfl, h⟩)
                    clear hfo
                    rcases hqq with ⟨rfl, ix, hix⟩ | ⟨rfl, hix, hnm⟩ | ⟨rfl, jn, hjn, hix, hmm⟩
                    · have hnx := Lib.hid (show (false = true ↔ (s.es.length = t.es.length ∧ s.cs.length = t.cs.length) ∧ ∀ x ∈ s.es.take (i3 + 1), x ∈ t.es) from ⟨nofun, fun h => (hst'.out.2 h).1⟩)
                      rw [hix] at hfd
                      clear hix hst'
                      have hF := hA.facts
                      (try simp only [setL, List.set_cons_zero, List.set_cons_succ, List.cons_append, List.nil_append] at hA); (have hF := hA.facts); (try simp only [facts_cons, facts_nil, facts_cells, facts_old, facts_fact, facts_obj, facts_map, facts_iter, facts_row, and_true, true_and] at hF)
                      go_wp2_with (first | ((with_reducible show wpList _ _ _ ({ dst := _, op := Op.alloc _, type := _, pos := _, after := _, guard := _ } :: _) _ _); refine wpList_alloc_at (E := 79) (z := .agg #[.string .empty, .int .u64 0, .string .empty, .int .i64 0, .int .u64 0, .int .i64 0]) (vs := [.string .empty, .int .u64 0, .string .empty, .int .i64 0, .int .u64 0, .int .i64 0]) rfl rfl (by kernel_rfl) rfl hA ?_; intro bX w1 hB hbX; clear hF hA; have hA := hB; clear hB; (try simp only [setL, List.set_cons_zero, List.set_cons_succ, List.cons_append, List.nil_append] at hA); (have hF := hA.facts); (try simp only [facts_cons, facts_nil, facts_cells, facts_old, facts_fact, facts_obj, facts_map, facts_iter, facts_row, and_true, true_and] at hF)) | ((with_reducible show wpList _ _ _ ({ dst := _, op := Op.store _ _ _, type := _, pos := _, after := _, guard := _ } :: _) _ _); refine wpList_store_at rfl rfl rfl (by (try simp only [Act.eval, Array.getD_eq_getD_getElem?, List.getElem?_toArray, List.getElem?_cons_succ, List.getElem?_cons_zero, Option.getD_some]) <;> exact rfl) (by exact rfl) hA (by with_reducible repeat (first | exact Sel.here | apply Sel.there)) (by kernel_rfl) rfl (by first | decide | (simp; done) | omega) ?_; intro w1 hB; clear hF hA; have hA := hB; clear hB; (try simp only [setL, List.set_cons_zero, List.set_cons_succ, List.cons_append, List.nil_append] at hA); (have hF := hA.facts); (try simp only [facts_cons, facts_nil, facts_cells, facts_old, facts_fact, facts_obj, facts_map, facts_iter, facts_row, and_true, true_and] at hF)) | ((with_reducible show wpList _ _ _ ({ dst := _, op := Op.box _ _, type := _, pos := _, after := _, guard := _ } :: _) _ _); refine wpList_box_at rfl rfl (by (try simp only [Act.eval, Array.getD_eq_getD_getElem?, List.getElem?_toArray, List.getElem?_cons_succ, List.getElem?_cons_zero, Option.getD_some]) <;> exact rfl) (by exact rfl) hA ?_; intro b1 w1 hB hb1; clear hF hA; have hA := hB; clear hB; (try simp only [setL, List.set_cons_zero, List.set_cons_succ, List.cons_append, List.nil_append] at hA); (have hF := hA.facts); (try simp only [facts_cons, facts_nil, facts_cells, facts_old, facts_fact, facts_obj, facts_map, facts_iter, facts_row, and_true, true_and] at hF)))
                      refine (hfd _ (hA.sep1 (A := rowE (.slice ux t.es.length uc) t.es) (by with_reducible repeat (first | exact Sel.here | apply Sel.there)))).mono ?_
                      clear hfd
                      rintro e w1 ⟨rfl, hT⟩; have hB := hA.call1 (by with_reducible repeat (first | exact Sel.here | apply Sel.there)) hT; clear hF hA hT; have hA := hB; clear hB; (try simp only [setL, List.set_cons_zero, List.set_cons_succ, List.cons_append, List.nil_append] at hA); (have hF := hA.facts); (try simp only [facts_cons, facts_nil, facts_cells, facts_old, facts_fact, facts_obj, facts_map, facts_iter, facts_row, and_true, true_and] at hF)
                      go_wp2_with (first | ((with_reducible show wpList _ _ _ ({ dst := _, op := Op.store _ _ _, type := _, pos := _, after := _, guard := _ } :: _) _ _); refine wpList_store_at rfl rfl rfl (by (try simp only [Act.eval, Array.getD_eq_getD_getElem?, List.getElem?_toArray, List.getElem?_cons_succ, List.getElem?_cons_zero, Option.getD_some]) <;> exact rfl) (by exact rfl) hA (by with_reducible repeat (first | exact Sel.here | apply Sel.there)) (by kernel_rfl) rfl (by first | decide | (simp; done) | omega) ?_; intro w1 hB; clear hF hA; have hA := hB; clear hB; (try simp only [setL, List.set_cons_zero, List.set_cons_succ, List.cons_append, List.nil_append] at hA); (have hF := hA.facts); (try simp only [facts_cons, facts_nil, facts_cells, facts_old, facts_fact, facts_obj, facts_map, facts_iter, facts_row, and_true, true_and] at hF)) | ((with_reducible show wpList _ _ _ ({ dst := _, op := Op.box _ _, type := _, pos := _, after := _, guard := _ } :: _) _ _); refine wpList_box_at rfl rfl (by (try simp only [Act.eval, Array.getD_eq_getD_getElem?, List.getElem?_toArray, List.getElem?_cons_succ, List.getElem?_cons_zero, Option.getD_some]) <;> exact rfl) (by exact rfl) hA ?_; intro b1 w1 hB hb1; clear hF hA; have hA := hB; clear hB; (try simp only [setL, List.set_cons_zero, List.set_cons_succ, List.cons_append, List.nil_append] at hA); (have hF := hA.facts); (try simp only [facts_cons, facts_nil, facts_cells, facts_old, facts_fact, facts_obj, facts_map, facts_iter, facts_row, and_true, true_and] at hF)))
                      try go_frame
                      (refine wp_region_all (Cl _ _ _) (by kernel_rfl) (by kernel_rfl) (Cl.drew hA) ?_); (have hn1 := Cl.none hA); (have hn2 := Cl.none2 hA); (repeat (first | go_big_quiet_skip | (go_big_quiet_want; (first | (refine quiet_loads_at (ty := 79) (n := 6) rfl rfl (by with_reducible repeat (first | exact Sel.here | apply Sel.there)) (by kernel_rfl) (by kernel_rfl) (by first | assumption | ((try simp only [List.drop_succ_cons, List.drop_zero, List.take_succ_cons, List.take_zero]) <;> exact rfl)) (by exact rfl) ?_; go_frame; go_big_quiet_on) | (refine quiet_load_at rfl rfl (by with_reducible repeat (first | exact Sel.here | apply Sel.there)) (by kernel_rfl) (by first | assumption | exact rfl) ?_; go_frame; go_big_quiet_on) | (go_big_quiet_op; (first | go_big_quiet_on | ((apply Exists.intro); (refine ⟨fun w1 hw => ?_, ?_⟩); (focus ((have hw := Cl.out hw); (fail))); (go_big_quiet_on))))))))
                      (refine wpQuiet_nil ?_); (intro w1 hB); (clear hF hA hn1 hn2); (have hA := Cl.out hB); (clear hB); (try simp only [setL, List.set_cons_zero, List.set_cons_succ, List.cons_append, List.nil_append] at hA); (have hF := hA.facts); (try simp only [facts_cons, facts_nil, facts_cells, facts_old, facts_fact, facts_obj, facts_map, facts_iter, facts_row, and_true, true_and] at hF)
                      go_wp2_with (first | ((with_reducible show wpList _ _ _ ({ dst := _, op := Op.store _ _ _, type := _, pos := _, after := _, guard := _ } :: _) _ _); refine wpList_store_at rfl rfl rfl (by (try simp only [Act.eval, Array.getD_eq_getD_getElem?, List.getElem?_toArray, List.getElem?_cons_succ, List.getElem?_cons_zero, Option.getD_some]) <;> exact rfl) (by exact rfl) hA (by with_reducible repeat (first | exact Sel.here | apply Sel.there)) (by kernel_rfl) rfl (by first | decide | (simp; done) | omega) ?_; intro w1 hB; clear hF hA; have hA := hB; clear hB; (try simp only [setL, List.set_cons_zero, List.set_cons_succ, List.cons_append, List.nil_append] at hA); (have hF := hA.facts); (try simp only [facts_cons, facts_nil, facts_cells, facts_old, facts_fact, facts_obj, facts_map, facts_iter, facts_row, and_true, true_and] at hF)) | ((with_reducible show wpList _ _ _ ({ dst := _, op := Op.box _ _, type := _, pos := _, after := _, guard := _ } :: _) _ _); refine wpList_box_at rfl rfl (by (try simp only [Act.eval, Array.getD_eq_getD_getElem?, List.getElem?_toArray, List.getElem?_cons_succ, List.getElem?_cons_zero, Option.getD_some]) <;> exact rfl) (by exact rfl) hA ?_; intro b1 w1 hB hb1; clear hF hA; have hA := hB; clear hB; (try simp only [setL, List.set_cons_zero, List.set_cons_succ, List.cons_append, List.nil_append] at hA); (have hF := hA.facts); (try simp only [facts_cons, facts_nil, facts_cells, facts_old, facts_fact, facts_obj, facts_map, facts_iter, facts_row, and_true, true_and] at hF)))
                      go_roundg (gk - 1)
                      case measure => omega
                      case rel =>
                        have hS := hA.row_shut (e := 79) (size := 6) (n := s.es.length) (cap := vc) (xs := flatE s.es) (g := g) (c := c) (by with_reducible repeat (first | exact Sel.here | apply Sel.there)) cl cp1 cm ct
                        exact ⟨i3 + 1, _, by simp, rfl, by omega, hnx.out, hS.pick (by repeat (first | exact Picks.nil | refine Picks.cons (by repeat (first | exact Sel.here | apply Sel.there)) ?_))⟩
                    · have hnx := Lib.hid (show (false = true ↔ (s.es.length = t.es.length ∧ s.cs.length = t.cs.length) ∧ ∀ x ∈ s.es.take (i3 + 1), x ∈ t.es) from ⟨nofun, fun h => absurd (hst'.out.2 h).2 hnm⟩)
                      rw [hix] at hfd
                      clear hix hst' hnm
                      have hF := hA.facts
                      (try simp only [setL, List.set_cons_zero, List.set_cons_succ, List.cons_append, List.nil_append] at hA); (have hF := hA.facts); (try simp only [facts_cons, facts_nil, facts_cells, facts_old, facts_fact, facts_obj, facts_map, facts_iter, facts_row, and_true, true_and] at hF)
                      go_wp2_with (first | ((with_reducible show wpList _ _ _ ({ dst := _, op := Op.alloc _, type := _, pos := _, after := _, guard := _ } :: _) _ _); refine wpList_alloc_at (E := 79) (z := .agg #[.string .empty, .int .u64 0, .string .empty, .int .i64 0, .int .u64 0, .int .i64 0]) (vs := [.string .empty, .int .u64 0, .string .empty, .int .i64 0, .int .u64 0, .int .i64 0]) rfl rfl (by kernel_rfl) rfl hA ?_; intro bX w1 hB hbX; clear hF hA; have hA := hB; clear hB; (try simp only [setL, List.set_cons_zero, List.set_cons_succ, List.cons_append, List.nil_append] at hA); (have hF := hA.facts); (try simp only [facts_cons, facts_nil, facts_cells, facts_old, facts_fact, facts_obj, facts_map, facts_iter, facts_row, and_true, true_and] at hF)) | ((with_reducible show wpList _ _ _ ({ dst := _, op := Op.store _ _ _, type := _, pos := _, after := _, guard := _ } :: _) _ _); refine wpList_store_at rfl rfl rfl (by (try simp only [Act.eval, Array.getD_eq_getD_getElem?, List.getElem?_toArray, List.getElem?_cons_succ, List.getElem?_cons_zero, Option.getD_some]) <;> exact rfl) (by exact rfl) hA (by with_reducible repeat (first | exact Sel.here | apply Sel.there)) (by kernel_rfl) rfl (by first | decide | (simp; done) | omega) ?_; intro w1 hB; clear hF hA; have hA := hB; clear hB; (try simp only [setL, List.set_cons_zero, List.set_cons_succ, List.cons_append, List.nil_append] at hA); (have hF := hA.facts); (try simp only [facts_cons, facts_nil, facts_cells, facts_old, facts_fact, facts_obj, facts_map, facts_iter, facts_row, and_true, true_and] at hF)) | ((with_reducible show wpList _ _ _ ({ dst := _, op := Op.box _ _, type := _, pos := _, after := _, guard := _ } :: _) _ _); refine wpList_box_at rfl rfl (by (try simp only [Act.eval, Array.getD_eq_getD_getElem?, List.getElem?_toArray, List.getElem?_cons_succ, List.getElem?_cons_zero, Option.getD_some]) <;> exact rfl) (by exact rfl) hA ?_; intro b1 w1 hB hb1; clear hF hA; have hA := hB; clear hB; (try simp only [setL, List.set_cons_zero, List.set_cons_succ, List.cons_append, List.nil_append] at hA); (have hF := hA.facts); (try simp only [facts_cons, facts_nil, facts_cells, facts_old, facts_fact, facts_obj, facts_map, facts_iter, facts_row, and_true, true_and] at hF)))
                      refine (hfd _ (hA.sep1 (A := rowE (.slice ux t.es.length uc) t.es) (by with_reducible repeat (first | exact Sel.here | apply Sel.there)))).mono ?_
                      clear hfd
                      rintro e w1 ⟨rfl, hT⟩; have hB := hA.call1 (by with_reducible repeat (first | exact Sel.here | apply Sel.there)) hT; clear hF hA hT; have hA := hB; clear hB; (try simp only [setL, List.set_cons_zero, List.set_cons_succ, List.cons_append, List.nil_append] at hA); (have hF := hA.facts); (try simp only [facts_cons, facts_nil, facts_cells, facts_old, facts_fact, facts_obj, facts_map, facts_iter, facts_row, and_true, true_and] at hF)
                      go_wp2_with (first | ((with_reducible show wpList _ _ _ ({ dst := _, op := Op.store _ _ _, type := _, pos := _, after := _, guard := _ } :: _) _ _); refine wpList_store_at rfl rfl rfl (by (try simp only [Act.eval, Array.getD_eq_getD_getElem?, List.getElem?_toArray, List.getElem?_cons_succ, List.getElem?_cons_zero, Option.getD_some]) <;> exact rfl) (by exact rfl) hA (by with_reducible repeat (first | exact Sel.here | apply Sel.there)) (by kernel_rfl) rfl (by first | decide | (simp; done) | omega) ?_; intro w1 hB; clear hF hA; have hA := hB; clear hB; (try simp only [setL, List.set_cons_zero, List.set_cons_succ, List.cons_append, List.nil_append] at hA); (have hF := hA.facts); (try simp only [facts_cons, facts_nil, facts_cells, facts_old, facts_fact, facts_obj, facts_map, facts_iter, facts_row, and_true, true_and] at hF)) | ((with_reducible show wpList _ _ _ ({ dst := _, op := Op.box _ _, type := _, pos := _, after := _, guard := _ } :: _) _ _); refine wpList_box_at rfl rfl (by (try simp only [Act.eval, Array.getD_eq_getD_getElem?, List.getElem?_toArray, List.getElem?_cons_succ, List.getElem?_cons_zero, Option.getD_some]) <;> exact rfl) (by exact rfl) hA ?_; intro b1 w1 hB hb1; clear hF hA; have hA := hB; clear hB; (try simp only [setL, List.set_cons_zero, List.set_cons_succ, List.cons_append, List.nil_append] at hA); (have hF := hA.facts); (try simp only [facts_cons, facts_nil, facts_cells, facts_old, facts_fact, facts_obj, facts_map, facts_iter, facts_row, and_true, true_and] at hF)))
                      try go_frame
                      (refine wp_region_all (Cl _ _ _) (by kernel_rfl) (by kernel_rfl) (Cl.drew hA) ?_); (have hn1 := Cl.none hA); (have hn2 := Cl.none2 hA); (repeat (first | go_big_quiet_skip | (go_big_quiet_want; (first | (refine quiet_loads_at (ty := 79) (n := 6) rfl rfl (by with_reducible repeat (first | exact Sel.here | apply Sel.there)) (by kernel_rfl) (by kernel_rfl) (by first | assumption | ((try simp only [List.drop_succ_cons, List.drop_zero, List.take_succ_cons, List.take_zero]) <;> exact rfl)) (by exact rfl) ?_; go_frame; go_big_quiet_on) | (refine quiet_load_at rfl rfl (by with_reducible repeat (first | exact Sel.here | apply Sel.there)) (by kernel_rfl) (by first | assumption | exact rfl) ?_; go_frame; go_big_quiet_on) | (go_big_quiet_op; (first | go_big_quiet_on | ((apply Exists.intro); (refine ⟨fun w1 hw => ?_, ?_⟩); (focus ((have hw := Cl.out hw); (fail))); (go_big_quiet_on))))))))
                      (refine wpQuiet_nil ?_); (intro w1 hB); (clear hF hA hn1 hn2); (have hA := Cl.out hB); (clear hB); (try simp only [setL, List.set_cons_zero, List.set_cons_succ, List.cons_append, List.nil_append] at hA); (have hF := hA.facts); (try simp only [facts_cons, facts_nil, facts_cells, facts_old, facts_fact, facts_obj, facts_map, facts_iter, facts_row, and_true, true_and] at hF)
                      go_wp2_with (first | ((with_reducible show wpList _ _ _ ({ dst := _, op := Op.store _ _ _, type := _, pos := _, after := _, guard := _ } :: _) _ _); refine wpList_store_at rfl rfl rfl (by (try simp only [Act.eval, Array.getD_eq_getD_getElem?, List.getElem?_toArray, List.getElem?_cons_succ, List.getElem?_cons_zero, Option.getD_some]) <;> exact rfl) (by exact rfl) hA (by with_reducible repeat (first | exact Sel.here | apply Sel.there)) (by kernel_rfl) rfl (by first | decide | (simp; done) | omega) ?_; intro w1 hB; clear hF hA; have hA := hB; clear hB; (try simp only [setL, List.set_cons_zero, List.set_cons_succ, List.cons_append, List.nil_append] at hA); (have hF := hA.facts); (try simp only [facts_cons, facts_nil, facts_cells, facts_old, facts_fact, facts_obj, facts_map, facts_iter, facts_row, and_true, true_and] at hF)) | ((with_reducible show wpList _ _ _ ({ dst := _, op := Op.box _ _, type := _, pos := _, after := _, guard := _ } :: _) _ _); refine wpList_box_at rfl rfl (by (try simp only [Act.eval, Array.getD_eq_getD_getElem?, List.getElem?_toArray, List.getElem?_cons_succ, List.getElem?_cons_zero, Option.getD_some]) <;> exact rfl) (by exact rfl) hA ?_; intro b1 w1 hB hb1; clear hF hA; have hA := hB; clear hB; (try simp only [setL, List.set_cons_zero, List.set_cons_succ, List.cons_append, List.nil_append] at hA); (have hF := hA.facts); (try simp only [facts_cons, facts_nil, facts_cells, facts_old, facts_fact, facts_obj, facts_map, facts_iter, facts_row, and_true, true_and] at hF)))
                      go_roundg (gk - 1)
                      case measure => omega
                      case rel =>
                        have hS := hA.row_shut (e := 79) (size := 6) (n := s.es.length) (cap := vc) (xs := flatE s.es) (g := g) (c := c) (by with_reducible repeat (first | exact Sel.here | apply Sel.there)) cl cp1 cm ct
                        exact ⟨i3 + 1, _, by simp, rfl, by omega, hnx.out, hS.pick (by repeat (first | exact Picks.nil | refine Picks.cons (by repeat (first | exact Sel.here | apply Sel.there)) ?_))⟩
                    · have hnx := Lib.hid (show (decide (t.es[jn] = x) = true ↔ (s.es.length = t.es.length ∧ s.cs.length = t.cs.length) ∧ ∀ x ∈ s.es.take (i3 + 1), x ∈ t.es) from by rw [decide_eq_true_iff, hmm, ← hst'.out]; simp)
                      rw [hix] at hfd
                      obtain ⟨ge, hge⟩ := Lock.At.row_some hA (E := 79) (size := 6) (n := t.es.length) (cap := uc) (ax := ux) (xs := flatE t.es) (by with_reducible repeat (first | exact Sel.here | apply Sel.there)) (by omega)
                      subst hge
                      have hvE : ((flatE t.es).drop (jn * 6)).take 6 = (t.es[jn]).cells := row_cells Ent.cells_len (c := flatE t.es) (l := t.es) (by rw [← flatE_len, List.take_length]; rfl) (List.getElem?_eq_getElem hjn)
                      have hleE : jn * 6 + 6 ≤ t.es.length * 6 := by omega
                      have hpos : 0 < t.es.length := by omega
                      have hj30 : jn < 30 := by omega
                      have heq := fun w1 => eqlR t.es[jn] x w1
                      obtain ⟨y, hy⟩ : ∃ y, t.es[jn] = y := ⟨_, rfl⟩
                      simp only [hy] at hnx hvE heq
                      have hge0 : decide ((jn : Int) ≥ 0) = true := decide_eq_true (by omega)
                      have hmax : max (jn : Int) 0 = jn := by omega
                      have hjlt : (jn : Int) < (t.es.length : Int) := by omega
                      unfold Ent.cells at hvE
                      simp only [Ent.val] at heq
                      generalize decide (y = x) = yx at *
                      clear hix hst' hmm hy
                      have hF := hA.facts
                      (try simp only [setL, List.set_cons_zero, List.set_cons_succ, List.cons_append, List.nil_append] at hA); (have hF := hA.facts); (try simp only [facts_cons, facts_nil, facts_cells, facts_old, facts_fact, facts_obj, facts_map, facts_iter, facts_row, and_true, true_and] at hF)
                      go_wp2_with (first | ((with_reducible show wpList _ _ _ ({ dst := _, op := Op.alloc _, type := _, pos := _, after := _, guard := _ } :: _) _ _); refine wpList_alloc_at (E := 79) (z := .agg #[.string .empty, .int .u64 0, .string .empty, .int .i64 0, .int .u64 0, .int .i64 0]) (vs := [.string .empty, .int .u64 0, .string .empty, .int .i64 0, .int .u64 0, .int .i64 0]) rfl rfl (by kernel_rfl) rfl hA ?_; intro bX w1 hB hbX; clear hF hA; have hA := hB; clear hB; (try simp only [setL, List.set_cons_zero, List.set_cons_succ, List.cons_append, List.nil_append] at hA); (have hF := hA.facts); (try simp only [facts_cons, facts_nil, facts_cells, facts_old, facts_fact, facts_obj, facts_map, facts_iter, facts_row, and_true, true_and] at hF)) | ((with_reducible show wpList _ _ _ ({ dst := _, op := Op.store _ _ _, type := _, pos := _, after := _, guard := _ } :: _) _ _); refine wpList_store_at rfl rfl rfl (by (try simp only [Act.eval, Array.getD_eq_getD_getElem?, List.getElem?_toArray, List.getElem?_cons_succ, List.getElem?_cons_zero, Option.getD_some]) <;> exact rfl) (by exact rfl) hA (by with_reducible repeat (first | exact Sel.here | apply Sel.there)) (by kernel_rfl) rfl (by first | decide | (simp; done) | omega) ?_; intro w1 hB; clear hF hA; have hA := hB; clear hB; (try simp only [setL, List.set_cons_zero, List.set_cons_succ, List.cons_append, List.nil_append] at hA); (have hF := hA.facts); (try simp only [facts_cons, facts_nil, facts_cells, facts_old, facts_fact, facts_obj, facts_map, facts_iter, facts_row, and_true, true_and] at hF)) | ((with_reducible show wpList _ _ _ ({ dst := _, op := Op.box _ _, type := _, pos := _, after := _, guard := _ } :: _) _ _); refine wpList_box_at rfl rfl (by (try simp only [Act.eval, Array.getD_eq_getD_getElem?, List.getElem?_toArray, List.getElem?_cons_succ, List.getElem?_cons_zero, Option.getD_some]) <;> exact rfl) (by exact rfl) hA ?_; intro b1 w1 hB hb1; clear hF hA; have hA := hB; clear hB; (try simp only [setL, List.set_cons_zero, List.set_cons_succ, List.cons_append, List.nil_append] at hA); (have hF := hA.facts); (try simp only [facts_cons, facts_nil, facts_cells, facts_old, facts_fact, facts_obj, facts_map, facts_iter, facts_row, and_true, true_and] at hF)))
                      refine (hfd _ (hA.sep1 (A := rowE (.slice (some ⟨ge, 0, none⟩) t.es.length uc) t.es) (by with_reducible repeat (first | exact Sel.here | apply Sel.there)))).mono ?_
                      clear hfd
                      rintro e w1 ⟨rfl, hT⟩; have hB := hA.call1 (by with_reducible repeat (first | exact Sel.here | apply Sel.there)) hT; clear hF hA hT; have hA := hB; clear hB; (try simp only [setL, List.set_cons_zero, List.set_cons_succ, List.cons_append, List.nil_append] at hA); (have hF := hA.facts); (try simp only [facts_cons, facts_nil, facts_cells, facts_old, facts_fact, facts_obj, facts_map, facts_iter, facts_row, and_true, true_and] at hF)
                      go_wp2_with (first | ((with_reducible show wpList _ _ _ ({ dst := _, op := Op.store _ _ _, type := _, pos := _, after := _, guard := _ } :: _) _ _); refine wpList_store_at rfl rfl rfl (by (try simp only [Act.eval, Array.getD_eq_getD_getElem?, List.getElem?_toArray, List.getElem?_cons_succ, List.getElem?_cons_zero, Option.getD_some]) <;> exact rfl) (by exact rfl) hA (by with_reducible repeat (first | exact Sel.here | apply Sel.there)) (by kernel_rfl) rfl (by first | decide | (simp; done) | omega) ?_; intro w1 hB; clear hF hA; have hA := hB; clear hB; (try simp only [setL, List.set_cons_zero, List.set_cons_succ, List.cons_append, List.nil_append] at hA); (have hF := hA.facts); (try simp only [facts_cons, facts_nil, facts_cells, facts_old, facts_fact, facts_obj, facts_map, facts_iter, facts_row, and_true, true_and] at hF)) | ((with_reducible show wpList _ _ _ ({ dst := _, op := Op.box _ _, type := _, pos := _, after := _, guard := _ } :: _) _ _); refine wpList_box_at rfl rfl (by (try simp only [Act.eval, Array.getD_eq_getD_getElem?, List.getElem?_toArray, List.getElem?_cons_succ, List.getElem?_cons_zero, Option.getD_some]) <;> exact rfl) (by exact rfl) hA ?_; intro b1 w1 hB hb1; clear hF hA; have hA := hB; clear hB; (try simp only [setL, List.set_cons_zero, List.set_cons_succ, List.cons_append, List.nil_append] at hA); (have hF := hA.facts); (try simp only [facts_cons, facts_nil, facts_cells, facts_old, facts_fact, facts_obj, facts_map, facts_iter, facts_row, and_true, true_and] at hF)))
                      try go_frame
                      (refine wp_region_all (Cl _ _ _) (by kernel_rfl) (by kernel_rfl) (Cl.drew hA) ?_); (have hn1 := Cl.none hA); (have hn2 := Cl.none2 hA); (repeat (first | go_big_quiet_skip | (go_big_quiet_want; (first | (refine quiet_loads_at (ty := 79) (n := 6) rfl rfl (by with_reducible repeat (first | exact Sel.here | apply Sel.there)) (by kernel_rfl) (by kernel_rfl) (by first | assumption | ((try simp only [List.drop_succ_cons, List.drop_zero, List.take_succ_cons, List.take_zero]) <;> exact rfl)) (by exact rfl) ?_; go_frame; go_big_quiet_on) | (refine quiet_rowload_at (ty := 79) (E := 79) (size := 6) (n := t.es.length) (cap := uc) (g := ge) (xs := flatE t.es) rfl (by (try simp only [Act.eval, Array.getD_eq_getD_getElem?, List.getElem?_toArray, List.getElem?_cons_succ, List.getElem?_cons_zero, Option.getD_some]) <;> exact rfl) (by with_reducible repeat (first | exact Sel.here | apply Sel.there)) hpos (by kernel_rfl) (by kernel_rfl) hvE rfl hleE ?_; go_frame; go_big_quiet_on) | (refine quiet_load_at rfl rfl (by with_reducible repeat (first | exact Sel.here | apply Sel.there)) (by kernel_rfl) (by first | assumption | exact rfl) ?_; go_frame; go_big_quiet_on) | (go_big_quiet_op; (first | go_big_quiet_on | ((apply Exists.intro); (refine ⟨fun w1 hw => ?_, ?_⟩); (focus ((have hw := Cl.out hw); (fail))); (go_big_quiet_on))))))))
                      (refine wpQuiet_nil ?_); (intro w1 hB); (clear hF hA hn1 hn2); (have hA := Cl.out hB); (clear hB); (try simp only [setL, List.set_cons_zero, List.set_cons_succ, List.cons_append, List.nil_append] at hA); (have hF := hA.facts); (try simp only [facts_cons, facts_nil, facts_cells, facts_old, facts_fact, facts_obj, facts_map, facts_iter, facts_row, and_true, true_and] at hF)
                      go_wp2_with (first | ((with_reducible show wpList _ _ _ ({ dst := _, op := Op.store _ _ _, type := _, pos := _, after := _, guard := _ } :: _) _ _); refine wpList_store_at rfl rfl rfl (by (try simp only [Act.eval, Array.getD_eq_getD_getElem?, List.getElem?_toArray, List.getElem?_cons_succ, List.getElem?_cons_zero, Option.getD_some]) <;> exact rfl) (by exact rfl) hA (by with_reducible repeat (first | exact Sel.here | apply Sel.there)) (by kernel_rfl) rfl (by first | decide | (simp; done) | omega) ?_; intro w1 hB; clear hF hA; have hA := hB; clear hB; (try simp only [setL, List.set_cons_zero, List.set_cons_succ, List.cons_append, List.nil_append] at hA); (have hF := hA.facts); (try simp only [facts_cons, facts_nil, facts_cells, facts_old, facts_fact, facts_obj, facts_map, facts_iter, facts_row, and_true, true_and] at hF)) | ((with_reducible show wpList _ _ _ ({ dst := _, op := Op.box _ _, type := _, pos := _, after := _, guard := _ } :: _) _ _); refine wpList_box_at rfl rfl (by (try simp only [Act.eval, Array.getD_eq_getD_getElem?, List.getElem?_toArray, List.getElem?_cons_succ, List.getElem?_cons_zero, Option.getD_some]) <;> exact rfl) (by exact rfl) hA ?_; intro b1 w1 hB hb1; clear hF hA; have hA := hB; clear hB; (try simp only [setL, List.set_cons_zero, List.set_cons_succ, List.cons_append, List.nil_append] at hA); (have hF := hA.facts); (try simp only [facts_cons, facts_nil, facts_cells, facts_old, facts_fact, facts_obj, facts_map, facts_iter, facts_row, and_true, true_and] at hF)))
                      go_roundg (gk - 1)
                      case measure => omega
                      case rel =>
                        have hS := hA.row_shut (e := 79) (size := 6) (n := s.es.length) (cap := vc) (xs := flatE s.es) (g := g) (c := c) (by with_reducible repeat (first | exact Sel.here | apply Sel.there)) cl cp1 cm ct
                        exact ⟨i3 + 1, _, by simp, rfl, by omega, hnx.out, hS.pick (by repeat (first | exact Picks.nil | refine Picks.cons (by repeat (first | exact Sel.here | apply Sel.there)) ?_))⟩
                  · have hqr2 := hqr'.out
                    rw [List.take_of_length_le (by omega)] at hqr2
                    have hqe := Lib.hid hqr2
                    clear hqr2 hqr' hqi
                    have hF := hA.facts
                    (try simp only [setL, List.set_cons_zero, List.set_cons_succ, List.cons_append, List.nil_append] at hA); (have hF := hA.facts); (try simp only [facts_cons, facts_nil, facts_cells, facts_old, facts_fact, facts_obj, facts_map, facts_iter, facts_row, and_true, true_and] at hF)
                    go_wp2_with (first | ((with_reducible show wpList _ _ _ ({ dst := _, op := Op.store _ _ _, type := _, pos := _, after := _, guard := _ } :: _) _ _); refine wpList_store_at rfl rfl rfl (by (try simp only [Act.eval, Array.getD_eq_getD_getElem?, List.getElem?_toArray, List.getElem?_cons_succ, List.getElem?_cons_zero, Option.getD_some]) <;> exact rfl) (by exact rfl) hA (by with_reducible repeat (first | exact Sel.here | apply Sel.there)) (by kernel_rfl) rfl (by first | decide | (simp; done) | omega) ?_; intro w1 hB; clear hF hA; have hA := hB; clear hB; (try simp only [setL, List.set_cons_zero, List.set_cons_succ, List.cons_append, List.nil_append] at hA); (have hF := hA.facts); (try simp only [facts_cons, facts_nil, facts_cells, facts_old, facts_fact, facts_obj, facts_map, facts_iter, facts_row, and_true, true_and] at hF)) | ((with_reducible show wpList _ _ _ ({ dst := _, op := Op.box _ _, type := _, pos := _, after := _, guard := _ } :: _) _ _); refine wpList_box_at rfl rfl (by (try simp only [Act.eval, Array.getD_eq_getD_getElem?, List.getElem?_toArray, List.getElem?_cons_succ, List.getElem?_cons_zero, Option.getD_some]) <;> exact rfl) (by exact rfl) hA ?_; intro b1 w1 hB hb1; clear hF hA; have hA := hB; clear hB; (try simp only [setL, List.set_cons_zero, List.set_cons_succ, List.cons_append, List.nil_append] at hA); (have hF := hA.facts); (try simp only [facts_cons, facts_nil, facts_cells, facts_old, facts_fact, facts_obj, facts_map, facts_iter, facts_row, and_true, true_and] at hF)))
                    try go_frame
                    go_loopg [17, 132] s.cs.length (fun k x17 x132 wr => LyC w bD bE bO bQ first s t (.slice vx s.es.length vc) (.slice kx s.cs.length kc) (.slice ux t.es.length uc) (.slice jx t.cs.length jc) u1 u2 l1 l2 k x17 x132 wr)
                    case atStart => exact ⟨0, _, rfl, rfl, by simp, by rw [hqe.out]; simp, hA⟩
                    case round =>
                      obtain ⟨i4, q4, rfl, rfl, hik, hqr, hB⟩ := hrel
                      have hqr' := Lib.hid hqr
                      clear hF hA hqr
                      unfold cmpL_ at hB
                      have hA := hB
                      clear hB
                      by_cases hi : i4 < s.cs.length
                      · obtain ⟨g, c, rfl, cp1, cm, cl, ct, hB⟩ := hA.row_open (ax := kx) (cap := kc) (n := s.cs.length) (xs := flatC s.cs) (by with_reducible repeat (first | exact Sel.here | apply Sel.there)) (by omega)
                        have hct2 := ct
                        have hx : s.cs[i4]? = some s.cs[i4] := List.getElem?_eq_getElem hi
                        have c0 : c[i4 * 2]? = some (.string s.cs[i4].1) := cells_at ctrL_len hct2 hx 0 (by omega)
                        have c1 : c[i4 * 2 + 1]? = some (.int .u64 s.cs[i4].2) := cells_at ctrL_len hct2 hx 1 (by omega)
                        have hst : (q4 = true ∧ s.cs[i4] ∈ t.cs) ↔ ((s.es.length = t.es.length ∧ s.cs.length = t.cs.length) ∧ ∀ x ∈ s.es, x ∈ t.es) ∧ ∀ c ∈ s.cs.take (i4 + 1), c ∈ t.cs := by
                          rw [hqr'.out, mem_step hi, and_assoc (a := (s.es.length = t.es.length ∧ s.cs.length = t.cs.length) ∧ ∀ x ∈ s.es, x ∈ t.es)]
                        obtain ⟨x, hxi⟩ : ∃ x, s.cs[i4] = x := ⟨_, rfl⟩
                        simp only [hxi] at c0 c1 hst
                        have hst' := Lib.hid hst
                        clear hA hx hxi hct2 hst hqr'
                        have hA := hB
                        clear hB
                        obtain ⟨xp, xn⟩ := x
                        simp only at c0 c1
                        have hF := hA.facts
                        (try simp only [setL, List.set_cons_zero, List.set_cons_succ, List.cons_append, List.nil_append] at hA); (have hF := hA.facts); (try simp only [facts_cons, facts_nil, facts_cells, facts_old, facts_fact, facts_obj, facts_map, facts_iter, facts_row, and_true, true_and] at hF)
                        go_wp2_with (first | ((with_reducible show wpList _ _ _ ({ dst := _, op := Op.alloc _, type := _, pos := _, after := _, guard := _ } :: _) _ _); refine wpList_alloc_at (E := 82) (z := .agg #[.string .empty, .int .u64 0]) (vs := [.string .empty, .int .u64 0]) rfl rfl (by kernel_rfl) rfl hA ?_; intro bC w1 hB hbC; clear hF hA; have hA := hB; clear hB; (try simp only [setL, List.set_cons_zero, List.set_cons_succ, List.cons_append, List.nil_append] at hA); (have hF := hA.facts); (try simp only [facts_cons, facts_nil, facts_cells, facts_old, facts_fact, facts_obj, facts_map, facts_iter, facts_row, and_true, true_and] at hF)) | ((with_reducible show wpList _ _ _ ({ dst := _, op := Op.store _ _ _, type := _, pos := _, after := _, guard := _ } :: _) _ _); refine wpList_store_at rfl rfl rfl (by (try simp only [Act.eval, Array.getD_eq_getD_getElem?, List.getElem?_toArray, List.getElem?_cons_succ, List.getElem?_cons_zero, Option.getD_some]) <;> exact rfl) (by exact rfl) hA (by with_reducible repeat (first | exact Sel.here | apply Sel.there)) (by kernel_rfl) rfl (by first | decide | (simp; done) | omega) ?_; intro w1 hB; clear hF hA; have hA := hB; clear hB; (try simp only [setL, List.set_cons_zero, List.set_cons_succ, List.cons_append, List.nil_append] at hA); (have hF := hA.facts); (try simp only [facts_cons, facts_nil, facts_cells, facts_old, facts_fact, facts_obj, facts_map, facts_iter, facts_row, and_true, true_and] at hF)) | ((with_reducible show wpList _ _ _ ({ dst := _, op := Op.box _ _, type := _, pos := _, after := _, guard := _ } :: _) _ _); refine wpList_box_at rfl rfl (by (try simp only [Act.eval, Array.getD_eq_getD_getElem?, List.getElem?_toArray, List.getElem?_cons_succ, List.getElem?_cons_zero, Option.getD_some]) <;> exact rfl) (by exact rfl) hA ?_; intro b1 w1 hB hb1; clear hF hA; have hA := hB; clear hB; (try simp only [setL, List.set_cons_zero, List.set_cons_succ, List.cons_append, List.nil_append] at hA); (have hF := hA.facts); (try simp only [facts_cons, facts_nil, facts_cells, facts_old, facts_fact, facts_obj, facts_map, facts_iter, facts_row, and_true, true_and] at hF)))
                        try go_frame
                        go_loopg [23, 139] t.cs.length (fun k x23 x139 wr => LyF w [Part.cells bC [.string xp, .int .u64 xn] 82, Part.cells g c 82, rowE (.slice vx s.es.length vc) s.es, rowE (.slice ux t.es.length uc) t.es, rowC (.slice jx t.cs.length jc) t.cs, docB bD first (.slice vx s.es.length vc) (.slice (some ⟨g, 0, none⟩) s.cs.length kc), docB bE first (.slice ux t.es.length uc) (.slice jx t.cs.length jc), outC bO u1, outC bQ u2, rowY u1 l1, rowY u2 l2, Part.old w] t.cs (xp, xn) k x23 x139 wr)
                        case atStart => exact ⟨0, false, rfl, rfl, by simp, by simp, hA.pick (by repeat (first | exact Picks.nil | refine Picks.cons (by repeat (first | exact Sel.here | apply Sel.there)) ?_))⟩
                        case round =>
                          obtain ⟨i5, f, rfl, rfl, hjk, hfr, hB⟩ := hrel
                          have hfr' := Lib.hid hfr
                          clear hF hA hfr
                          have hA := hB
                          clear hB
                          by_cases hj : i5 < t.cs.length
                          · obtain ⟨g2, d, rfl, dp1, dm, dl, dt, hB⟩ := hA.row_open (ax := jx) (cap := jc) (n := t.cs.length) (xs := flatC t.cs) (by with_reducible repeat (first | exact Sel.here | apply Sel.there)) (by omega)
                            have hdt2 := dt
                            have hx : t.cs[i5]? = some t.cs[i5] := List.getElem?_eq_getElem hj
                            have d0 : d[i5 * 2]? = some (.string t.cs[i5].1) := cells_at ctrL_len hdt2 hx 0 (by omega)
                            have d1 : d[i5 * 2 + 1]? = some (.int .u64 t.cs[i5].2) := cells_at ctrL_len hdt2 hx 1 (by omega)
                            have hsf2 : (f = true ∨ t.cs[i5] = (xp, xn)) ↔ ∃ x ∈ t.cs.take (i5 + 1), x = (xp, xn) := by
                              rw [hfr'.out, any_step hj]
                            obtain ⟨y, hyi⟩ : ∃ y, t.cs[i5] = y := ⟨_, rfl⟩
                            simp only [hyi] at d0 d1 hsf2
                            obtain ⟨yp, yn⟩ := y
                            simp only at d0 d1
                            have hsf3 := Lib.hid (show (f || (decide (yp = xp) && decide (yn = xn))) = true ↔ ∃ x ∈ t.cs.take (i5 + 1), x = (xp, xn) from by rw [← hsf2]; simp [Prod.mk.injEq])
                            clear hA hx hyi hdt2 hsf2 hfr'
                            have hA := hB
                            clear hB
                            have hF := hA.facts
                            (try simp only [setL, List.set_cons_zero, List.set_cons_succ, List.cons_append, List.nil_append] at hA); (have hF := hA.facts); (try simp only [facts_cons, facts_nil, facts_cells, facts_old, facts_fact, facts_obj, facts_map, facts_iter, facts_row, and_true, true_and] at hF)
                            cases f
                            all_goals
                              go_wp2_with (first | ((with_reducible show wpList _ _ _ ({ dst := _, op := Op.alloc _, type := _, pos := _, after := _, guard := _ } :: _) _ _); refine wpList_alloc_at (E := 82) (z := .agg #[.string .empty, .int .u64 0]) (vs := [.string .empty, .int .u64 0]) rfl rfl (by kernel_rfl) rfl hA ?_; intro bM w1 hB hbM; clear hF hA; have hA := hB; clear hB; (try simp only [setL, List.set_cons_zero, List.set_cons_succ, List.cons_append, List.nil_append] at hA); (have hF := hA.facts); (try simp only [facts_cons, facts_nil, facts_cells, facts_old, facts_fact, facts_obj, facts_map, facts_iter, facts_row, and_true, true_and] at hF)) | ((with_reducible show wpList _ _ _ ({ dst := _, op := Op.store _ _ _, type := _, pos := _, after := _, guard := _ } :: _) _ _); refine wpList_store_at rfl rfl rfl (by (try simp only [Act.eval, Array.getD_eq_getD_getElem?, List.getElem?_toArray, List.getElem?_cons_succ, List.getElem?_cons_zero, Option.getD_some]) <;> exact rfl) (by exact rfl) hA (by with_reducible repeat (first | exact Sel.here | apply Sel.there)) (by kernel_rfl) rfl (by first | decide | (simp; done) | omega) ?_; intro w1 hB; clear hF hA; have hA := hB; clear hB; (try simp only [setL, List.set_cons_zero, List.set_cons_succ, List.cons_append, List.nil_append] at hA); (have hF := hA.facts); (try simp only [facts_cons, facts_nil, facts_cells, facts_old, facts_fact, facts_obj, facts_map, facts_iter, facts_row, and_true, true_and] at hF)) | ((with_reducible show wpList _ _ _ ({ dst := _, op := Op.box _ _, type := _, pos := _, after := _, guard := _ } :: _) _ _); refine wpList_box_at rfl rfl (by (try simp only [Act.eval, Array.getD_eq_getD_getElem?, List.getElem?_toArray, List.getElem?_cons_succ, List.getElem?_cons_zero, Option.getD_some]) <;> exact rfl) (by exact rfl) hA ?_; intro b1 w1 hB hb1; clear hF hA; have hA := hB; clear hB; (try simp only [setL, List.set_cons_zero, List.set_cons_succ, List.cons_append, List.nil_append] at hA); (have hF := hA.facts); (try simp only [facts_cons, facts_nil, facts_cells, facts_old, facts_fact, facts_obj, facts_map, facts_iter, facts_row, and_true, true_and] at hF)))
                              go_roundg (gk - 1)
                              case measure => omega
                              case rel =>
                                have hS := hA.row_shut (e := 82) (size := 2) (n := t.cs.length) (cap := jc) (xs := flatC t.cs) (g := g2) (c := d) (by with_reducible repeat (first | exact Sel.here | apply Sel.there)) dl dp1 dm dt
                                exact ⟨i5 + 1, _, by simp, rfl, by omega, hsf3.out, hS.pick (by repeat (first | exact Picks.nil | refine Picks.cons (by repeat (first | exact Sel.here | apply Sel.there)) ?_))⟩
                          · have hfr2 := hfr'.out
                            rw [List.take_of_length_le (by omega)] at hfr2
                            have hnx := Lib.hid (show (q4 && f) = true ↔ ((s.es.length = t.es.length ∧ s.cs.length = t.cs.length) ∧ ∀ x ∈ s.es, x ∈ t.es) ∧ ∀ c ∈ s.cs.take (i4 + 1), c ∈ t.cs from by
                              rw [← hst'.out, Bool.and_eq_true, hfr2]
                              simp)
                            clear hfr2 hfr' hst'
                            have hF := hA.facts
                            (try simp only [setL, List.set_cons_zero, List.set_cons_succ, List.cons_append, List.nil_append] at hA); (have hF := hA.facts); (try simp only [facts_cons, facts_nil, facts_cells, facts_old, facts_fact, facts_obj, facts_map, facts_iter, facts_row, and_true, true_and] at hF)
                            cases q4
                            all_goals
                              simp only [Bool.false_and, Bool.true_and] at hnx
                              go_wp2_with (first | ((with_reducible show wpList _ _ _ ({ dst := _, op := Op.store _ _ _, type := _, pos := _, after := _, guard := _ } :: _) _ _); refine wpList_store_at rfl rfl rfl (by (try simp only [Act.eval, Array.getD_eq_getD_getElem?, List.getElem?_toArray, List.getElem?_cons_succ, List.getElem?_cons_zero, Option.getD_some]) <;> exact rfl) (by exact rfl) hA (by with_reducible repeat (first | exact Sel.here | apply Sel.there)) (by kernel_rfl) rfl (by first | decide | (simp; done) | omega) ?_; intro w1 hB; clear hF hA; have hA := hB; clear hB; (try simp only [setL, List.set_cons_zero, List.set_cons_succ, List.cons_append, List.nil_append] at hA); (have hF := hA.facts); (try simp only [facts_cons, facts_nil, facts_cells, facts_old, facts_fact, facts_obj, facts_map, facts_iter, facts_row, and_true, true_and] at hF)) | ((with_reducible show wpList _ _ _ ({ dst := _, op := Op.box _ _, type := _, pos := _, after := _, guard := _ } :: _) _ _); refine wpList_box_at rfl rfl (by (try simp only [Act.eval, Array.getD_eq_getD_getElem?, List.getElem?_toArray, List.getElem?_cons_succ, List.getElem?_cons_zero, Option.getD_some]) <;> exact rfl) (by exact rfl) hA ?_; intro b1 w1 hB hb1; clear hF hA; have hA := hB; clear hB; (try simp only [setL, List.set_cons_zero, List.set_cons_succ, List.cons_append, List.nil_append] at hA); (have hF := hA.facts); (try simp only [facts_cons, facts_nil, facts_cells, facts_old, facts_fact, facts_obj, facts_map, facts_iter, facts_row, and_true, true_and] at hF)))
                              go_roundg (s.cs.length - (i4 + 1))
                              case measure => omega
                              case rel =>
                                have hS := hA.row_shut (e := 82) (size := 2) (n := s.cs.length) (cap := kc) (xs := flatC s.cs) (g := g) (c := c) (by with_reducible repeat (first | exact Sel.here | apply Sel.there)) cl cp1 cm ct
                                exact ⟨i4 + 1, _, by simp, rfl, by omega, hnx.out, hS.pick (by repeat (first | exact Picks.nil | refine Picks.cons (by repeat (first | exact Sel.here | apply Sel.there)) ?_))⟩
                      · have hfin : decide (l1 = l2) = q4 := by
                          have h1 := hqr'.out
                          rw [List.take_of_length_le (by omega)] at h1
                          rw [Bool.eq_iff_iff, decide_eq_true_iff, henc.out, h1]
                          unfold Alike
                          constructor
                          · rintro ⟨a, b, c⟩; exact ⟨⟨a, b⟩, c⟩
                          · rintro ⟨⟨a, b⟩, c⟩; exact ⟨a, b, c⟩
                        have hfin' := Lib.hid hfin
                        clear hfin
                        have hF := hA.facts
                        (try simp only [setL, List.set_cons_zero, List.set_cons_succ, List.cons_append, List.nil_append] at hA); (have hF := hA.facts); (try simp only [facts_cons, facts_nil, facts_cells, facts_old, facts_fact, facts_obj, facts_map, facts_iter, facts_row, and_true, true_and] at hF)
                        go_wp2_with (first | ((with_reducible show wpList _ _ _ ({ dst := _, op := Op.store _ _ _, type := _, pos := _, after := _, guard := _ } :: _) _ _); refine wpList_store_at rfl rfl rfl (by (try simp only [Act.eval, Array.getD_eq_getD_getElem?, List.getElem?_toArray, List.getElem?_cons_succ, List.getElem?_cons_zero, Option.getD_some]) <;> exact rfl) (by exact rfl) hA (by with_reducible repeat (first | exact Sel.here | apply Sel.there)) (by kernel_rfl) rfl (by first | decide | (simp; done) | omega) ?_; intro w1 hB; clear hF hA; have hA := hB; clear hB; (try simp only [setL, List.set_cons_zero, List.set_cons_succ, List.cons_append, List.nil_append] at hA); (have hF := hA.facts); (try simp only [facts_cons, facts_nil, facts_cells, facts_old, facts_fact, facts_obj, facts_map, facts_iter, facts_row, and_true, true_and] at hF)) | ((with_reducible show wpList _ _ _ ({ dst := _, op := Op.box _ _, type := _, pos := _, after := _, guard := _ } :: _) _ _); refine wpList_box_at rfl rfl (by (try simp only [Act.eval, Array.getD_eq_getD_getElem?, List.getElem?_toArray, List.getElem?_cons_succ, List.getElem?_cons_zero, Option.getD_some]) <;> exact rfl) (by exact rfl) hA ?_; intro b1 w1 hB hb1; clear hF hA; have hA := hB; clear hB; (try simp only [setL, List.set_cons_zero, List.set_cons_succ, List.cons_append, List.nil_append] at hA); (have hF := hA.facts); (try simp only [facts_cons, facts_nil, facts_cells, facts_old, facts_fact, facts_obj, facts_map, facts_iter, facts_row, and_true, true_and] at hF)))
                        refine (outBytes (b := bO) (u := u1) (l := l1) (hA.seps (by with_reducible repeat (first | exact Picks.nil | refine Picks.cons (by with_reducible repeat (first | exact Sel.here | apply Sel.there)) ?_))) hx1.out).mono ?_
                        rintro e w4 ⟨z1, rfl, hT⟩
                        have hB := hA.call2 (A := outC bO u1) (B := rowY u1 l1) (by with_reducible repeat (first | exact Sel.here | apply Sel.there)) (by with_reducible repeat (first | exact Sel.here | apply Sel.there)) hT
                        clear hF hA hT
                        have hA := hB
                        clear hB
                        simp only [List.cons_append, List.nil_append] at hA
                        have hF := hA.facts
                        (try simp only [setL, List.set_cons_zero, List.set_cons_succ, List.cons_append, List.nil_append] at hA); (have hF := hA.facts); (try simp only [facts_cons, facts_nil, facts_cells, facts_old, facts_fact, facts_obj, facts_map, facts_iter, facts_row, and_true, true_and] at hF)
                        go_wp2_with (first | ((with_reducible show wpList _ _ _ ({ dst := _, op := Op.store _ _ _, type := _, pos := _, after := _, guard := _ } :: _) _ _); refine wpList_store_at rfl rfl rfl (by (try simp only [Act.eval, Array.getD_eq_getD_getElem?, List.getElem?_toArray, List.getElem?_cons_succ, List.getElem?_cons_zero, Option.getD_some]) <;> exact rfl) (by exact rfl) hA (by with_reducible repeat (first | exact Sel.here | apply Sel.there)) (by kernel_rfl) rfl (by first | decide | (simp; done) | omega) ?_; intro w1 hB; clear hF hA; have hA := hB; clear hB; (try simp only [setL, List.set_cons_zero, List.set_cons_succ, List.cons_append, List.nil_append] at hA); (have hF := hA.facts); (try simp only [facts_cons, facts_nil, facts_cells, facts_old, facts_fact, facts_obj, facts_map, facts_iter, facts_row, and_true, true_and] at hF)) | ((with_reducible show wpList _ _ _ ({ dst := _, op := Op.box _ _, type := _, pos := _, after := _, guard := _ } :: _) _ _); refine wpList_box_at rfl rfl (by (try simp only [Act.eval, Array.getD_eq_getD_getElem?, List.getElem?_toArray, List.getElem?_cons_succ, List.getElem?_cons_zero, Option.getD_some]) <;> exact rfl) (by exact rfl) hA ?_; intro b1 w1 hB hb1; clear hF hA; have hA := hB; clear hB; (try simp only [setL, List.set_cons_zero, List.set_cons_succ, List.cons_append, List.nil_append] at hA); (have hF := hA.facts); (try simp only [facts_cons, facts_nil, facts_cells, facts_old, facts_fact, facts_obj, facts_map, facts_iter, facts_row, and_true, true_and] at hF)))
                        refine (outBytes (b := bQ) (u := u2) (l := l2) (hA.seps (by with_reducible repeat (first | exact Picks.nil | refine Picks.cons (by with_reducible repeat (first | exact Sel.here | apply Sel.there)) ?_))) hx2.out).mono ?_
                        rintro e w5 ⟨z2, rfl, hT⟩
                        have hB := hA.call2 (A := outC bQ u2) (B := rowY u2 l2) (by with_reducible repeat (first | exact Sel.here | apply Sel.there)) (by with_reducible repeat (first | exact Sel.here | apply Sel.there)) hT
                        clear hF hA hT
                        have hA := hB
                        clear hB
                        simp only [List.cons_append, List.nil_append] at hA
                        have hF := hA.facts
                        (try simp only [setL, List.set_cons_zero, List.set_cons_succ, List.cons_append, List.nil_append] at hA); (have hF := hA.facts); (try simp only [facts_cons, facts_nil, facts_cells, facts_old, facts_fact, facts_obj, facts_map, facts_iter, facts_row, and_true, true_and] at hF)
                        go_wp2_with (first | ((with_reducible show wpList _ _ _ ({ dst := _, op := Op.store _ _ _, type := _, pos := _, after := _, guard := _ } :: _) _ _); refine wpList_store_at rfl rfl rfl (by (try simp only [Act.eval, Array.getD_eq_getD_getElem?, List.getElem?_toArray, List.getElem?_cons_succ, List.getElem?_cons_zero, Option.getD_some]) <;> exact rfl) (by exact rfl) hA (by with_reducible repeat (first | exact Sel.here | apply Sel.there)) (by kernel_rfl) rfl (by first | decide | (simp; done) | omega) ?_; intro w1 hB; clear hF hA; have hA := hB; clear hB; (try simp only [setL, List.set_cons_zero, List.set_cons_succ, List.cons_append, List.nil_append] at hA); (have hF := hA.facts); (try simp only [facts_cons, facts_nil, facts_cells, facts_old, facts_fact, facts_obj, facts_map, facts_iter, facts_row, and_true, true_and] at hF)) | ((with_reducible show wpList _ _ _ ({ dst := _, op := Op.box _ _, type := _, pos := _, after := _, guard := _ } :: _) _ _); refine wpList_box_at rfl rfl (by (try simp only [Act.eval, Array.getD_eq_getD_getElem?, List.getElem?_toArray, List.getElem?_cons_succ, List.getElem?_cons_zero, Option.getD_some]) <;> exact rfl) (by exact rfl) hA ?_; intro b1 w1 hB hb1; clear hF hA; have hA := hB; clear hB; (try simp only [setL, List.set_cons_zero, List.set_cons_succ, List.cons_append, List.nil_append] at hA); (have hF := hA.facts); (try simp only [facts_cons, facts_nil, facts_cells, facts_old, facts_fact, facts_obj, facts_map, facts_iter, facts_row, and_true, true_and] at hF)))
                        refine (Wire.same_any (u := z1) (v := z2) (a := l1) (c := l2) (hA.seps (by with_reducible repeat (first | exact Picks.nil | refine Picks.cons (by with_reducible repeat (first | exact Sel.here | apply Sel.there)) ?_))) hx1.out).mono ?_
                        rintro e w6 ⟨rfl, hT⟩
                        have hB := hA.call2 (A := rowY z1 l1) (B := rowY z2 l2) (by with_reducible repeat (first | exact Sel.here | apply Sel.there)) (by with_reducible repeat (first | exact Sel.here | apply Sel.there)) hT
                        clear hF hA hT
                        have hA := hB
                        clear hB
                        simp only [List.cons_append, List.nil_append] at hA
                        have hF := hA.facts
                        (try simp only [setL, List.set_cons_zero, List.set_cons_succ, List.cons_append, List.nil_append] at hA); (have hF := hA.facts); (try simp only [facts_cons, facts_nil, facts_cells, facts_old, facts_fact, facts_obj, facts_map, facts_iter, facts_row, and_true, true_and] at hF)
                        rw [hfin'.out]
                        go_wp2_with (first | ((with_reducible show wpList _ _ _ ({ dst := _, op := Op.store _ _ _, type := _, pos := _, after := _, guard := _ } :: _) _ _); refine wpList_store_at rfl rfl rfl (by (try simp only [Act.eval, Array.getD_eq_getD_getElem?, List.getElem?_toArray, List.getElem?_cons_succ, List.getElem?_cons_zero, Option.getD_some]) <;> exact rfl) (by exact rfl) hA (by with_reducible repeat (first | exact Sel.here | apply Sel.there)) (by kernel_rfl) rfl (by first | decide | (simp; done) | omega) ?_; intro w1 hB; clear hF hA; have hA := hB; clear hB; (try simp only [setL, List.set_cons_zero, List.set_cons_succ, List.cons_append, List.nil_append] at hA); (have hF := hA.facts); (try simp only [facts_cons, facts_nil, facts_cells, facts_old, facts_fact, facts_obj, facts_map, facts_iter, facts_row, and_true, true_and] at hF)) | ((with_reducible show wpList _ _ _ ({ dst := _, op := Op.box _ _, type := _, pos := _, after := _, guard := _ } :: _) _ _); refine wpList_box_at rfl rfl (by (try simp only [Act.eval, Array.getD_eq_getD_getElem?, List.getElem?_toArray, List.getElem?_cons_succ, List.getElem?_cons_zero, Option.getD_some]) <;> exact rfl) (by exact rfl) hA ?_; intro b1 w1 hB hb1; clear hF hA; have hA := hB; clear hB; (try simp only [setL, List.set_cons_zero, List.set_cons_succ, List.cons_append, List.nil_append] at hA); (have hF := hA.facts); (try simp only [facts_cons, facts_nil, facts_cells, facts_old, facts_fact, facts_obj, facts_map, facts_iter, facts_row, and_true, true_and] at hF)))
                        go_ret
                        exact ⟨by simp, below_old hA (by with_reducible repeat (first | exact Sel.here | apply Sel.there))⟩
end Go.Proofs.YtalfoiodejoicaaGreatDoor.Lock
end
