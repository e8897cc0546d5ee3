/- StuW, joined. -/
import Derived.Test.YtnkddjomanaadaaGreatDoorK31
import Derived.Test.YtnkddjomanaadaaGreatDoorK32
import Derived.Deep.Cut
section
namespace Go.Proofs.YtnkddjomanaadaaGreatDoor.Lock
open Go.RowKit
open Path (bl)
open _root_.Go.Proofs.YtnkddjomanaadaaGreatDoor.Sess (seV seL)
set_option linter.unusedSimpArgs false
set_option linter.unusedVariables false
attribute [-go_sem] run_eql_struct run_neq_struct run_eqGuard_agg
attribute [local go_sem] guardS eqlS guardE guardR

def SsRel (w : World) (a : Pl) (first : Int) (os : List Op) (k : Nat) (u : Value) (wr : World) : Prop :=
  ∃ (i : Nat) (t : S3), u = .int .i64 i ∧ i + k = os.length ∧ Inv t i ∧ t.first = first ∧ At [Part.old w] w [bookS a t, Part.old w] wr
def PfRel (w : World) (a : Pl) (s : S3) (vl : Value) (l : List Ent) (k : Nat) (u9 u10 u46 : Value) (wr : World) : Prop :=
  ∃ i : Nat, u46 = .int .i64 i ∧ i + k = l.length ∧ At [Part.old w] w [rowQ u9 (fromS (edgesOf (l.take i) l)), rowQ u10 (toS (edgesOf (l.take i) l)), rowL vl l, bookS a s, Part.old w] wr
def PiRel (w : World) (a : Pl) (s : S3) (bE g : Nat) (c : List Value) (E0 : List (Ses × Ses)) (e : Ent) (va : Value) (al : List Ent) (k : Nat) (u9 u10 u54 : Value) (wr : World) : Prop :=
  ∃ j : Nat, u54 = .int .i64 j ∧ j + k = al.length ∧ At [Part.old w] w [rowQ u9 (fromS (E0 ++ pairsK e (al.take j))), rowQ u10 (toS (E0 ++ pairsK e (al.take j))), rowH va al, cloP bE e, Part.cells g c 41, bookS a s, Part.old w] wr
theorem rowQ_M (v : Value) (E : List (Ses × Ses)) : rowQ v (fromS E) = rowM v E.length (fromS E) := by unfold rowQ rowM fromS; rw [List.length_map]
theorem rowQ_M2 (v : Value) (E : List (Ses × Ses)) : rowQ v (toS E) = rowM v E.length (toS E) := by unfold rowQ rowM toS; rw [List.length_map]
def FiRel (w : World) (a : Pl) (s : S3) (vl : Value) (l : List Ent) (E : List (Ses × Ses)) (u9 u10 vs : Value) (ss : List Ses) (k : Nat) (u74 : Value) (wr : World) : Prop :=
  ∃ i : Nat, u74 = .int .i64 i ∧ i + k = l.length ∧ At [Part.old w] w [rowQ vs ss, rowM u9 E.length (fromS E), rowM u10 E.length (toS E), rowL vl l, bookS a s, Part.old w] wr
def FjRel (w : World) (a : Pl) (s : S3) (g bF : Nat) (c : List Value) (e : Ent) (E : List (Ses × Ses)) (u9 u10 vs : Value) (ss : List Ses) (k : Nat) (u18 u80 : Value) (wr : World) : Prop :=
  ∃ m : Nat, u80 = .int .i64 m ∧ m + k = ss.length ∧ u18 = .bool (memB (sesOf e) (ss.take m)) ∧ At [Part.old w] w [cloP bF e, rowQ vs ss, rowM u9 E.length (fromS E), rowM u10 E.length (toS E), Part.cells g c 41, bookS a s, Part.old w] wr
def DzRel (w : World) (a : Pl) (s : S3) (vs : Value) (ss : List Ses) (k : Nat) (u : Value) (wr : World) : Prop :=
  ∃ m : Nat, u = .int .i64 m ∧ m + k = ss.length ∧ At [Part.old w] w [rowQ vs ss, bookS a (goneA s (ss.take m)), Part.old w] wr
theorem goneA_more (s : S3) (ss : List Ses) {m : Nat} (hm : m < ss.length) : goneA s (ss.take (m + 1)) = (goneA s (ss.take m)).dropAll ss[m].1 ss[m].2 := by
  rw [List.take_succ_eq_append_getElem hm, goneA_snoc]
set_option maxRecDepth 100000 in
set_option maxHeartbeats 2000000 in
theorem stuck_law {w : World} {v : Value} {os : List Op} (hops : OpsAt w v os) (hol : os.length ≤ 9223372036854775807) {first : Int} (f0 : 0 ≤ first) (f1 : first < big64) :
    Calls Tryz.prog 5 #[.int .u64 first, v] w fun e w' => e = .returned (.bool true) ∧ Below w.heap.size w w' := by
  have hA : At [Part.old w] w [Part.old w] w := At.start ⟨fun _ _ => rfl, trivial, nofun⟩
  have hF := hA.facts
  have hfits := fun (w1 : World) (q : Sep [Part.old w] w1) => fits_any q hops 30 hol
  obtain ⟨i0, hi0, hz0, hz1, hz2⟩ := info_parts infoQ
  obtain ⟨sa, sc, rfl, hel⟩ := hops
  have hel' := Lib.hid hel
  clear hel
  (try simp only [setL, List.set_cons_zero, List.set_cons_succ, List.cons_append, List.nil_append] at hA); (have hF := hA.facts); (try simp only [facts_cons, facts_nil, facts_cells, facts_old, facts_fact, facts_obj, facts_map, facts_iter, facts_row, and_true, true_and] at hF)
  go_enter Tryz.func5, Tryz.ntmps5
  go_wp2_with (first | ((with_reducible show wpList _ _ _ ({ dst := _, op := Op.store _ _ _, type := _, pos := _, after := _, guard := _ } :: _) _ _); refine wpList_store_at rfl rfl rfl (by (try simp only [Act.eval, Array.getD_eq_getD_getElem?, List.getElem?_toArray, List.getElem?_cons_succ, List.getElem?_cons_zero, Option.getD_some]) <;> exact rfl) (by exact rfl) hA (by with_reducible repeat (first | exact Sel.here | apply Sel.there)) (by kernel_rfl) rfl (by first | decide | (simp; done) | omega) ?_; intro w1 hB; clear hF hA; have hA := hB; clear hB; (try simp only [setL, List.set_cons_zero, List.set_cons_succ, List.cons_append, List.nil_append] at hA); (have hF := hA.facts); (try simp only [facts_cons, facts_nil, facts_cells, facts_old, facts_fact, facts_obj, facts_map, facts_iter, facts_row, and_true, true_and] at hF)) | ((with_reducible show wpList _ _ _ ({ dst := _, op := Op.box _ _, type := _, pos := _, after := _, guard := _ } :: _) _ _); refine wpList_box_at rfl rfl (by (try simp only [Act.eval, Array.getD_eq_getD_getElem?, List.getElem?_toArray, List.getElem?_cons_succ, List.getElem?_cons_zero, Option.getD_some]) <;> exact rfl) (by exact rfl) hA ?_; intro b1 w1 hB hb1; clear hF hA; have hA := hB; clear hB; (try simp only [setL, List.set_cons_zero, List.set_cons_succ, List.cons_append, List.nil_append] at hA); (have hF := hA.facts); (try simp only [facts_cons, facts_nil, facts_cells, facts_old, facts_fact, facts_obj, facts_map, facts_iter, facts_row, and_true, true_and] at hF)))
  refine (anchor_any _).mono ?_
  rintro e w1 ⟨rfl, hx⟩
  have hB := hA.ext hx
  clear hF hA hx
  have hA := hB
  clear hB
  (try simp only [setL, List.set_cons_zero, List.set_cons_succ, List.cons_append, List.nil_append] at hA); (have hF := hA.facts); (try simp only [facts_cons, facts_nil, facts_cells, facts_old, facts_fact, facts_obj, facts_map, facts_iter, facts_row, and_true, true_and] at hF)
  go_wp2_with (first | ((with_reducible show wpList _ _ _ ({ dst := _, op := Op.store _ _ _, type := _, pos := _, after := _, guard := _ } :: _) _ _); refine wpList_store_at rfl rfl rfl (by (try simp only [Act.eval, Array.getD_eq_getD_getElem?, List.getElem?_toArray, List.getElem?_cons_succ, List.getElem?_cons_zero, Option.getD_some]) <;> exact rfl) (by exact rfl) hA (by with_reducible repeat (first | exact Sel.here | apply Sel.there)) (by kernel_rfl) rfl (by first | decide | (simp; done) | omega) ?_; intro w1 hB; clear hF hA; have hA := hB; clear hB; (try simp only [setL, List.set_cons_zero, List.set_cons_succ, List.cons_append, List.nil_append] at hA); (have hF := hA.facts); (try simp only [facts_cons, facts_nil, facts_cells, facts_old, facts_fact, facts_obj, facts_map, facts_iter, facts_row, and_true, true_and] at hF)) | ((with_reducible show wpList _ _ _ ({ dst := _, op := Op.box _ _, type := _, pos := _, after := _, guard := _ } :: _) _ _); refine wpList_box_at rfl rfl (by (try simp only [Act.eval, Array.getD_eq_getD_getElem?, List.getElem?_toArray, List.getElem?_cons_succ, List.getElem?_cons_zero, Option.getD_some]) <;> exact rfl) (by exact rfl) hA ?_; intro b1 w1 hB hb1; clear hF hA; have hA := hB; clear hB; (try simp only [setL, List.set_cons_zero, List.set_cons_succ, List.cons_append, List.nil_append] at hA); (have hF := hA.facts); (try simp only [facts_cons, facts_nil, facts_cells, facts_old, facts_fact, facts_obj, facts_map, facts_iter, facts_row, and_true, true_and] at hF)))
  refine (hfits _ (hA.sep1 (by with_reducible repeat (first | exact Sel.here | apply Sel.there)))).mono ?_
  clear hfits
  cases hfb : fitsB os 30 with
  | false =>
    rintro e w1 ⟨rfl, hT⟩; have hB := hA.call1 (by with_reducible repeat (first | exact Sel.here | apply Sel.there)) hT; clear hF hA hT; have hA := hB; clear hB; (try simp only [setL, List.set_cons_zero, List.set_cons_succ, List.cons_append, List.nil_append] at hA); (have hF := hA.facts); (try simp only [facts_cons, facts_nil, facts_cells, facts_old, facts_fact, facts_obj, facts_map, facts_iter, facts_row, and_true, true_and] at hF)
    go_wp2_with (first | ((with_reducible show wpList _ _ _ ({ dst := _, op := Op.store _ _ _, type := _, pos := _, after := _, guard := _ } :: _) _ _); refine wpList_store_at rfl rfl rfl (by (try simp only [Act.eval, Array.getD_eq_getD_getElem?, List.getElem?_toArray, List.getElem?_cons_succ, List.getElem?_cons_zero, Option.getD_some]) <;> exact rfl) (by exact rfl) hA (by with_reducible repeat (first | exact Sel.here | apply Sel.there)) (by kernel_rfl) rfl (by first | decide | (simp; done) | omega) ?_; intro w1 hB; clear hF hA; have hA := hB; clear hB; (try simp only [setL, List.set_cons_zero, List.set_cons_succ, List.cons_append, List.nil_append] at hA); (have hF := hA.facts); (try simp only [facts_cons, facts_nil, facts_cells, facts_old, facts_fact, facts_obj, facts_map, facts_iter, facts_row, and_true, true_and] at hF)) | ((with_reducible show wpList _ _ _ ({ dst := _, op := Op.box _ _, type := _, pos := _, after := _, guard := _ } :: _) _ _); refine wpList_box_at rfl rfl (by (try simp only [Act.eval, Array.getD_eq_getD_getElem?, List.getElem?_toArray, List.getElem?_cons_succ, List.getElem?_cons_zero, Option.getD_some]) <;> exact rfl) (by exact rfl) hA ?_; intro b1 w1 hB hb1; clear hF hA; have hA := hB; clear hB; (try simp only [setL, List.set_cons_zero, List.set_cons_succ, List.cons_append, List.nil_append] at hA); (have hF := hA.facts); (try simp only [facts_cons, facts_nil, facts_cells, facts_old, facts_fact, facts_obj, facts_map, facts_iter, facts_row, and_true, true_and] at hF)))
    go_ret
    exact ⟨rfl, below_old hA (by with_reducible repeat (first | exact Sel.here | apply Sel.there))⟩
  | true =>
    have hol2 : os.length ≤ 30 := by unfold fitsB at hfb; simp at hfb; omega
    have hosz := Lib.hid (show ∀ o ∈ os, o.path.size ≤ 100 from fun o ho => by unfold fitsB at hfb; simp at hfb; exact hfb.1 o ho)
    clear hfb
    rintro e w1 ⟨rfl, hT⟩; have hB := hA.call1 (by with_reducible repeat (first | exact Sel.here | apply Sel.there)) hT; clear hF hA hT; have hA := hB; clear hB; (try simp only [setL, List.set_cons_zero, List.set_cons_succ, List.cons_append, List.nil_append] at hA); (have hF := hA.facts); (try simp only [facts_cons, facts_nil, facts_cells, facts_old, facts_fact, facts_obj, facts_map, facts_iter, facts_row, and_true, true_and] at hF)
    go_wp2_with (first | ((with_reducible show wpList _ _ _ ({ dst := _, op := Op.store _ _ _, type := _, pos := _, after := _, guard := _ } :: _) _ _); refine wpList_store_at rfl rfl rfl (by (try simp only [Act.eval, Array.getD_eq_getD_getElem?, List.getElem?_toArray, List.getElem?_cons_succ, List.getElem?_cons_zero, Option.getD_some]) <;> exact rfl) (by exact rfl) hA (by with_reducible repeat (first | exact Sel.here | apply Sel.there)) (by kernel_rfl) rfl (by first | decide | (simp; done) | omega) ?_; intro w1 hB; clear hF hA; have hA := hB; clear hB; (try simp only [setL, List.set_cons_zero, List.set_cons_succ, List.cons_append, List.nil_append] at hA); (have hF := hA.facts); (try simp only [facts_cons, facts_nil, facts_cells, facts_old, facts_fact, facts_obj, facts_map, facts_iter, facts_row, and_true, true_and] at hF)) | ((with_reducible show wpList _ _ _ ({ dst := _, op := Op.box _ _, type := _, pos := _, after := _, guard := _ } :: _) _ _); refine wpList_box_at rfl rfl (by (try simp only [Act.eval, Array.getD_eq_getD_getElem?, List.getElem?_toArray, List.getElem?_cons_succ, List.getElem?_cons_zero, Option.getD_some]) <;> exact rfl) (by exact rfl) hA ?_; intro b1 w1 hB hb1; clear hF hA; have hA := hB; clear hB; (try simp only [setL, List.set_cons_zero, List.set_cons_succ, List.cons_append, List.nil_append] at hA); (have hF := hA.facts); (try simp only [facts_cons, facts_nil, facts_cells, facts_old, facts_fact, facts_obj, facts_map, facts_iter, facts_row, and_true, true_and] at hF)))
    refine (new_at first _).mono ?_
    rintro e w2 ⟨a, rfl, hT⟩
    have hB := hA.call0 hT
    clear hF hA hT
    have hA := hB
    clear hB
    simp only [List.cons_append, List.nil_append] at hA
    have hF := hA.facts
    (try simp only [setL, List.set_cons_zero, List.set_cons_succ, List.cons_append, List.nil_append] at hA); (have hF := hA.facts); (try simp only [facts_cons, facts_nil, facts_cells, facts_old, facts_fact, facts_obj, facts_map, facts_iter, facts_row, and_true, true_and] at hF)
    go_wp2_with (first | ((with_reducible show wpList _ _ _ ({ dst := _, op := Op.store _ _ _, type := _, pos := _, after := _, guard := _ } :: _) _ _); refine wpList_store_at rfl rfl rfl (by (try simp only [Act.eval, Array.getD_eq_getD_getElem?, List.getElem?_toArray, List.getElem?_cons_succ, List.getElem?_cons_zero, Option.getD_some]) <;> exact rfl) (by exact rfl) hA (by with_reducible repeat (first | exact Sel.here | apply Sel.there)) (by kernel_rfl) rfl (by first | decide | (simp; done) | omega) ?_; intro w1 hB; clear hF hA; have hA := hB; clear hB; (try simp only [setL, List.set_cons_zero, List.set_cons_succ, List.cons_append, List.nil_append] at hA); (have hF := hA.facts); (try simp only [facts_cons, facts_nil, facts_cells, facts_old, facts_fact, facts_obj, facts_map, facts_iter, facts_row, and_true, true_and] at hF)) | ((with_reducible show wpList _ _ _ ({ dst := _, op := Op.box _ _, type := _, pos := _, after := _, guard := _ } :: _) _ _); refine wpList_box_at rfl rfl (by (try simp only [Act.eval, Array.getD_eq_getD_getElem?, List.getElem?_toArray, List.getElem?_cons_succ, List.getElem?_cons_zero, Option.getD_some]) <;> exact rfl) (by exact rfl) hA ?_; intro b1 w1 hB hb1; clear hF hA; have hA := hB; clear hB; (try simp only [setL, List.set_cons_zero, List.set_cons_succ, List.cons_append, List.nil_append] at hA); (have hF := hA.facts); (try simp only [facts_cons, facts_nil, facts_cells, facts_old, facts_fact, facts_obj, facts_map, facts_iter, facts_row, and_true, true_and] at hF)))
    try go_frame
    go_loopg [32] os.length (SsRel w a first os)
    case atStart => exact ⟨0, ⟨first, [], []⟩, rfl, by simp, inv_new f0 f1, rfl, hA.pick (by repeat (first | exact Picks.nil | refine Picks.cons (by repeat (first | exact Sel.here | apply Sel.there)) ?_))⟩
    case round =>
      obtain ⟨i, t, rfl, hik, hI, hsf, hB⟩ := hrel
      clear hF hA
      have hA := hB
      clear hB
      have hIk : i ≤ 30 := by omega
      have hI' := Lib.hid hI
      clear hI
      by_cases hi : i < os.length
      · obtain ⟨b, off, rfl, ⟨c0, c1, c2, c3, c4⟩, hok⟩ := hel'.out i hi
        have hokp := hosz.out os[i] (List.getElem_mem hi)
        obtain ⟨o, hoi⟩ : ∃ o, os[i] = o := ⟨_, rfl⟩
        simp only [hoi] at c0 c1 c2 c3 c4 hok hokp
        clear hoi
        have c0 := old_cell (hA.get (A := Part.old w) (by with_reducible repeat (first | exact Sel.here | apply Sel.there))) c0
        have c1 := old_cell (hA.get (A := Part.old w) (by with_reducible repeat (first | exact Sel.here | apply Sel.there))) c1
        have c2 := old_cell (hA.get (A := Part.old w) (by with_reducible repeat (first | exact Sel.here | apply Sel.there))) c2
        have c3 := old_cell (hA.get (A := Part.old w) (by with_reducible repeat (first | exact Sel.here | apply Sel.there))) c3
        have c4 := old_cell (hA.get (A := Part.old w) (by with_reducible repeat (first | exact Sel.here | apply Sel.there))) c4
        have hokk := Lib.hid (show o.ok from ⟨hokp, hok.1, hok.2.1, hok.2.2.1⟩)
        clear hok hokp
        have hF := hA.facts
        (try simp only [setL, List.set_cons_zero, List.set_cons_succ, List.cons_append, List.nil_append] at hA); (have hF := hA.facts); (try simp only [facts_cons, facts_nil, facts_cells, facts_old, facts_fact, facts_obj, facts_map, facts_iter, facts_row, and_true, true_and] at hF)
        go_wp2_with (first | ((with_reducible show wpList _ _ _ ({ dst := _, op := Op.store _ _ _, type := _, pos := _, after := _, guard := _ } :: _) _ _); refine wpList_store_at rfl rfl rfl (by (try simp only [Act.eval, Array.getD_eq_getD_getElem?, List.getElem?_toArray, List.getElem?_cons_succ, List.getElem?_cons_zero, Option.getD_some]) <;> exact rfl) (by exact rfl) hA (by with_reducible repeat (first | exact Sel.here | apply Sel.there)) (by kernel_rfl) rfl (by first | decide | (simp; done) | omega) ?_; intro w1 hB; clear hF hA; have hA := hB; clear hB; (try simp only [setL, List.set_cons_zero, List.set_cons_succ, List.cons_append, List.nil_append] at hA); (have hF := hA.facts); (try simp only [facts_cons, facts_nil, facts_cells, facts_old, facts_fact, facts_obj, facts_map, facts_iter, facts_row, and_true, true_and] at hF)) | ((with_reducible show wpList _ _ _ ({ dst := _, op := Op.box _ _, type := _, pos := _, after := _, guard := _ } :: _) _ _); refine wpList_box_at rfl rfl (by (try simp only [Act.eval, Array.getD_eq_getD_getElem?, List.getElem?_toArray, List.getElem?_cons_succ, List.getElem?_cons_zero, Option.getD_some]) <;> exact rfl) (by exact rfl) hA ?_; intro b1 w1 hB hb1; clear hF hA; have hA := hB; clear hB; (try simp only [setL, List.set_cons_zero, List.set_cons_succ, List.cons_append, List.nil_append] at hA); (have hF := hA.facts); (try simp only [facts_cons, facts_nil, facts_cells, facts_old, facts_fact, facts_obj, facts_map, facts_iter, facts_row, and_true, true_and] at hF)) | ((with_reducible show wpList _ _ _ ({ dst := _, op := Op.alloc _, type := _, pos := _, after := _, guard := _ } :: _) _ _); refine wpList_alloc_at (E := 35) (z := .agg #[.int .i64 0, .int .i64 0, .string .empty, .int .u64 0, .string .empty]) (vs := [.int .i64 0, .int .i64 0, .string .empty, .int .u64 0, .string .empty]) rfl rfl (by kernel_rfl) rfl hA ?_; intro b1 w1 hB hb1; clear hF hA; have hA := hB; clear hB; (try simp only [setL, List.set_cons_zero, List.set_cons_succ, List.cons_append, List.nil_append] at hA); (have hF := hA.facts); (try simp only [facts_cons, facts_nil, facts_cells, facts_old, facts_fact, facts_obj, facts_map, facts_iter, facts_row, and_true, true_and] at hF)))
        have hB := row_nilE (row_nilC hA)
        clear hF hA
        have hA := hB
        clear hB
        refine (step_any (s := ⟨first, [], []⟩) (hA.seps (K := [bookS a t, rowE (.slice none 0 0) [], rowC (.slice none 0 0) []]) (by with_reducible repeat (first | exact Picks.nil | refine Picks.cons (by with_reducible repeat (first | exact Sel.here | apply Sel.there)) ?_))) hI'.out (inv_new f0 f1) (by omega) (by omega) o hokk.out).mono ?_
        rintro e w3 ⟨vL', vC', rfl, hT⟩
        have hB := (hA.call3 (A := bookS a t) (B := rowE (.slice none 0 0) []) (C := rowC (.slice none 0 0) []) (by with_reducible repeat (first | exact Sel.here | apply Sel.there)) (by with_reducible repeat (first | exact Sel.here | apply Sel.there)) (by with_reducible repeat (first | exact Sel.here | apply Sel.there)) hT)
        have hI2 := inv_step hI'.out hokk.out
        have hsf2 := (first_step t o).trans hsf
        clear hA hT c0 c1 c2 c3 c4
        have hA : At [Part.old w] w [bookS a (t.step o), Part.old w] w3 := hB.pick (by repeat (first | exact Picks.nil | refine Picks.cons (by repeat (first | exact Sel.here | apply Sel.there)) ?_))
        clear hB hI'
        generalize t.step o = t' at *
        have hI2' := Lib.hid hI2
        have hsf3 := Lib.hid hsf2
        clear hI2 hsf hsf2
        have hF := hA.facts
        (try simp only [setL, List.set_cons_zero, List.set_cons_succ, List.cons_append, List.nil_append] at hA); (have hF := hA.facts); (try simp only [facts_cons, facts_nil, facts_cells, facts_old, facts_fact, facts_obj, facts_map, facts_iter, facts_row, and_true, true_and] at hF)
        go_wp2_with (first | ((with_reducible show wpList _ _ _ ({ dst := _, op := Op.store _ _ _, type := _, pos := _, after := _, guard := _ } :: _) _ _); refine wpList_store_at rfl rfl rfl (by (try simp only [Act.eval, Array.getD_eq_getD_getElem?, List.getElem?_toArray, List.getElem?_cons_succ, List.getElem?_cons_zero, Option.getD_some]) <;> exact rfl) (by exact rfl) hA (by with_reducible repeat (first | exact Sel.here | apply Sel.there)) (by kernel_rfl) rfl (by first | decide | (simp; done) | omega) ?_; intro w1 hB; clear hF hA; have hA := hB; clear hB; (try simp only [setL, List.set_cons_zero, List.set_cons_succ, List.cons_append, List.nil_append] at hA); (have hF := hA.facts); (try simp only [facts_cons, facts_nil, facts_cells, facts_old, facts_fact, facts_obj, facts_map, facts_iter, facts_row, and_true, true_and] at hF)) | ((with_reducible show wpList _ _ _ ({ dst := _, op := Op.box _ _, type := _, pos := _, after := _, guard := _ } :: _) _ _); refine wpList_box_at rfl rfl (by (try simp only [Act.eval, Array.getD_eq_getD_getElem?, List.getElem?_toArray, List.getElem?_cons_succ, List.getElem?_cons_zero, Option.getD_some]) <;> exact rfl) (by exact rfl) hA ?_; intro b1 w1 hB hb1; clear hF hA; have hA := hB; clear hB; (try simp only [setL, List.set_cons_zero, List.set_cons_succ, List.cons_append, List.nil_append] at hA); (have hF := hA.facts); (try simp only [facts_cons, facts_nil, facts_cells, facts_old, facts_fact, facts_obj, facts_map, facts_iter, facts_row, and_true, true_and] at hF)))
        go_roundg (gk - 1)
        case measure => omega
        case rel => exact ⟨i + 1, t', by simp, by omega, hI2'.out, hsf3.out, hA.pick (by with_reducible repeat (first | exact Picks.nil | refine Picks.cons (by with_reducible repeat (first | exact Sel.here | apply Sel.there)) ?_))⟩
      · have hF := hA.facts
        (try simp only [setL, List.set_cons_zero, List.set_cons_succ, List.cons_append, List.nil_append] at hA); (have hF := hA.facts); (try simp only [facts_cons, facts_nil, facts_cells, facts_old, facts_fact, facts_obj, facts_map, facts_iter, facts_row, and_true, true_and] at hF)
        have hlen := hI'.out.len
        clear hsf
        generalize t = s at *
        go_wp2_with (first | ((with_reducible show wpList _ _ _ ({ dst := _, op := Op.store _ _ _, type := _, pos := _, after := _, guard := _ } :: _) _ _); refine wpList_store_at rfl rfl rfl (by (try simp only [Act.eval, Array.getD_eq_getD_getElem?, List.getElem?_toArray, List.getElem?_cons_succ, List.getElem?_cons_zero, Option.getD_some]) <;> exact rfl) (by exact rfl) hA (by with_reducible repeat (first | exact Sel.here | apply Sel.there)) (by kernel_rfl) rfl (by first | decide | (simp; done) | omega) ?_; intro w1 hB; clear hF hA; have hA := hB; clear hB; (try simp only [setL, List.set_cons_zero, List.set_cons_succ, List.cons_append, List.nil_append] at hA); (have hF := hA.facts); (try simp only [facts_cons, facts_nil, facts_cells, facts_old, facts_fact, facts_obj, facts_map, facts_iter, facts_row, and_true, true_and] at hF)) | ((with_reducible show wpList _ _ _ ({ dst := _, op := Op.box _ _, type := _, pos := _, after := _, guard := _ } :: _) _ _); refine wpList_box_at rfl rfl (by (try simp only [Act.eval, Array.getD_eq_getD_getElem?, List.getElem?_toArray, List.getElem?_cons_succ, List.getElem?_cons_zero, Option.getD_some]) <;> exact rfl) (by exact rfl) hA ?_; intro b1 w1 hB hb1; clear hF hA; have hA := hB; clear hB; (try simp only [setL, List.set_cons_zero, List.set_cons_succ, List.cons_append, List.nil_append] at hA); (have hF := hA.facts); (try simp only [facts_cons, facts_nil, facts_cells, facts_old, facts_fact, facts_obj, facts_map, facts_iter, facts_row, and_true, true_and] at hF)))
        refine (list_at (hA.sep1 (A := bookS a s) (by with_reducible repeat (first | exact Sel.here | apply Sel.there))) hI'.out (by omega)).mono ?_
        rintro e w3 ⟨vl, l, rfl, hperm, hpw, hT⟩
        have hB := rowQ_nil (rowQ_nil (hA.call1 (A := bookS a s) (by with_reducible repeat (first | exact Sel.here | apply Sel.there)) hT))
        have hll := hperm.length_eq
        have hpe := Lib.hid hperm
        have hpw' := Lib.hid hpw
        clear hF hA hT hperm hpw
        have hA := hB
        clear hB
        simp only [List.cons_append, List.nil_append] at hA
        obtain ⟨lx, lcap, rfl, hlx, hlcap, _⟩ := hA.row_form (v := vl) (n := l.length) (xs := l.flatMap Ent.cells) (by with_reducible repeat (first | exact Sel.here | apply Sel.there))
        have hlb : l.length ≤ 30 := by omega
        clear hll hlen
        have hF := hA.facts
        (try simp only [setL, List.set_cons_zero, List.set_cons_succ, List.cons_append, List.nil_append] at hA); (have hF := hA.facts); (try simp only [facts_cons, facts_nil, facts_cells, facts_old, facts_fact, facts_obj, facts_map, facts_iter, facts_row, and_true, true_and] at hF)
        go_wp2_with (first | ((with_reducible show wpList _ _ _ ({ dst := _, op := Op.store _ _ _, type := _, pos := _, after := _, guard := _ } :: _) _ _); refine wpList_store_at rfl rfl rfl (by (try simp only [Act.eval, Array.getD_eq_getD_getElem?, List.getElem?_toArray, List.getElem?_cons_succ, List.getElem?_cons_zero, Option.getD_some]) <;> exact rfl) (by exact rfl) hA (by with_reducible repeat (first | exact Sel.here | apply Sel.there)) (by kernel_rfl) rfl (by first | decide | (simp; done) | omega) ?_; intro w1 hB; clear hF hA; have hA := hB; clear hB; (try simp only [setL, List.set_cons_zero, List.set_cons_succ, List.cons_append, List.nil_append] at hA); (have hF := hA.facts); (try simp only [facts_cons, facts_nil, facts_cells, facts_old, facts_fact, facts_obj, facts_map, facts_iter, facts_row, and_true, true_and] at hF)) | ((with_reducible show wpList _ _ _ ({ dst := _, op := Op.box _ _, type := _, pos := _, after := _, guard := _ } :: _) _ _); refine wpList_box_at rfl rfl (by (try simp only [Act.eval, Array.getD_eq_getD_getElem?, List.getElem?_toArray, List.getElem?_cons_succ, List.getElem?_cons_zero, Option.getD_some]) <;> exact rfl) (by exact rfl) hA ?_; intro b1 w1 hB hb1; clear hF hA; have hA := hB; clear hB; (try simp only [setL, List.set_cons_zero, List.set_cons_succ, List.cons_append, List.nil_append] at hA); (have hF := hA.facts); (try simp only [facts_cons, facts_nil, facts_cells, facts_old, facts_fact, facts_obj, facts_map, facts_iter, facts_row, and_true, true_and] at hF)))
        try go_frame
        go_loopg [9, 10, 46] l.length (fun k u9 u10 u46 wr => PfRel w a s (.slice lx l.length lcap) l k u9 u10 u46 wr)
        case atStart => exact ⟨0, rfl, by simp, hA.pick (by repeat (first | exact Picks.nil | refine Picks.cons (by repeat (first | exact Sel.here | apply Sel.there)) ?_))⟩
        case round =>
          obtain ⟨i2, rfl, hik2, hB⟩ := hrel
          clear hF hA
          have hA := hB
          clear hB
          by_cases hi2 : i2 < l.length
          · have hst := Lib.hid (edges_step l l hi2)
            have hxl := Lib.hid (List.getElem_mem hi2)
            have hxs := hI'.out.path _ (hpe.out.mem_iff.1 hxl.out)
            obtain ⟨g, c, rfl, hcp1, hcm, hcl, hct, hB⟩ := hA.row_open (ax := lx) (cap := lcap) (n := l.length) (xs := l.flatMap Ent.cells) (by with_reducible repeat (first | exact Sel.here | apply Sel.there)) (by omega)
            have hx : l[i2]? = some l[i2] := List.getElem?_eq_getElem hi2
            (have c0 : c[i2 * 6]? = some (.string l[i2].path) := cells_at Ent.cells_len hct hx 0 (by omega)); (have c1 : c[i2 * 6 + 1]? = some (.int .u64 l[i2].num) := cells_at Ent.cells_len hct hx 1 (by omega)); (have c2 : c[i2 * 6 + 2]? = some (.string l[i2].foot) := cells_at Ent.cells_len hct hx 2 (by omega)); (have c3 : c[i2 * 6 + 3]? = some (.int .i64 l[i2].mode) := cells_at Ent.cells_len hct hx 3 (by omega)); (have c4 : c[i2 * 6 + 4]? = some (.int .u64 l[i2].n) := cells_at Ent.cells_len hct hx 4 (by omega)); (have c5 : c[i2 * 6 + 5]? = some (.int .i64 l[i2].stamp) := cells_at Ent.cells_len hct hx 5 (by omega))
            obtain ⟨x, hxi⟩ : ∃ x, l[i2] = x := ⟨_, rfl⟩
            simp only [hxi] at c0 c1 c2 c3 c4 c5 hst hxl hxs
            clear hA hxi hx
            have hA := hB
            clear hB
            obtain ⟨E0, hE0⟩ : ∃ z, edgesOf (l.take i2) l = z := ⟨_, rfl⟩
            have hE0l : E0.length ≤ 1600 := by
              rw [← hE0]
              refine Nat.le_trans (edges_len _ _) ?_
              have := List.length_take_le i2 l
              exact Nat.le_trans (Nat.mul_le_mul (show _ ≤ 30 by omega) hlb) (by omega)
            rw [hE0] at hst hA
            clear hE0
            have hF := hA.facts
            (try simp only [setL, List.set_cons_zero, List.set_cons_succ, List.cons_append, List.nil_append] at hA); (have hF := hA.facts); (try simp only [facts_cons, facts_nil, facts_cells, facts_old, facts_fact, facts_obj, facts_map, facts_iter, facts_row, and_true, true_and] at hF)
            go_wp2_with (first | ((with_reducible show wpList _ _ _ ({ dst := _, op := Op.alloc _, type := _, pos := _, after := _, guard := _ } :: _) _ _); refine wpList_alloc_at (E := 41) (z := .agg #[.string .empty, .int .u64 0, .string .empty, .int .i64 0, .int .u64 0, .int .i64 0]) (vs := [.string .empty, .int .u64 0, .string .empty, .int .i64 0, .int .u64 0, .int .i64 0]) rfl rfl (by kernel_rfl) rfl hA ?_; intro bE w1 hB hbE; clear hF hA; have hA := hB; clear hB; (try simp only [setL, List.set_cons_zero, List.set_cons_succ, List.cons_append, List.nil_append] at hA); (have hF := hA.facts); (try simp only [facts_cons, facts_nil, facts_cells, facts_old, facts_fact, facts_obj, facts_map, facts_iter, facts_row, and_true, true_and] at hF)) | ((with_reducible show wpList _ _ _ ({ dst := _, op := Op.store _ _ _, type := _, pos := _, after := _, guard := _ } :: _) _ _); refine wpList_store_at rfl rfl rfl (by (try simp only [Act.eval, Array.getD_eq_getD_getElem?, List.getElem?_toArray, List.getElem?_cons_succ, List.getElem?_cons_zero, Option.getD_some]) <;> exact rfl) (by exact rfl) hA (by with_reducible repeat (first | exact Sel.here | apply Sel.there)) (by kernel_rfl) rfl (by first | decide | (simp; done) | omega) ?_; intro w1 hB; clear hF hA; have hA := hB; clear hB; (try simp only [setL, List.set_cons_zero, List.set_cons_succ, List.cons_append, List.nil_append] at hA); (have hF := hA.facts); (try simp only [facts_cons, facts_nil, facts_cells, facts_old, facts_fact, facts_obj, facts_map, facts_iter, facts_row, and_true, true_and] at hF)) | ((with_reducible show wpList _ _ _ ({ dst := _, op := Op.box _ _, type := _, pos := _, after := _, guard := _ } :: _) _ _); refine wpList_box_at rfl rfl (by (try simp only [Act.eval, Array.getD_eq_getD_getElem?, List.getElem?_toArray, List.getElem?_cons_succ, List.getElem?_cons_zero, Option.getD_some]) <;> exact rfl) (by exact rfl) hA ?_; intro b1 w1 hB hb1; clear hF hA; have hA := hB; clear hB; (try simp only [setL, List.set_cons_zero, List.set_cons_succ, List.cons_append, List.nil_append] at hA); (have hF := hA.facts); (try simp only [facts_cons, facts_nil, facts_cells, facts_old, facts_fact, facts_obj, facts_map, facts_iter, facts_row, and_true, true_and] at hF)))
            have haP := ahead_at (x := x) (hA.sep1 (A := bookS a s) (by with_reducible repeat (first | exact Sel.here | apply Sel.there))) hI'.out (by omega) (by omega)
            simp only [Ent.val] at haP
            refine haP.mono ?_
            clear haP
            rintro e w4 ⟨va, l2, rfl, hperm2, hpw2, hT⟩
            have hB := hA.call1 (A := bookS a s) (by with_reducible repeat (first | exact Sel.here | apply Sel.there)) hT
            have hl2 := list_same hpe.out hpw'.out hperm2 hpw2
            subst hl2
            have hal : (keepF (offF x) l2).length ≤ 30 := by have := keepF_len (offF x) l2; omega
            clear hF hA hT hperm2 hpw2 c0 c1 c2 c3 c4 c5
            have hA := hB
            clear hB
            simp only [List.cons_append, List.nil_append] at hA
            obtain ⟨al, hald⟩ : ∃ z, keepF (offF x) l2 = z := ⟨_, rfl⟩
            rw [hald] at hA hal hst
            clear hald
            obtain ⟨ax, an, acap, hav, han⟩ := hA.row_hid (v := va) (n := al.length) (xs := flatE al) (by with_reducible repeat (first | exact Sel.here | apply Sel.there))
            subst hav
            have han2 := han.out
            subst han2
            clear han
            have hF := hA.facts
            (try simp only [setL, List.set_cons_zero, List.set_cons_succ, List.cons_append, List.nil_append] at hA); (have hF := hA.facts); (try simp only [facts_cons, facts_nil, facts_cells, facts_old, facts_fact, facts_obj, facts_map, facts_iter, facts_row, and_true, true_and] at hF)
            go_wp2_with (first | ((with_reducible show wpList _ _ _ ({ dst := _, op := Op.store _ _ _, type := _, pos := _, after := _, guard := _ } :: _) _ _); refine wpList_store_at rfl rfl rfl (by (try simp only [Act.eval, Array.getD_eq_getD_getElem?, List.getElem?_toArray, List.getElem?_cons_succ, List.getElem?_cons_zero, Option.getD_some]) <;> exact rfl) (by exact rfl) hA (by with_reducible repeat (first | exact Sel.here | apply Sel.there)) (by kernel_rfl) rfl (by first | decide | (simp; done) | omega) ?_; intro w1 hB; clear hF hA; have hA := hB; clear hB; (try simp only [setL, List.set_cons_zero, List.set_cons_succ, List.cons_append, List.nil_append] at hA); (have hF := hA.facts); (try simp only [facts_cons, facts_nil, facts_cells, facts_old, facts_fact, facts_obj, facts_map, facts_iter, facts_row, and_true, true_and] at hF)) | ((with_reducible show wpList _ _ _ ({ dst := _, op := Op.box _ _, type := _, pos := _, after := _, guard := _ } :: _) _ _); refine wpList_box_at rfl rfl (by (try simp only [Act.eval, Array.getD_eq_getD_getElem?, List.getElem?_toArray, List.getElem?_cons_succ, List.getElem?_cons_zero, Option.getD_some]) <;> exact rfl) (by exact rfl) hA ?_; intro b1 w1 hB hb1; clear hF hA; have hA := hB; clear hB; (try simp only [setL, List.set_cons_zero, List.set_cons_succ, List.cons_append, List.nil_append] at hA); (have hF := hA.facts); (try simp only [facts_cons, facts_nil, facts_cells, facts_old, facts_fact, facts_obj, facts_map, facts_iter, facts_row, and_true, true_and] at hF)))
            try go_frame
            go_loopg [9, 10, 54] al.length (fun k u9 u10 u54 wr => PiRel w a s bE g c E0 x (.slice ax al.length acap) al k u9 u10 u54 wr)
            case atStart => exact ⟨0, rfl, by simp, by simpa [pairsK] using hA.pick (by repeat (first | exact Picks.nil | refine Picks.cons (by repeat (first | exact Sel.here | apply Sel.there)) ?_))⟩
            case round =>
              obtain ⟨j, rfl, hjk, hB⟩ := hrel
              clear hF hA
              have hA := hB
              clear hB
              by_cases hj : j < al.length
              · have hst2 := Lib.hid (pairs_step x al hj)
                obtain ⟨ga, ca, rfl, hap1, ham, hacl, hact, hB⟩ := hA.row_open (ax := ax) (cap := acap) (n := al.length) (xs := flatE al) (by with_reducible repeat (first | exact Sel.here | apply Sel.there)) (by omega)
                have hx : al[j]? = some al[j] := List.getElem?_eq_getElem hj
                have d0 : ca[j * 6]? = some (.string al[j].path) := cells_at Ent.cells_len hact hx 0 (by omega)
                have d1 : ca[j * 6 + 1]? = some (.int .u64 al[j].num) := cells_at Ent.cells_len hact hx 1 (by omega)
                have d2 : ca[j * 6 + 2]? = some (.string al[j].foot) := cells_at Ent.cells_len hact hx 2 (by omega)
                have d3 : ca[j * 6 + 3]? = some (.int .i64 al[j].mode) := cells_at Ent.cells_len hact hx 3 (by omega)
                have d4 : ca[j * 6 + 4]? = some (.int .u64 al[j].n) := cells_at Ent.cells_len hact hx 4 (by omega)
                have d5 : ca[j * 6 + 5]? = some (.int .i64 al[j].stamp) := cells_at Ent.cells_len hact hx 5 (by omega)
                obtain ⟨y, hyi⟩ : ∃ y, al[j] = y := ⟨_, rfl⟩
                simp only [hyi] at d0 d1 d2 d3 d4 d5 hst2
                clear hA hx hyi
                have hA := hB
                clear hB
                have hpl : (pairsK x (al.take j)).length ≤ 30 := by unfold pairsK; rw [List.length_map]; have := List.length_take_le j al; omega
                have honx : ∀ w, (Instr.buildSlice 62 1 #[(0, .agg #[.int .u64 x.num, .string x.foot])]).run Tryz.prog w = .ok (.slice (some ⟨w.heap.size, 0, none⟩) 1 1) (w.alloc (.cells (seL (sesOf x)).toArray 33)) := fun w => by kernel_rfl
                have hony : ∀ w, (Instr.buildSlice 62 1 #[(0, .agg #[.int .u64 y.num, .string y.foot])]).run Tryz.prog w = .ok (.slice (some ⟨w.heap.size, 0, none⟩) 1 1) (w.alloc (.cells (seL (sesOf y)).toArray 33)) := fun w => by kernel_rfl
                obtain ⟨Fs, hFs⟩ : ∃ z, fromS (E0 ++ pairsK x (al.take j)) = z := ⟨_, rfl⟩
                obtain ⟨Ts, hTs⟩ : ∃ z, toS (E0 ++ pairsK x (al.take j)) = z := ⟨_, rfl⟩
                have hFl : Fs.length ≤ 1700 := by rw [← hFs]; unfold fromS; rw [List.length_map, List.length_append]; omega
                have hTl : Ts.length ≤ 1700 := by rw [← hTs]; unfold toS; rw [List.length_map, List.length_append]; omega
                have hFn := Lib.hid (show fromS (E0 ++ pairsK x (al.take (j + 1))) = Fs ++ [sesOf x] from by rw [hst2.out, ← List.append_assoc, ← hFs]; simp [fromS])
                have hTn := Lib.hid (show toS (E0 ++ pairsK x (al.take (j + 1))) = Ts ++ [sesOf y] from by rw [hst2.out, ← List.append_assoc, ← hTs]; simp [toS])
                rw [hFs, hTs] at hA
                clear hFs hTs hst2
                obtain ⟨fx, fn, fcap, hfv, hfn⟩ := hA.row_hid (v := u9) (n := Fs.length) (xs := flatQ Fs) (by with_reducible repeat (first | exact Sel.here | apply Sel.there))
                subst hfv
                have hfn2 := hfn.out
                subst hfn2
                obtain ⟨tx, tn, tcap, htv, htn⟩ := hA.row_hid (v := u10) (n := Ts.length) (xs := flatQ Ts) (by with_reducible repeat (first | exact Sel.here | apply Sel.there))
                subst htv
                have htn2 := htn.out
                subst htn2
                clear hfn htn
                have hF := hA.facts
                (try simp only [setL, List.set_cons_zero, List.set_cons_succ, List.cons_append, List.nil_append] at hA); (have hF := hA.facts); (try simp only [facts_cons, facts_nil, facts_cells, facts_old, facts_fact, facts_obj, facts_map, facts_iter, facts_row, and_true, true_and] at hF)
                go_wp2_with (first | ((with_reducible show wpList _ _ _ ({ dst := _, op := Op.alloc _, type := _, pos := _, after := _, guard := _ } :: _) _ _); refine wpList_alloc_at (E := 41) (z := .agg #[.string .empty, .int .u64 0, .string .empty, .int .i64 0, .int .u64 0, .int .i64 0]) (vs := [.string .empty, .int .u64 0, .string .empty, .int .i64 0, .int .u64 0, .int .i64 0]) rfl rfl (by kernel_rfl) rfl hA ?_; intro bX w1 hB hbX; clear hF hA; have hA := hB; clear hB; (try simp only [setL, List.set_cons_zero, List.set_cons_succ, List.cons_append, List.nil_append] at hA); (have hF := hA.facts); (try simp only [facts_cons, facts_nil, facts_cells, facts_old, facts_fact, facts_obj, facts_map, facts_iter, facts_row, and_true, true_and] at hF)) | ((with_reducible show wpList _ _ _ ({ dst := _, op := Op.store _ _ _, type := _, pos := _, after := _, guard := _ } :: _) _ _); refine wpList_store_at rfl rfl rfl (by (try simp only [Act.eval, Array.getD_eq_getD_getElem?, List.getElem?_toArray, List.getElem?_cons_succ, List.getElem?_cons_zero, Option.getD_some]) <;> exact rfl) (by exact rfl) hA (by with_reducible repeat (first | exact Sel.here | apply Sel.there)) (by kernel_rfl) rfl (by first | decide | (simp; done) | omega) ?_; intro w1 hB; clear hF hA; have hA := hB; clear hB; (try simp only [setL, List.set_cons_zero, List.set_cons_succ, List.cons_append, List.nil_append] at hA); (have hF := hA.facts); (try simp only [facts_cons, facts_nil, facts_cells, facts_old, facts_fact, facts_obj, facts_map, facts_iter, facts_row, and_true, true_and] at hF)) | ((with_reducible show wpList _ _ _ ({ dst := _, op := Op.box _ _, type := _, pos := _, after := _, guard := _ } :: _) _ _); refine wpList_box_at rfl rfl (by (try simp only [Act.eval, Array.getD_eq_getD_getElem?, List.getElem?_toArray, List.getElem?_cons_succ, List.getElem?_cons_zero, Option.getD_some]) <;> exact rfl) (by exact rfl) hA ?_; intro b1 w1 hB hb1; clear hF hA; have hA := hB; clear hB; (try simp only [setL, List.set_cons_zero, List.set_cons_succ, List.cons_append, List.nil_append] at hA); (have hF := hA.facts); (try simp only [facts_cons, facts_nil, facts_cells, facts_old, facts_fact, facts_obj, facts_map, facts_iter, facts_row, and_true, true_and] at hF)))
                try go_frame
                have hm : Tryz.prog.follows .mixedOrders = true := by kernel_rfl
                have hA := hA.drew
                refine wp_region_held (S := fun w' => BlockIs w' bE [.string x.path, .int .u64 x.num, .string x.foot, .int .i64 x.mode, .int .u64 x.n, .int .i64 x.stamp] 41 ∧ BlockIs w' bX [.string y.path, .int .u64 y.num, .string y.foot, .int .i64 y.mode, .int .u64 y.n, .int .i64 y.stamp] 41) hm ?_
                change wpAnyH _ _ _ _ _ 12 _ _ w1.drew
                generalize w1.drew = w2 at *
                have hS0 : BlockIs w2 bE _ _ ∧ BlockIs w2 bX _ _ := ⟨hA.get (A := cloP bE x) (by with_reducible repeat (first | exact Sel.here | apply Sel.there)), hA.get (A := cloP bX y) (by with_reducible repeat (first | exact Sel.here | apply Sel.there))⟩
                refine wpAnyH_takeD (i := 0) (d := some 58) (v := .slice fx Fs.length fcap) rfl rfl (by kernel_rfl) (by kernel_rfl) (by kernel_rfl) (fun _ _ _ h => h) rfl (fun w' hS => by simp [execOp, go_sem, Act.eval, Act.put]) hS0 ?_
                go_frame
                refine wpAnyH_takeD (i := 1) (d := some 59) (v := .pointer (some ⟨bE, 1, none⟩)) rfl rfl (by kernel_rfl) (by kernel_rfl) (by kernel_rfl) (fun _ _ _ h => h) rfl (fun w' hS => by kernel_rfl) hS0 ?_
                go_frame
                refine wpAnyH_takeD (i := 2) (d := some 60) (v := .agg #[.int .u64 x.num, .string x.foot]) rfl rfl (by kernel_rfl) (by kernel_rfl) (by kernel_rfl) (fun _ _ _ h => h) rfl (fun w' hS => run_load_row (b := bE) (j := 1) rfl (by exact rfl) hS.1 (by kernel_rfl) (by kernel_rfl) (by exact rfl) rfl) hS0 ?_
                go_frame
                refine wpAnyH_takeD (i := 5) (d := some 63) (v := .slice tx Ts.length tcap) rfl rfl (by kernel_rfl) (by kernel_rfl) (by kernel_rfl) (fun _ _ _ h => h) rfl (fun w' hS => by simp [execOp, go_sem, Act.eval, Act.put]) hS0 ?_
                go_frame
                refine wpAnyH_takeD (i := 6) (d := some 64) (v := .pointer (some ⟨bX, 1, none⟩)) rfl rfl (by kernel_rfl) (by kernel_rfl) (by kernel_rfl) (fun _ _ _ h => h) rfl (fun w' hS => by kernel_rfl) hS0 ?_
                go_frame
                refine wpAnyH_takeD (i := 7) (d := some 65) (v := .agg #[.int .u64 y.num, .string y.foot]) rfl rfl (by kernel_rfl) (by kernel_rfl) (by kernel_rfl) (fun _ _ _ h => h) rfl (fun w' hS => run_load_row (b := bX) (j := 1) rfl (by exact rfl) hS.2 (by kernel_rfl) (by kernel_rfl) (by exact rfl) rfl) hS0 ?_
                go_frame
                refine wpAnyH_two (i := 3) (j := 8) (by kernel_rfl) ?_ ?_
                · skip
                  refine opOne_at (i := 3) (d := some 61) (x := .tmp 60) (e := 33) (vs := seL (sesOf x)) rfl rfl rfl rfl (by (try simp only [Act.eval, Array.getD_eq_getD_getElem?, List.getElem?_toArray, List.getElem?_cons_succ, List.getElem?_cons_zero, Option.getD_some]) <;> exact rfl) honx hA ?_
                  intro b1 z1 h1
                  refine ⟨⟨h1.get (A := cloP bE x) (by with_reducible repeat (first | exact Sel.here | apply Sel.there)), h1.get (A := cloP bX y) (by with_reducible repeat (first | exact Sel.here | apply Sel.there))⟩, ?_⟩
                  go_frame
                  refine wpAnyH_two (i := 4) (j := 8) (by kernel_rfl) ?_ ?_
                  · skip
                    refine opAppend_at (k := 4) (d := some 62) (e := 33) (size := 2) (v := .slice fx Fs.length fcap) (xs := flatQ Fs) (n := Fs.length) (m := 1) (news := seL (sesOf x)) rfl rfl rfl rfl (.tmp 58) (.tmp 61) 62 rfl Tryz.underlying62 hi0 hz0 hz1 hz2 rfl (by omega) h1 (by with_reducible repeat (first | exact Sel.here | apply Sel.there)) (by (try simp only [Act.eval, Array.getD_eq_getD_getElem?, List.getElem?_toArray, List.getElem?_cons_succ, List.getElem?_cons_zero, Option.getD_some]) <;> exact rfl) (by (try simp only [Act.eval, Array.getD_eq_getD_getElem?, List.getElem?_toArray, List.getElem?_cons_succ, List.getElem?_cons_zero, Option.getD_some]) <;> exact rfl) rfl (h1.cells_reads (b := b1) (c := seL (sesOf x)) (by with_reducible repeat (first | exact Sel.here | apply Sel.there)) _ _) (seL_one _) (by unfold maxLen; omega) (by omega) ?_
                    intro v1 z2 h2
                    rw [rowQ_snoc] at h2
                    refine ⟨⟨h2.get (A := cloP bE x) (by with_reducible repeat (first | exact Sel.here | apply Sel.there)), h2.get (A := cloP bX y) (by with_reducible repeat (first | exact Sel.here | apply Sel.there))⟩, ?_⟩
                    go_frame
                    refine wpAnyH_one (i := 8) (by kernel_rfl) ?_
                    refine opOne_at (i := 8) (d := some 66) (x := .tmp 65) (e := 33) (vs := seL (sesOf y)) rfl rfl rfl rfl (by (try simp only [Act.eval, Array.getD_eq_getD_getElem?, List.getElem?_toArray, List.getElem?_cons_succ, List.getElem?_cons_zero, Option.getD_some]) <;> exact rfl) hony h2 ?_
                    intro b2 z3 h3
                    refine ⟨⟨h3.get (A := cloP bE x) (by with_reducible repeat (first | exact Sel.here | apply Sel.there)), h3.get (A := cloP bX y) (by with_reducible repeat (first | exact Sel.here | apply Sel.there))⟩, ?_⟩
                    go_frame
                    refine wpAnyH_one (i := 9) (by kernel_rfl) ?_
                    refine opAppend_at (k := 9) (d := some 67) (e := 33) (size := 2) (v := .slice tx Ts.length tcap) (xs := flatQ Ts) (n := Ts.length) (m := 1) (news := seL (sesOf y)) rfl rfl rfl rfl (.tmp 63) (.tmp 66) 62 rfl Tryz.underlying62 hi0 hz0 hz1 hz2 rfl (by omega) h3 (by with_reducible repeat (first | exact Sel.here | apply Sel.there)) (by (try simp only [Act.eval, Array.getD_eq_getD_getElem?, List.getElem?_toArray, List.getElem?_cons_succ, List.getElem?_cons_zero, Option.getD_some]) <;> exact rfl) (by (try simp only [Act.eval, Array.getD_eq_getD_getElem?, List.getElem?_toArray, List.getElem?_cons_succ, List.getElem?_cons_zero, Option.getD_some]) <;> exact rfl) rfl (h3.cells_reads (b := b2) (c := seL (sesOf y)) (by with_reducible repeat (first | exact Sel.here | apply Sel.there)) _ _) (seL_one _) (by unfold maxLen; omega) (by omega) ?_
                    intro v2 z4 h4
                    rw [rowQ_snoc] at h4
                    refine ⟨⟨h4.get (A := cloP bE x) (by with_reducible repeat (first | exact Sel.here | apply Sel.there)), h4.get (A := cloP bX y) (by with_reducible repeat (first | exact Sel.here | apply Sel.there))⟩, ?_⟩
                    go_frame
                    refine wpAnyH_takeD (i := 10) (d := some 9) (v := v1) rfl rfl (by kernel_rfl) (by kernel_rfl) (by kernel_rfl) (fun _ _ _ h => h) rfl (fun w' hS => by simp [execOp, go_sem, Act.eval, Act.put]) ⟨h4.get (A := cloP bE x) (by with_reducible repeat (first | exact Sel.here | apply Sel.there)), h4.get (A := cloP bX y) (by with_reducible repeat (first | exact Sel.here | apply Sel.there))⟩ ?_
                    go_frame
                    refine wpAnyH_takeD (i := 11) (d := some 10) (v := v2) rfl rfl (by kernel_rfl) (by kernel_rfl) (by kernel_rfl) (fun _ _ _ h => h) rfl (fun w' hS => by simp [execOp, go_sem, Act.eval, Act.put]) ⟨h4.get (A := cloP bE x) (by with_reducible repeat (first | exact Sel.here | apply Sel.there)), h4.get (A := cloP bX y) (by with_reducible repeat (first | exact Sel.here | apply Sel.there))⟩ ?_
                    go_frame
                    refine wpAnyH_done (by kernel_rfl) ?_ _
                    try go_frame
                    go_wp2_with fail
                    go_roundg (al.length - (j + 1))
                    case measure => omega
                    case rel =>
                      have hS := h4.row_shut (e := 41) (size := 6) (n := al.length) (cap := acap) (xs := flatE al) (by with_reducible repeat (first | exact Sel.here | apply Sel.there)) hacl hap1 ham hact
                      exact ⟨j + 1, by simp, by omega, by rw [hFn.out, hTn.out]; exact hS.pick (by repeat (first | exact Picks.nil | refine Picks.cons (by repeat (first | exact Sel.here | apply Sel.there)) ?_))⟩
                  · skip
                    refine opOne_at (i := 8) (d := some 66) (x := .tmp 65) (e := 33) (vs := seL (sesOf y)) rfl rfl rfl rfl (by (try simp only [Act.eval, Array.getD_eq_getD_getElem?, List.getElem?_toArray, List.getElem?_cons_succ, List.getElem?_cons_zero, Option.getD_some]) <;> exact rfl) hony h1 ?_
                    intro b2 z5 h5
                    refine ⟨⟨h5.get (A := cloP bE x) (by with_reducible repeat (first | exact Sel.here | apply Sel.there)), h5.get (A := cloP bX y) (by with_reducible repeat (first | exact Sel.here | apply Sel.there))⟩, ?_⟩
                    go_frame
                    refine wpAnyH_one (i := 4) (by kernel_rfl) ?_
                    refine opAppend_at (k := 4) (d := some 62) (e := 33) (size := 2) (v := .slice fx Fs.length fcap) (xs := flatQ Fs) (n := Fs.length) (m := 1) (news := seL (sesOf x)) rfl rfl rfl rfl (.tmp 58) (.tmp 61) 62 rfl Tryz.underlying62 hi0 hz0 hz1 hz2 rfl (by omega) h5 (by with_reducible repeat (first | exact Sel.here | apply Sel.there)) (by (try simp only [Act.eval, Array.getD_eq_getD_getElem?, List.getElem?_toArray, List.getElem?_cons_succ, List.getElem?_cons_zero, Option.getD_some]) <;> exact rfl) (by (try simp only [Act.eval, Array.getD_eq_getD_getElem?, List.getElem?_toArray, List.getElem?_cons_succ, List.getElem?_cons_zero, Option.getD_some]) <;> exact rfl) rfl (h5.cells_reads (b := b1) (c := seL (sesOf x)) (by with_reducible repeat (first | exact Sel.here | apply Sel.there)) _ _) (seL_one _) (by unfold maxLen; omega) (by omega) ?_
                    intro v1 z6 h6
                    rw [rowQ_snoc] at h6
                    refine ⟨⟨h6.get (A := cloP bE x) (by with_reducible repeat (first | exact Sel.here | apply Sel.there)), h6.get (A := cloP bX y) (by with_reducible repeat (first | exact Sel.here | apply Sel.there))⟩, ?_⟩
                    go_frame
                    refine wpAnyH_one (i := 9) (by kernel_rfl) ?_
                    refine opAppend_at (k := 9) (d := some 67) (e := 33) (size := 2) (v := .slice tx Ts.length tcap) (xs := flatQ Ts) (n := Ts.length) (m := 1) (news := seL (sesOf y)) rfl rfl rfl rfl (.tmp 63) (.tmp 66) 62 rfl Tryz.underlying62 hi0 hz0 hz1 hz2 rfl (by omega) h6 (by with_reducible repeat (first | exact Sel.here | apply Sel.there)) (by (try simp only [Act.eval, Array.getD_eq_getD_getElem?, List.getElem?_toArray, List.getElem?_cons_succ, List.getElem?_cons_zero, Option.getD_some]) <;> exact rfl) (by (try simp only [Act.eval, Array.getD_eq_getD_getElem?, List.getElem?_toArray, List.getElem?_cons_succ, List.getElem?_cons_zero, Option.getD_some]) <;> exact rfl) rfl (h6.cells_reads (b := b2) (c := seL (sesOf y)) (by with_reducible repeat (first | exact Sel.here | apply Sel.there)) _ _) (seL_one _) (by unfold maxLen; omega) (by omega) ?_
                    intro v2 z7 h7
                    rw [rowQ_snoc] at h7
                    refine ⟨⟨h7.get (A := cloP bE x) (by with_reducible repeat (first | exact Sel.here | apply Sel.there)), h7.get (A := cloP bX y) (by with_reducible repeat (first | exact Sel.here | apply Sel.there))⟩, ?_⟩
                    go_frame
                    refine wpAnyH_takeD (i := 10) (d := some 9) (v := v1) rfl rfl (by kernel_rfl) (by kernel_rfl) (by kernel_rfl) (fun _ _ _ h => h) rfl (fun w' hS => by simp [execOp, go_sem, Act.eval, Act.put]) ⟨h7.get (A := cloP bE x) (by with_reducible repeat (first | exact Sel.here | apply Sel.there)), h7.get (A := cloP bX y) (by with_reducible repeat (first | exact Sel.here | apply Sel.there))⟩ ?_
                    go_frame
                    refine wpAnyH_takeD (i := 11) (d := some 10) (v := v2) rfl rfl (by kernel_rfl) (by kernel_rfl) (by kernel_rfl) (fun _ _ _ h => h) rfl (fun w' hS => by simp [execOp, go_sem, Act.eval, Act.put]) ⟨h7.get (A := cloP bE x) (by with_reducible repeat (first | exact Sel.here | apply Sel.there)), h7.get (A := cloP bX y) (by with_reducible repeat (first | exact Sel.here | apply Sel.there))⟩ ?_
                    go_frame
                    refine wpAnyH_done (by kernel_rfl) ?_ _
                    try go_frame
                    go_wp2_with fail
                    go_roundg (al.length - (j + 1))
                    case measure => omega
                    case rel =>
                      have hS := h7.row_shut (e := 41) (size := 6) (n := al.length) (cap := acap) (xs := flatE al) (by with_reducible repeat (first | exact Sel.here | apply Sel.there)) hacl hap1 ham hact
                      exact ⟨j + 1, by simp, by omega, by rw [hFn.out, hTn.out]; exact hS.pick (by repeat (first | exact Picks.nil | refine Picks.cons (by repeat (first | exact Sel.here | apply Sel.there)) ?_))⟩
                · skip
                  refine opOne_at (i := 8) (d := some 66) (x := .tmp 65) (e := 33) (vs := seL (sesOf y)) rfl rfl rfl rfl (by (try simp only [Act.eval, Array.getD_eq_getD_getElem?, List.getElem?_toArray, List.getElem?_cons_succ, List.getElem?_cons_zero, Option.getD_some]) <;> exact rfl) hony hA ?_
                  intro b2 z8 h8
                  refine ⟨⟨h8.get (A := cloP bE x) (by with_reducible repeat (first | exact Sel.here | apply Sel.there)), h8.get (A := cloP bX y) (by with_reducible repeat (first | exact Sel.here | apply Sel.there))⟩, ?_⟩
                  go_frame
                  refine wpAnyH_one (i := 3) (by kernel_rfl) ?_
                  refine opOne_at (i := 3) (d := some 61) (x := .tmp 60) (e := 33) (vs := seL (sesOf x)) rfl rfl rfl rfl (by (try simp only [Act.eval, Array.getD_eq_getD_getElem?, List.getElem?_toArray, List.getElem?_cons_succ, List.getElem?_cons_zero, Option.getD_some]) <;> exact rfl) honx h8 ?_
                  intro b1 z9 h9
                  refine ⟨⟨h9.get (A := cloP bE x) (by with_reducible repeat (first | exact Sel.here | apply Sel.there)), h9.get (A := cloP bX y) (by with_reducible repeat (first | exact Sel.here | apply Sel.there))⟩, ?_⟩
                  go_frame
                  refine wpAnyH_one (i := 4) (by kernel_rfl) ?_
                  refine opAppend_at (k := 4) (d := some 62) (e := 33) (size := 2) (v := .slice fx Fs.length fcap) (xs := flatQ Fs) (n := Fs.length) (m := 1) (news := seL (sesOf x)) rfl rfl rfl rfl (.tmp 58) (.tmp 61) 62 rfl Tryz.underlying62 hi0 hz0 hz1 hz2 rfl (by omega) h9 (by with_reducible repeat (first | exact Sel.here | apply Sel.there)) (by (try simp only [Act.eval, Array.getD_eq_getD_getElem?, List.getElem?_toArray, List.getElem?_cons_succ, List.getElem?_cons_zero, Option.getD_some]) <;> exact rfl) (by (try simp only [Act.eval, Array.getD_eq_getD_getElem?, List.getElem?_toArray, List.getElem?_cons_succ, List.getElem?_cons_zero, Option.getD_some]) <;> exact rfl) rfl (h9.cells_reads (b := b1) (c := seL (sesOf x)) (by with_reducible repeat (first | exact Sel.here | apply Sel.there)) _ _) (seL_one _) (by unfold maxLen; omega) (by omega) ?_
                  intro v1 z10 h10
                  rw [rowQ_snoc] at h10
                  refine ⟨⟨h10.get (A := cloP bE x) (by with_reducible repeat (first | exact Sel.here | apply Sel.there)), h10.get (A := cloP bX y) (by with_reducible repeat (first | exact Sel.here | apply Sel.there))⟩, ?_⟩
                  go_frame
                  refine wpAnyH_one (i := 9) (by kernel_rfl) ?_
                  refine opAppend_at (k := 9) (d := some 67) (e := 33) (size := 2) (v := .slice tx Ts.length tcap) (xs := flatQ Ts) (n := Ts.length) (m := 1) (news := seL (sesOf y)) rfl rfl rfl rfl (.tmp 63) (.tmp 66) 62 rfl Tryz.underlying62 hi0 hz0 hz1 hz2 rfl (by omega) h10 (by with_reducible repeat (first | exact Sel.here | apply Sel.there)) (by (try simp only [Act.eval, Array.getD_eq_getD_getElem?, List.getElem?_toArray, List.getElem?_cons_succ, List.getElem?_cons_zero, Option.getD_some]) <;> exact rfl) (by (try simp only [Act.eval, Array.getD_eq_getD_getElem?, List.getElem?_toArray, List.getElem?_cons_succ, List.getElem?_cons_zero, Option.getD_some]) <;> exact rfl) rfl (h10.cells_reads (b := b2) (c := seL (sesOf y)) (by with_reducible repeat (first | exact Sel.here | apply Sel.there)) _ _) (seL_one _) (by unfold maxLen; omega) (by omega) ?_
                  intro v2 z11 h11
                  rw [rowQ_snoc] at h11
                  refine ⟨⟨h11.get (A := cloP bE x) (by with_reducible repeat (first | exact Sel.here | apply Sel.there)), h11.get (A := cloP bX y) (by with_reducible repeat (first | exact Sel.here | apply Sel.there))⟩, ?_⟩
                  go_frame
                  refine wpAnyH_takeD (i := 10) (d := some 9) (v := v1) rfl rfl (by kernel_rfl) (by kernel_rfl) (by kernel_rfl) (fun _ _ _ h => h) rfl (fun w' hS => by simp [execOp, go_sem, Act.eval, Act.put]) ⟨h11.get (A := cloP bE x) (by with_reducible repeat (first | exact Sel.here | apply Sel.there)), h11.get (A := cloP bX y) (by with_reducible repeat (first | exact Sel.here | apply Sel.there))⟩ ?_
                  go_frame
                  refine wpAnyH_takeD (i := 11) (d := some 10) (v := v2) rfl rfl (by kernel_rfl) (by kernel_rfl) (by kernel_rfl) (fun _ _ _ h => h) rfl (fun w' hS => by simp [execOp, go_sem, Act.eval, Act.put]) ⟨h11.get (A := cloP bE x) (by with_reducible repeat (first | exact Sel.here | apply Sel.there)), h11.get (A := cloP bX y) (by with_reducible repeat (first | exact Sel.here | apply Sel.there))⟩ ?_
                  go_frame
                  refine wpAnyH_done (by kernel_rfl) ?_ _
                  try go_frame
                  go_wp2_with fail
                  go_roundg (al.length - (j + 1))
                  case measure => omega
                  case rel =>
                    have hS := h11.row_shut (e := 41) (size := 6) (n := al.length) (cap := acap) (xs := flatE al) (by with_reducible repeat (first | exact Sel.here | apply Sel.there)) hacl hap1 ham hact
                    exact ⟨j + 1, by simp, by omega, by rw [hFn.out, hTn.out]; exact hS.pick (by repeat (first | exact Picks.nil | refine Picks.cons (by repeat (first | exact Sel.here | apply Sel.there)) ?_))⟩
              · have hal2 : al.take j = al := List.take_of_length_le (by omega)
                rw [hal2, ← hst.out] at hA
                clear hal2
                have hF := hA.facts
                (try simp only [setL, List.set_cons_zero, List.set_cons_succ, List.cons_append, List.nil_append] at hA); (have hF := hA.facts); (try simp only [facts_cons, facts_nil, facts_cells, facts_old, facts_fact, facts_obj, facts_map, facts_iter, facts_row, and_true, true_and] at hF)
                go_wp2_with (first | ((with_reducible show wpList _ _ _ ({ dst := _, op := Op.store _ _ _, type := _, pos := _, after := _, guard := _ } :: _) _ _); refine wpList_store_at rfl rfl rfl (by (try simp only [Act.eval, Array.getD_eq_getD_getElem?, List.getElem?_toArray, List.getElem?_cons_succ, List.getElem?_cons_zero, Option.getD_some]) <;> exact rfl) (by exact rfl) hA (by with_reducible repeat (first | exact Sel.here | apply Sel.there)) (by kernel_rfl) rfl (by first | decide | (simp; done) | omega) ?_; intro w1 hB; clear hF hA; have hA := hB; clear hB; (try simp only [setL, List.set_cons_zero, List.set_cons_succ, List.cons_append, List.nil_append] at hA); (have hF := hA.facts); (try simp only [facts_cons, facts_nil, facts_cells, facts_old, facts_fact, facts_obj, facts_map, facts_iter, facts_row, and_true, true_and] at hF)) | ((with_reducible show wpList _ _ _ ({ dst := _, op := Op.box _ _, type := _, pos := _, after := _, guard := _ } :: _) _ _); refine wpList_box_at rfl rfl (by (try simp only [Act.eval, Array.getD_eq_getD_getElem?, List.getElem?_toArray, List.getElem?_cons_succ, List.getElem?_cons_zero, Option.getD_some]) <;> exact rfl) (by exact rfl) hA ?_; intro b1 w1 hB hb1; clear hF hA; have hA := hB; clear hB; (try simp only [setL, List.set_cons_zero, List.set_cons_succ, List.cons_append, List.nil_append] at hA); (have hF := hA.facts); (try simp only [facts_cons, facts_nil, facts_cells, facts_old, facts_fact, facts_obj, facts_map, facts_iter, facts_row, and_true, true_and] at hF)))
                go_roundg (l2.length - (i2 + 1))
                case measure => omega
                case rel =>
                  have hS := hA.row_shut (e := 41) (size := 6) (n := l2.length) (cap := lcap) (xs := l2.flatMap Ent.cells) (by with_reducible repeat (first | exact Sel.here | apply Sel.there)) hcl hcp1 hcm hct
                  exact ⟨i2 + 1, by simp, by omega, hS.pick (by repeat (first | exact Picks.nil | refine Picks.cons (by repeat (first | exact Sel.here | apply Sel.there)) ?_))⟩
          · rw [List.take_of_length_le (by omega)] at hA
            have hF := hA.facts
            (try simp only [setL, List.set_cons_zero, List.set_cons_succ, List.cons_append, List.nil_append] at hA); (have hF := hA.facts); (try simp only [facts_cons, facts_nil, facts_cells, facts_old, facts_fact, facts_obj, facts_map, facts_iter, facts_row, and_true, true_and] at hF)
            go_wp2_with (first | ((with_reducible show wpList _ _ _ ({ dst := _, op := Op.store _ _ _, type := _, pos := _, after := _, guard := _ } :: _) _ _); refine wpList_store_at rfl rfl rfl (by (try simp only [Act.eval, Array.getD_eq_getD_getElem?, List.getElem?_toArray, List.getElem?_cons_succ, List.getElem?_cons_zero, Option.getD_some]) <;> exact rfl) (by exact rfl) hA (by with_reducible repeat (first | exact Sel.here | apply Sel.there)) (by kernel_rfl) rfl (by first | decide | (simp; done) | omega) ?_; intro w1 hB; clear hF hA; have hA := hB; clear hB; (try simp only [setL, List.set_cons_zero, List.set_cons_succ, List.cons_append, List.nil_append] at hA); (have hF := hA.facts); (try simp only [facts_cons, facts_nil, facts_cells, facts_old, facts_fact, facts_obj, facts_map, facts_iter, facts_row, and_true, true_and] at hF)) | ((with_reducible show wpList _ _ _ ({ dst := _, op := Op.box _ _, type := _, pos := _, after := _, guard := _ } :: _) _ _); refine wpList_box_at rfl rfl (by (try simp only [Act.eval, Array.getD_eq_getD_getElem?, List.getElem?_toArray, List.getElem?_cons_succ, List.getElem?_cons_zero, Option.getD_some]) <;> exact rfl) (by exact rfl) hA ?_; intro b1 w1 hB hb1; clear hF hA; have hA := hB; clear hB; (try simp only [setL, List.set_cons_zero, List.set_cons_succ, List.cons_append, List.nil_append] at hA); (have hF := hA.facts); (try simp only [facts_cons, facts_nil, facts_cells, facts_old, facts_fact, facts_obj, facts_map, facts_iter, facts_row, and_true, true_and] at hF)))
            refine (stuck_any (hA.sep1 (A := bookS a s) (by with_reducible repeat (first | exact Sel.here | apply Sel.there))) hI'.out (by omega)).mono ?_
            rintro o w5 ⟨vs, ss, rfl, hss, hssl, hT⟩
            have hB := hA.call1 (A := bookS a s) (by with_reducible repeat (first | exact Sel.here | apply Sel.there)) hT
            clear hF hA hT
            have hA := hB
            clear hB
            simp only [List.cons_append, List.nil_append] at hA
            obtain ⟨qx, qn, qcap, hqv, hqn⟩ := hA.row_hid (v := vs) (n := ss.length) (xs := flatQ ss) (by with_reducible repeat (first | exact Sel.here | apply Sel.there))
            subst hqv
            have hqn2 := hqn.out
            subst hqn2
            clear hqn
            have hF := hA.facts
            (try simp only [setL, List.set_cons_zero, List.set_cons_succ, List.cons_append, List.nil_append] at hA); (have hF := hA.facts); (try simp only [facts_cons, facts_nil, facts_cells, facts_old, facts_fact, facts_obj, facts_map, facts_iter, facts_row, and_true, true_and] at hF)
            have hEs := Lib.hid (show ∀ x, x ∈ ss ↔ Conn (edgesOf l l) x x from fun x => by
              rw [hss x]
              exact ⟨edges_perm hpe.out.symm hpe.out.symm, edges_perm hpe.out hpe.out⟩)
            have hEl : (edgesOf l l).length ≤ 2000 := Nat.le_trans (edges_len _ _) (Nat.le_trans (Nat.mul_le_mul hlb hlb) (by omega))
            obtain ⟨E, hE⟩ : ∃ z, edgesOf l l = z := ⟨_, rfl⟩
            have hnone := Lib.hid (fun (l' m' : List Ent) (h1 : l'.Perm (goneA s ss).es) (h2 : m'.Perm (goneA s ss).es) x => goneA_none hpe.out hpe.out (fun x hx => (hEs.out x).2 hx) h1 h2 x)
            rw [hE] at hEs hEl hA
            clear hE hss
            rw [rowQ_M, rowQ_M2] at hA
            have hF := hA.facts
            (try simp only [setL, List.set_cons_zero, List.set_cons_succ, List.cons_append, List.nil_append] at hA); (have hF := hA.facts); (try simp only [facts_cons, facts_nil, facts_cells, facts_old, facts_fact, facts_obj, facts_map, facts_iter, facts_row, and_true, true_and] at hF)
            go_wp2_with (first | ((with_reducible show wpList _ _ _ ({ dst := _, op := Op.store _ _ _, type := _, pos := _, after := _, guard := _ } :: _) _ _); refine wpList_store_at rfl rfl rfl (by (try simp only [Act.eval, Array.getD_eq_getD_getElem?, List.getElem?_toArray, List.getElem?_cons_succ, List.getElem?_cons_zero, Option.getD_some]) <;> exact rfl) (by exact rfl) hA (by with_reducible repeat (first | exact Sel.here | apply Sel.there)) (by kernel_rfl) rfl (by first | decide | (simp; done) | omega) ?_; intro w1 hB; clear hF hA; have hA := hB; clear hB; (try simp only [setL, List.set_cons_zero, List.set_cons_succ, List.cons_append, List.nil_append] at hA); (have hF := hA.facts); (try simp only [facts_cons, facts_nil, facts_cells, facts_old, facts_fact, facts_obj, facts_map, facts_iter, facts_row, and_true, true_and] at hF)) | ((with_reducible show wpList _ _ _ ({ dst := _, op := Op.box _ _, type := _, pos := _, after := _, guard := _ } :: _) _ _); refine wpList_box_at rfl rfl (by (try simp only [Act.eval, Array.getD_eq_getD_getElem?, List.getElem?_toArray, List.getElem?_cons_succ, List.getElem?_cons_zero, Option.getD_some]) <;> exact rfl) (by exact rfl) hA ?_; intro b1 w1 hB hb1; clear hF hA; have hA := hB; clear hB; (try simp only [setL, List.set_cons_zero, List.set_cons_succ, List.cons_append, List.nil_append] at hA); (have hF := hA.facts); (try simp only [facts_cons, facts_nil, facts_cells, facts_old, facts_fact, facts_obj, facts_map, facts_iter, facts_row, and_true, true_and] at hF)))
            try go_frame
            go_loopg [74] l.length (FiRel w a s (.slice lx l.length lcap) l E u9 u10 (.slice qx ss.length qcap) ss)
            case atStart => exact ⟨0, rfl, by simp, hA.pick (by repeat (first | exact Picks.nil | refine Picks.cons (by repeat (first | exact Sel.here | apply Sel.there)) ?_))⟩
            case round =>
              obtain ⟨i3, rfl, hik3, hB⟩ := hrel
              clear hF hA
              have hA := hB
              clear hB
              by_cases hi3 : i3 < l.length
              · have hxl := Lib.hid (List.getElem_mem hi3)
                obtain ⟨g, c, rfl, hcp1, hcm, hcl, hct, hB⟩ := hA.row_open (ax := lx) (cap := lcap) (n := l.length) (xs := l.flatMap Ent.cells) (by with_reducible repeat (first | exact Sel.here | apply Sel.there)) (by omega)
                have hx : l[i3]? = some l[i3] := List.getElem?_eq_getElem hi3
                (have c0 : c[i3 * 6]? = some (.string l[i3].path) := cells_at Ent.cells_len hct hx 0 (by omega)); (have c1 : c[i3 * 6 + 1]? = some (.int .u64 l[i3].num) := cells_at Ent.cells_len hct hx 1 (by omega)); (have c2 : c[i3 * 6 + 2]? = some (.string l[i3].foot) := cells_at Ent.cells_len hct hx 2 (by omega)); (have c3 : c[i3 * 6 + 3]? = some (.int .i64 l[i3].mode) := cells_at Ent.cells_len hct hx 3 (by omega)); (have c4 : c[i3 * 6 + 4]? = some (.int .u64 l[i3].n) := cells_at Ent.cells_len hct hx 4 (by omega)); (have c5 : c[i3 * 6 + 5]? = some (.int .i64 l[i3].stamp) := cells_at Ent.cells_len hct hx 5 (by omega))
                obtain ⟨x, hxi⟩ : ∃ x, l[i3] = x := ⟨_, rfl⟩
                simp only [hxi] at c0 c1 c2 c3 c4 c5 hxl
                clear hA hxi hx
                have hA := hB
                clear hB
                have hF := hA.facts
                (try simp only [setL, List.set_cons_zero, List.set_cons_succ, List.cons_append, List.nil_append] at hA); (have hF := hA.facts); (try simp only [facts_cons, facts_nil, facts_cells, facts_old, facts_fact, facts_obj, facts_map, facts_iter, facts_row, and_true, true_and] at hF)
                go_wp2_with (first | ((with_reducible show wpList _ _ _ ({ dst := _, op := Op.alloc _, type := _, pos := _, after := _, guard := _ } :: _) _ _); refine wpList_alloc_at (E := 41) (z := .agg #[.string .empty, .int .u64 0, .string .empty, .int .i64 0, .int .u64 0, .int .i64 0]) (vs := [.string .empty, .int .u64 0, .string .empty, .int .i64 0, .int .u64 0, .int .i64 0]) rfl rfl (by kernel_rfl) rfl hA ?_; intro bF w1 hB hbF; clear hF hA; have hA := hB; clear hB; (try simp only [setL, List.set_cons_zero, List.set_cons_succ, List.cons_append, List.nil_append] at hA); (have hF := hA.facts); (try simp only [facts_cons, facts_nil, facts_cells, facts_old, facts_fact, facts_obj, facts_map, facts_iter, facts_row, and_true, true_and] at hF)) | ((with_reducible show wpList _ _ _ ({ dst := _, op := Op.store _ _ _, type := _, pos := _, after := _, guard := _ } :: _) _ _); refine wpList_store_at rfl rfl rfl (by (try simp only [Act.eval, Array.getD_eq_getD_getElem?, List.getElem?_toArray, List.getElem?_cons_succ, List.getElem?_cons_zero, Option.getD_some]) <;> exact rfl) (by exact rfl) hA (by with_reducible repeat (first | exact Sel.here | apply Sel.there)) (by kernel_rfl) rfl (by first | decide | (simp; done) | omega) ?_; intro w1 hB; clear hF hA; have hA := hB; clear hB; (try simp only [setL, List.set_cons_zero, List.set_cons_succ, List.cons_append, List.nil_append] at hA); (have hF := hA.facts); (try simp only [facts_cons, facts_nil, facts_cells, facts_old, facts_fact, facts_obj, facts_map, facts_iter, facts_row, and_true, true_and] at hF)) | ((with_reducible show wpList _ _ _ ({ dst := _, op := Op.box _ _, type := _, pos := _, after := _, guard := _ } :: _) _ _); refine wpList_box_at rfl rfl (by (try simp only [Act.eval, Array.getD_eq_getD_getElem?, List.getElem?_toArray, List.getElem?_cons_succ, List.getElem?_cons_zero, Option.getD_some]) <;> exact rfl) (by exact rfl) hA ?_; intro b1 w1 hB hb1; clear hF hA; have hA := hB; clear hB; (try simp only [setL, List.set_cons_zero, List.set_cons_succ, List.cons_append, List.nil_append] at hA); (have hF := hA.facts); (try simp only [facts_cons, facts_nil, facts_cells, facts_old, facts_fact, facts_obj, facts_map, facts_iter, facts_row, and_true, true_and] at hF)))
                try go_frame
                go_loopg [18, 80] ss.length (FjRel w a s g bF c x E u9 u10 (.slice qx ss.length qcap) ss)
                case atStart => exact ⟨0, rfl, by simp, rfl, hA.pick (by repeat (first | exact Picks.nil | refine Picks.cons (by repeat (first | exact Sel.here | apply Sel.there)) ?_))⟩
                case round =>
                  obtain ⟨m, rfl, hmk, rfl, hB⟩ := hrel
                  clear hF hA
                  have hA := hB
                  clear hB
                  by_cases hm : m < ss.length
                  · have hms := Lib.hid (mem_moreS (y := sesOf x) hm)
                    obtain ⟨gq, cq, rfl, qp1, qm, ql, qt, hB⟩ := hA.row_open (ax := qx) (cap := qcap) (n := ss.length) (xs := flatQ ss) (by with_reducible repeat (first | exact Sel.here | apply Sel.there)) (by omega)
                    have hz : ss[m]? = some ss[m] := List.getElem?_eq_getElem hm
                    have z0 : cq[m * 2]? = some (.int .u64 ss[m].1) := cells_at seL_len qt hz 0 (by omega)
                    have z1 : cq[m * 2 + 1]? = some (.string ss[m].2) := cells_at seL_len qt hz 1 (by omega)
                    obtain ⟨z, hzi⟩ : ∃ z, ss[m] = z := ⟨_, rfl⟩
                    rw [hzi] at z0 z1 hms
                    have hsq : decide (z = sesOf x) = decide (z.1 = x.num ∧ z.2 = x.foot) := by rw [Bool.eq_iff_iff, decide_eq_true_iff, decide_eq_true_iff]; exact (ses_eq z (sesOf x)).symm
                    rw [hsq] at hms
                    clear hA hz hzi hsq
                    have hA := hB
                    clear hB
                    obtain ⟨fb, hfb⟩ : ∃ u, memB (sesOf x) (ss.take m) = u := ⟨_, rfl⟩
                    rw [hfb] at hms ⊢
                    clear hfb
                    have hF := hA.facts
                    (try simp only [setL, List.set_cons_zero, List.set_cons_succ, List.cons_append, List.nil_append] at hA); (have hF := hA.facts); (try simp only [facts_cons, facts_nil, facts_cells, facts_old, facts_fact, facts_obj, facts_map, facts_iter, facts_row, and_true, true_and] at hF)
                    cases fb
                    all_goals
                      go_wp2_with (first | ((with_reducible show wpList _ _ _ ({ dst := _, op := Op.alloc _, type := _, pos := _, after := _, guard := _ } :: _) _ _); refine wpList_alloc_at (E := 33) (z := .agg #[.int .u64 0, .string .empty]) (vs := [.int .u64 0, .string .empty]) rfl rfl (by kernel_rfl) rfl hA ?_; intro bZ w1 hB hbZ; clear hF hA; have hA := hB; clear hB; (try simp only [setL, List.set_cons_zero, List.set_cons_succ, List.cons_append, List.nil_append] at hA); (have hF := hA.facts); (try simp only [facts_cons, facts_nil, facts_cells, facts_old, facts_fact, facts_obj, facts_map, facts_iter, facts_row, and_true, true_and] at hF)) | ((with_reducible show wpList _ _ _ ({ dst := _, op := Op.store _ _ _, type := _, pos := _, after := _, guard := _ } :: _) _ _); refine wpList_store_at rfl rfl rfl (by (try simp only [Act.eval, Array.getD_eq_getD_getElem?, List.getElem?_toArray, List.getElem?_cons_succ, List.getElem?_cons_zero, Option.getD_some]) <;> exact rfl) (by exact rfl) hA (by with_reducible repeat (first | exact Sel.here | apply Sel.there)) (by kernel_rfl) rfl (by first | decide | (simp; done) | omega) ?_; intro w1 hB; clear hF hA; have hA := hB; clear hB; (try simp only [setL, List.set_cons_zero, List.set_cons_succ, List.cons_append, List.nil_append] at hA); (have hF := hA.facts); (try simp only [facts_cons, facts_nil, facts_cells, facts_old, facts_fact, facts_obj, facts_map, facts_iter, facts_row, and_true, true_and] at hF)) | ((with_reducible show wpList _ _ _ ({ dst := _, op := Op.box _ _, type := _, pos := _, after := _, guard := _ } :: _) _ _); refine wpList_box_at rfl rfl (by (try simp only [Act.eval, Array.getD_eq_getD_getElem?, List.getElem?_toArray, List.getElem?_cons_succ, List.getElem?_cons_zero, Option.getD_some]) <;> exact rfl) (by exact rfl) hA ?_; intro b1 w1 hB hb1; clear hF hA; have hA := hB; clear hB; (try simp only [setL, List.set_cons_zero, List.set_cons_succ, List.cons_append, List.nil_append] at hA); (have hF := hA.facts); (try simp only [facts_cons, facts_nil, facts_cells, facts_old, facts_fact, facts_obj, facts_map, facts_iter, facts_row, and_true, true_and] at hF)))
                      go_roundg (gk - 1)
                      case measure => omega
                      case rel =>
                        have hS := hA.row_shut (e := 33) (size := 2) (n := ss.length) (cap := qcap) (xs := flatQ ss) (g := gq) (c := cq) (by with_reducible repeat (first | exact Sel.here | apply Sel.there)) ql qp1 qm qt
                        exact ⟨m + 1, by simp, by omega, by rw [hms.out]; simp, hS.pick (by repeat (first | exact Picks.nil | refine Picks.cons (by repeat (first | exact Sel.here | apply Sel.there)) ?_))⟩
                  · have hall : memB (sesOf x) (ss.take m) = memB (sesOf x) ss := by rw [List.take_of_length_le (by omega)]
                    rw [hall]
                    have hiff := Lib.hid (show memB (sesOf x) ss = true ↔ Conn E (sesOf x) (sesOf x) from memB_iff.trans (hEs.out _))
                    generalize memB (sesOf x) ss = fb at *
                    clear hall
                    have hF := hA.facts
                    (try simp only [setL, List.set_cons_zero, List.set_cons_succ, List.cons_append, List.nil_append] at hA); (have hF := hA.facts); (try simp only [facts_cons, facts_nil, facts_cells, facts_old, facts_fact, facts_obj, facts_map, facts_iter, facts_row, and_true, true_and] at hF)
                    go_wp2_with (first | ((with_reducible show wpList _ _ _ ({ dst := _, op := Op.store _ _ _, type := _, pos := _, after := _, guard := _ } :: _) _ _); refine wpList_store_at rfl rfl rfl (by (try simp only [Act.eval, Array.getD_eq_getD_getElem?, List.getElem?_toArray, List.getElem?_cons_succ, List.getElem?_cons_zero, Option.getD_some]) <;> exact rfl) (by exact rfl) hA (by with_reducible repeat (first | exact Sel.here | apply Sel.there)) (by kernel_rfl) rfl (by first | decide | (simp; done) | omega) ?_; intro w1 hB; clear hF hA; have hA := hB; clear hB; (try simp only [setL, List.set_cons_zero, List.set_cons_succ, List.cons_append, List.nil_append] at hA); (have hF := hA.facts); (try simp only [facts_cons, facts_nil, facts_cells, facts_old, facts_fact, facts_obj, facts_map, facts_iter, facts_row, and_true, true_and] at hF)) | ((with_reducible show wpList _ _ _ ({ dst := _, op := Op.box _ _, type := _, pos := _, after := _, guard := _ } :: _) _ _); refine wpList_box_at rfl rfl (by (try simp only [Act.eval, Array.getD_eq_getD_getElem?, List.getElem?_toArray, List.getElem?_cons_succ, List.getElem?_cons_zero, Option.getD_some]) <;> exact rfl) (by exact rfl) hA ?_; intro b1 w1 hB hb1; clear hF hA; have hA := hB; clear hB; (try simp only [setL, List.set_cons_zero, List.set_cons_succ, List.cons_append, List.nil_append] at hA); (have hF := hA.facts); (try simp only [facts_cons, facts_nil, facts_cells, facts_old, facts_fact, facts_obj, facts_map, facts_iter, facts_row, and_true, true_and] at hF)))
                    refine (loops_any rfl (hA.sep2 (A := rowM u9 E.length (fromS E)) (B := rowM u10 E.length (toS E)) (by with_reducible repeat (first | exact Sel.here | apply Sel.there)) (by with_reducible repeat (first | exact Sel.here | apply Sel.there))) (sesOf x) hEl).mono ?_
                    rintro o w6 ⟨cb, rfl, hcb, hT⟩
                    have hB := hA.call2 (A := rowM u9 E.length (fromS E)) (B := rowM u10 E.length (toS E)) (by with_reducible repeat (first | exact Sel.here | apply Sel.there)) (by with_reducible repeat (first | exact Sel.here | apply Sel.there)) hT
                    have hcf : cb = fb := by rw [Bool.eq_iff_iff, hcb, hiff.out]
                    subst hcf
                    clear hF hA hT hcb hiff
                    have hA := hB
                    clear hB
                    simp only [List.cons_append, List.nil_append] at hA
                    have hF := hA.facts
                    (try simp only [setL, List.set_cons_zero, List.set_cons_succ, List.cons_append, List.nil_append] at hA); (have hF := hA.facts); (try simp only [facts_cons, facts_nil, facts_cells, facts_old, facts_fact, facts_obj, facts_map, facts_iter, facts_row, and_true, true_and] at hF)
                    cases cb
                    all_goals
                      go_wp2_with (first | ((with_reducible show wpList _ _ _ ({ dst := _, op := Op.store _ _ _, type := _, pos := _, after := _, guard := _ } :: _) _ _); refine wpList_store_at rfl rfl rfl (by (try simp only [Act.eval, Array.getD_eq_getD_getElem?, List.getElem?_toArray, List.getElem?_cons_succ, List.getElem?_cons_zero, Option.getD_some]) <;> exact rfl) (by exact rfl) hA (by with_reducible repeat (first | exact Sel.here | apply Sel.there)) (by kernel_rfl) rfl (by first | decide | (simp; done) | omega) ?_; intro w1 hB; clear hF hA; have hA := hB; clear hB; (try simp only [setL, List.set_cons_zero, List.set_cons_succ, List.cons_append, List.nil_append] at hA); (have hF := hA.facts); (try simp only [facts_cons, facts_nil, facts_cells, facts_old, facts_fact, facts_obj, facts_map, facts_iter, facts_row, and_true, true_and] at hF)) | ((with_reducible show wpList _ _ _ ({ dst := _, op := Op.box _ _, type := _, pos := _, after := _, guard := _ } :: _) _ _); refine wpList_box_at rfl rfl (by (try simp only [Act.eval, Array.getD_eq_getD_getElem?, List.getElem?_toArray, List.getElem?_cons_succ, List.getElem?_cons_zero, Option.getD_some]) <;> exact rfl) (by exact rfl) hA ?_; intro b1 w1 hB hb1; clear hF hA; have hA := hB; clear hB; (try simp only [setL, List.set_cons_zero, List.set_cons_succ, List.cons_append, List.nil_append] at hA); (have hF := hA.facts); (try simp only [facts_cons, facts_nil, facts_cells, facts_old, facts_fact, facts_obj, facts_map, facts_iter, facts_row, and_true, true_and] at hF)))
                      go_roundg (l.length - (i3 + 1))
                      case measure => omega
                      case rel =>
                        have hS := hA.row_shut (e := 41) (size := 6) (n := l.length) (cap := lcap) (xs := l.flatMap Ent.cells) (by with_reducible repeat (first | exact Sel.here | apply Sel.there)) hcl hcp1 hcm hct
                        exact ⟨i3 + 1, by simp, by omega, hS.pick (by repeat (first | exact Picks.nil | refine Picks.cons (by repeat (first | exact Sel.here | apply Sel.there)) ?_))⟩
              · have hF := hA.facts
                (try simp only [setL, List.set_cons_zero, List.set_cons_succ, List.cons_append, List.nil_append] at hA); (have hF := hA.facts); (try simp only [facts_cons, facts_nil, facts_cells, facts_old, facts_fact, facts_obj, facts_map, facts_iter, facts_row, and_true, true_and] at hF)
                go_wp2_with (first | ((with_reducible show wpList _ _ _ ({ dst := _, op := Op.store _ _ _, type := _, pos := _, after := _, guard := _ } :: _) _ _); refine wpList_store_at rfl rfl rfl (by (try simp only [Act.eval, Array.getD_eq_getD_getElem?, List.getElem?_toArray, List.getElem?_cons_succ, List.getElem?_cons_zero, Option.getD_some]) <;> exact rfl) (by exact rfl) hA (by with_reducible repeat (first | exact Sel.here | apply Sel.there)) (by kernel_rfl) rfl (by first | decide | (simp; done) | omega) ?_; intro w1 hB; clear hF hA; have hA := hB; clear hB; (try simp only [setL, List.set_cons_zero, List.set_cons_succ, List.cons_append, List.nil_append] at hA); (have hF := hA.facts); (try simp only [facts_cons, facts_nil, facts_cells, facts_old, facts_fact, facts_obj, facts_map, facts_iter, facts_row, and_true, true_and] at hF)) | ((with_reducible show wpList _ _ _ ({ dst := _, op := Op.box _ _, type := _, pos := _, after := _, guard := _ } :: _) _ _); refine wpList_box_at rfl rfl (by (try simp only [Act.eval, Array.getD_eq_getD_getElem?, List.getElem?_toArray, List.getElem?_cons_succ, List.getElem?_cons_zero, Option.getD_some]) <;> exact rfl) (by exact rfl) hA ?_; intro b1 w1 hB hb1; clear hF hA; have hA := hB; clear hB; (try simp only [setL, List.set_cons_zero, List.set_cons_succ, List.cons_append, List.nil_append] at hA); (have hF := hA.facts); (try simp only [facts_cons, facts_nil, facts_cells, facts_old, facts_fact, facts_obj, facts_map, facts_iter, facts_row, and_true, true_and] at hF)))
                try go_frame
                go_loopg [102] ss.length (DzRel w a s (.slice qx ss.length qcap) ss)
                case atStart => exact ⟨0, rfl, by simp, by rw [List.take_zero]; exact hA.pick (by repeat (first | exact Picks.nil | refine Picks.cons (by repeat (first | exact Sel.here | apply Sel.there)) ?_))⟩
                case round =>
                  obtain ⟨m, rfl, hmk, hB⟩ := hrel
                  clear hF hA
                  have hA := hB
                  clear hB
                  have hIg := Lib.hid (goneA_inv hI'.out (ss.take m))
                  by_cases hm : m < ss.length
                  · have hgm := Lib.hid (goneA_more s ss hm)
                    obtain ⟨gq, cq, rfl, qp1, qm, ql, qt, hB⟩ := hA.row_open (ax := qx) (cap := qcap) (n := ss.length) (xs := flatQ ss) (by with_reducible repeat (first | exact Sel.here | apply Sel.there)) (by omega)
                    have hz : ss[m]? = some ss[m] := List.getElem?_eq_getElem hm
                    have z0 : cq[m * 2]? = some (.int .u64 ss[m].1) := cells_at seL_len qt hz 0 (by omega)
                    have z1 : cq[m * 2 + 1]? = some (.string ss[m].2) := cells_at seL_len qt hz 1 (by omega)
                    obtain ⟨z, hzi⟩ : ∃ z, ss[m] = z := ⟨_, rfl⟩
                    rw [hzi] at z0 z1 hgm
                    clear hA hz hzi
                    have hA := hB
                    clear hB
                    generalize goneA s (ss.take m) = s4 at *
                    have hF := hA.facts
                    (try simp only [setL, List.set_cons_zero, List.set_cons_succ, List.cons_append, List.nil_append] at hA); (have hF := hA.facts); (try simp only [facts_cons, facts_nil, facts_cells, facts_old, facts_fact, facts_obj, facts_map, facts_iter, facts_row, and_true, true_and] at hF)
                    go_wp2_with (first | ((with_reducible show wpList _ _ _ ({ dst := _, op := Op.alloc _, type := _, pos := _, after := _, guard := _ } :: _) _ _); refine wpList_alloc_at (E := 33) (z := .agg #[.int .u64 0, .string .empty]) (vs := [.int .u64 0, .string .empty]) rfl rfl (by kernel_rfl) rfl hA ?_; intro bZ w1 hB hbZ; clear hF hA; have hA := hB; clear hB; (try simp only [setL, List.set_cons_zero, List.set_cons_succ, List.cons_append, List.nil_append] at hA); (have hF := hA.facts); (try simp only [facts_cons, facts_nil, facts_cells, facts_old, facts_fact, facts_obj, facts_map, facts_iter, facts_row, and_true, true_and] at hF)) | ((with_reducible show wpList _ _ _ ({ dst := _, op := Op.store _ _ _, type := _, pos := _, after := _, guard := _ } :: _) _ _); refine wpList_store_at rfl rfl rfl (by (try simp only [Act.eval, Array.getD_eq_getD_getElem?, List.getElem?_toArray, List.getElem?_cons_succ, List.getElem?_cons_zero, Option.getD_some]) <;> exact rfl) (by exact rfl) hA (by with_reducible repeat (first | exact Sel.here | apply Sel.there)) (by kernel_rfl) rfl (by first | decide | (simp; done) | omega) ?_; intro w1 hB; clear hF hA; have hA := hB; clear hB; (try simp only [setL, List.set_cons_zero, List.set_cons_succ, List.cons_append, List.nil_append] at hA); (have hF := hA.facts); (try simp only [facts_cons, facts_nil, facts_cells, facts_old, facts_fact, facts_obj, facts_map, facts_iter, facts_row, and_true, true_and] at hF)) | ((with_reducible show wpList _ _ _ ({ dst := _, op := Op.box _ _, type := _, pos := _, after := _, guard := _ } :: _) _ _); refine wpList_box_at rfl rfl (by (try simp only [Act.eval, Array.getD_eq_getD_getElem?, List.getElem?_toArray, List.getElem?_cons_succ, List.getElem?_cons_zero, Option.getD_some]) <;> exact rfl) (by exact rfl) hA ?_; intro b1 w1 hB hb1; clear hF hA; have hA := hB; clear hB; (try simp only [setL, List.set_cons_zero, List.set_cons_succ, List.cons_append, List.nil_append] at hA); (have hF := hA.facts); (try simp only [facts_cons, facts_nil, facts_cells, facts_old, facts_fact, facts_obj, facts_map, facts_iter, facts_row, and_true, true_and] at hF)))
                    have hdr := drop_at (hA.sep1 (A := bookS a s4) (by with_reducible repeat (first | exact Sel.here | apply Sel.there))) hIg.out (by omega) z.1 z.2
                    generalize ((s4.es.length : Int) - ((s4.dropAll z.1 z.2).es.length : Int)) = dn at hdr
                    refine hdr.mono ?_
                    clear hdr
                    rintro o w6 ⟨rfl, hT⟩
                    have hB := hA.call1 (A := bookS a s4) (by with_reducible repeat (first | exact Sel.here | apply Sel.there)) hT
                    clear hF hA hT
                    have hA := hB
                    clear hB
                    rw [← hgm.out] at hA
                    (try simp only [setL, List.set_cons_zero, List.set_cons_succ, List.cons_append, List.nil_append] at hA); (have hF := hA.facts); (try simp only [facts_cons, facts_nil, facts_cells, facts_old, facts_fact, facts_obj, facts_map, facts_iter, facts_row, and_true, true_and] at hF)
                    go_wp2_with (first | ((with_reducible show wpList _ _ _ ({ dst := _, op := Op.store _ _ _, type := _, pos := _, after := _, guard := _ } :: _) _ _); refine wpList_store_at rfl rfl rfl (by (try simp only [Act.eval, Array.getD_eq_getD_getElem?, List.getElem?_toArray, List.getElem?_cons_succ, List.getElem?_cons_zero, Option.getD_some]) <;> exact rfl) (by exact rfl) hA (by with_reducible repeat (first | exact Sel.here | apply Sel.there)) (by kernel_rfl) rfl (by first | decide | (simp; done) | omega) ?_; intro w1 hB; clear hF hA; have hA := hB; clear hB; (try simp only [setL, List.set_cons_zero, List.set_cons_succ, List.cons_append, List.nil_append] at hA); (have hF := hA.facts); (try simp only [facts_cons, facts_nil, facts_cells, facts_old, facts_fact, facts_obj, facts_map, facts_iter, facts_row, and_true, true_and] at hF)) | ((with_reducible show wpList _ _ _ ({ dst := _, op := Op.box _ _, type := _, pos := _, after := _, guard := _ } :: _) _ _); refine wpList_box_at rfl rfl (by (try simp only [Act.eval, Array.getD_eq_getD_getElem?, List.getElem?_toArray, List.getElem?_cons_succ, List.getElem?_cons_zero, Option.getD_some]) <;> exact rfl) (by exact rfl) hA ?_; intro b1 w1 hB hb1; clear hF hA; have hA := hB; clear hB; (try simp only [setL, List.set_cons_zero, List.set_cons_succ, List.cons_append, List.nil_append] at hA); (have hF := hA.facts); (try simp only [facts_cons, facts_nil, facts_cells, facts_old, facts_fact, facts_obj, facts_map, facts_iter, facts_row, and_true, true_and] at hF)))
                    go_roundg (gk - 1)
                    case measure => omega
                    case rel =>
                      have hS := hA.row_shut (e := 33) (size := 2) (n := ss.length) (cap := qcap) (xs := flatQ ss) (g := gq) (c := cq) (by with_reducible repeat (first | exact Sel.here | apply Sel.there)) ql qp1 qm qt
                      exact ⟨m + 1, by simp, by omega, hS.pick (by repeat (first | exact Picks.nil | refine Picks.cons (by repeat (first | exact Sel.here | apply Sel.there)) ?_))⟩
                  · have hIg2 := hIg.out
                    rw [List.take_of_length_le (by omega)] at hA hIg2
                    have hnn := Lib.hid (fun x => hnone.out _ _ (List.Perm.refl _) (List.Perm.refl _) x)
                    generalize goneA s ss = s4 at *
                    have hI4 := Lib.hid hIg2
                    clear hIg2 hIg
                    have hF := hA.facts
                    (try simp only [setL, List.set_cons_zero, List.set_cons_succ, List.cons_append, List.nil_append] at hA); (have hF := hA.facts); (try simp only [facts_cons, facts_nil, facts_cells, facts_old, facts_fact, facts_obj, facts_map, facts_iter, facts_row, and_true, true_and] at hF)
                    go_wp2_with (first | ((with_reducible show wpList _ _ _ ({ dst := _, op := Op.store _ _ _, type := _, pos := _, after := _, guard := _ } :: _) _ _); refine wpList_store_at rfl rfl rfl (by (try simp only [Act.eval, Array.getD_eq_getD_getElem?, List.getElem?_toArray, List.getElem?_cons_succ, List.getElem?_cons_zero, Option.getD_some]) <;> exact rfl) (by exact rfl) hA (by with_reducible repeat (first | exact Sel.here | apply Sel.there)) (by kernel_rfl) rfl (by first | decide | (simp; done) | omega) ?_; intro w1 hB; clear hF hA; have hA := hB; clear hB; (try simp only [setL, List.set_cons_zero, List.set_cons_succ, List.cons_append, List.nil_append] at hA); (have hF := hA.facts); (try simp only [facts_cons, facts_nil, facts_cells, facts_old, facts_fact, facts_obj, facts_map, facts_iter, facts_row, and_true, true_and] at hF)) | ((with_reducible show wpList _ _ _ ({ dst := _, op := Op.box _ _, type := _, pos := _, after := _, guard := _ } :: _) _ _); refine wpList_box_at rfl rfl (by (try simp only [Act.eval, Array.getD_eq_getD_getElem?, List.getElem?_toArray, List.getElem?_cons_succ, List.getElem?_cons_zero, Option.getD_some]) <;> exact rfl) (by exact rfl) hA ?_; intro b1 w1 hB hb1; clear hF hA; have hA := hB; clear hB; (try simp only [setL, List.set_cons_zero, List.set_cons_succ, List.cons_append, List.nil_append] at hA); (have hF := hA.facts); (try simp only [facts_cons, facts_nil, facts_cells, facts_old, facts_fact, facts_obj, facts_map, facts_iter, facts_row, and_true, true_and] at hF)))
                    refine (stuck_any (hA.sep1 (A := bookS a s4) (by with_reducible repeat (first | exact Sel.here | apply Sel.there))) hI4.out (by omega)).mono ?_
                    rintro o w6 ⟨vz, sz, rfl, hsz, hszl, hT⟩
                    have hB := hA.call1 (A := bookS a s4) (by with_reducible repeat (first | exact Sel.here | apply Sel.there)) hT
                    have hsz0 : sz = [] := List.eq_nil_iff_forall_not_mem.2 (fun x hx => hnn.out x ((hsz x).1 hx))
                    subst hsz0
                    clear hF hA hT hsz hszl
                    have hA := hB
                    clear hB
                    simp only [List.cons_append, List.nil_append] at hA
                    obtain ⟨qx2, qn2, qcap2, hqv2, hqn2⟩ := hA.row_hid (v := vz) (n := ([] : List Ses).length) (xs := flatQ []) (by with_reducible repeat (first | exact Sel.here | apply Sel.there))
                    subst hqv2
                    have hqn3 := hqn2.out
                    simp only [List.length_nil] at hqn3
                    subst hqn3
                    have hF := hA.facts
                    (try simp only [setL, List.set_cons_zero, List.set_cons_succ, List.cons_append, List.nil_append] at hA); (have hF := hA.facts); (try simp only [facts_cons, facts_nil, facts_cells, facts_old, facts_fact, facts_obj, facts_map, facts_iter, facts_row, and_true, true_and] at hF)
                    go_wp2_with (first | ((with_reducible show wpList _ _ _ ({ dst := _, op := Op.store _ _ _, type := _, pos := _, after := _, guard := _ } :: _) _ _); refine wpList_store_at rfl rfl rfl (by (try simp only [Act.eval, Array.getD_eq_getD_getElem?, List.getElem?_toArray, List.getElem?_cons_succ, List.getElem?_cons_zero, Option.getD_some]) <;> exact rfl) (by exact rfl) hA (by with_reducible repeat (first | exact Sel.here | apply Sel.there)) (by kernel_rfl) rfl (by first | decide | (simp; done) | omega) ?_; intro w1 hB; clear hF hA; have hA := hB; clear hB; (try simp only [setL, List.set_cons_zero, List.set_cons_succ, List.cons_append, List.nil_append] at hA); (have hF := hA.facts); (try simp only [facts_cons, facts_nil, facts_cells, facts_old, facts_fact, facts_obj, facts_map, facts_iter, facts_row, and_true, true_and] at hF)) | ((with_reducible show wpList _ _ _ ({ dst := _, op := Op.box _ _, type := _, pos := _, after := _, guard := _ } :: _) _ _); refine wpList_box_at rfl rfl (by (try simp only [Act.eval, Array.getD_eq_getD_getElem?, List.getElem?_toArray, List.getElem?_cons_succ, List.getElem?_cons_zero, Option.getD_some]) <;> exact rfl) (by exact rfl) hA ?_; intro b1 w1 hB hb1; clear hF hA; have hA := hB; clear hB; (try simp only [setL, List.set_cons_zero, List.set_cons_succ, List.cons_append, List.nil_append] at hA); (have hF := hA.facts); (try simp only [facts_cons, facts_nil, facts_cells, facts_old, facts_fact, facts_obj, facts_map, facts_iter, facts_row, and_true, true_and] at hF)))
                    go_ret
                    exact ⟨rfl, below_old hA (by with_reducible repeat (first | exact Sel.here | apply Sel.there))⟩
end Go.Proofs.YtnkddjomanaadaaGreatDoor.Lock
end
