/- LockAb, joined. -/
import Derived.Test.YtnkddjomanaadaaGreatDoorJ31
import Derived.Deep.Cut
section
namespace Go.Proofs.YtnkddjomanaadaaGreatDoor.Lock
open Go.RowKit
open Go.Maps (Keyed)
open Path (bl rightB overB cmpP cmpL)
set_option linter.unusedSimpArgs false
set_option linter.unusedVariables false
attribute [-go_sem] run_eql_struct run_neq_struct run_eqGuard_agg
attribute [local go_sem] guardR guardE

/-- steps of both, whatever they tell -/
def BoRel (w : World) (a : Pl) (b12 : Nat) (first : Int) (os : List Op) (k : Nat) (u : Value) (wr : World) : Prop :=
  ∃ (i : Nat) (s : S3) (vL vC : Value), u = .int .i64 i ∧ i + k = os.length ∧ Inv s i ∧ s.first = first ∧ At [Part.old w] w [bookS a s, boxB b12 first vL vC, rowE vL s.es, rowC vC s.cs, Part.old w] wr
/-- who stands ahead of e, counted -/
def AhRel (w : World) (a : Pl) (b12 bE : Nat) (s : S3) (vL vC va : Value) (al : List Ent) (e : Ent) (kk k : Nat) (u15 u77 : Value) (wr : World) : Prop :=
  ∃ i : Nat, u77 = .int .i64 i ∧ i + k = kk ∧ u15 = .int .i64 (((s.es.take i).filter (fun x => wayB x e)).length : Nat) ∧ At [Part.old w] w [rowH va al, cloP bE e, bookS a s, boxB b12 s.first vL vC, rowE vL s.es, rowC vC s.cs, Part.old w] wr
def FoRel (w : World) (a : Pl) (b12 bE bY ge : Nat) (c : List Value) (s : S3) (vL vC va : Value) (al : List Ent) (e y : Ent) (k : Nat) (u19 u97 : Value) (wr : World) : Prop :=
  ∃ i : Nat, u97 = .int .i64 i ∧ i + k = al.length ∧ u19 = .bool (decide (y ∈ al.take i)) ∧ At [Part.old w] w [Part.cells bY [.string y.path, .int .u64 y.num, .string y.foot, .int .i64 y.mode, .int .u64 y.n, .int .i64 y.stamp] 45, rowH va al, cloP bE e, bookS a s, boxB b12 s.first vL vC, Part.cells ge c 45, rowC vC s.cs, Part.old w] wr
def GoRel (w : World) (a : Pl) (bE : Nat) (s : S3) (va : Value) (al : List Ent) (e : Ent) (k : Nat) (u : Value) (wr : World) : Prop :=
  ∃ i : Nat, u = .int .i64 i ∧ i + k = al.length ∧ At [Part.old w] w [rowH va al, cloP bE e, bookS a (goneS s (al.take i)), Part.old w] wr
/-- two entries laid into a row, and that into a document's book, in whatever order the two were made -/
def PairIs (w : World) (F : List Part) (y e : Ent) (u : Value) (wr : World) : Prop :=
  ∃ bL bP, u = .pointer (some ⟨bP, 0, none⟩) ∧ At [Part.old w] w (Part.cells bP [.int .u64 0, .slice (some ⟨bL, 0, none⟩) 2 2, .slice none 0 0] 31 :: Part.cells bL [.string y.path, .int .u64 y.num, .string y.foot, .int .i64 y.mode, .int .u64 y.n, .int .i64 y.stamp, .string e.path, .int .u64 e.num, .string e.foot, .int .i64 e.mode, .int .u64 e.n, .int .i64 e.stamp] 45 :: F) wr

theorem pair_A {w w1 : World} {F : List Part} (hA : At [Part.old w] w F w1) (y e : Ent) : PairIs w F y e (.pointer (some ⟨w1.heap.size + 1, 0, none⟩)) (((w1.alloc (.cells #[.string y.path, .int .u64 y.num, .string y.foot, .int .i64 y.mode, .int .u64 y.n, .int .i64 y.stamp, .string e.path, .int .u64 e.num, .string e.foot, .int .i64 e.mode, .int .u64 e.n, .int .i64 e.stamp] 45)).alloc (.cells #[.int .u64 0, .slice (some ⟨w1.heap.size, 0, none⟩) 2 2, .slice none 0 0] 31)).drew) := by
  have hB := ((hA.alloc [.string y.path, .int .u64 y.num, .string y.foot, .int .i64 y.mode, .int .u64 y.n, .int .i64 y.stamp, .string e.path, .int .u64 e.num, .string e.foot, .int .i64 e.mode, .int .u64 e.n, .int .i64 e.stamp] 45).alloc [.int .u64 0, .slice (some ⟨w1.heap.size, 0, none⟩) 2 2, .slice none 0 0] 31).drew
  exact ⟨_, _, by rw [World.size_alloc], hB⟩
theorem pair_B {w w1 : World} {F : List Part} (hA : At [Part.old w] w F w1) (y e : Ent) : PairIs w F y e (.pointer (some ⟨w1.heap.size, 0, none⟩)) (((w1.alloc (.cells #[.int .u64 0, .slice (some ⟨w1.heap.size + 1, 0, none⟩) 2 2, .slice none 0 0] 31)).alloc (.cells #[.string y.path, .int .u64 y.num, .string y.foot, .int .i64 y.mode, .int .u64 y.n, .int .i64 y.stamp, .string e.path, .int .u64 e.num, .string e.foot, .int .i64 e.mode, .int .u64 e.n, .int .i64 e.stamp] 45)).drew) := by
  have hB := ((hA.alloc [.int .u64 0, .slice (some ⟨w1.heap.size + 1, 0, none⟩) 2 2, .slice none 0 0] 31).alloc [.string y.path, .int .u64 y.num, .string y.foot, .int .i64 y.mode, .int .u64 y.n, .int .i64 y.stamp, .string e.path, .int .u64 e.num, .string e.foot, .int .i64 e.mode, .int .u64 e.n, .int .i64 e.stamp] 45).drew
  exact ⟨(w1.alloc (.cells #[.int .u64 0, .slice (some ⟨w1.heap.size + 1, 0, none⟩) 2 2, .slice none 0 0] 31)).heap.size, w1.heap.size, rfl, by rw [World.size_alloc] at hB ⊢; exact hB.perm (List.Perm.swap _ _ _)⟩
theorem filter_more (es : List Ent) (p : Ent → Bool) {i : Nat} (hi : i < es.length) : ((es.take (i + 1)).filter p).length = ((es.take i).filter p).length + if p es[i] then 1 else 0 := by
  rw [List.take_succ_eq_append_getElem hi, List.filter_append, List.length_append]
  congr 1
  by_cases h : p es[i] <;> simp [h]
theorem gone_more (s : S3) (al : List Ent) {i : Nat} (hi : i < al.length) : goneS s (al.take (i + 1)) = (goneS s (al.take i)).remove al[i].path al[i].num al[i].foot := by
  unfold goneS
  rw [List.take_succ_eq_append_getElem hi, List.foldl_append]
  rfl
theorem grant_pair (y e : Ent) : grantD [y, e] 1 = !wayB y e := by unfold grantD; simp
theorem mem_more {al : List Ent} {y : Ent} {i : Nat} (hi : i < al.length) : decide (y ∈ al.take (i + 1)) = (decide (y ∈ al.take i) || decide (al[i] = y)) := by
  rw [List.take_succ_eq_append_getElem hi, Bool.eq_iff_iff]
  simp only [decide_eq_true_iff, Bool.or_eq_true, List.mem_append, List.mem_singleton]
  exact ⟨fun h => h.imp id Eq.symm, fun h => h.imp id Eq.symm⟩
set_option maxRecDepth 100000 in
set_option maxHeartbeats 8000000 in
theorem ahead_law {w : World} {v : Value} {os : List Op} (hops : OpsAt w v os) (hol : os.length ≤ 9223372036854775807) {first ix : Int} (f0 : 0 ≤ first) (f1 : first < big64) :
    Calls Tryz.prog 3 #[.int .u64 first, v, .int .i64 ix] w fun e w' => e = .returned (.bool true) ∧ Below w.heap.size w w' := by
  have hA : At [Part.old w] w [Part.old w] w := At.start ⟨fun _ _ => rfl, trivial, nofun⟩
  have hF := hA.facts
  have hfits := fun (w1 : World) (q : Sep [Part.old w] w1) => fits_any q hops 40 hol
  obtain ⟨i0, hi0, hz0, hz1, hz2⟩ := info_parts infoID
  obtain ⟨sa, sc, rfl, hel⟩ := hops
  have hel' := Lib.hid hel
  clear hel
  (try simp only [setL, List.set_cons_zero, List.set_cons_succ, List.cons_append, List.nil_append] at hA); (have hF := hA.facts); (try simp only [facts_cons, facts_nil, facts_cells, facts_old, facts_fact, facts_obj, facts_map, facts_iter, facts_row, and_true, true_and] at hF)
  go_enter Tryz.func3, Tryz.ntmps3
  go_wp2_with (first | ((with_reducible show wpList _ _ _ ({ dst := _, op := Op.store _ _ _, type := _, pos := _, after := _, guard := _ } :: _) _ _); refine wpList_store_at rfl rfl rfl (by (try simp only [Act.eval, Array.getD_eq_getD_getElem?, List.getElem?_toArray, List.getElem?_cons_succ, List.getElem?_cons_zero, Option.getD_some]) <;> exact rfl) (by exact rfl) hA (by with_reducible repeat (first | exact Sel.here | apply Sel.there)) (by kernel_rfl) rfl (by first | decide | (simp; done) | omega) ?_; intro w1 hB; clear hF hA; have hA := hB; clear hB; (try simp only [setL, List.set_cons_zero, List.set_cons_succ, List.cons_append, List.nil_append] at hA); (have hF := hA.facts); (try simp only [facts_cons, facts_nil, facts_cells, facts_old, facts_fact, facts_obj, facts_map, facts_iter, facts_row, and_true, true_and] at hF)) | ((with_reducible show wpList _ _ _ ({ dst := _, op := Op.box _ _, type := _, pos := _, after := _, guard := _ } :: _) _ _); refine wpList_box_at rfl rfl (by (try simp only [Act.eval, Array.getD_eq_getD_getElem?, List.getElem?_toArray, List.getElem?_cons_succ, List.getElem?_cons_zero, Option.getD_some]) <;> exact rfl) (by exact rfl) hA ?_; intro b1 w1 hB hb1; clear hF hA; have hA := hB; clear hB; (try simp only [setL, List.set_cons_zero, List.set_cons_succ, List.cons_append, List.nil_append] at hA); (have hF := hA.facts); (try simp only [facts_cons, facts_nil, facts_cells, facts_old, facts_fact, facts_obj, facts_map, facts_iter, facts_row, and_true, true_and] at hF)))
  refine (anchor_any _).mono ?_
  rintro e w1 ⟨rfl, hx⟩
  have hB := hA.ext hx
  clear hF hA hx
  have hA := hB
  clear hB
  (try simp only [setL, List.set_cons_zero, List.set_cons_succ, List.cons_append, List.nil_append] at hA); (have hF := hA.facts); (try simp only [facts_cons, facts_nil, facts_cells, facts_old, facts_fact, facts_obj, facts_map, facts_iter, facts_row, and_true, true_and] at hF)
  go_wp2_with (first | ((with_reducible show wpList _ _ _ ({ dst := _, op := Op.store _ _ _, type := _, pos := _, after := _, guard := _ } :: _) _ _); refine wpList_store_at rfl rfl rfl (by (try simp only [Act.eval, Array.getD_eq_getD_getElem?, List.getElem?_toArray, List.getElem?_cons_succ, List.getElem?_cons_zero, Option.getD_some]) <;> exact rfl) (by exact rfl) hA (by with_reducible repeat (first | exact Sel.here | apply Sel.there)) (by kernel_rfl) rfl (by first | decide | (simp; done) | omega) ?_; intro w1 hB; clear hF hA; have hA := hB; clear hB; (try simp only [setL, List.set_cons_zero, List.set_cons_succ, List.cons_append, List.nil_append] at hA); (have hF := hA.facts); (try simp only [facts_cons, facts_nil, facts_cells, facts_old, facts_fact, facts_obj, facts_map, facts_iter, facts_row, and_true, true_and] at hF)) | ((with_reducible show wpList _ _ _ ({ dst := _, op := Op.box _ _, type := _, pos := _, after := _, guard := _ } :: _) _ _); refine wpList_box_at rfl rfl (by (try simp only [Act.eval, Array.getD_eq_getD_getElem?, List.getElem?_toArray, List.getElem?_cons_succ, List.getElem?_cons_zero, Option.getD_some]) <;> exact rfl) (by exact rfl) hA ?_; intro b1 w1 hB hb1; clear hF hA; have hA := hB; clear hB; (try simp only [setL, List.set_cons_zero, List.set_cons_succ, List.cons_append, List.nil_append] at hA); (have hF := hA.facts); (try simp only [facts_cons, facts_nil, facts_cells, facts_old, facts_fact, facts_obj, facts_map, facts_iter, facts_row, and_true, true_and] at hF)))
  refine (hfits _ (hA.sep1 (by with_reducible repeat (first | exact Sel.here | apply Sel.there)))).mono ?_
  clear hfits
  cases hfb : fitsB os 40 with
  | false =>
    rintro e w1 ⟨rfl, hT⟩; have hB := hA.call1 (by with_reducible repeat (first | exact Sel.here | apply Sel.there)) hT; clear hF hA hT; have hA := hB; clear hB; (try simp only [setL, List.set_cons_zero, List.set_cons_succ, List.cons_append, List.nil_append] at hA); (have hF := hA.facts); (try simp only [facts_cons, facts_nil, facts_cells, facts_old, facts_fact, facts_obj, facts_map, facts_iter, facts_row, and_true, true_and] at hF)
    go_wp2_with (first | ((with_reducible show wpList _ _ _ ({ dst := _, op := Op.store _ _ _, type := _, pos := _, after := _, guard := _ } :: _) _ _); refine wpList_store_at rfl rfl rfl (by (try simp only [Act.eval, Array.getD_eq_getD_getElem?, List.getElem?_toArray, List.getElem?_cons_succ, List.getElem?_cons_zero, Option.getD_some]) <;> exact rfl) (by exact rfl) hA (by with_reducible repeat (first | exact Sel.here | apply Sel.there)) (by kernel_rfl) rfl (by first | decide | (simp; done) | omega) ?_; intro w1 hB; clear hF hA; have hA := hB; clear hB; (try simp only [setL, List.set_cons_zero, List.set_cons_succ, List.cons_append, List.nil_append] at hA); (have hF := hA.facts); (try simp only [facts_cons, facts_nil, facts_cells, facts_old, facts_fact, facts_obj, facts_map, facts_iter, facts_row, and_true, true_and] at hF)) | ((with_reducible show wpList _ _ _ ({ dst := _, op := Op.box _ _, type := _, pos := _, after := _, guard := _ } :: _) _ _); refine wpList_box_at rfl rfl (by (try simp only [Act.eval, Array.getD_eq_getD_getElem?, List.getElem?_toArray, List.getElem?_cons_succ, List.getElem?_cons_zero, Option.getD_some]) <;> exact rfl) (by exact rfl) hA ?_; intro b1 w1 hB hb1; clear hF hA; have hA := hB; clear hB; (try simp only [setL, List.set_cons_zero, List.set_cons_succ, List.cons_append, List.nil_append] at hA); (have hF := hA.facts); (try simp only [facts_cons, facts_nil, facts_cells, facts_old, facts_fact, facts_obj, facts_map, facts_iter, facts_row, and_true, true_and] at hF)))
    go_ret
    exact ⟨rfl, below_old hA (by with_reducible repeat (first | exact Sel.here | apply Sel.there))⟩
  | true =>
    have hol2 : os.length ≤ 40 := by unfold fitsB at hfb; simp at hfb; omega
    have hosz := Lib.hid (show ∀ o ∈ os, o.path.size ≤ 100 from fun o ho => by unfold fitsB at hfb; simp at hfb; exact hfb.1 o ho)
    clear hfb
    rintro e w1 ⟨rfl, hT⟩; have hB := hA.call1 (by with_reducible repeat (first | exact Sel.here | apply Sel.there)) hT; clear hF hA hT; have hA := hB; clear hB; (try simp only [setL, List.set_cons_zero, List.set_cons_succ, List.cons_append, List.nil_append] at hA); (have hF := hA.facts); (try simp only [facts_cons, facts_nil, facts_cells, facts_old, facts_fact, facts_obj, facts_map, facts_iter, facts_row, and_true, true_and] at hF)
    go_wp2_with (first | ((with_reducible show wpList _ _ _ ({ dst := _, op := Op.store _ _ _, type := _, pos := _, after := _, guard := _ } :: _) _ _); refine wpList_store_at rfl rfl rfl (by (try simp only [Act.eval, Array.getD_eq_getD_getElem?, List.getElem?_toArray, List.getElem?_cons_succ, List.getElem?_cons_zero, Option.getD_some]) <;> exact rfl) (by exact rfl) hA (by with_reducible repeat (first | exact Sel.here | apply Sel.there)) (by kernel_rfl) rfl (by first | decide | (simp; done) | omega) ?_; intro w1 hB; clear hF hA; have hA := hB; clear hB; (try simp only [setL, List.set_cons_zero, List.set_cons_succ, List.cons_append, List.nil_append] at hA); (have hF := hA.facts); (try simp only [facts_cons, facts_nil, facts_cells, facts_old, facts_fact, facts_obj, facts_map, facts_iter, facts_row, and_true, true_and] at hF)) | ((with_reducible show wpList _ _ _ ({ dst := _, op := Op.box _ _, type := _, pos := _, after := _, guard := _ } :: _) _ _); refine wpList_box_at rfl rfl (by (try simp only [Act.eval, Array.getD_eq_getD_getElem?, List.getElem?_toArray, List.getElem?_cons_succ, List.getElem?_cons_zero, Option.getD_some]) <;> exact rfl) (by exact rfl) hA ?_; intro b1 w1 hB hb1; clear hF hA; have hA := hB; clear hB; (try simp only [setL, List.set_cons_zero, List.set_cons_succ, List.cons_append, List.nil_append] at hA); (have hF := hA.facts); (try simp only [facts_cons, facts_nil, facts_cells, facts_old, facts_fact, facts_obj, facts_map, facts_iter, facts_row, and_true, true_and] at hF)))
    refine (new_at first _).mono ?_
    rintro e w2 ⟨a, rfl, hT⟩
    have hB := hA.call0 hT
    clear hF hA hT
    have hA := hB
    clear hB
    simp only [List.cons_append, List.nil_append] at hA
    have hF := hA.facts
    (try simp only [setL, List.set_cons_zero, List.set_cons_succ, List.cons_append, List.nil_append] at hA); (have hF := hA.facts); (try simp only [facts_cons, facts_nil, facts_cells, facts_old, facts_fact, facts_obj, facts_map, facts_iter, facts_row, and_true, true_and] at hF)
    go_wp2_with (first | ((with_reducible show wpList _ _ _ ({ dst := _, op := Op.alloc _, type := _, pos := _, after := _, guard := _ } :: _) _ _); refine wpList_alloc_at (E := 31) (z := .agg #[.int .u64 0, .slice none 0 0, .slice none 0 0]) (vs := [.int .u64 0, .slice none 0 0, .slice none 0 0]) rfl rfl (by kernel_rfl) rfl hA ?_; intro b12 w1 hB hb12; clear hF hA; have hA := hB; clear hB; (try simp only [setL, List.set_cons_zero, List.set_cons_succ, List.cons_append, List.nil_append] at hA); (have hF := hA.facts); (try simp only [facts_cons, facts_nil, facts_cells, facts_old, facts_fact, facts_obj, facts_map, facts_iter, facts_row, and_true, true_and] at hF)) | ((with_reducible show wpList _ _ _ ({ dst := _, op := Op.store _ _ _, type := _, pos := _, after := _, guard := _ } :: _) _ _); refine wpList_store_at rfl rfl rfl (by (try simp only [Act.eval, Array.getD_eq_getD_getElem?, List.getElem?_toArray, List.getElem?_cons_succ, List.getElem?_cons_zero, Option.getD_some]) <;> exact rfl) (by exact rfl) hA (by with_reducible repeat (first | exact Sel.here | apply Sel.there)) (by kernel_rfl) rfl (by first | decide | (simp; done) | omega) ?_; intro w1 hB; clear hF hA; have hA := hB; clear hB; (try simp only [setL, List.set_cons_zero, List.set_cons_succ, List.cons_append, List.nil_append] at hA); (have hF := hA.facts); (try simp only [facts_cons, facts_nil, facts_cells, facts_old, facts_fact, facts_obj, facts_map, facts_iter, facts_row, and_true, true_and] at hF)) | ((with_reducible show wpList _ _ _ ({ dst := _, op := Op.box _ _, type := _, pos := _, after := _, guard := _ } :: _) _ _); refine wpList_box_at rfl rfl (by (try simp only [Act.eval, Array.getD_eq_getD_getElem?, List.getElem?_toArray, List.getElem?_cons_succ, List.getElem?_cons_zero, Option.getD_some]) <;> exact rfl) (by exact rfl) hA ?_; intro b1 w1 hB hb1; clear hF hA; have hA := hB; clear hB; (try simp only [setL, List.set_cons_zero, List.set_cons_succ, List.cons_append, List.nil_append] at hA); (have hF := hA.facts); (try simp only [facts_cons, facts_nil, facts_cells, facts_old, facts_fact, facts_obj, facts_map, facts_iter, facts_row, and_true, true_and] at hF)))
    have hB := row_nilE (row_nilC hA)
    clear hF hA
    have hA := hB
    clear hB
    have hF := hA.facts
    (try simp only [setL, List.set_cons_zero, List.set_cons_succ, List.cons_append, List.nil_append] at hA); (have hF := hA.facts); (try simp only [facts_cons, facts_nil, facts_cells, facts_old, facts_fact, facts_obj, facts_map, facts_iter, facts_row, and_true, true_and] at hF)
    try go_frame
    go_loopg [35] os.length (BoRel w a b12 first os)
    case atStart => exact ⟨0, ⟨first, [], []⟩, .slice none 0 0, .slice none 0 0, rfl, by simp, inv_new f0 f1, rfl, hA.pick (by repeat (first | exact Picks.nil | refine Picks.cons (by repeat (first | exact Sel.here | apply Sel.there)) ?_))⟩
    case round =>
      obtain ⟨i, s, vL, vC, rfl, hik, hI, hsf, hB⟩ := hrel
      clear hF hA
      have hA := hB
      clear hB
      subst hsf
      obtain ⟨dx, dn, dcap, hdv, hdn⟩ := hA.row_hid (v := vL) (n := s.es.length) (xs := flatE s.es) (by with_reducible repeat (first | exact Sel.here | apply Sel.there))
      subst hdv
      obtain ⟨ex, en, ecap, hev, hen⟩ := hA.row_hid (v := vC) (n := s.cs.length) (xs := flatC s.cs) (by with_reducible repeat (first | exact Sel.here | apply Sel.there))
      subst hev
      have hIk : i ≤ 40 := by omega
      have hI' := Lib.hid hI
      clear hI
      by_cases hi : i < os.length
      · obtain ⟨b, off, rfl, ⟨c0, c1, c2, c3, c4⟩, hok⟩ := hel'.out i hi
        have hokp := hosz.out os[i] (List.getElem_mem hi)
        obtain ⟨o, hoi⟩ : ∃ o, os[i] = o := ⟨_, rfl⟩
        simp only [hoi] at c0 c1 c2 c3 c4 hok hokp
        clear hoi
        have c0 := old_cell (hA.get (A := Part.old w) (by with_reducible repeat (first | exact Sel.here | apply Sel.there))) c0
        have c1 := old_cell (hA.get (A := Part.old w) (by with_reducible repeat (first | exact Sel.here | apply Sel.there))) c1
        have c2 := old_cell (hA.get (A := Part.old w) (by with_reducible repeat (first | exact Sel.here | apply Sel.there))) c2
        have c3 := old_cell (hA.get (A := Part.old w) (by with_reducible repeat (first | exact Sel.here | apply Sel.there))) c3
        have c4 := old_cell (hA.get (A := Part.old w) (by with_reducible repeat (first | exact Sel.here | apply Sel.there))) c4
        have hokk := Lib.hid (show o.ok from ⟨hokp, hok.1, hok.2.1, hok.2.2.1⟩)
        clear hok hokp
        have hF := hA.facts
        (try simp only [setL, List.set_cons_zero, List.set_cons_succ, List.cons_append, List.nil_append] at hA); (have hF := hA.facts); (try simp only [facts_cons, facts_nil, facts_cells, facts_old, facts_fact, facts_obj, facts_map, facts_iter, facts_row, and_true, true_and] at hF)
        go_wp2_with (first | ((with_reducible show wpList _ _ _ ({ dst := _, op := Op.store _ _ _, type := _, pos := _, after := _, guard := _ } :: _) _ _); refine wpList_store_at rfl rfl rfl (by (try simp only [Act.eval, Array.getD_eq_getD_getElem?, List.getElem?_toArray, List.getElem?_cons_succ, List.getElem?_cons_zero, Option.getD_some]) <;> exact rfl) (by exact rfl) hA (by with_reducible repeat (first | exact Sel.here | apply Sel.there)) (by kernel_rfl) rfl (by first | decide | (simp; done) | omega) ?_; intro w1 hB; clear hF hA; have hA := hB; clear hB; (try simp only [setL, List.set_cons_zero, List.set_cons_succ, List.cons_append, List.nil_append] at hA); (have hF := hA.facts); (try simp only [facts_cons, facts_nil, facts_cells, facts_old, facts_fact, facts_obj, facts_map, facts_iter, facts_row, and_true, true_and] at hF)) | ((with_reducible show wpList _ _ _ ({ dst := _, op := Op.box _ _, type := _, pos := _, after := _, guard := _ } :: _) _ _); refine wpList_box_at rfl rfl (by (try simp only [Act.eval, Array.getD_eq_getD_getElem?, List.getElem?_toArray, List.getElem?_cons_succ, List.getElem?_cons_zero, Option.getD_some]) <;> exact rfl) (by exact rfl) hA ?_; intro b1 w1 hB hb1; clear hF hA; have hA := hB; clear hB; (try simp only [setL, List.set_cons_zero, List.set_cons_succ, List.cons_append, List.nil_append] at hA); (have hF := hA.facts); (try simp only [facts_cons, facts_nil, facts_cells, facts_old, facts_fact, facts_obj, facts_map, facts_iter, facts_row, and_true, true_and] at hF)) | ((with_reducible show wpList _ _ _ ({ dst := _, op := Op.alloc _, type := _, pos := _, after := _, guard := _ } :: _) _ _); refine wpList_alloc_at (E := 35) (z := .agg #[.int .i64 0, .int .i64 0, .string .empty, .int .u64 0, .string .empty]) (vs := [.int .i64 0, .int .i64 0, .string .empty, .int .u64 0, .string .empty]) rfl rfl (by kernel_rfl) rfl hA ?_; intro b1 w1 hB hb1; clear hF hA; have hA := hB; clear hB; (try simp only [setL, List.set_cons_zero, List.set_cons_succ, List.cons_append, List.nil_append] at hA); (have hF := hA.facts); (try simp only [facts_cons, facts_nil, facts_cells, facts_old, facts_fact, facts_obj, facts_map, facts_iter, facts_row, and_true, true_and] at hF)))
        refine (step_any (hA.seps (K := [bookS a s, rowE (.slice dx dn dcap) s.es, rowC (.slice ex en ecap) s.cs]) (by with_reducible repeat (first | exact Picks.nil | refine Picks.cons (by with_reducible repeat (first | exact Sel.here | apply Sel.there)) ?_))) hI'.out hI'.out (by omega) (by omega) o hokk.out).mono ?_
        rintro e w3 ⟨vL', vC', rfl, hT⟩
        have hB := hA.call3 (A := bookS a s) (B := rowE (.slice dx dn dcap) s.es) (C := rowC (.slice ex en ecap) s.cs) (by with_reducible repeat (first | exact Sel.here | apply Sel.there)) (by with_reducible repeat (first | exact Sel.here | apply Sel.there)) (by with_reducible repeat (first | exact Sel.here | apply Sel.there)) hT
        have hI2 := inv_step hI'.out hokk.out
        have hsf2 := first_step s o
        clear hF hA hT c0 c1 c2 c3 c4 hdn hen
        have hA := hB
        clear hB
        generalize s.step o = s' at *
        simp only [List.cons_append, List.nil_append] at hA
        obtain ⟨gx, gn, gcap, hgv, hgn⟩ := hA.row_hid (v := vL') (n := s'.es.length) (xs := flatE s'.es) (by with_reducible repeat (first | exact Sel.here | apply Sel.there))
        subst hgv
        obtain ⟨kx, kn, kcap, hkv, hkn⟩ := hA.row_hid (v := vC') (n := s'.cs.length) (xs := flatC s'.cs) (by with_reducible repeat (first | exact Sel.here | apply Sel.there))
        subst hkv
        have hI2' := Lib.hid hI2
        have hsf3 := Lib.hid hsf2
        clear hI2 hsf2
        have hF := hA.facts
        (try simp only [setL, List.set_cons_zero, List.set_cons_succ, List.cons_append, List.nil_append] at hA); (have hF := hA.facts); (try simp only [facts_cons, facts_nil, facts_cells, facts_old, facts_fact, facts_obj, facts_map, facts_iter, facts_row, and_true, true_and] at hF)
        go_wp2_with (first | ((with_reducible show wpList _ _ _ ({ dst := _, op := Op.store _ _ _, type := _, pos := _, after := _, guard := _ } :: _) _ _); refine wpList_store_at rfl rfl rfl (by (try simp only [Act.eval, Array.getD_eq_getD_getElem?, List.getElem?_toArray, List.getElem?_cons_succ, List.getElem?_cons_zero, Option.getD_some]) <;> exact rfl) (by exact rfl) hA (by with_reducible repeat (first | exact Sel.here | apply Sel.there)) (by kernel_rfl) rfl (by first | decide | (simp; done) | omega) ?_; intro w1 hB; clear hF hA; have hA := hB; clear hB; (try simp only [setL, List.set_cons_zero, List.set_cons_succ, List.cons_append, List.nil_append] at hA); (have hF := hA.facts); (try simp only [facts_cons, facts_nil, facts_cells, facts_old, facts_fact, facts_obj, facts_map, facts_iter, facts_row, and_true, true_and] at hF)) | ((with_reducible show wpList _ _ _ ({ dst := _, op := Op.box _ _, type := _, pos := _, after := _, guard := _ } :: _) _ _); refine wpList_box_at rfl rfl (by (try simp only [Act.eval, Array.getD_eq_getD_getElem?, List.getElem?_toArray, List.getElem?_cons_succ, List.getElem?_cons_zero, Option.getD_some]) <;> exact rfl) (by exact rfl) hA ?_; intro b1 w1 hB hb1; clear hF hA; have hA := hB; clear hB; (try simp only [setL, List.set_cons_zero, List.set_cons_succ, List.cons_append, List.nil_append] at hA); (have hF := hA.facts); (try simp only [facts_cons, facts_nil, facts_cells, facts_old, facts_fact, facts_obj, facts_map, facts_iter, facts_row, and_true, true_and] at hF)))
        go_roundg (gk - 1)
        case measure => omega
        case rel => exact ⟨i + 1, s', _, _, by simp, by omega, hI2'.out, hsf3.out, hA.pick (by with_reducible repeat (first | exact Picks.nil | refine Picks.cons (by with_reducible repeat (first | exact Sel.here | apply Sel.there)) ?_))⟩
      · have hF := hA.facts
        (try simp only [setL, List.set_cons_zero, List.set_cons_succ, List.cons_append, List.nil_append] at hA); (have hF := hA.facts); (try simp only [facts_cons, facts_nil, facts_cells, facts_old, facts_fact, facts_obj, facts_map, facts_iter, facts_row, and_true, true_and] at hF)
        have hlen := hI'.out.len
        have hszs := Lib.hid (fun x hx => (hI'.out.ok' (by omega) x hx).1)
        have hdn2 := hdn.out
        subst hdn2
        clear hdn
        go_wp2_with (first | ((with_reducible show wpList _ _ _ ({ dst := _, op := Op.store _ _ _, type := _, pos := _, after := _, guard := _ } :: _) _ _); refine wpList_store_at rfl rfl rfl (by (try simp only [Act.eval, Array.getD_eq_getD_getElem?, List.getElem?_toArray, List.getElem?_cons_succ, List.getElem?_cons_zero, Option.getD_some]) <;> exact rfl) (by exact rfl) hA (by with_reducible repeat (first | exact Sel.here | apply Sel.there)) (by kernel_rfl) rfl (by first | decide | (simp; done) | omega) ?_; intro w1 hB; clear hF hA; have hA := hB; clear hB; (try simp only [setL, List.set_cons_zero, List.set_cons_succ, List.cons_append, List.nil_append] at hA); (have hF := hA.facts); (try simp only [facts_cons, facts_nil, facts_cells, facts_old, facts_fact, facts_obj, facts_map, facts_iter, facts_row, and_true, true_and] at hF)) | ((with_reducible show wpList _ _ _ ({ dst := _, op := Op.box _ _, type := _, pos := _, after := _, guard := _ } :: _) _ _); refine wpList_box_at rfl rfl (by (try simp only [Act.eval, Array.getD_eq_getD_getElem?, List.getElem?_toArray, List.getElem?_cons_succ, List.getElem?_cons_zero, Option.getD_some]) <;> exact rfl) (by exact rfl) hA ?_; intro b1 w1 hB hb1; clear hF hA; have hA := hB; clear hB; (try simp only [setL, List.set_cons_zero, List.set_cons_succ, List.cons_append, List.nil_append] at hA); (have hF := hA.facts); (try simp only [facts_cons, facts_nil, facts_cells, facts_old, facts_fact, facts_obj, facts_map, facts_iter, facts_row, and_true, true_and] at hF)))
        refine (list_at (hA.sep1 (A := bookS a s) (by with_reducible repeat (first | exact Sel.here | apply Sel.there))) hI'.out (by omega)).mono ?_
        rintro e w3 ⟨vl, l, rfl, hperm, hpw, hT⟩
        have hB := hA.call1 (A := bookS a s) (by with_reducible repeat (first | exact Sel.here | apply Sel.there)) hT
        have hll := hperm.length_eq
        have hpe := Lib.hid hperm
        clear hF hA hT hperm hpw
        have hA := hB
        clear hB
        simp only [List.cons_append, List.nil_append] at hA
        obtain ⟨lx, lcap, rfl, hlx, hlcap, _⟩ := hA.row_form (v := vl) (n := l.length) (xs := l.flatMap Ent.cells) (by with_reducible repeat (first | exact Sel.here | apply Sel.there))
        have hF := hA.facts
        (try simp only [setL, List.set_cons_zero, List.set_cons_succ, List.cons_append, List.nil_append] at hA); (have hF := hA.facts); (try simp only [facts_cons, facts_nil, facts_cells, facts_old, facts_fact, facts_obj, facts_map, facts_iter, facts_row, and_true, true_and] at hF)
        have hll' := Lib.hid hll
        clear hll
        have hlb : l.length ≤ 40 := by have := hll'.out; omega
        rcases (show ix < 0 ∨ (¬ ix < 0 ∧ (l.length : Int) ≤ ix) ∨ ∃ jx : Nat, ix = jx ∧ jx < l.length from by
          by_cases q1 : ix < 0
          · exact .inl q1
          · by_cases q2 : (l.length : Int) ≤ ix
            · exact .inr (.inl ⟨q1, q2⟩)
            · exact .inr (.inr ⟨ix.toNat, by omega, by omega⟩)) with hx0 | ⟨hx0, hx1⟩ | ⟨jx, rfl, hjl⟩
        · go_wp2_with (first | ((with_reducible show wpList _ _ _ ({ dst := _, op := Op.store _ _ _, type := _, pos := _, after := _, guard := _ } :: _) _ _); refine wpList_store_at rfl rfl rfl (by (try simp only [Act.eval, Array.getD_eq_getD_getElem?, List.getElem?_toArray, List.getElem?_cons_succ, List.getElem?_cons_zero, Option.getD_some]) <;> exact rfl) (by exact rfl) hA (by with_reducible repeat (first | exact Sel.here | apply Sel.there)) (by kernel_rfl) rfl (by first | decide | (simp; done) | omega) ?_; intro w1 hB; clear hF hA; have hA := hB; clear hB; (try simp only [setL, List.set_cons_zero, List.set_cons_succ, List.cons_append, List.nil_append] at hA); (have hF := hA.facts); (try simp only [facts_cons, facts_nil, facts_cells, facts_old, facts_fact, facts_obj, facts_map, facts_iter, facts_row, and_true, true_and] at hF)) | ((with_reducible show wpList _ _ _ ({ dst := _, op := Op.box _ _, type := _, pos := _, after := _, guard := _ } :: _) _ _); refine wpList_box_at rfl rfl (by (try simp only [Act.eval, Array.getD_eq_getD_getElem?, List.getElem?_toArray, List.getElem?_cons_succ, List.getElem?_cons_zero, Option.getD_some]) <;> exact rfl) (by exact rfl) hA ?_; intro b1 w1 hB hb1; clear hF hA; have hA := hB; clear hB; (try simp only [setL, List.set_cons_zero, List.set_cons_succ, List.cons_append, List.nil_append] at hA); (have hF := hA.facts); (try simp only [facts_cons, facts_nil, facts_cells, facts_old, facts_fact, facts_obj, facts_map, facts_iter, facts_row, and_true, true_and] at hF)))
          go_ret
          exact ⟨rfl, below_old hA (by with_reducible repeat (first | exact Sel.here | apply Sel.there))⟩
        · go_wp2_with (first | ((with_reducible show wpList _ _ _ ({ dst := _, op := Op.store _ _ _, type := _, pos := _, after := _, guard := _ } :: _) _ _); refine wpList_store_at rfl rfl rfl (by (try simp only [Act.eval, Array.getD_eq_getD_getElem?, List.getElem?_toArray, List.getElem?_cons_succ, List.getElem?_cons_zero, Option.getD_some]) <;> exact rfl) (by exact rfl) hA (by with_reducible repeat (first | exact Sel.here | apply Sel.there)) (by kernel_rfl) rfl (by first | decide | (simp; done) | omega) ?_; intro w1 hB; clear hF hA; have hA := hB; clear hB; (try simp only [setL, List.set_cons_zero, List.set_cons_succ, List.cons_append, List.nil_append] at hA); (have hF := hA.facts); (try simp only [facts_cons, facts_nil, facts_cells, facts_old, facts_fact, facts_obj, facts_map, facts_iter, facts_row, and_true, true_and] at hF)) | ((with_reducible show wpList _ _ _ ({ dst := _, op := Op.box _ _, type := _, pos := _, after := _, guard := _ } :: _) _ _); refine wpList_box_at rfl rfl (by (try simp only [Act.eval, Array.getD_eq_getD_getElem?, List.getElem?_toArray, List.getElem?_cons_succ, List.getElem?_cons_zero, Option.getD_some]) <;> exact rfl) (by exact rfl) hA ?_; intro b1 w1 hB hb1; clear hF hA; have hA := hB; clear hB; (try simp only [setL, List.set_cons_zero, List.set_cons_succ, List.cons_append, List.nil_append] at hA); (have hF := hA.facts); (try simp only [facts_cons, facts_nil, facts_cells, facts_old, facts_fact, facts_obj, facts_map, facts_iter, facts_row, and_true, true_and] at hF)))
          go_ret
          exact ⟨rfl, below_old hA (by with_reducible repeat (first | exact Sel.here | apply Sel.there))⟩
        · have hxm : l[jx] ∈ s.es := hpe.out.mem_iff.1 (List.getElem_mem hjl)
          obtain ⟨j1, hj1, hjx, hix, hfx⟩ := place_of_mem hI'.out hxm
          have hgp := granted_place hI'.out hj1 hjx hfx
          obtain ⟨g, c, rfl, hcp1, hcm, hcl, hct, hB⟩ := hA.row_open (ax := lx) (cap := lcap) (n := l.length) (xs := l.flatMap Ent.cells) (by with_reducible repeat (first | exact Sel.here | apply Sel.there)) (by omega)
          have hx : l[jx]? = some l[jx] := List.getElem?_eq_getElem hjl
          (have c0 : c[jx * 6]? = some (.string l[jx].path) := cells_at Ent.cells_len hct hx 0 (by omega)); (have c1 : c[jx * 6 + 1]? = some (.int .u64 l[jx].num) := cells_at Ent.cells_len hct hx 1 (by omega)); (have c2 : c[jx * 6 + 2]? = some (.string l[jx].foot) := cells_at Ent.cells_len hct hx 2 (by omega)); (have c3 : c[jx * 6 + 3]? = some (.int .i64 l[jx].mode) := cells_at Ent.cells_len hct hx 3 (by omega)); (have c4 : c[jx * 6 + 4]? = some (.int .u64 l[jx].n) := cells_at Ent.cells_len hct hx 4 (by omega)); (have c5 : c[jx * 6 + 5]? = some (.int .i64 l[jx].stamp) := cells_at Ent.cells_len hct hx 5 (by omega))
          have b1 := hI'.out.num0 _ hxm
          have b2 := hI'.out.num1 _ hxm
          have b3 := hI'.out.foot _ hxm
          have b4 := hI'.out.path _ hxm
          obtain ⟨x, hxi⟩ : ∃ x, l[jx] = x := ⟨_, rfl⟩
          simp only [hxi] at c0 c1 c2 c3 c4 c5 hjx hix hfx hgp b1 b2 b3 b4 hxm
          clear hA hxi
          have hA := hB
          clear hB
          have hF := hA.facts
          (try simp only [setL, List.set_cons_zero, List.set_cons_succ, List.cons_append, List.nil_append] at hA); (have hF := hA.facts); (try simp only [facts_cons, facts_nil, facts_cells, facts_old, facts_fact, facts_obj, facts_map, facts_iter, facts_row, and_true, true_and] at hF)
          go_wp2_with (first | ((with_reducible show wpList _ _ _ ({ dst := _, op := Op.alloc _, type := _, pos := _, after := _, guard := _ } :: _) _ _); refine wpList_alloc_at (E := 41) (z := .agg #[.string .empty, .int .u64 0, .string .empty, .int .i64 0, .int .u64 0, .int .i64 0]) (vs := [.string .empty, .int .u64 0, .string .empty, .int .i64 0, .int .u64 0, .int .i64 0]) rfl rfl (by kernel_rfl) rfl hA ?_; intro bE w1 hB hbE; clear hF hA; have hA := hB; clear hB; (try simp only [setL, List.set_cons_zero, List.set_cons_succ, List.cons_append, List.nil_append] at hA); (have hF := hA.facts); (try simp only [facts_cons, facts_nil, facts_cells, facts_old, facts_fact, facts_obj, facts_map, facts_iter, facts_row, and_true, true_and] at hF)) | ((with_reducible show wpList _ _ _ ({ dst := _, op := Op.store _ _ _, type := _, pos := _, after := _, guard := _ } :: _) _ _); refine wpList_store_at rfl rfl rfl (by (try simp only [Act.eval, Array.getD_eq_getD_getElem?, List.getElem?_toArray, List.getElem?_cons_succ, List.getElem?_cons_zero, Option.getD_some]) <;> exact rfl) (by exact rfl) hA (by with_reducible repeat (first | exact Sel.here | apply Sel.there)) (by kernel_rfl) rfl (by first | decide | (simp; done) | omega) ?_; intro w1 hB; clear hF hA; have hA := hB; clear hB; (try simp only [setL, List.set_cons_zero, List.set_cons_succ, List.cons_append, List.nil_append] at hA); (have hF := hA.facts); (try simp only [facts_cons, facts_nil, facts_cells, facts_old, facts_fact, facts_obj, facts_map, facts_iter, facts_row, and_true, true_and] at hF)) | ((with_reducible show wpList _ _ _ ({ dst := _, op := Op.box _ _, type := _, pos := _, after := _, guard := _ } :: _) _ _); refine wpList_box_at rfl rfl (by (try simp only [Act.eval, Array.getD_eq_getD_getElem?, List.getElem?_toArray, List.getElem?_cons_succ, List.getElem?_cons_zero, Option.getD_some]) <;> exact rfl) (by exact rfl) hA ?_; intro b1 w1 hB hb1; clear hF hA; have hA := hB; clear hB; (try simp only [setL, List.set_cons_zero, List.set_cons_succ, List.cons_append, List.nil_append] at hA); (have hF := hA.facts); (try simp only [facts_cons, facts_nil, facts_cells, facts_old, facts_fact, facts_obj, facts_map, facts_iter, facts_row, and_true, true_and] at hF)))
          have hfR := fun (w1 : World) (q : Sep [rowE (.slice dx s.es.length dcap) s.es] w1) => findR_any q s.first (.slice ex en ecap) ⟨_, _, _, rfl⟩ x.path x.num x.foot (by omega)
          rw [hix] at hfR
          refine (hfR _ (hA.sep1 (by with_reducible repeat (first | exact Sel.here | apply Sel.there)))).mono ?_
          clear hfR
          rintro e w1 ⟨rfl, hT⟩; have hB := hA.call1 (by with_reducible repeat (first | exact Sel.here | apply Sel.there)) hT; clear hF hA hT; have hA := hB; clear hB; (try simp only [setL, List.set_cons_zero, List.set_cons_succ, List.cons_append, List.nil_append] at hA); (have hF := hA.facts); (try simp only [facts_cons, facts_nil, facts_cells, facts_old, facts_fact, facts_obj, facts_map, facts_iter, facts_row, and_true, true_and] at hF)
          have hB := hA.pick (K := [cloP bE x, bookS a s, boxB b12 s.first (.slice dx s.es.length dcap) (.slice ex en ecap), rowE (.slice dx s.es.length dcap) s.es, rowC (.slice ex en ecap) s.cs, Part.old w]) (by repeat (first | exact Picks.nil | refine Picks.cons (by repeat (first | exact Sel.here | apply Sel.there)) ?_))
          clear hF hA c0 c1 c2 c3 c4 c5 hcp1 hcm hcl hct hx
          have hA := hB
          clear hB
          have hF := hA.facts
          (try simp only [setL, List.set_cons_zero, List.set_cons_succ, List.cons_append, List.nil_append] at hA); (have hF := hA.facts); (try simp only [facts_cons, facts_nil, facts_cells, facts_old, facts_fact, facts_obj, facts_map, facts_iter, facts_row, and_true, true_and] at hF)
          go_wp2_with (first | ((with_reducible show wpList _ _ _ ({ dst := _, op := Op.store _ _ _, type := _, pos := _, after := _, guard := _ } :: _) _ _); refine wpList_store_at rfl rfl rfl (by (try simp only [Act.eval, Array.getD_eq_getD_getElem?, List.getElem?_toArray, List.getElem?_cons_succ, List.getElem?_cons_zero, Option.getD_some]) <;> exact rfl) (by exact rfl) hA (by with_reducible repeat (first | exact Sel.here | apply Sel.there)) (by kernel_rfl) rfl (by first | decide | (simp; done) | omega) ?_; intro w1 hB; clear hF hA; have hA := hB; clear hB; (try simp only [setL, List.set_cons_zero, List.set_cons_succ, List.cons_append, List.nil_append] at hA); (have hF := hA.facts); (try simp only [facts_cons, facts_nil, facts_cells, facts_old, facts_fact, facts_obj, facts_map, facts_iter, facts_row, and_true, true_and] at hF)) | ((with_reducible show wpList _ _ _ ({ dst := _, op := Op.box _ _, type := _, pos := _, after := _, guard := _ } :: _) _ _); refine wpList_box_at rfl rfl (by (try simp only [Act.eval, Array.getD_eq_getD_getElem?, List.getElem?_toArray, List.getElem?_cons_succ, List.getElem?_cons_zero, Option.getD_some]) <;> exact rfl) (by exact rfl) hA ?_; intro b1 w1 hB hb1; clear hF hA; have hA := hB; clear hB; (try simp only [setL, List.set_cons_zero, List.set_cons_succ, List.cons_append, List.nil_append] at hA); (have hF := hA.facts); (try simp only [facts_cons, facts_nil, facts_cells, facts_old, facts_fact, facts_obj, facts_map, facts_iter, facts_row, and_true, true_and] at hF)))
          have haP := ahead_at (x := x) (hA.sep1 (A := bookS a s) (by with_reducible repeat (first | exact Sel.here | apply Sel.there))) hI'.out (by omega) (by omega)
          simp only [Ent.val] at haP
          refine haP.mono ?_
          clear haP
          rintro e w4 ⟨va, l2, rfl, hperm2, _, hT⟩
          have hB := hA.call1 (A := bookS a s) (by with_reducible repeat (first | exact Sel.here | apply Sel.there)) hT
          have hal := Lib.hid (show (keepF (offF x) l2).length = ((s.es.take j1).filter (fun y => wayB y x)).length from by rw [← hjx]; exact ahead_len hI'.out hperm2 hj1)
          have halm := Lib.hid (fun y (hy : y ∈ s.es.take j1) (hw : wayB y x = true) => (show y ∈ keepF (offF x) l2 from by
            obtain ⟨jy, hjy, hye⟩ := List.mem_take_iff_getElem.1 hy
            have h1 := early_ahead hI'.out (i := j1) (j := jy) hj1 (by omega) (by rw [hye, hjx]; exact hw)
            rw [hye, hjx] at h1
            exact ahead_mem.2 ⟨hperm2.mem_iff.2 (List.mem_of_mem_take hy), h1, hw⟩))
          have halg := Lib.hid (show grantedB (goneS s (keepF (offF x) l2)).es x = true from gone_grant hI'.out hperm2 hxm)
          have hale := Lib.hid (show ∀ y ∈ keepF (offF x) l2, y ∈ s.es from fun y hy => hperm2.mem_iff.1 (ahead_mem.1 hy).1)
          have hall : (keepF (offF x) l2).length ≤ 40 := by have := (List.length_filter_le (fun y => !offF x y) l2); have := hperm2.length_eq; unfold keepF; omega
          have hgn := Lib.hid (show grantedB s.es x = decide (((s.es.take j1).filter (fun y => wayB y x)).length = 0) from by rw [hgp, grant_none hj1, hjx])
          clear hF hA hT hgp
          have hA := hB
          clear hB
          simp only [List.cons_append, List.nil_append] at hA
          generalize keepF (offF x) l2 = al at *
          obtain ⟨ax, an, acap, hav, han⟩ := hA.row_hid (v := va) (n := al.length) (xs := flatE al) (by with_reducible repeat (first | exact Sel.here | apply Sel.there))
          subst hav
          have hF := hA.facts
          (try simp only [setL, List.set_cons_zero, List.set_cons_succ, List.cons_append, List.nil_append] at hA); (have hF := hA.facts); (try simp only [facts_cons, facts_nil, facts_cells, facts_old, facts_fact, facts_obj, facts_map, facts_iter, facts_row, and_true, true_and] at hF)
          go_wp2_with (first | ((with_reducible show wpList _ _ _ ({ dst := _, op := Op.store _ _ _, type := _, pos := _, after := _, guard := _ } :: _) _ _); refine wpList_store_at rfl rfl rfl (by (try simp only [Act.eval, Array.getD_eq_getD_getElem?, List.getElem?_toArray, List.getElem?_cons_succ, List.getElem?_cons_zero, Option.getD_some]) <;> exact rfl) (by exact rfl) hA (by with_reducible repeat (first | exact Sel.here | apply Sel.there)) (by kernel_rfl) rfl (by first | decide | (simp; done) | omega) ?_; intro w1 hB; clear hF hA; have hA := hB; clear hB; (try simp only [setL, List.set_cons_zero, List.set_cons_succ, List.cons_append, List.nil_append] at hA); (have hF := hA.facts); (try simp only [facts_cons, facts_nil, facts_cells, facts_old, facts_fact, facts_obj, facts_map, facts_iter, facts_row, and_true, true_and] at hF)) | ((with_reducible show wpList _ _ _ ({ dst := _, op := Op.box _ _, type := _, pos := _, after := _, guard := _ } :: _) _ _); refine wpList_box_at rfl rfl (by (try simp only [Act.eval, Array.getD_eq_getD_getElem?, List.getElem?_toArray, List.getElem?_cons_succ, List.getElem?_cons_zero, Option.getD_some]) <;> exact rfl) (by exact rfl) hA ?_; intro b1 w1 hB hb1; clear hF hA; have hA := hB; clear hB; (try simp only [setL, List.set_cons_zero, List.set_cons_succ, List.cons_append, List.nil_append] at hA); (have hF := hA.facts); (try simp only [facts_cons, facts_nil, facts_cells, facts_old, facts_fact, facts_obj, facts_map, facts_iter, facts_row, and_true, true_and] at hF)))
          try go_frame
          go_loopg [15, 77] j1 (fun k u15 u77 wr => AhRel w a b12 bE s (.slice dx s.es.length dcap) (.slice ex en ecap) (.slice ax an acap) al x j1 k u15 u77 wr)
          case atStart => exact ⟨0, rfl, by simp, by simp, hA.pick (by repeat (first | exact Picks.nil | refine Picks.cons (by repeat (first | exact Sel.here | apply Sel.there)) ?_))⟩
          case round =>
            obtain ⟨i2, rfl, hik2, rfl, hB⟩ := hrel
            clear hF hA
            have hA := hB
            clear hB
            have hnn := Lib.hid (filter_more s.es (fun y => wayB y x) (i := i2))
            have hnle : ((s.es.take i2).filter (fun y => wayB y x)).length ≤ i2 := by
              have h1 := List.length_filter_le (fun y => wayB y x) (s.es.take i2)
              have h2 := List.length_take_le i2 s.es
              omega
            by_cases hi2 : i2 < j1
            · have hym := halm.out (s.es[i2]'(by omega)) (List.mem_take_iff_getElem.2 ⟨i2, by omega, rfl⟩)
              have hn2 := hnn.out (by omega)
              have hys := hszs.out (s.es[i2]'(by omega)) (List.getElem_mem _)
              obtain ⟨ge, ce, rfl, hdp1, hdm, hdl, hdt, hB⟩ := hA.row_open (ax := dx) (cap := dcap) (n := s.es.length) (xs := flatE s.es) (by with_reducible repeat (first | exact Sel.here | apply Sel.there)) (by omega)
              have hx : s.es[i2]? = some (s.es[i2]'(by omega)) := List.getElem?_eq_getElem (by omega)
              have hx2 : s.es[j1]? = some x := by rw [List.getElem?_eq_getElem hj1, hjx]
              have d0 : ce[i2 * 6]? = some (.string (s.es[i2]'(by omega)).path) := cells_at Ent.cells_len hdt hx 0 (by omega)
              have d1 : ce[i2 * 6 + 1]? = some (.int .u64 (s.es[i2]'(by omega)).num) := cells_at Ent.cells_len hdt hx 1 (by omega)
              have d2 : ce[i2 * 6 + 2]? = some (.string (s.es[i2]'(by omega)).foot) := cells_at Ent.cells_len hdt hx 2 (by omega)
              have d3 : ce[i2 * 6 + 3]? = some (.int .i64 (s.es[i2]'(by omega)).mode) := cells_at Ent.cells_len hdt hx 3 (by omega)
              have d4 : ce[i2 * 6 + 4]? = some (.int .u64 (s.es[i2]'(by omega)).n) := cells_at Ent.cells_len hdt hx 4 (by omega)
              have d5 : ce[i2 * 6 + 5]? = some (.int .i64 (s.es[i2]'(by omega)).stamp) := cells_at Ent.cells_len hdt hx 5 (by omega)
              have f0 : ce[j1 * 6]? = some (.string x.path) := cells_at Ent.cells_len hdt hx2 0 (by omega)
              have f1 : ce[j1 * 6 + 1]? = some (.int .u64 x.num) := cells_at Ent.cells_len hdt hx2 1 (by omega)
              have f2 : ce[j1 * 6 + 2]? = some (.string x.foot) := cells_at Ent.cells_len hdt hx2 2 (by omega)
              have f3 : ce[j1 * 6 + 3]? = some (.int .i64 x.mode) := cells_at Ent.cells_len hdt hx2 3 (by omega)
              have f4 : ce[j1 * 6 + 4]? = some (.int .u64 x.n) := cells_at Ent.cells_len hdt hx2 4 (by omega)
              have f5 : ce[j1 * 6 + 5]? = some (.int .i64 x.stamp) := cells_at Ent.cells_len hdt hx2 5 (by omega)
              obtain ⟨y, hyi⟩ : ∃ y, s.es[i2]'(by omega) = y := ⟨_, rfl⟩
              simp only [hyi] at d0 d1 d2 d3 d4 d5 hym hn2 hys
              have hn2' := Lib.hid hn2
              clear hA hx hx2 hyi hn2
              have hA := hB
              clear hB
              have hF := hA.facts
              (try simp only [setL, List.set_cons_zero, List.set_cons_succ, List.cons_append, List.nil_append] at hA); (have hF := hA.facts); (try simp only [facts_cons, facts_nil, facts_cells, facts_old, facts_fact, facts_obj, facts_map, facts_iter, facts_row, and_true, true_and] at hF)
              generalize hmm : ((s.es.take i2).filter (fun y => wayB y x)).length = mm at *
              go_wp2_with (first | ((with_reducible show wpList _ _ _ ({ dst := _, op := Op.alloc _, type := _, pos := _, after := _, guard := _ } :: _) _ _); refine wpList_alloc_at (E := 45) (z := .agg #[.string .empty, .int .u64 0, .string .empty, .int .i64 0, .int .u64 0, .int .i64 0]) (vs := [.string .empty, .int .u64 0, .string .empty, .int .i64 0, .int .u64 0, .int .i64 0]) rfl rfl (by kernel_rfl) rfl hA ?_; intro bY w1 hB hbY; clear hF hA; have hA := hB; clear hB; (try simp only [setL, List.set_cons_zero, List.set_cons_succ, List.cons_append, List.nil_append] at hA); (have hF := hA.facts); (try simp only [facts_cons, facts_nil, facts_cells, facts_old, facts_fact, facts_obj, facts_map, facts_iter, facts_row, and_true, true_and] at hF)) | ((with_reducible show wpList _ _ _ ({ dst := _, op := Op.store _ _ _, type := _, pos := _, after := _, guard := _ } :: _) _ _); refine wpList_store_at rfl rfl rfl (by (try simp only [Act.eval, Array.getD_eq_getD_getElem?, List.getElem?_toArray, List.getElem?_cons_succ, List.getElem?_cons_zero, Option.getD_some]) <;> exact rfl) (by exact rfl) hA (by with_reducible repeat (first | exact Sel.here | apply Sel.there)) (by kernel_rfl) rfl (by first | decide | (simp; done) | omega) ?_; intro w1 hB; clear hF hA; have hA := hB; clear hB; (try simp only [setL, List.set_cons_zero, List.set_cons_succ, List.cons_append, List.nil_append] at hA); (have hF := hA.facts); (try simp only [facts_cons, facts_nil, facts_cells, facts_old, facts_fact, facts_obj, facts_map, facts_iter, facts_row, and_true, true_and] at hF)) | ((with_reducible show wpList _ _ _ ({ dst := _, op := Op.box _ _, type := _, pos := _, after := _, guard := _ } :: _) _ _); refine wpList_box_at rfl rfl (by (try simp only [Act.eval, Array.getD_eq_getD_getElem?, List.getElem?_toArray, List.getElem?_cons_succ, List.getElem?_cons_zero, Option.getD_some]) <;> exact rfl) (by exact rfl) hA ?_; intro b1 w1 hB hb1; clear hF hA; have hA := hB; clear hB; (try simp only [setL, List.set_cons_zero, List.set_cons_succ, List.cons_append, List.nil_append] at hA); (have hF := hA.facts); (try simp only [facts_cons, facts_nil, facts_cells, facts_old, facts_fact, facts_obj, facts_map, facts_iter, facts_row, and_true, true_and] at hF)))
              have hj1' : (j1 : Int) < (s.es.length : Int) := by omega
              try go_frame
              go_cut [18] from 85 to 92 (fun u18 wc => PairIs w [Part.cells bY [.string y.path, .int .u64 y.num, .string y.foot, .int .i64 y.mode, .int .u64 y.n, .int .i64 y.stamp] 45, Part.cells ge ce 45, rowH (.slice ax an acap) al, cloP bE x, bookS a s, boxB b12 s.first (.slice (some ⟨ge, 0, none⟩) s.es.length dcap) (.slice ex en ecap), rowC (.slice ex en ecap) s.cs, Part.old w] y x u18 wc)
              case first =>
                go_region
                all_goals (go_wp2_with fail)
                all_goals go_meet
                all_goals first | exact pair_A hA y x | exact pair_B hA y x
              case rest =>
                obtain ⟨bL, bP, rfl, hB⟩ := hcut
                clear hF hA
                have hA : At [Part.old w] w (rowE (.slice (some ⟨bL, 0, none⟩) 2 2) [y, x] :: _) _ := shut_E (L := [y, x]) (cap := 2) hB (by with_reducible repeat (first | exact Sel.here | apply Sel.there)) rfl (by simp) (by unfold maxLen; omega) rfl
                clear hB
                have hF := hA.facts
                (try simp only [setL, List.set_cons_zero, List.set_cons_succ, List.cons_append, List.nil_append] at hA); (have hF := hA.facts); (try simp only [facts_cons, facts_nil, facts_cells, facts_old, facts_fact, facts_obj, facts_map, facts_iter, facts_row, and_true, true_and] at hF)
                have hgR := fun (w1 : World) (q : Sep [rowE (.slice (some ⟨bL, 0, none⟩) 2 2) [y, x]] w1) => grantedR_any q 0 (.slice none 0 0) ⟨_, _, _, rfl⟩ 1 (by simp) (by simp) (by simp; omega)
                rw [grant_pair] at hgR
                have hofx := fun e w1 => of_any e w1
                cases hwy : wayB y x with
                | false =>
                  rw [hwy] at hgR
                  go_wp2_with (first | ((with_reducible show wpList _ _ _ ({ dst := _, op := Op.store _ _ _, type := _, pos := _, after := _, guard := _ } :: _) _ _); refine wpList_store_at rfl rfl rfl (by (try simp only [Act.eval, Array.getD_eq_getD_getElem?, List.getElem?_toArray, List.getElem?_cons_succ, List.getElem?_cons_zero, Option.getD_some]) <;> exact rfl) (by exact rfl) hA (by with_reducible repeat (first | exact Sel.here | apply Sel.there)) (by kernel_rfl) rfl (by first | decide | (simp; done) | omega) ?_; intro w1 hB; clear hF hA; have hA := hB; clear hB; (try simp only [setL, List.set_cons_zero, List.set_cons_succ, List.cons_append, List.nil_append] at hA); (have hF := hA.facts); (try simp only [facts_cons, facts_nil, facts_cells, facts_old, facts_fact, facts_obj, facts_map, facts_iter, facts_row, and_true, true_and] at hF)) | ((with_reducible show wpList _ _ _ ({ dst := _, op := Op.box _ _, type := _, pos := _, after := _, guard := _ } :: _) _ _); refine wpList_box_at rfl rfl (by (try simp only [Act.eval, Array.getD_eq_getD_getElem?, List.getElem?_toArray, List.getElem?_cons_succ, List.getElem?_cons_zero, Option.getD_some]) <;> exact rfl) (by exact rfl) hA ?_; intro b1 w1 hB hb1; clear hF hA; have hA := hB; clear hB; (try simp only [setL, List.set_cons_zero, List.set_cons_succ, List.cons_append, List.nil_append] at hA); (have hF := hA.facts); (try simp only [facts_cons, facts_nil, facts_cells, facts_old, facts_fact, facts_obj, facts_map, facts_iter, facts_row, and_true, true_and] at hF)))
                  refine (hgR _ (hA.sep1 (A := rowE (.slice (some ⟨bL, 0, none⟩) 2 2) [y, x]) (by with_reducible repeat (first | exact Sel.here | apply Sel.there)))).mono ?_
                  clear hgR
                  rintro e w1 ⟨rfl, hT⟩; have hB := hA.call1 (by with_reducible repeat (first | exact Sel.here | apply Sel.there)) hT; clear hF hA hT; have hA := hB; clear hB; (try simp only [setL, List.set_cons_zero, List.set_cons_succ, List.cons_append, List.nil_append] at hA); (have hF := hA.facts); (try simp only [facts_cons, facts_nil, facts_cells, facts_old, facts_fact, facts_obj, facts_map, facts_iter, facts_row, and_true, true_and] at hF)
                  go_wp2_with (first | ((with_reducible show wpList _ _ _ ({ dst := _, op := Op.store _ _ _, type := _, pos := _, after := _, guard := _ } :: _) _ _); refine wpList_store_at rfl rfl rfl (by (try simp only [Act.eval, Array.getD_eq_getD_getElem?, List.getElem?_toArray, List.getElem?_cons_succ, List.getElem?_cons_zero, Option.getD_some]) <;> exact rfl) (by exact rfl) hA (by with_reducible repeat (first | exact Sel.here | apply Sel.there)) (by kernel_rfl) rfl (by first | decide | (simp; done) | omega) ?_; intro w1 hB; clear hF hA; have hA := hB; clear hB; (try simp only [setL, List.set_cons_zero, List.set_cons_succ, List.cons_append, List.nil_append] at hA); (have hF := hA.facts); (try simp only [facts_cons, facts_nil, facts_cells, facts_old, facts_fact, facts_obj, facts_map, facts_iter, facts_row, and_true, true_and] at hF)) | ((with_reducible show wpList _ _ _ ({ dst := _, op := Op.box _ _, type := _, pos := _, after := _, guard := _ } :: _) _ _); refine wpList_box_at rfl rfl (by (try simp only [Act.eval, Array.getD_eq_getD_getElem?, List.getElem?_toArray, List.getElem?_cons_succ, List.getElem?_cons_zero, Option.getD_some]) <;> exact rfl) (by exact rfl) hA ?_; intro b1 w1 hB hb1; clear hF hA; have hA := hB; clear hB; (try simp only [setL, List.set_cons_zero, List.set_cons_succ, List.cons_append, List.nil_append] at hA); (have hF := hA.facts); (try simp only [facts_cons, facts_nil, facts_cells, facts_old, facts_fact, facts_obj, facts_map, facts_iter, facts_row, and_true, true_and] at hF)))
                  go_roundg (gk - 1)
                  case measure => omega
                  case rel =>
                    have hS := shut_E (L := s.es) (cap := dcap) (g := ge) (c := ce) hA (by with_reducible repeat (first | exact Sel.here | apply Sel.there)) hdl hdp1 hdm hdt
                    exact ⟨i2 + 1, by simp, by omega, by rw [hn2'.out, hwy]; simp, hS.pick (by repeat (first | exact Picks.nil | refine Picks.cons (by repeat (first | exact Sel.here | apply Sel.there)) ?_))⟩
                | true =>
                  rw [hwy] at hgR
                  have hym' := Lib.hid (hym hwy)
                  have hwy' := Lib.hid hwy
                  clear hym hwy
                  go_wp2_with (first | ((with_reducible show wpList _ _ _ ({ dst := _, op := Op.store _ _ _, type := _, pos := _, after := _, guard := _ } :: _) _ _); refine wpList_store_at rfl rfl rfl (by (try simp only [Act.eval, Array.getD_eq_getD_getElem?, List.getElem?_toArray, List.getElem?_cons_succ, List.getElem?_cons_zero, Option.getD_some]) <;> exact rfl) (by exact rfl) hA (by with_reducible repeat (first | exact Sel.here | apply Sel.there)) (by kernel_rfl) rfl (by first | decide | (simp; done) | omega) ?_; intro w1 hB; clear hF hA; have hA := hB; clear hB; (try simp only [setL, List.set_cons_zero, List.set_cons_succ, List.cons_append, List.nil_append] at hA); (have hF := hA.facts); (try simp only [facts_cons, facts_nil, facts_cells, facts_old, facts_fact, facts_obj, facts_map, facts_iter, facts_row, and_true, true_and] at hF)) | ((with_reducible show wpList _ _ _ ({ dst := _, op := Op.box _ _, type := _, pos := _, after := _, guard := _ } :: _) _ _); refine wpList_box_at rfl rfl (by (try simp only [Act.eval, Array.getD_eq_getD_getElem?, List.getElem?_toArray, List.getElem?_cons_succ, List.getElem?_cons_zero, Option.getD_some]) <;> exact rfl) (by exact rfl) hA ?_; intro b1 w1 hB hb1; clear hF hA; have hA := hB; clear hB; (try simp only [setL, List.set_cons_zero, List.set_cons_succ, List.cons_append, List.nil_append] at hA); (have hF := hA.facts); (try simp only [facts_cons, facts_nil, facts_cells, facts_old, facts_fact, facts_obj, facts_map, facts_iter, facts_row, and_true, true_and] at hF)))
                  refine (hgR _ (hA.sep1 (A := rowE (.slice (some ⟨bL, 0, none⟩) 2 2) [y, x]) (by with_reducible repeat (first | exact Sel.here | apply Sel.there)))).mono ?_
                  clear hgR
                  rintro e w1 ⟨rfl, hT⟩; have hB := hA.call1 (by with_reducible repeat (first | exact Sel.here | apply Sel.there)) hT; clear hF hA hT; have hA := hB; clear hB; (try simp only [setL, List.set_cons_zero, List.set_cons_succ, List.cons_append, List.nil_append] at hA); (have hF := hA.facts); (try simp only [facts_cons, facts_nil, facts_cells, facts_old, facts_fact, facts_obj, facts_map, facts_iter, facts_row, and_true, true_and] at hF)
                  have han2 := han.out
                  subst han2
                  clear han
                  go_wp2_with (first | ((with_reducible show wpList _ _ _ ({ dst := _, op := Op.store _ _ _, type := _, pos := _, after := _, guard := _ } :: _) _ _); refine wpList_store_at rfl rfl rfl (by (try simp only [Act.eval, Array.getD_eq_getD_getElem?, List.getElem?_toArray, List.getElem?_cons_succ, List.getElem?_cons_zero, Option.getD_some]) <;> exact rfl) (by exact rfl) hA (by with_reducible repeat (first | exact Sel.here | apply Sel.there)) (by kernel_rfl) rfl (by first | decide | (simp; done) | omega) ?_; intro w1 hB; clear hF hA; have hA := hB; clear hB; (try simp only [setL, List.set_cons_zero, List.set_cons_succ, List.cons_append, List.nil_append] at hA); (have hF := hA.facts); (try simp only [facts_cons, facts_nil, facts_cells, facts_old, facts_fact, facts_obj, facts_map, facts_iter, facts_row, and_true, true_and] at hF)) | ((with_reducible show wpList _ _ _ ({ dst := _, op := Op.box _ _, type := _, pos := _, after := _, guard := _ } :: _) _ _); refine wpList_box_at rfl rfl (by (try simp only [Act.eval, Array.getD_eq_getD_getElem?, List.getElem?_toArray, List.getElem?_cons_succ, List.getElem?_cons_zero, Option.getD_some]) <;> exact rfl) (by exact rfl) hA ?_; intro b1 w1 hB hb1; clear hF hA; have hA := hB; clear hB; (try simp only [setL, List.set_cons_zero, List.set_cons_succ, List.cons_append, List.nil_append] at hA); (have hF := hA.facts); (try simp only [facts_cons, facts_nil, facts_cells, facts_old, facts_fact, facts_obj, facts_map, facts_iter, facts_row, and_true, true_and] at hF)))
                  try go_frame
                  go_loopg [19, 97] al.length (FoRel w a b12 bE bY ge ce s (.slice (some ⟨ge, 0, none⟩) s.es.length dcap) (.slice ex en ecap) (.slice ax al.length acap) al x y)
                  case atStart => exact ⟨0, rfl, by simp, by simp, hA.pick (by repeat (first | exact Picks.nil | refine Picks.cons (by repeat (first | exact Sel.here | apply Sel.there)) ?_))⟩
                  case round =>
                    obtain ⟨i3, rfl, hik3, rfl, hB⟩ := hrel
                    clear hF hA
                    have hA := hB
                    clear hB
                    by_cases hi3 : i3 < al.length
                    · have hmm3 := Lib.hid (mem_more (y := y) hi3)
                      obtain ⟨g3, c3, rfl, hgp1, hgm, hgl, hgt, hB⟩ := hA.row_open (ax := ax) (cap := acap) (n := al.length) (xs := flatE al) (by with_reducible repeat (first | exact Sel.here | apply Sel.there)) (by omega)
                      have hx : al[i3]? = some al[i3] := List.getElem?_eq_getElem hi3
                      have d0 : c3[i3 * 6]? = some (.string al[i3].path) := cells_at Ent.cells_len hgt hx 0 (by omega)
                      have d1 : c3[i3 * 6 + 1]? = some (.int .u64 al[i3].num) := cells_at Ent.cells_len hgt hx 1 (by omega)
                      have d2 : c3[i3 * 6 + 2]? = some (.string al[i3].foot) := cells_at Ent.cells_len hgt hx 2 (by omega)
                      have d3 : c3[i3 * 6 + 3]? = some (.int .i64 al[i3].mode) := cells_at Ent.cells_len hgt hx 3 (by omega)
                      have d4 : c3[i3 * 6 + 4]? = some (.int .u64 al[i3].n) := cells_at Ent.cells_len hgt hx 4 (by omega)
                      have d5 : c3[i3 * 6 + 5]? = some (.int .i64 al[i3].stamp) := cells_at Ent.cells_len hgt hx 5 (by omega)
                      obtain ⟨z, hzi⟩ : ∃ z, al[i3] = z := ⟨_, rfl⟩
                      simp only [hzi] at d0 d1 d2 d3 d4 d5 hmm3
                      clear hA hx hzi
                      have hA := hB
                      clear hB
                      have hof := fun w1 => of_any z w1
                      have heR := fun w1 => eqlR z y w1
                      simp only [Ent.val] at hof heR
                      obtain ⟨fb, hfb⟩ : ∃ q, decide (y ∈ al.take i3) = q := ⟨_, rfl⟩
                      rw [hfb] at hmm3 ⊢
                      clear hfb
                      have hF := hA.facts
                      (try simp only [setL, List.set_cons_zero, List.set_cons_succ, List.cons_append, List.nil_append] at hA); (have hF := hA.facts); (try simp only [facts_cons, facts_nil, facts_cells, facts_old, facts_fact, facts_obj, facts_map, facts_iter, facts_row, and_true, true_and] at hF)
                      cases fb with
                      | true =>
                        go_wp2_with (first | ((with_reducible show wpList _ _ _ ({ dst := _, op := Op.alloc _, type := _, pos := _, after := _, guard := _ } :: _) _ _); refine wpList_alloc_at (E := 41) (z := .agg #[.string .empty, .int .u64 0, .string .empty, .int .i64 0, .int .u64 0, .int .i64 0]) (vs := [.string .empty, .int .u64 0, .string .empty, .int .i64 0, .int .u64 0, .int .i64 0]) rfl rfl (by kernel_rfl) rfl hA ?_; intro bZ w1 hB hbZ; clear hF hA; have hA := hB; clear hB; (try simp only [setL, List.set_cons_zero, List.set_cons_succ, List.cons_append, List.nil_append] at hA); (have hF := hA.facts); (try simp only [facts_cons, facts_nil, facts_cells, facts_old, facts_fact, facts_obj, facts_map, facts_iter, facts_row, and_true, true_and] at hF)) | ((with_reducible show wpList _ _ _ ({ dst := _, op := Op.store _ _ _, type := _, pos := _, after := _, guard := _ } :: _) _ _); refine wpList_store_at rfl rfl rfl (by (try simp only [Act.eval, Array.getD_eq_getD_getElem?, List.getElem?_toArray, List.getElem?_cons_succ, List.getElem?_cons_zero, Option.getD_some]) <;> exact rfl) (by exact rfl) hA (by with_reducible repeat (first | exact Sel.here | apply Sel.there)) (by kernel_rfl) rfl (by first | decide | (simp; done) | omega) ?_; intro w1 hB; clear hF hA; have hA := hB; clear hB; (try simp only [setL, List.set_cons_zero, List.set_cons_succ, List.cons_append, List.nil_append] at hA); (have hF := hA.facts); (try simp only [facts_cons, facts_nil, facts_cells, facts_old, facts_fact, facts_obj, facts_map, facts_iter, facts_row, and_true, true_and] at hF)) | ((with_reducible show wpList _ _ _ ({ dst := _, op := Op.box _ _, type := _, pos := _, after := _, guard := _ } :: _) _ _); refine wpList_box_at rfl rfl (by (try simp only [Act.eval, Array.getD_eq_getD_getElem?, List.getElem?_toArray, List.getElem?_cons_succ, List.getElem?_cons_zero, Option.getD_some]) <;> exact rfl) (by exact rfl) hA ?_; intro b1 w1 hB hb1; clear hF hA; have hA := hB; clear hB; (try simp only [setL, List.set_cons_zero, List.set_cons_succ, List.cons_append, List.nil_append] at hA); (have hF := hA.facts); (try simp only [facts_cons, facts_nil, facts_cells, facts_old, facts_fact, facts_obj, facts_map, facts_iter, facts_row, and_true, true_and] at hF)))
                        try go_frame
                        (refine wp_region_all (Cl _ _ _) (by kernel_rfl) (by kernel_rfl) (Cl.drew hA) ?_); (have hn1 := Cl.none hA); (have hn2 := Cl.none2 hA); (repeat (first | go_big_quiet_skip | (go_big_quiet_want; (first | (refine quiet_loads_at (ty := 41) (n := 6) rfl rfl (by with_reducible repeat (first | exact Sel.here | apply Sel.there)) (by kernel_rfl) (by kernel_rfl) (by first | assumption | ((try simp only [List.drop_succ_cons, List.drop_zero, List.take_succ_cons, List.take_zero]) <;> exact rfl)) (by exact rfl) ?_; go_frame; go_big_quiet_on) | (refine quiet_load_at rfl rfl (by with_reducible repeat (first | exact Sel.here | apply Sel.there)) (by kernel_rfl) (by first | assumption | exact rfl) ?_; go_frame; go_big_quiet_on) | (go_big_quiet_op; (first | go_big_quiet_on | ((apply Exists.intro); (refine ⟨fun w1 hw => ?_, ?_⟩); (focus ((have hw := Cl.out hw); (fail))); (go_big_quiet_on))))))))
                        (refine wpQuiet_nil ?_); (intro w1 hB); (clear hF hA hn1 hn2); (have hA := Cl.out hB); (clear hB); (try simp only [setL, List.set_cons_zero, List.set_cons_succ, List.cons_append, List.nil_append] at hA); (have hF := hA.facts); (try simp only [facts_cons, facts_nil, facts_cells, facts_old, facts_fact, facts_obj, facts_map, facts_iter, facts_row, and_true, true_and] at hF)
                        go_wp2_with (first | ((with_reducible show wpList _ _ _ ({ dst := _, op := Op.store _ _ _, type := _, pos := _, after := _, guard := _ } :: _) _ _); refine wpList_store_at rfl rfl rfl (by (try simp only [Act.eval, Array.getD_eq_getD_getElem?, List.getElem?_toArray, List.getElem?_cons_succ, List.getElem?_cons_zero, Option.getD_some]) <;> exact rfl) (by exact rfl) hA (by with_reducible repeat (first | exact Sel.here | apply Sel.there)) (by kernel_rfl) rfl (by first | decide | (simp; done) | omega) ?_; intro w1 hB; clear hF hA; have hA := hB; clear hB; (try simp only [setL, List.set_cons_zero, List.set_cons_succ, List.cons_append, List.nil_append] at hA); (have hF := hA.facts); (try simp only [facts_cons, facts_nil, facts_cells, facts_old, facts_fact, facts_obj, facts_map, facts_iter, facts_row, and_true, true_and] at hF)) | ((with_reducible show wpList _ _ _ ({ dst := _, op := Op.box _ _, type := _, pos := _, after := _, guard := _ } :: _) _ _); refine wpList_box_at rfl rfl (by (try simp only [Act.eval, Array.getD_eq_getD_getElem?, List.getElem?_toArray, List.getElem?_cons_succ, List.getElem?_cons_zero, Option.getD_some]) <;> exact rfl) (by exact rfl) hA ?_; intro b1 w1 hB hb1; clear hF hA; have hA := hB; clear hB; (try simp only [setL, List.set_cons_zero, List.set_cons_succ, List.cons_append, List.nil_append] at hA); (have hF := hA.facts); (try simp only [facts_cons, facts_nil, facts_cells, facts_old, facts_fact, facts_obj, facts_map, facts_iter, facts_row, and_true, true_and] at hF)))
                        go_roundg (gk - 1)
                        case measure => omega
                        case rel =>
                          have hS := hA.row_shut (e := 41) (size := 6) (n := al.length) (cap := acap) (xs := flatE al) (by with_reducible repeat (first | exact Sel.here | apply Sel.there)) hgl hgp1 hgm hgt
                          exact ⟨i3 + 1, by simp, by omega, by rw [hmm3.out]; simp, hS.pick (by repeat (first | exact Picks.nil | refine Picks.cons (by repeat (first | exact Sel.here | apply Sel.there)) ?_))⟩
                      | false =>
                        obtain ⟨zb, hzb⟩ : ∃ q, decide (z = y) = q := ⟨_, rfl⟩
                        rw [hzb] at hmm3 heR
                        clear hzb
                        go_wp2_with (first | ((with_reducible show wpList _ _ _ ({ dst := _, op := Op.alloc _, type := _, pos := _, after := _, guard := _ } :: _) _ _); refine wpList_alloc_at (E := 41) (z := .agg #[.string .empty, .int .u64 0, .string .empty, .int .i64 0, .int .u64 0, .int .i64 0]) (vs := [.string .empty, .int .u64 0, .string .empty, .int .i64 0, .int .u64 0, .int .i64 0]) rfl rfl (by kernel_rfl) rfl hA ?_; intro bZ w1 hB hbZ; clear hF hA; have hA := hB; clear hB; (try simp only [setL, List.set_cons_zero, List.set_cons_succ, List.cons_append, List.nil_append] at hA); (have hF := hA.facts); (try simp only [facts_cons, facts_nil, facts_cells, facts_old, facts_fact, facts_obj, facts_map, facts_iter, facts_row, and_true, true_and] at hF)) | ((with_reducible show wpList _ _ _ ({ dst := _, op := Op.store _ _ _, type := _, pos := _, after := _, guard := _ } :: _) _ _); refine wpList_store_at rfl rfl rfl (by (try simp only [Act.eval, Array.getD_eq_getD_getElem?, List.getElem?_toArray, List.getElem?_cons_succ, List.getElem?_cons_zero, Option.getD_some]) <;> exact rfl) (by exact rfl) hA (by with_reducible repeat (first | exact Sel.here | apply Sel.there)) (by kernel_rfl) rfl (by first | decide | (simp; done) | omega) ?_; intro w1 hB; clear hF hA; have hA := hB; clear hB; (try simp only [setL, List.set_cons_zero, List.set_cons_succ, List.cons_append, List.nil_append] at hA); (have hF := hA.facts); (try simp only [facts_cons, facts_nil, facts_cells, facts_old, facts_fact, facts_obj, facts_map, facts_iter, facts_row, and_true, true_and] at hF)) | ((with_reducible show wpList _ _ _ ({ dst := _, op := Op.box _ _, type := _, pos := _, after := _, guard := _ } :: _) _ _); refine wpList_box_at rfl rfl (by (try simp only [Act.eval, Array.getD_eq_getD_getElem?, List.getElem?_toArray, List.getElem?_cons_succ, List.getElem?_cons_zero, Option.getD_some]) <;> exact rfl) (by exact rfl) hA ?_; intro b1 w1 hB hb1; clear hF hA; have hA := hB; clear hB; (try simp only [setL, List.set_cons_zero, List.set_cons_succ, List.cons_append, List.nil_append] at hA); (have hF := hA.facts); (try simp only [facts_cons, facts_nil, facts_cells, facts_old, facts_fact, facts_obj, facts_map, facts_iter, facts_row, and_true, true_and] at hF)))
                        try go_frame
                        (refine wp_region_all (Cl _ _ _) (by kernel_rfl) (by kernel_rfl) (Cl.drew hA) ?_); (have hn1 := Cl.none hA); (have hn2 := Cl.none2 hA); (repeat (first | go_big_quiet_skip | (go_big_quiet_want; (first | (refine quiet_loads_at (ty := 41) (n := 6) rfl rfl (by with_reducible repeat (first | exact Sel.here | apply Sel.there)) (by kernel_rfl) (by kernel_rfl) (by first | assumption | ((try simp only [List.drop_succ_cons, List.drop_zero, List.take_succ_cons, List.take_zero]) <;> exact rfl)) (by exact rfl) ?_; go_frame; go_big_quiet_on) | (refine quiet_loads_at (ty := 45) (n := 6) rfl rfl (by with_reducible repeat (first | exact Sel.here | apply Sel.there)) (by kernel_rfl) (by kernel_rfl) (by first | assumption | ((try simp only [List.drop_succ_cons, List.drop_zero, List.take_succ_cons, List.take_zero]) <;> exact rfl)) (by exact rfl) ?_; go_frame; go_big_quiet_on) | (refine quiet_load_at rfl rfl (by with_reducible repeat (first | exact Sel.here | apply Sel.there)) (by kernel_rfl) (by first | assumption | exact rfl) ?_; go_frame; go_big_quiet_on) | (go_big_quiet_op; (first | go_big_quiet_on | ((apply Exists.intro); (refine ⟨fun w1 hw => ?_, ?_⟩); (focus ((have hw := Cl.out hw); (first | exact through0 hw (hof _)))); (go_big_quiet_on))))))))
                        (refine wpQuiet_nil ?_); (intro w1 hB); (clear hF hA hn1 hn2); (have hA := Cl.out hB); (clear hB); (try simp only [setL, List.set_cons_zero, List.set_cons_succ, List.cons_append, List.nil_append] at hA); (have hF := hA.facts); (try simp only [facts_cons, facts_nil, facts_cells, facts_old, facts_fact, facts_obj, facts_map, facts_iter, facts_row, and_true, true_and] at hF)
                        go_wp2_with (first | ((with_reducible show wpList _ _ _ ({ dst := _, op := Op.store _ _ _, type := _, pos := _, after := _, guard := _ } :: _) _ _); refine wpList_store_at rfl rfl rfl (by (try simp only [Act.eval, Array.getD_eq_getD_getElem?, List.getElem?_toArray, List.getElem?_cons_succ, List.getElem?_cons_zero, Option.getD_some]) <;> exact rfl) (by exact rfl) hA (by with_reducible repeat (first | exact Sel.here | apply Sel.there)) (by kernel_rfl) rfl (by first | decide | (simp; done) | omega) ?_; intro w1 hB; clear hF hA; have hA := hB; clear hB; (try simp only [setL, List.set_cons_zero, List.set_cons_succ, List.cons_append, List.nil_append] at hA); (have hF := hA.facts); (try simp only [facts_cons, facts_nil, facts_cells, facts_old, facts_fact, facts_obj, facts_map, facts_iter, facts_row, and_true, true_and] at hF)) | ((with_reducible show wpList _ _ _ ({ dst := _, op := Op.box _ _, type := _, pos := _, after := _, guard := _ } :: _) _ _); refine wpList_box_at rfl rfl (by (try simp only [Act.eval, Array.getD_eq_getD_getElem?, List.getElem?_toArray, List.getElem?_cons_succ, List.getElem?_cons_zero, Option.getD_some]) <;> exact rfl) (by exact rfl) hA ?_; intro b1 w1 hB hb1; clear hF hA; have hA := hB; clear hB; (try simp only [setL, List.set_cons_zero, List.set_cons_succ, List.cons_append, List.nil_append] at hA); (have hF := hA.facts); (try simp only [facts_cons, facts_nil, facts_cells, facts_old, facts_fact, facts_obj, facts_map, facts_iter, facts_row, and_true, true_and] at hF)))
                        go_roundg (gk - 1)
                        case measure => omega
                        case rel =>
                          have hS := hA.row_shut (e := 41) (size := 6) (n := al.length) (cap := acap) (xs := flatE al) (by with_reducible repeat (first | exact Sel.here | apply Sel.there)) hgl hgp1 hgm hgt
                          exact ⟨i3 + 1, by simp, by omega, by rw [hmm3.out]; simp, hS.pick (by repeat (first | exact Picks.nil | refine Picks.cons (by repeat (first | exact Sel.here | apply Sel.there)) ?_))⟩
                    · have hin : decide (y ∈ al.take i3) = true := by rw [List.take_of_length_le (by omega)]; exact decide_eq_true hym'.out
                      rw [hin]
                      have hF := hA.facts
                      (try simp only [setL, List.set_cons_zero, List.set_cons_succ, List.cons_append, List.nil_append] at hA); (have hF := hA.facts); (try simp only [facts_cons, facts_nil, facts_cells, facts_old, facts_fact, facts_obj, facts_map, facts_iter, facts_row, and_true, true_and] at hF)
                      go_wp2_with (first | ((with_reducible show wpList _ _ _ ({ dst := _, op := Op.store _ _ _, type := _, pos := _, after := _, guard := _ } :: _) _ _); refine wpList_store_at rfl rfl rfl (by (try simp only [Act.eval, Array.getD_eq_getD_getElem?, List.getElem?_toArray, List.getElem?_cons_succ, List.getElem?_cons_zero, Option.getD_some]) <;> exact rfl) (by exact rfl) hA (by with_reducible repeat (first | exact Sel.here | apply Sel.there)) (by kernel_rfl) rfl (by first | decide | (simp; done) | omega) ?_; intro w1 hB; clear hF hA; have hA := hB; clear hB; (try simp only [setL, List.set_cons_zero, List.set_cons_succ, List.cons_append, List.nil_append] at hA); (have hF := hA.facts); (try simp only [facts_cons, facts_nil, facts_cells, facts_old, facts_fact, facts_obj, facts_map, facts_iter, facts_row, and_true, true_and] at hF)) | ((with_reducible show wpList _ _ _ ({ dst := _, op := Op.box _ _, type := _, pos := _, after := _, guard := _ } :: _) _ _); refine wpList_box_at rfl rfl (by (try simp only [Act.eval, Array.getD_eq_getD_getElem?, List.getElem?_toArray, List.getElem?_cons_succ, List.getElem?_cons_zero, Option.getD_some]) <;> exact rfl) (by exact rfl) hA ?_; intro b1 w1 hB hb1; clear hF hA; have hA := hB; clear hB; (try simp only [setL, List.set_cons_zero, List.set_cons_succ, List.cons_append, List.nil_append] at hA); (have hF := hA.facts); (try simp only [facts_cons, facts_nil, facts_cells, facts_old, facts_fact, facts_obj, facts_map, facts_iter, facts_row, and_true, true_and] at hF)))
                      go_roundg (j1 - (i2 + 1))
                      case measure => omega
                      case rel =>
                        have hS := shut_E (L := s.es) (cap := dcap) (g := ge) (c := ce) hA (by with_reducible repeat (first | exact Sel.here | apply Sel.there)) hdl hdp1 hdm hdt
                        exact ⟨i2 + 1, by simp, by omega, by rw [hn2'.out, hwy'.out]; simp, hS.pick (by repeat (first | exact Picks.nil | refine Picks.cons (by repeat (first | exact Sel.here | apply Sel.there)) ?_))⟩
            · have hi2e : i2 = j1 := by omega
              subst hi2e
              have hal2 := hal.out
              rw [← hal2]
              have hgP := fun (w1 : World) (q : Sep [bookS a s] w1) => granted_at q hI'.out (e := x) (by omega) b1 b2 b3 hgn.out
              rw [← hal2] at hgP
              simp only [Ent.val] at hgP
              have han2 := han.out
              subst han2
              clear han hal2
              have hF := hA.facts
              (try simp only [setL, List.set_cons_zero, List.set_cons_succ, List.cons_append, List.nil_append] at hA); (have hF := hA.facts); (try simp only [facts_cons, facts_nil, facts_cells, facts_old, facts_fact, facts_obj, facts_map, facts_iter, facts_row, and_true, true_and] at hF)
              obtain ⟨g0, hg0⟩ : ∃ q, decide (al.length = 0) = q := ⟨_, rfl⟩
              have hg1 : ((al.length : Int) == 0) = g0 := by rw [← hg0, Bool.eq_iff_iff]; simp
              rw [hg0] at hgP
              clear hg0
              cases g0
              all_goals
                go_wp2_with (first | ((with_reducible show wpList _ _ _ ({ dst := _, op := Op.store _ _ _, type := _, pos := _, after := _, guard := _ } :: _) _ _); refine wpList_store_at rfl rfl rfl (by (try simp only [Act.eval, Array.getD_eq_getD_getElem?, List.getElem?_toArray, List.getElem?_cons_succ, List.getElem?_cons_zero, Option.getD_some]) <;> exact rfl) (by exact rfl) hA (by with_reducible repeat (first | exact Sel.here | apply Sel.there)) (by kernel_rfl) rfl (by first | decide | (simp; done) | omega) ?_; intro w1 hB; clear hF hA; have hA := hB; clear hB; (try simp only [setL, List.set_cons_zero, List.set_cons_succ, List.cons_append, List.nil_append] at hA); (have hF := hA.facts); (try simp only [facts_cons, facts_nil, facts_cells, facts_old, facts_fact, facts_obj, facts_map, facts_iter, facts_row, and_true, true_and] at hF)) | ((with_reducible show wpList _ _ _ ({ dst := _, op := Op.box _ _, type := _, pos := _, after := _, guard := _ } :: _) _ _); refine wpList_box_at rfl rfl (by (try simp only [Act.eval, Array.getD_eq_getD_getElem?, List.getElem?_toArray, List.getElem?_cons_succ, List.getElem?_cons_zero, Option.getD_some]) <;> exact rfl) (by exact rfl) hA ?_; intro b1 w1 hB hb1; clear hF hA; have hA := hB; clear hB; (try simp only [setL, List.set_cons_zero, List.set_cons_succ, List.cons_append, List.nil_append] at hA); (have hF := hA.facts); (try simp only [facts_cons, facts_nil, facts_cells, facts_old, facts_fact, facts_obj, facts_map, facts_iter, facts_row, and_true, true_and] at hF)))
                refine (hgP _ (hA.sep1 (A := bookS a s) (by with_reducible repeat (first | exact Sel.here | apply Sel.there)))).mono ?_
                clear hgP
                rintro e w1 ⟨rfl, hT⟩; have hB := hA.call1 (by with_reducible repeat (first | exact Sel.here | apply Sel.there)) hT; clear hF hA hT; have hA := hB; clear hB; (try simp only [setL, List.set_cons_zero, List.set_cons_succ, List.cons_append, List.nil_append] at hA); (have hF := hA.facts); (try simp only [facts_cons, facts_nil, facts_cells, facts_old, facts_fact, facts_obj, facts_map, facts_iter, facts_row, and_true, true_and] at hF)
                go_wp2_with (first | ((with_reducible show wpList _ _ _ ({ dst := _, op := Op.store _ _ _, type := _, pos := _, after := _, guard := _ } :: _) _ _); refine wpList_store_at rfl rfl rfl (by (try simp only [Act.eval, Array.getD_eq_getD_getElem?, List.getElem?_toArray, List.getElem?_cons_succ, List.getElem?_cons_zero, Option.getD_some]) <;> exact rfl) (by exact rfl) hA (by with_reducible repeat (first | exact Sel.here | apply Sel.there)) (by kernel_rfl) rfl (by first | decide | (simp; done) | omega) ?_; intro w1 hB; clear hF hA; have hA := hB; clear hB; (try simp only [setL, List.set_cons_zero, List.set_cons_succ, List.cons_append, List.nil_append] at hA); (have hF := hA.facts); (try simp only [facts_cons, facts_nil, facts_cells, facts_old, facts_fact, facts_obj, facts_map, facts_iter, facts_row, and_true, true_and] at hF)) | ((with_reducible show wpList _ _ _ ({ dst := _, op := Op.box _ _, type := _, pos := _, after := _, guard := _ } :: _) _ _); refine wpList_box_at rfl rfl (by (try simp only [Act.eval, Array.getD_eq_getD_getElem?, List.getElem?_toArray, List.getElem?_cons_succ, List.getElem?_cons_zero, Option.getD_some]) <;> exact rfl) (by exact rfl) hA ?_; intro b1 w1 hB hb1; clear hF hA; have hA := hB; clear hB; (try simp only [setL, List.set_cons_zero, List.set_cons_succ, List.cons_append, List.nil_append] at hA); (have hF := hA.facts); (try simp only [facts_cons, facts_nil, facts_cells, facts_old, facts_fact, facts_obj, facts_map, facts_iter, facts_row, and_true, true_and] at hF)))
                try go_frame
                clear hg1
                go_loopg [128] al.length (GoRel w a bE s (.slice ax al.length acap) al x)
                case atStart => exact ⟨0, rfl, by simp, by rw [List.take_zero]; exact hA.pick (by repeat (first | exact Picks.nil | refine Picks.cons (by repeat (first | exact Sel.here | apply Sel.there)) ?_))⟩
                case round =>
                  obtain ⟨i4, rfl, hik4, hB⟩ := hrel
                  clear hF hA
                  have hA := hB
                  clear hB
                  have hIg := Lib.hid (gone_inv hI'.out (al.take i4))
                  by_cases hi4 : i4 < al.length
                  · have hgm4 := Lib.hid (gone_more s al hi4)
                    have hzs := hale.out _ (List.getElem_mem hi4)
                    have z1 := hI'.out.num0 _ hzs
                    have z2 := hI'.out.num1 _ hzs
                    have z3 := hI'.out.foot _ hzs
                    have z4 := hI'.out.path _ hzs
                    obtain ⟨g3, c3, rfl, hgp1, hgm, hgl, hgt, hB⟩ := hA.row_open (ax := ax) (cap := acap) (n := al.length) (xs := flatE al) (by with_reducible repeat (first | exact Sel.here | apply Sel.there)) (by omega)
                    have hx : al[i4]? = some al[i4] := List.getElem?_eq_getElem hi4
                    have d0 : c3[i4 * 6]? = some (.string al[i4].path) := cells_at Ent.cells_len hgt hx 0 (by omega)
                    have d1 : c3[i4 * 6 + 1]? = some (.int .u64 al[i4].num) := cells_at Ent.cells_len hgt hx 1 (by omega)
                    have d2 : c3[i4 * 6 + 2]? = some (.string al[i4].foot) := cells_at Ent.cells_len hgt hx 2 (by omega)
                    have d3 : c3[i4 * 6 + 3]? = some (.int .i64 al[i4].mode) := cells_at Ent.cells_len hgt hx 3 (by omega)
                    have d4 : c3[i4 * 6 + 4]? = some (.int .u64 al[i4].n) := cells_at Ent.cells_len hgt hx 4 (by omega)
                    have d5 : c3[i4 * 6 + 5]? = some (.int .i64 al[i4].stamp) := cells_at Ent.cells_len hgt hx 5 (by omega)
                    obtain ⟨z, hzi⟩ : ∃ z, al[i4] = z := ⟨_, rfl⟩
                    simp only [hzi] at d0 d1 d2 d3 d4 d5 hgm4 hzs z1 z2 z3 z4
                    clear hA hx hzi hzs
                    have hA := hB
                    clear hB
                    generalize goneS s (al.take i4) = s4 at *
                    have hF := hA.facts
                    (try simp only [setL, List.set_cons_zero, List.set_cons_succ, List.cons_append, List.nil_append] at hA); (have hF := hA.facts); (try simp only [facts_cons, facts_nil, facts_cells, facts_old, facts_fact, facts_obj, facts_map, facts_iter, facts_row, and_true, true_and] at hF)
                    go_wp2_with (first | ((with_reducible show wpList _ _ _ ({ dst := _, op := Op.alloc _, type := _, pos := _, after := _, guard := _ } :: _) _ _); refine wpList_alloc_at (E := 41) (z := .agg #[.string .empty, .int .u64 0, .string .empty, .int .i64 0, .int .u64 0, .int .i64 0]) (vs := [.string .empty, .int .u64 0, .string .empty, .int .i64 0, .int .u64 0, .int .i64 0]) rfl rfl (by kernel_rfl) rfl hA ?_; intro bZ w1 hB hbZ; clear hF hA; have hA := hB; clear hB; (try simp only [setL, List.set_cons_zero, List.set_cons_succ, List.cons_append, List.nil_append] at hA); (have hF := hA.facts); (try simp only [facts_cons, facts_nil, facts_cells, facts_old, facts_fact, facts_obj, facts_map, facts_iter, facts_row, and_true, true_and] at hF)) | ((with_reducible show wpList _ _ _ ({ dst := _, op := Op.store _ _ _, type := _, pos := _, after := _, guard := _ } :: _) _ _); refine wpList_store_at rfl rfl rfl (by (try simp only [Act.eval, Array.getD_eq_getD_getElem?, List.getElem?_toArray, List.getElem?_cons_succ, List.getElem?_cons_zero, Option.getD_some]) <;> exact rfl) (by exact rfl) hA (by with_reducible repeat (first | exact Sel.here | apply Sel.there)) (by kernel_rfl) rfl (by first | decide | (simp; done) | omega) ?_; intro w1 hB; clear hF hA; have hA := hB; clear hB; (try simp only [setL, List.set_cons_zero, List.set_cons_succ, List.cons_append, List.nil_append] at hA); (have hF := hA.facts); (try simp only [facts_cons, facts_nil, facts_cells, facts_old, facts_fact, facts_obj, facts_map, facts_iter, facts_row, and_true, true_and] at hF)) | ((with_reducible show wpList _ _ _ ({ dst := _, op := Op.box _ _, type := _, pos := _, after := _, guard := _ } :: _) _ _); refine wpList_box_at rfl rfl (by (try simp only [Act.eval, Array.getD_eq_getD_getElem?, List.getElem?_toArray, List.getElem?_cons_succ, List.getElem?_cons_zero, Option.getD_some]) <;> exact rfl) (by exact rfl) hA ?_; intro b1 w1 hB hb1; clear hF hA; have hA := hB; clear hB; (try simp only [setL, List.set_cons_zero, List.set_cons_succ, List.cons_append, List.nil_append] at hA); (have hF := hA.facts); (try simp only [facts_cons, facts_nil, facts_cells, facts_old, facts_fact, facts_obj, facts_map, facts_iter, facts_row, and_true, true_and] at hF)))
                    have hrm := remove_at (p := z.path) (n := z.num) (f := z.foot) (hA.sep1 (A := bookS a s4) (by with_reducible repeat (first | exact Sel.here | apply Sel.there))) (by omega) z1 z2 z3
                    generalize (if (find s4.es z.path z.num z.foot).isSome = true then (0 : Int) else 52) = rv at hrm
                    refine hrm.mono ?_
                    clear hrm
                    rintro e w5 ⟨rfl, hT⟩
                    have hB := hA.call1 (A := bookS a s4) (by with_reducible repeat (first | exact Sel.here | apply Sel.there)) hT
                    clear hF hA hT
                    have hA := hB
                    clear hB
                    rw [← hgm4.out] at hA
                    (try simp only [setL, List.set_cons_zero, List.set_cons_succ, List.cons_append, List.nil_append] at hA); (have hF := hA.facts); (try simp only [facts_cons, facts_nil, facts_cells, facts_old, facts_fact, facts_obj, facts_map, facts_iter, facts_row, and_true, true_and] at hF)
                    go_wp2_with (first | ((with_reducible show wpList _ _ _ ({ dst := _, op := Op.store _ _ _, type := _, pos := _, after := _, guard := _ } :: _) _ _); refine wpList_store_at rfl rfl rfl (by (try simp only [Act.eval, Array.getD_eq_getD_getElem?, List.getElem?_toArray, List.getElem?_cons_succ, List.getElem?_cons_zero, Option.getD_some]) <;> exact rfl) (by exact rfl) hA (by with_reducible repeat (first | exact Sel.here | apply Sel.there)) (by kernel_rfl) rfl (by first | decide | (simp; done) | omega) ?_; intro w1 hB; clear hF hA; have hA := hB; clear hB; (try simp only [setL, List.set_cons_zero, List.set_cons_succ, List.cons_append, List.nil_append] at hA); (have hF := hA.facts); (try simp only [facts_cons, facts_nil, facts_cells, facts_old, facts_fact, facts_obj, facts_map, facts_iter, facts_row, and_true, true_and] at hF)) | ((with_reducible show wpList _ _ _ ({ dst := _, op := Op.box _ _, type := _, pos := _, after := _, guard := _ } :: _) _ _); refine wpList_box_at rfl rfl (by (try simp only [Act.eval, Array.getD_eq_getD_getElem?, List.getElem?_toArray, List.getElem?_cons_succ, List.getElem?_cons_zero, Option.getD_some]) <;> exact rfl) (by exact rfl) hA ?_; intro b1 w1 hB hb1; clear hF hA; have hA := hB; clear hB; (try simp only [setL, List.set_cons_zero, List.set_cons_succ, List.cons_append, List.nil_append] at hA); (have hF := hA.facts); (try simp only [facts_cons, facts_nil, facts_cells, facts_old, facts_fact, facts_obj, facts_map, facts_iter, facts_row, and_true, true_and] at hF)))
                    go_roundg (gk - 1)
                    case measure => omega
                    case rel =>
                      have hS := hA.row_shut (e := 41) (size := 6) (n := al.length) (cap := acap) (xs := flatE al) (by with_reducible repeat (first | exact Sel.here | apply Sel.there)) hgl hgp1 hgm hgt
                      exact ⟨i4 + 1, by simp, by omega, hS.pick (by repeat (first | exact Picks.nil | refine Picks.cons (by repeat (first | exact Sel.here | apply Sel.there)) ?_))⟩
                  · have hIg2 := hIg.out
                    rw [List.take_of_length_le (by omega)] at hA hIg2
                    have hgl := halg.out
                    generalize goneS s al = s4 at *
                    have hI4 := Lib.hid hIg2
                    clear hIg2
                    have hgP := fun (w1 : World) (q : Sep [bookS a s4] w1) => granted_at q hI4.out (e := x) (by omega) b1 b2 b3 hgl
                    simp only [Ent.val] at hgP
                    have hF := hA.facts
                    (try simp only [setL, List.set_cons_zero, List.set_cons_succ, List.cons_append, List.nil_append] at hA); (have hF := hA.facts); (try simp only [facts_cons, facts_nil, facts_cells, facts_old, facts_fact, facts_obj, facts_map, facts_iter, facts_row, and_true, true_and] at hF)
                    go_wp2_with (first | ((with_reducible show wpList _ _ _ ({ dst := _, op := Op.store _ _ _, type := _, pos := _, after := _, guard := _ } :: _) _ _); refine wpList_store_at rfl rfl rfl (by (try simp only [Act.eval, Array.getD_eq_getD_getElem?, List.getElem?_toArray, List.getElem?_cons_succ, List.getElem?_cons_zero, Option.getD_some]) <;> exact rfl) (by exact rfl) hA (by with_reducible repeat (first | exact Sel.here | apply Sel.there)) (by kernel_rfl) rfl (by first | decide | (simp; done) | omega) ?_; intro w1 hB; clear hF hA; have hA := hB; clear hB; (try simp only [setL, List.set_cons_zero, List.set_cons_succ, List.cons_append, List.nil_append] at hA); (have hF := hA.facts); (try simp only [facts_cons, facts_nil, facts_cells, facts_old, facts_fact, facts_obj, facts_map, facts_iter, facts_row, and_true, true_and] at hF)) | ((with_reducible show wpList _ _ _ ({ dst := _, op := Op.box _ _, type := _, pos := _, after := _, guard := _ } :: _) _ _); refine wpList_box_at rfl rfl (by (try simp only [Act.eval, Array.getD_eq_getD_getElem?, List.getElem?_toArray, List.getElem?_cons_succ, List.getElem?_cons_zero, Option.getD_some]) <;> exact rfl) (by exact rfl) hA ?_; intro b1 w1 hB hb1; clear hF hA; have hA := hB; clear hB; (try simp only [setL, List.set_cons_zero, List.set_cons_succ, List.cons_append, List.nil_append] at hA); (have hF := hA.facts); (try simp only [facts_cons, facts_nil, facts_cells, facts_old, facts_fact, facts_obj, facts_map, facts_iter, facts_row, and_true, true_and] at hF)))
                    refine (hgP _ (hA.sep1 (A := bookS a s4) (by with_reducible repeat (first | exact Sel.here | apply Sel.there)))).mono ?_
                    rintro e w1 ⟨rfl, hT⟩; have hB := hA.call1 (by with_reducible repeat (first | exact Sel.here | apply Sel.there)) hT; clear hF hA hT; have hA := hB; clear hB; (try simp only [setL, List.set_cons_zero, List.set_cons_succ, List.cons_append, List.nil_append] at hA); (have hF := hA.facts); (try simp only [facts_cons, facts_nil, facts_cells, facts_old, facts_fact, facts_obj, facts_map, facts_iter, facts_row, and_true, true_and] at hF)
                    go_wp2_with (first | ((with_reducible show wpList _ _ _ ({ dst := _, op := Op.store _ _ _, type := _, pos := _, after := _, guard := _ } :: _) _ _); refine wpList_store_at rfl rfl rfl (by (try simp only [Act.eval, Array.getD_eq_getD_getElem?, List.getElem?_toArray, List.getElem?_cons_succ, List.getElem?_cons_zero, Option.getD_some]) <;> exact rfl) (by exact rfl) hA (by with_reducible repeat (first | exact Sel.here | apply Sel.there)) (by kernel_rfl) rfl (by first | decide | (simp; done) | omega) ?_; intro w1 hB; clear hF hA; have hA := hB; clear hB; (try simp only [setL, List.set_cons_zero, List.set_cons_succ, List.cons_append, List.nil_append] at hA); (have hF := hA.facts); (try simp only [facts_cons, facts_nil, facts_cells, facts_old, facts_fact, facts_obj, facts_map, facts_iter, facts_row, and_true, true_and] at hF)) | ((with_reducible show wpList _ _ _ ({ dst := _, op := Op.box _ _, type := _, pos := _, after := _, guard := _ } :: _) _ _); refine wpList_box_at rfl rfl (by (try simp only [Act.eval, Array.getD_eq_getD_getElem?, List.getElem?_toArray, List.getElem?_cons_succ, List.getElem?_cons_zero, Option.getD_some]) <;> exact rfl) (by exact rfl) hA ?_; intro b1 w1 hB hb1; clear hF hA; have hA := hB; clear hB; (try simp only [setL, List.set_cons_zero, List.set_cons_succ, List.cons_append, List.nil_append] at hA); (have hF := hA.facts); (try simp only [facts_cons, facts_nil, facts_cells, facts_old, facts_fact, facts_obj, facts_map, facts_iter, facts_row, and_true, true_and] at hF)))
                    go_ret
                    exact ⟨rfl, below_old hA (by with_reducible repeat (first | exact Sel.here | apply Sel.there))⟩
end Go.Proofs.YtnkddjomanaadaaGreatDoor.Lock
end
