/- StuK, joined. -/
import Derived.Test.YtnkddjomanaadaaGreatDoorK29
section
namespace Go.Proofs.YtnkddjomanaadaaGreatDoor.Lock
open Go.RowKit
open Go.Maps (Keyed)
open Path (bl)
open _root_.Go.Proofs.YtnkddjomanaadaaGreatDoor.Sess (seV seL sortS)
set_option linter.unusedSimpArgs false
set_option linter.unusedVariables false
attribute [-go_sem] run_eql_struct run_neq_struct run_eqGuard_agg
attribute [local go_sem] guardS eqlS

theorem list_same {es l m : List Ent} (h1 : l.Perm es) (h2 : l.Pairwise ltE) (h3 : m.Perm es) (h4 : m.Pairwise ltE) : m = l :=
  List.Perm.eq_of_pairwise (le := ltE) (fun a b _ _ x y => absurd (ltE_trans x y) (ltE_irrefl a)) h4 h2 (h3.trans h1.symm)
theorem okE {s : S3} {k : Nat} (h : Inv s k) {e : Ent} (he : e ∈ s.es) : okS (sesOf e) := ⟨h.num0 e he, h.num1 e he, h.foot e he⟩
theorem entsN_mid (l1 l2 : List NE) (x : Ses) (v : Value) (l : List Ses) : entsN (l1 ++ ⟨x, v, l⟩ :: l2) = entsN l1 ++ (seV x, v) :: entsN l2 := by simp [entsN, entN]
theorem entsN_snoc (N : List NE) (x : Ses) (v : Value) (l : List Ses) : entsN N ++ [(seV x, v)] = entsN (N ++ [⟨x, v, l⟩]) := by simp [entsN, entN]
/-- the pairs so far -/
def pairsK (e : Ent) (zs : List Ent) : List (Ses × Ses) := zs.map (fun a => (sesOf e, sesOf a))
theorem edges_step (l m : List Ent) {i : Nat} (hi : i < l.length) : edgesOf (l.take (i + 1)) m = edgesOf (l.take i) m ++ pairsK l[i] (keepF (offF l[i]) m) := by
  rw [List.take_succ_eq_append_getElem hi, edges_snoc]; rfl
theorem pairs_step (e : Ent) (zs : List Ent) {j : Nat} (hj : j < zs.length) : pairsK e (zs.take (j + 1)) = pairsK e (zs.take j) ++ [(sesOf e, sesOf zs[j])] := by
  unfold pairsK
  rw [List.take_succ_eq_append_getElem hj, List.map_append]; rfl
def SkRel (w : World) (a : Pl) (s : S3) (m : Nat) (vl : Value) (l : List Ent) (k : Nat) (u : Value) (wr : World) : Prop :=
  ∃ (i : Nat) (N : List NE), u = .int .i64 i ∧ i + k = l.length ∧ NextIs (edgesOf (l.take i) l) N ∧ At [bookS a s] w [rowL vl l, mapN m (entsN N), restN N, bookS a s] wr
def SkIn (w : World) (a : Pl) (s : S3) (m g bE : Nat) (c : List Value) (l : List Ent) (e : Ent) (E0 : List (Ses × Ses)) (va : Value) (al : List Ent) (k : Nat) (u : Value) (wr : World) : Prop :=
  ∃ (j : Nat) (N : List NE), u = .int .i64 j ∧ j + k = al.length ∧ NextIs (E0 ++ pairsK e (al.take j)) N ∧ At [bookS a s] w [rowH va al, cloP bE e, Part.cells g c 41, mapN m (entsN N), restN N, bookS a s] wr
/-- those that were looked at, and are stuck -/
def SkOut (w : World) (a : Pl) (s : S3) (r m : Nat) (E : List (Ses × Ses)) (N : List NE) (k : Nat) (u : Value) (wr : World) : Prop :=
  ∃ (D : List NE) (out : List Ses), D.length + k = N.length ∧ (∀ e ∈ D, e ∈ N) ∧ out.length ≤ D.length ∧ (∀ x, x ∈ out ↔ (Conn E x x ∧ ∃ e ∈ D, e.key = x)) ∧ At [bookS a s] w [Part.iter Tryz.prog 33 r m (entsN N) (entsN D), rowQ u out, restN N, bookS a s] wr
def StuckPost (w : World) (a : Pl) (s : S3) (o : Ending) (w' : World) : Prop := ∃ (v : Value) (ss : List Ses), o = .returned v ∧ (∀ x, x ∈ ss ↔ Conn (edgesOf s.es s.es) x x) ∧ ss.length ≤ 1000000 ∧ At [bookS a s] w [rowQ v ss, bookS a s] w'
set_option maxRecDepth 100000 in
set_option maxHeartbeats 8000000 in
theorem stuck_any {w : World} {a : Pl} {s : S3} {kI : Nat} (h : Sep [bookS a s] w) (hI : Inv s kI) (hk : kI ≤ 40) :
    Calls Tryz.prog 20 #[.pointer (some ⟨a.p, 0, none⟩)] w (StuckPost w a s) := by
  obtain ⟨i0, hi0, hz0, hz1, hz2⟩ := info_parts infoQ
  have hA := At.start h
  have hF := hA.facts
  clear h
  have hlen := hI.len
  have hI' := Lib.hid hI
  clear hI
  (try simp only [setL, List.set_cons_zero, List.set_cons_succ, List.cons_append, List.nil_append] at hA); (have hF := hA.facts); (try simp only [facts_cons, facts_nil, facts_cells, facts_old, facts_fact, facts_obj, facts_map, facts_iter, facts_row, facts_stamp, and_true, true_and] at hF)
  go_enter Tryz.func20, Tryz.ntmps20
  go_wp2_with (first
    | (refine wpList_makeMap_at Tryz.prog 33 rfl rfl hA ?_; intro m w1 hB hm1; clear hF hA; have hA := hB; clear hB; (try simp only [setL, List.set_cons_zero, List.set_cons_succ, List.cons_append, List.nil_append] at hA); (have hF := hA.facts); (try simp only [facts_cons, facts_nil, facts_cells, facts_old, facts_fact, facts_obj, facts_map, facts_iter, facts_row, facts_stamp, and_true, true_and] at hF))
    | ((with_reducible show wpList _ _ _ ({ dst := _, op := Op.store _ _ _, type := _, pos := _, after := _, guard := _ } :: _) _ _); refine wpList_store_at rfl rfl rfl (by (try simp only [Act.eval, Array.getD_eq_getD_getElem?, List.getElem?_toArray, List.getElem?_cons_succ, List.getElem?_cons_zero, Option.getD_some]) <;> exact rfl) (by exact rfl) hA (by with_reducible repeat (first | exact Sel.here | apply Sel.there)) (by kernel_rfl) rfl (by first | decide | (simp; done) | omega) ?_; intro w1 hB; clear hF hA; have hA := hB; clear hB; (try simp only [setL, List.set_cons_zero, List.set_cons_succ, List.cons_append, List.nil_append] at hA); (have hF := hA.facts); (try simp only [facts_cons, facts_nil, facts_cells, facts_old, facts_fact, facts_obj, facts_map, facts_iter, facts_row, facts_stamp, and_true, true_and] at hF)) | ((with_reducible show wpList _ _ _ ({ dst := _, op := Op.box _ _, type := _, pos := _, after := _, guard := _ } :: _) _ _); refine wpList_box_at rfl rfl (by (try simp only [Act.eval, Array.getD_eq_getD_getElem?, List.getElem?_toArray, List.getElem?_cons_succ, List.getElem?_cons_zero, Option.getD_some]) <;> exact rfl) (by exact rfl) hA ?_; intro b1 w1 hB hb1; clear hF hA; have hA := hB; clear hB; (try simp only [setL, List.set_cons_zero, List.set_cons_succ, List.cons_append, List.nil_append] at hA); (have hF := hA.facts); (try simp only [facts_cons, facts_nil, facts_cells, facts_old, facts_fact, facts_obj, facts_map, facts_iter, facts_row, facts_stamp, and_true, true_and] at hF)))
  refine (list_at (hA.sep1 (A := bookS a s) (by with_reducible repeat (first | exact Sel.here | apply Sel.there))) hI'.out (by omega)).mono ?_
  rintro e w3 ⟨vl, l, rfl, hperm, hpw, hT⟩
  have hB := nilN (hA.call1 (A := bookS a s) (by with_reducible repeat (first | exact Sel.here | apply Sel.there)) hT)
  have hll := hperm.length_eq
  have hpe := Lib.hid hperm
  have hpw' := Lib.hid hpw
  clear hF hA hT hperm hpw
  have hA := hB
  clear hB
  simp only [List.cons_append, List.nil_append] at hA
  obtain ⟨lx, lcap, rfl, hlx, hlcap, _⟩ := hA.row_form (v := vl) (n := l.length) (xs := l.flatMap Ent.cells) (by with_reducible repeat (first | exact Sel.here | apply Sel.there))
  have hlb : l.length ≤ 40 := by omega
  clear hll hlen
  have hok := Lib.hid (show ∀ e ∈ l, okS (sesOf e) from fun e he => okE hI'.out (hpe.out.mem_iff.1 he))
  have hF := hA.facts
  (try simp only [setL, List.set_cons_zero, List.set_cons_succ, List.cons_append, List.nil_append] at hA); (have hF := hA.facts); (try simp only [facts_cons, facts_nil, facts_cells, facts_old, facts_fact, facts_obj, facts_map, facts_iter, facts_row, facts_stamp, and_true, true_and] at hF)
  go_wp2_with (first | ((with_reducible show wpList _ _ _ ({ dst := _, op := Op.store _ _ _, type := _, pos := _, after := _, guard := _ } :: _) _ _); refine wpList_store_at rfl rfl rfl (by (try simp only [Act.eval, Array.getD_eq_getD_getElem?, List.getElem?_toArray, List.getElem?_cons_succ, List.getElem?_cons_zero, Option.getD_some]) <;> exact rfl) (by exact rfl) hA (by with_reducible repeat (first | exact Sel.here | apply Sel.there)) (by kernel_rfl) rfl (by first | decide | (simp; done) | omega) ?_; intro w1 hB; clear hF hA; have hA := hB; clear hB; (try simp only [setL, List.set_cons_zero, List.set_cons_succ, List.cons_append, List.nil_append] at hA); (have hF := hA.facts); (try simp only [facts_cons, facts_nil, facts_cells, facts_old, facts_fact, facts_obj, facts_map, facts_iter, facts_row, facts_stamp, and_true, true_and] at hF)) | ((with_reducible show wpList _ _ _ ({ dst := _, op := Op.box _ _, type := _, pos := _, after := _, guard := _ } :: _) _ _); refine wpList_box_at rfl rfl (by (try simp only [Act.eval, Array.getD_eq_getD_getElem?, List.getElem?_toArray, List.getElem?_cons_succ, List.getElem?_cons_zero, Option.getD_some]) <;> exact rfl) (by exact rfl) hA ?_; intro b1 w1 hB hb1; clear hF hA; have hA := hB; clear hB; (try simp only [setL, List.set_cons_zero, List.set_cons_succ, List.cons_append, List.nil_append] at hA); (have hF := hA.facts); (try simp only [facts_cons, facts_nil, facts_cells, facts_old, facts_fact, facts_obj, facts_map, facts_iter, facts_row, facts_stamp, and_true, true_and] at hF)))
  try go_frame
  go_loopg [14] l.length (SkRel w a s m (.slice lx l.length lcap) l)
  case atStart => exact ⟨0, [], rfl, by simp, by simpa [edgesOf] using next_none, hA.pick (by repeat (first | exact Picks.nil | refine Picks.cons (by repeat (first | exact Sel.here | apply Sel.there)) ?_))⟩
  case round =>
    obtain ⟨i, N, rfl, hik, hN, hB⟩ := hrel
    have hN' := Lib.hid hN
    clear hF hA hN
    have hA := hB
    clear hB
    by_cases hi : i < l.length
    · have hst := Lib.hid (edges_step l l hi)
      have hxl := Lib.hid (List.getElem_mem hi)
      have hxs := hI'.out.path _ (hpe.out.mem_iff.1 hxl.out)
      have hox := hok.out _ hxl.out
      obtain ⟨g, c, rfl, hcp1, hcm, hcl, hct, hB⟩ := hA.row_open (ax := lx) (cap := lcap) (n := l.length) (xs := l.flatMap Ent.cells) (by with_reducible repeat (first | exact Sel.here | apply Sel.there)) (by omega)
      have hx : l[i]? = some l[i] := List.getElem?_eq_getElem hi
      (have c0 : c[i * 6]? = some (.string l[i].path) := cells_at Ent.cells_len hct hx 0 (by omega)); (have c1 : c[i * 6 + 1]? = some (.int .u64 l[i].num) := cells_at Ent.cells_len hct hx 1 (by omega)); (have c2 : c[i * 6 + 2]? = some (.string l[i].foot) := cells_at Ent.cells_len hct hx 2 (by omega)); (have c3 : c[i * 6 + 3]? = some (.int .i64 l[i].mode) := cells_at Ent.cells_len hct hx 3 (by omega)); (have c4 : c[i * 6 + 4]? = some (.int .u64 l[i].n) := cells_at Ent.cells_len hct hx 4 (by omega)); (have c5 : c[i * 6 + 5]? = some (.int .i64 l[i].stamp) := cells_at Ent.cells_len hct hx 5 (by omega))
      obtain ⟨x, hxi⟩ : ∃ x, l[i] = x := ⟨_, rfl⟩
      simp only [hxi] at c0 c1 c2 c3 c4 c5 hst hxl hxs hox
      clear hA hxi hx
      have hA := hB
      clear hB
      have hF := hA.facts
      (try simp only [setL, List.set_cons_zero, List.set_cons_succ, List.cons_append, List.nil_append] at hA); (have hF := hA.facts); (try simp only [facts_cons, facts_nil, facts_cells, facts_old, facts_fact, facts_obj, facts_map, facts_iter, facts_row, facts_stamp, and_true, true_and] at hF)
      go_wp2_with (first | ((with_reducible show wpList _ _ _ ({ dst := _, op := Op.alloc _, type := _, pos := _, after := _, guard := _ } :: _) _ _); refine wpList_alloc_at (E := 41) (z := .agg #[.string .empty, .int .u64 0, .string .empty, .int .i64 0, .int .u64 0, .int .i64 0]) (vs := [.string .empty, .int .u64 0, .string .empty, .int .i64 0, .int .u64 0, .int .i64 0]) rfl rfl (by kernel_rfl) rfl hA ?_; intro bE w1 hB hbE; clear hF hA; have hA := hB; clear hB; (try simp only [setL, List.set_cons_zero, List.set_cons_succ, List.cons_append, List.nil_append] at hA); (have hF := hA.facts); (try simp only [facts_cons, facts_nil, facts_cells, facts_old, facts_fact, facts_obj, facts_map, facts_iter, facts_row, facts_stamp, and_true, true_and] at hF)) | ((with_reducible show wpList _ _ _ ({ dst := _, op := Op.store _ _ _, type := _, pos := _, after := _, guard := _ } :: _) _ _); refine wpList_store_at rfl rfl rfl (by (try simp only [Act.eval, Array.getD_eq_getD_getElem?, List.getElem?_toArray, List.getElem?_cons_succ, List.getElem?_cons_zero, Option.getD_some]) <;> exact rfl) (by exact rfl) hA (by with_reducible repeat (first | exact Sel.here | apply Sel.there)) (by kernel_rfl) rfl (by first | decide | (simp; done) | omega) ?_; intro w1 hB; clear hF hA; have hA := hB; clear hB; (try simp only [setL, List.set_cons_zero, List.set_cons_succ, List.cons_append, List.nil_append] at hA); (have hF := hA.facts); (try simp only [facts_cons, facts_nil, facts_cells, facts_old, facts_fact, facts_obj, facts_map, facts_iter, facts_row, facts_stamp, and_true, true_and] at hF)) | ((with_reducible show wpList _ _ _ ({ dst := _, op := Op.box _ _, type := _, pos := _, after := _, guard := _ } :: _) _ _); refine wpList_box_at rfl rfl (by (try simp only [Act.eval, Array.getD_eq_getD_getElem?, List.getElem?_toArray, List.getElem?_cons_succ, List.getElem?_cons_zero, Option.getD_some]) <;> exact rfl) (by exact rfl) hA ?_; intro b1 w1 hB hb1; clear hF hA; have hA := hB; clear hB; (try simp only [setL, List.set_cons_zero, List.set_cons_succ, List.cons_append, List.nil_append] at hA); (have hF := hA.facts); (try simp only [facts_cons, facts_nil, facts_cells, facts_old, facts_fact, facts_obj, facts_map, facts_iter, facts_row, facts_stamp, and_true, true_and] at hF)))
      have haP := ahead_at (x := x) (hA.sep1 (A := bookS a s) (by with_reducible repeat (first | exact Sel.here | apply Sel.there))) hI'.out (by omega) (by omega)
      simp only [Ent.val] at haP
      refine haP.mono ?_
      clear haP
      rintro e w4 ⟨va, l2, rfl, hperm2, hpw2, hT⟩
      have hB := hA.call1 (A := bookS a s) (by with_reducible repeat (first | exact Sel.here | apply Sel.there)) hT
      have hl2 := list_same hpe.out hpw'.out hperm2 hpw2
      subst hl2
      have hal : (keepF (offF x) l2).length ≤ 40 := by have := keepF_len (offF x) l2; omega
      have hale := Lib.hid (show ∀ y ∈ keepF (offF x) l2, y ∈ l2 from fun y hy => (ahead_mem.1 hy).1)
      clear hF hA hT hperm2 hpw2 c0 c1 c2 c3 c4 c5
      have hA := hB
      clear hB
      simp only [List.cons_append, List.nil_append] at hA
      obtain ⟨al, hald⟩ : ∃ z, keepF (offF x) l2 = z := ⟨_, rfl⟩
      rw [hald] at hA hal hale hst
      clear hald
      obtain ⟨ax, an, acap, hav, han⟩ := hA.row_hid (v := va) (n := al.length) (xs := flatE al) (by with_reducible repeat (first | exact Sel.here | apply Sel.there))
      subst hav
      have han2 := han.out
      subst han2
      clear han
      obtain ⟨E0, hE0⟩ : ∃ z, edgesOf (l2.take i) l2 = z := ⟨_, rfl⟩
      rw [hE0] at hN' hst
      have hE0l : E0.length ≤ 1600 := by
        rw [← hE0]
        refine Nat.le_trans (edges_len _ _) ?_
        have := List.length_take_le i l2
        exact Nat.le_trans (Nat.mul_le_mul (show _ ≤ 40 by omega) hlb) (by omega)
      clear hE0
      have hF := hA.facts
      (try simp only [setL, List.set_cons_zero, List.set_cons_succ, List.cons_append, List.nil_append] at hA); (have hF := hA.facts); (try simp only [facts_cons, facts_nil, facts_cells, facts_old, facts_fact, facts_obj, facts_map, facts_iter, facts_row, facts_stamp, and_true, true_and] at hF)
      go_wp2_with (first | ((with_reducible show wpList _ _ _ ({ dst := _, op := Op.store _ _ _, type := _, pos := _, after := _, guard := _ } :: _) _ _); refine wpList_store_at rfl rfl rfl (by (try simp only [Act.eval, Array.getD_eq_getD_getElem?, List.getElem?_toArray, List.getElem?_cons_succ, List.getElem?_cons_zero, Option.getD_some]) <;> exact rfl) (by exact rfl) hA (by with_reducible repeat (first | exact Sel.here | apply Sel.there)) (by kernel_rfl) rfl (by first | decide | (simp; done) | omega) ?_; intro w1 hB; clear hF hA; have hA := hB; clear hB; (try simp only [setL, List.set_cons_zero, List.set_cons_succ, List.cons_append, List.nil_append] at hA); (have hF := hA.facts); (try simp only [facts_cons, facts_nil, facts_cells, facts_old, facts_fact, facts_obj, facts_map, facts_iter, facts_row, facts_stamp, and_true, true_and] at hF)) | ((with_reducible show wpList _ _ _ ({ dst := _, op := Op.box _ _, type := _, pos := _, after := _, guard := _ } :: _) _ _); refine wpList_box_at rfl rfl (by (try simp only [Act.eval, Array.getD_eq_getD_getElem?, List.getElem?_toArray, List.getElem?_cons_succ, List.getElem?_cons_zero, Option.getD_some]) <;> exact rfl) (by exact rfl) hA ?_; intro b1 w1 hB hb1; clear hF hA; have hA := hB; clear hB; (try simp only [setL, List.set_cons_zero, List.set_cons_succ, List.cons_append, List.nil_append] at hA); (have hF := hA.facts); (try simp only [facts_cons, facts_nil, facts_cells, facts_old, facts_fact, facts_obj, facts_map, facts_iter, facts_row, facts_stamp, and_true, true_and] at hF)))
      try go_frame
      go_loopg [22] al.length (SkIn w a s m g bE c l2 x E0 (.slice ax al.length acap) al)
      case atStart => exact ⟨0, N, rfl, by simp, by simpa [pairsK] using hN'.out, hA.pick (by repeat (first | exact Picks.nil | refine Picks.cons (by repeat (first | exact Sel.here | apply Sel.there)) ?_))⟩
      case round =>
        obtain ⟨j, N2, rfl, hjk, hN2, hB⟩ := hrel
        have hN2' := Lib.hid hN2
        clear hF hA hN2 hN'
        have hA := hB
        clear hB
        by_cases hj : j < al.length
        · have hst2 := Lib.hid (pairs_step x al hj)
          have hyl := hale.out _ (List.getElem_mem hj)
          have hoy := hok.out _ hyl
          obtain ⟨ga, ca, rfl, hap1, ham, hacl, hact, hB⟩ := hA.row_open (ax := ax) (cap := acap) (n := al.length) (xs := flatE al) (by with_reducible repeat (first | exact Sel.here | apply Sel.there)) (by omega)
          have hx : al[j]? = some al[j] := List.getElem?_eq_getElem hj
          have d0 : ca[j * 6]? = some (.string al[j].path) := cells_at Ent.cells_len hact hx 0 (by omega)
          have d1 : ca[j * 6 + 1]? = some (.int .u64 al[j].num) := cells_at Ent.cells_len hact hx 1 (by omega)
          have d2 : ca[j * 6 + 2]? = some (.string al[j].foot) := cells_at Ent.cells_len hact hx 2 (by omega)
          have d3 : ca[j * 6 + 3]? = some (.int .i64 al[j].mode) := cells_at Ent.cells_len hact hx 3 (by omega)
          have d4 : ca[j * 6 + 4]? = some (.int .u64 al[j].n) := cells_at Ent.cells_len hact hx 4 (by omega)
          have d5 : ca[j * 6 + 5]? = some (.int .i64 al[j].stamp) := cells_at Ent.cells_len hact hx 5 (by omega)
          obtain ⟨y, hyi⟩ : ∃ y, al[j] = y := ⟨_, rfl⟩
          simp only [hyi] at d0 d1 d2 d3 d4 d5 hst2 hyl hoy
          clear hA hx hyi
          have hA := hB
          clear hB
          obtain ⟨kx, hkx⟩ := keyQ hox
          have hone : ∀ w, (Instr.buildSlice 62 1 #[(0, .agg #[.int .u64 y.num, .string y.foot])]).run Tryz.prog w = .ok (.slice (some ⟨w.heap.size, 0, none⟩) 1 1) (w.alloc (.cells (seL (sesOf y)).toArray 33)) := fun w => by kernel_rfl
          have hpl : (pairsK x (al.take j)).length ≤ 40 := by unfold pairsK; rw [List.length_map]; have := List.length_take_le j al; omega
          rcases hN2'.out.look (sesOf x) with ⟨l1, e0, l3, hNl, hke, hel⟩ | ⟨hno, hnil⟩
          · obtain ⟨k0, v0, q0⟩ := e0
            simp only at hke hel
            subst hke
            subst hNl
            have hmore := Lib.hid (fun v => hN2'.out.more (sesOf y) v)
            simp only at hmore
            have hql : q0.length ≤ 2000 := by rw [hel]; refine Nat.le_trans (nexts_len _ _) ?_; rw [List.length_append]; omega
            clear hel hN2'
            have hB := outN rfl hA (by with_reducible repeat (first | exact Sel.here | apply Sel.there))
            simp only at hB
            rw [entsN_mid] at hB
            clear hA
            have hA := hB
            clear hB
            obtain ⟨qx, qn, qcap, hqv, hqn⟩ := hA.row_hid (v := v0) (n := q0.length) (xs := flatQ q0) (by with_reducible repeat (first | exact Sel.here | apply Sel.there))
            subst hqv
            have hqn2 := hqn.out
            subst hqn2
            clear hqn
            have hF := hA.facts
            (try simp only [setL, List.set_cons_zero, List.set_cons_succ, List.cons_append, List.nil_append] at hA); (have hF := hA.facts); (try simp only [facts_cons, facts_nil, facts_cells, facts_old, facts_fact, facts_obj, facts_map, facts_iter, facts_row, facts_stamp, and_true, true_and] at hF)
            go_wp2_with (first
              | ((with_reducible show wpList _ _ _ ({ dst := _, op := Op.alloc _, type := _, pos := _, after := _, guard := _ } :: _) _ _); refine wpList_alloc_at (E := 41) (z := .agg #[.string .empty, .int .u64 0, .string .empty, .int .i64 0, .int .u64 0, .int .i64 0]) (vs := [.string .empty, .int .u64 0, .string .empty, .int .i64 0, .int .u64 0, .int .i64 0]) rfl rfl (by kernel_rfl) rfl hA ?_; intro bX w1 hB hbX; clear hF hA; have hA := hB; clear hB; (try simp only [setL, List.set_cons_zero, List.set_cons_succ, List.cons_append, List.nil_append] at hA); (have hF := hA.facts); (try simp only [facts_cons, facts_nil, facts_cells, facts_old, facts_fact, facts_obj, facts_map, facts_iter, facts_row, facts_stamp, and_true, true_and] at hF))
              | ((with_reducible show wpList _ _ _ ({ dst := _, op := Op.buildSlice _ _ _, type := _, pos := _, after := _, guard := _ } :: _) _ _); refine wpList_one_at (e := 33) (vs := seL (sesOf y)) rfl rfl (by (try simp only [Act.eval, Array.getD_eq_getD_getElem?, List.getElem?_toArray, List.getElem?_cons_succ, List.getElem?_cons_zero, Option.getD_some]) <;> exact rfl) hone hA ?_; intro b2 w5 hB hb2; clear hF hA; have hA := hB; clear hB; (try simp only [setL, List.set_cons_zero, List.set_cons_succ, List.cons_append, List.nil_append] at hA); (have hF := hA.facts); (try simp only [facts_cons, facts_nil, facts_cells, facts_old, facts_fact, facts_obj, facts_map, facts_iter, facts_row, facts_stamp, and_true, true_and] at hF))
              | (refine wpList_entry_there_at (key := seV (sesOf x)) (u := .slice qx q0.length qcap) (l1 := entsN l1) (l2 := entsN l3) rfl rfl (by (try simp only [Act.eval, Array.getD_eq_getD_getElem?, List.getElem?_toArray, List.getElem?_cons_succ, List.getElem?_cons_zero, Option.getD_some]) <;> exact rfl) (by (try simp only [Act.eval, Array.getD_eq_getD_getElem?, List.getElem?_toArray, List.getElem?_cons_succ, List.getElem?_cons_zero, Option.getD_some]) <;> exact rfl) hA (by with_reducible repeat (first | exact Sel.here | apply Sel.there)) lawQ Tryz.underlying102 hkx ?_; intro w6 st hB; clear hF hA; have hA := hB; clear hB; (try simp only [setL, List.set_cons_zero, List.set_cons_succ, List.cons_append, List.nil_append] at hA); (have hF := hA.facts); (try simp only [facts_cons, facts_nil, facts_cells, facts_old, facts_fact, facts_obj, facts_map, facts_iter, facts_row, facts_stamp, and_true, true_and] at hF))
              | ((with_reducible show wpList _ _ _ ({ dst := _, op := Op.call { callee := Callee.builtin Builtin.append, args := _, argTypes := _ }, type := _, pos := _, after := _, guard := _ } :: _) _ _); refine wpList_append_at (e := 33) (size := 2) (v := .slice qx q0.length qcap) (xs := flatQ q0) (n := q0.length) (m := 1) (news := seL (sesOf y)) rfl _ _ 62 rfl Tryz.underlying62 hi0 hz0 hz1 hz2 rfl (by omega) hA (by with_reducible repeat (first | exact Sel.here | apply Sel.there)) (by (try simp only [Act.eval, Array.getD_eq_getD_getElem?, List.getElem?_toArray, List.getElem?_cons_succ, List.getElem?_cons_zero, Option.getD_some]) <;> exact rfl) (by (try simp only [Act.eval, Array.getD_eq_getD_getElem?, List.getElem?_toArray, List.getElem?_cons_succ, List.getElem?_cons_zero, Option.getD_some]) <;> exact rfl) rfl (hA.cells_reads (by with_reducible repeat (first | exact Sel.here | apply Sel.there)) _ _) (seL_one _) (by unfold maxLen; omega) (by omega) ?_; intro v2 w7 hB; rw [rowQ_snoc] at hB; clear hF hA; have hA := hB; clear hB; (try simp only [setL, List.set_cons_zero, List.set_cons_succ, List.cons_append, List.nil_append] at hA); (have hF := hA.facts); (try simp only [facts_cons, facts_nil, facts_cells, facts_old, facts_fact, facts_obj, facts_map, facts_iter, facts_row, facts_stamp, and_true, true_and] at hF))
              | (refine wpList_entryStore_at (val := v2) (key := seV (sesOf x)) (u := .slice qx q0.length qcap) (l1 := entsN l1) (l2 := entsN l3) (st := st) rfl rfl (by (try simp only [Act.eval, Array.getD_eq_getD_getElem?, List.getElem?_toArray, List.getElem?_cons_succ, List.getElem?_cons_zero, Option.getD_some]) <;> exact rfl) (by (try simp only [Act.eval, Array.getD_eq_getD_getElem?, List.getElem?_toArray, List.getElem?_cons_succ, List.getElem?_cons_zero, Option.getD_some]) <;> exact rfl) (by (try simp only [Act.eval, Array.getD_eq_getD_getElem?, List.getElem?_toArray, List.getElem?_cons_succ, List.getElem?_cons_zero, Option.getD_some]) <;> exact rfl) hA (by with_reducible repeat (first | exact Sel.here | apply Sel.there)) ?_; intro w8 hB; rw [← entsN_mid l1 l3 (sesOf x) v2 (q0 ++ [sesOf y])] at hB; clear hF hA; have hA := hB; clear hB; (try simp only [setL, List.set_cons_zero, List.set_cons_succ, List.cons_append, List.nil_append] at hA); (have hF := hA.facts); (try simp only [facts_cons, facts_nil, facts_cells, facts_old, facts_fact, facts_obj, facts_map, facts_iter, facts_row, facts_stamp, and_true, true_and] at hF))
              | ((with_reducible show wpList _ _ _ ({ dst := _, op := Op.store _ _ _, type := _, pos := _, after := _, guard := _ } :: _) _ _); refine wpList_store_at rfl rfl rfl (by (try simp only [Act.eval, Array.getD_eq_getD_getElem?, List.getElem?_toArray, List.getElem?_cons_succ, List.getElem?_cons_zero, Option.getD_some]) <;> exact rfl) (by exact rfl) hA (by with_reducible repeat (first | exact Sel.here | apply Sel.there)) (by kernel_rfl) rfl (by first | decide | (simp; done) | omega) ?_; intro w1 hB; clear hF hA; have hA := hB; clear hB; (try simp only [setL, List.set_cons_zero, List.set_cons_succ, List.cons_append, List.nil_append] at hA); (have hF := hA.facts); (try simp only [facts_cons, facts_nil, facts_cells, facts_old, facts_fact, facts_obj, facts_map, facts_iter, facts_row, facts_stamp, and_true, true_and] at hF)) | ((with_reducible show wpList _ _ _ ({ dst := _, op := Op.box _ _, type := _, pos := _, after := _, guard := _ } :: _) _ _); refine wpList_box_at rfl rfl (by (try simp only [Act.eval, Array.getD_eq_getD_getElem?, List.getElem?_toArray, List.getElem?_cons_succ, List.getElem?_cons_zero, Option.getD_some]) <;> exact rfl) (by exact rfl) hA ?_; intro b1 w1 hB hb1; clear hF hA; have hA := hB; clear hB; (try simp only [setL, List.set_cons_zero, List.set_cons_succ, List.cons_append, List.nil_append] at hA); (have hF := hA.facts); (try simp only [facts_cons, facts_nil, facts_cells, facts_old, facts_fact, facts_obj, facts_map, facts_iter, facts_row, facts_stamp, and_true, true_and] at hF)))
            go_roundg (al.length - (j + 1))
            case measure => omega
            case rel =>
              have hS := hA.row_shut (e := 41) (size := 6) (n := al.length) (cap := acap) (xs := flatE al) (by with_reducible repeat (first | exact Sel.here | apply Sel.there)) hacl hap1 ham hact
              have hS2 := inN (N := l1 ++ ⟨sesOf x, v2, q0 ++ [sesOf y]⟩ :: l3) rfl hS (by with_reducible repeat (first | exact Sel.here | apply Sel.there)) (by with_reducible repeat (first | exact Sel.here | apply Sel.there))
              refine ⟨j + 1, _, by simp, by omega, ?_, hS2.pick (by repeat (first | exact Picks.nil | refine Picks.cons (by repeat (first | exact Sel.here | apply Sel.there)) ?_))⟩
              rw [hst2.out, ← List.append_assoc]
              exact hmore.out v2
          · have hnew := Lib.hid (fun v => hN2'.out.new hno hnil (sesOf y) v)
            have hno' := Lib.hid hno
            clear hno hnil hN2'
            have hB := rowQ_nil hA
            clear hA
            have hA := hB
            clear hB
            have hF := hA.facts
            (try simp only [setL, List.set_cons_zero, List.set_cons_succ, List.cons_append, List.nil_append] at hA); (have hF := hA.facts); (try simp only [facts_cons, facts_nil, facts_cells, facts_old, facts_fact, facts_obj, facts_map, facts_iter, facts_row, facts_stamp, and_true, true_and] at hF)
            go_wp2_with (first
              | ((with_reducible show wpList _ _ _ ({ dst := _, op := Op.alloc _, type := _, pos := _, after := _, guard := _ } :: _) _ _); refine wpList_alloc_at (E := 41) (z := .agg #[.string .empty, .int .u64 0, .string .empty, .int .i64 0, .int .u64 0, .int .i64 0]) (vs := [.string .empty, .int .u64 0, .string .empty, .int .i64 0, .int .u64 0, .int .i64 0]) rfl rfl (by kernel_rfl) rfl hA ?_; intro bX w1 hB hbX; clear hF hA; have hA := hB; clear hB; (try simp only [setL, List.set_cons_zero, List.set_cons_succ, List.cons_append, List.nil_append] at hA); (have hF := hA.facts); (try simp only [facts_cons, facts_nil, facts_cells, facts_old, facts_fact, facts_obj, facts_map, facts_iter, facts_row, facts_stamp, and_true, true_and] at hF))
              | ((with_reducible show wpList _ _ _ ({ dst := _, op := Op.buildSlice _ _ _, type := _, pos := _, after := _, guard := _ } :: _) _ _); refine wpList_one_at (e := 33) (vs := seL (sesOf y)) rfl rfl (by (try simp only [Act.eval, Array.getD_eq_getD_getElem?, List.getElem?_toArray, List.getElem?_cons_succ, List.getElem?_cons_zero, Option.getD_some]) <;> exact rfl) hone hA ?_; intro b2 w5 hB hb2; clear hF hA; have hA := hB; clear hB; (try simp only [setL, List.set_cons_zero, List.set_cons_succ, List.cons_append, List.nil_append] at hA); (have hF := hA.facts); (try simp only [facts_cons, facts_nil, facts_cells, facts_old, facts_fact, facts_obj, facts_map, facts_iter, facts_row, facts_stamp, and_true, true_and] at hF))
              | (refine wpList_entry_new_at (key := seV (sesOf x)) (es := entsN N2) rfl rfl (by (try simp only [Act.eval, Array.getD_eq_getD_getElem?, List.getElem?_toArray, List.getElem?_cons_succ, List.getElem?_cons_zero, Option.getD_some]) <;> exact rfl) (by (try simp only [Act.eval, Array.getD_eq_getD_getElem?, List.getElem?_toArray, List.getElem?_cons_succ, List.getElem?_cons_zero, Option.getD_some]) <;> exact rfl) hA (by with_reducible repeat (first | exact Sel.here | apply Sel.there)) lawQ Tryz.underlying102 zeroQ hkx hno'.out ?_; intro w6 st hB; clear hF hA; have hA := hB; clear hB; (try simp only [setL, List.set_cons_zero, List.set_cons_succ, List.cons_append, List.nil_append] at hA); (have hF := hA.facts); (try simp only [facts_cons, facts_nil, facts_cells, facts_old, facts_fact, facts_obj, facts_map, facts_iter, facts_row, facts_stamp, and_true, true_and] at hF))
              | ((with_reducible show wpList _ _ _ ({ dst := _, op := Op.call { callee := Callee.builtin Builtin.append, args := _, argTypes := _ }, type := _, pos := _, after := _, guard := _ } :: _) _ _); refine wpList_append_at (e := 33) (size := 2) (v := .slice none 0 0) (xs := flatQ []) (n := ([] : List Ses).length) (m := 1) (news := seL (sesOf y)) rfl _ _ 62 rfl Tryz.underlying62 hi0 hz0 hz1 hz2 rfl (by omega) hA (by with_reducible repeat (first | exact Sel.here | apply Sel.there)) (by (try simp only [Act.eval, Array.getD_eq_getD_getElem?, List.getElem?_toArray, List.getElem?_cons_succ, List.getElem?_cons_zero, Option.getD_some]) <;> exact rfl) (by (try simp only [Act.eval, Array.getD_eq_getD_getElem?, List.getElem?_toArray, List.getElem?_cons_succ, List.getElem?_cons_zero, Option.getD_some]) <;> exact rfl) rfl (hA.cells_reads (by with_reducible repeat (first | exact Sel.here | apply Sel.there)) _ _) (seL_one _) (by unfold maxLen; simp) (by simp) ?_; intro v2 w7 hB; rw [rowQ_snoc] at hB; clear hF hA; have hA := hB; clear hB; (try simp only [setL, List.set_cons_zero, List.set_cons_succ, List.cons_append, List.nil_append] at hA); (have hF := hA.facts); (try simp only [facts_cons, facts_nil, facts_cells, facts_old, facts_fact, facts_obj, facts_map, facts_iter, facts_row, facts_stamp, and_true, true_and] at hF))
              | (refine wpList_entryStore_at (val := v2) (key := seV (sesOf x)) (u := .slice none 0 0) (l1 := entsN N2) (l2 := []) (st := st) rfl rfl (by (try simp only [Act.eval, Array.getD_eq_getD_getElem?, List.getElem?_toArray, List.getElem?_cons_succ, List.getElem?_cons_zero, Option.getD_some]) <;> exact rfl) (by (try simp only [Act.eval, Array.getD_eq_getD_getElem?, List.getElem?_toArray, List.getElem?_cons_succ, List.getElem?_cons_zero, Option.getD_some]) <;> exact rfl) (by (try simp only [Act.eval, Array.getD_eq_getD_getElem?, List.getElem?_toArray, List.getElem?_cons_succ, List.getElem?_cons_zero, Option.getD_some]) <;> exact rfl) hA (by with_reducible repeat (first | exact Sel.here | apply Sel.there)) ?_; intro w8 hB; rw [entsN_snoc N2 (sesOf x) v2 ([] ++ [sesOf y])] at hB; clear hF hA; have hA := hB; clear hB; (try simp only [setL, List.set_cons_zero, List.set_cons_succ, List.cons_append, List.nil_append] at hA); (have hF := hA.facts); (try simp only [facts_cons, facts_nil, facts_cells, facts_old, facts_fact, facts_obj, facts_map, facts_iter, facts_row, facts_stamp, and_true, true_and] at hF))
              | ((with_reducible show wpList _ _ _ ({ dst := _, op := Op.store _ _ _, type := _, pos := _, after := _, guard := _ } :: _) _ _); refine wpList_store_at rfl rfl rfl (by (try simp only [Act.eval, Array.getD_eq_getD_getElem?, List.getElem?_toArray, List.getElem?_cons_succ, List.getElem?_cons_zero, Option.getD_some]) <;> exact rfl) (by exact rfl) hA (by with_reducible repeat (first | exact Sel.here | apply Sel.there)) (by kernel_rfl) rfl (by first | decide | (simp; done) | omega) ?_; intro w1 hB; clear hF hA; have hA := hB; clear hB; (try simp only [setL, List.set_cons_zero, List.set_cons_succ, List.cons_append, List.nil_append] at hA); (have hF := hA.facts); (try simp only [facts_cons, facts_nil, facts_cells, facts_old, facts_fact, facts_obj, facts_map, facts_iter, facts_row, facts_stamp, and_true, true_and] at hF)) | ((with_reducible show wpList _ _ _ ({ dst := _, op := Op.box _ _, type := _, pos := _, after := _, guard := _ } :: _) _ _); refine wpList_box_at rfl rfl (by (try simp only [Act.eval, Array.getD_eq_getD_getElem?, List.getElem?_toArray, List.getElem?_cons_succ, List.getElem?_cons_zero, Option.getD_some]) <;> exact rfl) (by exact rfl) hA ?_; intro b1 w1 hB hb1; clear hF hA; have hA := hB; clear hB; (try simp only [setL, List.set_cons_zero, List.set_cons_succ, List.cons_append, List.nil_append] at hA); (have hF := hA.facts); (try simp only [facts_cons, facts_nil, facts_cells, facts_old, facts_fact, facts_obj, facts_map, facts_iter, facts_row, facts_stamp, and_true, true_and] at hF)))
            go_roundg (al.length - (j + 1))
            case measure => omega
            case rel =>
              have hS := hA.row_shut (e := 41) (size := 6) (n := al.length) (cap := acap) (xs := flatE al) (by with_reducible repeat (first | exact Sel.here | apply Sel.there)) hacl hap1 ham hact
              have hS2 := inN (N := N2 ++ [⟨sesOf x, v2, [sesOf y]⟩]) (l1 := N2) (l2 := []) (e := ⟨sesOf x, v2, [sesOf y]⟩) rfl hS (by repeat (first | exact Sel.here | apply Sel.there)) (by rw [List.append_nil]; repeat (first | exact Sel.here | apply Sel.there))
              refine ⟨j + 1, _, by simp, by omega, ?_, hS2.pick (by repeat (first | exact Picks.nil | refine Picks.cons (by repeat (first | exact Sel.here | apply Sel.there)) ?_))⟩
              rw [hst2.out, ← List.append_assoc]
              exact hnew.out v2
        · have hal2 : al.take j = al := List.take_of_length_le (by omega)
          have hNx := Lib.hid (show NextIs (edgesOf (l2.take (i + 1)) l2) N2 from by rw [hst.out, ← hal2]; exact hN2'.out)
          clear hN2' hal2
          have hF := hA.facts
          (try simp only [setL, List.set_cons_zero, List.set_cons_succ, List.cons_append, List.nil_append] at hA); (have hF := hA.facts); (try simp only [facts_cons, facts_nil, facts_cells, facts_old, facts_fact, facts_obj, facts_map, facts_iter, facts_row, facts_stamp, and_true, true_and] at hF)
          go_wp2_with (first | ((with_reducible show wpList _ _ _ ({ dst := _, op := Op.store _ _ _, type := _, pos := _, after := _, guard := _ } :: _) _ _); refine wpList_store_at rfl rfl rfl (by (try simp only [Act.eval, Array.getD_eq_getD_getElem?, List.getElem?_toArray, List.getElem?_cons_succ, List.getElem?_cons_zero, Option.getD_some]) <;> exact rfl) (by exact rfl) hA (by with_reducible repeat (first | exact Sel.here | apply Sel.there)) (by kernel_rfl) rfl (by first | decide | (simp; done) | omega) ?_; intro w1 hB; clear hF hA; have hA := hB; clear hB; (try simp only [setL, List.set_cons_zero, List.set_cons_succ, List.cons_append, List.nil_append] at hA); (have hF := hA.facts); (try simp only [facts_cons, facts_nil, facts_cells, facts_old, facts_fact, facts_obj, facts_map, facts_iter, facts_row, facts_stamp, and_true, true_and] at hF)) | ((with_reducible show wpList _ _ _ ({ dst := _, op := Op.box _ _, type := _, pos := _, after := _, guard := _ } :: _) _ _); refine wpList_box_at rfl rfl (by (try simp only [Act.eval, Array.getD_eq_getD_getElem?, List.getElem?_toArray, List.getElem?_cons_succ, List.getElem?_cons_zero, Option.getD_some]) <;> exact rfl) (by exact rfl) hA ?_; intro b1 w1 hB hb1; clear hF hA; have hA := hB; clear hB; (try simp only [setL, List.set_cons_zero, List.set_cons_succ, List.cons_append, List.nil_append] at hA); (have hF := hA.facts); (try simp only [facts_cons, facts_nil, facts_cells, facts_old, facts_fact, facts_obj, facts_map, facts_iter, facts_row, facts_stamp, and_true, true_and] at hF)))
          go_roundg (l2.length - (i + 1))
          case measure => omega
          case rel =>
            have hS := hA.row_shut (e := 41) (size := 6) (n := l2.length) (cap := lcap) (xs := l2.flatMap Ent.cells) (by with_reducible repeat (first | exact Sel.here | apply Sel.there)) hcl hcp1 hcm hct
            exact ⟨i + 1, N2, by simp, by omega, hNx.out, hS.pick (by repeat (first | exact Picks.nil | refine Picks.cons (by repeat (first | exact Sel.here | apply Sel.there)) ?_))⟩
    · have hNx := Lib.hid (show NextIs (edgesOf l l) N from by have := hN'.out; rwa [List.take_of_length_le (by omega)] at this)
      clear hN'
      have hEl : (edgesOf l l).length ≤ 1600 := Nat.le_trans (edges_len _ _) (Nat.le_trans (Nat.mul_le_mul hlb hlb) (by omega))
      have hEo := Lib.hid (show ∀ p ∈ edgesOf l l, okS p.2 from fun p hp => by
        obtain ⟨p1, p2⟩ := p
        obtain ⟨_, _, a2, ha2, _, _, _, h2⟩ := mem_edges.1 hp
        subst h2
        exact hok.out a2 ha2)
      have hEk := Lib.hid (show ∀ e ∈ N, okS e.key from fun e he => by
        have h1 := hNx.out.rows e he
        have h2 := hNx.out.some e he
        rw [h1] at h2
        obtain ⟨y, hy⟩ := List.exists_mem_of_ne_nil _ h2
        obtain ⟨a1, ha1, _, _, _, _, h3, _⟩ := mem_edges.1 (mem_nexts.1 hy)
        rw [← h3]
        exact hok.out a1 ha1)
      have hEf := Lib.hid (show ∀ x, Conn (edgesOf l l) x x ↔ Conn (edgesOf s.es s.es) x x from fun x => ⟨edges_perm hpe.out hpe.out, edges_perm hpe.out.symm hpe.out.symm⟩)
      obtain ⟨E, hEE⟩ : ∃ z, edgesOf l l = z := ⟨_, rfl⟩
      rw [hEE] at hNx hEl hEo hEf
      have hNl : N.length ≤ 1600 := Nat.le_trans hNx.out.len hEl
      clear hEE
      have hF := hA.facts
      (try simp only [setL, List.set_cons_zero, List.set_cons_succ, List.cons_append, List.nil_append] at hA); (have hF := hA.facts); (try simp only [facts_cons, facts_nil, facts_cells, facts_old, facts_fact, facts_obj, facts_map, facts_iter, facts_row, facts_stamp, and_true, true_and] at hF)
      go_wp2_with (first
        | (refine wpList_range_at rfl rfl (by (try simp only [Act.eval, Array.getD_eq_getD_getElem?, List.getElem?_toArray, List.getElem?_cons_succ, List.getElem?_cons_zero, Option.getD_some]) <;> exact rfl) hA (es := entsN N) (by with_reducible repeat (first | exact Sel.here | apply Sel.there)) Tryz.underlying102 ?_; intro r w5 hB hr; clear hF hA; have hA := hB; clear hB; (try simp only [setL, List.set_cons_zero, List.set_cons_succ, List.cons_append, List.nil_append] at hA); (have hF := hA.facts); (try simp only [facts_cons, facts_nil, facts_cells, facts_old, facts_fact, facts_obj, facts_map, facts_iter, facts_row, facts_stamp, and_true, true_and] at hF))
        | ((with_reducible show wpList _ _ _ ({ dst := _, op := Op.store _ _ _, type := _, pos := _, after := _, guard := _ } :: _) _ _); refine wpList_store_at rfl rfl rfl (by (try simp only [Act.eval, Array.getD_eq_getD_getElem?, List.getElem?_toArray, List.getElem?_cons_succ, List.getElem?_cons_zero, Option.getD_some]) <;> exact rfl) (by exact rfl) hA (by with_reducible repeat (first | exact Sel.here | apply Sel.there)) (by kernel_rfl) rfl (by first | decide | (simp; done) | omega) ?_; intro w1 hB; clear hF hA; have hA := hB; clear hB; (try simp only [setL, List.set_cons_zero, List.set_cons_succ, List.cons_append, List.nil_append] at hA); (have hF := hA.facts); (try simp only [facts_cons, facts_nil, facts_cells, facts_old, facts_fact, facts_obj, facts_map, facts_iter, facts_row, facts_stamp, and_true, true_and] at hF)) | ((with_reducible show wpList _ _ _ ({ dst := _, op := Op.box _ _, type := _, pos := _, after := _, guard := _ } :: _) _ _); refine wpList_box_at rfl rfl (by (try simp only [Act.eval, Array.getD_eq_getD_getElem?, List.getElem?_toArray, List.getElem?_cons_succ, List.getElem?_cons_zero, Option.getD_some]) <;> exact rfl) (by exact rfl) hA ?_; intro b1 w1 hB hb1; clear hF hA; have hA := hB; clear hB; (try simp only [setL, List.set_cons_zero, List.set_cons_succ, List.cons_append, List.nil_append] at hA); (have hF := hA.facts); (try simp only [facts_cons, facts_nil, facts_cells, facts_old, facts_fact, facts_obj, facts_map, facts_iter, facts_row, facts_stamp, and_true, true_and] at hF)))
      have hB := rowQ_nil hA
      clear hF hA
      have hA := hB
      clear hB
      try go_frame
      go_loopg [4] N.length (SkOut w a s r m E N)
      case atStart => exact ⟨[], [], by simp, nofun, by simp, fun x => ⟨nofun, fun ⟨_, e, he, _⟩ => by cases he⟩, hA.pick (by repeat (first | exact Picks.nil | refine Picks.cons (by repeat (first | exact Sel.here | apply Sel.there)) ?_))⟩
      case round =>
        obtain ⟨D, out, hDk, hDN, hol, hout, hB⟩ := hrel
        have hDk' := Lib.hid hDk
        have hDN' := Lib.hid hDN
        have hol' := Lib.hid hol
        have hout' := Lib.hid hout
        have hdl : out.length ≤ 1600 := by omega
        clear hF hA hDk hDN hol hout
        have hA := hB
        clear hB
        have hF := hA.facts
        (try simp only [setL, List.set_cons_zero, List.set_cons_succ, List.cons_append, List.nil_append] at hA); (have hF := hA.facts); (try simp only [facts_cons, facts_nil, facts_cells, facts_old, facts_fact, facts_obj, facts_map, facts_iter, facts_row, facts_stamp, and_true, true_and] at hF)
        go_step
        go_step
        refine wpList_next_at rfl rfl rfl hA (by with_reducible repeat (first | exact Sel.here | apply Sel.there)) (fun hp => ?_) (fun q w1 hq hd hB => ?_)
        · have hall := Lib.hid (show ∀ x, x ∈ out ↔ Conn (edgesOf s.es s.es) x x from fun x => by
            rw [hout'.out, ← hEf.out]
            refine ⟨fun ⟨h1, _⟩ => h1, fun h1 => ⟨h1, ?_⟩⟩
            obtain ⟨e, he, hex⟩ := hNx.out.keyed h1
            have h2 := hp.mem_iff.1 (List.mem_map_of_mem (f := entN) he)
            obtain ⟨d, hd, hde⟩ := List.mem_map.1 h2
            refine ⟨d, hd, ?_⟩
            rw [← hex]
            simp only [entN, Prod.mk.injEq] at hde
            exact seV_inj hde.1)
          have hM := At.ranged hA (by with_reducible repeat (first | exact Sel.here | apply Sel.there))
          have hM2 : At [bookS a s] w [rowQ u4 out, bookS a s] _ := hM.pick (by repeat (first | exact Picks.nil | refine Picks.cons (by repeat (first | exact Sel.here | apply Sel.there)) ?_))
          clear hp hF hA hM hout' hNx hDk' hDN'
          go_wp2_with fail
          refine (sortQ_any hM2 (by omega)).mono ?_
          rintro e w2 ⟨rfl, hB⟩
          go_wp2_with fail
          go_ret
          exact ⟨u4, sortS out, rfl, fun x => by rw [(sortQ_perm out).mem_iff]; exact hall.out x, by rw [sortQ_len]; omega, hB⟩
        · obtain ⟨e, he, rfl⟩ := List.mem_map.1 hq
          have hI2 : IterAt Tryz.prog 33 w1 r m (entsN N) (entsN D ++ [entN e]) := hB.get (A := Part.iter Tryz.prog 33 r m (entsN N) (entsN D ++ [entN e])) (by with_reducible repeat (first | exact Sel.here | apply Sel.there))
          have hen := hI2.entry
          have hlen : (D ++ [e]).length ≤ N.length := by have := hI2.len; simpa [entsN] using this
          have hoe := hEk.out e he
          have hin := Lib.hid (show ∀ d ∈ D ++ [e], d ∈ N from fun d hd => by
            rcases List.mem_append.1 hd with hd | hd
            · exact hDN'.out d hd
            · rw [List.mem_singleton.1 hd]; exact he)
          have hk' : D.length + gk = N.length := hDk'.out
          have hk2 := Lib.hid hk'
          rw [List.length_append, List.length_singleton] at hlen
          clear hF hA hI2 hq hd he hDk' hDN'
          have hA := hB
          clear hB
          have hF := hA.facts
          (try simp only [setL, List.set_cons_zero, List.set_cons_succ, List.cons_append, List.nil_append] at hA); (have hF := hA.facts); (try simp only [facts_cons, facts_nil, facts_cells, facts_old, facts_fact, facts_obj, facts_map, facts_iter, facts_row, facts_stamp, and_true, true_and] at hF)
          simp only [entN, seV] at hen
          go_wp2_with (first | ((with_reducible show wpList _ _ _ ({ dst := _, op := Op.alloc _, type := _, pos := _, after := _, guard := _ } :: _) _ _); refine wpList_alloc_at (E := 33) (z := .agg #[.int .u64 0, .string .empty]) (vs := [.int .u64 0, .string .empty]) rfl rfl (by kernel_rfl) rfl hA ?_; intro bX w1 hB hbX; clear hF hA; have hA := hB; clear hB; (try simp only [setL, List.set_cons_zero, List.set_cons_succ, List.cons_append, List.nil_append] at hA); (have hF := hA.facts); (try simp only [facts_cons, facts_nil, facts_cells, facts_old, facts_fact, facts_obj, facts_map, facts_iter, facts_row, facts_stamp, and_true, true_and] at hF)) | ((with_reducible show wpList _ _ _ ({ dst := _, op := Op.store _ _ _, type := _, pos := _, after := _, guard := _ } :: _) _ _); refine wpList_store_at rfl rfl rfl (by (try simp only [Act.eval, Array.getD_eq_getD_getElem?, List.getElem?_toArray, List.getElem?_cons_succ, List.getElem?_cons_zero, Option.getD_some]) <;> exact rfl) (by exact rfl) hA (by with_reducible repeat (first | exact Sel.here | apply Sel.there)) (by kernel_rfl) rfl (by first | decide | (simp; done) | omega) ?_; intro w1 hB; clear hF hA; have hA := hB; clear hB; (try simp only [setL, List.set_cons_zero, List.set_cons_succ, List.cons_append, List.nil_append] at hA); (have hF := hA.facts); (try simp only [facts_cons, facts_nil, facts_cells, facts_old, facts_fact, facts_obj, facts_map, facts_iter, facts_row, facts_stamp, and_true, true_and] at hF)) | ((with_reducible show wpList _ _ _ ({ dst := _, op := Op.box _ _, type := _, pos := _, after := _, guard := _ } :: _) _ _); refine wpList_box_at rfl rfl (by (try simp only [Act.eval, Array.getD_eq_getD_getElem?, List.getElem?_toArray, List.getElem?_cons_succ, List.getElem?_cons_zero, Option.getD_some]) <;> exact rfl) (by exact rfl) hA ?_; intro b1 w1 hB hb1; clear hF hA; have hA := hB; clear hB; (try simp only [setL, List.set_cons_zero, List.set_cons_succ, List.cons_append, List.nil_append] at hA); (have hF := hA.facts); (try simp only [facts_cons, facts_nil, facts_cells, facts_old, facts_fact, facts_obj, facts_map, facts_iter, facts_row, facts_stamp, and_true, true_and] at hF)))
          refine (reaches_any (X := Part.iter Tryz.prog 33 r m (entsN N) (entsN D ++ [entN e])) (fun _ h => h.1) (hA.sep2 (A := Part.iter Tryz.prog 33 r m (entsN N) (entsN D ++ [entN e])) (B := restN N) (by with_reducible repeat (first | exact Sel.here | apply Sel.there)) (by with_reducible repeat (first | exact Sel.here | apply Sel.there))) hNx.out hoe hEo.out (by omega)).mono ?_
          rintro o w6 ⟨c, rfl, hc, hT⟩
          have hB := hA.call2 (A := Part.iter Tryz.prog 33 r m (entsN N) (entsN D ++ [entN e])) (B := restN N) (by with_reducible repeat (first | exact Sel.here | apply Sel.there)) (by with_reducible repeat (first | exact Sel.here | apply Sel.there)) hT
          have hc' := Lib.hid hc
          clear hF hA hT hc hen
          have hA := hB
          clear hB
          simp only [List.cons_append, List.nil_append] at hA
          rw [show entsN D ++ [entN e] = entsN (D ++ [e]) from by simp [entsN]] at hA
          obtain ⟨ox, on, ocap, hov, hon⟩ := hA.row_hid (v := u4) (n := out.length) (xs := flatQ out) (by with_reducible repeat (first | exact Sel.here | apply Sel.there))
          subst hov
          have hon2 := hon.out
          subst hon2
          clear hon
          have hF := hA.facts
          (try simp only [setL, List.set_cons_zero, List.set_cons_succ, List.cons_append, List.nil_append] at hA); (have hF := hA.facts); (try simp only [facts_cons, facts_nil, facts_cells, facts_old, facts_fact, facts_obj, facts_map, facts_iter, facts_row, facts_stamp, and_true, true_and] at hF)
          have hone : ∀ w, (Instr.buildSlice 62 1 #[(0, .agg #[.int .u64 e.key.1, .string e.key.2])]).run Tryz.prog w = .ok (.slice (some ⟨w.heap.size, 0, none⟩) 1 1) (w.alloc (.cells (seL e.key).toArray 33)) := fun w => by kernel_rfl
          cases c with
          | false =>
            go_wp2_with (first | ((with_reducible show wpList _ _ _ ({ dst := _, op := Op.store _ _ _, type := _, pos := _, after := _, guard := _ } :: _) _ _); refine wpList_store_at rfl rfl rfl (by (try simp only [Act.eval, Array.getD_eq_getD_getElem?, List.getElem?_toArray, List.getElem?_cons_succ, List.getElem?_cons_zero, Option.getD_some]) <;> exact rfl) (by exact rfl) hA (by with_reducible repeat (first | exact Sel.here | apply Sel.there)) (by kernel_rfl) rfl (by first | decide | (simp; done) | omega) ?_; intro w1 hB; clear hF hA; have hA := hB; clear hB; (try simp only [setL, List.set_cons_zero, List.set_cons_succ, List.cons_append, List.nil_append] at hA); (have hF := hA.facts); (try simp only [facts_cons, facts_nil, facts_cells, facts_old, facts_fact, facts_obj, facts_map, facts_iter, facts_row, facts_stamp, and_true, true_and] at hF)) | ((with_reducible show wpList _ _ _ ({ dst := _, op := Op.box _ _, type := _, pos := _, after := _, guard := _ } :: _) _ _); refine wpList_box_at rfl rfl (by (try simp only [Act.eval, Array.getD_eq_getD_getElem?, List.getElem?_toArray, List.getElem?_cons_succ, List.getElem?_cons_zero, Option.getD_some]) <;> exact rfl) (by exact rfl) hA ?_; intro b1 w1 hB hb1; clear hF hA; have hA := hB; clear hB; (try simp only [setL, List.set_cons_zero, List.set_cons_succ, List.cons_append, List.nil_append] at hA); (have hF := hA.facts); (try simp only [facts_cons, facts_nil, facts_cells, facts_old, facts_fact, facts_obj, facts_map, facts_iter, facts_row, facts_stamp, and_true, true_and] at hF)))
            go_roundg (gk - 1)
            case measure => have := hk2.out; omega
            case rel =>
              refine ⟨D ++ [e], out, by have := hk2.out; simp; omega, hin.out, by have := hol'.out; simp; omega, fun x => ?_, hA.pick (by repeat (first | exact Picks.nil | refine Picks.cons (by repeat (first | exact Sel.here | apply Sel.there)) ?_))⟩
              rw [hout'.out x]
              constructor
              · rintro ⟨h1, d, hd, hx⟩; exact ⟨h1, d, List.mem_append_left _ hd, hx⟩
              · rintro ⟨h1, d, hd, hx⟩
                rcases List.mem_append.1 hd with hd | hd
                · exact ⟨h1, d, hd, hx⟩
                · rw [List.mem_singleton.1 hd] at hx
                  rw [← hx] at h1
                  exact absurd (hc'.out.2 h1) (by simp)
          | true =>
            go_wp2_with (first
              | ((with_reducible show wpList _ _ _ ({ dst := _, op := Op.buildSlice _ _ _, type := _, pos := _, after := _, guard := _ } :: _) _ _); refine wpList_one_at (e := 33) (vs := seL e.key) rfl rfl (by (try simp only [Act.eval, Array.getD_eq_getD_getElem?, List.getElem?_toArray, List.getElem?_cons_succ, List.getElem?_cons_zero, Option.getD_some]) <;> exact rfl) hone hA ?_; intro b2 w7 hB hb2; clear hF hA; have hA := hB; clear hB; (try simp only [setL, List.set_cons_zero, List.set_cons_succ, List.cons_append, List.nil_append] at hA); (have hF := hA.facts); (try simp only [facts_cons, facts_nil, facts_cells, facts_old, facts_fact, facts_obj, facts_map, facts_iter, facts_row, facts_stamp, and_true, true_and] at hF))
              | ((with_reducible show wpList _ _ _ ({ dst := _, op := Op.call { callee := Callee.builtin Builtin.append, args := _, argTypes := _ }, type := _, pos := _, after := _, guard := _ } :: _) _ _); refine wpList_append_at (e := 33) (size := 2) (v := .slice ox out.length ocap) (xs := flatQ out) (n := out.length) (m := 1) (news := seL e.key) rfl _ _ 62 rfl Tryz.underlying62 hi0 hz0 hz1 hz2 rfl (by omega) hA (by with_reducible repeat (first | exact Sel.here | apply Sel.there)) (by (try simp only [Act.eval, Array.getD_eq_getD_getElem?, List.getElem?_toArray, List.getElem?_cons_succ, List.getElem?_cons_zero, Option.getD_some]) <;> exact rfl) (by (try simp only [Act.eval, Array.getD_eq_getD_getElem?, List.getElem?_toArray, List.getElem?_cons_succ, List.getElem?_cons_zero, Option.getD_some]) <;> exact rfl) rfl (hA.cells_reads (by with_reducible repeat (first | exact Sel.here | apply Sel.there)) _ _) (seL_one _) (by unfold maxLen; omega) (by omega) ?_; intro v2 w8 hB; rw [rowQ_snoc] at hB; clear hF hA; have hA := hB; clear hB; (try simp only [setL, List.set_cons_zero, List.set_cons_succ, List.cons_append, List.nil_append] at hA); (have hF := hA.facts); (try simp only [facts_cons, facts_nil, facts_cells, facts_old, facts_fact, facts_obj, facts_map, facts_iter, facts_row, facts_stamp, and_true, true_and] at hF))
              | ((with_reducible show wpList _ _ _ ({ dst := _, op := Op.store _ _ _, type := _, pos := _, after := _, guard := _ } :: _) _ _); refine wpList_store_at rfl rfl rfl (by (try simp only [Act.eval, Array.getD_eq_getD_getElem?, List.getElem?_toArray, List.getElem?_cons_succ, List.getElem?_cons_zero, Option.getD_some]) <;> exact rfl) (by exact rfl) hA (by with_reducible repeat (first | exact Sel.here | apply Sel.there)) (by kernel_rfl) rfl (by first | decide | (simp; done) | omega) ?_; intro w1 hB; clear hF hA; have hA := hB; clear hB; (try simp only [setL, List.set_cons_zero, List.set_cons_succ, List.cons_append, List.nil_append] at hA); (have hF := hA.facts); (try simp only [facts_cons, facts_nil, facts_cells, facts_old, facts_fact, facts_obj, facts_map, facts_iter, facts_row, facts_stamp, and_true, true_and] at hF)) | ((with_reducible show wpList _ _ _ ({ dst := _, op := Op.box _ _, type := _, pos := _, after := _, guard := _ } :: _) _ _); refine wpList_box_at rfl rfl (by (try simp only [Act.eval, Array.getD_eq_getD_getElem?, List.getElem?_toArray, List.getElem?_cons_succ, List.getElem?_cons_zero, Option.getD_some]) <;> exact rfl) (by exact rfl) hA ?_; intro b1 w1 hB hb1; clear hF hA; have hA := hB; clear hB; (try simp only [setL, List.set_cons_zero, List.set_cons_succ, List.cons_append, List.nil_append] at hA); (have hF := hA.facts); (try simp only [facts_cons, facts_nil, facts_cells, facts_old, facts_fact, facts_obj, facts_map, facts_iter, facts_row, facts_stamp, and_true, true_and] at hF)))
            go_roundg (gk - 1)
            case measure => have := hk2.out; omega
            case rel =>
              refine ⟨D ++ [e], out ++ [e.key], by have := hk2.out; simp; omega, hin.out, by have := hol'.out; simp; omega, fun x => ?_, hA.pick (by repeat (first | exact Picks.nil | refine Picks.cons (by repeat (first | exact Sel.here | apply Sel.there)) ?_))⟩
              rw [List.mem_append, hout'.out x, List.mem_singleton]
              constructor
              · rintro (⟨h1, d, hd, hx⟩ | rfl)
                · exact ⟨h1, d, List.mem_append_left _ hd, hx⟩
                · exact ⟨hc'.out.1 (by first | exact rfl | exact trivial), e, by simp, rfl⟩
              · rintro ⟨h1, d, hd, hx⟩
                rcases List.mem_append.1 hd with hd | hd
                · exact .inl ⟨h1, d, hd, hx⟩
                · rw [List.mem_singleton.1 hd] at hx; exact .inr hx.symm
end Go.Proofs.YtnkddjomanaadaaGreatDoor.Lock
end
