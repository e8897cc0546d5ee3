/- LockLa, joined. -/
import Derived.Test.YtnkddjomanaadaaGreatDoorJ20
import Derived.Test.YtnkddjomanaadaaGreatDoorJ23
import Derived.Test.YtnkddjomanaadaaGreatDoorJ24
import Derived.Test.YtnkddjomanaadaaGreatDoorJ25
section
namespace Go.Proofs.YtnkddjomanaadaaGreatDoor.Lock
open Go.RowKit
open Go.Maps (Keyed)
open Path (bl rightB overB)
set_option linter.unusedSimpArgs false
set_option linter.unusedVariables false

theorem sameR (x y : Ent) (w : World) : (Go.Op.equalIn 10000 45 x.val y.val).run Tryz.prog w = .ok (decide (x = y)) w := by
  unfold Ent.val
  rw [run_equalIn_agg _ 9999 _ _ _ (by kernel_rfl) (by kernel_rfl)]
  obtain ⟨p1, n1, f1, m1, k1, s1⟩ := x
  obtain ⟨p2, n2, f2, m2, k2, s2⟩ := y
  simp [go_sem, Go.Op.eqFields, same_ba]
  by_cases h1 : p1 = p2 <;> by_cases h2 : n1 = n2 <;> by_cases h3 : f1 = f2 <;> by_cases h4 : m1 = m2 <;> by_cases h5 : k1 = k2 <;> by_cases h6 : s1 = s2 <;> simp [h1, h2, h3, h4, h5, h6]
theorem guardR (op : BinOp) (x y : Operand) (c1 c2 c3 c4 c5 c6 d1 d2 d3 d4 d5 d6 : Value) (w : World) : (eqGuard op 45 x y (.agg #[c1, c2, c3, c4, c5, c6]) (.agg #[d1, d2, d3, d4, d5, d6])).run Tryz.prog w = .ok () w := run_eqGuard_agg _ _ _ _ _ _ _ (by kernel_rfl)
theorem eqlR (x y : Ent) (w : World) : (binOp .eql 45 x.val y.val).run Tryz.prog w = .ok (.bool (decide (x = y))) w := by
  have := sameR x y w
  unfold Ent.val at *
  rw [run_eql_struct, this]; rfl
theorem neqR (x y : Ent) (w : World) : (binOp .neq 45 x.val y.val).run Tryz.prog w = .ok (.bool (!decide (x = y))) w := by
  have := sameR x y w
  unfold Ent.val at *
  rw [run_neq_struct, this]; rfl
set_option maxRecDepth 100000 in
theorem of_any (e : Ent) (w : World) : Calls Tryz.prog 14 #[e.val] w fun o w' => o = .returned e.val ∧ Ext w w' := by
  have hA : At [] w [] w := At.start (L0 := []) trivial
  have hF := hA.facts
  obtain ⟨p, n, f, m, k, s⟩ := e
  simp only [Ent.val]
  go_enter Tryz.func14, Tryz.ntmps14
  go_wp2_with (first | ((with_reducible show wpList _ _ _ ({ dst := _, op := Op.alloc _, type := _, pos := _, after := _, guard := _ } :: _) _ _); refine wpList_alloc_at (E := 45) (z := .agg #[.string .empty, .int .u64 0, .string .empty, .int .i64 0, .int .u64 0, .int .i64 0]) (vs := [.string .empty, .int .u64 0, .string .empty, .int .i64 0, .int .u64 0, .int .i64 0]) rfl rfl (by kernel_rfl) rfl hA ?_; intro bE w1 hB hbE; clear hF hA; have hA := hB; clear hB; (try simp only [setL, List.set_cons_zero, List.set_cons_succ, List.cons_append, List.nil_append] at hA); (have hF := hA.facts); (try simp only [facts_cons, facts_nil, facts_cells, facts_old, facts_fact, facts_obj, facts_map, facts_iter, facts_row, and_true, true_and] at hF)) | ((with_reducible show wpList _ _ _ ({ dst := _, op := Op.store _ _ _, type := _, pos := _, after := _, guard := _ } :: _) _ _); refine wpList_store_at rfl rfl rfl (by (try simp only [Act.eval, Array.getD_eq_getD_getElem?, List.getElem?_toArray, List.getElem?_cons_succ, List.getElem?_cons_zero, Option.getD_some]) <;> exact rfl) (by exact rfl) hA (by with_reducible repeat (first | exact Sel.here | apply Sel.there)) (by kernel_rfl) rfl (by first | decide | (simp; done) | omega) ?_; intro w1 hB; clear hF hA; have hA := hB; clear hB; (try simp only [setL, List.set_cons_zero, List.set_cons_succ, List.cons_append, List.nil_append] at hA); (have hF := hA.facts); (try simp only [facts_cons, facts_nil, facts_cells, facts_old, facts_fact, facts_obj, facts_map, facts_iter, facts_row, and_true, true_and] at hF)) | ((with_reducible show wpList _ _ _ ({ dst := _, op := Op.box _ _, type := _, pos := _, after := _, guard := _ } :: _) _ _); refine wpList_box_at rfl rfl (by (try simp only [Act.eval, Array.getD_eq_getD_getElem?, List.getElem?_toArray, List.getElem?_cons_succ, List.getElem?_cons_zero, Option.getD_some]) <;> exact rfl) (by exact rfl) hA ?_; intro b1 w1 hB hb1; clear hF hA; have hA := hB; clear hB; (try simp only [setL, List.set_cons_zero, List.set_cons_succ, List.cons_append, List.nil_append] at hA); (have hF := hA.facts); (try simp only [facts_cons, facts_nil, facts_cells, facts_old, facts_fact, facts_obj, facts_map, facts_iter, facts_row, and_true, true_and] at hF)))
  refine bodyPost_ret (v := .agg #[.string p, .int .u64 n, .string f, .int .i64 m, .int .u64 k, .int .i64 s]) (by simp [results, Tryz.results14, go_sem, hF]) rfl ⟨rfl, hA.toExt⟩

/-! ### The steps that come in -/
def OpsAt (W : World) (v : Value) (os : List Op) : Prop :=
  ∃ sa sc, v = .slice sa os.length sc ∧ ∀ j (hj : j < os.length), ∃ b off, sa = some ⟨b, off, none⟩ ∧
    (W.cell? ⟨b, off + j * 5, none⟩ = some (.int .i64 os[j].kind) ∧ W.cell? ⟨b, off + j * 5 + 1, none⟩ = some (.int .i64 os[j].mode) ∧ W.cell? ⟨b, off + j * 5 + 2, none⟩ = some (.string os[j].path) ∧ W.cell? ⟨b, off + j * 5 + 3, none⟩ = some (.int .u64 os[j].num) ∧ W.cell? ⟨b, off + j * 5 + 4, none⟩ = some (.string os[j].foot)) ∧
    (0 ≤ os[j].num ∧ os[j].num < big64 ∧ os[j].foot.size ≤ maxLen ∧ os[j].path.size ≤ maxLen)
theorem old_cell {W w : World} (h : (Part.old W).holds w) {b off : Nat} {u : Value} (hc : W.cell? ⟨b, off, none⟩ = some u) : w.cell? ⟨b, off, none⟩ = some u := by
  have hb : b < W.heap.size := by
    rcases Nat.lt_or_ge b W.heap.size with q | q
    · exact q
    · simp [World.cell?, Array.getElem?_eq_none q] at hc
  have := h b hb
  rw [← hc]
  simp [World.cell?, this]
theorem below_old {w w' : World} {L F : List Part} (h : At [Part.old w] w L w') (s : Sel (Part.old w) L F) : Below w.heap.size w w' := by
  have ho : (Part.old w).holds w' := h.get s
  exact ⟨h.exc.os, h.exc.tape, h.exc.output, h.exc.size, fun b hb => ho b hb⟩
def fitsB (os : List Op) (most : Int) : Bool := os.all (fun o => decide (o.path.size ≤ 100)) && decide ((os.length : Int) ≤ most)
def FitRel (W w : World) (os : List Op) (k : Nat) (u : Value) (wr : World) : Prop :=
  ∃ i : Nat, u = .int .i64 i ∧ i + k = os.length ∧ At [Part.old W] w [Part.old W] wr ∧ ∀ o ∈ os.take i, o.path.size ≤ 100
set_option maxRecDepth 100000 in
set_option maxHeartbeats 1000000 in
theorem fits_any {W w : World} {v : Value} {os : List Op} (h : Sep [Part.old W] w) (ho : OpsAt W v os) (most : Int) (hl : os.length ≤ 9223372036854775807) :
    Calls Tryz.prog 7 #[v, .int .i64 most] w fun e w' => e = .returned (.bool (fitsB os most)) ∧ At [Part.old W] w [Part.old W] w' := by
  obtain ⟨sa, sc, rfl, hel⟩ := ho
  have hel' := Lib.hid hel
  have hA := At.start h
  have hF := hA.facts
  clear h hel
  (try simp only [setL, List.set_cons_zero, List.set_cons_succ, List.cons_append, List.nil_append] at hA); (have hF := hA.facts); (try simp only [facts_cons, facts_nil, facts_cells, facts_old, facts_fact, facts_obj, facts_map, facts_iter, facts_row, and_true, true_and] at hF)
  go_enter Tryz.func7, Tryz.ntmps7
  go_wp2_with (first | ((with_reducible show wpList _ _ _ ({ dst := _, op := Op.store _ _ _, type := _, pos := _, after := _, guard := _ } :: _) _ _); refine wpList_store_at rfl rfl rfl (by (try simp only [Act.eval, Array.getD_eq_getD_getElem?, List.getElem?_toArray, List.getElem?_cons_succ, List.getElem?_cons_zero, Option.getD_some]) <;> exact rfl) (by exact rfl) hA (by with_reducible repeat (first | exact Sel.here | apply Sel.there)) (by kernel_rfl) rfl (by first | decide | (simp; done) | omega) ?_; intro w1 hB; clear hF hA; have hA := hB; clear hB; (try simp only [setL, List.set_cons_zero, List.set_cons_succ, List.cons_append, List.nil_append] at hA); (have hF := hA.facts); (try simp only [facts_cons, facts_nil, facts_cells, facts_old, facts_fact, facts_obj, facts_map, facts_iter, facts_row, and_true, true_and] at hF)) | ((with_reducible show wpList _ _ _ ({ dst := _, op := Op.box _ _, type := _, pos := _, after := _, guard := _ } :: _) _ _); refine wpList_box_at rfl rfl (by (try simp only [Act.eval, Array.getD_eq_getD_getElem?, List.getElem?_toArray, List.getElem?_cons_succ, List.getElem?_cons_zero, Option.getD_some]) <;> exact rfl) (by exact rfl) hA ?_; intro b1 w1 hB hb1; clear hF hA; have hA := hB; clear hB; (try simp only [setL, List.set_cons_zero, List.set_cons_succ, List.cons_append, List.nil_append] at hA); (have hF := hA.facts); (try simp only [facts_cons, facts_nil, facts_cells, facts_old, facts_fact, facts_obj, facts_map, facts_iter, facts_row, and_true, true_and] at hF)))
  try go_frame
  go_loopg [9] os.length (FitRel W w os)
  case atStart => exact ⟨0, rfl, by simp, hA, by simp⟩
  case round =>
    obtain ⟨i, rfl, hik, hB, hno⟩ := hrel
    have hno' := Lib.hid hno
    clear hF hA hno
    have hA := hB
    clear hB
    by_cases hi : i < os.length
    · obtain ⟨b, off, rfl, ⟨c0, c1, c2, c3, c4⟩, _⟩ := hel'.out i hi
      have hm := fun (q : os[i].path.size ≤ 100) => show ∀ o ∈ os.take (i + 1), o.path.size ≤ 100 from fun o ho => by
        rw [List.take_succ_eq_append_getElem hi] at ho
        rcases List.mem_append.1 ho with ho | ho
        · exact hno'.out o ho
        · rw [List.mem_singleton.1 ho]; exact q
      have hbad := fun (q : ¬ os[i].path.size ≤ 100) => show fitsB os most = false by
        unfold fitsB
        rw [Bool.and_eq_false_iff]
        left
        simp only [List.all_eq_false]
        exact ⟨os[i], List.getElem_mem hi, by simpa using q⟩
      obtain ⟨o, hoi⟩ : ∃ o, os[i] = o := ⟨_, rfl⟩
      simp only [hoi] at c0 c1 c2 c3 c4 hm hbad
      clear hoi
      have c0 := old_cell (hA.get (A := Part.old W) (by with_reducible repeat (first | exact Sel.here | apply Sel.there))) c0
      have c1 := old_cell (hA.get (A := Part.old W) (by with_reducible repeat (first | exact Sel.here | apply Sel.there))) c1
      have c2 := old_cell (hA.get (A := Part.old W) (by with_reducible repeat (first | exact Sel.here | apply Sel.there))) c2
      have c3 := old_cell (hA.get (A := Part.old W) (by with_reducible repeat (first | exact Sel.here | apply Sel.there))) c3
      have c4 := old_cell (hA.get (A := Part.old W) (by with_reducible repeat (first | exact Sel.here | apply Sel.there))) c4
      have hF := hA.facts
      (try simp only [setL, List.set_cons_zero, List.set_cons_succ, List.cons_append, List.nil_append] at hA); (have hF := hA.facts); (try simp only [facts_cons, facts_nil, facts_cells, facts_old, facts_fact, facts_obj, facts_map, facts_iter, facts_row, and_true, true_and] at hF)
      by_cases hq : o.path.size ≤ 100
      · have hm' := Lib.hid (hm hq)
        have hq' : ¬ (100 : Int) < (o.path.size : Int) := by omega
        clear hm hbad
        go_wp2_with (first | ((with_reducible show wpList _ _ _ ({ dst := _, op := Op.store _ _ _, type := _, pos := _, after := _, guard := _ } :: _) _ _); refine wpList_store_at rfl rfl rfl (by (try simp only [Act.eval, Array.getD_eq_getD_getElem?, List.getElem?_toArray, List.getElem?_cons_succ, List.getElem?_cons_zero, Option.getD_some]) <;> exact rfl) (by exact rfl) hA (by with_reducible repeat (first | exact Sel.here | apply Sel.there)) (by kernel_rfl) rfl (by first | decide | (simp; done) | omega) ?_; intro w1 hB; clear hF hA; have hA := hB; clear hB; (try simp only [setL, List.set_cons_zero, List.set_cons_succ, List.cons_append, List.nil_append] at hA); (have hF := hA.facts); (try simp only [facts_cons, facts_nil, facts_cells, facts_old, facts_fact, facts_obj, facts_map, facts_iter, facts_row, and_true, true_and] at hF)) | ((with_reducible show wpList _ _ _ ({ dst := _, op := Op.box _ _, type := _, pos := _, after := _, guard := _ } :: _) _ _); refine wpList_box_at rfl rfl (by (try simp only [Act.eval, Array.getD_eq_getD_getElem?, List.getElem?_toArray, List.getElem?_cons_succ, List.getElem?_cons_zero, Option.getD_some]) <;> exact rfl) (by exact rfl) hA ?_; intro b1 w1 hB hb1; clear hF hA; have hA := hB; clear hB; (try simp only [setL, List.set_cons_zero, List.set_cons_succ, List.cons_append, List.nil_append] at hA); (have hF := hA.facts); (try simp only [facts_cons, facts_nil, facts_cells, facts_old, facts_fact, facts_obj, facts_map, facts_iter, facts_row, and_true, true_and] at hF)) | ((with_reducible show wpList _ _ _ ({ dst := _, op := Op.alloc _, type := _, pos := _, after := _, guard := _ } :: _) _ _); refine wpList_alloc_at (E := 35) (z := .agg #[.int .i64 0, .int .i64 0, .string .empty, .int .u64 0, .string .empty]) (vs := [.int .i64 0, .int .i64 0, .string .empty, .int .u64 0, .string .empty]) rfl rfl (by kernel_rfl) rfl hA ?_; intro b1 w1 hB hb1; clear hF hA; have hA := hB; clear hB; (try simp only [setL, List.set_cons_zero, List.set_cons_succ, List.cons_append, List.nil_append] at hA); (have hF := hA.facts); (try simp only [facts_cons, facts_nil, facts_cells, facts_old, facts_fact, facts_obj, facts_map, facts_iter, facts_row, and_true, true_and] at hF)))
        go_roundg (gk - 1)
        case measure => omega
        case rel => exact ⟨i + 1, by simp, by omega, hA.pick (by with_reducible repeat (first | exact Picks.nil | refine Picks.cons (by with_reducible repeat (first | exact Sel.here | apply Sel.there)) ?_)), hm'.out⟩
      · have hb' := Lib.hid (hbad hq)
        have hq' : (100 : Int) < (o.path.size : Int) := by omega
        clear hm hbad
        go_wp2_with (first | ((with_reducible show wpList _ _ _ ({ dst := _, op := Op.store _ _ _, type := _, pos := _, after := _, guard := _ } :: _) _ _); refine wpList_store_at rfl rfl rfl (by (try simp only [Act.eval, Array.getD_eq_getD_getElem?, List.getElem?_toArray, List.getElem?_cons_succ, List.getElem?_cons_zero, Option.getD_some]) <;> exact rfl) (by exact rfl) hA (by with_reducible repeat (first | exact Sel.here | apply Sel.there)) (by kernel_rfl) rfl (by first | decide | (simp; done) | omega) ?_; intro w1 hB; clear hF hA; have hA := hB; clear hB; (try simp only [setL, List.set_cons_zero, List.set_cons_succ, List.cons_append, List.nil_append] at hA); (have hF := hA.facts); (try simp only [facts_cons, facts_nil, facts_cells, facts_old, facts_fact, facts_obj, facts_map, facts_iter, facts_row, and_true, true_and] at hF)) | ((with_reducible show wpList _ _ _ ({ dst := _, op := Op.box _ _, type := _, pos := _, after := _, guard := _ } :: _) _ _); refine wpList_box_at rfl rfl (by (try simp only [Act.eval, Array.getD_eq_getD_getElem?, List.getElem?_toArray, List.getElem?_cons_succ, List.getElem?_cons_zero, Option.getD_some]) <;> exact rfl) (by exact rfl) hA ?_; intro b1 w1 hB hb1; clear hF hA; have hA := hB; clear hB; (try simp only [setL, List.set_cons_zero, List.set_cons_succ, List.cons_append, List.nil_append] at hA); (have hF := hA.facts); (try simp only [facts_cons, facts_nil, facts_cells, facts_old, facts_fact, facts_obj, facts_map, facts_iter, facts_row, and_true, true_and] at hF)) | ((with_reducible show wpList _ _ _ ({ dst := _, op := Op.alloc _, type := _, pos := _, after := _, guard := _ } :: _) _ _); refine wpList_alloc_at (E := 35) (z := .agg #[.int .i64 0, .int .i64 0, .string .empty, .int .u64 0, .string .empty]) (vs := [.int .i64 0, .int .i64 0, .string .empty, .int .u64 0, .string .empty]) rfl rfl (by kernel_rfl) rfl hA ?_; intro b1 w1 hB hb1; clear hF hA; have hA := hB; clear hB; (try simp only [setL, List.set_cons_zero, List.set_cons_succ, List.cons_append, List.nil_append] at hA); (have hF := hA.facts); (try simp only [facts_cons, facts_nil, facts_cells, facts_old, facts_fact, facts_obj, facts_map, facts_iter, facts_row, and_true, true_and] at hF)))
        go_ret
        exact ⟨by rw [hb'.out]; rfl, hA.only1 (by with_reducible repeat (first | exact Sel.here | apply Sel.there))⟩
    · have hall : os.all (fun o => decide (o.path.size ≤ 100)) = true := by
        rw [List.all_eq_true]
        intro o ho
        exact decide_eq_true (hno'.out o (by rw [List.take_of_length_le (by omega)]; exact ho))
      have hall' := Lib.hid hall
      clear hall
      have hF := hA.facts
      (try simp only [setL, List.set_cons_zero, List.set_cons_succ, List.cons_append, List.nil_append] at hA); (have hF := hA.facts); (try simp only [facts_cons, facts_nil, facts_cells, facts_old, facts_fact, facts_obj, facts_map, facts_iter, facts_row, and_true, true_and] at hF)
      go_wp2_with (first | ((with_reducible show wpList _ _ _ ({ dst := _, op := Op.store _ _ _, type := _, pos := _, after := _, guard := _ } :: _) _ _); refine wpList_store_at rfl rfl rfl (by (try simp only [Act.eval, Array.getD_eq_getD_getElem?, List.getElem?_toArray, List.getElem?_cons_succ, List.getElem?_cons_zero, Option.getD_some]) <;> exact rfl) (by exact rfl) hA (by with_reducible repeat (first | exact Sel.here | apply Sel.there)) (by kernel_rfl) rfl (by first | decide | (simp; done) | omega) ?_; intro w1 hB; clear hF hA; have hA := hB; clear hB; (try simp only [setL, List.set_cons_zero, List.set_cons_succ, List.cons_append, List.nil_append] at hA); (have hF := hA.facts); (try simp only [facts_cons, facts_nil, facts_cells, facts_old, facts_fact, facts_obj, facts_map, facts_iter, facts_row, and_true, true_and] at hF)) | ((with_reducible show wpList _ _ _ ({ dst := _, op := Op.box _ _, type := _, pos := _, after := _, guard := _ } :: _) _ _); refine wpList_box_at rfl rfl (by (try simp only [Act.eval, Array.getD_eq_getD_getElem?, List.getElem?_toArray, List.getElem?_cons_succ, List.getElem?_cons_zero, Option.getD_some]) <;> exact rfl) (by exact rfl) hA ?_; intro b1 w1 hB hb1; clear hF hA; have hA := hB; clear hB; (try simp only [setL, List.set_cons_zero, List.set_cons_succ, List.cons_append, List.nil_append] at hA); (have hF := hA.facts); (try simp only [facts_cons, facts_nil, facts_cells, facts_old, facts_fact, facts_obj, facts_map, facts_iter, facts_row, and_true, true_and] at hF)))
      go_ret
      exact ⟨by unfold fitsB; rw [hall'.out]; rfl, hA.only1 (by with_reducible repeat (first | exact Sel.here | apply Sel.there))⟩

/-! ### The example -/
def pAB : ByteArray := ⟨#[97, 47, 98]⟩
def pA : ByteArray := ⟨#[97]⟩
def pAC : ByteArray := ⟨#[97, 47, 99]⟩
def e1 : Ent := ⟨pAB, 1, pA, 2, 1, 1⟩
def e2 : Ent := ⟨pA, 1, pA, 2, 1, 2⟩
def e3 : Ent := ⟨pAC, 1, pA, 1, 1, 3⟩
def s0 : S3 := ⟨0, [], []⟩
def s1 : S3 := ⟨0, [e1], [(pAB, 1)]⟩
def s2 : S3 := ⟨0, [e1, e2], [(pAB, 1), (pA, 1)]⟩
def s3 : S3 := ⟨0, [e1, e2, e3], [(pAB, 1), (pA, 1), (pAC, 1)]⟩
def s4 : S3 := ⟨0, [e2, e3], [(pAB, 1), (pA, 1), (pAC, 1)]⟩
theorem ex1 : s0.may pAB 1 pA 2 = 0 ∧ s0.addE pAB 1 pA 2 = e1 ∧ s0.add pAB 1 pA 2 = s1 := ⟨by kernel_rfl, by kernel_rfl, by kernel_rfl⟩
theorem ex2 : s1.may pA 1 pA 2 = 0 ∧ s1.addE pA 1 pA 2 = e2 ∧ s1.add pA 1 pA 2 = s2 := ⟨by kernel_rfl, by kernel_rfl, by kernel_rfl⟩
theorem ex3 : s2.may pAC 1 pA 1 = 0 ∧ s2.addE pAC 1 pA 1 = e3 ∧ s2.add pAC 1 pA 1 = s3 := ⟨by kernel_rfl, by kernel_rfl, by kernel_rfl⟩
theorem ex4 : s3.remove pAB 1 pA = s4 ∧ (find s3.es pAB 1 pA).isSome = true := ⟨by kernel_rfl, by kernel_rfl⟩
theorem exG : grantedB s3.es e1 = true ∧ grantedB s3.es e2 = false ∧ grantedB s3.es e3 = false ∧ grantedB s4.es e2 = true ∧ grantedB s4.es e3 = false := ⟨by kernel_rfl, by kernel_rfl, by kernel_rfl, by kernel_rfl, by kernel_rfl⟩
end Go.Proofs.YtnkddjomanaadaaGreatDoor.Lock
end
