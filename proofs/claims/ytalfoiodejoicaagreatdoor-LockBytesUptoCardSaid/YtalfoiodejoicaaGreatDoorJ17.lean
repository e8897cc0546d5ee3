/- LockUd, joined. -/
import Derived.Test.YtalfoiodejoicaaGreatDoorJ16
import Derived.Test.YtalfoiodejoicaaGreatDoorJ10
section
namespace Go.Proofs.YtalfoiodejoicaaGreatDoor.Lock
open Go.RowKit
open Go.Maps (Keyed)
open Path (bl rightB overB)
set_option linter.unusedSimpArgs false
set_option linter.unusedVariables false

abbrev boxE (b : Nat) (e : Ent) : Part := .cells b [.string e.path, .int .u64 e.num, .string e.foot, .int .i64 e.mode, .int .u64 e.n, .int .i64 e.stamp] 79
abbrev boxE0 (b : Nat) : Part := .cells b [.string .empty, .int .u64 0, .string .empty, .int .i64 0, .int .u64 0, .int .i64 0] 79
theorem held_take {L : List Ent} {n : Int} {f : ByteArray} {i : Nat} (hi : i < L.length) : heldN (L.take (i + 1)) n f = heldN (L.take i) n f + if L[i].of n f then 1 else 0 := by
  rw [List.take_succ_eq_append_getElem hi, heldN_snoc]
theorem maxS_take {L : List Ent} {p : ByteArray} {i : Nat} (hi : i < L.length) : maxS (L.take (i + 1)) p = if overB (bl L[i].path) (bl p) then max (maxS (L.take i) p) L[i].stamp else maxS (L.take i) p := by
  rw [List.take_succ_eq_append_getElem hi, maxS_snoc]
theorem find_idx {L : List Ent} {p : ByteArray} {n : Int} {f : ByteArray} : ((find L p n f).isSome = true → 0 ≤ idxD L p n f) ∧ ((find L p n f).isSome = false → idxD L p n f = -1) := by
  unfold idxD placeD
  have h : (L.findIdx? (·.is p n f)).isSome = (find L p n f).isSome := by
    unfold find
    rw [List.findIdx?_isSome]
    cases hq : L.find? (·.is p n f) with
    | none =>
      have := List.find?_eq_none.1 hq
      simp only [Option.isSome_none, List.any_eq_false]
      intro x hx
      simpa using this x hx
    | some y =>
      simp only [Option.isSome_some, List.any_eq_true]
      exact ⟨y, List.mem_of_find?_eq_some hq, by have := List.find?_some hq; simpa using this⟩
  rw [← h]
  cases hq : L.findIdx? (·.is p n f) with
  | none => simp
  | some k => simp
def AddRel (w : World) (first : Int) (vL vC : Value) (L : List Ent) (cs : List (ByteArray × Int)) (p : ByteArray) (n : Int) (f : ByteArray) (b5 b10 b11 : Nat) (k : Nat) (u13 u14 u15 : Value) (wr : World) : Prop :=
  ∃ i : Nat, u15 = .int .i64 i ∧ u13 = .int .i64 (heldN (L.take i) n f) ∧ u14 = .int .i64 (maxS (L.take i) p) ∧ i + k = L.length ∧ At [rowE vL L, rowC vC cs] w [boxE0 b11, boxB b10 0 (.slice none 0 0) (.slice none 0 0), boxB b5 first vL vC, rowE vL L, rowC vC cs] wr
def AddPost (w : World) (vL vC : Value) (s : S3) (p : ByteArray) (n : Int) (f : ByteArray) (mode : Int) (e : Ending) (w' : World) : Prop :=
  ∃ vL' vC', e = .returned (.tuple #[.agg #[.int .u64 s.first, vL', vC'], (s.addE p n f mode).val, .int .i64 (s.may p n f mode)]) ∧ At [rowE vL s.es, rowC vC s.cs] w [rowE vL' (s.add p n f mode).es, rowC vC' (s.add p n f mode).cs] w'
theorem addPost_no {w w' : World} {vL vC : Value} {s : S3} {p : ByteArray} {n : Int} {f : ByteArray} {mode : Int} {e : Ending} {c : Int} (hc : s.may p n f mode = c) (h0 : c ≠ 0) (he : e = .returned (.tuple #[.agg #[.int .u64 s.first, vL, vC], nullE.val, .int .i64 c])) (h : At [rowE vL s.es, rowC vC s.cs] w [rowE vL s.es, rowC vC s.cs] w') : AddPost w vL vC s p n f mode e w' := by
  unfold AddPost S3.addE S3.add
  rw [hc, if_neg h0, if_neg h0]
  exact ⟨vL, vC, he, h⟩
set_option maxRecDepth 100000 in
set_option maxHeartbeats 4000000 in
theorem addR_any {w : World} {vL vC : Value} {first : Int} {L : List Ent} {cs : List (ByteArray × Int)} (h : Sep [rowE vL L, rowC vC cs] w) (p : ByteArray) (n : Int) (f : ByteArray) (mode : Int) (hp : p.size ≤ 1000) (hmax : L.length ≤ 1000000) (hmaxc : cs.length ≤ 1000000) (hok : ∀ x ∈ L, x.path.size ≤ 1000 ∧ x.stamp ≤ 1000000000) (hc0 : 0 ≤ counter first cs p) :
    Calls Tryz.prog 54 #[.agg #[.int .u64 first, vL, vC], .string p, .int .u64 n, .string f, .int .i64 mode] w (AddPost w vL vC ⟨first, L, cs⟩ p n f mode) := by
  obtain ⟨i0, hi0, hz0, hz1, hz2⟩ := info_parts infoE
  have hA := At.start h
  have hF := hA.facts
  clear h
  obtain ⟨ax, cap, rfl, hax, hcap, _⟩ := hA.row_form (v := vL) (xs := flatE L) (by with_reducible repeat (first | exact Sel.here | apply Sel.there))
  obtain ⟨cx, cap2, rfl, hcx, hcap2, _⟩ := hA.row_form (v := vC) (xs := flatC cs) (by with_reducible repeat (first | exact Sel.here | apply Sel.there))
  have hcode : (⟨first, L, cs⟩ : S3).may p n f mode = if rightM p mode = false then 10 else if (find L p n f).isSome = true then 15 else if 64 ≤ heldN L n f then 14 else if lastN ≤ counter first cs p then 53 else 0 := rfl
  have hfi := find_idx (L := L) (p := p) (n := n) (f := f)
  obtain ⟨rb, hrb⟩ : ∃ rb, rightB (bl p) = rb := ⟨_, rfl⟩
  have hrr := fun w1 => Path.rightR_is w1 (by omega) hrb
  have hrb' := Lib.hid hrb
  clear hrb
  have hcode' := Lib.hid hcode
  have hfi' := Lib.hid hfi
  clear hcode hfi
  (try simp only [setL, List.set_cons_zero, List.set_cons_succ, List.cons_append, List.nil_append] at hA); (have hF := hA.facts); (try simp only [facts_cons, facts_nil, facts_cells, facts_old, facts_fact, facts_obj, facts_map, facts_iter, facts_row, and_true, true_and] at hF)
  go_enter Tryz.func54, Tryz.ntmps54
  go_wp2_with (first
    | ((with_reducible show wpList _ _ _ ({ dst := _, op := Op.box _ _, type := _, pos := _, after := _, guard := _ } :: _) _ _); refine wpList_box_at (E := 68) rfl rfl (by (try simp only [Act.eval, Array.getD_eq_getD_getElem?, List.getElem?_toArray, List.getElem?_cons_succ, List.getElem?_cons_zero, Option.getD_some]) <;> exact rfl) (by exact rfl) hA ?_; intro bB w1 hB hbB; clear hF hA; have hA := hB; clear hB; (try simp only [setL, List.set_cons_zero, List.set_cons_succ, List.cons_append, List.nil_append] at hA); (have hF := hA.facts); (try simp only [facts_cons, facts_nil, facts_cells, facts_old, facts_fact, facts_obj, facts_map, facts_iter, facts_row, and_true, true_and] at hF))
    | ((with_reducible show wpList _ _ _ ({ dst := _, op := Op.alloc _, type := _, pos := _, after := _, guard := _ } :: _) _ _); refine wpList_alloc_at (E := 68) (z := .agg #[.int .u64 0, .slice none 0 0, .slice none 0 0]) (vs := [.int .u64 0, .slice none 0 0, .slice none 0 0]) rfl rfl (by kernel_rfl) rfl hA ?_; intro bZ w1 hB hbZ; clear hF hA; have hA := hB; clear hB; (try simp only [setL, List.set_cons_zero, List.set_cons_succ, List.cons_append, List.nil_append] at hA); (have hF := hA.facts); (try simp only [facts_cons, facts_nil, facts_cells, facts_old, facts_fact, facts_obj, facts_map, facts_iter, facts_row, and_true, true_and] at hF))
    | ((with_reducible show wpList _ _ _ ({ dst := _, op := Op.alloc _, type := _, pos := _, after := _, guard := _ } :: _) _ _); refine wpList_alloc_at (E := 79) (z := .agg #[.string .empty, .int .u64 0, .string .empty, .int .i64 0, .int .u64 0, .int .i64 0]) (vs := [.string .empty, .int .u64 0, .string .empty, .int .i64 0, .int .u64 0, .int .i64 0]) rfl rfl (by kernel_rfl) rfl hA ?_; intro bE w1 hB hbE; clear hF hA; have hA := hB; clear hB; (try simp only [setL, List.set_cons_zero, List.set_cons_succ, List.cons_append, List.nil_append] at hA); (have hF := hA.facts); (try simp only [facts_cons, facts_nil, facts_cells, facts_old, facts_fact, facts_obj, facts_map, facts_iter, facts_row, and_true, true_and] at hF))
    | ((with_reducible show wpList _ _ _ ({ dst := _, op := Op.store _ _ _, type := _, pos := _, after := _, guard := _ } :: _) _ _); refine wpList_store_at rfl rfl rfl (by (try simp only [Act.eval, Array.getD_eq_getD_getElem?, List.getElem?_toArray, List.getElem?_cons_succ, List.getElem?_cons_zero, Option.getD_some]) <;> exact rfl) (by exact rfl) hA (by with_reducible repeat (first | exact Sel.here | apply Sel.there)) (by kernel_rfl) rfl (by first | decide | (simp; done) | omega) ?_; intro w1 hB; clear hF hA; have hA := hB; clear hB; (try simp only [setL, List.set_cons_zero, List.set_cons_succ, List.cons_append, List.nil_append] at hA); (have hF := hA.facts); (try simp only [facts_cons, facts_nil, facts_cells, facts_old, facts_fact, facts_obj, facts_map, facts_iter, facts_row, and_true, true_and] at hF)) | ((with_reducible show wpList _ _ _ ({ dst := _, op := Op.box _ _, type := _, pos := _, after := _, guard := _ } :: _) _ _); refine wpList_box_at rfl rfl (by (try simp only [Act.eval, Array.getD_eq_getD_getElem?, List.getElem?_toArray, List.getElem?_cons_succ, List.getElem?_cons_zero, Option.getD_some]) <;> exact rfl) (by exact rfl) hA ?_; intro b1 w1 hB hb1; clear hF hA; have hA := hB; clear hB; (try simp only [setL, List.set_cons_zero, List.set_cons_succ, List.cons_append, List.nil_append] at hA); (have hF := hA.facts); (try simp only [facts_cons, facts_nil, facts_cells, facts_old, facts_fact, facts_obj, facts_map, facts_iter, facts_row, and_true, true_and] at hF)))
  refine (hrr _).mono ?_
  clear hrr
  rintro e w2 ⟨rfl, hx⟩
  have hB := hA.ext hx
  clear hF hA hx
  have hA := hB
  clear hB
  (try simp only [setL, List.set_cons_zero, List.set_cons_succ, List.cons_append, List.nil_append] at hA); (have hF := hA.facts); (try simp only [facts_cons, facts_nil, facts_cells, facts_old, facts_fact, facts_obj, facts_map, facts_iter, facts_row, and_true, true_and] at hF)
  cases hrm : rightM p mode with
  | false =>
    have hc1 := Lib.hid (hcode'.out.trans (if_pos hrm))
    have hcs : rb = false ∨ (rb = true ∧ mode < 1) ∨ (rb = true ∧ ¬ mode < 1 ∧ 2 < mode) := by
      unfold rightM at hrm
      rw [hrb'.out] at hrm
      cases rb
      · exact .inl rfl
      · right
        simp at hrm
        by_cases hm : mode < 1
        · exact .inl ⟨rfl, hm⟩
        · exact .inr ⟨rfl, hm, by omega⟩
    clear hrm
    rcases hcs with rfl | ⟨rfl, m1⟩ | ⟨rfl, m1, m2⟩
    all_goals
      go_wp2_with (first | ((with_reducible show wpList _ _ _ ({ dst := _, op := Op.store _ _ _, type := _, pos := _, after := _, guard := _ } :: _) _ _); refine wpList_store_at rfl rfl rfl (by (try simp only [Act.eval, Array.getD_eq_getD_getElem?, List.getElem?_toArray, List.getElem?_cons_succ, List.getElem?_cons_zero, Option.getD_some]) <;> exact rfl) (by exact rfl) hA (by with_reducible repeat (first | exact Sel.here | apply Sel.there)) (by kernel_rfl) rfl (by first | decide | (simp; done) | omega) ?_; intro w1 hB; clear hF hA; have hA := hB; clear hB; (try simp only [setL, List.set_cons_zero, List.set_cons_succ, List.cons_append, List.nil_append] at hA); (have hF := hA.facts); (try simp only [facts_cons, facts_nil, facts_cells, facts_old, facts_fact, facts_obj, facts_map, facts_iter, facts_row, and_true, true_and] at hF)) | ((with_reducible show wpList _ _ _ ({ dst := _, op := Op.box _ _, type := _, pos := _, after := _, guard := _ } :: _) _ _); refine wpList_box_at rfl rfl (by (try simp only [Act.eval, Array.getD_eq_getD_getElem?, List.getElem?_toArray, List.getElem?_cons_succ, List.getElem?_cons_zero, Option.getD_some]) <;> exact rfl) (by exact rfl) hA ?_; intro b1 w1 hB hb1; clear hF hA; have hA := hB; clear hB; (try simp only [setL, List.set_cons_zero, List.set_cons_succ, List.cons_append, List.nil_append] at hA); (have hF := hA.facts); (try simp only [facts_cons, facts_nil, facts_cells, facts_old, facts_fact, facts_obj, facts_map, facts_iter, facts_row, and_true, true_and] at hF)))
      refine bodyPost_ret (v := .tuple #[.agg #[.int .u64 first, .slice ax L.length cap, .slice cx cs.length cap2], nullE.val, .int .i64 10]) (by simp [results, Tryz.results54, go_sem, hF, nullE, Ent.val] <;> rfl) rfl ?_
      exact addPost_no hc1.out (by omega) rfl (hA.pick (by with_reducible repeat (first | exact Picks.nil | refine Picks.cons (by with_reducible repeat (first | exact Sel.here | apply Sel.there)) ?_)))
  | true =>
    have hc1 := Lib.hid (hcode'.out.trans (if_neg (by rw [hrm]; simp)))
    obtain ⟨hr1, hr2⟩ := rightM_parts hrm
    have hrt : rb = true := by rw [← hrb'.out]; exact hr1
    subst hrt
    have m1 : ¬ mode < 1 := by omega
    have m2 : ¬ 2 < mode := by omega
    clear hrm hr1 hr2 hcode'
    go_wp2_with (first | ((with_reducible show wpList _ _ _ ({ dst := _, op := Op.store _ _ _, type := _, pos := _, after := _, guard := _ } :: _) _ _); refine wpList_store_at rfl rfl rfl (by (try simp only [Act.eval, Array.getD_eq_getD_getElem?, List.getElem?_toArray, List.getElem?_cons_succ, List.getElem?_cons_zero, Option.getD_some]) <;> exact rfl) (by exact rfl) hA (by with_reducible repeat (first | exact Sel.here | apply Sel.there)) (by kernel_rfl) rfl (by first | decide | (simp; done) | omega) ?_; intro w1 hB; clear hF hA; have hA := hB; clear hB; (try simp only [setL, List.set_cons_zero, List.set_cons_succ, List.cons_append, List.nil_append] at hA); (have hF := hA.facts); (try simp only [facts_cons, facts_nil, facts_cells, facts_old, facts_fact, facts_obj, facts_map, facts_iter, facts_row, and_true, true_and] at hF)) | ((with_reducible show wpList _ _ _ ({ dst := _, op := Op.box _ _, type := _, pos := _, after := _, guard := _ } :: _) _ _); refine wpList_box_at rfl rfl (by (try simp only [Act.eval, Array.getD_eq_getD_getElem?, List.getElem?_toArray, List.getElem?_cons_succ, List.getElem?_cons_zero, Option.getD_some]) <;> exact rfl) (by exact rfl) hA ?_; intro b1 w1 hB hb1; clear hF hA; have hA := hB; clear hB; (try simp only [setL, List.set_cons_zero, List.set_cons_succ, List.cons_append, List.nil_append] at hA); (have hF := hA.facts); (try simp only [facts_cons, facts_nil, facts_cells, facts_old, facts_fact, facts_obj, facts_map, facts_iter, facts_row, and_true, true_and] at hF)))
    refine (findR_any (hA.sep1 (A := rowE (.slice ax L.length cap) L) (by with_reducible repeat (first | exact Sel.here | apply Sel.there))) first (.slice cx cs.length cap2) ⟨_, _, _, rfl⟩ p n f hmax).mono ?_
    generalize idxD L p n f = ix at *
    rintro e w3 ⟨rfl, hT⟩
    have hB := hA.call1 (A := rowE (.slice ax L.length cap) L) (by with_reducible repeat (first | exact Sel.here | apply Sel.there)) hT
    clear hF hA hT
    have hA := hB
    clear hB
    (try simp only [setL, List.set_cons_zero, List.set_cons_succ, List.cons_append, List.nil_append] at hA); (have hF := hA.facts); (try simp only [facts_cons, facts_nil, facts_cells, facts_old, facts_fact, facts_obj, facts_map, facts_iter, facts_row, and_true, true_and] at hF)
    cases hfs : (find L p n f).isSome with
    | true =>
      have hc2 := Lib.hid (hc1.out.trans (if_pos hfs))
      have hix := hfi'.out.1 hfs
      clear hfs
      go_wp2_with (first | ((with_reducible show wpList _ _ _ ({ dst := _, op := Op.store _ _ _, type := _, pos := _, after := _, guard := _ } :: _) _ _); refine wpList_store_at rfl rfl rfl (by (try simp only [Act.eval, Array.getD_eq_getD_getElem?, List.getElem?_toArray, List.getElem?_cons_succ, List.getElem?_cons_zero, Option.getD_some]) <;> exact rfl) (by exact rfl) hA (by with_reducible repeat (first | exact Sel.here | apply Sel.there)) (by kernel_rfl) rfl (by first | decide | (simp; done) | omega) ?_; intro w1 hB; clear hF hA; have hA := hB; clear hB; (try simp only [setL, List.set_cons_zero, List.set_cons_succ, List.cons_append, List.nil_append] at hA); (have hF := hA.facts); (try simp only [facts_cons, facts_nil, facts_cells, facts_old, facts_fact, facts_obj, facts_map, facts_iter, facts_row, and_true, true_and] at hF)) | ((with_reducible show wpList _ _ _ ({ dst := _, op := Op.box _ _, type := _, pos := _, after := _, guard := _ } :: _) _ _); refine wpList_box_at rfl rfl (by (try simp only [Act.eval, Array.getD_eq_getD_getElem?, List.getElem?_toArray, List.getElem?_cons_succ, List.getElem?_cons_zero, Option.getD_some]) <;> exact rfl) (by exact rfl) hA ?_; intro b1 w1 hB hb1; clear hF hA; have hA := hB; clear hB; (try simp only [setL, List.set_cons_zero, List.set_cons_succ, List.cons_append, List.nil_append] at hA); (have hF := hA.facts); (try simp only [facts_cons, facts_nil, facts_cells, facts_old, facts_fact, facts_obj, facts_map, facts_iter, facts_row, and_true, true_and] at hF)))
      refine bodyPost_ret (v := .tuple #[.agg #[.int .u64 first, .slice ax L.length cap, .slice cx cs.length cap2], nullE.val, .int .i64 15]) (by simp [results, Tryz.results54, go_sem, hF, nullE, Ent.val] <;> rfl) rfl ?_
      exact addPost_no hc2.out (by omega) rfl (hA.pick (by with_reducible repeat (first | exact Picks.nil | refine Picks.cons (by with_reducible repeat (first | exact Sel.here | apply Sel.there)) ?_)))
    | false =>
      have hc2 := Lib.hid (hc1.out.trans (if_neg (by rw [hfs]; simp)))
      have hix := hfi'.out.2 hfs
      subst hix
      clear hfs hfi'
      go_wp2_with (first | ((with_reducible show wpList _ _ _ ({ dst := _, op := Op.store _ _ _, type := _, pos := _, after := _, guard := _ } :: _) _ _); refine wpList_store_at rfl rfl rfl (by (try simp only [Act.eval, Array.getD_eq_getD_getElem?, List.getElem?_toArray, List.getElem?_cons_succ, List.getElem?_cons_zero, Option.getD_some]) <;> exact rfl) (by exact rfl) hA (by with_reducible repeat (first | exact Sel.here | apply Sel.there)) (by kernel_rfl) rfl (by first | decide | (simp; done) | omega) ?_; intro w1 hB; clear hF hA; have hA := hB; clear hB; (try simp only [setL, List.set_cons_zero, List.set_cons_succ, List.cons_append, List.nil_append] at hA); (have hF := hA.facts); (try simp only [facts_cons, facts_nil, facts_cells, facts_old, facts_fact, facts_obj, facts_map, facts_iter, facts_row, and_true, true_and] at hF)) | ((with_reducible show wpList _ _ _ ({ dst := _, op := Op.box _ _, type := _, pos := _, after := _, guard := _ } :: _) _ _); refine wpList_box_at rfl rfl (by (try simp only [Act.eval, Array.getD_eq_getD_getElem?, List.getElem?_toArray, List.getElem?_cons_succ, List.getElem?_cons_zero, Option.getD_some]) <;> exact rfl) (by exact rfl) hA ?_; intro b1 w1 hB hb1; clear hF hA; have hA := hB; clear hB; (try simp only [setL, List.set_cons_zero, List.set_cons_succ, List.cons_append, List.nil_append] at hA); (have hF := hA.facts); (try simp only [facts_cons, facts_nil, facts_cells, facts_old, facts_fact, facts_obj, facts_map, facts_iter, facts_row, and_true, true_and] at hF)))
      try go_frame
      go_loopg [13, 14, 15] L.length (AddRel w first (.slice ax L.length cap) (.slice cx cs.length cap2) L cs p n f bB bZ bE)
      case atStart => exact ⟨0, rfl, by simp [heldN], by simp [maxS], by simp, hA.pick (by with_reducible repeat (first | exact Picks.nil | refine Picks.cons (by with_reducible repeat (first | exact Sel.here | apply Sel.there)) ?_))⟩
      case round =>
        obtain ⟨i, rfl, rfl, rfl, hik, hB⟩ := hrel
        clear hF hA
        have hA := hB
        clear hB
        by_cases hi : i < L.length
        · have hh := held_take (n := n) (f := f) hi
          have hm := maxS_take (p := p) hi
          have hhl := heldN_le (L.take i) n f
          have hml := maxS_le (l := L.take i) (p := p) (B := 1000000000) (by omega) (fun x hx => (hok x (List.mem_of_mem_take hx)).2)
          obtain ⟨hx1, hx2⟩ := hok L[i] (List.getElem_mem hi)
          have htl : (L.take i).length ≤ 1000000 := by rw [List.length_take]; omega
          obtain ⟨g, c, rfl, hcap1, hcm, hcl, hct, hB⟩ := hA.row_open (ax := ax) (cap := cap) (n := L.length) (xs := flatE L) (by with_reducible repeat (first | exact Sel.here | apply Sel.there)) (by omega)
          have hx : L[i]? = some L[i] := List.getElem?_eq_getElem hi
          (have c0 : c[i * 6]? = some (.string L[i].path) := cells_at Ent.cells_len hct hx 0 (by omega)); (have c1 : c[i * 6 + 1]? = some (.int .u64 L[i].num) := cells_at Ent.cells_len hct hx 1 (by omega)); (have c2 : c[i * 6 + 2]? = some (.string L[i].foot) := cells_at Ent.cells_len hct hx 2 (by omega)); (have c3 : c[i * 6 + 3]? = some (.int .i64 L[i].mode) := cells_at Ent.cells_len hct hx 3 (by omega)); (have c4 : c[i * 6 + 4]? = some (.int .u64 L[i].n) := cells_at Ent.cells_len hct hx 4 (by omega)); (have c5 : c[i * 6 + 5]? = some (.int .i64 L[i].stamp) := cells_at Ent.cells_len hct hx 5 (by omega))
          clear hA hx
          have hA := hB
          clear hB
          obtain ⟨x, hxi⟩ : ∃ x, L[i] = x := ⟨_, rfl⟩
          simp only [hxi] at hh hm hx1 hx2 c0 c1 c2 c3 c4 c5
          clear hxi
          have hov := fun w1 => Path.overlapR_any x.path p w1 (by omega) (by omega)
          generalize overB (bl x.path) (bl p) = ob at *
          generalize heldN (L.take i) n f = hn at *
          generalize maxS (L.take i) p = ms at *
          have hh' := Lib.hid hh
          have hm' := Lib.hid hm
          have hcs : ((x.num == n) = false ∧ Hid (x.of n f = false)) ∨ ((x.num == n) = true ∧ (x.foot.toList == f.toList) = false ∧ Hid (x.of n f = false)) ∨ ((x.num == n) = true ∧ (x.foot.toList == f.toList) = true ∧ Hid (x.of n f = true)) := by
            by_cases h1 : x.num = n
            · by_cases h2 : x.foot = f
              · right; right
                exact ⟨by simp [h1], by simp [h2], Lib.hid (by simp [Ent.of, h1, h2])⟩
              · right; left
                exact ⟨by simp [h1], by rw [same_ba]; exact decide_eq_false h2, Lib.hid (by simp [Ent.of, h2])⟩
            · left; exact ⟨by simp [h1], Lib.hid (by simp [Ent.of, h1])⟩
          clear hh hm
          (try simp only [setL, List.set_cons_zero, List.set_cons_succ, List.cons_append, List.nil_append] at hA); (have hF := hA.facts); (try simp only [facts_cons, facts_nil, facts_cells, facts_old, facts_fact, facts_obj, facts_map, facts_iter, facts_row, and_true, true_and] at hF)
          rcases hcs with ⟨e1, hof⟩ | ⟨e1, e2, hof⟩ | ⟨e1, e2, hof⟩
          all_goals
            go_wp2_with fail
            refine (hov _).mono ?_
            clear hov
            rintro e w4 ⟨rfl, hx⟩
            have hB := hA.ext hx
            clear hF hA hx
            have hA := hB
            clear hB
            (try simp only [setL, List.set_cons_zero, List.set_cons_succ, List.cons_append, List.nil_append] at hA); (have hF := hA.facts); (try simp only [facts_cons, facts_nil, facts_cells, facts_old, facts_fact, facts_obj, facts_map, facts_iter, facts_row, and_true, true_and] at hF)
            cases ob
            · go_wp2_with fail
              go_roundg (gk - 1)
              case measure => omega
              case rel => exact ⟨i + 1, by simp, by rw [hh'.out, hof.out]; simp, by rw [hm'.out]; simp, by omega, (shut_E hA (by with_reducible repeat (first | exact Sel.here | apply Sel.there)) hcl hcap1 hcm hct).pick (by with_reducible repeat (first | exact Picks.nil | refine Picks.cons (by with_reducible repeat (first | exact Sel.here | apply Sel.there)) ?_))⟩
            · by_cases hg : ms < x.stamp
              · have hmx : Hid (max ms x.stamp = x.stamp) := Lib.hid (by omega)
                go_wp2_with fail
                go_roundg (gk - 1)
                case measure => omega
                case rel => exact ⟨i + 1, by simp, by rw [hh'.out, hof.out]; simp, by rw [hm'.out]; simp [hmx.out], by omega, (shut_E hA (by with_reducible repeat (first | exact Sel.here | apply Sel.there)) hcl hcap1 hcm hct).pick (by with_reducible repeat (first | exact Picks.nil | refine Picks.cons (by with_reducible repeat (first | exact Sel.here | apply Sel.there)) ?_))⟩
              · have hmx : Hid (max ms x.stamp = ms) := Lib.hid (by omega)
                go_wp2_with fail
                go_roundg (gk - 1)
                case measure => omega
                case rel => exact ⟨i + 1, by simp, by rw [hh'.out, hof.out]; simp, by rw [hm'.out]; simp [hmx.out], by omega, (shut_E hA (by with_reducible repeat (first | exact Sel.here | apply Sel.there)) hcl hcap1 hcm hct).pick (by with_reducible repeat (first | exact Picks.nil | refine Picks.cons (by with_reducible repeat (first | exact Sel.here | apply Sel.there)) ?_))⟩
        · have eL : L.take i = L := List.take_of_length_le (by omega)
          rw [eL]
          have hq0 := heldN_le L n f
          have hms := maxS_le (l := L) (p := p) (B := 1000000000) (by omega) (fun x hx => (hok x hx).2)
          have hnew : ∀ q, 64 ≤ q → (if 64 ≤ q then (14 : Int) else if lastN ≤ counter first cs p then 53 else 0) = 14 := fun q hq => if_pos hq
          generalize hhd : heldN L n f = hd at *
          generalize hmm : maxS L p = ms at *
          by_cases hq : 64 ≤ hd
          · have hc3 := Lib.hid (hc2.out.trans (if_pos hq))
            have hq' : (64 : Int) ≤ (hd : Int) := by omega
            clear hq hnew hhd hmm
            (try simp only [setL, List.set_cons_zero, List.set_cons_succ, List.cons_append, List.nil_append] at hA); (have hF := hA.facts); (try simp only [facts_cons, facts_nil, facts_cells, facts_old, facts_fact, facts_obj, facts_map, facts_iter, facts_row, and_true, true_and] at hF)
            go_wp2_with (first | ((with_reducible show wpList _ _ _ ({ dst := _, op := Op.store _ _ _, type := _, pos := _, after := _, guard := _ } :: _) _ _); refine wpList_store_at rfl rfl rfl (by (try simp only [Act.eval, Array.getD_eq_getD_getElem?, List.getElem?_toArray, List.getElem?_cons_succ, List.getElem?_cons_zero, Option.getD_some]) <;> exact rfl) (by exact rfl) hA (by with_reducible repeat (first | exact Sel.here | apply Sel.there)) (by kernel_rfl) rfl (by first | decide | (simp; done) | omega) ?_; intro w1 hB; clear hF hA; have hA := hB; clear hB; (try simp only [setL, List.set_cons_zero, List.set_cons_succ, List.cons_append, List.nil_append] at hA); (have hF := hA.facts); (try simp only [facts_cons, facts_nil, facts_cells, facts_old, facts_fact, facts_obj, facts_map, facts_iter, facts_row, and_true, true_and] at hF)) | ((with_reducible show wpList _ _ _ ({ dst := _, op := Op.box _ _, type := _, pos := _, after := _, guard := _ } :: _) _ _); refine wpList_box_at rfl rfl (by (try simp only [Act.eval, Array.getD_eq_getD_getElem?, List.getElem?_toArray, List.getElem?_cons_succ, List.getElem?_cons_zero, Option.getD_some]) <;> exact rfl) (by exact rfl) hA ?_; intro b1 w1 hB hb1; clear hF hA; have hA := hB; clear hB; (try simp only [setL, List.set_cons_zero, List.set_cons_succ, List.cons_append, List.nil_append] at hA); (have hF := hA.facts); (try simp only [facts_cons, facts_nil, facts_cells, facts_old, facts_fact, facts_obj, facts_map, facts_iter, facts_row, and_true, true_and] at hF)))
            refine bodyPost_ret (v := .tuple #[.agg #[.int .u64 first, .slice ax L.length cap, .slice cx cs.length cap2], nullE.val, .int .i64 14]) (by simp [results, Tryz.results54, go_sem, hF, nullE, Ent.val] <;> rfl) rfl ?_
            exact addPost_no hc3.out (by omega) rfl (hA.pick (by with_reducible repeat (first | exact Picks.nil | refine Picks.cons (by with_reducible repeat (first | exact Sel.here | apply Sel.there)) ?_)))
          · have hc3 := Lib.hid (hc2.out.trans (if_neg hq))
            have hq' : ¬ (64 : Int) ≤ (hd : Int) := by omega
            have hhd' := Lib.hid hhd
            have hmm' := Lib.hid hmm
            clear hq hnew hhd hmm
            have hct := fun (w1 : World) (q : Sep [rowC (.slice cx cs.length cap2) cs] w1) => counterR_any q first (.slice ax L.length cap) ⟨_, _, _, rfl⟩ p hmaxc
            obtain ⟨cc, hcc⟩ : ∃ cc, counter first cs p = cc := ⟨_, rfl⟩
            rw [hcc] at hct hc0
            have hcc' := Lib.hid hcc
            have hc4 := Lib.hid (hcc ▸ hc3.out)
            clear hcc hc3
            (try simp only [setL, List.set_cons_zero, List.set_cons_succ, List.cons_append, List.nil_append] at hA); (have hF := hA.facts); (try simp only [facts_cons, facts_nil, facts_cells, facts_old, facts_fact, facts_obj, facts_map, facts_iter, facts_row, and_true, true_and] at hF)
            go_wp2_with (first | ((with_reducible show wpList _ _ _ ({ dst := _, op := Op.store _ _ _, type := _, pos := _, after := _, guard := _ } :: _) _ _); refine wpList_store_at rfl rfl rfl (by (try simp only [Act.eval, Array.getD_eq_getD_getElem?, List.getElem?_toArray, List.getElem?_cons_succ, List.getElem?_cons_zero, Option.getD_some]) <;> exact rfl) (by exact rfl) hA (by with_reducible repeat (first | exact Sel.here | apply Sel.there)) (by kernel_rfl) rfl (by first | decide | (simp; done) | omega) ?_; intro w1 hB; clear hF hA; have hA := hB; clear hB; (try simp only [setL, List.set_cons_zero, List.set_cons_succ, List.cons_append, List.nil_append] at hA); (have hF := hA.facts); (try simp only [facts_cons, facts_nil, facts_cells, facts_old, facts_fact, facts_obj, facts_map, facts_iter, facts_row, and_true, true_and] at hF)) | ((with_reducible show wpList _ _ _ ({ dst := _, op := Op.box _ _, type := _, pos := _, after := _, guard := _ } :: _) _ _); refine wpList_box_at rfl rfl (by (try simp only [Act.eval, Array.getD_eq_getD_getElem?, List.getElem?_toArray, List.getElem?_cons_succ, List.getElem?_cons_zero, Option.getD_some]) <;> exact rfl) (by exact rfl) hA ?_; intro b1 w1 hB hb1; clear hF hA; have hA := hB; clear hB; (try simp only [setL, List.set_cons_zero, List.set_cons_succ, List.cons_append, List.nil_append] at hA); (have hF := hA.facts); (try simp only [facts_cons, facts_nil, facts_cells, facts_old, facts_fact, facts_obj, facts_map, facts_iter, facts_row, and_true, true_and] at hF)))
            refine (hct _ (hA.sep1 (A := rowC (.slice cx cs.length cap2) cs) (by with_reducible repeat (first | exact Sel.here | apply Sel.there)))).mono ?_
            rintro e w5 ⟨rfl, hT⟩
            have hB := hA.call1 (A := rowC (.slice cx cs.length cap2) cs) (by with_reducible repeat (first | exact Sel.here | apply Sel.there)) hT
            clear hF hA hT
            have hA := hB
            clear hB
            (try simp only [setL, List.set_cons_zero, List.set_cons_succ, List.cons_append, List.nil_append] at hA); (have hF := hA.facts); (try simp only [facts_cons, facts_nil, facts_cells, facts_old, facts_fact, facts_obj, facts_map, facts_iter, facts_row, and_true, true_and] at hF)
            by_cases hl : 9223372036854775807 ≤ cc
            · have hc5 := Lib.hid (hc4.out.trans (if_pos hl))
              clear hct
              go_wp2_with (first | ((with_reducible show wpList _ _ _ ({ dst := _, op := Op.store _ _ _, type := _, pos := _, after := _, guard := _ } :: _) _ _); refine wpList_store_at rfl rfl rfl (by (try simp only [Act.eval, Array.getD_eq_getD_getElem?, List.getElem?_toArray, List.getElem?_cons_succ, List.getElem?_cons_zero, Option.getD_some]) <;> exact rfl) (by exact rfl) hA (by with_reducible repeat (first | exact Sel.here | apply Sel.there)) (by kernel_rfl) rfl (by first | decide | (simp; done) | omega) ?_; intro w1 hB; clear hF hA; have hA := hB; clear hB; (try simp only [setL, List.set_cons_zero, List.set_cons_succ, List.cons_append, List.nil_append] at hA); (have hF := hA.facts); (try simp only [facts_cons, facts_nil, facts_cells, facts_old, facts_fact, facts_obj, facts_map, facts_iter, facts_row, and_true, true_and] at hF)) | ((with_reducible show wpList _ _ _ ({ dst := _, op := Op.box _ _, type := _, pos := _, after := _, guard := _ } :: _) _ _); refine wpList_box_at rfl rfl (by (try simp only [Act.eval, Array.getD_eq_getD_getElem?, List.getElem?_toArray, List.getElem?_cons_succ, List.getElem?_cons_zero, Option.getD_some]) <;> exact rfl) (by exact rfl) hA ?_; intro b1 w1 hB hb1; clear hF hA; have hA := hB; clear hB; (try simp only [setL, List.set_cons_zero, List.set_cons_succ, List.cons_append, List.nil_append] at hA); (have hF := hA.facts); (try simp only [facts_cons, facts_nil, facts_cells, facts_old, facts_fact, facts_obj, facts_map, facts_iter, facts_row, and_true, true_and] at hF)))
              refine bodyPost_ret (v := .tuple #[.agg #[.int .u64 first, .slice ax L.length cap, .slice cx cs.length cap2], nullE.val, .int .i64 53]) (by simp [results, Tryz.results54, go_sem, hF, nullE, Ent.val] <;> rfl) rfl ?_
              exact addPost_no hc5.out (by omega) rfl (hA.pick (by with_reducible repeat (first | exact Picks.nil | refine Picks.cons (by with_reducible repeat (first | exact Sel.here | apply Sel.there)) ?_)))
            · have hc5 := Lib.hid (hc4.out.trans (if_neg hl))
              have hwr : IntKind.u64.wrap (cc + 1) = cc + 1 := by rw [IntKind.wrap_u64]; omega
              go_wp2_with (first | ((with_reducible show wpList _ _ _ ({ dst := _, op := Op.store _ _ _, type := _, pos := _, after := _, guard := _ } :: _) _ _); refine wpList_store_at rfl rfl rfl (by (try simp only [Act.eval, Array.getD_eq_getD_getElem?, List.getElem?_toArray, List.getElem?_cons_succ, List.getElem?_cons_zero, Option.getD_some]) <;> exact rfl) (by exact rfl) hA (by with_reducible repeat (first | exact Sel.here | apply Sel.there)) (by kernel_rfl) rfl (by first | decide | (simp; done) | omega) ?_; intro w1 hB; clear hF hA; have hA := hB; clear hB; (try simp only [setL, List.set_cons_zero, List.set_cons_succ, List.cons_append, List.nil_append] at hA); (have hF := hA.facts); (try simp only [facts_cons, facts_nil, facts_cells, facts_old, facts_fact, facts_obj, facts_map, facts_iter, facts_row, and_true, true_and] at hF)) | ((with_reducible show wpList _ _ _ ({ dst := _, op := Op.box _ _, type := _, pos := _, after := _, guard := _ } :: _) _ _); refine wpList_box_at rfl rfl (by (try simp only [Act.eval, Array.getD_eq_getD_getElem?, List.getElem?_toArray, List.getElem?_cons_succ, List.getElem?_cons_zero, Option.getD_some]) <;> exact rfl) (by exact rfl) hA ?_; intro b1 w1 hB hb1; clear hF hA; have hA := hB; clear hB; (try simp only [setL, List.set_cons_zero, List.set_cons_succ, List.cons_append, List.nil_append] at hA); (have hF := hA.facts); (try simp only [facts_cons, facts_nil, facts_cells, facts_old, facts_fact, facts_obj, facts_map, facts_iter, facts_row, and_true, true_and] at hF)))
              refine (hct _ (hA.sep1 (A := rowC (.slice cx cs.length cap2) cs) (by with_reducible repeat (first | exact Sel.here | apply Sel.there)))).mono ?_
              clear hct
              rintro e w6 ⟨rfl, hT⟩
              have hB := hA.call1 (A := rowC (.slice cx cs.length cap2) cs) (by with_reducible repeat (first | exact Sel.here | apply Sel.there)) hT
              clear hF hA hT
              have hA := hB
              clear hB
              (try simp only [setL, List.set_cons_zero, List.set_cons_succ, List.cons_append, List.nil_append] at hA); (have hF := hA.facts); (try simp only [facts_cons, facts_nil, facts_cells, facts_old, facts_fact, facts_obj, facts_map, facts_iter, facts_row, and_true, true_and] at hF)
              go_wp2_with (first | ((with_reducible show wpList _ _ _ ({ dst := _, op := Op.alloc _, type := _, pos := _, after := _, guard := _ } :: _) _ _); refine wpList_alloc_at (E := 79) (z := .agg #[.string .empty, .int .u64 0, .string .empty, .int .i64 0, .int .u64 0, .int .i64 0]) (vs := [.string .empty, .int .u64 0, .string .empty, .int .i64 0, .int .u64 0, .int .i64 0]) rfl rfl (by kernel_rfl) rfl hA ?_; intro bX w1 hB hbX; clear hF hA; have hA := hB; clear hB; (try simp only [setL, List.set_cons_zero, List.set_cons_succ, List.cons_append, List.nil_append] at hA); (have hF := hA.facts); (try simp only [facts_cons, facts_nil, facts_cells, facts_old, facts_fact, facts_obj, facts_map, facts_iter, facts_row, and_true, true_and] at hF)) | ((with_reducible show wpList _ _ _ ({ dst := _, op := Op.store _ _ _, type := _, pos := _, after := _, guard := _ } :: _) _ _); refine wpList_store_at rfl rfl rfl (by (try simp only [Act.eval, Array.getD_eq_getD_getElem?, List.getElem?_toArray, List.getElem?_cons_succ, List.getElem?_cons_zero, Option.getD_some]) <;> exact rfl) (by exact rfl) hA (by with_reducible repeat (first | exact Sel.here | apply Sel.there)) (by kernel_rfl) rfl (by first | decide | (simp; done) | omega) ?_; intro w1 hB; clear hF hA; have hA := hB; clear hB; (try simp only [setL, List.set_cons_zero, List.set_cons_succ, List.cons_append, List.nil_append] at hA); (have hF := hA.facts); (try simp only [facts_cons, facts_nil, facts_cells, facts_old, facts_fact, facts_obj, facts_map, facts_iter, facts_row, and_true, true_and] at hF)) | ((with_reducible show wpList _ _ _ ({ dst := _, op := Op.box _ _, type := _, pos := _, after := _, guard := _ } :: _) _ _); refine wpList_box_at rfl rfl (by (try simp only [Act.eval, Array.getD_eq_getD_getElem?, List.getElem?_toArray, List.getElem?_cons_succ, List.getElem?_cons_zero, Option.getD_some]) <;> exact rfl) (by exact rfl) hA ?_; intro b1 w1 hB hb1; clear hF hA; have hA := hB; clear hB; (try simp only [setL, List.set_cons_zero, List.set_cons_succ, List.cons_append, List.nil_append] at hA); (have hF := hA.facts); (try simp only [facts_cons, facts_nil, facts_cells, facts_old, facts_fact, facts_obj, facts_map, facts_iter, facts_row, and_true, true_and] at hF)))
              refine (countR_any (hA.sep1 (A := rowC (.slice cx cs.length cap2) cs) (by with_reducible repeat (first | exact Sel.here | apply Sel.there))) first (.slice ax L.length cap) ⟨_, _, _, rfl⟩ p (cc + 1) hmaxc).mono ?_
              rintro e w7 ⟨vC', rfl, hT⟩
              have hB := hA.call1 (A := rowC (.slice cx cs.length cap2) cs) (by with_reducible repeat (first | exact Sel.here | apply Sel.there)) hT
              obtain ⟨dx, dn, dcap, hdv, hdn⟩ := hB.row_hid (v := vC') (n := (putC cs p (cc + 1)).length) (xs := flatC (putC cs p (cc + 1))) .here
              subst hdv
              clear hF hA hT
              have hA := row_nilE hB
              clear hB
              simp only [List.cons_append, List.nil_append] at hA
              have hF := hA.facts
              (try simp only [setL, List.set_cons_zero, List.set_cons_succ, List.cons_append, List.nil_append] at hA); (have hF := hA.facts); (try simp only [facts_cons, facts_nil, facts_cells, facts_old, facts_fact, facts_obj, facts_map, facts_iter, facts_row, and_true, true_and] at hF)
              have hr0 := hA.row_reads (v := .slice ax L.length cap) (n := L.length) (xs := flatE L) (by with_reducible repeat (first | exact Sel.here | apply Sel.there))
              go_wp2_with (first
                | ((with_reducible show wpList _ _ _ ({ dst := _, op := Op.store _ _ _, type := _, pos := _, after := _, guard := _ } :: _) _ _); refine wpList_store_at rfl rfl rfl (by (try simp only [Act.eval, Array.getD_eq_getD_getElem?, List.getElem?_toArray, List.getElem?_cons_succ, List.getElem?_cons_zero, Option.getD_some]) <;> exact rfl) (by exact rfl) hA (by with_reducible repeat (first | exact Sel.here | apply Sel.there)) (by kernel_rfl) rfl (by first | decide | (simp; done) | omega) ?_; intro w1 hB; clear hF hA; have hA := hB; clear hB; (try simp only [setL, List.set_cons_zero, List.set_cons_succ, List.cons_append, List.nil_append] at hA); (have hF := hA.facts); (try simp only [facts_cons, facts_nil, facts_cells, facts_old, facts_fact, facts_obj, facts_map, facts_iter, facts_row, and_true, true_and] at hF)) | ((with_reducible show wpList _ _ _ ({ dst := _, op := Op.box _ _, type := _, pos := _, after := _, guard := _ } :: _) _ _); refine wpList_box_at rfl rfl (by (try simp only [Act.eval, Array.getD_eq_getD_getElem?, List.getElem?_toArray, List.getElem?_cons_succ, List.getElem?_cons_zero, Option.getD_some]) <;> exact rfl) (by exact rfl) hA ?_; intro b1 w1 hB hb1; clear hF hA; have hA := hB; clear hB; (try simp only [setL, List.set_cons_zero, List.set_cons_succ, List.cons_append, List.nil_append] at hA); (have hF := hA.facts); (try simp only [facts_cons, facts_nil, facts_cells, facts_old, facts_fact, facts_obj, facts_map, facts_iter, facts_row, and_true, true_and] at hF))
                | ((with_reducible show wpList _ _ _ ({ dst := _, op := Op.buildSlice _ _ _, type := _, pos := _, after := _, guard := _ } :: _) _ _); refine wpList_one_at (e := 79) (vs := Ent.cells ⟨p, n, f, mode, cc + 1, ms + 1⟩) rfl rfl (by (try simp only [Act.eval, Array.getD_eq_getD_getElem?, List.getElem?_toArray, List.getElem?_cons_succ, List.getElem?_cons_zero, Option.getD_some]) <;> exact rfl) (fun _ => one_E ⟨p, n, f, mode, cc + 1, ms + 1⟩ _) hA ?_; intro b2 w1 hB hb2; clear hF hA; have hA := hB; clear hB; (try simp only [setL, List.set_cons_zero, List.set_cons_succ, List.cons_append, List.nil_append] at hA); (have hF := hA.facts); (try simp only [facts_cons, facts_nil, facts_cells, facts_old, facts_fact, facts_obj, facts_map, facts_iter, facts_row, and_true, true_and] at hF))
                | ((with_reducible show wpList _ _ _ ({ dst := _, op := Op.call { callee := Callee.builtin Builtin.append, args := _, argTypes := _ }, type := _, pos := _, after := _, guard := _ } :: _) _ _); refine wpList_append_at (e := 79) (size := 6) (v := .slice ax3 n3 cap3) (xs := flatE L) (n := L.length) (m := 1) (news := Ent.cells ⟨p, n, f, mode, cc + 1, ms + 1⟩) rfl _ _ 65 rfl Tryz.underlying65 hi0 hz0 hz1 hz2 rfl (by omega) hA (by with_reducible repeat (first | exact Sel.here | apply Sel.there)) (by (try simp only [Act.eval, Array.getD_eq_getD_getElem?, List.getElem?_toArray, List.getElem?_cons_succ, List.getElem?_cons_zero, Option.getD_some]) <;> exact rfl) (by (try simp only [Act.eval, Array.getD_eq_getD_getElem?, List.getElem?_toArray, List.getElem?_cons_succ, List.getElem?_cons_zero, Option.getD_some]) <;> exact rfl) rfl (hA.cells_reads (by with_reducible repeat (first | exact Sel.here | apply Sel.there)) _ _) (Ent.one _) (by unfold maxLen; omega) (by omega) ?_; intro v2 w1 hB; rw [rowE_snoc] at hB; obtain ⟨ax4, n4, cap4, hv4, hn4⟩ := hB.row_hid .here; subst hv4; clear hF hA; have hA := hB; clear hB; (try simp only [setL, List.set_cons_zero, List.set_cons_succ, List.cons_append, List.nil_append] at hA); (have hF := hA.facts); (try simp only [facts_cons, facts_nil, facts_cells, facts_old, facts_fact, facts_obj, facts_map, facts_iter, facts_row, and_true, true_and] at hF))
                | ((with_reducible show wpList _ _ _ ({ dst := _, op := Op.call { callee := Callee.builtin Builtin.append, args := _, argTypes := _ }, type := _, pos := _, after := _, guard := _ } :: _) _ _); refine wpList_append_at (e := 79) (size := 6) (v := .slice none 0 0) (xs := flatE []) (n := ([] : List Ent).length) (m := L.length) (news := flatE L) rfl _ _ 65 rfl Tryz.underlying65 hi0 hz0 hz1 hz2 rfl (by omega) hA (by with_reducible repeat (first | exact Sel.here | apply Sel.there)) (by (try simp only [Act.eval, Array.getD_eq_getD_getElem?, List.getElem?_toArray, List.getElem?_cons_succ, List.getElem?_cons_zero, Option.getD_some]) <;> exact rfl) (by (try simp only [Act.eval, Array.getD_eq_getD_getElem?, List.getElem?_toArray, List.getElem?_cons_succ, List.getElem?_cons_zero, Option.getD_some]) <;> exact rfl) (flatE_len _) (hA.row_reads (v := .slice ax L.length cap) (n := L.length) (xs := flatE L) (by with_reducible repeat (first | exact Sel.here | apply Sel.there))) (flatE_one _) (by unfold maxLen; simp; omega) (by simp; omega) ?_; intro v1 w1 hB; rw [rowE_app0] at hB; obtain ⟨ax3, n3, cap3, hv3, hn3⟩ := hB.row_hid .here; subst hv3; clear hF hA; have hA := hB; clear hB; (try simp only [setL, List.set_cons_zero, List.set_cons_succ, List.cons_append, List.nil_append] at hA); (have hF := hA.facts); (try simp only [facts_cons, facts_nil, facts_cells, facts_old, facts_fact, facts_obj, facts_map, facts_iter, facts_row, and_true, true_and] at hF)))
              try go_frame
              (refine wp_region_store (a1 := ?a1_q6) (v := ?v_q6) 2 68 _ _ (b := bZ) (j := 0) (us := [.int .u64 first, .slice ax4 n4 cap4, .slice dx dn dcap]) (by kernel_rfl) (by kernel_rfl) rfl hA (by with_reducible repeat (first | exact Sel.here | apply Sel.there)) ?h1_q6 ?hx_q6 ?hy_q6 ?hu_q6 ?hsz_q6 ?hus_q6 ?hl_q6 ?h2_q6); (case h1_q6 => (intro R wR hR; (try clear hF); (simp only [List.take_succ_cons, List.take_zero, List.drop_succ_cons, List.drop_zero]); (have hn1 := Cl.none hR); (have hn2 := Cl.none2 hR); (repeat (first | go_big_quiet_skip | (go_big_quiet_want; (first | (refine quiet_loads_at (ty := 68) (n := 3) rfl rfl (by with_reducible repeat (first | exact Sel.here | apply Sel.there)) (by kernel_rfl) (by kernel_rfl) (by first | assumption | ((try simp only [List.drop_succ_cons, List.drop_zero, List.take_succ_cons, List.take_zero]) <;> exact rfl)) (by exact rfl) ?_; go_frame; go_big_quiet_on) | (refine quiet_loads_at (ty := 79) (n := 6) rfl rfl (by with_reducible repeat (first | exact Sel.here | apply Sel.there)) (by kernel_rfl) (by kernel_rfl) (by first | assumption | ((try simp only [List.drop_succ_cons, List.drop_zero, List.take_succ_cons, List.take_zero]) <;> exact rfl)) (by exact rfl) ?_; go_frame; go_big_quiet_on) | (refine quiet_load_at rfl rfl (by with_reducible repeat (first | exact Sel.here | apply Sel.there)) (by kernel_rfl) (by first | assumption | exact rfl) ?_; go_frame; go_big_quiet_on) | (go_big_quiet_op; (first | go_big_quiet_on)))))); (refine wpQuiet_nil ?_); exact rfl)); (case hx_q6 => (first | exact rfl | ((try simp only [Act.eval, Array.getD_eq_getD_getElem?, List.getElem?_toArray, List.getElem?_cons_succ, List.getElem?_cons_zero, Option.getD_some]); exact rfl))); (case hy_q6 => (first | exact rfl | ((try simp only [Act.eval, Array.getD_eq_getD_getElem?, List.getElem?_toArray, List.getElem?_cons_succ, List.getElem?_cons_zero, Option.getD_some]); exact rfl))); (case hu_q6 => exact rfl); (case hsz_q6 => kernel_rfl); (case hus_q6 => rfl); (case hl_q6 => (first | decide | (simp; done) | (simp; omega))); (intro w1 hB; clear hF hA; have hA := hB; clear hB; (simp only [List.drop_succ_cons, List.drop_zero]); (try simp only [setL, List.set_cons_zero, List.set_cons_succ, List.cons_append, List.nil_append] at hA); (have hF := hA.facts); (try simp only [facts_cons, facts_nil, facts_cells, facts_old, facts_fact, facts_obj, facts_map, facts_iter, facts_row, and_true, true_and] at hF); (try go_frame))
              go_wp2_with (first | ((with_reducible show wpList _ _ _ ({ dst := _, op := Op.store _ _ _, type := _, pos := _, after := _, guard := _ } :: _) _ _); refine wpList_store_at rfl rfl rfl (by (try simp only [Act.eval, Array.getD_eq_getD_getElem?, List.getElem?_toArray, List.getElem?_cons_succ, List.getElem?_cons_zero, Option.getD_some]) <;> exact rfl) (by exact rfl) hA (by with_reducible repeat (first | exact Sel.here | apply Sel.there)) (by kernel_rfl) rfl (by first | decide | (simp; done) | omega) ?_; intro w1 hB; clear hF hA; have hA := hB; clear hB; (try simp only [setL, List.set_cons_zero, List.set_cons_succ, List.cons_append, List.nil_append] at hA); (have hF := hA.facts); (try simp only [facts_cons, facts_nil, facts_cells, facts_old, facts_fact, facts_obj, facts_map, facts_iter, facts_row, and_true, true_and] at hF)) | ((with_reducible show wpList _ _ _ ({ dst := _, op := Op.box _ _, type := _, pos := _, after := _, guard := _ } :: _) _ _); refine wpList_box_at rfl rfl (by (try simp only [Act.eval, Array.getD_eq_getD_getElem?, List.getElem?_toArray, List.getElem?_cons_succ, List.getElem?_cons_zero, Option.getD_some]) <;> exact rfl) (by exact rfl) hA ?_; intro b1 w1 hB hb1; clear hF hA; have hA := hB; clear hB; (try simp only [setL, List.set_cons_zero, List.set_cons_succ, List.cons_append, List.nil_append] at hA); (have hF := hA.facts); (try simp only [facts_cons, facts_nil, facts_cells, facts_old, facts_fact, facts_obj, facts_map, facts_iter, facts_row, and_true, true_and] at hF)))
              refine bodyPost_ret (v := .tuple #[.agg #[.int .u64 first, .slice ax4 n4 cap4, .slice dx dn dcap], .agg #[.string p, .int .u64 n, .string f, .int .i64 mode, .int .u64 (cc + 1), .int .i64 (ms + 1)], .int .i64 0]) (by simp [results, Tryz.results54, go_sem, hF]) rfl ?_
              unfold AddPost S3.addE S3.add S3.added S3.newE
              rw [hc5.out, if_pos rfl, if_pos rfl]
              simp only [hcc'.out, hmm'.out]
              exact ⟨_, _, rfl, hA.pick (by with_reducible repeat (first | exact Picks.nil | refine Picks.cons (by with_reducible repeat (first | exact Sel.here | apply Sel.there)) ?_))⟩
end Go.Proofs.YtalfoiodejoicaaGreatDoor.Lock
end
