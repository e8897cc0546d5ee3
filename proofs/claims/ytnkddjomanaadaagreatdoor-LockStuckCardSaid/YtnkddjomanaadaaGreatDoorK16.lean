/- LockUa, LockUb, joined. -/
import Derived.Test.YtnkddjomanaadaaGreatDoorK15
section
namespace Go.Proofs.YtnkddjomanaadaaGreatDoor.Lock
open Go.RowKit
open Go.Maps (Keyed)
open Path (bl rightB overB)
set_option linter.unusedSimpArgs false
set_option linter.unusedVariables false

theorem counter_at {first : Int} {cs : List (ByteArray × Int)} {p : ByteArray} {i : Nat} (hi : i < cs.length) (hn : ∀ x ∈ cs.take i, x.1 ≠ p) (hy : cs[i].1 = p) : counter first cs p = cs[i].2 := by
  have h1 : cs = cs.take i ++ cs[i] :: cs.drop (i + 1) := by rw [List.getElem_cons_drop hi, List.take_append_drop]
  unfold counter ctr
  have h2 : cs.find? (fun x => decide (x.1 = p)) = some cs[i] := by
    rw [List.find?_eq_some_iff_append]
    exact ⟨by simp [hy], _, _, h1, fun x hx => by simpa using hn x hx⟩
  rw [h2]
  rfl
theorem counter_no {first : Int} {cs : List (ByteArray × Int)} {p : ByteArray} (hn : ∀ x ∈ cs, x.1 ≠ p) : counter first cs p = first := by
  unfold counter ctr
  rw [List.find?_eq_none.2 (fun x hx => by simpa using hn x hx)]
  rfl
theorem putC_at {cs : List (ByteArray × Int)} {p : ByteArray} {n : Int} {i : Nat} (hi : i < cs.length) (hn : ∀ x ∈ cs.take i, x.1 ≠ p) (hy : cs[i].1 = p) : putC cs p n = cs.set i (p, n) := by
  have h1 : cs = cs.take i ++ (p, cs[i].2) :: cs.drop (i + 1) := by
    have e : (p, cs[i].2) = cs[i] := by rw [← hy]
    rw [e, List.getElem_cons_drop hi, List.take_append_drop]
  rw [List.set_eq_take_append_cons_drop, if_pos hi]
  conv => lhs; rw [h1]
  exact putC_mid hn
theorem putC_no {cs : List (ByteArray × Int)} {p : ByteArray} {n : Int} (hn : ∀ x ∈ cs, x.1 ≠ p) : putC cs p n = cs ++ [(p, n)] := by
  refine putC_none ?_
  unfold ctr
  rw [List.find?_eq_none.2 (fun x hx => by simpa using hn x hx)]
  rfl
theorem take_moreC {L : List (ByteArray × Int)} {p : ByteArray} {i : Nat} (hi : i < L.length) (h : ∀ x ∈ L.take i, x.1 ≠ p) (h1 : L[i].1 ≠ p) : ∀ x ∈ L.take (i + 1), x.1 ≠ p := fun x hx => by
  rw [List.take_succ_eq_append_getElem hi] at hx
  rcases List.mem_append.1 hx with hx | hx
  · exact h x hx
  · rw [List.mem_singleton.1 hx]; exact h1
def CtrRel (w : World) (first : Int) (vL v : Value) (cs : List (ByteArray × Int)) (p : ByteArray) (b1 : Nat) (k : Nat) (u : Value) (wr : World) : Prop :=
  ∃ i : Nat, u = .int .i64 i ∧ i + k = cs.length ∧ At [rowC v cs] w [boxB b1 first vL v, rowC v cs] wr ∧ ∀ x ∈ cs.take i, x.1 ≠ p
set_option maxRecDepth 100000 in
set_option maxHeartbeats 2000000 in
theorem counterR_any {w : World} {v : Value} {cs : List (ByteArray × Int)} (h : Sep [rowC v cs] w) (first : Int) (vL : Value) (hvL : ∃ ax k cap, vL = .slice ax k cap) (p : ByteArray) (hmax : cs.length ≤ 1000000) :
    Calls Tryz.prog 60 #[.agg #[.int .u64 first, vL, v], .string p] w fun e w' => e = .returned (.int .u64 (counter first cs p)) ∧ At [rowC v cs] w [rowC v cs] w' := by
  obtain ⟨cx, ck, cc, rfl⟩ := hvL
  have hA := At.start h
  have hF := hA.facts
  clear h
  obtain ⟨ax, cap, rfl, hax, hcap, _⟩ := hA.row_form (v := v) (xs := flatC cs) (by with_reducible repeat (first | exact Sel.here | apply Sel.there))
  (try simp only [setL, List.set_cons_zero, List.set_cons_succ, List.cons_append, List.nil_append] at hA); (have hF := hA.facts); (try simp only [facts_cons, facts_nil, facts_cells, facts_old, facts_fact, facts_obj, facts_map, facts_iter, facts_row, and_true, true_and] at hF)
  go_enter Tryz.func60, Tryz.ntmps60
  go_wp2_with (first | ((with_reducible show wpList _ _ _ ({ dst := _, op := Op.box _ _, type := _, pos := _, after := _, guard := _ } :: _) _ _); refine wpList_box_at (E := 31) rfl rfl (by (try simp only [Act.eval, Array.getD_eq_getD_getElem?, List.getElem?_toArray, List.getElem?_cons_succ, List.getElem?_cons_zero, Option.getD_some]) <;> exact rfl) (by exact rfl) hA ?_; intro bB w1 hB hbB; clear hF hA; have hA := hB; clear hB; (try simp only [setL, List.set_cons_zero, List.set_cons_succ, List.cons_append, List.nil_append] at hA); (have hF := hA.facts); (try simp only [facts_cons, facts_nil, facts_cells, facts_old, facts_fact, facts_obj, facts_map, facts_iter, facts_row, and_true, true_and] at hF)) | ((with_reducible show wpList _ _ _ ({ dst := _, op := Op.store _ _ _, type := _, pos := _, after := _, guard := _ } :: _) _ _); refine wpList_store_at rfl rfl rfl (by (try simp only [Act.eval, Array.getD_eq_getD_getElem?, List.getElem?_toArray, List.getElem?_cons_succ, List.getElem?_cons_zero, Option.getD_some]) <;> exact rfl) (by exact rfl) hA (by with_reducible repeat (first | exact Sel.here | apply Sel.there)) (by kernel_rfl) rfl (by first | decide | (simp; done) | omega) ?_; intro w1 hB; clear hF hA; have hA := hB; clear hB; (try simp only [setL, List.set_cons_zero, List.set_cons_succ, List.cons_append, List.nil_append] at hA); (have hF := hA.facts); (try simp only [facts_cons, facts_nil, facts_cells, facts_old, facts_fact, facts_obj, facts_map, facts_iter, facts_row, and_true, true_and] at hF)) | ((with_reducible show wpList _ _ _ ({ dst := _, op := Op.box _ _, type := _, pos := _, after := _, guard := _ } :: _) _ _); refine wpList_box_at rfl rfl (by (try simp only [Act.eval, Array.getD_eq_getD_getElem?, List.getElem?_toArray, List.getElem?_cons_succ, List.getElem?_cons_zero, Option.getD_some]) <;> exact rfl) (by exact rfl) hA ?_; intro b1 w1 hB hb1; clear hF hA; have hA := hB; clear hB; (try simp only [setL, List.set_cons_zero, List.set_cons_succ, List.cons_append, List.nil_append] at hA); (have hF := hA.facts); (try simp only [facts_cons, facts_nil, facts_cells, facts_old, facts_fact, facts_obj, facts_map, facts_iter, facts_row, and_true, true_and] at hF)))
  try go_frame
  go_loopg [5] cs.length (CtrRel w first (.slice cx ck cc) (.slice ax cs.length cap) cs p bB)
  case atStart => exact ⟨0, rfl, by simp, hA, by simp⟩
  case round =>
    obtain ⟨i, rfl, hik, hB, hno⟩ := hrel
    have hno' := Lib.hid hno
    clear hF hA hno
    have hA := hB
    clear hB
    by_cases hi : i < cs.length
    · obtain ⟨g, c, rfl, _, hcm, hcl, hct, hB⟩ := hA.row_open (ax := ax) (cap := cap) (n := cs.length) (xs := flatC cs) (by with_reducible repeat (first | exact Sel.here | apply Sel.there)) (by omega)
      have hx : cs[i]? = some cs[i] := List.getElem?_eq_getElem hi
      have c0 : c[i * 2]? = some (.string cs[i].1) := cells_at ctrL_len hct hx 0 (by omega)
      have c1 : c[i * 2 + 1]? = some (.int .u64 cs[i].2) := cells_at ctrL_len hct hx 1 (by omega)
      clear hA
      have hA := hB
      clear hB
      (try simp only [setL, List.set_cons_zero, List.set_cons_succ, List.cons_append, List.nil_append] at hA); (have hF := hA.facts); (try simp only [facts_cons, facts_nil, facts_cells, facts_old, facts_fact, facts_obj, facts_map, facts_iter, facts_row, and_true, true_and] at hF)
      by_cases h1 : cs[i].1 = p
      · have e1 : (cs[i].1.toList == p.toList) = true := by rw [same_ba]; exact decide_eq_true h1
        have hd := Lib.hid (counter_at (first := first) hi hno'.out h1)
        clear h1 hx
        go_wp2_with fail
        go_ret
        exact ⟨by rw [hd.out]; rfl, (shut_C hA (by with_reducible repeat (first | exact Sel.here | apply Sel.there)) hcl hcap hcm hct).only1 (by with_reducible repeat (first | exact Sel.here | apply Sel.there))⟩
      · have e1 : (cs[i].1.toList == p.toList) = false := by rw [same_ba]; exact decide_eq_false h1
        have hm := Lib.hid (take_moreC hi hno'.out h1)
        clear h1 hx
        go_wp2_with fail
        go_roundg (gk - 1)
        case measure => omega
        case rel => exact ⟨i + 1, by simp, by omega, (shut_C hA (by with_reducible repeat (first | exact Sel.here | apply Sel.there)) hcl hcap hcm hct).pick (by with_reducible repeat (first | exact Picks.nil | refine Picks.cons (by with_reducible repeat (first | exact Sel.here | apply Sel.there)) ?_)), hm.out⟩
    · have hd := Lib.hid (counter_no (first := first) (fun x hx => hno'.out x (by rw [List.take_of_length_le (by omega)]; exact hx)))
      (try simp only [setL, List.set_cons_zero, List.set_cons_succ, List.cons_append, List.nil_append] at hA); (have hF := hA.facts); (try simp only [facts_cons, facts_nil, facts_cells, facts_old, facts_fact, facts_obj, facts_map, facts_iter, facts_row, and_true, true_and] at hF)
      go_wp2_with fail
      go_ret
      exact ⟨by rw [hd.out]; rfl, hA.only1 (by with_reducible repeat (first | exact Sel.here | apply Sel.there))⟩

/-! ### count -/
def CntRel (w : World) (first : Int) (vL v u7 : Value) (cs : List (ByteArray × Int)) (p : ByteArray) (b1 b2 : Nat) (k : Nat) (u : Value) (wr : World) : Prop :=
  ∃ i : Nat, u = .int .i64 i ∧ i + k = cs.length ∧ At [rowC v cs] w [rowC u7 cs, boxB b1 first vL v, boxB b2 0 (.slice none 0 0) (.slice none 0 0), rowC v cs] wr ∧ ∀ x ∈ cs.take i, x.1 ≠ p
def CountPost (w : World) (first : Int) (vL v : Value) (cs : List (ByteArray × Int)) (p : ByteArray) (n : Int) (e : Ending) (w' : World) : Prop :=
  ∃ v', e = .returned (.agg #[.int .u64 first, vL, v']) ∧ At [rowC v cs] w [rowC v' (putC cs p n)] w'
set_option maxRecDepth 100000 in
set_option maxHeartbeats 2000000 in
theorem countR_any {w : World} {v : Value} {cs : List (ByteArray × Int)} (h : Sep [rowC v cs] w) (first : Int) (vL : Value) (hvL : ∃ ax k cap, vL = .slice ax k cap) (p : ByteArray) (n : Int) (hmax : cs.length ≤ 1000000) :
    Calls Tryz.prog 61 #[.agg #[.int .u64 first, vL, v], .string p, .int .u64 n] w (CountPost w first vL v cs p n) := by
  obtain ⟨cx, ck, cc, rfl⟩ := hvL
  obtain ⟨i0, hi0, hz0, hz1, hz2⟩ := info_parts infoC
  have hA := At.start h
  have hF := hA.facts
  clear h
  obtain ⟨ax, cap, rfl, hax, hcap, _⟩ := hA.row_form (v := v) (xs := flatC cs) (by with_reducible repeat (first | exact Sel.here | apply Sel.there))
  have hr0 := hA.row_reads (v := .slice ax cs.length cap) (xs := flatC cs) (by with_reducible repeat (first | exact Sel.here | apply Sel.there))
  have hA := row_nilC hA
  (try simp only [setL, List.set_cons_zero, List.set_cons_succ, List.cons_append, List.nil_append] at hA); (have hF := hA.facts); (try simp only [facts_cons, facts_nil, facts_cells, facts_old, facts_fact, facts_obj, facts_map, facts_iter, facts_row, and_true, true_and] at hF)
  go_enter Tryz.func61, Tryz.ntmps61
  go_wp2_with (first
    | ((with_reducible show wpList _ _ _ ({ dst := _, op := Op.box _ _, type := _, pos := _, after := _, guard := _ } :: _) _ _); refine wpList_box_at (E := 31) rfl rfl (by (try simp only [Act.eval, Array.getD_eq_getD_getElem?, List.getElem?_toArray, List.getElem?_cons_succ, List.getElem?_cons_zero, Option.getD_some]) <;> exact rfl) (by exact rfl) hA ?_; intro bB w1 hB hbB; clear hF hA; have hA := hB; clear hB; (try simp only [setL, List.set_cons_zero, List.set_cons_succ, List.cons_append, List.nil_append] at hA); (have hF := hA.facts); (try simp only [facts_cons, facts_nil, facts_cells, facts_old, facts_fact, facts_obj, facts_map, facts_iter, facts_row, and_true, true_and] at hF))
    | ((with_reducible show wpList _ _ _ ({ dst := _, op := Op.alloc _, type := _, pos := _, after := _, guard := _ } :: _) _ _); refine wpList_alloc_at (E := 31) (z := .agg #[.int .u64 0, .slice none 0 0, .slice none 0 0]) (vs := [.int .u64 0, .slice none 0 0, .slice none 0 0]) rfl rfl (by kernel_rfl) rfl hA ?_; intro bZ w1 hB hbZ; clear hF hA; have hA := hB; clear hB; (try simp only [setL, List.set_cons_zero, List.set_cons_succ, List.cons_append, List.nil_append] at hA); (have hF := hA.facts); (try simp only [facts_cons, facts_nil, facts_cells, facts_old, facts_fact, facts_obj, facts_map, facts_iter, facts_row, and_true, true_and] at hF))
    | ((with_reducible show wpList _ _ _ ({ dst := _, op := Op.store _ _ _, type := _, pos := _, after := _, guard := _ } :: _) _ _); refine wpList_store_at rfl rfl rfl (by (try simp only [Act.eval, Array.getD_eq_getD_getElem?, List.getElem?_toArray, List.getElem?_cons_succ, List.getElem?_cons_zero, Option.getD_some]) <;> exact rfl) (by exact rfl) hA (by with_reducible repeat (first | exact Sel.here | apply Sel.there)) (by kernel_rfl) rfl (by first | decide | (simp; done) | omega) ?_; intro w1 hB; clear hF hA; have hA := hB; clear hB; (try simp only [setL, List.set_cons_zero, List.set_cons_succ, List.cons_append, List.nil_append] at hA); (have hF := hA.facts); (try simp only [facts_cons, facts_nil, facts_cells, facts_old, facts_fact, facts_obj, facts_map, facts_iter, facts_row, and_true, true_and] at hF)) | ((with_reducible show wpList _ _ _ ({ dst := _, op := Op.box _ _, type := _, pos := _, after := _, guard := _ } :: _) _ _); refine wpList_box_at rfl rfl (by (try simp only [Act.eval, Array.getD_eq_getD_getElem?, List.getElem?_toArray, List.getElem?_cons_succ, List.getElem?_cons_zero, Option.getD_some]) <;> exact rfl) (by exact rfl) hA ?_; intro b1 w1 hB hb1; clear hF hA; have hA := hB; clear hB; (try simp only [setL, List.set_cons_zero, List.set_cons_succ, List.cons_append, List.nil_append] at hA); (have hF := hA.facts); (try simp only [facts_cons, facts_nil, facts_cells, facts_old, facts_fact, facts_obj, facts_map, facts_iter, facts_row, and_true, true_and] at hF))
    | (refine wpList_append_at (e := 58) (size := 2) (v := .slice none 0 0) (xs := flatC []) (n := ([] : List (ByteArray × Int)).length) (m := cs.length) (news := flatC cs) rfl _ _ 29 rfl Tryz.underlying29 hi0 hz0 hz1 hz2 rfl (by omega) hA (by with_reducible repeat (first | exact Sel.here | apply Sel.there)) (by (try simp only [Act.eval, Array.getD_eq_getD_getElem?, List.getElem?_toArray, List.getElem?_cons_succ, List.getElem?_cons_zero, Option.getD_some]) <;> exact rfl) (by (try simp only [Act.eval, Array.getD_eq_getD_getElem?, List.getElem?_toArray, List.getElem?_cons_succ, List.getElem?_cons_zero, Option.getD_some]) <;> exact rfl) (flatC_len _) (hA.row_reads (v := .slice ax cs.length cap) (n := cs.length) (xs := flatC cs) (by with_reducible repeat (first | exact Sel.here | apply Sel.there))) (flatC_one _) (by unfold maxLen; simp; omega) (by simp; omega) ?_; intro v1 w1 hB; rw [rowC_app0] at hB; clear hF hA; have hA := hB; clear hB; (try simp only [setL, List.set_cons_zero, List.set_cons_succ, List.cons_append, List.nil_append] at hA); (have hF := hA.facts); (try simp only [facts_cons, facts_nil, facts_cells, facts_old, facts_fact, facts_obj, facts_map, facts_iter, facts_row, and_true, true_and] at hF)))
  try go_frame
  obtain ⟨bx, bn, bcap, hv1, hbn⟩ := hA.row_hid (v := v1) (n := cs.length) (xs := flatC cs) (by with_reducible repeat (first | exact Sel.here | apply Sel.there))
  subst hv1
  go_loopg [8] cs.length (CntRel w first (.slice cx ck cc) (.slice ax cs.length cap) (.slice bx bn bcap) cs p bB bZ)
  case atStart => exact ⟨0, rfl, by simp, hA.pick (by with_reducible repeat (first | exact Picks.nil | refine Picks.cons (by with_reducible repeat (first | exact Sel.here | apply Sel.there)) ?_)), by simp⟩
  case round =>
    obtain ⟨i, rfl, hik, hB, hno⟩ := hrel
    have hno' := Lib.hid hno
    clear hF hA hno
    have hA := hB
    clear hB
    have hbn' : bn = cs.length := hbn.out
    subst hbn'
    by_cases hi : i < cs.length
    · obtain ⟨g, c, rfl, hcap1, hcm, hcl, hct, hB⟩ := hA.row_open (ax := bx) (cap := bcap) (n := cs.length) (xs := flatC cs) (by with_reducible repeat (first | exact Sel.here | apply Sel.there)) (by omega)
      have hx : cs[i]? = some cs[i] := List.getElem?_eq_getElem hi
      have c0 : c[i * 2]? = some (.string cs[i].1) := cells_at ctrL_len hct hx 0 (by omega)
      have c1 : c[i * 2 + 1]? = some (.int .u64 cs[i].2) := cells_at ctrL_len hct hx 1 (by omega)
      have hlt : i * 2 + 1 < c.length := by rw [hcl]; omega
      clear hA
      have hA := hB
      clear hB
      (try simp only [setL, List.set_cons_zero, List.set_cons_succ, List.cons_append, List.nil_append] at hA); (have hF := hA.facts); (try simp only [facts_cons, facts_nil, facts_cells, facts_old, facts_fact, facts_obj, facts_map, facts_iter, facts_row, and_true, true_and] at hF)
      by_cases h1 : cs[i].1 = p
      · have e1 : (cs[i].1.toList == p.toList) = true := by rw [same_ba]; exact decide_eq_true h1
        have hd := Lib.hid (putC_at (n := n) hi hno'.out h1)
        have hw2 : (c.set (i * 2 + 1) (.int .u64 n)).take ((cs.set i (p, n)).length * 2) = flatC (cs.set i (p, n)) := by
          have e2 : (setL c (i * 2) (ctrL (p, n))).take ((cs.set i (p, n)).length * 2) = flatC (cs.set i (p, n)) := write_row ctrL_len hct hi (p, n)
          rw [← e2]
          congr 1
          have c0' : c[i * 2]? = some (.string p) := by rw [c0, h1]
          have hs : c.set (i * 2) (.string p) = c := by
            apply List.ext_getElem?
            intro j
            by_cases hj : i * 2 = j
            · subst hj; rw [List.getElem?_set_self (by omega), c0']
            · rw [List.getElem?_set_ne hj]
          show c.set (i * 2 + 1) _ = (c.set (i * 2) _).set (i * 2 + 1) _
          rw [hs]
        have hw3 := Lib.hid hw2
        clear h1 hx hw2
        go_wp2_with (first | ((with_reducible show wpList _ _ _ ({ dst := _, op := Op.box _ _, type := _, pos := _, after := _, guard := _ } :: _) _ _); refine wpList_box_at (E := 31) rfl rfl (by (try simp only [Act.eval, Array.getD_eq_getD_getElem?, List.getElem?_toArray, List.getElem?_cons_succ, List.getElem?_cons_zero, Option.getD_some]) <;> exact rfl) (by exact rfl) hA ?_; intro bQ w1 hB hbQ; clear hF hA; have hA := hB; clear hB; (try simp only [setL, List.set_cons_zero, List.set_cons_succ, List.cons_append, List.nil_append] at hA); (have hF := hA.facts); (try simp only [facts_cons, facts_nil, facts_cells, facts_old, facts_fact, facts_obj, facts_map, facts_iter, facts_row, and_true, true_and] at hF)) | ((with_reducible show wpList _ _ _ ({ dst := _, op := Op.store _ _ _, type := _, pos := _, after := _, guard := _ } :: _) _ _); refine wpList_store_at rfl rfl rfl (by (try simp only [Act.eval, Array.getD_eq_getD_getElem?, List.getElem?_toArray, List.getElem?_cons_succ, List.getElem?_cons_zero, Option.getD_some]) <;> exact rfl) (by exact rfl) hA (by with_reducible repeat (first | exact Sel.here | apply Sel.there)) (by kernel_rfl) rfl (by first | decide | (simp; done) | omega) ?_; intro w1 hB; clear hF hA; have hA := hB; clear hB; (try simp only [setL, List.set_cons_zero, List.set_cons_succ, List.cons_append, List.nil_append] at hA); (have hF := hA.facts); (try simp only [facts_cons, facts_nil, facts_cells, facts_old, facts_fact, facts_obj, facts_map, facts_iter, facts_row, and_true, true_and] at hF)) | ((with_reducible show wpList _ _ _ ({ dst := _, op := Op.box _ _, type := _, pos := _, after := _, guard := _ } :: _) _ _); refine wpList_box_at rfl rfl (by (try simp only [Act.eval, Array.getD_eq_getD_getElem?, List.getElem?_toArray, List.getElem?_cons_succ, List.getElem?_cons_zero, Option.getD_some]) <;> exact rfl) (by exact rfl) hA ?_; intro b1 w1 hB hb1; clear hF hA; have hA := hB; clear hB; (try simp only [setL, List.set_cons_zero, List.set_cons_succ, List.cons_append, List.nil_append] at hA); (have hF := hA.facts); (try simp only [facts_cons, facts_nil, facts_cells, facts_old, facts_fact, facts_obj, facts_map, facts_iter, facts_row, and_true, true_and] at hF)) | (refine wpList_store_at (b := g) (j := i * 2 + 1) (vs := [.int .u64 n]) rfl rfl rfl (by (try simp only [Act.eval, Array.getD_eq_getD_getElem?, List.getElem?_toArray, List.getElem?_cons_succ, List.getElem?_cons_zero, Option.getD_some]) <;> exact rfl) (by exact rfl) hA (by with_reducible repeat (first | exact Sel.here | apply Sel.there)) (by kernel_rfl) rfl (by show i * 2 + 1 + 1 ≤ c.length; omega) ?_; intro w1 hB; clear hF hA; have hA := hB; clear hB; (try simp only [setL, List.set_cons_zero, List.set_cons_succ, List.cons_append, List.nil_append] at hA); (have hF := hA.facts); (try simp only [facts_cons, facts_nil, facts_cells, facts_old, facts_fact, facts_obj, facts_map, facts_iter, facts_row, and_true, true_and] at hF)))
        have hsl : (cs.set i (p, n)).length = cs.length := by simp
        refine bodyPost_ret (v := .agg #[.int .u64 first, .slice cx ck cc, .slice (some ⟨g, 0, none⟩) cs.length bcap]) (by simp [results, Tryz.results61, go_sem, hF]) rfl ⟨_, rfl, ?_⟩
        have hB := shut_C (L := cs.set i (p, n)) hA (by with_reducible repeat (first | exact Sel.here | apply Sel.there)) (by rw [List.length_set]; exact hcl) (by rw [hsl]; exact hcap1) hcm hw3.out
        rw [hsl] at hB
        rw [hd.out]
        exact hB.only1 (by with_reducible repeat (first | exact Sel.here | apply Sel.there))
      · have e1 : (cs[i].1.toList == p.toList) = false := by rw [same_ba]; exact decide_eq_false h1
        have hm := Lib.hid (take_moreC hi hno'.out h1)
        clear h1 hx
        go_wp2_with fail
        go_roundg (gk - 1)
        case measure => omega
        case rel => exact ⟨i + 1, by simp, by omega, (shut_C hA (by with_reducible repeat (first | exact Sel.here | apply Sel.there)) hcl hcap1 hcm hct).pick (by with_reducible repeat (first | exact Picks.nil | refine Picks.cons (by with_reducible repeat (first | exact Sel.here | apply Sel.there)) ?_)), hm.out⟩
    · have hd := Lib.hid (putC_no (n := n) (fun x hx => hno'.out x (by rw [List.take_of_length_le (by omega)]; exact hx)))
      (try simp only [setL, List.set_cons_zero, List.set_cons_succ, List.cons_append, List.nil_append] at hA); (have hF := hA.facts); (try simp only [facts_cons, facts_nil, facts_cells, facts_old, facts_fact, facts_obj, facts_map, facts_iter, facts_row, and_true, true_and] at hF)
      go_wp2_with (first
        | ((with_reducible show wpList _ _ _ ({ dst := _, op := Op.store _ _ _, type := _, pos := _, after := _, guard := _ } :: _) _ _); refine wpList_store_at rfl rfl rfl (by (try simp only [Act.eval, Array.getD_eq_getD_getElem?, List.getElem?_toArray, List.getElem?_cons_succ, List.getElem?_cons_zero, Option.getD_some]) <;> exact rfl) (by exact rfl) hA (by with_reducible repeat (first | exact Sel.here | apply Sel.there)) (by kernel_rfl) rfl (by first | decide | (simp; done) | omega) ?_; intro w1 hB; clear hF hA; have hA := hB; clear hB; (try simp only [setL, List.set_cons_zero, List.set_cons_succ, List.cons_append, List.nil_append] at hA); (have hF := hA.facts); (try simp only [facts_cons, facts_nil, facts_cells, facts_old, facts_fact, facts_obj, facts_map, facts_iter, facts_row, and_true, true_and] at hF)) | ((with_reducible show wpList _ _ _ ({ dst := _, op := Op.box _ _, type := _, pos := _, after := _, guard := _ } :: _) _ _); refine wpList_box_at rfl rfl (by (try simp only [Act.eval, Array.getD_eq_getD_getElem?, List.getElem?_toArray, List.getElem?_cons_succ, List.getElem?_cons_zero, Option.getD_some]) <;> exact rfl) (by exact rfl) hA ?_; intro b1 w1 hB hb1; clear hF hA; have hA := hB; clear hB; (try simp only [setL, List.set_cons_zero, List.set_cons_succ, List.cons_append, List.nil_append] at hA); (have hF := hA.facts); (try simp only [facts_cons, facts_nil, facts_cells, facts_old, facts_fact, facts_obj, facts_map, facts_iter, facts_row, and_true, true_and] at hF)) | ((with_reducible show wpList _ _ _ ({ dst := _, op := Op.alloc _, type := _, pos := _, after := _, guard := _ } :: _) _ _); refine wpList_alloc_at (E := 58) (z := .agg #[.string .empty, .int .u64 0]) (vs := [.string .empty, .int .u64 0]) rfl rfl (by kernel_rfl) rfl hA ?_; intro b1 w1 hB hb1; clear hF hA; have hA := hB; clear hB; (try simp only [setL, List.set_cons_zero, List.set_cons_succ, List.cons_append, List.nil_append] at hA); (have hF := hA.facts); (try simp only [facts_cons, facts_nil, facts_cells, facts_old, facts_fact, facts_obj, facts_map, facts_iter, facts_row, and_true, true_and] at hF))
        | (refine wpList_one_at (e := 58) (vs := ctrL (p, n)) rfl rfl (by (try simp only [Act.eval, Array.getD_eq_getD_getElem?, List.getElem?_toArray, List.getElem?_cons_succ, List.getElem?_cons_zero, Option.getD_some]) <;> exact rfl) (fun _ => by kernel_rfl) hA ?_; intro b2 w1 hB hb2; clear hF hA; have hA := hB; clear hB; (try simp only [setL, List.set_cons_zero, List.set_cons_succ, List.cons_append, List.nil_append] at hA); (have hF := hA.facts); (try simp only [facts_cons, facts_nil, facts_cells, facts_old, facts_fact, facts_obj, facts_map, facts_iter, facts_row, and_true, true_and] at hF))
        | (refine wpList_append_at (e := 58) (size := 2) (v := .slice bx cs.length bcap) (xs := flatC cs) (n := cs.length) (m := 1) (news := ctrL (p, n)) rfl _ _ 29 rfl Tryz.underlying29 hi0 hz0 hz1 hz2 rfl (by omega) hA (by with_reducible repeat (first | exact Sel.here | apply Sel.there)) (by (try simp only [Act.eval, Array.getD_eq_getD_getElem?, List.getElem?_toArray, List.getElem?_cons_succ, List.getElem?_cons_zero, Option.getD_some]) <;> exact rfl) (by (try simp only [Act.eval, Array.getD_eq_getD_getElem?, List.getElem?_toArray, List.getElem?_cons_succ, List.getElem?_cons_zero, Option.getD_some]) <;> exact rfl) rfl (hA.cells_reads (by with_reducible repeat (first | exact Sel.here | apply Sel.there)) _ _) (ctrL_one _) (by unfold maxLen; omega) (by omega) ?_; intro v2 w1 hB; rw [rowC_snoc] at hB; obtain ⟨ax3, n3, cap3, hv3, hn3⟩ := hB.row_hid .here; subst hv3; clear hF hA; have hA := hB; clear hB; (try simp only [setL, List.set_cons_zero, List.set_cons_succ, List.cons_append, List.nil_append] at hA); (have hF := hA.facts); (try simp only [facts_cons, facts_nil, facts_cells, facts_old, facts_fact, facts_obj, facts_map, facts_iter, facts_row, and_true, true_and] at hF)))
      refine bodyPost_ret (v := .agg #[.int .u64 first, .slice cx ck cc, .slice ax3 n3 cap3]) (by simp [results, Tryz.results61, go_sem, hF]) rfl ⟨_, rfl, ?_⟩
      rw [hd.out]
      exact hA.only1 (by with_reducible repeat (first | exact Sel.here | apply Sel.there))
end Go.Proofs.YtnkddjomanaadaaGreatDoor.Lock
end

section
namespace Go.Proofs.YtnkddjomanaadaaGreatDoor.Lock
open Go.RowKit
open Go.Maps (Keyed)
open Path (bl rightB overB)
set_option linter.unusedSimpArgs false
set_option linter.unusedVariables false

def GrRel (w : World) (first : Int) (v vC : Value) (L : List Ent) (e : Ent) (m : Nat) (b1 : Nat) (k : Nat) (u : Value) (wr : World) : Prop :=
  ∃ i : Nat, u = .int .i64 i ∧ i + k = m ∧ At [rowE v L] w [boxB b1 first v vC, rowE v L] wr ∧ ∀ x ∈ L.take i, wayB x e = false
theorem grant_yes {L : List Ent} {k : Nat} (hk : k < L.length) (h : ∀ x ∈ L.take k, wayB x L[k] = false) : grantD L k = true := by
  unfold grantD
  rw [List.getElem?_eq_getElem hk]
  simp only [List.all_eq_true]
  intro x hx
  rw [h x hx]
  rfl
theorem grant_no {L : List Ent} {k i : Nat} (hk : k < L.length) (hi : i < k) (h : wayB (L[i]'(by omega)) L[k] = true) : grantD L k = false := by
  unfold grantD
  rw [List.getElem?_eq_getElem hk]
  simp only [List.all_eq_false]
  exact ⟨L[i]'(by omega), List.mem_take_iff_getElem.2 ⟨i, by omega, rfl⟩, by rw [h]; simp⟩
set_option maxRecDepth 100000 in
set_option maxHeartbeats 2000000 in
theorem grantedR_any {w : World} {v : Value} {L : List Ent} (h : Sep [rowE v L] w) (first : Int) (vC : Value) (hvC : ∃ ax k cap, vC = .slice ax k cap) (k : Nat) (hk : k < L.length) (hmax : L.length ≤ 1000000) (hsz : ∀ x ∈ L, x.path.size ≤ 1000) :
    Calls Tryz.prog 13 #[.agg #[.int .u64 first, v, vC], .int .i64 k] w fun e w' => e = .returned (.bool (grantD L k)) ∧ At [rowE v L] w [rowE v L] w' := by
  obtain ⟨cx, ck, cc, rfl⟩ := hvC
  have hA := At.start h
  have hF := hA.facts
  clear h
  obtain ⟨ax, cap, rfl, hax, hcap, _⟩ := hA.row_form (v := v) (xs := flatE L) (by with_reducible repeat (first | exact Sel.here | apply Sel.there))
  (try simp only [setL, List.set_cons_zero, List.set_cons_succ, List.cons_append, List.nil_append] at hA); (have hF := hA.facts); (try simp only [facts_cons, facts_nil, facts_cells, facts_old, facts_fact, facts_obj, facts_map, facts_iter, facts_row, and_true, true_and] at hF)
  go_enter Tryz.func13, Tryz.ntmps13
  go_wp2_with (first | ((with_reducible show wpList _ _ _ ({ dst := _, op := Op.box _ _, type := _, pos := _, after := _, guard := _ } :: _) _ _); refine wpList_box_at (E := 31) rfl rfl (by (try simp only [Act.eval, Array.getD_eq_getD_getElem?, List.getElem?_toArray, List.getElem?_cons_succ, List.getElem?_cons_zero, Option.getD_some]) <;> exact rfl) (by exact rfl) hA ?_; intro bB w1 hB hbB; clear hF hA; have hA := hB; clear hB; (try simp only [setL, List.set_cons_zero, List.set_cons_succ, List.cons_append, List.nil_append] at hA); (have hF := hA.facts); (try simp only [facts_cons, facts_nil, facts_cells, facts_old, facts_fact, facts_obj, facts_map, facts_iter, facts_row, and_true, true_and] at hF)) | ((with_reducible show wpList _ _ _ ({ dst := _, op := Op.store _ _ _, type := _, pos := _, after := _, guard := _ } :: _) _ _); refine wpList_store_at rfl rfl rfl (by (try simp only [Act.eval, Array.getD_eq_getD_getElem?, List.getElem?_toArray, List.getElem?_cons_succ, List.getElem?_cons_zero, Option.getD_some]) <;> exact rfl) (by exact rfl) hA (by with_reducible repeat (first | exact Sel.here | apply Sel.there)) (by kernel_rfl) rfl (by first | decide | (simp; done) | omega) ?_; intro w1 hB; clear hF hA; have hA := hB; clear hB; (try simp only [setL, List.set_cons_zero, List.set_cons_succ, List.cons_append, List.nil_append] at hA); (have hF := hA.facts); (try simp only [facts_cons, facts_nil, facts_cells, facts_old, facts_fact, facts_obj, facts_map, facts_iter, facts_row, and_true, true_and] at hF)) | ((with_reducible show wpList _ _ _ ({ dst := _, op := Op.box _ _, type := _, pos := _, after := _, guard := _ } :: _) _ _); refine wpList_box_at rfl rfl (by (try simp only [Act.eval, Array.getD_eq_getD_getElem?, List.getElem?_toArray, List.getElem?_cons_succ, List.getElem?_cons_zero, Option.getD_some]) <;> exact rfl) (by exact rfl) hA ?_; intro b1 w1 hB hb1; clear hF hA; have hA := hB; clear hB; (try simp only [setL, List.set_cons_zero, List.set_cons_succ, List.cons_append, List.nil_append] at hA); (have hF := hA.facts); (try simp only [facts_cons, facts_nil, facts_cells, facts_old, facts_fact, facts_obj, facts_map, facts_iter, facts_row, and_true, true_and] at hF)))
  try go_frame
  go_loopg [5] k (GrRel w first (.slice ax L.length cap) (.slice cx ck cc) L L[k] k bB)
  case atStart => exact ⟨0, rfl, by simp, hA, by simp⟩
  case round =>
    obtain ⟨i, rfl, hik, hB, hno⟩ := hrel
    have hno' := Lib.hid hno
    clear hF hA hno
    have hA := hB
    clear hB
    by_cases hi : i < k
    · obtain ⟨g, c, rfl, _, hcm, hcl, hct, hB⟩ := hA.row_open (ax := ax) (cap := cap) (n := L.length) (xs := flatE L) (by with_reducible repeat (first | exact Sel.here | apply Sel.there)) (by omega)
      have hiL : i < L.length := by omega
      have hx : L[i]? = some L[i] := List.getElem?_eq_getElem hiL
      have hy : L[k]? = some L[k] := List.getElem?_eq_getElem hk
      have hd1 : (c.drop (i * 6)).take 6 = [.string L[i].path, .int .u64 L[i].num, .string L[i].foot, .int .i64 L[i].mode, .int .u64 L[i].n, .int .i64 L[i].stamp] := row_cells Ent.cells_len hct hx
      have hd2 : (c.drop (k * 6)).take 6 = [.string L[k].path, .int .u64 L[k].num, .string L[k].foot, .int .i64 L[k].mode, .int .u64 L[k].n, .int .i64 L[k].stamp] := row_cells Ent.cells_len hct hy
      have hway := fun w1 => wayR_any L[i] L[k] w1 (hsz _ (List.getElem_mem hiL)) (hsz _ (List.getElem_mem hk))
      have hbad := Lib.hid (grant_no hk hi)
      have hgood := Lib.hid (take_more (P := fun x => wayB x L[k]) hiL hno'.out)
      obtain ⟨wb, hwb⟩ : ∃ wb, wayB L[i] L[k] = wb := ⟨_, rfl⟩
      rw [hwb] at hway
      have hwb' := Lib.hid hwb
      clear hA hwb hx hy
      have hA := hB
      clear hB
      (try simp only [setL, List.set_cons_zero, List.set_cons_succ, List.cons_append, List.nil_append] at hA); (have hF := hA.facts); (try simp only [facts_cons, facts_nil, facts_cells, facts_old, facts_fact, facts_obj, facts_map, facts_iter, facts_row, and_true, true_and] at hF)
      go_wp2_with fail
      (refine wp_region_all (Cl _ _ _) (by kernel_rfl) (by kernel_rfl) (Cl.drew hA) ?_); (have hn1 := Cl.none hA); (have hn2 := Cl.none2 hA); (repeat (first | go_big_quiet_skip | (go_big_quiet_want; (first | (refine quiet_loads_at (ty := 45) (n := 6) rfl rfl (by with_reducible repeat (first | exact Sel.here | apply Sel.there)) (by kernel_rfl) (by kernel_rfl) (by first | assumption | ((try simp only [List.drop_succ_cons, List.drop_zero, List.take_succ_cons, List.take_zero]) <;> exact rfl)) (by exact rfl) ?_; go_frame; go_big_quiet_on) | (refine quiet_load_at rfl rfl (by with_reducible repeat (first | exact Sel.here | apply Sel.there)) (by kernel_rfl) (by first | assumption | exact rfl) ?_; go_frame; go_big_quiet_on) | (go_big_quiet_op; (first | go_big_quiet_on | ((apply Exists.intro); (refine ⟨fun w1 hw => ?_, ?_⟩); (focus ((have hw := Cl.out hw); (exact through0 hw (hway _)))); (go_big_quiet_on))))))))
      (refine wpQuiet_nil ?_); (intro w1 hB); (clear hF hA hn1 hn2); (have hA := Cl.out hB); (clear hB); (try simp only [setL, List.set_cons_zero, List.set_cons_succ, List.cons_append, List.nil_append] at hA); (have hF := hA.facts); (try simp only [facts_cons, facts_nil, facts_cells, facts_old, facts_fact, facts_obj, facts_map, facts_iter, facts_row, and_true, true_and] at hF)
      clear hway
      cases wb
      · go_wp2_with fail
        go_roundg (gk - 1)
        case measure => omega
        case rel => exact ⟨i + 1, by simp, by omega, (shut_E hA (by with_reducible repeat (first | exact Sel.here | apply Sel.there)) hcl hcap hcm hct).pick (by with_reducible repeat (first | exact Picks.nil | refine Picks.cons (by with_reducible repeat (first | exact Sel.here | apply Sel.there)) ?_)), hgood.out hwb'.out⟩
      · have hr := Lib.hid (hbad.out hwb'.out)
        go_wp2_with fail
        go_ret
        exact ⟨by rw [hr.out]; rfl, (shut_E hA (by with_reducible repeat (first | exact Sel.here | apply Sel.there)) hcl hcap hcm hct).only1 (by with_reducible repeat (first | exact Sel.here | apply Sel.there))⟩
    · have hik2 : i = k := by omega
      subst hik2
      have hr := Lib.hid (grant_yes hk hno'.out)
      (try simp only [setL, List.set_cons_zero, List.set_cons_succ, List.cons_append, List.nil_append] at hA); (have hF := hA.facts); (try simp only [facts_cons, facts_nil, facts_cells, facts_old, facts_fact, facts_obj, facts_map, facts_iter, facts_row, and_true, true_and] at hF)
      go_wp2_with fail
      go_ret
      exact ⟨by rw [hr.out]; rfl, hA.only1 (by with_reducible repeat (first | exact Sel.here | apply Sel.there))⟩

/-! ### Could -/
/-! ### Check -/
end Go.Proofs.YtnkddjomanaadaaGreatDoor.Lock
end
