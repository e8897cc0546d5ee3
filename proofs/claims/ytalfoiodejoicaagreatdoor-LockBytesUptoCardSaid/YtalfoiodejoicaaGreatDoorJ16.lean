/- LockUa, LockUb, LockUc, joined. -/
import Derived.Test.YtalfoiodejoicaaGreatDoorJ15
section
namespace Go.Proofs.YtalfoiodejoicaaGreatDoor.Lock
open Go.RowKit
open Go.Maps (Keyed)
open Path (bl rightB overB)
set_option linter.unusedSimpArgs false
set_option linter.unusedVariables false

theorem counter_at {first : Int} {cs : List (ByteArray × Int)} {p : ByteArray} {i : Nat} (hi : i < cs.length) (hn : ∀ x ∈ cs.take i, x.1 ≠ p) (hy : cs[i].1 = p) : counter first cs p = cs[i].2 := by
  have h1 : cs = cs.take i ++ cs[i] :: cs.drop (i + 1) := by rw [List.getElem_cons_drop hi, List.take_append_drop]
  unfold counter ctr
  have h2 : cs.find? (fun x => decide (x.1 = p)) = some cs[i] := by
    rw [List.find?_eq_some_iff_append]
    exact ⟨by simp [hy], _, _, h1, fun x hx => by simpa using hn x hx⟩
  rw [h2]
  rfl
theorem counter_no {first : Int} {cs : List (ByteArray × Int)} {p : ByteArray} (hn : ∀ x ∈ cs, x.1 ≠ p) : counter first cs p = first := by
  unfold counter ctr
  rw [List.find?_eq_none.2 (fun x hx => by simpa using hn x hx)]
  rfl
theorem putC_at {cs : List (ByteArray × Int)} {p : ByteArray} {n : Int} {i : Nat} (hi : i < cs.length) (hn : ∀ x ∈ cs.take i, x.1 ≠ p) (hy : cs[i].1 = p) : putC cs p n = cs.set i (p, n) := by
  have h1 : cs = cs.take i ++ (p, cs[i].2) :: cs.drop (i + 1) := by
    have e : (p, cs[i].2) = cs[i] := by rw [← hy]
    rw [e, List.getElem_cons_drop hi, List.take_append_drop]
  rw [List.set_eq_take_append_cons_drop, if_pos hi]
  conv => lhs; rw [h1]
  exact putC_mid hn
theorem putC_no {cs : List (ByteArray × Int)} {p : ByteArray} {n : Int} (hn : ∀ x ∈ cs, x.1 ≠ p) : putC cs p n = cs ++ [(p, n)] := by
  refine putC_none ?_
  unfold ctr
  rw [List.find?_eq_none.2 (fun x hx => by simpa using hn x hx)]
  rfl
theorem take_moreC {L : List (ByteArray × Int)} {p : ByteArray} {i : Nat} (hi : i < L.length) (h : ∀ x ∈ L.take i, x.1 ≠ p) (h1 : L[i].1 ≠ p) : ∀ x ∈ L.take (i + 1), x.1 ≠ p := fun x hx => by
  rw [List.take_succ_eq_append_getElem hi] at hx
  rcases List.mem_append.1 hx with hx | hx
  · exact h x hx
  · rw [List.mem_singleton.1 hx]; exact h1
def CtrRel (w : World) (first : Int) (vL v : Value) (cs : List (ByteArray × Int)) (p : ByteArray) (b1 : Nat) (k : Nat) (u : Value) (wr : World) : Prop :=
  ∃ i : Nat, u = .int .i64 i ∧ i + k = cs.length ∧ At [rowC v cs] w [boxB b1 first vL v, rowC v cs] wr ∧ ∀ x ∈ cs.take i, x.1 ≠ p
set_option maxRecDepth 100000 in
set_option maxHeartbeats 2000000 in
theorem counterR_any {w : World} {v : Value} {cs : List (ByteArray × Int)} (h : Sep [rowC v cs] w) (first : Int) (vL : Value) (hvL : ∃ ax k cap, vL = .slice ax k cap) (p : ByteArray) (hmax : cs.length ≤ 1000000) :
    Calls Tryz.prog 92 #[.agg #[.int .u64 first, vL, v], .string p] w fun e w' => e = .returned (.int .u64 (counter first cs p)) ∧ At [rowC v cs] w [rowC v cs] w' := by
  obtain ⟨cx, ck, cc, rfl⟩ := hvL
  have hA := At.start h
  have hF := hA.facts
  clear h
  obtain ⟨ax, cap, rfl, hax, hcap, _⟩ := hA.row_form (v := v) (xs := flatC cs) (by with_reducible repeat (first | exact Sel.here | apply Sel.there))
  (try simp only [setL, List.set_cons_zero, List.set_cons_succ, List.cons_append, List.nil_append] at hA); (have hF := hA.facts); (try simp only [facts_cons, facts_nil, facts_cells, facts_old, facts_fact, facts_obj, facts_map, facts_iter, facts_row, and_true, true_and] at hF)
  go_enter Tryz.func92, Tryz.ntmps92
  go_wp2_with (first | ((with_reducible show wpList _ _ _ ({ dst := _, op := Op.box _ _, type := _, pos := _, after := _, guard := _ } :: _) _ _); refine wpList_box_at (E := 68) rfl rfl (by (try simp only [Act.eval, Array.getD_eq_getD_getElem?, List.getElem?_toArray, List.getElem?_cons_succ, List.getElem?_cons_zero, Option.getD_some]) <;> exact rfl) (by exact rfl) hA ?_; intro bB w1 hB hbB; clear hF hA; have hA := hB; clear hB; (try simp only [setL, List.set_cons_zero, List.set_cons_succ, List.cons_append, List.nil_append] at hA); (have hF := hA.facts); (try simp only [facts_cons, facts_nil, facts_cells, facts_old, facts_fact, facts_obj, facts_map, facts_iter, facts_row, and_true, true_and] at hF)) | ((with_reducible show wpList _ _ _ ({ dst := _, op := Op.store _ _ _, type := _, pos := _, after := _, guard := _ } :: _) _ _); refine wpList_store_at rfl rfl rfl (by (try simp only [Act.eval, Array.getD_eq_getD_getElem?, List.getElem?_toArray, List.getElem?_cons_succ, List.getElem?_cons_zero, Option.getD_some]) <;> exact rfl) (by exact rfl) hA (by with_reducible repeat (first | exact Sel.here | apply Sel.there)) (by kernel_rfl) rfl (by first | decide | (simp; done) | omega) ?_; intro w1 hB; clear hF hA; have hA := hB; clear hB; (try simp only [setL, List.set_cons_zero, List.set_cons_succ, List.cons_append, List.nil_append] at hA); (have hF := hA.facts); (try simp only [facts_cons, facts_nil, facts_cells, facts_old, facts_fact, facts_obj, facts_map, facts_iter, facts_row, and_true, true_and] at hF)) | ((with_reducible show wpList _ _ _ ({ dst := _, op := Op.box _ _, type := _, pos := _, after := _, guard := _ } :: _) _ _); refine wpList_box_at rfl rfl (by (try simp only [Act.eval, Array.getD_eq_getD_getElem?, List.getElem?_toArray, List.getElem?_cons_succ, List.getElem?_cons_zero, Option.getD_some]) <;> exact rfl) (by exact rfl) hA ?_; intro b1 w1 hB hb1; clear hF hA; have hA := hB; clear hB; (try simp only [setL, List.set_cons_zero, List.set_cons_succ, List.cons_append, List.nil_append] at hA); (have hF := hA.facts); (try simp only [facts_cons, facts_nil, facts_cells, facts_old, facts_fact, facts_obj, facts_map, facts_iter, facts_row, and_true, true_and] at hF)))
  try go_frame
  go_loopg [5] cs.length (CtrRel w first (.slice cx ck cc) (.slice ax cs.length cap) cs p bB)
  case atStart => exact ⟨0, rfl, by simp, hA, by simp⟩
  case round =>
    obtain ⟨i, rfl, hik, hB, hno⟩ := hrel
    have hno' := Lib.hid hno
    clear hF hA hno
    have hA := hB
    clear hB
    by_cases hi : i < cs.length
    · obtain ⟨g, c, rfl, _, hcm, hcl, hct, hB⟩ := hA.row_open (ax := ax) (cap := cap) (n := cs.length) (xs := flatC cs) (by with_reducible repeat (first | exact Sel.here | apply Sel.there)) (by omega)
      have hx : cs[i]? = some cs[i] := List.getElem?_eq_getElem hi
      have c0 : c[i * 2]? = some (.string cs[i].1) := cells_at ctrL_len hct hx 0 (by omega)
      have c1 : c[i * 2 + 1]? = some (.int .u64 cs[i].2) := cells_at ctrL_len hct hx 1 (by omega)
      clear hA
      have hA := hB
      clear hB
      (try simp only [setL, List.set_cons_zero, List.set_cons_succ, List.cons_append, List.nil_append] at hA); (have hF := hA.facts); (try simp only [facts_cons, facts_nil, facts_cells, facts_old, facts_fact, facts_obj, facts_map, facts_iter, facts_row, and_true, true_and] at hF)
      by_cases h1 : cs[i].1 = p
      · have e1 : (cs[i].1.toList == p.toList) = true := by rw [same_ba]; exact decide_eq_true h1
        have hd := Lib.hid (counter_at (first := first) hi hno'.out h1)
        clear h1 hx
        go_wp2_with fail
        go_ret
        exact ⟨by rw [hd.out]; rfl, (shut_C hA (by with_reducible repeat (first | exact Sel.here | apply Sel.there)) hcl hcap hcm hct).only1 (by with_reducible repeat (first | exact Sel.here | apply Sel.there))⟩
      · have e1 : (cs[i].1.toList == p.toList) = false := by rw [same_ba]; exact decide_eq_false h1
        have hm := Lib.hid (take_moreC hi hno'.out h1)
        clear h1 hx
        go_wp2_with fail
        go_roundg (gk - 1)
        case measure => omega
        case rel => exact ⟨i + 1, by simp, by omega, (shut_C hA (by with_reducible repeat (first | exact Sel.here | apply Sel.there)) hcl hcap hcm hct).pick (by with_reducible repeat (first | exact Picks.nil | refine Picks.cons (by with_reducible repeat (first | exact Sel.here | apply Sel.there)) ?_)), hm.out⟩
    · have hd := Lib.hid (counter_no (first := first) (fun x hx => hno'.out x (by rw [List.take_of_length_le (by omega)]; exact hx)))
      (try simp only [setL, List.set_cons_zero, List.set_cons_succ, List.cons_append, List.nil_append] at hA); (have hF := hA.facts); (try simp only [facts_cons, facts_nil, facts_cells, facts_old, facts_fact, facts_obj, facts_map, facts_iter, facts_row, and_true, true_and] at hF)
      go_wp2_with fail
      go_ret
      exact ⟨by rw [hd.out]; rfl, hA.only1 (by with_reducible repeat (first | exact Sel.here | apply Sel.there))⟩

/-! ### count -/
def CntRel (w : World) (first : Int) (vL v u7 : Value) (cs : List (ByteArray × Int)) (p : ByteArray) (b1 b2 : Nat) (k : Nat) (u : Value) (wr : World) : Prop :=
  ∃ i : Nat, u = .int .i64 i ∧ i + k = cs.length ∧ At [rowC v cs] w [rowC u7 cs, boxB b1 first vL v, boxB b2 0 (.slice none 0 0) (.slice none 0 0), rowC v cs] wr ∧ ∀ x ∈ cs.take i, x.1 ≠ p
def CountPost (w : World) (first : Int) (vL v : Value) (cs : List (ByteArray × Int)) (p : ByteArray) (n : Int) (e : Ending) (w' : World) : Prop :=
  ∃ v', e = .returned (.agg #[.int .u64 first, vL, v']) ∧ At [rowC v cs] w [rowC v' (putC cs p n)] w'
set_option maxRecDepth 100000 in
set_option maxHeartbeats 2000000 in
theorem countR_any {w : World} {v : Value} {cs : List (ByteArray × Int)} (h : Sep [rowC v cs] w) (first : Int) (vL : Value) (hvL : ∃ ax k cap, vL = .slice ax k cap) (p : ByteArray) (n : Int) (hmax : cs.length ≤ 1000000) :
    Calls Tryz.prog 93 #[.agg #[.int .u64 first, vL, v], .string p, .int .u64 n] w (CountPost w first vL v cs p n) := by
  obtain ⟨cx, ck, cc, rfl⟩ := hvL
  obtain ⟨i0, hi0, hz0, hz1, hz2⟩ := info_parts infoC
  have hA := At.start h
  have hF := hA.facts
  clear h
  obtain ⟨ax, cap, rfl, hax, hcap, _⟩ := hA.row_form (v := v) (xs := flatC cs) (by with_reducible repeat (first | exact Sel.here | apply Sel.there))
  have hr0 := hA.row_reads (v := .slice ax cs.length cap) (xs := flatC cs) (by with_reducible repeat (first | exact Sel.here | apply Sel.there))
  have hA := row_nilC hA
  (try simp only [setL, List.set_cons_zero, List.set_cons_succ, List.cons_append, List.nil_append] at hA); (have hF := hA.facts); (try simp only [facts_cons, facts_nil, facts_cells, facts_old, facts_fact, facts_obj, facts_map, facts_iter, facts_row, and_true, true_and] at hF)
  go_enter Tryz.func93, Tryz.ntmps93
  go_wp2_with (first
    | ((with_reducible show wpList _ _ _ ({ dst := _, op := Op.box _ _, type := _, pos := _, after := _, guard := _ } :: _) _ _); refine wpList_box_at (E := 68) rfl rfl (by (try simp only [Act.eval, Array.getD_eq_getD_getElem?, List.getElem?_toArray, List.getElem?_cons_succ, List.getElem?_cons_zero, Option.getD_some]) <;> exact rfl) (by exact rfl) hA ?_; intro bB w1 hB hbB; clear hF hA; have hA := hB; clear hB; (try simp only [setL, List.set_cons_zero, List.set_cons_succ, List.cons_append, List.nil_append] at hA); (have hF := hA.facts); (try simp only [facts_cons, facts_nil, facts_cells, facts_old, facts_fact, facts_obj, facts_map, facts_iter, facts_row, and_true, true_and] at hF))
    | ((with_reducible show wpList _ _ _ ({ dst := _, op := Op.alloc _, type := _, pos := _, after := _, guard := _ } :: _) _ _); refine wpList_alloc_at (E := 68) (z := .agg #[.int .u64 0, .slice none 0 0, .slice none 0 0]) (vs := [.int .u64 0, .slice none 0 0, .slice none 0 0]) rfl rfl (by kernel_rfl) rfl hA ?_; intro bZ w1 hB hbZ; clear hF hA; have hA := hB; clear hB; (try simp only [setL, List.set_cons_zero, List.set_cons_succ, List.cons_append, List.nil_append] at hA); (have hF := hA.facts); (try simp only [facts_cons, facts_nil, facts_cells, facts_old, facts_fact, facts_obj, facts_map, facts_iter, facts_row, and_true, true_and] at hF))
    | ((with_reducible show wpList _ _ _ ({ dst := _, op := Op.store _ _ _, type := _, pos := _, after := _, guard := _ } :: _) _ _); refine wpList_store_at rfl rfl rfl (by (try simp only [Act.eval, Array.getD_eq_getD_getElem?, List.getElem?_toArray, List.getElem?_cons_succ, List.getElem?_cons_zero, Option.getD_some]) <;> exact rfl) (by exact rfl) hA (by with_reducible repeat (first | exact Sel.here | apply Sel.there)) (by kernel_rfl) rfl (by first | decide | (simp; done) | omega) ?_; intro w1 hB; clear hF hA; have hA := hB; clear hB; (try simp only [setL, List.set_cons_zero, List.set_cons_succ, List.cons_append, List.nil_append] at hA); (have hF := hA.facts); (try simp only [facts_cons, facts_nil, facts_cells, facts_old, facts_fact, facts_obj, facts_map, facts_iter, facts_row, and_true, true_and] at hF)) | ((with_reducible show wpList _ _ _ ({ dst := _, op := Op.box _ _, type := _, pos := _, after := _, guard := _ } :: _) _ _); refine wpList_box_at rfl rfl (by (try simp only [Act.eval, Array.getD_eq_getD_getElem?, List.getElem?_toArray, List.getElem?_cons_succ, List.getElem?_cons_zero, Option.getD_some]) <;> exact rfl) (by exact rfl) hA ?_; intro b1 w1 hB hb1; clear hF hA; have hA := hB; clear hB; (try simp only [setL, List.set_cons_zero, List.set_cons_succ, List.cons_append, List.nil_append] at hA); (have hF := hA.facts); (try simp only [facts_cons, facts_nil, facts_cells, facts_old, facts_fact, facts_obj, facts_map, facts_iter, facts_row, and_true, true_and] at hF))
    | (refine wpList_append_at (e := 82) (size := 2) (v := .slice none 0 0) (xs := flatC []) (n := ([] : List (ByteArray × Int)).length) (m := cs.length) (news := flatC cs) rfl _ _ 66 rfl Tryz.underlying66 hi0 hz0 hz1 hz2 rfl (by omega) hA (by with_reducible repeat (first | exact Sel.here | apply Sel.there)) (by (try simp only [Act.eval, Array.getD_eq_getD_getElem?, List.getElem?_toArray, List.getElem?_cons_succ, List.getElem?_cons_zero, Option.getD_some]) <;> exact rfl) (by (try simp only [Act.eval, Array.getD_eq_getD_getElem?, List.getElem?_toArray, List.getElem?_cons_succ, List.getElem?_cons_zero, Option.getD_some]) <;> exact rfl) (flatC_len _) (hA.row_reads (v := .slice ax cs.length cap) (n := cs.length) (xs := flatC cs) (by with_reducible repeat (first | exact Sel.here | apply Sel.there))) (flatC_one _) (by unfold maxLen; simp; omega) (by simp; omega) ?_; intro v1 w1 hB; rw [rowC_app0] at hB; clear hF hA; have hA := hB; clear hB; (try simp only [setL, List.set_cons_zero, List.set_cons_succ, List.cons_append, List.nil_append] at hA); (have hF := hA.facts); (try simp only [facts_cons, facts_nil, facts_cells, facts_old, facts_fact, facts_obj, facts_map, facts_iter, facts_row, and_true, true_and] at hF)))
  try go_frame
  obtain ⟨bx, bn, bcap, hv1, hbn⟩ := hA.row_hid (v := v1) (n := cs.length) (xs := flatC cs) (by with_reducible repeat (first | exact Sel.here | apply Sel.there))
  subst hv1
  go_loopg [8] cs.length (CntRel w first (.slice cx ck cc) (.slice ax cs.length cap) (.slice bx bn bcap) cs p bB bZ)
  case atStart => exact ⟨0, rfl, by simp, hA.pick (by with_reducible repeat (first | exact Picks.nil | refine Picks.cons (by with_reducible repeat (first | exact Sel.here | apply Sel.there)) ?_)), by simp⟩
  case round =>
    obtain ⟨i, rfl, hik, hB, hno⟩ := hrel
    have hno' := Lib.hid hno
    clear hF hA hno
    have hA := hB
    clear hB
    have hbn' : bn = cs.length := hbn.out
    subst hbn'
    by_cases hi : i < cs.length
    · obtain ⟨g, c, rfl, hcap1, hcm, hcl, hct, hB⟩ := hA.row_open (ax := bx) (cap := bcap) (n := cs.length) (xs := flatC cs) (by with_reducible repeat (first | exact Sel.here | apply Sel.there)) (by omega)
      have hx : cs[i]? = some cs[i] := List.getElem?_eq_getElem hi
      have c0 : c[i * 2]? = some (.string cs[i].1) := cells_at ctrL_len hct hx 0 (by omega)
      have c1 : c[i * 2 + 1]? = some (.int .u64 cs[i].2) := cells_at ctrL_len hct hx 1 (by omega)
      have hlt : i * 2 + 1 < c.length := by rw [hcl]; omega
      clear hA
      have hA := hB
      clear hB
      (try simp only [setL, List.set_cons_zero, List.set_cons_succ, List.cons_append, List.nil_append] at hA); (have hF := hA.facts); (try simp only [facts_cons, facts_nil, facts_cells, facts_old, facts_fact, facts_obj, facts_map, facts_iter, facts_row, and_true, true_and] at hF)
      by_cases h1 : cs[i].1 = p
      · have e1 : (cs[i].1.toList == p.toList) = true := by rw [same_ba]; exact decide_eq_true h1
        have hd := Lib.hid (putC_at (n := n) hi hno'.out h1)
        have hw2 : (c.set (i * 2 + 1) (.int .u64 n)).take ((cs.set i (p, n)).length * 2) = flatC (cs.set i (p, n)) := by
          have e2 : (setL c (i * 2) (ctrL (p, n))).take ((cs.set i (p, n)).length * 2) = flatC (cs.set i (p, n)) := write_row ctrL_len hct hi (p, n)
          rw [← e2]
          congr 1
          have c0' : c[i * 2]? = some (.string p) := by rw [c0, h1]
          have hs : c.set (i * 2) (.string p) = c := by
            apply List.ext_getElem?
            intro j
            by_cases hj : i * 2 = j
            · subst hj; rw [List.getElem?_set_self (by omega), c0']
            · rw [List.getElem?_set_ne hj]
          show c.set (i * 2 + 1) _ = (c.set (i * 2) _).set (i * 2 + 1) _
          rw [hs]
        have hw3 := Lib.hid hw2
        clear h1 hx hw2
        go_wp2_with (first | ((with_reducible show wpList _ _ _ ({ dst := _, op := Op.box _ _, type := _, pos := _, after := _, guard := _ } :: _) _ _); refine wpList_box_at (E := 68) rfl rfl (by (try simp only [Act.eval, Array.getD_eq_getD_getElem?, List.getElem?_toArray, List.getElem?_cons_succ, List.getElem?_cons_zero, Option.getD_some]) <;> exact rfl) (by exact rfl) hA ?_; intro bQ w1 hB hbQ; clear hF hA; have hA := hB; clear hB; (try simp only [setL, List.set_cons_zero, List.set_cons_succ, List.cons_append, List.nil_append] at hA); (have hF := hA.facts); (try simp only [facts_cons, facts_nil, facts_cells, facts_old, facts_fact, facts_obj, facts_map, facts_iter, facts_row, and_true, true_and] at hF)) | ((with_reducible show wpList _ _ _ ({ dst := _, op := Op.store _ _ _, type := _, pos := _, after := _, guard := _ } :: _) _ _); refine wpList_store_at rfl rfl rfl (by (try simp only [Act.eval, Array.getD_eq_getD_getElem?, List.getElem?_toArray, List.getElem?_cons_succ, List.getElem?_cons_zero, Option.getD_some]) <;> exact rfl) (by exact rfl) hA (by with_reducible repeat (first | exact Sel.here | apply Sel.there)) (by kernel_rfl) rfl (by first | decide | (simp; done) | omega) ?_; intro w1 hB; clear hF hA; have hA := hB; clear hB; (try simp only [setL, List.set_cons_zero, List.set_cons_succ, List.cons_append, List.nil_append] at hA); (have hF := hA.facts); (try simp only [facts_cons, facts_nil, facts_cells, facts_old, facts_fact, facts_obj, facts_map, facts_iter, facts_row, and_true, true_and] at hF)) | ((with_reducible show wpList _ _ _ ({ dst := _, op := Op.box _ _, type := _, pos := _, after := _, guard := _ } :: _) _ _); refine wpList_box_at rfl rfl (by (try simp only [Act.eval, Array.getD_eq_getD_getElem?, List.getElem?_toArray, List.getElem?_cons_succ, List.getElem?_cons_zero, Option.getD_some]) <;> exact rfl) (by exact rfl) hA ?_; intro b1 w1 hB hb1; clear hF hA; have hA := hB; clear hB; (try simp only [setL, List.set_cons_zero, List.set_cons_succ, List.cons_append, List.nil_append] at hA); (have hF := hA.facts); (try simp only [facts_cons, facts_nil, facts_cells, facts_old, facts_fact, facts_obj, facts_map, facts_iter, facts_row, and_true, true_and] at hF)) | (refine wpList_store_at (b := g) (j := i * 2 + 1) (vs := [.int .u64 n]) rfl rfl rfl (by (try simp only [Act.eval, Array.getD_eq_getD_getElem?, List.getElem?_toArray, List.getElem?_cons_succ, List.getElem?_cons_zero, Option.getD_some]) <;> exact rfl) (by exact rfl) hA (by with_reducible repeat (first | exact Sel.here | apply Sel.there)) (by kernel_rfl) rfl (by show i * 2 + 1 + 1 ≤ c.length; omega) ?_; intro w1 hB; clear hF hA; have hA := hB; clear hB; (try simp only [setL, List.set_cons_zero, List.set_cons_succ, List.cons_append, List.nil_append] at hA); (have hF := hA.facts); (try simp only [facts_cons, facts_nil, facts_cells, facts_old, facts_fact, facts_obj, facts_map, facts_iter, facts_row, and_true, true_and] at hF)))
        have hsl : (cs.set i (p, n)).length = cs.length := by simp
        refine bodyPost_ret (v := .agg #[.int .u64 first, .slice cx ck cc, .slice (some ⟨g, 0, none⟩) cs.length bcap]) (by simp [results, Tryz.results93, go_sem, hF]) rfl ⟨_, rfl, ?_⟩
        have hB := shut_C (L := cs.set i (p, n)) hA (by with_reducible repeat (first | exact Sel.here | apply Sel.there)) (by rw [List.length_set]; exact hcl) (by rw [hsl]; exact hcap1) hcm hw3.out
        rw [hsl] at hB
        rw [hd.out]
        exact hB.only1 (by with_reducible repeat (first | exact Sel.here | apply Sel.there))
      · have e1 : (cs[i].1.toList == p.toList) = false := by rw [same_ba]; exact decide_eq_false h1
        have hm := Lib.hid (take_moreC hi hno'.out h1)
        clear h1 hx
        go_wp2_with fail
        go_roundg (gk - 1)
        case measure => omega
        case rel => exact ⟨i + 1, by simp, by omega, (shut_C hA (by with_reducible repeat (first | exact Sel.here | apply Sel.there)) hcl hcap1 hcm hct).pick (by with_reducible repeat (first | exact Picks.nil | refine Picks.cons (by with_reducible repeat (first | exact Sel.here | apply Sel.there)) ?_)), hm.out⟩
    · have hd := Lib.hid (putC_no (n := n) (fun x hx => hno'.out x (by rw [List.take_of_length_le (by omega)]; exact hx)))
      (try simp only [setL, List.set_cons_zero, List.set_cons_succ, List.cons_append, List.nil_append] at hA); (have hF := hA.facts); (try simp only [facts_cons, facts_nil, facts_cells, facts_old, facts_fact, facts_obj, facts_map, facts_iter, facts_row, and_true, true_and] at hF)
      go_wp2_with (first
        | ((with_reducible show wpList _ _ _ ({ dst := _, op := Op.store _ _ _, type := _, pos := _, after := _, guard := _ } :: _) _ _); refine wpList_store_at rfl rfl rfl (by (try simp only [Act.eval, Array.getD_eq_getD_getElem?, List.getElem?_toArray, List.getElem?_cons_succ, List.getElem?_cons_zero, Option.getD_some]) <;> exact rfl) (by exact rfl) hA (by with_reducible repeat (first | exact Sel.here | apply Sel.there)) (by kernel_rfl) rfl (by first | decide | (simp; done) | omega) ?_; intro w1 hB; clear hF hA; have hA := hB; clear hB; (try simp only [setL, List.set_cons_zero, List.set_cons_succ, List.cons_append, List.nil_append] at hA); (have hF := hA.facts); (try simp only [facts_cons, facts_nil, facts_cells, facts_old, facts_fact, facts_obj, facts_map, facts_iter, facts_row, and_true, true_and] at hF)) | ((with_reducible show wpList _ _ _ ({ dst := _, op := Op.box _ _, type := _, pos := _, after := _, guard := _ } :: _) _ _); refine wpList_box_at rfl rfl (by (try simp only [Act.eval, Array.getD_eq_getD_getElem?, List.getElem?_toArray, List.getElem?_cons_succ, List.getElem?_cons_zero, Option.getD_some]) <;> exact rfl) (by exact rfl) hA ?_; intro b1 w1 hB hb1; clear hF hA; have hA := hB; clear hB; (try simp only [setL, List.set_cons_zero, List.set_cons_succ, List.cons_append, List.nil_append] at hA); (have hF := hA.facts); (try simp only [facts_cons, facts_nil, facts_cells, facts_old, facts_fact, facts_obj, facts_map, facts_iter, facts_row, and_true, true_and] at hF)) | ((with_reducible show wpList _ _ _ ({ dst := _, op := Op.alloc _, type := _, pos := _, after := _, guard := _ } :: _) _ _); refine wpList_alloc_at (E := 82) (z := .agg #[.string .empty, .int .u64 0]) (vs := [.string .empty, .int .u64 0]) rfl rfl (by kernel_rfl) rfl hA ?_; intro b1 w1 hB hb1; clear hF hA; have hA := hB; clear hB; (try simp only [setL, List.set_cons_zero, List.set_cons_succ, List.cons_append, List.nil_append] at hA); (have hF := hA.facts); (try simp only [facts_cons, facts_nil, facts_cells, facts_old, facts_fact, facts_obj, facts_map, facts_iter, facts_row, and_true, true_and] at hF))
        | (refine wpList_one_at (e := 82) (vs := ctrL (p, n)) rfl rfl (by (try simp only [Act.eval, Array.getD_eq_getD_getElem?, List.getElem?_toArray, List.getElem?_cons_succ, List.getElem?_cons_zero, Option.getD_some]) <;> exact rfl) (fun _ => by kernel_rfl) hA ?_; intro b2 w1 hB hb2; clear hF hA; have hA := hB; clear hB; (try simp only [setL, List.set_cons_zero, List.set_cons_succ, List.cons_append, List.nil_append] at hA); (have hF := hA.facts); (try simp only [facts_cons, facts_nil, facts_cells, facts_old, facts_fact, facts_obj, facts_map, facts_iter, facts_row, and_true, true_and] at hF))
        | (refine wpList_append_at (e := 82) (size := 2) (v := .slice bx cs.length bcap) (xs := flatC cs) (n := cs.length) (m := 1) (news := ctrL (p, n)) rfl _ _ 66 rfl Tryz.underlying66 hi0 hz0 hz1 hz2 rfl (by omega) hA (by with_reducible repeat (first | exact Sel.here | apply Sel.there)) (by (try simp only [Act.eval, Array.getD_eq_getD_getElem?, List.getElem?_toArray, List.getElem?_cons_succ, List.getElem?_cons_zero, Option.getD_some]) <;> exact rfl) (by (try simp only [Act.eval, Array.getD_eq_getD_getElem?, List.getElem?_toArray, List.getElem?_cons_succ, List.getElem?_cons_zero, Option.getD_some]) <;> exact rfl) rfl (hA.cells_reads (by with_reducible repeat (first | exact Sel.here | apply Sel.there)) _ _) (ctrL_one _) (by unfold maxLen; omega) (by omega) ?_; intro v2 w1 hB; rw [rowC_snoc] at hB; obtain ⟨ax3, n3, cap3, hv3, hn3⟩ := hB.row_hid .here; subst hv3; clear hF hA; have hA := hB; clear hB; (try simp only [setL, List.set_cons_zero, List.set_cons_succ, List.cons_append, List.nil_append] at hA); (have hF := hA.facts); (try simp only [facts_cons, facts_nil, facts_cells, facts_old, facts_fact, facts_obj, facts_map, facts_iter, facts_row, and_true, true_and] at hF)))
      refine bodyPost_ret (v := .agg #[.int .u64 first, .slice cx ck cc, .slice ax3 n3 cap3]) (by simp [results, Tryz.results93, go_sem, hF]) rfl ⟨_, rfl, ?_⟩
      rw [hd.out]
      exact hA.only1 (by with_reducible repeat (first | exact Sel.here | apply Sel.there))
end Go.Proofs.YtalfoiodejoicaaGreatDoor.Lock
end

section
namespace Go.Proofs.YtalfoiodejoicaaGreatDoor.Lock
open Go.RowKit
open Go.Maps (Keyed)
open Path (bl rightB overB)
set_option linter.unusedSimpArgs false
set_option linter.unusedVariables false

def GrRel (w : World) (first : Int) (v vC : Value) (L : List Ent) (e : Ent) (m : Nat) (b1 : Nat) (k : Nat) (u : Value) (wr : World) : Prop :=
  ∃ i : Nat, u = .int .i64 i ∧ i + k = m ∧ At [rowE v L] w [boxB b1 first v vC, rowE v L] wr ∧ ∀ x ∈ L.take i, wayB x e = false
theorem grant_yes {L : List Ent} {k : Nat} (hk : k < L.length) (h : ∀ x ∈ L.take k, wayB x L[k] = false) : grantD L k = true := by
  unfold grantD
  rw [List.getElem?_eq_getElem hk]
  simp only [List.all_eq_true]
  intro x hx
  rw [h x hx]
  rfl
theorem grant_no {L : List Ent} {k i : Nat} (hk : k < L.length) (hi : i < k) (h : wayB (L[i]'(by omega)) L[k] = true) : grantD L k = false := by
  unfold grantD
  rw [List.getElem?_eq_getElem hk]
  simp only [List.all_eq_false]
  exact ⟨L[i]'(by omega), List.mem_take_iff_getElem.2 ⟨i, by omega, rfl⟩, by rw [h]; simp⟩

/-! ### Could -/
/-! ### Check -/
end Go.Proofs.YtalfoiodejoicaaGreatDoor.Lock
end

section
namespace Go.Proofs.YtalfoiodejoicaaGreatDoor.Lock
open Go.RowKit
open Go.Maps (Keyed)
open Path (bl rightB overB)
set_option linter.unusedSimpArgs false
set_option linter.unusedVariables false

/-- is an entry dropped? -/
def dropP (all : Bool) (p : ByteArray) (n : Int) (f : ByteArray) (x : Ent) : Bool := decide (x.num = n ∧ x.foot = f ∧ (all = true ∨ x.path = p))
def dropF (all : Bool) (p : ByteArray) (n : Int) (f : ByteArray) (L : List Ent) : List Ent := L.filter (fun x => !dropP all p n f x)
theorem dropF_one (p : ByteArray) (n : Int) (f : ByteArray) (L : List Ent) : dropF false p n f L = L.filter (fun x => !x.is p n f) := by
  unfold dropF
  congr 1
  funext x
  unfold dropP Ent.is
  congr 1
  rw [decide_eq_decide]
  constructor
  · rintro ⟨h1, h2, h3⟩
    rcases h3 with h3 | h3
    · cases h3
    · exact ⟨h3, h1, h2⟩
  · rintro ⟨h1, h2, h3⟩
    exact ⟨h2, h3, .inr h1⟩
theorem dropF_all (p : ByteArray) (n : Int) (f : ByteArray) (L : List Ent) : dropF true p n f L = L.filter (fun x => !x.of n f) := by
  unfold dropF
  congr 1
  funext x
  unfold dropP Ent.of
  simp
theorem dropF_take {all : Bool} {p : ByteArray} {n : Int} {f : ByteArray} {L : List Ent} {i : Nat} (hi : i < L.length) : dropF all p n f (L.take (i + 1)) = if dropP all p n f L[i] = true then dropF all p n f (L.take i) else dropF all p n f (L.take i) ++ [L[i]] := by
  unfold dropF
  rw [List.take_succ_eq_append_getElem hi, List.filter_append]
  cases h : dropP all p n f L[i] <;> simp [h]
theorem dropF_len (all : Bool) (p : ByteArray) (n : Int) (f : ByteArray) (L : List Ent) (i : Nat) : (dropF all p n f (L.take i)).length ≤ L.length := Nat.le_trans (List.length_filter_le _ _) (by rw [List.length_take]; omega)
theorem one_E (x : Ent) (w : World) : (Instr.buildSlice 65 1 #[(0, .agg #[.string x.path, .int .u64 x.num, .string x.foot, .int .i64 x.mode, .int .u64 x.n, .int .i64 x.stamp])]).run Tryz.prog w = .ok (.slice (some ⟨w.heap.size, 0, none⟩) 1 1) (w.alloc (.cells x.cells.toArray 79)) := by kernel_rfl
def DrRel (w : World) (first : Int) (v vC : Value) (L : List Ent) (all : Bool) (p : ByteArray) (n : Int) (f : ByteArray) (b1 b2 : Nat) (k : Nat) (u11 u12 : Value) (wr : World) : Prop :=
  ∃ i : Nat, u12 = .int .i64 i ∧ i + k = L.length ∧ At [rowE v L] w [rowE u11 (dropF all p n f (L.take i)), boxB b2 0 (.slice none 0 0) (.slice none 0 0), boxB b1 first v vC, rowE v L] wr
def DropPost (w : World) (first : Int) (v vC : Value) (L L' : List Ent) (e : Ending) (w' : World) : Prop :=
  ∃ v', e = .returned (.agg #[.int .u64 first, v', vC]) ∧ At [rowE v L] w [rowE v' L'] w'
set_option maxRecDepth 100000 in
set_option maxHeartbeats 1000000 in
theorem dropR_any {w : World} {v : Value} {L : List Ent} (h : Sep [rowE v L] w) (first : Int) (vC : Value) (hvC : ∃ ax k cap, vC = .slice ax k cap) (p : ByteArray) (n : Int) (f : ByteArray) (all : Bool) (hmax : L.length ≤ 1000000) :
    Calls Tryz.prog 56 #[.agg #[.int .u64 first, v, vC], .string p, .int .u64 n, .string f, .bool all] w (DropPost w first v vC L (dropF all p n f L)) := by
  obtain ⟨cx, ck, cc, rfl⟩ := hvC
  obtain ⟨i0, hi0, hz0, hz1, hz2⟩ := info_parts infoE
  have hA := At.start h
  have hF := hA.facts
  clear h
  obtain ⟨ax, cap, rfl, hax, hcap, _⟩ := hA.row_form (v := v) (xs := flatE L) (by with_reducible repeat (first | exact Sel.here | apply Sel.there))
  have hA := row_nilE hA
  (try simp only [setL, List.set_cons_zero, List.set_cons_succ, List.cons_append, List.nil_append] at hA); (have hF := hA.facts); (try simp only [facts_cons, facts_nil, facts_cells, facts_old, facts_fact, facts_obj, facts_map, facts_iter, facts_row, and_true, true_and] at hF)
  go_enter Tryz.func56, Tryz.ntmps56
  go_wp2_with (first
    | ((with_reducible show wpList _ _ _ ({ dst := _, op := Op.box _ _, type := _, pos := _, after := _, guard := _ } :: _) _ _); refine wpList_box_at (E := 68) rfl rfl (by (try simp only [Act.eval, Array.getD_eq_getD_getElem?, List.getElem?_toArray, List.getElem?_cons_succ, List.getElem?_cons_zero, Option.getD_some]) <;> exact rfl) (by exact rfl) hA ?_; intro bB w1 hB hbB; clear hF hA; have hA := hB; clear hB; (try simp only [setL, List.set_cons_zero, List.set_cons_succ, List.cons_append, List.nil_append] at hA); (have hF := hA.facts); (try simp only [facts_cons, facts_nil, facts_cells, facts_old, facts_fact, facts_obj, facts_map, facts_iter, facts_row, and_true, true_and] at hF))
    | ((with_reducible show wpList _ _ _ ({ dst := _, op := Op.alloc _, type := _, pos := _, after := _, guard := _ } :: _) _ _); refine wpList_alloc_at (E := 68) (z := .agg #[.int .u64 0, .slice none 0 0, .slice none 0 0]) (vs := [.int .u64 0, .slice none 0 0, .slice none 0 0]) rfl rfl (by kernel_rfl) rfl hA ?_; intro bZ w1 hB hbZ; clear hF hA; have hA := hB; clear hB; (try simp only [setL, List.set_cons_zero, List.set_cons_succ, List.cons_append, List.nil_append] at hA); (have hF := hA.facts); (try simp only [facts_cons, facts_nil, facts_cells, facts_old, facts_fact, facts_obj, facts_map, facts_iter, facts_row, and_true, true_and] at hF))
    | ((with_reducible show wpList _ _ _ ({ dst := _, op := Op.store _ _ _, type := _, pos := _, after := _, guard := _ } :: _) _ _); refine wpList_store_at rfl rfl rfl (by (try simp only [Act.eval, Array.getD_eq_getD_getElem?, List.getElem?_toArray, List.getElem?_cons_succ, List.getElem?_cons_zero, Option.getD_some]) <;> exact rfl) (by exact rfl) hA (by with_reducible repeat (first | exact Sel.here | apply Sel.there)) (by kernel_rfl) rfl (by first | decide | (simp; done) | omega) ?_; intro w1 hB; clear hF hA; have hA := hB; clear hB; (try simp only [setL, List.set_cons_zero, List.set_cons_succ, List.cons_append, List.nil_append] at hA); (have hF := hA.facts); (try simp only [facts_cons, facts_nil, facts_cells, facts_old, facts_fact, facts_obj, facts_map, facts_iter, facts_row, and_true, true_and] at hF)) | ((with_reducible show wpList _ _ _ ({ dst := _, op := Op.box _ _, type := _, pos := _, after := _, guard := _ } :: _) _ _); refine wpList_box_at rfl rfl (by (try simp only [Act.eval, Array.getD_eq_getD_getElem?, List.getElem?_toArray, List.getElem?_cons_succ, List.getElem?_cons_zero, Option.getD_some]) <;> exact rfl) (by exact rfl) hA ?_; intro b1 w1 hB hb1; clear hF hA; have hA := hB; clear hB; (try simp only [setL, List.set_cons_zero, List.set_cons_succ, List.cons_append, List.nil_append] at hA); (have hF := hA.facts); (try simp only [facts_cons, facts_nil, facts_cells, facts_old, facts_fact, facts_obj, facts_map, facts_iter, facts_row, and_true, true_and] at hF)))
  try go_frame
  go_loopg [11, 12] L.length (DrRel w first (.slice ax L.length cap) (.slice cx ck cc) L all p n f bB bZ)
  case atStart => exact ⟨0, rfl, by simp, by rw [show dropF all p n f (L.take 0) = [] by simp [dropF]]; exact hA.pick (by with_reducible repeat (first | exact Picks.nil | refine Picks.cons (by with_reducible repeat (first | exact Sel.here | apply Sel.there)) ?_))⟩
  case round =>
    obtain ⟨i, rfl, hik, hB⟩ := hrel
    clear hF hA
    have hA := hB
    clear hB
    have hlen := dropF_len all p n f L i
    by_cases hi : i < L.length
    · have hst := dropF_take (all := all) (p := p) (n := n) (f := f) hi
      obtain ⟨g, c, rfl, hcap1, hcm, hcl, hct, hB⟩ := hA.row_open (ax := ax) (cap := cap) (n := L.length) (xs := flatE L) (by with_reducible repeat (first | exact Sel.here | apply Sel.there)) (by omega)
      have hx : L[i]? = some L[i] := List.getElem?_eq_getElem hi
      (have c0 : c[i * 6]? = some (.string L[i].path) := cells_at Ent.cells_len hct hx 0 (by omega)); (have c1 : c[i * 6 + 1]? = some (.int .u64 L[i].num) := cells_at Ent.cells_len hct hx 1 (by omega)); (have c2 : c[i * 6 + 2]? = some (.string L[i].foot) := cells_at Ent.cells_len hct hx 2 (by omega)); (have c3 : c[i * 6 + 3]? = some (.int .i64 L[i].mode) := cells_at Ent.cells_len hct hx 3 (by omega)); (have c4 : c[i * 6 + 4]? = some (.int .u64 L[i].n) := cells_at Ent.cells_len hct hx 4 (by omega)); (have c5 : c[i * 6 + 5]? = some (.int .i64 L[i].stamp) := cells_at Ent.cells_len hct hx 5 (by omega))
      clear hA hx
      have hA := hB
      clear hB
      obtain ⟨D, hD⟩ : ∃ D, dropF all p n f (L.take i) = D := ⟨_, rfl⟩
      rw [hD] at hst hlen hA
      clear hD
      obtain ⟨x, hxi⟩ : ∃ x, L[i] = x := ⟨_, rfl⟩
      simp only [hxi] at hst c0 c1 c2 c3 c4 c5
      clear hxi
      by_cases hd : dropP all p n f x = true
      · have hn := Lib.hid (hst.trans (if_pos hd))
        have hcs : (x.num = n ∧ x.foot = f ∧ all = true) ∨ (x.num = n ∧ x.foot = f ∧ all = false ∧ x.path = p) := by
          unfold dropP at hd
          simp only [decide_eq_true_eq] at hd
          cases all
          · right; simpa using hd
          · left; simpa using hd
        clear hd hst
        rcases hcs with ⟨h1, h2, rfl⟩ | ⟨h1, h2, rfl, h3⟩
        · have e1 : (x.num != n) = false := by simp [h1]
          have e1' : (x.num == n) = true := by simp [h1]
          have e2 : (x.foot.toList != f.toList) = false := by simp [h2]
          have e2' : (x.foot.toList == f.toList) = true := by simp [h2]
          clear h1 h2
          (try simp only [setL, List.set_cons_zero, List.set_cons_succ, List.cons_append, List.nil_append] at hA); (have hF := hA.facts); (try simp only [facts_cons, facts_nil, facts_cells, facts_old, facts_fact, facts_obj, facts_map, facts_iter, facts_row, and_true, true_and] at hF)
          go_wp2_with fail
          go_roundg (gk - 1)
          case measure => omega
          case rel => exact ⟨i + 1, by simp, by omega, by rw [hn.out]; exact (shut_E hA (by with_reducible repeat (first | exact Sel.here | apply Sel.there)) hcl hcap1 hcm hct).pick (by with_reducible repeat (first | exact Picks.nil | refine Picks.cons (by with_reducible repeat (first | exact Sel.here | apply Sel.there)) ?_))⟩
        · have e1 : (x.num != n) = false := by simp [h1]
          have e1' : (x.num == n) = true := by simp [h1]
          have e2 : (x.foot.toList != f.toList) = false := by simp [h2]
          have e2' : (x.foot.toList == f.toList) = true := by simp [h2]
          have e3 : (x.path.toList != p.toList) = false := by simp [h3]
          have e3' : (x.path.toList == p.toList) = true := by simp [h3]
          clear h1 h2 h3
          (try simp only [setL, List.set_cons_zero, List.set_cons_succ, List.cons_append, List.nil_append] at hA); (have hF := hA.facts); (try simp only [facts_cons, facts_nil, facts_cells, facts_old, facts_fact, facts_obj, facts_map, facts_iter, facts_row, and_true, true_and] at hF)
          go_wp2_with fail
          go_roundg (gk - 1)
          case measure => omega
          case rel => exact ⟨i + 1, by simp, by omega, by rw [hn.out]; exact (shut_E hA (by with_reducible repeat (first | exact Sel.here | apply Sel.there)) hcl hcap1 hcm hct).pick (by with_reducible repeat (first | exact Picks.nil | refine Picks.cons (by with_reducible repeat (first | exact Sel.here | apply Sel.there)) ?_))⟩
      · have hn := Lib.hid (hst.trans (if_neg hd))
        have hcs : (x.num != n) = true ∨ ((x.num != n) = false ∧ (x.foot.toList != f.toList) = true) ∨ ((x.num != n) = false ∧ (x.foot.toList != f.toList) = false ∧ (x.path.toList != p.toList) = true ∧ all = false) := by
          unfold dropP at hd
          simp only [decide_eq_true_eq] at hd
          by_cases h1 : x.num = n
          · by_cases h2 : x.foot = f
            · right; right
              refine ⟨by simp [h1], by simp [h2], ?_, ?_⟩
              · unfold bne; rw [same_ba, decide_eq_false (fun h3 => hd ⟨h1, h2, .inr h3⟩)]; rfl
              · cases all
                · rfl
                · exact absurd ⟨h1, h2, .inl rfl⟩ hd
            · right; left
              exact ⟨by simp [h1], by unfold bne; rw [same_ba, decide_eq_false h2]; rfl⟩
          · left; simp [h1]
        clear hd hst
        rcases hcs with e1 | ⟨e1, e2⟩ | ⟨e1, e2, e3, rfl⟩
        all_goals
          try have e1' : (x.num == n) = false := by unfold bne at e1; simpa using e1
          try have e1' : (x.num == n) = true := by unfold bne at e1; simpa using e1
          try have e2' : (x.foot.toList == f.toList) = false := by unfold bne at e2; simpa using e2
          try have e2' : (x.foot.toList == f.toList) = true := by unfold bne at e2; simpa using e2
          try have e3' : (x.path.toList == p.toList) = false := by unfold bne at e3; simpa using e3
          (try simp only [setL, List.set_cons_zero, List.set_cons_succ, List.cons_append, List.nil_append] at hA); (have hF := hA.facts); (try simp only [facts_cons, facts_nil, facts_cells, facts_old, facts_fact, facts_obj, facts_map, facts_iter, facts_row, and_true, true_and] at hF)
          go_wp2_with (first
            | ((with_reducible show wpList _ _ _ ({ dst := _, op := Op.buildSlice _ _ _, type := _, pos := _, after := _, guard := _ } :: _) _ _); refine wpList_one_at (e := 79) (vs := Ent.cells x) rfl rfl (by (try simp only [Act.eval, Array.getD_eq_getD_getElem?, List.getElem?_toArray, List.getElem?_cons_succ, List.getElem?_cons_zero, Option.getD_some]) <;> exact rfl) (fun _ => one_E x _) hA ?_; intro b2 w1 hB hb2; clear hF hA; have hA := hB; clear hB; (try simp only [setL, List.set_cons_zero, List.set_cons_succ, List.cons_append, List.nil_append] at hA); (have hF := hA.facts); (try simp only [facts_cons, facts_nil, facts_cells, facts_old, facts_fact, facts_obj, facts_map, facts_iter, facts_row, and_true, true_and] at hF))
            | ((with_reducible show wpList _ _ _ ({ dst := _, op := Op.call { callee := Callee.builtin Builtin.append, args := _, argTypes := _ }, type := _, pos := _, after := _, guard := _ } :: _) _ _); refine wpList_append_at (e := 79) (size := 6) (v := u11) (xs := flatE (D)) (n := (D).length) (m := 1) (news := Ent.cells x) rfl _ _ 65 rfl Tryz.underlying65 hi0 hz0 hz1 hz2 rfl (by omega) hA (by with_reducible repeat (first | exact Sel.here | apply Sel.there)) (by (try simp only [Act.eval, Array.getD_eq_getD_getElem?, List.getElem?_toArray, List.getElem?_cons_succ, List.getElem?_cons_zero, Option.getD_some]) <;> exact rfl) (by (try simp only [Act.eval, Array.getD_eq_getD_getElem?, List.getElem?_toArray, List.getElem?_cons_succ, List.getElem?_cons_zero, Option.getD_some]) <;> exact rfl) rfl (hA.cells_reads (by with_reducible repeat (first | exact Sel.here | apply Sel.there)) _ _) (Ent.one _) (by unfold maxLen; omega) (by omega) ?_; intro v2 w1 hB; rw [rowE_snoc] at hB; clear hF hA; have hA := hB; clear hB; (try simp only [setL, List.set_cons_zero, List.set_cons_succ, List.cons_append, List.nil_append] at hA); (have hF := hA.facts); (try simp only [facts_cons, facts_nil, facts_cells, facts_old, facts_fact, facts_obj, facts_map, facts_iter, facts_row, and_true, true_and] at hF)))
          go_roundg (gk - 1)
          case measure => omega
          case rel => exact ⟨i + 1, by simp, by omega, by rw [hn.out]; exact (shut_E hA (by with_reducible repeat (first | exact Sel.here | apply Sel.there)) hcl hcap1 hcm hct).pick (by with_reducible repeat (first | exact Picks.nil | refine Picks.cons (by with_reducible repeat (first | exact Sel.here | apply Sel.there)) ?_))⟩
    · have eL : L.take i = L := List.take_of_length_le (by omega)
      rw [eL] at hA
      obtain ⟨dx, dn, dcap, hdv, hdn⟩ := hA.row_hid (v := u11) (n := (dropF all p n f L).length) (xs := flatE (dropF all p n f L)) (by with_reducible repeat (first | exact Sel.here | apply Sel.there))
      subst hdv
      (try simp only [setL, List.set_cons_zero, List.set_cons_succ, List.cons_append, List.nil_append] at hA); (have hF := hA.facts); (try simp only [facts_cons, facts_nil, facts_cells, facts_old, facts_fact, facts_obj, facts_map, facts_iter, facts_row, and_true, true_and] at hF)
      go_wp2_with (first | ((with_reducible show wpList _ _ _ ({ dst := _, op := Op.store _ _ _, type := _, pos := _, after := _, guard := _ } :: _) _ _); refine wpList_store_at rfl rfl rfl (by (try simp only [Act.eval, Array.getD_eq_getD_getElem?, List.getElem?_toArray, List.getElem?_cons_succ, List.getElem?_cons_zero, Option.getD_some]) <;> exact rfl) (by exact rfl) hA (by with_reducible repeat (first | exact Sel.here | apply Sel.there)) (by kernel_rfl) rfl (by first | decide | (simp; done) | omega) ?_; intro w1 hB; clear hF hA; have hA := hB; clear hB; (try simp only [setL, List.set_cons_zero, List.set_cons_succ, List.cons_append, List.nil_append] at hA); (have hF := hA.facts); (try simp only [facts_cons, facts_nil, facts_cells, facts_old, facts_fact, facts_obj, facts_map, facts_iter, facts_row, and_true, true_and] at hF)) | ((with_reducible show wpList _ _ _ ({ dst := _, op := Op.box _ _, type := _, pos := _, after := _, guard := _ } :: _) _ _); refine wpList_box_at rfl rfl (by (try simp only [Act.eval, Array.getD_eq_getD_getElem?, List.getElem?_toArray, List.getElem?_cons_succ, List.getElem?_cons_zero, Option.getD_some]) <;> exact rfl) (by exact rfl) hA ?_; intro b1 w1 hB hb1; clear hF hA; have hA := hB; clear hB; (try simp only [setL, List.set_cons_zero, List.set_cons_succ, List.cons_append, List.nil_append] at hA); (have hF := hA.facts); (try simp only [facts_cons, facts_nil, facts_cells, facts_old, facts_fact, facts_obj, facts_map, facts_iter, facts_row, and_true, true_and] at hF)))
      refine bodyPost_ret (v := .agg #[.int .u64 first, .slice dx dn dcap, .slice cx ck cc]) (by simp [results, Tryz.results56, go_sem, hF]) rfl ⟨_, rfl, ?_⟩
      exact hA.only1 (by with_reducible repeat (first | exact Sel.here | apply Sel.there))
end Go.Proofs.YtalfoiodejoicaaGreatDoor.Lock
end
