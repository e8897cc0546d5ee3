/- A clock: slices.DeleteFunc at names; Ripe. -/
import Derived.Test.YticmopnbfpgaiaaClockR
namespace Go.Proofs.Yticmopnbfpgaiaa.Clk
open Go.RowKit
open Go.Maps (Keyed)
open _root_.Go.Proofs.Yticmopnbfpgaiaa.Mark (idV idL ltID sortID idL_len sort_len idL_one)
set_option linter.unusedSimpArgs false
set_option linter.unusedVariables false
attribute [-go_sem] run_eql_struct run_neq_struct run_eqGuard_agg
attribute [local go_sem] guardM eqlM neqM guardR eqlR neqR

def keepF (f : I2 → Bool) (l : List I2) : List I2 := l.filter (fun x => !f x)
abbrev rowN (v : Value) (n : Nat) (lc : List I2) : Part := .row 50 2 v n (flatI lc)
theorem keepF_snoc (f : I2 → Bool) (l : List I2) (x : I2) : keepF f (l ++ [x]) = keepF f l ++ (if f x then [] else [x]) := by
  unfold keepF
  rw [List.filter_append]
  cases h : f x <;> simp [h]
theorem flatI_take (l : List I2) (k : Nat) : (flatI l).take (k * 2) = flatI (l.take k) := by
  induction l generalizing k with
  | nil => simp [flatI]
  | cons x l ih =>
    cases k with
    | zero => simp [flatI]
    | succ k =>
      have := ih k
      unfold flatI at *
      rw [List.take_succ_cons, List.flatMap_cons, List.flatMap_cons, ← this, List.take_append]
      have e : (idL x).length = 2 := rfl
      rw [List.take_of_length_le (by omega), e, show (k + 1) * 2 - 2 = k * 2 by omega]
structure Moved (f : I2 → Bool) (l lc : List I2) (i j : Nat) : Prop where
  lt : i < j
  len : lc.length = l.length
  head : lc.take i = keepF f (l.take j)
  tail : lc.drop j = l.drop j
theorem Moved.at {f : I2 → Bool} {l lc : List I2} {i j : Nat} (h : Moved f l lc i j) (hj : j < l.length) : lc[j]? = some l[j] := by
  have := congrArg (fun m => m[0]?) h.tail
  simp only [List.getElem?_drop, Nat.add_zero] at this
  rw [this, List.getElem?_eq_getElem hj]
theorem Moved.tail1 {f : I2 → Bool} {l lc : List I2} {i j : Nat} (h : Moved f l lc i j) : lc.drop (j + 1) = l.drop (j + 1) := by
  have := congrArg (fun m => m.drop 1) h.tail
  simpa [List.drop_drop, Nat.add_comm] using this
theorem Moved.gone {f : I2 → Bool} {l lc : List I2} {i j : Nat} (h : Moved f l lc i j) (hj : j < l.length) (hf : f l[j] = true) : Moved f l lc i (j + 1) :=
  ⟨by have := h.lt; omega, h.len, by rw [h.head, List.take_succ_eq_append_getElem hj, keepF_snoc, hf]; exact (List.append_nil _).symm, h.tail1⟩
theorem Moved.kept {f : I2 → Bool} {l lc : List I2} {i j : Nat} (h : Moved f l lc i j) (hj : j < l.length) (hf : f l[j] = false) : Moved f l (lc.set i l[j]) (i + 1) (j + 1) := by
  have hlt := h.lt
  have hil : i < lc.length := by rw [h.len]; omega
  refine ⟨by omega, by rw [List.length_set, h.len], ?_, ?_⟩
  · rw [List.take_succ_eq_append_getElem hj, List.take_succ_eq_append_getElem (by rw [List.length_set]; exact hil), List.take_set_of_le (Nat.le_refl _), h.head, keepF_snoc, hf, List.getElem_set_self]
    rfl
  · rw [List.drop_set_of_lt (by omega), h.tail1]
theorem Moved.first {f : I2 → Bool} {l : List I2} {i : Nat} (hi : i < l.length) (hf : f l[i] = true) (hn : ∀ x ∈ l.take i, f x = false) : Moved f l l i (i + 1) := by
  refine ⟨by omega, rfl, ?_, rfl⟩
  rw [List.take_succ_eq_append_getElem hi, keepF_snoc, hf]
  unfold keepF
  rw [List.filter_eq_self.2 (fun x hx => by rw [hn x hx]; rfl)]
  exact (List.append_nil _).symm

def DelFRel (w : World) (v : Value) (l : List I2) (E : Part) (f : I2 → Bool) (k : Nat) (u5 u6 : Value) (wr : World) : Prop :=
  ∃ (i j : Nat) (lc : List I2), u5 = .int .i64 i ∧ u6 = .int .i64 j ∧ j + k = l.length ∧ Moved f l lc i j ∧ At [rowI v l, E] w [rowN v l.length lc, E] wr
def DelFPost (w : World) (v : Value) (l : List I2) (E : Part) (f : I2 → Bool) (e : Ending) (w' : World) : Prop :=
  ∃ v', e = .returned v' ∧ At [rowI v l, E] w [rowI v' (keepF f l), E] w'
set_option maxRecDepth 100000 in
set_option maxHeartbeats 1000000 in
theorem delf_any {w : World} {v : Value} {l : List I2} {p b bp bw : Nat} {now wait : Int} {mp : List WR} (h : Sep [rowI v l, cloP p b now mp bp bw wait] w) (hpast : Past mp now) (hn : now < 1099511627777) (hm : ∀ x ∈ l, ∃ t, (x, t) ∈ mp) (hmax : l.length ≤ 1000000) :
    Calls Try.prog 96 #[v, .func (.func 107) #[] #[.pointer (some ⟨bp, 0, none⟩), .pointer (some ⟨bw, 0, none⟩)]] w (DelFPost w v l (cloP p b now mp bp bw wait) (young mp now wait)) := by
  have hA := At.start h
  have hF := hA.facts
  clear h
  have hm' := Lib.hid hm
  have hpast' := Lib.hid hpast
  clear hm hpast
  go_enter Try.func96, Try.ntmps96
  go_wp2_with fail
  refine (idxf_any hA.sep hpast'.out hn hm'.out hmax).mono ?_
  rintro e w2 ⟨hr, hT⟩
  have hB := hA.call2 (by with_reducible repeat (first | exact Sel.here | apply Sel.there)) (by with_reducible repeat (first | exact Sel.here | apply Sel.there)) hT
  clear hF hA hT
  have hA := hB
  clear hB
  (try simp only [setL, List.set_cons_zero, List.set_cons_succ, List.cons_append, List.nil_append] at hA); (have hF := hA.facts); (try simp only [facts_cons, facts_nil, facts_cells, facts_old, facts_fact, facts_obj, facts_map, facts_iter, and_true, true_and] at hF)
  rcases hr with ⟨i0, rfl, hi0, hf0, hno⟩ | ⟨rfl, hno⟩
  · obtain ⟨ax, cap, rfl, hax, hcap, _⟩ := hA.row_form (v := v) (xs := flatI l) (by with_reducible repeat (first | exact Sel.here | apply Sel.there))
    have hM0 := Lib.hid (Moved.first hi0 (hf0 hi0) hno)
    clear hf0 hno
    have hne : ((i0 : Int) == -1) = false := by simp
    go_wp2_with fail
    try go_frame
    go_loopg [5, 6] (l.length - (i0 + 1)) (DelFRel w (.slice ax l.length cap) l (cloP p b now mp bp bw wait) (young mp now wait))
    case atStart => exact ⟨i0, i0 + 1, l, rfl, by simp, by omega, hM0.out, hA.only2 (by with_reducible repeat (first | exact Sel.here | apply Sel.there)) (by with_reducible repeat (first | exact Sel.here | apply Sel.there))⟩
    case round =>
      obtain ⟨i, j, lc, rfl, rfl, hjk, hMv, hB⟩ := hrel
      have hMv' := Lib.hid hMv
      have hij := hMv.lt
      have hlen := hMv.len
      clear hF hA hMv
      have hA := hB
      clear hB
      obtain ⟨g, c, rfl, _, hcm, hcl, hct, hB⟩ := hA.row_open (ax := ax) (cap := cap) (n := l.length) (xs := flatI lc) (by with_reducible repeat (first | exact Sel.here | apply Sel.there)) (by omega)
      have hct' : c.take (lc.length * 2) = lc.flatMap idL := by rw [hlen]; exact hct
      clear hA
      have hA := hB
      clear hB
      by_cases hj : j < l.length
      · have hx : lc[j]? = some l[j] := hMv'.out.at hj
        have c0 : c[j * 2]? = some (.int .i64 l[j].1) := cells_at idL_len hct' hx 0 (by omega)
        have c1 : c[j * 2 + 1]? = some (.int .i64 l[j].2) := cells_at idL_len hct' hx 1 (by omega)
        (try simp only [setL, List.set_cons_zero, List.set_cons_succ, List.cons_append, List.nil_append] at hA); (have hF := hA.facts); (try simp only [facts_cons, facts_nil, facts_cells, facts_old, facts_fact, facts_obj, facts_map, facts_iter, and_true, true_and] at hF)
        cases hy : young mp now wait l[j]
        · have hMn := Lib.hid (hMv'.out.kept hj hy)
          have hwr := Lib.hid (write_row idL_len hct' (i := i) (by omega) l[j])
          go_wp2_with (first | (refine wpList_store_at rfl rfl rfl (by (try simp only [Act.eval, Array.getD_eq_getD_getElem?, List.getElem?_toArray, List.getElem?_cons_succ, List.getElem?_cons_zero, Option.getD_some]) <;> exact rfl) (by exact rfl) hA (by with_reducible repeat (first | exact Sel.here | apply Sel.there)) (by kernel_rfl) rfl (by first | decide | (simp; done) | omega) ?_; intro w1 hB; clear hF hA; have hA := hB; clear hB; (try simp only [setL, List.set_cons_zero, List.set_cons_succ, List.cons_append, List.nil_append] at hA); (have hF := hA.facts); (try simp only [facts_cons, facts_nil, facts_cells, facts_old, facts_fact, facts_obj, facts_map, facts_iter, and_true, true_and] at hF)) | (refine wpList_box_at rfl rfl (by (try simp only [Act.eval, Array.getD_eq_getD_getElem?, List.getElem?_toArray, List.getElem?_cons_succ, List.getElem?_cons_zero, Option.getD_some]) <;> exact rfl) (by exact rfl) hA ?_; intro b1 w1 hB hb1; clear hF hA; have hA := hB; clear hB; (try simp only [setL, List.set_cons_zero, List.set_cons_succ, List.cons_append, List.nil_append] at hA); (have hF := hA.facts); (try simp only [facts_cons, facts_nil, facts_cells, facts_old, facts_fact, facts_obj, facts_map, facts_iter, and_true, true_and] at hF)) | (refine wpList_alloc_at (E := 50) (z := .agg #[.int .i64 0, .int .i64 0]) (vs := [.int .i64 0, .int .i64 0]) rfl rfl (by kernel_rfl) rfl hA ?_; intro b1 w1 hB hb1; clear hF hA; have hA := hB; clear hB; (try simp only [setL, List.set_cons_zero, List.set_cons_succ, List.cons_append, List.nil_append] at hA); (have hF := hA.facts); (try simp only [facts_cons, facts_nil, facts_cells, facts_old, facts_fact, facts_obj, facts_map, facts_iter, and_true, true_and] at hF)))
          refine (ripe1_c (hA.sep1 (by with_reducible repeat (first | exact Sel.here | apply Sel.there))) hpast'.out hn (hm'.out _ (List.getElem_mem hj)) hy).mono ?_
          rintro e w2 ⟨rfl, hT⟩
          have hB := hA.call1 (by with_reducible repeat (first | exact Sel.here | apply Sel.there)) hT
          clear hF hA hT
          have hA := hB
          clear hB
          (try simp only [setL, List.set_cons_zero, List.set_cons_succ, List.cons_append, List.nil_append] at hA); (have hF := hA.facts); (try simp only [facts_cons, facts_nil, facts_cells, facts_old, facts_fact, facts_obj, facts_map, facts_iter, and_true, true_and] at hF)
          go_wp2_with (first | (refine wpList_store_at (b := g) (j := i * 2) (c := c) (vs := idL l[j]) rfl rfl rfl (by (try simp only [Act.eval, Array.getD_eq_getD_getElem?, List.getElem?_toArray, List.getElem?_cons_succ, List.getElem?_cons_zero, Option.getD_some]) <;> exact rfl) (by exact rfl) hA (by with_reducible repeat (first | exact Sel.here | apply Sel.there)) (by kernel_rfl) rfl (by show i * 2 + 2 ≤ c.length; omega) ?_; intro w1 hB; clear hF hA; have hA := hB; clear hB))
          go_roundg (gk - 1)
          case measure => omega
          case rel =>
            have hS := hA.row_shut (n := l.length) (cap := cap) (xs := flatI (lc.set i l[j])) (by with_reducible repeat (first | exact Sel.here | apply Sel.there)) (by rw [setL_length]; exact hcl) (by omega) hcm (by have := hwr.out; rw [List.length_set, hlen] at this; exact this)
            exact ⟨i + 1, j + 1, _, by simp, by simp, by omega, hMn.out, hS.only2 (by with_reducible repeat (first | exact Sel.here | apply Sel.there)) (by with_reducible repeat (first | exact Sel.here | apply Sel.there))⟩
        · have hMn := Lib.hid (hMv'.out.gone hj hy)
          go_wp2_with (first | (refine wpList_store_at rfl rfl rfl (by (try simp only [Act.eval, Array.getD_eq_getD_getElem?, List.getElem?_toArray, List.getElem?_cons_succ, List.getElem?_cons_zero, Option.getD_some]) <;> exact rfl) (by exact rfl) hA (by with_reducible repeat (first | exact Sel.here | apply Sel.there)) (by kernel_rfl) rfl (by first | decide | (simp; done) | omega) ?_; intro w1 hB; clear hF hA; have hA := hB; clear hB; (try simp only [setL, List.set_cons_zero, List.set_cons_succ, List.cons_append, List.nil_append] at hA); (have hF := hA.facts); (try simp only [facts_cons, facts_nil, facts_cells, facts_old, facts_fact, facts_obj, facts_map, facts_iter, and_true, true_and] at hF)) | (refine wpList_box_at rfl rfl (by (try simp only [Act.eval, Array.getD_eq_getD_getElem?, List.getElem?_toArray, List.getElem?_cons_succ, List.getElem?_cons_zero, Option.getD_some]) <;> exact rfl) (by exact rfl) hA ?_; intro b1 w1 hB hb1; clear hF hA; have hA := hB; clear hB; (try simp only [setL, List.set_cons_zero, List.set_cons_succ, List.cons_append, List.nil_append] at hA); (have hF := hA.facts); (try simp only [facts_cons, facts_nil, facts_cells, facts_old, facts_fact, facts_obj, facts_map, facts_iter, and_true, true_and] at hF)) | (refine wpList_alloc_at (E := 50) (z := .agg #[.int .i64 0, .int .i64 0]) (vs := [.int .i64 0, .int .i64 0]) rfl rfl (by kernel_rfl) rfl hA ?_; intro b1 w1 hB hb1; clear hF hA; have hA := hB; clear hB; (try simp only [setL, List.set_cons_zero, List.set_cons_succ, List.cons_append, List.nil_append] at hA); (have hF := hA.facts); (try simp only [facts_cons, facts_nil, facts_cells, facts_old, facts_fact, facts_obj, facts_map, facts_iter, and_true, true_and] at hF)))
          refine (ripe1_c (hA.sep1 (by with_reducible repeat (first | exact Sel.here | apply Sel.there))) hpast'.out hn (hm'.out _ (List.getElem_mem hj)) hy).mono ?_
          rintro e w2 ⟨rfl, hT⟩
          have hB := hA.call1 (by with_reducible repeat (first | exact Sel.here | apply Sel.there)) hT
          clear hF hA hT
          have hA := hB
          clear hB
          (try simp only [setL, List.set_cons_zero, List.set_cons_succ, List.cons_append, List.nil_append] at hA); (have hF := hA.facts); (try simp only [facts_cons, facts_nil, facts_cells, facts_old, facts_fact, facts_obj, facts_map, facts_iter, and_true, true_and] at hF)
          go_wp2_with fail
          go_roundg (gk - 1)
          case measure => omega
          case rel =>
            have hS := hA.row_shut (n := l.length) (cap := cap) (xs := flatI lc) (by with_reducible repeat (first | exact Sel.here | apply Sel.there)) hcl (by omega) hcm hct
            exact ⟨i, j + 1, lc, rfl, by simp, by omega, hMn.out, hS.only2 (by with_reducible repeat (first | exact Sel.here | apply Sel.there)) (by with_reducible repeat (first | exact Sel.here | apply Sel.there))⟩
      · have hci : ¬ cap = i := by omega
        have hil : i ≤ l.length := by omega
        have hkl : (keepF (young mp now wait) l).length = i := by
          have := congrArg List.length hMv'.out.head
          rw [List.take_of_length_le (l := l) (by omega), List.length_take] at this
          omega
        have hfl : flatI (keepF (young mp now wait) l) = (flatI lc).take (i * 2) := by
          have := hMv'.out.head
          rw [List.take_of_length_le (l := l) (by omega)] at this
          rw [flatI_take, this]
        have hkl' := Lib.hid hkl
        have hfl' := Lib.hid hfl
        clear hkl hfl
        (try simp only [setL, List.set_cons_zero, List.set_cons_succ, List.cons_append, List.nil_append] at hA); (have hF := hA.facts); (try simp only [facts_cons, facts_nil, facts_cells, facts_old, facts_fact, facts_obj, facts_map, facts_iter, and_true, true_and] at hF)
        go_wp2_with (first | (refine wpList_clear_at (e := 50) (z := .agg #[.int .i64 0, .int .i64 0]) (b := g) (off := i * 2) (m := l.length - i) (cp := cap - i) (c := c) (T := 50) rfl rfl Try.underlying51 (fun _ => by kernel_rfl) (idL_one (0, 0)) (by decide) (by (try simp only [Act.eval, Array.getD_eq_getD_getElem?, List.getElem?_toArray, List.getElem?_cons_succ, List.getElem?_cons_zero, Option.getD_some]) <;> exact rfl) (by omega) hA (by with_reducible repeat (first | exact Sel.here | apply Sel.there)) (by show i * 2 + (l.length - i) * 2 ≤ c.length; omega) ?_; intro c' w1 hcl' hct2 hB; clear hF hA; have hA := hB; clear hB; (try simp only [setL, List.set_cons_zero, List.set_cons_succ, List.cons_append, List.nil_append] at hA); (have hF := hA.facts); (try simp only [facts_cons, facts_nil, facts_cells, facts_old, facts_fact, facts_obj, facts_map, facts_iter, and_true, true_and] at hF)))
        go_ret
        have hS := hA.row_shut (n := i) (cap := cap) (xs := flatI (keepF (young mp now wait) l)) (by with_reducible repeat (first | exact Sel.here | apply Sel.there)) (hcl'.trans hcl) (by omega) hcm (by
          rw [hfl'.out, hct2, ← hct, List.take_take, Nat.min_eq_left (by omega)])
        refine ⟨.slice (some ⟨g, 0, none⟩) i cap, rfl, ?_⟩
        show At _ _ [Part.row 50 2 (.slice (some ⟨g, 0, none⟩) i cap) (keepF (young mp now wait) l).length (flatI (keepF (young mp now wait) l)), cloP p b now mp bp bw wait] _
        rw [hkl'.out]
        exact hS.only2 (by with_reducible repeat (first | exact Sel.here | apply Sel.there)) (by with_reducible repeat (first | exact Sel.here | apply Sel.there))
  · have hk : keepF (young mp now wait) l = l := List.filter_eq_self.2 (fun x hx => by rw [hno x hx]; rfl)
    clear hno
    go_wp2_with fail
    refine bodyPost_ret (results_tmp rfl _ _ _) rfl ?_
    exact ⟨v, rfl, by rw [hk]; exact hA.only2 (by with_reducible repeat (first | exact Sel.here | apply Sel.there)) (by with_reducible repeat (first | exact Sel.here | apply Sel.there))⟩

/-! ### Ripe -/
def ripeL (mp : List WR) (now wait : Int) : List I2 := keepF (young mp now wait) (sortID (keysL mp))
def RipePost (w : World) (p b : Nat) (now wait : Int) (mp : List WR) (e : Ending) (w' : World) : Prop := ∃ v, e = .returned v ∧ At [clkH p b now, mapC b mp] w [rowI v (ripeL mp now wait), clkH p b now, mapC b mp] w'
theorem sort_mem {mp : List WR} : ∀ x ∈ sortID (keysL mp), ∃ t, (x, t) ∈ mp := by
  intro x hx
  have : x ∈ keysL mp := (List.mergeSort_perm _ _).mem_iff.1 hx
  obtain ⟨y, hy, rfl⟩ := List.mem_map.1 this
  exact ⟨y.2, hy⟩
set_option maxRecDepth 100000 in
theorem ripe_any {w : World} {p b : Nat} {now wait : Int} {mp : List WR} (h : Sep [clkH p b now, mapC b mp] w) (hpast : Past mp now) (hn : now < 1099511627777) (hmax : mp.length ≤ 1000000) :
    Calls Try.prog 73 #[.pointer (some ⟨p, 0, none⟩), .int .i64 wait] w (RipePost w p b now wait mp) := by
  have hA := At.start h
  have hF := hA.facts
  (try simp only [setL, List.set_cons_zero, List.set_cons_succ, List.cons_append, List.nil_append] at hA); (have hF := hA.facts); (try simp only [facts_cons, facts_nil, facts_cells, facts_old, facts_fact, facts_obj, facts_map, facts_iter, and_true, true_and] at hF)
  clear h
  have hpast' := Lib.hid hpast
  clear hpast
  go_enter Try.func73, Try.ntmps73
  go_wp2_with (first | (refine wpList_box_at (E := 46) rfl rfl (by (try simp only [Act.eval, Array.getD_eq_getD_getElem?, List.getElem?_toArray, List.getElem?_cons_succ, List.getElem?_cons_zero, Option.getD_some]) <;> exact rfl) (vs := [.pointer (some ⟨p, 0, none⟩)]) (by exact rfl) hA ?_; intro bp w1 hB hbp; clear hF hA; have hA := hB; clear hB; (try simp only [setL, List.set_cons_zero, List.set_cons_succ, List.cons_append, List.nil_append] at hA); (have hF := hA.facts); (try simp only [facts_cons, facts_nil, facts_cells, facts_old, facts_fact, facts_obj, facts_map, facts_iter, and_true, true_and] at hF)) | (refine wpList_box_at (E := 3) rfl rfl (by (try simp only [Act.eval, Array.getD_eq_getD_getElem?, List.getElem?_toArray, List.getElem?_cons_succ, List.getElem?_cons_zero, Option.getD_some]) <;> exact rfl) (vs := [.int .i64 wait]) (by exact rfl) hA ?_; intro bw w1 hB hbw; clear hF hA; have hA := hB; clear hB; (try simp only [setL, List.set_cons_zero, List.set_cons_succ, List.cons_append, List.nil_append] at hA); (have hF := hA.facts); (try simp only [facts_cons, facts_nil, facts_cells, facts_old, facts_fact, facts_obj, facts_map, facts_iter, and_true, true_and] at hF)))
  refine (watched_any (hA.sep2 (by with_reducible repeat (first | exact Sel.here | apply Sel.there)) (by with_reducible repeat (first | exact Sel.here | apply Sel.there))) hmax).mono ?_
  rintro e w2 ⟨v, rfl, hT⟩
  have hB := hA.call2 (by with_reducible repeat (first | exact Sel.here | apply Sel.there)) (by with_reducible repeat (first | exact Sel.here | apply Sel.there)) hT
  clear hF hA hT
  have hA := hB
  clear hB
  (try simp only [setL, List.set_cons_zero, List.set_cons_succ, List.cons_append, List.nil_append] at hA); (have hF := hA.facts); (try simp only [facts_cons, facts_nil, facts_cells, facts_old, facts_fact, facts_obj, facts_map, facts_iter, and_true, true_and] at hF)
  have hl : (sortID (keysL mp)).length ≤ 1000000 := by rw [sort_len]; simpa [keysL] using hmax
  go_wp2_with fail
  have hA5 : At [clkH p b now, mapC b mp] w (cloL p b now mp bp bw wait ++ [rowI v (sortID (keysL mp))]) w2 := hA.only5 (A := .cells bp [.pointer (some ⟨p, 0, none⟩)] 46) (B := .cells bw [.int .i64 wait] 3) (C := clkH p b now) (D := mapC b mp) (E := rowI v (sortID (keysL mp))) (by with_reducible repeat (first | exact Sel.here | apply Sel.there)) (by with_reducible repeat (first | exact Sel.here | apply Sel.there)) (by with_reducible repeat (first | exact Sel.here | apply Sel.there)) (by with_reducible repeat (first | exact Sel.here | apply Sel.there)) (by with_reducible repeat (first | exact Sel.here | apply Sel.there))
  have hB : At [clkH p b now, mapC b mp] w [cloP p b now mp bp bw wait, rowI v (sortID (keysL mp))] w2 := hA5.fold
  refine (delf_any (hB.sep2 (A := rowI v (sortID (keysL mp))) (B := cloP p b now mp bp bw wait) (by repeat (first | exact Sel.here | apply Sel.there)) (by repeat (first | exact Sel.here | apply Sel.there))) hpast'.out hn sort_mem hl).mono ?_
  rintro e w3 ⟨v', rfl, hT⟩
  have hC := hB.call2 (A := rowI v (sortID (keysL mp))) (B := cloP p b now mp bp bw wait) (by repeat (first | exact Sel.here | apply Sel.there)) (by repeat (first | exact Sel.here | apply Sel.there)) hT
  have hD : At [clkH p b now, mapC b mp] w (cloL p b now mp bp bw wait ++ [rowI v' (ripeL mp now wait)]) w3 := (hC.perm (L' := cloP p b now mp bp bw wait :: [rowI v' (ripeL mp now wait)]) (List.Perm.swap _ _ _)).unfold
  go_wp2_with fail
  go_ret
  exact ⟨v', rfl, hD.only3 (B := clkH p b now) (C := mapC b mp) (by repeat (first | exact Sel.here | apply Sel.there)) (by repeat (first | exact Sel.here | apply Sel.there)) (by repeat (first | exact Sel.here | apply Sel.there))⟩
end Go.Proofs.Yticmopnbfpgaiaa.Clk
