/- LockX, LockXa, joined. -/
import Derived.Test.YtnkddjomanaadaaGreatDoorK23
import Derived.Test.YtnkddjomanaadaaGreatDoorK15
section
namespace Go.Proofs.YtnkddjomanaadaaGreatDoor.Lock
open Go.RowKit
open Path (bl rightB overB)
set_option linter.unusedSimpArgs false
set_option linter.unusedVariables false

abbrev rowH (v : Value) (L : List Ent) : Part := .row 41 6 v L.length (flatE L)
/-- does an entry not wait for this one? -/
def offF (e x : Ent) : Bool := decide (e.stamp ≤ x.stamp) || !wayB x e
abbrev cloP (bE : Nat) (e : Ent) : Part := .cells bE [.string e.path, .int .u64 e.num, .string e.foot, .int .i64 e.mode, .int .u64 e.n, .int .i64 e.stamp] 41
set_option maxRecDepth 100000 in
set_option maxHeartbeats 1000000 in
theorem off1_any {w : World} {bE : Nat} {e x : Ent} (h : Sep [cloP bE e] w) (he : e.path.size ≤ 1000) (hx : x.path.size ≤ 1000) :
    Calls Tryz.prog 35 #[x.val, .pointer (some ⟨bE, 0, none⟩)] w fun o w' => o = .returned (.bool (offF e x)) ∧ At [cloP bE e] w [cloP bE e] w' := by
  have hA := At.start h
  have hF := hA.facts
  have hway := fun w1 => way_any x e w1 (by omega) (by omega)
  unfold offF
  generalize wayB x e = wv at *
  obtain ⟨d, hd⟩ : ∃ d, decide (e.stamp ≤ x.stamp) = d := ⟨_, rfl⟩
  rw [hd]
  simp only [Ent.val] at hway ⊢
  clear h
  (try simp only [setL, List.set_cons_zero, List.set_cons_succ, List.cons_append, List.nil_append] at hA); (have hF := hA.facts); (try simp only [facts_cons, facts_nil, facts_cells, facts_old, facts_fact, facts_obj, facts_map, facts_iter, facts_row, and_true, true_and] at hF)
  cases d
  all_goals
    go_enter Tryz.func35, Tryz.ntmps35
    go_wp2_with (first | ((with_reducible show wpList _ _ _ ({ dst := _, op := Op.box _ _, type := _, pos := _, after := _, guard := _ } :: _) _ _); refine wpList_box_at (E := 41) rfl rfl (by (try simp only [Act.eval, Array.getD_eq_getD_getElem?, List.getElem?_toArray, List.getElem?_cons_succ, List.getElem?_cons_zero, Option.getD_some]) <;> exact rfl) (by exact rfl) hA ?_; intro bX w1 hB hbX; clear hF hA; have hA := hB; clear hB; (try simp only [setL, List.set_cons_zero, List.set_cons_succ, List.cons_append, List.nil_append] at hA); (have hF := hA.facts); (try simp only [facts_cons, facts_nil, facts_cells, facts_old, facts_fact, facts_obj, facts_map, facts_iter, facts_row, and_true, true_and] at hF)) | ((with_reducible show wpList _ _ _ ({ dst := _, op := Op.store _ _ _, type := _, pos := _, after := _, guard := _ } :: _) _ _); refine wpList_store_at rfl rfl rfl (by (try simp only [Act.eval, Array.getD_eq_getD_getElem?, List.getElem?_toArray, List.getElem?_cons_succ, List.getElem?_cons_zero, Option.getD_some]) <;> exact rfl) (by exact rfl) hA (by with_reducible repeat (first | exact Sel.here | apply Sel.there)) (by kernel_rfl) rfl (by first | decide | (simp; done) | omega) ?_; intro w1 hB; clear hF hA; have hA := hB; clear hB; (try simp only [setL, List.set_cons_zero, List.set_cons_succ, List.cons_append, List.nil_append] at hA); (have hF := hA.facts); (try simp only [facts_cons, facts_nil, facts_cells, facts_old, facts_fact, facts_obj, facts_map, facts_iter, facts_row, and_true, true_and] at hF)) | ((with_reducible show wpList _ _ _ ({ dst := _, op := Op.box _ _, type := _, pos := _, after := _, guard := _ } :: _) _ _); refine wpList_box_at rfl rfl (by (try simp only [Act.eval, Array.getD_eq_getD_getElem?, List.getElem?_toArray, List.getElem?_cons_succ, List.getElem?_cons_zero, Option.getD_some]) <;> exact rfl) (by exact rfl) hA ?_; intro b1 w1 hB hb1; clear hF hA; have hA := hB; clear hB; (try simp only [setL, List.set_cons_zero, List.set_cons_succ, List.cons_append, List.nil_append] at hA); (have hF := hA.facts); (try simp only [facts_cons, facts_nil, facts_cells, facts_old, facts_fact, facts_obj, facts_map, facts_iter, facts_row, and_true, true_and] at hF)))
    try (refine (hway _).mono ?_; rintro o w8 ⟨rfl, hx8⟩; have hB := hA.ext hx8; clear hF hA hx8; have hA := hB; clear hB; (try simp only [setL, List.set_cons_zero, List.set_cons_succ, List.cons_append, List.nil_append] at hA); (have hF := hA.facts); (try simp only [facts_cons, facts_nil, facts_cells, facts_old, facts_fact, facts_obj, facts_map, facts_iter, facts_row, and_true, true_and] at hF); go_wp2_with (first | ((with_reducible show wpList _ _ _ ({ dst := _, op := Op.store _ _ _, type := _, pos := _, after := _, guard := _ } :: _) _ _); refine wpList_store_at rfl rfl rfl (by (try simp only [Act.eval, Array.getD_eq_getD_getElem?, List.getElem?_toArray, List.getElem?_cons_succ, List.getElem?_cons_zero, Option.getD_some]) <;> exact rfl) (by exact rfl) hA (by with_reducible repeat (first | exact Sel.here | apply Sel.there)) (by kernel_rfl) rfl (by first | decide | (simp; done) | omega) ?_; intro w1 hB; clear hF hA; have hA := hB; clear hB; (try simp only [setL, List.set_cons_zero, List.set_cons_succ, List.cons_append, List.nil_append] at hA); (have hF := hA.facts); (try simp only [facts_cons, facts_nil, facts_cells, facts_old, facts_fact, facts_obj, facts_map, facts_iter, facts_row, and_true, true_and] at hF)) | ((with_reducible show wpList _ _ _ ({ dst := _, op := Op.box _ _, type := _, pos := _, after := _, guard := _ } :: _) _ _); refine wpList_box_at rfl rfl (by (try simp only [Act.eval, Array.getD_eq_getD_getElem?, List.getElem?_toArray, List.getElem?_cons_succ, List.getElem?_cons_zero, Option.getD_some]) <;> exact rfl) (by exact rfl) hA ?_; intro b1 w1 hB hb1; clear hF hA; have hA := hB; clear hB; (try simp only [setL, List.set_cons_zero, List.set_cons_succ, List.cons_append, List.nil_append] at hA); (have hF := hA.facts); (try simp only [facts_cons, facts_nil, facts_cells, facts_old, facts_fact, facts_obj, facts_map, facts_iter, facts_row, and_true, true_and] at hF))))
    go_ret
    exact ⟨rfl, hA.only1 (by with_reducible repeat (first | exact Sel.here | apply Sel.there))⟩
theorem off1_c {w : World} {bE : Nat} {e x : Ent} (h : Sep [cloP bE e] w) (he : e.path.size ≤ 1000) (hx : x.path.size ≤ 1000) {c : Bool} (hc : offF e x = c) :
    Calls Tryz.prog 35 #[.agg #[.string x.path, .int .u64 x.num, .string x.foot, .int .i64 x.mode, .int .u64 x.n, .int .i64 x.stamp], .pointer (some ⟨bE, 0, none⟩)] w fun o w' => o = .returned (.bool c) ∧ At [cloP bE e] w [cloP bE e] w' := by
  subst hc; exact off1_any h he hx
theorem shut_H {L0 K F : List Part} {w0 w : World} {g cap : Nat} {c : List Value} {L : List Ent} (hA : At L0 w0 K w) (s : Sel (Part.cells g c 41) K F) (hcl : c.length = cap * 6) (hcap : L.length ≤ cap) (hcm : cap ≤ maxLen) (hct : c.take (L.length * 6) = flatE L) :
    At L0 w0 (rowH (.slice (some ⟨g, 0, none⟩) L.length cap) L :: F) w := hA.row_shut s hcl hcap hcm hct
def IdxFRel (w : World) (v : Value) (l : List Ent) (E : Part) (f : Ent → Bool) (k : Nat) (u : Value) (wr : World) : Prop :=
  ∃ i : Nat, u = .int .i64 i ∧ i + k = l.length ∧ At [rowH v l, E] w [rowH v l, E] wr ∧ ∀ x ∈ l.take i, f x = false
def IdxFPost (w : World) (v : Value) (l : List Ent) (E : Part) (f : Ent → Bool) (e : Ending) (w' : World) : Prop :=
  ((∃ i : Nat, e = .returned (.int .i64 i) ∧ i < l.length ∧ (∀ h : i < l.length, f l[i] = true) ∧ ∀ x ∈ l.take i, f x = false) ∨ (e = .returned (.int .i64 (-1)) ∧ ∀ x ∈ l, f x = false)) ∧ At [rowH v l, E] w [rowH v l, E] w'
set_option maxRecDepth 100000 in
theorem idxf_any {w : World} {v : Value} {l : List Ent} {bE : Nat} {e0 : Ent} (h : Sep [rowH v l, cloP bE e0] w) (he0 : e0.path.size ≤ 1000) (hm : ∀ x ∈ l, x.path.size ≤ 1000) (hmax : l.length ≤ 1000000) :
    Calls Tryz.prog 70 #[v, .func (.func 35) #[] #[.pointer (some ⟨bE, 0, none⟩)]] w (IdxFPost w v l (cloP bE e0) (offF e0)) := by
  have hA := At.start h
  have hF := hA.facts
  clear h
  obtain ⟨ax, cap, rfl, hax, hcap, _⟩ := hA.row_form (v := v) (xs := flatE l) (by with_reducible repeat (first | exact Sel.here | apply Sel.there))
  have hm' := Lib.hid hm
  clear hm
  go_enter Tryz.func70, Tryz.ntmps70
  go_wp2_with fail
  try go_frame
  go_loopg [8] l.length (IdxFRel w (.slice ax l.length cap) l (cloP bE e0) (offF e0))
  case atStart => exact ⟨0, rfl, by simp, hA, by simp⟩
  case round =>
    obtain ⟨i, rfl, hik, hB, hno⟩ := hrel
    have hno' := Lib.hid hno
    clear hF hA hno
    have hA := hB
    clear hB
    by_cases hi : i < l.length
    · obtain ⟨g, c, rfl, _, hcm, hcl, hct, hB⟩ := hA.row_open (ax := ax) (cap := cap) (n := l.length) (xs := flatE l) (by with_reducible repeat (first | exact Sel.here | apply Sel.there)) (by omega)
      have hx : l[i]? = some l[i] := List.getElem?_eq_getElem hi
      (have c0 : c[i * 6]? = some (.string l[i].path) := cells_at Ent.cells_len hct hx 0 (by omega)); (have c1 : c[i * 6 + 1]? = some (.int .u64 l[i].num) := cells_at Ent.cells_len hct hx 1 (by omega)); (have c2 : c[i * 6 + 2]? = some (.string l[i].foot) := cells_at Ent.cells_len hct hx 2 (by omega)); (have c3 : c[i * 6 + 3]? = some (.int .i64 l[i].mode) := cells_at Ent.cells_len hct hx 3 (by omega)); (have c4 : c[i * 6 + 4]? = some (.int .u64 l[i].n) := cells_at Ent.cells_len hct hx 4 (by omega)); (have c5 : c[i * 6 + 5]? = some (.int .i64 l[i].stamp) := cells_at Ent.cells_len hct hx 5 (by omega))
      clear hA
      have hA := hB
      clear hB
      (try simp only [setL, List.set_cons_zero, List.set_cons_succ, List.cons_append, List.nil_append] at hA); (have hF := hA.facts); (try simp only [facts_cons, facts_nil, facts_cells, facts_old, facts_fact, facts_obj, facts_map, facts_iter, facts_row, and_true, true_and] at hF)
      cases hy : offF e0 l[i]
      · go_wp2_with fail
        refine (off1_c (hA.sep1 (A := cloP bE e0) (by with_reducible repeat (first | exact Sel.here | apply Sel.there))) he0 (hm'.out _ (List.getElem_mem hi)) hy).mono ?_
        rintro e w2 ⟨rfl, hT⟩
        have hB := hA.call1 (by with_reducible repeat (first | exact Sel.here | apply Sel.there)) hT
        clear hF hA hT
        have hA := hB
        clear hB
        (try simp only [setL, List.set_cons_zero, List.set_cons_succ, List.cons_append, List.nil_append] at hA); (have hF := hA.facts); (try simp only [facts_cons, facts_nil, facts_cells, facts_old, facts_fact, facts_obj, facts_map, facts_iter, facts_row, and_true, true_and] at hF)
        go_wp2_with fail
        go_roundg (gk - 1)
        case measure => omega
        case rel => exact ⟨i + 1, by simp, by omega, (shut_H hA (by with_reducible repeat (first | exact Sel.here | apply Sel.there)) hcl hcap hcm hct).only2 (by with_reducible repeat (first | exact Sel.here | apply Sel.there)) (by with_reducible repeat (first | exact Sel.here | apply Sel.there)), fun x hx => by
          rw [List.take_succ_eq_append_getElem hi] at hx
          rcases List.mem_append.1 hx with hx | hx
          · exact hno'.out x hx
          · rw [List.mem_singleton.1 hx]; exact hy⟩
      · go_wp2_with fail
        refine (off1_c (hA.sep1 (A := cloP bE e0) (by with_reducible repeat (first | exact Sel.here | apply Sel.there))) he0 (hm'.out _ (List.getElem_mem hi)) hy).mono ?_
        rintro e w2 ⟨rfl, hT⟩
        have hB := hA.call1 (by with_reducible repeat (first | exact Sel.here | apply Sel.there)) hT
        clear hF hA hT
        have hA := hB
        clear hB
        (try simp only [setL, List.set_cons_zero, List.set_cons_succ, List.cons_append, List.nil_append] at hA); (have hF := hA.facts); (try simp only [facts_cons, facts_nil, facts_cells, facts_old, facts_fact, facts_obj, facts_map, facts_iter, facts_row, and_true, true_and] at hF)
        go_wp2_with fail
        refine bodyPost_ret (results_tmp rfl _ _ _) rfl ?_
        exact ⟨.inl ⟨i, rfl, hi, fun _ => hy, hno'.out⟩, (shut_H hA (by with_reducible repeat (first | exact Sel.here | apply Sel.there)) hcl hcap hcm hct).only2 (by with_reducible repeat (first | exact Sel.here | apply Sel.there)) (by with_reducible repeat (first | exact Sel.here | apply Sel.there))⟩
    · go_wp2_with fail
      go_ret
      exact ⟨.inr ⟨rfl, fun x hx => hno'.out x (by rw [List.take_of_length_le (by omega)]; exact hx)⟩, hA.only2 (by with_reducible repeat (first | exact Sel.here | apply Sel.there)) (by with_reducible repeat (first | exact Sel.here | apply Sel.there))⟩
def keepF (f : Ent → Bool) (l : List Ent) : List Ent := l.filter (fun x => !f x)
abbrev rowN (v : Value) (n : Nat) (lc : List Ent) : Part := .row 41 6 v n (flatE lc)
theorem keepF_snoc (f : Ent → Bool) (l : List Ent) (x : Ent) : keepF f (l ++ [x]) = keepF f l ++ (if f x then [] else [x]) := by
  unfold keepF
  rw [List.filter_append]
  cases h : f x <;> simp [h]
theorem flatE_take (l : List Ent) (k : Nat) : (flatE l).take (k * 6) = flatE (l.take k) := by
  induction l generalizing k with
  | nil => simp [flatE]
  | cons x l ih =>
    cases k with
    | zero => simp [flatE]
    | succ k =>
      have := ih k
      unfold flatE at *
      rw [List.take_succ_cons, List.flatMap_cons, List.flatMap_cons, ← this, List.take_append]
      have e : (Ent.cells x).length = 6 := rfl
      rw [List.take_of_length_le (by omega), e, show (k + 1) * 6 - 6 = k * 6 by omega]
structure Moved (f : Ent → Bool) (l lc : List Ent) (i j : Nat) : Prop where
  lt : i < j
  len : lc.length = l.length
  head : lc.take i = keepF f (l.take j)
  tail : lc.drop j = l.drop j
theorem Moved.at {f : Ent → Bool} {l lc : List Ent} {i j : Nat} (h : Moved f l lc i j) (hj : j < l.length) : lc[j]? = some l[j] := by
  have := congrArg (fun m => m[0]?) h.tail
  simp only [List.getElem?_drop, Nat.add_zero] at this
  rw [this, List.getElem?_eq_getElem hj]
theorem Moved.tail1 {f : Ent → Bool} {l lc : List Ent} {i j : Nat} (h : Moved f l lc i j) : lc.drop (j + 1) = l.drop (j + 1) := by
  have := congrArg (fun m => m.drop 1) h.tail
  simpa [List.drop_drop, Nat.add_comm] using this
theorem Moved.gone {f : Ent → Bool} {l lc : List Ent} {i j : Nat} (h : Moved f l lc i j) (hj : j < l.length) (hf : f l[j] = true) : Moved f l lc i (j + 1) :=
  ⟨by have := h.lt; omega, h.len, by rw [h.head, List.take_succ_eq_append_getElem hj, keepF_snoc, hf]; exact (List.append_nil _).symm, h.tail1⟩
theorem Moved.kept {f : Ent → Bool} {l lc : List Ent} {i j : Nat} (h : Moved f l lc i j) (hj : j < l.length) (hf : f l[j] = false) : Moved f l (lc.set i l[j]) (i + 1) (j + 1) := by
  have hlt := h.lt
  have hil : i < lc.length := by rw [h.len]; omega
  refine ⟨by omega, by rw [List.length_set, h.len], ?_, ?_⟩
  · rw [List.take_succ_eq_append_getElem hj, List.take_succ_eq_append_getElem (by rw [List.length_set]; exact hil), List.take_set_of_le (Nat.le_refl _), h.head, keepF_snoc, hf, List.getElem_set_self]
    rfl
  · rw [List.drop_set_of_lt (by omega), h.tail1]
theorem Moved.first {f : Ent → Bool} {l : List Ent} {i : Nat} (hi : i < l.length) (hf : f l[i] = true) (hn : ∀ x ∈ l.take i, f x = false) : Moved f l l i (i + 1) := by
  refine ⟨by omega, rfl, ?_, rfl⟩
  rw [List.take_succ_eq_append_getElem hi, keepF_snoc, hf]
  unfold keepF
  rw [List.filter_eq_self.2 (fun x hx => by rw [hn x hx]; rfl)]
  exact (List.append_nil _).symm

def DelFRel (w : World) (v : Value) (l : List Ent) (E : Part) (f : Ent → Bool) (k : Nat) (u5 u6 : Value) (wr : World) : Prop :=
  ∃ (i j : Nat) (lc : List Ent), u5 = .int .i64 i ∧ u6 = .int .i64 j ∧ j + k = l.length ∧ Moved f l lc i j ∧ At [rowH v l, E] w [rowN v l.length lc, E] wr
def DelFPost (w : World) (v : Value) (l : List Ent) (E : Part) (f : Ent → Bool) (e : Ending) (w' : World) : Prop :=
  ∃ v', e = .returned v' ∧ At [rowH v l, E] w [rowH v' (keepF f l), E] w'
set_option maxRecDepth 100000 in
set_option maxHeartbeats 1000000 in
theorem delf_any {w : World} {v : Value} {l : List Ent} {bE : Nat} {e0 : Ent} (h : Sep [rowH v l, cloP bE e0] w) (he0 : e0.path.size ≤ 1000) (hm : ∀ x ∈ l, x.path.size ≤ 1000) (hmax : l.length ≤ 1000000) :
    Calls Tryz.prog 34 #[v, .func (.func 35) #[] #[.pointer (some ⟨bE, 0, none⟩)]] w (DelFPost w v l (cloP bE e0) (offF e0)) := by
  have hA := At.start h
  have hF := hA.facts
  clear h
  have hm' := Lib.hid hm
  clear hm
  go_enter Tryz.func34, Tryz.ntmps34
  go_wp2_with fail
  refine (idxf_any hA.sep he0 hm'.out hmax).mono ?_
  rintro e w2 ⟨hr, hT⟩
  have hB := hA.call2 (by with_reducible repeat (first | exact Sel.here | apply Sel.there)) (by with_reducible repeat (first | exact Sel.here | apply Sel.there)) hT
  clear hF hA hT
  have hA := hB
  clear hB
  (try simp only [setL, List.set_cons_zero, List.set_cons_succ, List.cons_append, List.nil_append] at hA); (have hF := hA.facts); (try simp only [facts_cons, facts_nil, facts_cells, facts_old, facts_fact, facts_obj, facts_map, facts_iter, facts_row, and_true, true_and] at hF)
  rcases hr with ⟨i0, rfl, hi0, hf0, hno⟩ | ⟨rfl, hno⟩
  · obtain ⟨ax, cap, rfl, hax, hcap, _⟩ := hA.row_form (v := v) (xs := flatE l) (by with_reducible repeat (first | exact Sel.here | apply Sel.there))
    have hM0 := Lib.hid (Moved.first hi0 (hf0 hi0) hno)
    clear hf0 hno
    have hne : ((i0 : Int) == -1) = false := by simp
    go_wp2_with fail
    try go_frame
    go_loopg [5, 6] (l.length - (i0 + 1)) (DelFRel w (.slice ax l.length cap) l (cloP bE e0) (offF e0))
    case atStart => exact ⟨i0, i0 + 1, l, rfl, by simp, by omega, hM0.out, hA.only2 (by with_reducible repeat (first | exact Sel.here | apply Sel.there)) (by with_reducible repeat (first | exact Sel.here | apply Sel.there))⟩
    case round =>
      obtain ⟨i, j, lc, rfl, rfl, hjk, hMv, hB⟩ := hrel
      have hMv' := Lib.hid hMv
      have hij := hMv.lt
      have hlen := hMv.len
      clear hF hA hMv
      have hA := hB
      clear hB
      obtain ⟨g, c, rfl, _, hcm, hcl, hct, hB⟩ := hA.row_open (ax := ax) (cap := cap) (n := l.length) (xs := flatE lc) (by with_reducible repeat (first | exact Sel.here | apply Sel.there)) (by omega)
      have hct' : c.take (lc.length * 6) = lc.flatMap Ent.cells := by rw [hlen]; exact hct
      clear hA
      have hA := hB
      clear hB
      by_cases hj : j < l.length
      · have hx : lc[j]? = some l[j] := hMv'.out.at hj
        (have c0 : c[j * 6]? = some (.string l[j].path) := cells_at Ent.cells_len hct' hx 0 (by omega)); (have c1 : c[j * 6 + 1]? = some (.int .u64 l[j].num) := cells_at Ent.cells_len hct' hx 1 (by omega)); (have c2 : c[j * 6 + 2]? = some (.string l[j].foot) := cells_at Ent.cells_len hct' hx 2 (by omega)); (have c3 : c[j * 6 + 3]? = some (.int .i64 l[j].mode) := cells_at Ent.cells_len hct' hx 3 (by omega)); (have c4 : c[j * 6 + 4]? = some (.int .u64 l[j].n) := cells_at Ent.cells_len hct' hx 4 (by omega)); (have c5 : c[j * 6 + 5]? = some (.int .i64 l[j].stamp) := cells_at Ent.cells_len hct' hx 5 (by omega))
        (try simp only [setL, List.set_cons_zero, List.set_cons_succ, List.cons_append, List.nil_append] at hA); (have hF := hA.facts); (try simp only [facts_cons, facts_nil, facts_cells, facts_old, facts_fact, facts_obj, facts_map, facts_iter, facts_row, and_true, true_and] at hF)
        cases hy : offF e0 l[j]
        · have hMn := Lib.hid (hMv'.out.kept hj hy)
          have hwr := Lib.hid (write_row Ent.cells_len hct' (i := i) (by omega) l[j])
          go_wp2_with (first | ((with_reducible show wpList _ _ _ ({ dst := _, op := Op.store _ _ _, type := _, pos := _, after := _, guard := _ } :: _) _ _); refine wpList_store_at rfl rfl rfl (by (try simp only [Act.eval, Array.getD_eq_getD_getElem?, List.getElem?_toArray, List.getElem?_cons_succ, List.getElem?_cons_zero, Option.getD_some]) <;> exact rfl) (by exact rfl) hA (by with_reducible repeat (first | exact Sel.here | apply Sel.there)) (by kernel_rfl) rfl (by first | decide | (simp; done) | omega) ?_; intro w1 hB; clear hF hA; have hA := hB; clear hB; (try simp only [setL, List.set_cons_zero, List.set_cons_succ, List.cons_append, List.nil_append] at hA); (have hF := hA.facts); (try simp only [facts_cons, facts_nil, facts_cells, facts_old, facts_fact, facts_obj, facts_map, facts_iter, facts_row, and_true, true_and] at hF)) | ((with_reducible show wpList _ _ _ ({ dst := _, op := Op.box _ _, type := _, pos := _, after := _, guard := _ } :: _) _ _); refine wpList_box_at rfl rfl (by (try simp only [Act.eval, Array.getD_eq_getD_getElem?, List.getElem?_toArray, List.getElem?_cons_succ, List.getElem?_cons_zero, Option.getD_some]) <;> exact rfl) (by exact rfl) hA ?_; intro b1 w1 hB hb1; clear hF hA; have hA := hB; clear hB; (try simp only [setL, List.set_cons_zero, List.set_cons_succ, List.cons_append, List.nil_append] at hA); (have hF := hA.facts); (try simp only [facts_cons, facts_nil, facts_cells, facts_old, facts_fact, facts_obj, facts_map, facts_iter, facts_row, and_true, true_and] at hF)) | ((with_reducible show wpList _ _ _ ({ dst := _, op := Op.alloc _, type := _, pos := _, after := _, guard := _ } :: _) _ _); refine wpList_alloc_at (E := 41) (z := .agg #[.string .empty, .int .u64 0, .string .empty, .int .i64 0, .int .u64 0, .int .i64 0]) (vs := [.string .empty, .int .u64 0, .string .empty, .int .i64 0, .int .u64 0, .int .i64 0]) rfl rfl (by kernel_rfl) rfl hA ?_; intro b1 w1 hB hb1; clear hF hA; have hA := hB; clear hB; (try simp only [setL, List.set_cons_zero, List.set_cons_succ, List.cons_append, List.nil_append] at hA); (have hF := hA.facts); (try simp only [facts_cons, facts_nil, facts_cells, facts_old, facts_fact, facts_obj, facts_map, facts_iter, facts_row, and_true, true_and] at hF)))
          refine (off1_c (hA.sep1 (A := cloP bE e0) (by with_reducible repeat (first | exact Sel.here | apply Sel.there))) he0 (hm'.out _ (List.getElem_mem hj)) hy).mono ?_
          rintro e w2 ⟨rfl, hT⟩
          have hB := hA.call1 (by with_reducible repeat (first | exact Sel.here | apply Sel.there)) hT
          clear hF hA hT
          have hA := hB
          clear hB
          (try simp only [setL, List.set_cons_zero, List.set_cons_succ, List.cons_append, List.nil_append] at hA); (have hF := hA.facts); (try simp only [facts_cons, facts_nil, facts_cells, facts_old, facts_fact, facts_obj, facts_map, facts_iter, facts_row, and_true, true_and] at hF)
          go_wp2_with (first | (refine wpList_store_at (b := g) (j := i * 6) (c := c) (vs := Ent.cells l[j]) rfl rfl rfl (by (try simp only [Act.eval, Array.getD_eq_getD_getElem?, List.getElem?_toArray, List.getElem?_cons_succ, List.getElem?_cons_zero, Option.getD_some]) <;> exact rfl) (by exact rfl) hA (by with_reducible repeat (first | exact Sel.here | apply Sel.there)) (by kernel_rfl) rfl (by show i * 6 + 6 ≤ c.length; omega) ?_; intro w1 hB; clear hF hA; have hA := hB; clear hB))
          go_roundg (gk - 1)
          case measure => omega
          case rel =>
            have hS := hA.row_shut (n := l.length) (cap := cap) (xs := flatE (lc.set i l[j])) (by with_reducible repeat (first | exact Sel.here | apply Sel.there)) (by rw [setL_length]; exact hcl) (by omega) hcm (by have := hwr.out; rw [List.length_set, hlen] at this; exact this)
            exact ⟨i + 1, j + 1, _, by simp, by simp, by omega, hMn.out, hS.only2 (by with_reducible repeat (first | exact Sel.here | apply Sel.there)) (by with_reducible repeat (first | exact Sel.here | apply Sel.there))⟩
        · have hMn := Lib.hid (hMv'.out.gone hj hy)
          go_wp2_with (first | ((with_reducible show wpList _ _ _ ({ dst := _, op := Op.store _ _ _, type := _, pos := _, after := _, guard := _ } :: _) _ _); refine wpList_store_at rfl rfl rfl (by (try simp only [Act.eval, Array.getD_eq_getD_getElem?, List.getElem?_toArray, List.getElem?_cons_succ, List.getElem?_cons_zero, Option.getD_some]) <;> exact rfl) (by exact rfl) hA (by with_reducible repeat (first | exact Sel.here | apply Sel.there)) (by kernel_rfl) rfl (by first | decide | (simp; done) | omega) ?_; intro w1 hB; clear hF hA; have hA := hB; clear hB; (try simp only [setL, List.set_cons_zero, List.set_cons_succ, List.cons_append, List.nil_append] at hA); (have hF := hA.facts); (try simp only [facts_cons, facts_nil, facts_cells, facts_old, facts_fact, facts_obj, facts_map, facts_iter, facts_row, and_true, true_and] at hF)) | ((with_reducible show wpList _ _ _ ({ dst := _, op := Op.box _ _, type := _, pos := _, after := _, guard := _ } :: _) _ _); refine wpList_box_at rfl rfl (by (try simp only [Act.eval, Array.getD_eq_getD_getElem?, List.getElem?_toArray, List.getElem?_cons_succ, List.getElem?_cons_zero, Option.getD_some]) <;> exact rfl) (by exact rfl) hA ?_; intro b1 w1 hB hb1; clear hF hA; have hA := hB; clear hB; (try simp only [setL, List.set_cons_zero, List.set_cons_succ, List.cons_append, List.nil_append] at hA); (have hF := hA.facts); (try simp only [facts_cons, facts_nil, facts_cells, facts_old, facts_fact, facts_obj, facts_map, facts_iter, facts_row, and_true, true_and] at hF)) | ((with_reducible show wpList _ _ _ ({ dst := _, op := Op.alloc _, type := _, pos := _, after := _, guard := _ } :: _) _ _); refine wpList_alloc_at (E := 41) (z := .agg #[.string .empty, .int .u64 0, .string .empty, .int .i64 0, .int .u64 0, .int .i64 0]) (vs := [.string .empty, .int .u64 0, .string .empty, .int .i64 0, .int .u64 0, .int .i64 0]) rfl rfl (by kernel_rfl) rfl hA ?_; intro b1 w1 hB hb1; clear hF hA; have hA := hB; clear hB; (try simp only [setL, List.set_cons_zero, List.set_cons_succ, List.cons_append, List.nil_append] at hA); (have hF := hA.facts); (try simp only [facts_cons, facts_nil, facts_cells, facts_old, facts_fact, facts_obj, facts_map, facts_iter, facts_row, and_true, true_and] at hF)))
          refine (off1_c (hA.sep1 (A := cloP bE e0) (by with_reducible repeat (first | exact Sel.here | apply Sel.there))) he0 (hm'.out _ (List.getElem_mem hj)) hy).mono ?_
          rintro e w2 ⟨rfl, hT⟩
          have hB := hA.call1 (by with_reducible repeat (first | exact Sel.here | apply Sel.there)) hT
          clear hF hA hT
          have hA := hB
          clear hB
          (try simp only [setL, List.set_cons_zero, List.set_cons_succ, List.cons_append, List.nil_append] at hA); (have hF := hA.facts); (try simp only [facts_cons, facts_nil, facts_cells, facts_old, facts_fact, facts_obj, facts_map, facts_iter, facts_row, and_true, true_and] at hF)
          go_wp2_with fail
          go_roundg (gk - 1)
          case measure => omega
          case rel =>
            have hS := hA.row_shut (n := l.length) (cap := cap) (xs := flatE lc) (by with_reducible repeat (first | exact Sel.here | apply Sel.there)) hcl (by omega) hcm hct
            exact ⟨i, j + 1, lc, rfl, by simp, by omega, hMn.out, hS.only2 (by with_reducible repeat (first | exact Sel.here | apply Sel.there)) (by with_reducible repeat (first | exact Sel.here | apply Sel.there))⟩
      · have hci : ¬ cap = i := by omega
        have hil : i ≤ l.length := by omega
        have hkl : (keepF (offF e0) l).length = i := by
          have := congrArg List.length hMv'.out.head
          rw [List.take_of_length_le (l := l) (by omega), List.length_take] at this
          omega
        have hfl : flatE (keepF (offF e0) l) = (flatE lc).take (i * 6) := by
          have := hMv'.out.head
          rw [List.take_of_length_le (l := l) (by omega)] at this
          rw [flatE_take, this]
        have hkl' := Lib.hid hkl
        have hfl' := Lib.hid hfl
        clear hkl hfl
        (try simp only [setL, List.set_cons_zero, List.set_cons_succ, List.cons_append, List.nil_append] at hA); (have hF := hA.facts); (try simp only [facts_cons, facts_nil, facts_cells, facts_old, facts_fact, facts_obj, facts_map, facts_iter, facts_row, and_true, true_and] at hF)
        go_wp2_with (first | (refine wpList_clear_at (e := 41) (z := nullE.val) (b := g) (off := i * 6) (m := l.length - i) (cp := cap - i) (c := c) (T := 41) rfl rfl Tryz.underlying38 (fun _ => by kernel_rfl) (nullE.one) (by decide) (by (try simp only [Act.eval, Array.getD_eq_getD_getElem?, List.getElem?_toArray, List.getElem?_cons_succ, List.getElem?_cons_zero, Option.getD_some]) <;> exact rfl) (by omega) hA (by with_reducible repeat (first | exact Sel.here | apply Sel.there)) (by show i * 6 + (l.length - i) * 6 ≤ c.length; omega) ?_; intro c' w1 hcl' hct2 hB; clear hF hA; have hA := hB; clear hB; (try simp only [setL, List.set_cons_zero, List.set_cons_succ, List.cons_append, List.nil_append] at hA); (have hF := hA.facts); (try simp only [facts_cons, facts_nil, facts_cells, facts_old, facts_fact, facts_obj, facts_map, facts_iter, facts_row, and_true, true_and] at hF)))
        go_ret
        have hS := hA.row_shut (n := i) (cap := cap) (xs := flatE (keepF (offF e0) l)) (by with_reducible repeat (first | exact Sel.here | apply Sel.there)) (hcl'.trans hcl) (by omega) hcm (by
          rw [hfl'.out, hct2, ← hct, List.take_take, Nat.min_eq_left (by omega)])
        refine ⟨.slice (some ⟨g, 0, none⟩) i cap, rfl, ?_⟩
        show At _ _ [Part.row 41 6 (.slice (some ⟨g, 0, none⟩) i cap) (keepF (offF e0) l).length (flatE (keepF (offF e0) l)), cloP bE e0] _
        rw [hkl'.out]
        exact hS.only2 (by with_reducible repeat (first | exact Sel.here | apply Sel.there)) (by with_reducible repeat (first | exact Sel.here | apply Sel.there))
  · have hk : keepF (offF e0) l = l := List.filter_eq_self.2 (fun x hx => by rw [hno x hx]; rfl)
    clear hno
    go_wp2_with fail
    refine bodyPost_ret (results_tmp rfl _ _ _) rfl ?_
    exact ⟨v, rfl, by rw [hk]; exact hA.only2 (by with_reducible repeat (first | exact Sel.here | apply Sel.there)) (by with_reducible repeat (first | exact Sel.here | apply Sel.there))⟩

end Go.Proofs.YtnkddjomanaadaaGreatDoor.Lock
end

section
namespace Go.Proofs.YtnkddjomanaadaaGreatDoor.Lock
open Go.RowKit
open Path (bl rightB overB)
set_option linter.unusedSimpArgs false
set_option linter.unusedVariables false

def AheadPost (w : World) (a : Pl) (s : S3) (e : Ent) (o : Ending) (w' : World) : Prop := ∃ (v : Value) (l : List Ent), o = .returned v ∧ l.Perm s.es ∧ l.Pairwise ltE ∧ At [bookS a s] w [rowH v (keepF (offF e) l), bookS a s] w'
set_option maxRecDepth 100000 in
set_option maxHeartbeats 1000000 in
theorem ahead_at {a : Pl} {s : S3} {k : Nat} {w : World} (h : Sep [bookS a s] w) (hI : Inv s k) (hk : k ≤ 1000) {x : Ent} (hx : x.path.size ≤ 1000) :
    Calls Tryz.prog 12 #[.pointer (some ⟨a.p, 0, none⟩), x.val] w (AheadPost w a s x) := by
  have hA := At.start h
  have hF := hA.facts
  clear h
  have hlen := hI.len
  have hsz := Lib.hid (fun e he => (hI.ok' hk e he).1)
  have hI' := Lib.hid hI
  clear hI
  simp only [Ent.val]
  (try simp only [setL, List.set_cons_zero, List.set_cons_succ, List.cons_append, List.nil_append] at hA); (have hF := hA.facts); (try simp only [facts_cons, facts_nil, facts_cells, facts_old, facts_fact, facts_obj, facts_map, facts_iter, facts_row, and_true, true_and] at hF)
  go_enter Tryz.func12, Tryz.ntmps12
  go_wp2_with (first | ((with_reducible show wpList _ _ _ ({ dst := _, op := Op.box _ _, type := _, pos := _, after := _, guard := _ } :: _) _ _); refine wpList_box_at (E := 41) rfl rfl (by (try simp only [Act.eval, Array.getD_eq_getD_getElem?, List.getElem?_toArray, List.getElem?_cons_succ, List.getElem?_cons_zero, Option.getD_some]) <;> exact rfl) (by exact rfl) hA ?_; intro bE w1 hB hbE; clear hF hA; have hA := hB; clear hB; (try simp only [setL, List.set_cons_zero, List.set_cons_succ, List.cons_append, List.nil_append] at hA); (have hF := hA.facts); (try simp only [facts_cons, facts_nil, facts_cells, facts_old, facts_fact, facts_obj, facts_map, facts_iter, facts_row, and_true, true_and] at hF)) | ((with_reducible show wpList _ _ _ ({ dst := _, op := Op.store _ _ _, type := _, pos := _, after := _, guard := _ } :: _) _ _); refine wpList_store_at rfl rfl rfl (by (try simp only [Act.eval, Array.getD_eq_getD_getElem?, List.getElem?_toArray, List.getElem?_cons_succ, List.getElem?_cons_zero, Option.getD_some]) <;> exact rfl) (by exact rfl) hA (by with_reducible repeat (first | exact Sel.here | apply Sel.there)) (by kernel_rfl) rfl (by first | decide | (simp; done) | omega) ?_; intro w1 hB; clear hF hA; have hA := hB; clear hB; (try simp only [setL, List.set_cons_zero, List.set_cons_succ, List.cons_append, List.nil_append] at hA); (have hF := hA.facts); (try simp only [facts_cons, facts_nil, facts_cells, facts_old, facts_fact, facts_obj, facts_map, facts_iter, facts_row, and_true, true_and] at hF)) | ((with_reducible show wpList _ _ _ ({ dst := _, op := Op.box _ _, type := _, pos := _, after := _, guard := _ } :: _) _ _); refine wpList_box_at rfl rfl (by (try simp only [Act.eval, Array.getD_eq_getD_getElem?, List.getElem?_toArray, List.getElem?_cons_succ, List.getElem?_cons_zero, Option.getD_some]) <;> exact rfl) (by exact rfl) hA ?_; intro b1 w1 hB hb1; clear hF hA; have hA := hB; clear hB; (try simp only [setL, List.set_cons_zero, List.set_cons_succ, List.cons_append, List.nil_append] at hA); (have hF := hA.facts); (try simp only [facts_cons, facts_nil, facts_cells, facts_old, facts_fact, facts_obj, facts_map, facts_iter, facts_row, and_true, true_and] at hF)))
  refine (list_at (hA.sep1 (A := bookS a s) (by with_reducible repeat (first | exact Sel.here | apply Sel.there))) hI'.out hk).mono ?_
  rintro e w3 ⟨vl, l, rfl, hperm, hpw, hT⟩
  have hB := hA.call1 (A := bookS a s) (by with_reducible repeat (first | exact Sel.here | apply Sel.there)) hT
  have hll := Lib.hid hperm.length_eq
  have hpe := Lib.hid hperm
  have hpw' := Lib.hid hpw
  clear hF hA hT hperm hpw
  have hA := hB
  clear hB
  simp only [List.cons_append, List.nil_append] at hA
  have hF := hA.facts
  (try simp only [setL, List.set_cons_zero, List.set_cons_succ, List.cons_append, List.nil_append] at hA); (have hF := hA.facts); (try simp only [facts_cons, facts_nil, facts_cells, facts_old, facts_fact, facts_obj, facts_map, facts_iter, facts_row, and_true, true_and] at hF)
  go_wp2_with (first | ((with_reducible show wpList _ _ _ ({ dst := _, op := Op.store _ _ _, type := _, pos := _, after := _, guard := _ } :: _) _ _); refine wpList_store_at rfl rfl rfl (by (try simp only [Act.eval, Array.getD_eq_getD_getElem?, List.getElem?_toArray, List.getElem?_cons_succ, List.getElem?_cons_zero, Option.getD_some]) <;> exact rfl) (by exact rfl) hA (by with_reducible repeat (first | exact Sel.here | apply Sel.there)) (by kernel_rfl) rfl (by first | decide | (simp; done) | omega) ?_; intro w1 hB; clear hF hA; have hA := hB; clear hB; (try simp only [setL, List.set_cons_zero, List.set_cons_succ, List.cons_append, List.nil_append] at hA); (have hF := hA.facts); (try simp only [facts_cons, facts_nil, facts_cells, facts_old, facts_fact, facts_obj, facts_map, facts_iter, facts_row, and_true, true_and] at hF)) | ((with_reducible show wpList _ _ _ ({ dst := _, op := Op.box _ _, type := _, pos := _, after := _, guard := _ } :: _) _ _); refine wpList_box_at rfl rfl (by (try simp only [Act.eval, Array.getD_eq_getD_getElem?, List.getElem?_toArray, List.getElem?_cons_succ, List.getElem?_cons_zero, Option.getD_some]) <;> exact rfl) (by exact rfl) hA ?_; intro b1 w1 hB hb1; clear hF hA; have hA := hB; clear hB; (try simp only [setL, List.set_cons_zero, List.set_cons_succ, List.cons_append, List.nil_append] at hA); (have hF := hA.facts); (try simp only [facts_cons, facts_nil, facts_cells, facts_old, facts_fact, facts_obj, facts_map, facts_iter, facts_row, and_true, true_and] at hF)))
  refine (delf_any (l := l) (bE := bE) (e0 := x) (hA.sep2 (A := rowH vl l) (B := cloP bE x) (by repeat (first | exact Sel.here | apply Sel.there)) (by repeat (first | exact Sel.here | apply Sel.there))) hx (fun y hy => hsz.out y (hpe.out.mem_iff.1 hy)) (by have := hll.out; omega)).mono ?_
  rintro e w4 ⟨v', rfl, hT⟩
  have hB := hA.call2 (A := rowH vl l) (B := cloP bE x) (by repeat (first | exact Sel.here | apply Sel.there)) (by repeat (first | exact Sel.here | apply Sel.there)) hT
  go_wp2_with fail
  refine bodyPost_ret (results_tmp rfl _ _ _) rfl ?_
  exact ⟨v', l, rfl, hpe.out, hpw'.out, hB.only2 (A := rowH v' (keepF (offF x) l)) (B := bookS a s) (by repeat (first | exact Sel.here | apply Sel.there)) (by repeat (first | exact Sel.here | apply Sel.there))⟩
end Go.Proofs.YtnkddjomanaadaaGreatDoor.Lock
end
