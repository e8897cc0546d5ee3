/- LockU, joined. -/
import Derived.Test.YtnkddjomanaadaaGreatDoorJ14
import Derived.Test.YtnkddjomanaadaaGreatDoorJ16
import Derived.Test.YtnkddjomanaadaaGreatDoorJ2
import Derived.Deep.Cut
section
namespace Go.Proofs.YtnkddjomanaadaaGreatDoor.Lock
open Go.RowKit
open Go.Maps (Keyed)
open Path (bl rightB overB)
set_option linter.unusedSimpArgs false
set_option linter.unusedVariables false

theorem Ent.cells_len (e : Ent) : e.cells.length = 6 := rfl
theorem Ent.ones (e : Ent) : e.cells.all (·.oneCell') = true := rfl
theorem Ent.one (e : Ent) : ∀ u ∈ e.cells, u.oneCell' = true := List.all_eq_true.1 e.ones
def ctrL (c : ByteArray × Int) : List Value := [.string c.1, .int .u64 c.2]
theorem ctrL_len (c : ByteArray × Int) : (ctrL c).length = 2 := rfl
theorem ctrL_one (c : ByteArray × Int) : ∀ u ∈ ctrL c, u.oneCell' = true := List.all_eq_true.1 (show (ctrL c).all (·.oneCell') = true from rfl)
def flatE (L : List Ent) : List Value := L.flatMap Ent.cells
def flatC (L : List (ByteArray × Int)) : List Value := L.flatMap ctrL
abbrev rowE (v : Value) (L : List Ent) : Part := .row 45 6 v L.length (flatE L)
abbrev rowC (v : Value) (L : List (ByteArray × Int)) : Part := .row 58 2 v L.length (flatC L)
theorem shut_E {L0 K F : List Part} {w0 w : World} {g cap : Nat} {c : List Value} {L : List Ent} (hA : At L0 w0 K w) (s : Sel (Part.cells g c 45) K F) (hcl : c.length = cap * 6) (hcap : L.length ≤ cap) (hcm : cap ≤ maxLen) (hct : c.take (L.length * 6) = flatE L) :
    At L0 w0 (rowE (.slice (some ⟨g, 0, none⟩) L.length cap) L :: F) w := hA.row_shut s hcl hcap hcm hct
theorem shut_C {L0 K F : List Part} {w0 w : World} {g cap : Nat} {c : List Value} {L : List (ByteArray × Int)} (hA : At L0 w0 K w) (s : Sel (Part.cells g c 58) K F) (hcl : c.length = cap * 2) (hcap : L.length ≤ cap) (hcm : cap ≤ maxLen) (hct : c.take (L.length * 2) = flatC L) :
    At L0 w0 (rowC (.slice (some ⟨g, 0, none⟩) L.length cap) L :: F) w := hA.row_shut s hcl hcap hcm hct
theorem row_cells {α : Type} {enc : α → List Value} {size : Nat} (hs : ∀ x, (enc x).length = size) {c : List Value} {l : List α} (ht : c.take (l.length * size) = l.flatMap enc) {k : Nat} {x : α} (hx : l[k]? = some x) : (c.drop (k * size)).take size = enc x := by
  apply List.ext_getElem?
  intro j
  by_cases hj : j < size
  · rw [List.getElem?_take_of_lt hj, List.getElem?_drop]
    exact cells_at hs ht hx j hj
  · rw [List.getElem?_eq_none (by rw [List.length_take]; omega), List.getElem?_eq_none (by rw [hs]; omega)]
theorem infoE : (Tryz.prog.info? 45).map (fun i => (i.zero, i.size, i.bytes)) = some (some (.agg #[.string .empty, .int .u64 0, .string .empty, .int .i64 0, .int .u64 0, .int .i64 0]), 6, 64) := by kernel_rfl
theorem infoC : (Tryz.prog.info? 58).map (fun i => (i.zero, i.size, i.bytes)) = some (some (.agg #[.string .empty, .int .u64 0]), 2, 24) := by kernel_rfl
theorem row_nilE {L0 L : List Part} {w0 w : World} (h : At L0 w0 L w) : At L0 w0 (rowE (.slice none 0 0) [] :: L) w := h.row_nil 45 6
theorem row_nilC {L0 L : List Part} {w0 w : World} (h : At L0 w0 L w) : At L0 w0 (rowC (.slice none 0 0) [] :: L) w := h.row_nil 58 2
theorem rowE_snoc (v : Value) (l : List Ent) (x : Ent) : Part.row 45 6 v (l.length + 1) (flatE l ++ x.cells) = rowE v (l ++ [x]) := rows_snoc (enc := Ent.cells) _ v l x
theorem rowC_snoc (v : Value) (l : List (ByteArray × Int)) (x : ByteArray × Int) : Part.row 58 2 v (l.length + 1) (flatC l ++ ctrL x) = rowC v (l ++ [x]) := rows_snoc (enc := ctrL) _ v l x
theorem rowE_app0 (v : Value) (l : List Ent) : Part.row 45 6 v (([] : List Ent).length + l.length) (flatE [] ++ flatE l) = rowE v l := by simp [rowE, flatE]
theorem rowC_app0 (v : Value) (l : List (ByteArray × Int)) : Part.row 58 2 v (([] : List (ByteArray × Int)).length + l.length) (flatC [] ++ flatC l) = rowC v l := by simp [rowC, flatC]
theorem flatE_one (l : List Ent) : ∀ u ∈ flatE l, u.oneCell' = true := flat_one Ent.one l
theorem flatC_one (l : List (ByteArray × Int)) : ∀ u ∈ flatC l, u.oneCell' = true := flat_one ctrL_one l
theorem flatE_len (l : List Ent) : (flatE l).length = l.length * 6 := flat_len _ _ Ent.cells_len l
theorem flatC_len (l : List (ByteArray × Int)) : (flatC l).length = l.length * 2 := flat_len _ _ ctrL_len l

set_option maxRecDepth 100000 in
theorem wayR_any (x y : Ent) (w : World) (hx : x.path.size ≤ 1000) (hy : y.path.size ≤ 1000) : Calls Tryz.prog 37 #[x.val, y.val] w fun e w' => e = .returned (.bool (wayB x y)) ∧ Ext w w' := by
  have ho := fun w => Path.overlapR_any x.path y.path w (by omega) (by omega)
  unfold wayB
  generalize overB (bl x.path) (bl y.path) = ob at *
  have hA : At [] w [] w := At.start (L0 := []) trivial
  have hF := hA.facts
  obtain ⟨p1, n1, f1, m1, k1, s1⟩ := x
  obtain ⟨p2, n2, f2, m2, k2, s2⟩ := y
  simp only [Ent.val] at *
  by_cases h1 : m1 = 2
  · subst h1
    go_enter Tryz.func37, Tryz.ntmps37
    go_wp2_with (first | ((with_reducible show wpList _ _ _ ({ dst := _, op := Op.store _ _ _, type := _, pos := _, after := _, guard := _ } :: _) _ _); refine wpList_store_at rfl rfl rfl (by (try simp only [Act.eval, Array.getD_eq_getD_getElem?, List.getElem?_toArray, List.getElem?_cons_succ, List.getElem?_cons_zero, Option.getD_some]) <;> exact rfl) (by exact rfl) hA (by with_reducible repeat (first | exact Sel.here | apply Sel.there)) (by kernel_rfl) rfl (by first | decide | (simp; done) | omega) ?_; intro w1 hB; clear hF hA; have hA := hB; clear hB; (try simp only [setL, List.set_cons_zero, List.set_cons_succ, List.cons_append, List.nil_append] at hA); (have hF := hA.facts); (try simp only [facts_cons, facts_nil, facts_cells, facts_old, facts_fact, facts_obj, facts_map, facts_iter, facts_row, and_true, true_and] at hF)) | ((with_reducible show wpList _ _ _ ({ dst := _, op := Op.box _ _, type := _, pos := _, after := _, guard := _ } :: _) _ _); refine wpList_box_at rfl rfl (by (try simp only [Act.eval, Array.getD_eq_getD_getElem?, List.getElem?_toArray, List.getElem?_cons_succ, List.getElem?_cons_zero, Option.getD_some]) <;> exact rfl) (by exact rfl) hA ?_; intro b1 w1 hB hb1; clear hF hA; have hA := hB; clear hB; (try simp only [setL, List.set_cons_zero, List.set_cons_succ, List.cons_append, List.nil_append] at hA); (have hF := hA.facts); (try simp only [facts_cons, facts_nil, facts_cells, facts_old, facts_fact, facts_obj, facts_map, facts_iter, facts_row, and_true, true_and] at hF)))
    refine (ho _).mono ?_
    clear ho
    rintro e w2 ⟨rfl, hx2⟩
    cases ob
    all_goals
      go_wp2_with fail
      go_ret
      exact ⟨rfl, hA.toExt.trans hx2⟩
  · have e1 : (m1 == 2) = false := by simpa using h1
    have d1 := Lib.hid (decide_eq_false h1)
    clear h1
    by_cases h2 : m2 = 2
    · subst h2
      go_enter Tryz.func37, Tryz.ntmps37
      go_wp2_with (first | ((with_reducible show wpList _ _ _ ({ dst := _, op := Op.store _ _ _, type := _, pos := _, after := _, guard := _ } :: _) _ _); refine wpList_store_at rfl rfl rfl (by (try simp only [Act.eval, Array.getD_eq_getD_getElem?, List.getElem?_toArray, List.getElem?_cons_succ, List.getElem?_cons_zero, Option.getD_some]) <;> exact rfl) (by exact rfl) hA (by with_reducible repeat (first | exact Sel.here | apply Sel.there)) (by kernel_rfl) rfl (by first | decide | (simp; done) | omega) ?_; intro w1 hB; clear hF hA; have hA := hB; clear hB; (try simp only [setL, List.set_cons_zero, List.set_cons_succ, List.cons_append, List.nil_append] at hA); (have hF := hA.facts); (try simp only [facts_cons, facts_nil, facts_cells, facts_old, facts_fact, facts_obj, facts_map, facts_iter, facts_row, and_true, true_and] at hF)) | ((with_reducible show wpList _ _ _ ({ dst := _, op := Op.box _ _, type := _, pos := _, after := _, guard := _ } :: _) _ _); refine wpList_box_at rfl rfl (by (try simp only [Act.eval, Array.getD_eq_getD_getElem?, List.getElem?_toArray, List.getElem?_cons_succ, List.getElem?_cons_zero, Option.getD_some]) <;> exact rfl) (by exact rfl) hA ?_; intro b1 w1 hB hb1; clear hF hA; have hA := hB; clear hB; (try simp only [setL, List.set_cons_zero, List.set_cons_succ, List.cons_append, List.nil_append] at hA); (have hF := hA.facts); (try simp only [facts_cons, facts_nil, facts_cells, facts_old, facts_fact, facts_obj, facts_map, facts_iter, facts_row, and_true, true_and] at hF)))
      refine (ho _).mono ?_
      clear ho
      rintro e w2 ⟨rfl, hx2⟩
      cases ob
      all_goals
        go_wp2_with fail
        go_ret
        exact ⟨by rw [d1.out]; rfl, hA.toExt.trans hx2⟩
    · have e2 : (m2 == 2) = false := by simpa using h2
      have d2 := Lib.hid (decide_eq_false h2)
      clear h2 ho
      go_enter Tryz.func37, Tryz.ntmps37
      go_wp2_with (first | ((with_reducible show wpList _ _ _ ({ dst := _, op := Op.store _ _ _, type := _, pos := _, after := _, guard := _ } :: _) _ _); refine wpList_store_at rfl rfl rfl (by (try simp only [Act.eval, Array.getD_eq_getD_getElem?, List.getElem?_toArray, List.getElem?_cons_succ, List.getElem?_cons_zero, Option.getD_some]) <;> exact rfl) (by exact rfl) hA (by with_reducible repeat (first | exact Sel.here | apply Sel.there)) (by kernel_rfl) rfl (by first | decide | (simp; done) | omega) ?_; intro w1 hB; clear hF hA; have hA := hB; clear hB; (try simp only [setL, List.set_cons_zero, List.set_cons_succ, List.cons_append, List.nil_append] at hA); (have hF := hA.facts); (try simp only [facts_cons, facts_nil, facts_cells, facts_old, facts_fact, facts_obj, facts_map, facts_iter, facts_row, and_true, true_and] at hF)) | ((with_reducible show wpList _ _ _ ({ dst := _, op := Op.box _ _, type := _, pos := _, after := _, guard := _ } :: _) _ _); refine wpList_box_at rfl rfl (by (try simp only [Act.eval, Array.getD_eq_getD_getElem?, List.getElem?_toArray, List.getElem?_cons_succ, List.getElem?_cons_zero, Option.getD_some]) <;> exact rfl) (by exact rfl) hA ?_; intro b1 w1 hB hb1; clear hF hA; have hA := hB; clear hB; (try simp only [setL, List.set_cons_zero, List.set_cons_succ, List.cons_append, List.nil_append] at hA); (have hF := hA.facts); (try simp only [facts_cons, facts_nil, facts_cells, facts_old, facts_fact, facts_obj, facts_map, facts_iter, facts_row, and_true, true_and] at hF)))
      go_ret
      exact ⟨by rw [d1.out, d2.out]; rfl, hA.toExt⟩

/-! ### Find -/
/-- the place of an entry; -1: nowhere -/
def idxD (L : List Ent) (p : ByteArray) (n : Int) (f : ByteArray) : Int := match placeD L p n f with | some k => k | none => -1
theorem idx_at {L : List Ent} {p : ByteArray} {n : Int} {f : ByteArray} {i : Nat} (hi : i < L.length) (hn : ∀ x ∈ L.take i, x.is p n f = false) (hy : L[i].is p n f = true) : idxD L p n f = i := by
  unfold idxD placeD
  rw [List.findIdx?_eq_some_iff_getElem.2 ⟨hi, hy, fun j hj => by
    have := hn L[j] (List.mem_take_iff_getElem.2 ⟨j, by omega, rfl⟩)
    simp [this]⟩]
theorem idx_none {L : List Ent} {p : ByteArray} {n : Int} {f : ByteArray} (hn : ∀ x ∈ L, x.is p n f = false) : idxD L p n f = -1 := by
  unfold idxD placeD
  rw [List.findIdx?_eq_none_iff.2 hn]
abbrev boxB (b : Nat) (first : Int) (vL vC : Value) : Part := .cells b [.int .u64 first, vL, vC] 31
def docV (first : Int) (vL vC : Value) : Value := .agg #[.int .u64 first, vL, vC]
def FindRel (w : World) (first : Int) (v vC : Value) (L : List Ent) (p : ByteArray) (n : Int) (f : ByteArray) (b1 : Nat) (k : Nat) (u : Value) (wr : World) : Prop :=
  ∃ i : Nat, u = .int .i64 i ∧ i + k = L.length ∧ At [rowE v L] w [boxB b1 first v vC, rowE v L] wr ∧ ∀ x ∈ L.take i, x.is p n f = false
theorem take_more {L : List Ent} {P : Ent → Bool} {i : Nat} (hi : i < L.length) (h : ∀ x ∈ L.take i, P x = false) (h1 : P L[i] = false) : ∀ x ∈ L.take (i + 1), P x = false := fun x hx => by
  rw [List.take_succ_eq_append_getElem hi] at hx
  rcases List.mem_append.1 hx with hx | hx
  · exact h x hx
  · rw [List.mem_singleton.1 hx, h1]
set_option maxRecDepth 100000 in
set_option maxHeartbeats 2000000 in
theorem findR_any {w : World} {v : Value} {L : List Ent} (h : Sep [rowE v L] w) (first : Int) (vC : Value) (hvC : ∃ ax k cap, vC = .slice ax k cap) (p : ByteArray) (n : Int) (f : ByteArray) (hmax : L.length ≤ 1000000) :
    Calls Tryz.prog 11 #[.agg #[.int .u64 first, v, vC], .string p, .int .u64 n, .string f] w fun e w' => e = .returned (.int .i64 (idxD L p n f)) ∧ At [rowE v L] w [rowE v L] w' := by
  obtain ⟨cx, ck, cc, rfl⟩ := hvC
  have hA := At.start h
  have hF := hA.facts
  clear h
  obtain ⟨ax, cap, rfl, hax, hcap, _⟩ := hA.row_form (v := v) (xs := flatE L) (by with_reducible repeat (first | exact Sel.here | apply Sel.there))
  (try simp only [setL, List.set_cons_zero, List.set_cons_succ, List.cons_append, List.nil_append] at hA); (have hF := hA.facts); (try simp only [facts_cons, facts_nil, facts_cells, facts_old, facts_fact, facts_obj, facts_map, facts_iter, facts_row, and_true, true_and] at hF)
  go_enter Tryz.func11, Tryz.ntmps11
  go_wp2_with (first | ((with_reducible show wpList _ _ _ ({ dst := _, op := Op.box _ _, type := _, pos := _, after := _, guard := _ } :: _) _ _); refine wpList_box_at (E := 31) rfl rfl (by (try simp only [Act.eval, Array.getD_eq_getD_getElem?, List.getElem?_toArray, List.getElem?_cons_succ, List.getElem?_cons_zero, Option.getD_some]) <;> exact rfl) (by exact rfl) hA ?_; intro bB w1 hB hbB; clear hF hA; have hA := hB; clear hB; (try simp only [setL, List.set_cons_zero, List.set_cons_succ, List.cons_append, List.nil_append] at hA); (have hF := hA.facts); (try simp only [facts_cons, facts_nil, facts_cells, facts_old, facts_fact, facts_obj, facts_map, facts_iter, facts_row, and_true, true_and] at hF)) | ((with_reducible show wpList _ _ _ ({ dst := _, op := Op.store _ _ _, type := _, pos := _, after := _, guard := _ } :: _) _ _); refine wpList_store_at rfl rfl rfl (by (try simp only [Act.eval, Array.getD_eq_getD_getElem?, List.getElem?_toArray, List.getElem?_cons_succ, List.getElem?_cons_zero, Option.getD_some]) <;> exact rfl) (by exact rfl) hA (by with_reducible repeat (first | exact Sel.here | apply Sel.there)) (by kernel_rfl) rfl (by first | decide | (simp; done) | omega) ?_; intro w1 hB; clear hF hA; have hA := hB; clear hB; (try simp only [setL, List.set_cons_zero, List.set_cons_succ, List.cons_append, List.nil_append] at hA); (have hF := hA.facts); (try simp only [facts_cons, facts_nil, facts_cells, facts_old, facts_fact, facts_obj, facts_map, facts_iter, facts_row, and_true, true_and] at hF)) | ((with_reducible show wpList _ _ _ ({ dst := _, op := Op.box _ _, type := _, pos := _, after := _, guard := _ } :: _) _ _); refine wpList_box_at rfl rfl (by (try simp only [Act.eval, Array.getD_eq_getD_getElem?, List.getElem?_toArray, List.getElem?_cons_succ, List.getElem?_cons_zero, Option.getD_some]) <;> exact rfl) (by exact rfl) hA ?_; intro b1 w1 hB hb1; clear hF hA; have hA := hB; clear hB; (try simp only [setL, List.set_cons_zero, List.set_cons_succ, List.cons_append, List.nil_append] at hA); (have hF := hA.facts); (try simp only [facts_cons, facts_nil, facts_cells, facts_old, facts_fact, facts_obj, facts_map, facts_iter, facts_row, and_true, true_and] at hF)))
  try go_frame
  go_loopg [9] L.length (FindRel w first (.slice ax L.length cap) (.slice cx ck cc) L p n f bB)
  case atStart => exact ⟨0, rfl, by simp, hA, by simp⟩
  case round =>
    obtain ⟨i, rfl, hik, hB, hno⟩ := hrel
    have hno' := Lib.hid hno
    clear hF hA hno
    have hA := hB
    clear hB
    by_cases hi : i < L.length
    · obtain ⟨g, c, rfl, _, hcm, hcl, hct, hB⟩ := hA.row_open (ax := ax) (cap := cap) (n := L.length) (xs := flatE L) (by with_reducible repeat (first | exact Sel.here | apply Sel.there)) (by omega)
      have hx : L[i]? = some L[i] := List.getElem?_eq_getElem hi
      (have c0 : c[i * 6]? = some (.string L[i].path) := cells_at Ent.cells_len hct hx 0 (by omega)); (have c1 : c[i * 6 + 1]? = some (.int .u64 L[i].num) := cells_at Ent.cells_len hct hx 1 (by omega)); (have c2 : c[i * 6 + 2]? = some (.string L[i].foot) := cells_at Ent.cells_len hct hx 2 (by omega)); (have c3 : c[i * 6 + 3]? = some (.int .i64 L[i].mode) := cells_at Ent.cells_len hct hx 3 (by omega)); (have c4 : c[i * 6 + 4]? = some (.int .u64 L[i].n) := cells_at Ent.cells_len hct hx 4 (by omega)); (have c5 : c[i * 6 + 5]? = some (.int .i64 L[i].stamp) := cells_at Ent.cells_len hct hx 5 (by omega))
      clear hA
      have hA := hB
      clear hB
      (try simp only [setL, List.set_cons_zero, List.set_cons_succ, List.cons_append, List.nil_append] at hA); (have hF := hA.facts); (try simp only [facts_cons, facts_nil, facts_cells, facts_old, facts_fact, facts_obj, facts_map, facts_iter, facts_row, and_true, true_and] at hF)
      by_cases h1 : L[i].path = p
      · have e1 : (L[i].path.toList == p.toList) = true := by rw [same_ba]; exact decide_eq_true h1
        by_cases h2 : L[i].num = n
        · have e2 : (L[i].num == n) = true := by simpa using h2
          by_cases h3 : L[i].foot = f
          · have e3 : (L[i].foot.toList == f.toList) = true := by rw [same_ba]; exact decide_eq_true h3
            have hd := Lib.hid (idx_at hi hno'.out (by simp [Ent.is, h1, h2, h3]))
            clear h1 h2 h3 hx
            go_wp2_with fail
            go_ret
            exact ⟨by rw [hd.out]; rfl, (shut_E hA (by with_reducible repeat (first | exact Sel.here | apply Sel.there)) hcl hcap hcm hct).only1 (by with_reducible repeat (first | exact Sel.here | apply Sel.there))⟩
          · have e3 : (L[i].foot.toList == f.toList) = false := by rw [same_ba]; exact decide_eq_false h3
            have hm := Lib.hid (take_more hi hno'.out (P := fun x => x.is p n f) (by simp [Ent.is, h3]))
            clear h1 h2 h3 hx
            go_wp2_with fail
            go_roundg (gk - 1)
            case measure => omega
            case rel => exact ⟨i + 1, by simp, by omega, (shut_E hA (by with_reducible repeat (first | exact Sel.here | apply Sel.there)) hcl hcap hcm hct).pick (by with_reducible repeat (first | exact Picks.nil | refine Picks.cons (by with_reducible repeat (first | exact Sel.here | apply Sel.there)) ?_)), hm.out⟩
        · have e2 : (L[i].num == n) = false := by simpa using h2
          have hm := Lib.hid (take_more hi hno'.out (P := fun x => x.is p n f) (by simp [Ent.is, h2]))
          clear h1 h2 hx
          go_wp2_with fail
          go_roundg (gk - 1)
          case measure => omega
          case rel => exact ⟨i + 1, by simp, by omega, (shut_E hA (by with_reducible repeat (first | exact Sel.here | apply Sel.there)) hcl hcap hcm hct).pick (by with_reducible repeat (first | exact Picks.nil | refine Picks.cons (by with_reducible repeat (first | exact Sel.here | apply Sel.there)) ?_)), hm.out⟩
      · have e1 : (L[i].path.toList == p.toList) = false := by rw [same_ba]; exact decide_eq_false h1
        have hm := Lib.hid (take_more hi hno'.out (P := fun x => x.is p n f) (by simp [Ent.is, h1]))
        clear h1 hx
        go_wp2_with fail
        go_roundg (gk - 1)
        case measure => omega
        case rel => exact ⟨i + 1, by simp, by omega, (shut_E hA (by with_reducible repeat (first | exact Sel.here | apply Sel.there)) hcl hcap hcm hct).pick (by with_reducible repeat (first | exact Picks.nil | refine Picks.cons (by with_reducible repeat (first | exact Sel.here | apply Sel.there)) ?_)), hm.out⟩
    · have hd := Lib.hid (idx_none (fun x hx => hno'.out x (by rw [List.take_of_length_le (by omega)]; exact hx)))
      (try simp only [setL, List.set_cons_zero, List.set_cons_succ, List.cons_append, List.nil_append] at hA); (have hF := hA.facts); (try simp only [facts_cons, facts_nil, facts_cells, facts_old, facts_fact, facts_obj, facts_map, facts_iter, facts_row, and_true, true_and] at hF)
      go_wp2_with fail
      go_ret
      exact ⟨by rw [hd.out]; rfl, hA.only1 (by with_reducible repeat (first | exact Sel.here | apply Sel.there))⟩
end Go.Proofs.YtnkddjomanaadaaGreatDoor.Lock
end
