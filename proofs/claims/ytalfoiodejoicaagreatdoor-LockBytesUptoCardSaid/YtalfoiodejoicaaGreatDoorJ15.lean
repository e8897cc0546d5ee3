/- RefS, Row3, LockU, joined. -/
import Derived.Test.YtalfoiodejoicaaGreatDoorJ14
import Derived.Test.YtalfoiodejoicaaGreatDoorJ2
import Derived.Test.YtalfoiodejoicaaGreatDoorJ13
import Derived.Deep.Cut
section
namespace Go.Proofs.YtalfoiodejoicaaGreatDoor.Path
open Go.RowKit
set_option linter.unusedSimpArgs false
set_option linter.unusedVariables false

theorem partsR_right {s : ByteArray} (w : World) (hs : s.size ≤ 2000000) (hr : rightB (bl s) = true) : Calls Tryz.prog 112 #[.string s] w fun e w' => ∃ (v : Value) (ws : List ByteArray), e = .returned (.tuple #[v, .int .i64 0]) ∧ At [] w [rowS v ws] w' ∧ splits (bl s) = ws.map bl :=
  (partsR_any s w hs).mono fun e w' ⟨v, ws, he, hT, hres, hl⟩ => by
    have h1 := parts_right hr
    rcases hres with h | ⟨h, _⟩
    · rw [h1] at h
      rw [h1] at he
      exact ⟨v, ws, he, hT, Option.some.inj h⟩
    · rw [h1] at h; cases h
theorem rightR_is {s : ByteArray} {b : Bool} (w : World) (hs : s.size ≤ 2000000) (hb : rightB (bl s) = b) : Calls Tryz.prog 32 #[.string s] w fun e w' => e = .returned (.bool b) ∧ Ext w w' := hb ▸ rightR_any s w hs
def RPartsP (s : ByteArray) (w : World) (e : Ending) (w' : World) : Prop := ∃ (v : Value) (ws : List ByteArray), e = .returned (.tuple #[v, .int .i64 0]) ∧ At [] w [rowS v ws] w' ∧ splits (bl s) = ws.map bl
def AboveRel (w : World) (g1 g2 : Nat) (c1 c2 : List Value) (ws us : List ByteArray) (k : Nat) (u9 : Value) (wr : World) : Prop :=
  ∃ i : Nat, u9 = .int .i64 i ∧ i + k = ws.length ∧ At [] w [Part.cells g1 c1 9, Part.cells g2 c2 9] wr ∧ ∀ j, j < i → (us.map bl)[j]? = (ws.map bl)[j]?
set_option maxRecDepth 100000 in
set_option maxHeartbeats 1000000 in
theorem aboveR_any (p q : ByteArray) (w : World) (hp : p.size ≤ 2000000) (hq : q.size ≤ 2000000) : Calls Tryz.prog 85 #[.string p, .string q] w fun e w' => e = .returned (.bool (aboveB (bl p) (bl q))) ∧ Ext w w' := by
  have hA := At.start (w0 := w) (L0 := []) trivial
  have hF := hA.facts
  cases h1 : rightB (bl p)
  · have hb := Lib.hid (show aboveB (bl p) (bl q) = false by simp [aboveB, h1])
    go_enter Tryz.func85, Tryz.ntmps85
    go_wp2_with fail
    refine (rightR_is w hp h1).mono ?_
    rintro e w1 ⟨rfl, hx⟩
    go_wp2_with fail
    go_ret
    exact ⟨by rw [hb.out]; rfl, hx⟩
  · cases h2 : rightB (bl q)
    · have hb := Lib.hid (show aboveB (bl p) (bl q) = false by simp [aboveB, h1, h2])
      go_enter Tryz.func85, Tryz.ntmps85
      go_wp2_with fail
      refine (rightR_is w hp h1).mono ?_
      rintro e w1 ⟨rfl, hx⟩
      go_wp2_with fail
      refine (rightR_is w1 hq h2).mono ?_
      rintro e w2 ⟨rfl, hx2⟩
      go_wp2_with fail
      go_ret
      exact ⟨by rw [hb.out]; rfl, hx.trans hx2⟩
    · have hab : aboveB (bl p) (bl q) = decide (splits (bl p) <+: splits (bl q)) := by rw [aboveB_parts, h1, h2]; simp
      have hq2 : ∀ w, Calls Tryz.prog 112 #[.string q] w (RPartsP q w) := fun w => partsR_right w (by omega) h2
      have hp2 : ∀ w, Calls Tryz.prog 112 #[.string p] w (RPartsP p w) := fun w => partsR_right w (by omega) h1
      go_enter Tryz.func85, Tryz.ntmps85
      go_wp2_with fail
      refine (rightR_is w hp h1).mono ?_
      rintro e w1 ⟨rfl, hx⟩
      go_wp2_with fail
      refine (rightR_is w1 hq h2).mono ?_
      rintro e w2 ⟨rfl, hx2⟩
      have hB := (hA.ext hx).ext hx2
      clear hF hA hx hx2
      have hA := hB
      clear hB
      go_wp2_with fail
      refine (hp2 w2).mono ?_
      clear hp2
      rintro e w3 ⟨v, ws, rfl, hT, hws⟩
      have hB := hA.call0 hT
      clear hA hT
      have hA := hB
      clear hB
      simp only [List.append_nil] at hA
      go_wp2_with fail
      refine (hq2 w3).mono ?_
      clear hq2
      rintro e w4 ⟨u, us, rfl, hT, hus⟩
      have hB := hA.call0 hT
      clear hA hT
      have hA := hB
      clear hB
      simp only [List.cons_append, List.nil_append] at hA
      have n1 := splits_len (bl p)
      have n2 := splits_len (bl q)
      have m1 := splits_len_le (bl p)
      have m2 := splits_len_le (bl q)
      rw [hws] at hab n1 m1
      rw [hus] at hab n2 m2
      simp only [List.length_map] at n1 n2 m1 m2
      have z1 : (bl p).length = p.size := by simp
      have z2 : (bl q).length = q.size := by simp
      rw [z1] at m1
      rw [z2] at m2
      clear hws hus h1 h2 z1 z2
      obtain ⟨ax, cap, rfl, _, _, _⟩ := hA.row_form (v := v) (n := ws.length) (xs := flatS ws) (by with_reducible repeat (first | exact Sel.here | apply Sel.there))
      obtain ⟨bx, cbp, rfl, _, _, _⟩ := hA.row_form (v := u) (n := us.length) (xs := flatS us) (by with_reducible repeat (first | exact Sel.here | apply Sel.there))
      obtain ⟨g1, c1, rfl, _, _, hcl1, hct1, hB⟩ := hA.row_open (ax := ax) (cap := cap) (n := ws.length) (xs := flatS ws) (by with_reducible repeat (first | exact Sel.here | apply Sel.there)) (by omega)
      obtain ⟨g2, c2, rfl, _, _, hcl2, hct2, hB2⟩ := hB.row_open (ax := bx) (cap := cbp) (n := us.length) (xs := flatS us) (by with_reducible repeat (first | exact Sel.here | apply Sel.there)) (by omega)
      have x1 := Lib.hid (fun (j : Nat) (x : ByteArray) (hx : ws[j]? = some x) => flatS_at hct1 hx)
      have x2 := Lib.hid (fun (j : Nat) (x : ByteArray) (hx : us[j]? = some x) => flatS_at hct2 hx)
      clear hA hB hct1 hct2 hcl1 hcl2
      have hA := hB2
      clear hB2
      have hab' := Lib.hid hab
      clear hab
      have hF := hA.facts
      (try simp only [setL, List.set_cons_zero, List.set_cons_succ, List.cons_append, List.nil_append] at hA); (have hF := hA.facts); (try simp only [facts_cons, facts_nil, facts_cells, facts_old, facts_fact, facts_obj, facts_map, facts_iter, facts_row, and_true, true_and] at hF)
      by_cases hl : us.length < ws.length
      · have hb : aboveB (bl p) (bl q) = false := by
          rw [hab'.out, decide_eq_false_iff_not]
          intro h
          have := h.length_le
          simp at this
          omega
        have hb' := Lib.hid hb
        clear hb
        go_wp2_with fail
        go_ret
        exact ⟨by rw [hb'.out]; rfl, hA.toExt⟩
      · go_wp2_with fail
        go_loopg [9] ws.length (AboveRel w g1 g2 c1 c2 ws us)
        case atStart => exact ⟨0, rfl, by simp, hA.pick (by with_reducible repeat (first | exact Picks.nil | refine Picks.cons (by with_reducible repeat (first | exact Sel.here | apply Sel.there)) ?_)), nofun⟩
        case round =>
          obtain ⟨i, rfl, hk, hB, heq⟩ := hrel
          clear hF hA
          have hA := hB
          clear hB
          by_cases hi : i < ws.length
          · have hj : i < us.length := by omega
            have c1i : c1[i]? = some (.string ws[i]) := x1.out i _ (List.getElem?_eq_getElem hi)
            have c2i : c2[i]? = some (.string us[i]) := x2.out i _ (List.getElem?_eq_getElem hj)
            have hw1 : (ws.map bl)[i]? = some (bl ws[i]) := by simp [hi]
            have hw2 : (us.map bl)[i]? = some (bl us[i]) := by simp [hj]
            generalize ws[i] = x at *
            generalize us[i] = y at *
            have hxy := eqB x y
            have heq' := Lib.hid heq
            have hF := hA.facts
            (try simp only [setL, List.set_cons_zero, List.set_cons_succ, List.cons_append, List.nil_append] at hA); (have hF := hA.facts); (try simp only [facts_cons, facts_nil, facts_cells, facts_old, facts_fact, facts_obj, facts_map, facts_iter, facts_row, and_true, true_and] at hF)
            by_cases hc : bl x = bl y
            · rw [decide_eq_true hc] at hxy
              have hc' := Lib.hid hc
              have hw1' := Lib.hid hw1
              have hw2' := Lib.hid hw2
              clear hc hw1 hw2 heq
              go_wp2_with fail
              (refine wp_region_all (Cl _ _ _) (by kernel_rfl) (by kernel_rfl) (Cl.drew hA) ?_); (have hn1 := Cl.none hA); (have hn2 := Cl.none2 hA); (repeat (first | go_big_quiet_skip | (go_big_quiet_want; (first | (refine quiet_load_at rfl rfl (by with_reducible repeat (first | exact Sel.here | apply Sel.there)) (by kernel_rfl) (by first | assumption | exact rfl) ?_; go_frame; go_big_quiet_on) | (go_big_quiet_op; (first | go_big_quiet_on))))))
              (refine wpQuiet_nil ?_); (intro w1 hB); (clear hF hA hn1 hn2); (have hA := Cl.out hB); (clear hB); (try simp only [setL, List.set_cons_zero, List.set_cons_succ, List.cons_append, List.nil_append] at hA); (have hF := hA.facts); (try simp only [facts_cons, facts_nil, facts_cells, facts_old, facts_fact, facts_obj, facts_map, facts_iter, facts_row, and_true, true_and] at hF)
              go_wp2_with fail
              go_roundg (gk - 1)
              case measure => omega
              case rel =>
                refine ⟨i + 1, by simp, by omega, hA, fun j hj => ?_⟩
                by_cases e : j = i
                · subst e; rw [hw1'.out, hw2'.out, hc'.out]
                · exact heq'.out j (by omega)
            · rw [decide_eq_false hc] at hxy
              have hb : aboveB (bl p) (bl q) = false := by
                rw [hab'.out, decide_eq_false_iff_not]
                intro h
                have h3 := List.prefix_iff_getElem?.1 h i (by simpa using hi)
                rw [hw2] at h3
                have h4 := List.getElem?_eq_some_iff.1 hw1
                obtain ⟨_, h4⟩ := h4
                rw [h4] at h3
                exact hc (Option.some.inj h3).symm
              have hb' := Lib.hid hb
              clear hc hw1 hw2 heq hb
              go_wp2_with fail
              (refine wp_region_all (Cl _ _ _) (by kernel_rfl) (by kernel_rfl) (Cl.drew hA) ?_); (have hn1 := Cl.none hA); (have hn2 := Cl.none2 hA); (repeat (first | go_big_quiet_skip | (go_big_quiet_want; (first | (refine quiet_load_at rfl rfl (by with_reducible repeat (first | exact Sel.here | apply Sel.there)) (by kernel_rfl) (by first | assumption | exact rfl) ?_; go_frame; go_big_quiet_on) | (go_big_quiet_op; (first | go_big_quiet_on))))))
              (refine wpQuiet_nil ?_); (intro w1 hB); (clear hF hA hn1 hn2); (have hA := Cl.out hB); (clear hB); (try simp only [setL, List.set_cons_zero, List.set_cons_succ, List.cons_append, List.nil_append] at hA); (have hF := hA.facts); (try simp only [facts_cons, facts_nil, facts_cells, facts_old, facts_fact, facts_obj, facts_map, facts_iter, facts_row, and_true, true_and] at hF)
              go_wp2_with fail
              go_ret
              exact ⟨by rw [hb'.out]; rfl, hA.toExt⟩
          · have hb : aboveB (bl p) (bl q) = true := by
              rw [hab'.out, decide_eq_true_eq]
              refine List.prefix_iff_getElem?.2 fun j hj => ?_
              rw [heq j (by simp at hj; omega)]
              exact List.getElem?_eq_getElem hj
            have hb' := Lib.hid hb
            clear hb heq
            have hF := hA.facts
            (try simp only [setL, List.set_cons_zero, List.set_cons_succ, List.cons_append, List.nil_append] at hA); (have hF := hA.facts); (try simp only [facts_cons, facts_nil, facts_cells, facts_old, facts_fact, facts_obj, facts_map, facts_iter, facts_row, and_true, true_and] at hF)
            go_wp2_with fail
            go_ret
            exact ⟨by rw [hb'.out]; rfl, hA.toExt⟩
set_option maxRecDepth 100000 in
theorem overlapR_any (p q : ByteArray) (w : World) (hp : p.size ≤ 2000000) (hq : q.size ≤ 2000000) : Calls Tryz.prog 48 #[.string p, .string q] w fun e w' => e = .returned (.bool (overB (bl p) (bl q))) ∧ Ext w w' := by
  have h1 := aboveR_any p q w hp hq
  have h2 := fun w => aboveR_any q p w hq hp
  have ho : overB (bl p) (bl q) = (aboveB (bl p) (bl q) || aboveB (bl q) (bl p)) := rfl
  rw [ho]
  clear ho
  generalize aboveB (bl p) (bl q) = b1 at *
  generalize aboveB (bl q) (bl p) = b2 at *
  cases b1
  · go_enter Tryz.func48, Tryz.ntmps48
    go_wp2_with fail
    refine h1.mono ?_
    clear h1
    rintro e w1 ⟨rfl, hx⟩
    go_wp2_with fail
    refine (h2 w1).mono ?_
    clear h2
    rintro e w2 ⟨rfl, hx2⟩
    cases b2
    all_goals
      go_wp2_with fail
      go_ret
      exact ⟨rfl, hx.trans hx2⟩
  · go_enter Tryz.func48, Tryz.ntmps48
    go_wp2_with fail
    refine h1.mono ?_
    clear h1
    rintro e w1 ⟨rfl, hx⟩
    go_wp2_with fail
    go_ret
    exact ⟨rfl, hx⟩
end Go.Proofs.YtalfoiodejoicaaGreatDoor.Path
end

section
namespace Go.Proofs.YtalfoiodejoicaaGreatDoor
open Go.RowKit
set_option linter.unusedVariables false
set_option linter.unnecessarySimpa false
set_option linter.unusedSimpArgs false

theorem setL_mid : ∀ (vs p q r : List Value), q.length = vs.length → setL (p ++ (q ++ r)) p.length vs = p ++ (vs ++ r)
  | [], p, q, r, h => by
    have : q = [] := List.eq_nil_of_length_eq_zero (by simpa using h)
    subst this
    rfl
  | v :: vs, p, [], r, h => by simp at h
  | v :: vs, p, y :: q, r, h => by
    rw [setL]
    have e : (p ++ (y :: q ++ r)).set p.length v = (p ++ [v]) ++ (q ++ r) := by
      rw [List.set_append_right _ _ (Nat.le_refl _)]
      simp
    have := setL_mid vs (p ++ [v]) q r (by simpa using h)
    rw [List.length_append] at this
    rw [e]
    simp only [List.length_cons, List.length_nil, Nat.zero_add] at this
    rw [this]
    simp
theorem flat_set {α : Type} (enc : α → List Value) (size : Nat) (hs : ∀ x, (enc x).length = size) (l : List α) (i : Nat) (hi : i < l.length) (x : α) : setL (l.flatMap enc) (i * size) (enc x) = (l.set i x).flatMap enc := by
  have e1 : l = l.take i ++ l[i] :: l.drop (i + 1) := by rw [← List.drop_eq_getElem_cons hi, List.take_append_drop]
  have hl : (l.take i).length = i := by rw [List.length_take]; omega
  have e2 : l.set i x = l.take i ++ x :: l.drop (i + 1) := by
    rw [List.set_eq_take_append_cons_drop, if_pos hi]
  have e3 : l.flatMap enc = (l.take i).flatMap enc ++ (enc l[i] ++ (l.drop (i + 1)).flatMap enc) := by
    have := congrArg (fun m => m.flatMap enc) e1
    simp only [List.flatMap_append, List.flatMap_cons] at this
    exact this
  have hf : ((l.take i).flatMap enc).length = i * size := by rw [flat_len enc size hs, hl]
  rw [e2, e3, ← hf, setL_mid _ _ _ _ (by rw [hs, hs])]
  simp
theorem take_setL : ∀ (vs c : List Value) (o m : Nat), (setL c o vs).take m = setL (c.take m) o vs
  | [], _, _, _ => rfl
  | v :: vs, c, o, m => by rw [setL, setL, take_setL vs, List.take_set]
theorem take_setL_low : ∀ (vs c : List Value) (o m : Nat), m ≤ o → (setL c o vs).take m = c.take m
  | [], _, _, _, _ => rfl
  | v :: vs, c, o, m, h => by rw [setL, take_setL_low vs _ _ _ (by omega), List.take_set_of_le h]
/-- an element is written -/
theorem write_row {α : Type} {enc : α → List Value} {size : Nat} (hs : ∀ x, (enc x).length = size) {c : List Value} {l : List α} (ht : c.take (l.length * size) = l.flatMap enc) {i : Nat} (hi : i < l.length) (x : α) :
    (setL c (i * size) (enc x)).take ((l.set i x).length * size) = (l.set i x).flatMap enc := by
  rw [List.length_set, take_setL, ht, flat_set enc size hs l i hi]

section
variable {P : Program} {ops : Array Oper} {rest : List Oper} {o : Oper} {a : Act} {Q : Exit → Act → World → Prop} {L0 L F : List Part} {w0 w : World} {e : TypeId}
theorem run_clear_many (w : World) (t e ty : TypeId) (z : Value) (ht : P.underlying t = some (.slice e)) (hv : ∀ w, (zeroValue e).run P w = .ok z w) (m : Nat) (hm : 0 < m) (h1 : ∀ v ∈ (Builtin.zeroCells z.cells m).toList, v.oneCell' = true) (b o c : Nat)
    (hc : ∀ j, j < m * z.cells.size → (w.cell? ⟨b, o + j, none⟩).isSome = true) (hf : ∀ j, j < m * z.cells.size → w.frozen? ⟨b, o + j, none⟩ = false) :
    (Builtin.clear_ #[t] ty #[.slice (some ⟨b, o, none⟩) m c]).run P w = .ok (.tuple #[]) (w.setCells b o (Builtin.zeroCells z.cells m).toList) := by
  have hl : (Builtin.zeroCells z.cells m).toList.length = m * z.cells.size := by simp [Builtin.zeroCells]
  have hst := run_storeCells_cells (P := P) b o (Builtin.zeroCells z.cells m).toList 0 w (by intro j hj; simpa using hc j (by omega)) (by intro j hj; simpa using hf j (by omega)) h1
  simp only [Nat.add_zero] at hst
  obtain ⟨m, rfl⟩ : ∃ m', m = m' + 1 := ⟨m - 1, by omega⟩
  simp [Builtin.clear_, run_underlying ht, hv, hst]
theorem zero_ones (z : Value) (h : ∀ u ∈ z.cells.toList, u.oneCell' = true) (h0 : 0 < z.cells.size) (m : Nat) : ∀ v ∈ (Builtin.zeroCells z.cells m).toList, v.oneCell' = true := by
  intro v hv
  simp only [Builtin.zeroCells, Array.toList_map, List.mem_map] at hv
  obtain ⟨j, _, rfl⟩ := hv
  have hj : j % z.cells.size < z.cells.size := Nat.mod_lt _ h0
  rw [getElem!_pos z.cells (j % z.cells.size) hj]
  exact h _ (by rw [Array.mem_toList_iff]; exact Array.getElem_mem hj)
/-- the end of a row is cleared -/
theorem wpList_clear_at {t : TypeId} {x : Operand} {z : Value} {b off m cp : Nat} {c : List Value} {T : TypeId} (hg : o.guard = none) (hop : o.op = .call { callee := .builtin .clear, args := #[x], argTypes := #[t] }) (ht : P.underlying t = some (.slice e)) (hv : ∀ w, (zeroValue e).run P w = .ok z w)
    (h1 : ∀ u ∈ z.cells.toList, u.oneCell' = true) (h0 : 0 < z.cells.size) (hx : a.eval x = .slice (some ⟨b, off, none⟩) m cp) (hm : 0 < m) (h : At L0 w0 L w) (s : Sel (Part.cells b c T) L F) (hl : off + m * z.cells.size ≤ c.length)
    (hK : ∀ c' w', c'.length = c.length → c'.take off = c.take off → At L0 w0 (Part.cells b c' T :: F) w' → wpList P ops Q rest (a.put o.dst (.tuple #[])) w') : wpList P ops Q (o :: rest) a w := by
  have hb : BlockIs w b c T := h.get s
  have hrun := run_clear_many (P := P) w t e o.type z ht hv m hm (zero_ones z h1 h0 m) b off cp (fun j hj => by rw [hb.cell, List.getElem?_eq_getElem (by omega)]; rfl) (fun j hj => hb.free _)
  refine wpList_val hg ?_ (hK _ _ (setL_length _ _ _) (take_setL_low _ _ _ _ (Nat.le_refl _)) (h.stores s off (Builtin.zeroCells z.cells m).toList))
  simp [execOp, hop, resolve, invoke, builtin, hx, hrun, Result.andThen]
end
end Go.Proofs.YtalfoiodejoicaaGreatDoor
end

section
namespace Go.Proofs.YtalfoiodejoicaaGreatDoor.Lock
open Go.RowKit
open Go.Maps (Keyed)
open Path (bl rightB overB)
set_option linter.unusedSimpArgs false
set_option linter.unusedVariables false

theorem Ent.cells_len (e : Ent) : e.cells.length = 6 := rfl
theorem Ent.ones (e : Ent) : e.cells.all (·.oneCell') = true := rfl
theorem Ent.one (e : Ent) : ∀ u ∈ e.cells, u.oneCell' = true := List.all_eq_true.1 e.ones
def ctrL (c : ByteArray × Int) : List Value := [.string c.1, .int .u64 c.2]
theorem ctrL_len (c : ByteArray × Int) : (ctrL c).length = 2 := rfl
theorem ctrL_one (c : ByteArray × Int) : ∀ u ∈ ctrL c, u.oneCell' = true := List.all_eq_true.1 (show (ctrL c).all (·.oneCell') = true from rfl)
def flatE (L : List Ent) : List Value := L.flatMap Ent.cells
def flatC (L : List (ByteArray × Int)) : List Value := L.flatMap ctrL
abbrev rowE (v : Value) (L : List Ent) : Part := .row 79 6 v L.length (flatE L)
abbrev rowC (v : Value) (L : List (ByteArray × Int)) : Part := .row 82 2 v L.length (flatC L)
theorem shut_E {L0 K F : List Part} {w0 w : World} {g cap : Nat} {c : List Value} {L : List Ent} (hA : At L0 w0 K w) (s : Sel (Part.cells g c 79) K F) (hcl : c.length = cap * 6) (hcap : L.length ≤ cap) (hcm : cap ≤ maxLen) (hct : c.take (L.length * 6) = flatE L) :
    At L0 w0 (rowE (.slice (some ⟨g, 0, none⟩) L.length cap) L :: F) w := hA.row_shut s hcl hcap hcm hct
theorem shut_C {L0 K F : List Part} {w0 w : World} {g cap : Nat} {c : List Value} {L : List (ByteArray × Int)} (hA : At L0 w0 K w) (s : Sel (Part.cells g c 82) K F) (hcl : c.length = cap * 2) (hcap : L.length ≤ cap) (hcm : cap ≤ maxLen) (hct : c.take (L.length * 2) = flatC L) :
    At L0 w0 (rowC (.slice (some ⟨g, 0, none⟩) L.length cap) L :: F) w := hA.row_shut s hcl hcap hcm hct
theorem row_cells {α : Type} {enc : α → List Value} {size : Nat} (hs : ∀ x, (enc x).length = size) {c : List Value} {l : List α} (ht : c.take (l.length * size) = l.flatMap enc) {k : Nat} {x : α} (hx : l[k]? = some x) : (c.drop (k * size)).take size = enc x := by
  apply List.ext_getElem?
  intro j
  by_cases hj : j < size
  · rw [List.getElem?_take_of_lt hj, List.getElem?_drop]
    exact cells_at hs ht hx j hj
  · rw [List.getElem?_eq_none (by rw [List.length_take]; omega), List.getElem?_eq_none (by rw [hs]; omega)]
theorem infoE : (Tryz.prog.info? 79).map (fun i => (i.zero, i.size, i.bytes)) = some (some (.agg #[.string .empty, .int .u64 0, .string .empty, .int .i64 0, .int .u64 0, .int .i64 0]), 6, 64) := by kernel_rfl
theorem infoC : (Tryz.prog.info? 82).map (fun i => (i.zero, i.size, i.bytes)) = some (some (.agg #[.string .empty, .int .u64 0]), 2, 24) := by kernel_rfl
theorem row_nilE {L0 L : List Part} {w0 w : World} (h : At L0 w0 L w) : At L0 w0 (rowE (.slice none 0 0) [] :: L) w := h.row_nil 79 6
theorem row_nilC {L0 L : List Part} {w0 w : World} (h : At L0 w0 L w) : At L0 w0 (rowC (.slice none 0 0) [] :: L) w := h.row_nil 82 2
theorem rowE_snoc (v : Value) (l : List Ent) (x : Ent) : Part.row 79 6 v (l.length + 1) (flatE l ++ x.cells) = rowE v (l ++ [x]) := rows_snoc (enc := Ent.cells) _ v l x
theorem rowC_snoc (v : Value) (l : List (ByteArray × Int)) (x : ByteArray × Int) : Part.row 82 2 v (l.length + 1) (flatC l ++ ctrL x) = rowC v (l ++ [x]) := rows_snoc (enc := ctrL) _ v l x
theorem rowE_app0 (v : Value) (l : List Ent) : Part.row 79 6 v (([] : List Ent).length + l.length) (flatE [] ++ flatE l) = rowE v l := by simp [rowE, flatE]
theorem rowC_app0 (v : Value) (l : List (ByteArray × Int)) : Part.row 82 2 v (([] : List (ByteArray × Int)).length + l.length) (flatC [] ++ flatC l) = rowC v l := by simp [rowC, flatC]
theorem flatE_one (l : List Ent) : ∀ u ∈ flatE l, u.oneCell' = true := flat_one Ent.one l
theorem flatC_one (l : List (ByteArray × Int)) : ∀ u ∈ flatC l, u.oneCell' = true := flat_one ctrL_one l
theorem flatE_len (l : List Ent) : (flatE l).length = l.length * 6 := flat_len _ _ Ent.cells_len l
theorem flatC_len (l : List (ByteArray × Int)) : (flatC l).length = l.length * 2 := flat_len _ _ ctrL_len l


/-! ### Find -/
/-- the place of an entry; -1: nowhere -/
def idxD (L : List Ent) (p : ByteArray) (n : Int) (f : ByteArray) : Int := match placeD L p n f with | some k => k | none => -1
theorem idx_at {L : List Ent} {p : ByteArray} {n : Int} {f : ByteArray} {i : Nat} (hi : i < L.length) (hn : ∀ x ∈ L.take i, x.is p n f = false) (hy : L[i].is p n f = true) : idxD L p n f = i := by
  unfold idxD placeD
  rw [List.findIdx?_eq_some_iff_getElem.2 ⟨hi, hy, fun j hj => by
    have := hn L[j] (List.mem_take_iff_getElem.2 ⟨j, by omega, rfl⟩)
    simp [this]⟩]
theorem idx_none {L : List Ent} {p : ByteArray} {n : Int} {f : ByteArray} (hn : ∀ x ∈ L, x.is p n f = false) : idxD L p n f = -1 := by
  unfold idxD placeD
  rw [List.findIdx?_eq_none_iff.2 hn]
abbrev boxB (b : Nat) (first : Int) (vL vC : Value) : Part := .cells b [.int .u64 first, vL, vC] 68
def docV (first : Int) (vL vC : Value) : Value := .agg #[.int .u64 first, vL, vC]
def FindRel (w : World) (first : Int) (v vC : Value) (L : List Ent) (p : ByteArray) (n : Int) (f : ByteArray) (b1 : Nat) (k : Nat) (u : Value) (wr : World) : Prop :=
  ∃ i : Nat, u = .int .i64 i ∧ i + k = L.length ∧ At [rowE v L] w [boxB b1 first v vC, rowE v L] wr ∧ ∀ x ∈ L.take i, x.is p n f = false
theorem take_more {L : List Ent} {P : Ent → Bool} {i : Nat} (hi : i < L.length) (h : ∀ x ∈ L.take i, P x = false) (h1 : P L[i] = false) : ∀ x ∈ L.take (i + 1), P x = false := fun x hx => by
  rw [List.take_succ_eq_append_getElem hi] at hx
  rcases List.mem_append.1 hx with hx | hx
  · exact h x hx
  · rw [List.mem_singleton.1 hx, h1]
set_option maxRecDepth 100000 in
set_option maxHeartbeats 2000000 in
theorem findR_any {w : World} {v : Value} {L : List Ent} (h : Sep [rowE v L] w) (first : Int) (vC : Value) (hvC : ∃ ax k cap, vC = .slice ax k cap) (p : ByteArray) (n : Int) (f : ByteArray) (hmax : L.length ≤ 1000000) :
    Calls Tryz.prog 22 #[.agg #[.int .u64 first, v, vC], .string p, .int .u64 n, .string f] w fun e w' => e = .returned (.int .i64 (idxD L p n f)) ∧ At [rowE v L] w [rowE v L] w' := by
  obtain ⟨cx, ck, cc, rfl⟩ := hvC
  have hA := At.start h
  have hF := hA.facts
  clear h
  obtain ⟨ax, cap, rfl, hax, hcap, _⟩ := hA.row_form (v := v) (xs := flatE L) (by with_reducible repeat (first | exact Sel.here | apply Sel.there))
  (try simp only [setL, List.set_cons_zero, List.set_cons_succ, List.cons_append, List.nil_append] at hA); (have hF := hA.facts); (try simp only [facts_cons, facts_nil, facts_cells, facts_old, facts_fact, facts_obj, facts_map, facts_iter, facts_row, and_true, true_and] at hF)
  go_enter Tryz.func22, Tryz.ntmps22
  go_wp2_with (first | ((with_reducible show wpList _ _ _ ({ dst := _, op := Op.box _ _, type := _, pos := _, after := _, guard := _ } :: _) _ _); refine wpList_box_at (E := 68) rfl rfl (by (try simp only [Act.eval, Array.getD_eq_getD_getElem?, List.getElem?_toArray, List.getElem?_cons_succ, List.getElem?_cons_zero, Option.getD_some]) <;> exact rfl) (by exact rfl) hA ?_; intro bB w1 hB hbB; clear hF hA; have hA := hB; clear hB; (try simp only [setL, List.set_cons_zero, List.set_cons_succ, List.cons_append, List.nil_append] at hA); (have hF := hA.facts); (try simp only [facts_cons, facts_nil, facts_cells, facts_old, facts_fact, facts_obj, facts_map, facts_iter, facts_row, and_true, true_and] at hF)) | ((with_reducible show wpList _ _ _ ({ dst := _, op := Op.store _ _ _, type := _, pos := _, after := _, guard := _ } :: _) _ _); refine wpList_store_at rfl rfl rfl (by (try simp only [Act.eval, Array.getD_eq_getD_getElem?, List.getElem?_toArray, List.getElem?_cons_succ, List.getElem?_cons_zero, Option.getD_some]) <;> exact rfl) (by exact rfl) hA (by with_reducible repeat (first | exact Sel.here | apply Sel.there)) (by kernel_rfl) rfl (by first | decide | (simp; done) | omega) ?_; intro w1 hB; clear hF hA; have hA := hB; clear hB; (try simp only [setL, List.set_cons_zero, List.set_cons_succ, List.cons_append, List.nil_append] at hA); (have hF := hA.facts); (try simp only [facts_cons, facts_nil, facts_cells, facts_old, facts_fact, facts_obj, facts_map, facts_iter, facts_row, and_true, true_and] at hF)) | ((with_reducible show wpList _ _ _ ({ dst := _, op := Op.box _ _, type := _, pos := _, after := _, guard := _ } :: _) _ _); refine wpList_box_at rfl rfl (by (try simp only [Act.eval, Array.getD_eq_getD_getElem?, List.getElem?_toArray, List.getElem?_cons_succ, List.getElem?_cons_zero, Option.getD_some]) <;> exact rfl) (by exact rfl) hA ?_; intro b1 w1 hB hb1; clear hF hA; have hA := hB; clear hB; (try simp only [setL, List.set_cons_zero, List.set_cons_succ, List.cons_append, List.nil_append] at hA); (have hF := hA.facts); (try simp only [facts_cons, facts_nil, facts_cells, facts_old, facts_fact, facts_obj, facts_map, facts_iter, facts_row, and_true, true_and] at hF)))
  try go_frame
  go_loopg [9] L.length (FindRel w first (.slice ax L.length cap) (.slice cx ck cc) L p n f bB)
  case atStart => exact ⟨0, rfl, by simp, hA, by simp⟩
  case round =>
    obtain ⟨i, rfl, hik, hB, hno⟩ := hrel
    have hno' := Lib.hid hno
    clear hF hA hno
    have hA := hB
    clear hB
    by_cases hi : i < L.length
    · obtain ⟨g, c, rfl, _, hcm, hcl, hct, hB⟩ := hA.row_open (ax := ax) (cap := cap) (n := L.length) (xs := flatE L) (by with_reducible repeat (first | exact Sel.here | apply Sel.there)) (by omega)
      have hx : L[i]? = some L[i] := List.getElem?_eq_getElem hi
      (have c0 : c[i * 6]? = some (.string L[i].path) := cells_at Ent.cells_len hct hx 0 (by omega)); (have c1 : c[i * 6 + 1]? = some (.int .u64 L[i].num) := cells_at Ent.cells_len hct hx 1 (by omega)); (have c2 : c[i * 6 + 2]? = some (.string L[i].foot) := cells_at Ent.cells_len hct hx 2 (by omega)); (have c3 : c[i * 6 + 3]? = some (.int .i64 L[i].mode) := cells_at Ent.cells_len hct hx 3 (by omega)); (have c4 : c[i * 6 + 4]? = some (.int .u64 L[i].n) := cells_at Ent.cells_len hct hx 4 (by omega)); (have c5 : c[i * 6 + 5]? = some (.int .i64 L[i].stamp) := cells_at Ent.cells_len hct hx 5 (by omega))
      clear hA
      have hA := hB
      clear hB
      (try simp only [setL, List.set_cons_zero, List.set_cons_succ, List.cons_append, List.nil_append] at hA); (have hF := hA.facts); (try simp only [facts_cons, facts_nil, facts_cells, facts_old, facts_fact, facts_obj, facts_map, facts_iter, facts_row, and_true, true_and] at hF)
      by_cases h1 : L[i].path = p
      · have e1 : (L[i].path.toList == p.toList) = true := by rw [same_ba]; exact decide_eq_true h1
        by_cases h2 : L[i].num = n
        · have e2 : (L[i].num == n) = true := by simpa using h2
          by_cases h3 : L[i].foot = f
          · have e3 : (L[i].foot.toList == f.toList) = true := by rw [same_ba]; exact decide_eq_true h3
            have hd := Lib.hid (idx_at hi hno'.out (by simp [Ent.is, h1, h2, h3]))
            clear h1 h2 h3 hx
            go_wp2_with fail
            go_ret
            exact ⟨by rw [hd.out]; rfl, (shut_E hA (by with_reducible repeat (first | exact Sel.here | apply Sel.there)) hcl hcap hcm hct).only1 (by with_reducible repeat (first | exact Sel.here | apply Sel.there))⟩
          · have e3 : (L[i].foot.toList == f.toList) = false := by rw [same_ba]; exact decide_eq_false h3
            have hm := Lib.hid (take_more hi hno'.out (P := fun x => x.is p n f) (by simp [Ent.is, h3]))
            clear h1 h2 h3 hx
            go_wp2_with fail
            go_roundg (gk - 1)
            case measure => omega
            case rel => exact ⟨i + 1, by simp, by omega, (shut_E hA (by with_reducible repeat (first | exact Sel.here | apply Sel.there)) hcl hcap hcm hct).pick (by with_reducible repeat (first | exact Picks.nil | refine Picks.cons (by with_reducible repeat (first | exact Sel.here | apply Sel.there)) ?_)), hm.out⟩
        · have e2 : (L[i].num == n) = false := by simpa using h2
          have hm := Lib.hid (take_more hi hno'.out (P := fun x => x.is p n f) (by simp [Ent.is, h2]))
          clear h1 h2 hx
          go_wp2_with fail
          go_roundg (gk - 1)
          case measure => omega
          case rel => exact ⟨i + 1, by simp, by omega, (shut_E hA (by with_reducible repeat (first | exact Sel.here | apply Sel.there)) hcl hcap hcm hct).pick (by with_reducible repeat (first | exact Picks.nil | refine Picks.cons (by with_reducible repeat (first | exact Sel.here | apply Sel.there)) ?_)), hm.out⟩
      · have e1 : (L[i].path.toList == p.toList) = false := by rw [same_ba]; exact decide_eq_false h1
        have hm := Lib.hid (take_more hi hno'.out (P := fun x => x.is p n f) (by simp [Ent.is, h1]))
        clear h1 hx
        go_wp2_with fail
        go_roundg (gk - 1)
        case measure => omega
        case rel => exact ⟨i + 1, by simp, by omega, (shut_E hA (by with_reducible repeat (first | exact Sel.here | apply Sel.there)) hcl hcap hcm hct).pick (by with_reducible repeat (first | exact Picks.nil | refine Picks.cons (by with_reducible repeat (first | exact Sel.here | apply Sel.there)) ?_)), hm.out⟩
    · have hd := Lib.hid (idx_none (fun x hx => hno'.out x (by rw [List.take_of_length_le (by omega)]; exact hx)))
      (try simp only [setL, List.set_cons_zero, List.set_cons_succ, List.cons_append, List.nil_append] at hA); (have hF := hA.facts); (try simp only [facts_cons, facts_nil, facts_cells, facts_old, facts_fact, facts_obj, facts_map, facts_iter, facts_row, and_true, true_and] at hF)
      go_wp2_with fail
      go_ret
      exact ⟨by rw [hd.out]; rfl, hA.only1 (by with_reducible repeat (first | exact Sel.here | apply Sel.there))⟩
end Go.Proofs.YtalfoiodejoicaaGreatDoor.Lock
end
