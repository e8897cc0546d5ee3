/- PathN, RefP, RefQ, joined. -/
import Derived.Test.YtnkddjomanaadaaGreatDoorJ14
import Derived.Test.YtnkddjomanaadaaGreatDoorJ4
section
namespace Go.Proofs.YtnkddjomanaadaaGreatDoor.Path
open Go.RowKit
open Go.Lib (compareBytes)
set_option linter.unusedSimpArgs false
set_option linter.unusedVariables false

set_option maxRecDepth 100000 in
theorem split_any (s : ByteArray) (w : World) (hs : s.size ≤ 2000000) : Calls Tryz.prog 96 #[.string s, .string ⟨#[47]⟩] w (SplitPost s w) := by
  go_enter Tryz.func96, Tryz.ntmps96
  go_wp2_with fail
  refine (genSplit_any s w hs).mono ?_
  rintro e w1 ⟨v, ws, rfl, h1, h2⟩
  go_wp2_with fail
  go_ret
  exact ⟨v, ws, rfl, h1, h2⟩
def PartsPost (s : ByteArray) (w : World) (e : Ending) (w' : World) : Prop := ∃ (v : Value) (ws : List ByteArray), e = .returned v ∧ ws.map bl = partsL (bl s) ∧ At [] w [rowS v ws] w'
set_option maxRecDepth 100000 in
theorem parts_any (s : ByteArray) (w : World) (hs : s.size ≤ 2000000) : Calls Tryz.prog 66 #[.string s] w (PartsPost s w) := by
  cases h1 : rightB (bl s)
  · have e : partsL (bl s) = [] := by simp [partsL, h1]
    have e' := Lib.hid e
    clear e
    go_enter Tryz.func66, Tryz.ntmps66
    go_wp2_with fail
    refine (right_is w hs h1).mono ?_
    rintro e w1 ⟨rfl, hx⟩
    go_wp2_with fail
    go_ret
    exact ⟨_, [], rfl, by rw [e'.out]; rfl, ((At.start (w0 := w) (L0 := []) trivial).ext hx).row_nil 9 1⟩
  · have e : partsL (bl s) = splits (bl s) := by simp [partsL, h1]
    have e' := Lib.hid e
    clear e
    go_enter Tryz.func66, Tryz.ntmps66
    go_wp2_with fail
    refine (right_is w hs h1).mono ?_
    rintro e w1 ⟨rfl, hx⟩
    go_wp2_with fail
    refine (split_any s w1 hs).mono ?_
    rintro e w2 ⟨v, ws, rfl, h2, h3⟩
    have hB := ((At.start (w0 := w) (L0 := []) trivial).ext hx).call0 h3
    clear h3 hx
    go_wp2_with fail
    go_ret
    exact ⟨_, ws, rfl, by rw [e'.out, h2], by simpa using hB⟩

theorem less_cb : ∀ (x y : List UInt8), Op.bytesLess x y = decide (compareBytes x y < 0)
  | [], [] => by simp [Op.bytesLess, compareBytes]
  | [], _ :: _ => by simp [Op.bytesLess, compareBytes]
  | _ :: _, [] => by simp [Op.bytesLess, compareBytes]
  | a :: x, b :: y => by
    rw [Op.bytesLess, less_cb x y]
    simp only [compareBytes]
    rcases Nat.lt_trichotomy a.toNat b.toNat with h | h | h
    · have h1 : a < b := UInt8.lt_iff_toNat_lt.2 h
      simp [h1]
    · have e : a = b := UInt8.toNat_inj.1 h
      subst e
      have h1 : ¬ a < a := fun q => by have := UInt8.lt_iff_toNat_lt.1 q; omega
      simp [h1]
    · have h1 : b < a := UInt8.lt_iff_toNat_lt.2 h
      have h2 : ¬ a < b := fun q => by have := UInt8.lt_iff_toNat_lt.1 q; omega
      have h3 : a ≠ b := fun e => by subst e; omega
      simp [h1, h2, h3]
set_option maxRecDepth 100000 in
theorem nan_any (s : ByteArray) (w : World) : Calls Tryz.prog 80 #[.string s] w fun e w' => e = .returned (.bool false) ∧ w = w' := by
  have h : (s.toList == s.toList) = true := by simp
  go_enter Tryz.func80, Tryz.ntmps80
  go_wp2_with fail
  go_ret
  exact ⟨by simp, rfl⟩
set_option maxRecDepth 100000 in
theorem cmpS_any (x y : ByteArray) (w : World) : Calls Tryz.prog 51 #[.string x, .string y] w fun e w' => e = .returned (.int .i64 (compareBytes (bl x) (bl y))) ∧ w = w' := by
  have key : ∀ c, compareBytes (bl x) (bl y) = c → (c = -1 ∨ c = 0 ∨ c = 1) → Calls Tryz.prog 51 #[.string x, .string y] w fun e w' => e = .returned (.int .i64 c) ∧ w = w' := by
    intro c hc h3
    have h1 : Op.bytesLess x.toList y.toList = decide (c < 0) := by rw [Lib.toList_data, Lib.toList_data, less_cb, ← hc]
    have h2 : Op.bytesLess y.toList x.toList = decide (0 < c) := by rw [Lib.toList_data, Lib.toList_data, less_cb, ← hc, cb_anti (bl x) (bl y)]; simp [bl]
    have h4 : (x.toList == y.toList) = decide (c = 0) := by
      rw [eqB]
      congr 1
      rw [← hc]
      exact propext ⟨fun e => by rw [e]; exact cb_self _, fun e => cb_eq e⟩
    clear hc
    rcases h3 with rfl | rfl | rfl
    all_goals
      simp only [Int.reduceNeg, Int.reduceLT, Int.reduceEq, decide_true, decide_false] at h1 h2 h4
      go_enter Tryz.func51, Tryz.ntmps51
      go_wp2_with (refine (nan_any _ _).mono ?_; rintro e _ ⟨rfl, rfl⟩)
      go_ret
      exact ⟨rfl, rfl⟩
  exact key _ rfl (cb_three _ _)

def CmpRel (ws us : List ByteArray) (w : World) (k : Nat) (u11 : Value) (wr : World) : Prop :=
  ∃ i : Nat, u11 = .int .i64 i ∧ i + k = ws.length ∧ i ≤ us.length ∧ cmpL (ws.map bl) (us.map bl) = cmpL ((ws.drop i).map bl) ((us.drop i).map bl) ∧ wr = w
set_option maxRecDepth 100000 in
set_option maxHeartbeats 2000000 in
theorem compareS_any {w : World} {ws us : List ByteArray} {g1 g2 c1 c2 : Nat} (h1 : ∀ (j : Nat) x, ws[j]? = some x → w.cell? ⟨g1, j, none⟩ = some (.string x)) (h2 : ∀ (j : Nat) x, us[j]? = some x → w.cell? ⟨g2, j, none⟩ = some (.string x)) (hw : ws.length ≤ 2000000) (hu : us.length ≤ 2000000) :
    Calls Tryz.prog 68 #[.slice (some ⟨g1, 0, none⟩) ws.length c1, .slice (some ⟨g2, 0, none⟩) us.length c2] w fun e w' => e = .returned (.int .i64 (cmpL (ws.map bl) (us.map bl))) ∧ w = w' := by
  have h1' := Lib.hid h1
  have h2' := Lib.hid h2
  clear h1 h2
  go_enter Tryz.func68, Tryz.ntmps68
  go_wp2_with fail
  go_loopg [5, 6, 7, 8, 11] ws.length (fun k _ _ _ _ u11 wr => CmpRel ws us w k u11 wr)
  case atStart => exact ⟨0, rfl, by simp, by simp, rfl, rfl⟩
  case round =>
    obtain ⟨i, rfl, hk, hiu, hc, rfl⟩ := hrel
    by_cases hi : i < ws.length
    · have x1 := h1'.out i ws[i] (List.getElem?_eq_getElem hi)
      have hd : ws.drop i = ws[i] :: ws.drop (i + 1) := List.drop_eq_getElem_cons hi
      rw [hd] at hc
      generalize ws[i] = x at *
      by_cases hj : i < us.length
      · have x2 := h2'.out i us[i] (List.getElem?_eq_getElem hj)
        have hd2 : us.drop i = us[i] :: us.drop (i + 1) := List.drop_eq_getElem_cons hj
        rw [hd2] at hc
        generalize us[i] = y at *
        simp only [List.map_cons] at hc
        rw [cmpL] at hc
        obtain ⟨cc, hcc⟩ : ∃ c, compareBytes (bl x) (bl y) = c := ⟨_, rfl⟩
        have hcm := cmpS_any x y wr
        rw [hcc] at hcm hc
        have hc' := Lib.hid hc
        clear hc hd hd2 hcc
        by_cases h0 : cc = 0
        · subst h0
          go_wp2_with fail
          refine hcm.mono ?_
          clear hcm
          rintro e _ ⟨rfl, rfl⟩
          go_wp2_with fail
          go_roundg (gk - 1)
          case measure => omega
          case rel => exact ⟨i + 1, by simp, by omega, by omega, by rw [hc'.out]; simp, rfl⟩
        · have h0' : (cc == 0) = false := by simpa using h0
          have hc2 := hc'.out
          rw [if_neg h0] at hc2
          have hc3 := Lib.hid hc2
          clear hc2 hc' h0
          go_wp2_with fail
          refine hcm.mono ?_
          clear hcm
          rintro e _ ⟨rfl, rfl⟩
          go_wp2_with fail
          go_ret
          exact ⟨by rw [hc3.out]; rfl, rfl⟩
      · have e2 : us.drop i = [] := List.drop_eq_nil_of_le (by omega)
        rw [e2] at hc
        simp only [List.map_cons, List.map_nil] at hc
        rw [cmpL] at hc
        have hc' := Lib.hid hc
        have hge : (us.length : Int) ≤ i := by omega
        clear hc hd e2
        go_wp2_with fail
        go_ret
        exact ⟨by rw [hc'.out]; rfl, rfl⟩
    · have e1 : ws.drop i = [] := List.drop_eq_nil_of_le (by omega)
      rw [e1] at hc
      obtain rfl : i = ws.length := by omega
      by_cases hlt : ws.length < us.length
      · obtain ⟨y, ys, hy⟩ : ∃ y ys, us.drop ws.length = y :: ys := by
          cases q : us.drop ws.length with
          | nil => have := List.drop_eq_nil_iff.1 q; omega
          | cons y ys => exact ⟨y, ys, rfl⟩
        rw [hy] at hc
        simp only [List.map_cons, List.map_nil] at hc
        rw [cmpL] at hc
        have hc' := Lib.hid hc
        clear hc e1 hy
        go_wp2_with fail
        go_ret
        exact ⟨by rw [hc'.out]; rfl, rfl⟩
      · have e2 : us.drop ws.length = [] := List.drop_eq_nil_of_le (by omega)
        rw [e2] at hc
        simp only [List.map_nil] at hc
        rw [cmpL] at hc
        have hc' := Lib.hid hc
        clear hc e1 e2
        go_wp2_with fail
        go_ret
        exact ⟨by rw [hc'.out]; rfl, rfl⟩
end Go.Proofs.YtnkddjomanaadaaGreatDoor.Path
end

section
namespace Go.Proofs.YtnkddjomanaadaaGreatDoor.Path
open Go.RowKit
set_option linter.unusedSimpArgs false
set_option linter.unusedVariables false

theorem wpList_cut_at {P : Program} {ops : Array Oper} {rest : List Oper} {o : Oper} {a : Act} {Q : Exit → Act → World → Prop} {L0 L G : List Part} {w0 w : World} {t e : TypeId} {i : TypeInfo} {size m0 k : Nat} {v : Value} {xs : List Value} {x hi' : Operand}
    (hg : o.guard = none) (hop : o.op = .slice t x none (some hi') none) (ht : P.underlying t = some (.slice e)) (hi : P.info? e = some i) (hsize : i.size = size) (hx : a.eval x = v) (hh : a.eval hi' = .int .i64 k)
    (h : At L0 w0 L w) (s : Sel (Part.row e size v m0 xs) L G) (hk : k ≤ m0) (hK : ∀ v', At L0 w0 (Part.row e size v' k (xs.take (k * size)) :: G) w → wpList P ops Q rest (a.put o.dst v') w) : wpList P ops Q (o :: rest) a w := by
  obtain ⟨v', hr, h1, h2⟩ := run_cut_own (P := P) ht hi hsize (h.get s : w.ownsRow 0 e size v m0 xs) k hk
  refine wpList_val hg ?_ (hK v' (h.turn s (Part.row e size v' k (xs.take (k * size))) h1 (fun b hb => .inl (by simpa [Part.row, h2] using hb)) (Exc.refl _ _)))
  simp [execOp, hop, hx, hh, hr, Result.andThen]
theorem letterB_any (c : UInt8) (w : World) : Calls Tryz.prog 148 #[.int .u8 c.toNat] w fun e w' => e = .returned (.bool (letB c)) ∧ w = w' := by
  have key : ∀ (n : Int) (b1 b2 b3 b4 b5 b6 : Bool), decide (97 ≤ n) = b1 → decide (n ≤ 122) = b2 → decide (48 ≤ n) = b3 → decide (n ≤ 57) = b4 → decide (n = 45) = b5 → decide (n = 95) = b6 →
      Calls Tryz.prog 148 #[.int .u8 n] w fun e w' => e = .returned (.bool ((b1 && b2) || (b3 && b4) || b5 || b6)) ∧ w = w' := by
    intro n b1 b2 b3 b4 b5 b6 h1 h2 h3 h4 h5 h6
    have h5' : (n == 45) = b5 := by rw [← h5]; rfl
    have h6' : (n == 95) = b6 := by rw [← h6]; rfl
    clear h5 h6
    cases b1 <;> cases b2 <;> cases b3 <;> cases b4 <;> cases b5 <;> cases b6
    all_goals first
      | (exfalso; simp at h1 h2 h3 h4 h5' h6'; omega)
      | (go_enter Tryz.func148, Tryz.ntmps148
         go_wp2
         go_ret
         exact ⟨rfl, rfl⟩)
  rw [← letR_eq]
  exact key _ _ _ _ _ _ _ rfl rfl rfl rfl rfl rfl

def TakePost (v : Value) (ws : List ByteArray) (p : ByteArray) (w : World) (e : Ending) (w' : World) : Prop :=
  ∃ (v' : Value) (us : List ByteArray), e = .returned (.tuple #[v', .int .i64 (walkRes (stepW (ws.map bl) (bl p)))]) ∧ At [rowS v ws] w [rowS v' us] w' ∧ (stepW (ws.map bl) (bl p) = some (us.map bl) ∨ stepW (ws.map bl) (bl p) = none ∧ us = []) ∧ us.length ≤ ws.length + 1
def TakeRel (v : Value) (ws : List ByteArray) (p : ByteArray) (w : World) (k : Nat) (u6 : Value) (wr : World) : Prop :=
  ∃ i : Nat, u6 = .int .i64 i ∧ i + k = p.size ∧ At [rowS v ws] w [rowS v ws] wr ∧ ((bl p).take i).all letB = true
set_option maxRecDepth 100000 in
set_option maxHeartbeats 1000000 in
theorem take_any {w : World} {v : Value} {ws : List ByteArray} (h : Sep [rowS v ws] w) (p : ByteArray) (hmax : ws.length ≤ 2000000) (hp : p.size ≤ 2000000) : Calls Tryz.prog 133 #[v, .string p] w (TakePost v ws p w) := by
  have hA := At.start h
  have hF := hA.facts
  obtain ⟨i0, hi0, hz0, hz1, hz2⟩ := info_parts infoStr
  clear h
  by_cases e0 : bl p = [] ∨ bl p = [46]
  · have hk : stepW (ws.map bl) (bl p) = some (ws.map bl) := by rcases e0 with e | e <;> rw [e] <;> first | exact step_nil | exact step_dot
    rcases e0 with e0 | e0
    · obtain rfl : p = ⟨#[]⟩ := bytes_ext e0
      have hk' := Lib.hid hk
      clear hk e0
      go_enter Tryz.func133, Tryz.ntmps133
      go_wp2_with fail
      go_ret2
      exact ⟨v, ws, by rw [hk'.out]; rfl, hA, .inl hk'.out, by omega⟩
    · obtain rfl : p = ⟨#[46]⟩ := bytes_ext e0
      have hk' := Lib.hid hk
      clear hk e0
      go_enter Tryz.func133, Tryz.ntmps133
      go_wp2_with fail
      go_ret2
      exact ⟨v, ws, by rw [hk'.out]; rfl, hA, .inl hk'.out, by omega⟩
  · by_cases e1 : bl p = [46, 46]
    · obtain rfl : p = ⟨#[46, 46]⟩ := bytes_ext e1
      clear e0
      by_cases e2 : ws = []
      · subst e2
        obtain ⟨ax, cap, rfl, hax, hcap, _⟩ := hA.row_form (v := v) (xs := flatS []) (by with_reducible repeat (first | exact Sel.here | apply Sel.there))
        clear hax hcap
        go_enter Tryz.func133, Tryz.ntmps133
        go_wp2_with fail
        go_ret2
        exact ⟨_, [], by rw [show stepW (([] : List ByteArray).map bl) (bl ⟨#[46, 46]⟩) = none from step_up0]; rfl, (hA.row_nil 9 1).pick (by repeat (first | exact Picks.nil | refine Picks.cons (by repeat (first | exact Sel.here | apply Sel.there)) ?_)), .inr ⟨step_up0, rfl⟩, by simp⟩
      · have hl : 0 < ws.length := List.length_pos_iff.2 e2
        obtain ⟨ax, kn, cap, hv0, hkn⟩ := hA.row_hid (v := v) (xs := flatS ws) (by with_reducible repeat (first | exact Sel.here | apply Sel.there))
        subst hv0
        have ek := hkn.out
        obtain rfl : kn = ws.length := ek
        have hl1 : ((ws.length : Int) == 0) = false := beq_eq_false_iff_ne.2 (by omega)
        have hl2 := Lib.hid (show ((ws.length : Int) - 1) = ((ws.length - 1 : Nat) : Int) by omega)
        have hst := Lib.hid (step_up (acc := ws.map bl) (by simpa using e2))
        clear e2
        go_enter Tryz.func133, Tryz.ntmps133
        go_wp2_with (refine wpList_cut_at (k := ws.length - 1) rfl rfl Tryz.underlying96 hi0 hz1 (by (try simp only [Act.eval, Array.getD_eq_getD_getElem?, List.getElem?_toArray, List.getElem?_cons_succ, List.getElem?_cons_zero, Option.getD_some]) <;> exact rfl) (by exact congrArg (Value.int .i64) hl2.out) hA (by with_reducible repeat (first | exact Sel.here | apply Sel.there)) (by omega) ?_; intro v1 hB; obtain ⟨ax3, n3, cap3, hv3, hn3⟩ := hB.row_hid .here; subst hv3; clear hF hA; have hA := hB; clear hB; (try simp only [setL, List.set_cons_zero, List.set_cons_succ, List.cons_append, List.nil_append] at hA); (have hF := hA.facts); (try simp only [facts_cons, facts_nil, facts_cells, facts_old, facts_fact, facts_obj, facts_map, facts_iter, facts_row, and_true, true_and] at hF))
        go_ret2
        have e3 : (flatS ws).take ((ws.length - 1) * 1) = flatS ws.dropLast := by
          unfold flatS
          rw [flat_take strC_len, List.dropLast_eq_take]
        have e4 : ws.length - 1 = ws.dropLast.length := by simp
        rw [e3, e4] at hA
        exact ⟨.slice ax3 n3 cap3, ws.dropLast, by rw [show stepW (ws.map bl) (bl ⟨#[46, 46]⟩) = _ from hst.out]; rfl, hA.pick (by with_reducible repeat (first | exact Picks.nil | refine Picks.cons (by with_reducible repeat (first | exact Sel.here | apply Sel.there)) ?_)), .inl (by rw [show stepW (ws.map bl) (bl ⟨#[46, 46]⟩) = _ from hst.out, List.map_dropLast]), by simp; omega⟩
    · have n0 : p.toList.isEmpty = false := by
        rw [Lib.toList_data]
        cases q : p.data.toList
        · exact absurd (Or.inl q) e0
        · rfl
      have n1 : (p.toList == [46]) = false := by rw [Lib.toList_data]; simpa using fun q => e0 (Or.inr q)
      have n2 : (p.toList == [46, 46]) = false := by rw [Lib.toList_data]; simpa using e1
      have hne : bl p ≠ [] := fun q => e0 (Or.inl q)
      have hno : partB (bl p) = false → stepW (ws.map bl) (bl p) = none := step_no hne (fun q => e0 (Or.inr q)) e1
      have hyes : (bl p).all letB = true → stepW (ws.map bl) (bl p) = some (ws.map bl ++ [bl p]) := fun q => step_part (partB_iff.2 ⟨hne, q⟩)
      have hno' := Lib.hid hno
      have hyes' := Lib.hid hyes
      clear hno hyes e0 e1 hne
      obtain ⟨ax, kn, cap, hv0, hkn⟩ := hA.row_hid (v := v) (xs := flatS ws) (by with_reducible repeat (first | exact Sel.here | apply Sel.there))
      subst hv0
      go_enter Tryz.func133, Tryz.ntmps133
      go_wp2_with fail
      go_loopg [6] p.size (TakeRel (.slice ax kn cap) ws p w)
      case atStart => exact ⟨0, rfl, by simp, hA, by simp⟩
      case round =>
        obtain ⟨i, rfl, hk, hB, hal⟩ := hrel
        clear hF hA
        have hA := hB
        clear hB
        have hF := hA.facts
        (try simp only [setL, List.set_cons_zero, List.set_cons_succ, List.cons_append, List.nil_append] at hA); (have hF := hA.facts); (try simp only [facts_cons, facts_nil, facts_cells, facts_old, facts_fact, facts_obj, facts_map, facts_iter, facts_row, and_true, true_and] at hF)
        by_cases hi : i < p.size
        · cases hc : letB p[i]
          · have hlt := letterB_any p[i] wr
            rw [hc] at hlt
            have hn := Lib.hid (hno'.out (all_no hi hc))
            clear hc hal
            go_wp2_with fail
            ((with_reducible refine hlt.mono ?_))
            clear hlt
            rintro e _ ⟨rfl, rfl⟩
            go_wp2_with fail
            go_ret2
            exact ⟨_, [], by rw [hn.out]; rfl, (hA.row_nil 9 1).pick (by repeat (first | exact Picks.nil | refine Picks.cons (by repeat (first | exact Sel.here | apply Sel.there)) ?_)), .inr ⟨hn.out, rfl⟩, by simp⟩
          · have hlt := letterB_any p[i] wr
            rw [hc] at hlt
            have hs := Lib.hid (all_succ hi hal hc)
            clear hc hal
            go_wp2_with fail
            ((with_reducible refine hlt.mono ?_))
            clear hlt
            rintro e _ ⟨rfl, rfl⟩
            go_wp2_with fail
            go_roundg (gk - 1)
            case measure => omega
            case rel => exact ⟨i + 1, by simp, by omega, hA, hs.out⟩
        · have hst := Lib.hid (hyes'.out (all_take hi hal))
          have hB := hA.row_nil 9 1
          clear hF hA hal
          have hA := hB
          clear hB
          have hF := hA.facts
          (try simp only [setL, List.set_cons_zero, List.set_cons_succ, List.cons_append, List.nil_append] at hA); (have hF := hA.facts); (try simp only [facts_cons, facts_nil, facts_cells, facts_old, facts_fact, facts_obj, facts_map, facts_iter, facts_row, and_true, true_and] at hF)
          have hd := Lib.hid hkn.out
          go_wp2_with (first | (refine wpList_one_at (e := 9) (vs := strC p) rfl rfl (by (try simp only [Act.eval, Array.getD_eq_getD_getElem?, List.getElem?_toArray, List.getElem?_cons_succ, List.getElem?_cons_zero, Option.getD_some]) <;> exact rfl) (fun _ => by kernel_rfl) hA ?_; intro b2 w1 hB hb2; clear hF hA; have hA := hB; clear hB; (try simp only [setL, List.set_cons_zero, List.set_cons_succ, List.cons_append, List.nil_append] at hA); (have hF := hA.facts); (try simp only [facts_cons, facts_nil, facts_cells, facts_old, facts_fact, facts_obj, facts_map, facts_iter, facts_row, and_true, true_and] at hF)) | (refine wpList_append_at (e := 9) (size := 1) (v := .slice ax3 n3 cap3) (xs := flatS ws) (n := 0 + ws.length) (m := 1) (news := strC p) rfl _ _ 96 rfl Tryz.underlying96 hi0 hz0 hz1 hz2 rfl (by omega) hA (by with_reducible repeat (first | exact Sel.here | apply Sel.there)) (by (try simp only [Act.eval, Array.getD_eq_getD_getElem?, List.getElem?_toArray, List.getElem?_cons_succ, List.getElem?_cons_zero, Option.getD_some]) <;> exact rfl) (by (try simp only [Act.eval, Array.getD_eq_getD_getElem?, List.getElem?_toArray, List.getElem?_cons_succ, List.getElem?_cons_zero, Option.getD_some]) <;> exact rfl) rfl (hA.cells_reads (by with_reducible repeat (first | exact Sel.here | apply Sel.there)) _ _) (strC_one p) (by unfold maxLen; omega) (by omega) ?_; intro v2 w1 hB; obtain ⟨ax4, n4, cap4, hv4, hn4⟩ := hB.row_hid .here; subst hv4; clear hF hA; have hA := hB; clear hB; (try simp only [setL, List.set_cons_zero, List.set_cons_succ, List.cons_append, List.nil_append] at hA); (have hF := hA.facts); (try simp only [facts_cons, facts_nil, facts_cells, facts_old, facts_fact, facts_obj, facts_map, facts_iter, facts_row, and_true, true_and] at hF)) | (refine wpList_append_at (e := 9) (size := 1) (v := .slice none 0 0) (xs := []) (n := 0) (m := ws.length) (xv := .slice ax kn cap) (news := flatS ws) rfl _ _ 96 rfl Tryz.underlying96 hi0 hz0 hz1 hz2 rfl (by omega) hA (by with_reducible repeat (first | exact Sel.here | apply Sel.there)) (by (try simp only [Act.eval, Array.getD_eq_getD_getElem?, List.getElem?_toArray, List.getElem?_cons_succ, List.getElem?_cons_zero, Option.getD_some]) <;> exact rfl) (by (try simp only [Act.eval, Array.getD_eq_getD_getElem?, List.getElem?_toArray, List.getElem?_cons_succ, List.getElem?_cons_zero, Option.getD_some]) <;> exact rfl) (flat_len _ _ strC_len _) (hA.row_reads (n := ws.length) (by with_reducible repeat (first | exact Sel.here | apply Sel.there))) (flat_one strC_one _) (by unfold maxLen; omega) (by omega) ?_; intro v1 w1 hB; obtain ⟨ax3, n3, cap3, hv3, hn3⟩ := hB.row_hid .here; subst hv3; clear hF hA; have hA := hB; clear hB; (try simp only [setL, List.set_cons_zero, List.set_cons_succ, List.cons_append, List.nil_append] at hA); (have hF := hA.facts); (try simp only [facts_cons, facts_nil, facts_cells, facts_old, facts_fact, facts_obj, facts_map, facts_iter, facts_row, and_true, true_and] at hF)))
          go_ret2
          refine ⟨.slice ax4 n4 cap4, ws ++ [p], by rw [hst.out]; rfl, ?_, .inl (by rw [hst.out]; simp), by simp⟩
          rw [show flatS ws ++ strC p = flatS (ws ++ [p]) by simp [flatS, List.flatMap_append], show 0 + ws.length + 1 = (ws ++ [p]).length by simp] at hA
          exact hA.pick (by with_reducible repeat (first | exact Picks.nil | refine Picks.cons (by with_reducible repeat (first | exact Sel.here | apply Sel.there)) ?_))
end Go.Proofs.YtnkddjomanaadaaGreatDoor.Path
end

section
namespace Go.Proofs.YtnkddjomanaadaaGreatDoor.Path
open Go.RowKit
set_option linter.unusedSimpArgs false
set_option linter.unusedVariables false

/-- what is left, behind a beginning of a part -/
def leftL (cur t : Bs) : List Bs := (cur ++ (splits t).headD []) :: (splits t).tail
theorem leftL_nil (t : Bs) : leftL [] t = splits t := by
  unfold leftL
  cases h : splits t with
  | nil => exact absurd h (splits_ne t)
  | cons a b => rfl
theorem leftL_end (cur : Bs) : leftL cur [] = [cur] := by simp [leftL, splits]
theorem leftL_slash (cur t : Bs) : leftL cur (47 :: t) = cur :: splits t := by simp [leftL, splits_cons]
theorem leftL_go (cur t : Bs) (c : UInt8) (h : c ≠ 47) : leftL cur (c :: t) = leftL (cur ++ [c]) t := by simp [leftL, splits_cons, h]
def RPartsRel (s : ByteArray) (w : World) (k : Nat) (u4 u5 u6 u7 : Value) (wr : World) : Prop :=
  ∃ (i : Nat) (v : Value) (ws : List ByteArray) (cur : ByteArray), u4 = v ∧ u5 = .string cur ∧ u6 = .int .i64 0 ∧ u7 = .int .i64 i ∧ i + k = s.size + 1 ∧ At [] w [rowS v ws] wr ∧ ws.length ≤ i ∧ cur.size ≤ i ∧
    walkL [] (splits (bl s)) = if i ≤ s.size then walkL (ws.map bl) (leftL (bl cur) ((bl s).drop i)) else some (ws.map bl)
def RPartsPost (s : ByteArray) (w : World) (e : Ending) (w' : World) : Prop :=
  ∃ (v : Value) (ws : List ByteArray), e = .returned (.tuple #[v, .int .i64 (walkRes (walkL [] (splits (bl s))))]) ∧ At [] w [rowS v ws] w' ∧ (walkL [] (splits (bl s)) = some (ws.map bl) ∨ walkL [] (splits (bl s)) = none ∧ ws = []) ∧ ws.length ≤ s.size + 1
set_option maxRecDepth 100000 in
set_option maxHeartbeats 1000000 in
theorem partsR_any (s : ByteArray) (w : World) (hs : s.size ≤ 2000000) : Calls Tryz.prog 110 #[.string s] w (RPartsPost s w) := by
  have hA := (At.start (w0 := w) (L0 := []) trivial).row_nil 9 1
  have hF := hA.facts
  go_enter Tryz.func110, Tryz.ntmps110
  go_wp2_with fail
  go_loopg [4, 5, 6, 7] (s.size + 1) (RPartsRel s w)
  case atStart => exact ⟨0, _, [], ⟨#[]⟩, rfl, rfl, rfl, rfl, by simp, hA, by simp, Nat.le_refl _, by simp [show bl ⟨#[]⟩ = [] from rfl, leftL_nil]⟩
  case round =>
    obtain ⟨i, v, ws, cur, rfl, rfl, rfl, rfl, hk, hB, hwl, hcl, hw⟩ := hrel
    clear hF hA
    have hA := hB
    clear hB
    obtain ⟨ax, kn, cap, hv0, hkn⟩ := hA.row_hid (v := u4) (xs := flatS ws) (by with_reducible repeat (first | exact Sel.here | apply Sel.there))
    subst hv0
    have hF := hA.facts
    (try simp only [setL, List.set_cons_zero, List.set_cons_succ, List.cons_append, List.nil_append] at hA); (have hF := hA.facts); (try simp only [facts_cons, facts_nil, facts_cells, facts_old, facts_fact, facts_obj, facts_map, facts_iter, facts_row, and_true, true_and] at hF)
    have hsz : (bl s).length = s.size := by simp
    by_cases hi : i < s.size
    · rw [if_pos (by omega), List.drop_eq_getElem_cons (by omega)] at hw
      by_cases hc : s[i] = 47
      · have hc' : (bl s)[i]'(by omega) = 47 := hc
        rw [hc', leftL_slash] at hw
        have hn : ((s[i].toNat : Int) != 47) = false := by rw [hc]; rfl
        have htk := take_any (hA.sep1 (A := rowS (.slice ax kn cap) ws) (by with_reducible repeat (first | exact Sel.here | apply Sel.there))) cur (by omega) (by omega)
        have hw' := Lib.hid hw
        clear hw hc hc' hsz
        go_wp2_with fail
        refine htk.mono ?_
        clear htk
        rintro e w1 ⟨v', us, rfl, hT, hres, hul⟩
        have hB := hA.call1 (by with_reducible repeat (first | exact Sel.here | apply Sel.there)) hT
        clear hF hA hT
        have hA := hB
        clear hB
        simp only [List.cons_append, List.nil_append] at hA
        obtain ⟨ax2, kn2, cap2, hv2, hkn2⟩ := hA.row_hid (v := v') (xs := flatS us) (by with_reducible repeat (first | exact Sel.here | apply Sel.there))
        subst hv2
        have hF := hA.facts
        (try simp only [setL, List.set_cons_zero, List.set_cons_succ, List.cons_append, List.nil_append] at hA); (have hF := hA.facts); (try simp only [facts_cons, facts_nil, facts_cells, facts_old, facts_fact, facts_obj, facts_map, facts_iter, facts_row, and_true, true_and] at hF)
        rcases hres with hre | ⟨hre, hus⟩
        · rw [hre]
          have hw2 := hw'.out
          rw [walkL, hre] at hw2
          simp only at hw2
          have hw3 := Lib.hid hw2
          simp only [walkRes]
          clear hw2 hw' hre
          go_wp2_with fail
          go_roundg (gk - 1)
          case measure => omega
          case rel => exact ⟨i + 1, _, us, ⟨#[]⟩, rfl, rfl, rfl, by simp, by omega, hA, by omega, Nat.zero_le _, by rw [hw3.out, if_pos (by omega), show bl ⟨#[]⟩ = [] from rfl, leftL_nil]⟩
        · rw [hre]
          have hw2 := hw'.out
          rw [walkL, hre] at hw2
          simp only at hw2
          have hw3 := Lib.hid hw2
          simp only [walkRes]
          clear hw2 hw' hre
          go_wp2_with fail
          go_ret2
          exact ⟨.slice none 0 0, [], by rw [hw3.out]; rfl, (hA.row_nil 9 1).pick (by repeat (first | exact Picks.nil | refine Picks.cons (by repeat (first | exact Sel.here | apply Sel.there)) ?_)), .inr ⟨hw3.out, rfl⟩, by simp⟩
      · have hc' : (bl s)[i]'(by omega) ≠ 47 := hc
        rw [leftL_go _ _ _ hc'] at hw
        have hn : ((s[i].toNat : Int) != 47) = true := by
          rw [bne_iff_ne]
          intro e
          apply hc
          apply UInt8.toNat_inj.1
          have : s[i].toNat = 47 := by omega
          rw [this]; rfl
        have hx : bl (cur ++ s.extract i (i + 1)) = bl cur ++ [(bl s)[i]'(by omega)] := by
          simp only [bl]
          simp
          rw [List.drop_eq_getElem_cons (by simpa using hi)]
          simp
        have hxl : (cur ++ s.extract i (i + 1)).size = cur.size + 1 := by
          have := congrArg List.length hx
          simp only [bl, List.length_append, List.length_cons, List.length_nil, Array.length_toList] at this
          exact this
        rw [← hx] at hw
        have hw' := Lib.hid hw
        have hxl' := Lib.hid hxl
        clear hw hc hc' hsz hx hxl
        go_wp2_with fail
        go_roundg (gk - 1)
        case measure => omega
        case rel => exact ⟨i + 1, _, ws, cur ++ s.extract i (i + 1), rfl, rfl, rfl, by simp, by omega, hA, by omega, by have := hxl'.out; omega, by rw [if_pos (by omega)]; exact hw'.out⟩
    · by_cases hi2 : i = s.size
      · subst hi2
        rw [if_pos (Nat.le_refl _), List.drop_eq_nil_of_le (by omega), leftL_end] at hw
        have htk := take_any (hA.sep1 (A := rowS (.slice ax kn cap) ws) (by with_reducible repeat (first | exact Sel.here | apply Sel.there))) cur (by omega) (by omega)
        have hw' := Lib.hid hw
        have hnlt : ¬ (s.size : Int) < s.size := by omega
        clear hw hsz hi
        go_wp2_with fail
        refine htk.mono ?_
        clear htk
        rintro e w1 ⟨v', us, rfl, hT, hres, hul⟩
        have hB := hA.call1 (by with_reducible repeat (first | exact Sel.here | apply Sel.there)) hT
        clear hF hA hT
        have hA := hB
        clear hB
        simp only [List.cons_append, List.nil_append] at hA
        obtain ⟨ax2, kn2, cap2, hv2, hkn2⟩ := hA.row_hid (v := v') (xs := flatS us) (by with_reducible repeat (first | exact Sel.here | apply Sel.there))
        subst hv2
        have hF := hA.facts
        (try simp only [setL, List.set_cons_zero, List.set_cons_succ, List.cons_append, List.nil_append] at hA); (have hF := hA.facts); (try simp only [facts_cons, facts_nil, facts_cells, facts_old, facts_fact, facts_obj, facts_map, facts_iter, facts_row, and_true, true_and] at hF)
        rcases hres with hre | ⟨hre, hus⟩
        · rw [hre]
          have hw2 := hw'.out
          rw [walkL, hre] at hw2
          simp only at hw2
          have hw3 := Lib.hid hw2
          simp only [walkRes]
          clear hw2 hw' hre
          go_wp2_with fail
          go_roundg (gk - 1)
          case measure => omega
          case rel => exact ⟨s.size + 1, _, us, ⟨#[]⟩, rfl, rfl, rfl, by simp, by omega, hA, by omega, Nat.zero_le _, by rw [hw3.out, if_neg (by omega), walkL]⟩
        · rw [hre]
          have hw2 := hw'.out
          rw [walkL, hre] at hw2
          simp only at hw2
          have hw3 := Lib.hid hw2
          simp only [walkRes]
          clear hw2 hw' hre
          go_wp2_with fail
          go_ret2
          exact ⟨.slice none 0 0, [], by rw [hw3.out]; rfl, (hA.row_nil 9 1).pick (by repeat (first | exact Picks.nil | refine Picks.cons (by repeat (first | exact Sel.here | apply Sel.there)) ?_)), .inr ⟨hw3.out, rfl⟩, by simp⟩
      · rw [if_neg (by omega)] at hw
        have hw' := Lib.hid hw
        have hgt : ¬ (i : Int) ≤ s.size := by omega
        clear hw hsz
        go_wp2_with fail
        go_ret2
        exact ⟨.slice ax kn cap, ws, by rw [hw'.out]; rfl, hA.pick (by with_reducible repeat (first | exact Picks.nil | refine Picks.cons (by with_reducible repeat (first | exact Sel.here | apply Sel.there)) ?_)), .inl hw'.out, by omega⟩
end Go.Proofs.YtnkddjomanaadaaGreatDoor.Path
end
