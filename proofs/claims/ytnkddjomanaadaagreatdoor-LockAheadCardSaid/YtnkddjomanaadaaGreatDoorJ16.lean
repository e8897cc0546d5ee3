/- RefR, RefS, Row3, joined. -/
import Derived.Test.YtnkddjomanaadaaGreatDoorJ15
import Derived.Test.YtnkddjomanaadaaGreatDoorJ2
section
namespace Go.Proofs.YtnkddjomanaadaaGreatDoor.Path
open Go.RowKit
set_option linter.unusedSimpArgs false
set_option linter.unusedVariables false

theorem join_snoc : ∀ (l : List Bs) (x : Bs), l ≠ [] → joinS (l ++ [x]) = joinS l ++ 47 :: x
  | [], x, h => absurd rfl h
  | [p], x, _ => by rw [List.cons_append, List.nil_append, join_cons _ _ (by simp), join_one, join_one]
  | p :: q :: r, x, _ => by
    have ih := join_snoc (q :: r) x (by simp)
    rw [List.cons_append, join_cons p ((q :: r) ++ [x]) (by simp), ih, join_cons p (q :: r) (by simp), List.append_assoc, List.cons_append]
theorem shut_S {L0 L F : List Part} {w0 w : World} {g cap : Nat} {c : List Value} {ws : List ByteArray} (h : At L0 w0 L w) (s : Sel (Part.cells g c 9) L F) (hl : c.length = cap * 1) (hn : ws.length ≤ cap) (hm : cap ≤ maxLen) (ht : c.take (ws.length * 1) = flatS ws) :
    At L0 w0 (rowS (.slice (some ⟨g, 0, none⟩) ws.length cap) ws :: F) w := h.row_shut s hl hn hm ht
def RJoinRel (w : World) (v : Value) (ws : List ByteArray) (k : Nat) (u3 u4 : Value) (wr : World) : Prop :=
  ∃ (i : Nat) (cur : ByteArray), u3 = .string cur ∧ u4 = .int .i64 i ∧ i + k = ws.length ∧ At [rowS v ws] w [rowS v ws] wr ∧ bl cur = joinS ((ws.take i).map bl) ∧ cur.size ≤ i * 2000001
def RJoinPost (w : World) (v : Value) (ws : List ByteArray) (e : Ending) (w' : World) : Prop := ∃ q : ByteArray, e = .returned (.string q) ∧ bl q = joinS (ws.map bl) ∧ At [rowS v ws] w [rowS v ws] w'
set_option maxRecDepth 100000 in
set_option maxHeartbeats 1000000 in
theorem joinR_any {w : World} {v : Value} {ws : List ByteArray} (h : Sep [rowS v ws] w) (hmax : ws.length ≤ 2000001) (hbd : ∀ x ∈ ws, x.size ≤ 2000000) : Calls Tryz.prog 111 #[v] w (RJoinPost w v ws) := by
  have hA := At.start h
  have hF := hA.facts
  clear h
  obtain ⟨ax, cap, rfl, hax, hcap, _⟩ := hA.row_form (v := v) (xs := flatS ws) (by with_reducible repeat (first | exact Sel.here | apply Sel.there))
  have hcap' := Lib.hid hcap
  have hbd' := Lib.hid hbd
  clear hbd
  clear hax hcap
  go_enter Tryz.func111, Tryz.ntmps111
  go_wp2_with fail
  go_loopg [3, 4] ws.length (RJoinRel w (.slice ax ws.length cap) ws)
  case atStart => exact ⟨0, ⟨#[]⟩, rfl, rfl, by simp, hA, rfl, Nat.zero_le _⟩
  case round =>
    obtain ⟨i, cur, rfl, rfl, hk, hB, hj, hcs⟩ := hrel
    clear hF hA
    have hA := hB
    clear hB
    by_cases hi : i < ws.length
    · obtain ⟨g, c, rfl, _, hcm, hcl, hct, hB⟩ := hA.row_open (ax := ax) (cap := cap) (n := ws.length) (xs := flatS ws) (by with_reducible repeat (first | exact Sel.here | apply Sel.there)) (by omega)
      have c0 : c[i]? = some (.string ws[i]) := flatS_at hct (List.getElem?_eq_getElem hi)
      have hxs : ws[i].size ≤ 2000000 := hbd'.out _ (List.getElem_mem hi)
      have hcs2 : cur.size ≤ 8000000000000 := by omega
      have hsz1 : (cur ++ (⟨#[47]⟩ : ByteArray) ++ ws[i]).size = cur.size + 1 + ws[i].size := by rw [ByteArray.size_append, ByteArray.size_append]; rfl
      have hsz2 : Hid ((cur ++ (⟨#[47]⟩ : ByteArray) ++ ws[i]).size ≤ (i + 1) * 2000001) := Lib.hid (by rw [hsz1, Nat.add_mul]; omega)
      clear hsz1
      have ht : ws.take (i + 1) = ws.take i ++ [ws[i]] := List.take_succ_eq_append_getElem hi
      have ht' := Lib.hid ht
      have hj' := Lib.hid hj
      have hct' := Lib.hid hct
      have hcl' := Lib.hid hcl
      clear hA ht hj hct hcl
      have hA := hB
      clear hB
      have hF := hA.facts
      (try simp only [setL, List.set_cons_zero, List.set_cons_succ, List.cons_append, List.nil_append] at hA); (have hF := hA.facts); (try simp only [facts_cons, facts_nil, facts_cells, facts_old, facts_fact, facts_obj, facts_map, facts_iter, facts_row, and_true, true_and] at hF)
      by_cases h0 : i = 0
      · subst h0
        go_wp2_with fail
        go_roundg (gk - 1)
        case measure => omega
        case rel => exact ⟨1, _, rfl, rfl, by omega, (shut_S hA (by with_reducible repeat (first | exact Sel.here | apply Sel.there)) hcl'.out hcap'.out hcm hct'.out).pick (by with_reducible repeat (first | exact Picks.nil | refine Picks.cons (by with_reducible repeat (first | exact Sel.here | apply Sel.there)) ?_)), by rw [show bl (cur ++ ws[0]) = bl cur ++ bl ws[0] by simp [bl], hj'.out, ht'.out]; simp [join_one]; simp [joinS, Lib.join], by simp; omega⟩
      · have hpos : 0 < i := by omega
        go_wp2_with fail
        go_roundg (gk - 1)
        case measure => omega
        case rel => exact ⟨i + 1, _, rfl, by simp, by omega, (shut_S hA (by with_reducible repeat (first | exact Sel.here | apply Sel.there)) hcl'.out hcap'.out hcm hct'.out).pick (by with_reducible repeat (first | exact Picks.nil | refine Picks.cons (by with_reducible repeat (first | exact Sel.here | apply Sel.there)) ?_)), by rw [show bl (cur ++ ⟨#[47]⟩ ++ ws[i]) = bl cur ++ 47 :: bl ws[i] by simp [bl], hj'.out, ht'.out, List.map_append, List.map_cons, List.map_nil, join_snoc _ _ (by intro e; have := congrArg List.length e; rw [List.length_map, List.length_take, List.length_nil] at this; omega)], hsz2.out⟩
    · have hj' := Lib.hid hj
      clear hj
      have hF := hA.facts
      (try simp only [setL, List.set_cons_zero, List.set_cons_succ, List.cons_append, List.nil_append] at hA); (have hF := hA.facts); (try simp only [facts_cons, facts_nil, facts_cells, facts_old, facts_fact, facts_obj, facts_map, facts_iter, facts_row, and_true, true_and] at hF)
      go_wp2_with fail
      go_ret
      exact ⟨cur, rfl, by rw [hj'.out, List.take_of_length_le (by omega)], hA⟩

def RNormPost (s : ByteArray) (w : World) (e : Ending) (w' : World) : Prop :=
  ∃ q : ByteArray, e = .returned (.tuple #[.string q, .int .i64 (normL (bl s)).2]) ∧ bl q = (normL (bl s)).1 ∧ Ext w w'
set_option maxRecDepth 100000 in
set_option maxHeartbeats 1000000 in
theorem normalR_any (s : ByteArray) (w : World) (hs : s.size ≤ 2000000) : Calls Tryz.prog 84 #[.string s] w (RNormPost s w) := by
  have hA := At.start (w0 := w) (L0 := []) trivial
  have hF := hA.facts
  go_enter Tryz.func84, Tryz.ntmps84
  go_wp2_with fail
  refine (partsR_any s w (by omega)).mono ?_
  rintro e w1 ⟨v, ws, rfl, hT, hres, hlen⟩
  have hB := hA.call0 hT
  clear hF hA hT
  have hA := hB
  clear hB
  simp only [List.append_nil] at hA
  obtain ⟨ax, cap, hv, hax0, hcap0, _⟩ := hA.row_form (v := v) (n := ws.length) (xs := flatS ws) (by with_reducible repeat (first | exact Sel.here | apply Sel.there))
  subst hv
  clear hax0 hcap0
  have hn : normL (bl s) = (match walkL [] (splits (bl s)) with
    | none => ([], 30)
    | some l => if l = [] then ([], 13) else if 8 < l.length then ([], 31) else if 64 < (joinS l).length then ([], 11) else (joinS l, 0)) := rfl
  rcases hres with hre | ⟨hre, hw0⟩
  · rw [hre] at hn
    simp only at hn
    have hbd : ∀ x ∈ ws, x.size ≤ 2000000 := fun x hx => by
      have h1 : bl x ∈ splits (bl s) := by
        rcases walk_mem hre (bl x) (List.mem_map.2 ⟨x, hx, rfl⟩) with h | h
        · simp at h
        · exact h
      have h2 := splits_mem_len (bl s) _ h1
      have h3 : (bl x).length = x.size := by simp
      have h4 : (bl s).length = s.size := by simp
      omega
    rw [hre]
    simp only [walkRes]
    simp only [List.length_map] at hn
    by_cases e1 : ws = []
    · subst e1
      simp only [List.map_nil, if_pos] at hn
      have hn' := Lib.hid hn
      clear hn hre hlen hbd
      (try simp only [setL, List.set_cons_zero, List.set_cons_succ, List.cons_append, List.nil_append] at hA); (have hF := hA.facts); (try simp only [facts_cons, facts_nil, facts_cells, facts_old, facts_fact, facts_obj, facts_map, facts_iter, facts_row, and_true, true_and] at hF)
      go_wp2_with fail
      go_ret2
      exact ⟨⟨#[]⟩, by rw [hn'.out]; rfl, by rw [hn'.out], hA.toExt⟩
    · rw [if_neg (by simpa using e1)] at hn
      have hl0 : ((ws.length : Int) == 0) = false := by simpa using e1
      by_cases e2 : 8 < ws.length
      · rw [if_pos e2] at hn
        have hn' := Lib.hid hn
        clear hn hre hlen hbd e1
        (try simp only [setL, List.set_cons_zero, List.set_cons_succ, List.cons_append, List.nil_append] at hA); (have hF := hA.facts); (try simp only [facts_cons, facts_nil, facts_cells, facts_old, facts_fact, facts_obj, facts_map, facts_iter, facts_row, and_true, true_and] at hF)
        go_wp2_with fail
        go_ret2
        exact ⟨⟨#[]⟩, by rw [hn'.out]; rfl, by rw [hn'.out], hA.toExt⟩
      · rw [if_neg e2] at hn
        have hj1 := joinR_any (hA.sep1 (A := rowS (.slice ax ws.length cap) ws) (by with_reducible repeat (first | exact Sel.here | apply Sel.there))) (by omega) hbd
        have hn' := Lib.hid hn
        have hbd' := Lib.hid hbd
        clear hn hre hlen e1 hbd
        have hF := hA.facts
        (try simp only [setL, List.set_cons_zero, List.set_cons_succ, List.cons_append, List.nil_append] at hA); (have hF := hA.facts); (try simp only [facts_cons, facts_nil, facts_cells, facts_old, facts_fact, facts_obj, facts_map, facts_iter, facts_row, and_true, true_and] at hF)
        go_wp2_with fail
        refine hj1.mono ?_
        clear hj1
        rintro e w2 ⟨q, rfl, hq, hT⟩
        have hB := hA.call1 (by with_reducible repeat (first | exact Sel.here | apply Sel.there)) hT
        clear hF hA hT
        have hA := hB
        clear hB
        simp only [List.cons_append, List.nil_append] at hA
        have hjs : (joinS (ws.map bl)).length = q.size := by rw [← hq]; simp
        have hn2 := hn'.out
        rw [hjs] at hn2
        have hq' := Lib.hid hq
        clear hn' hjs hq
        have hF := hA.facts
        (try simp only [setL, List.set_cons_zero, List.set_cons_succ, List.cons_append, List.nil_append] at hA); (have hF := hA.facts); (try simp only [facts_cons, facts_nil, facts_cells, facts_old, facts_fact, facts_obj, facts_map, facts_iter, facts_row, and_true, true_and] at hF)
        by_cases e3 : 64 < q.size
        · rw [if_pos e3] at hn2
          have hn3 := Lib.hid hn2
          clear hn2
          go_wp2_with fail
          go_ret2
          exact ⟨⟨#[]⟩, by rw [hn3.out]; rfl, by rw [hn3.out], hA.toExt⟩
        · rw [if_neg e3] at hn2
          have hn3 := Lib.hid hn2
          have hj2 := joinR_any (hA.sep1 (A := rowS (.slice ax ws.length cap) ws) (by with_reducible repeat (first | exact Sel.here | apply Sel.there))) (by omega) hbd'.out
          clear hn2
          go_wp2_with fail
          refine hj2.mono ?_
          clear hj2
          rintro e w3 ⟨q2, rfl, hq2, hT⟩
          have hB := hA.call1 (by with_reducible repeat (first | exact Sel.here | apply Sel.there)) hT
          clear hF hA hT
          go_wp2_with fail
          go_ret2
          exact ⟨q2, by rw [hn3.out]; rfl, by rw [hn3.out]; exact hq2, hB.toExt⟩
  · rw [hre] at hn
    simp only at hn
    subst hw0
    rw [hre]
    simp only [walkRes]
    have hn' := Lib.hid hn
    clear hn hre hlen
    (try simp only [setL, List.set_cons_zero, List.set_cons_succ, List.cons_append, List.nil_append] at hA); (have hF := hA.facts); (try simp only [facts_cons, facts_nil, facts_cells, facts_old, facts_fact, facts_obj, facts_map, facts_iter, facts_row, and_true, true_and] at hF)
    go_wp2_with fail
    go_ret2
    exact ⟨⟨#[]⟩, by rw [hn'.out]; rfl, by rw [hn'.out], hA.toExt⟩
set_option maxRecDepth 100000 in
theorem rightR_any (s : ByteArray) (w : World) (hs : s.size ≤ 2000000) : Calls Tryz.prog 58 #[.string s] w fun e w' => e = .returned (.bool (rightB (bl s))) ∧ Ext w w' := by
  have hr := right_norm (bl s)
  go_enter Tryz.func58, Tryz.ntmps58
  go_wp2_with fail
  refine (normalR_any s w hs).mono ?_
  rintro e w1 ⟨q, rfl, hq, hx⟩
  rw [← hq] at hr
  have heq := eqB q s
  obtain ⟨n2, hn2⟩ : ∃ n, (normL (bl s)).2 = n := ⟨_, rfl⟩
  rw [hn2] at hr ⊢
  clear hn2 hq
  by_cases h0 : n2 = 0
  · subst h0
    by_cases h1 : bl q = bl s
    · have hb : rightB (bl s) = true := hr.1 ⟨rfl, h1⟩
      rw [decide_eq_true h1] at heq
      have hb' := Lib.hid hb
      clear hb hr h1
      go_wp2_with fail
      go_ret
      exact ⟨by rw [hb'.out]; rfl, hx⟩
    · have hb : rightB (bl s) = false := by
        cases hb : rightB (bl s)
        · rfl
        · exact absurd (hr.2 hb).2 h1
      rw [decide_eq_false h1] at heq
      have hb' := Lib.hid hb
      clear hb hr h1
      go_wp2_with fail
      go_ret
      exact ⟨by rw [hb'.out]; rfl, hx⟩
  · have hb : rightB (bl s) = false := by
      cases hb : rightB (bl s)
      · rfl
      · exact absurd (hr.2 hb).1 h0
    have hb' := Lib.hid hb
    have h0' : (n2 == 0) = false := by simpa using h0
    clear hb hr h0 heq
    go_wp2_with fail
    go_ret
    exact ⟨by rw [hb'.out]; rfl, hx⟩
end Go.Proofs.YtnkddjomanaadaaGreatDoor.Path
end

section
namespace Go.Proofs.YtnkddjomanaadaaGreatDoor.Path
open Go.RowKit
set_option linter.unusedSimpArgs false
set_option linter.unusedVariables false

theorem partsR_right {s : ByteArray} (w : World) (hs : s.size ≤ 2000000) (hr : rightB (bl s) = true) : Calls Tryz.prog 110 #[.string s] w fun e w' => ∃ (v : Value) (ws : List ByteArray), e = .returned (.tuple #[v, .int .i64 0]) ∧ At [] w [rowS v ws] w' ∧ splits (bl s) = ws.map bl :=
  (partsR_any s w hs).mono fun e w' ⟨v, ws, he, hT, hres, hl⟩ => by
    have h1 := parts_right hr
    rcases hres with h | ⟨h, _⟩
    · rw [h1] at h
      rw [h1] at he
      exact ⟨v, ws, he, hT, Option.some.inj h⟩
    · rw [h1] at h; cases h
theorem rightR_is {s : ByteArray} {b : Bool} (w : World) (hs : s.size ≤ 2000000) (hb : rightB (bl s) = b) : Calls Tryz.prog 58 #[.string s] w fun e w' => e = .returned (.bool b) ∧ Ext w w' := hb ▸ rightR_any s w hs
def RPartsP (s : ByteArray) (w : World) (e : Ending) (w' : World) : Prop := ∃ (v : Value) (ws : List ByteArray), e = .returned (.tuple #[v, .int .i64 0]) ∧ At [] w [rowS v ws] w' ∧ splits (bl s) = ws.map bl
def AboveRel (w : World) (g1 g2 : Nat) (c1 c2 : List Value) (ws us : List ByteArray) (k : Nat) (u9 : Value) (wr : World) : Prop :=
  ∃ i : Nat, u9 = .int .i64 i ∧ i + k = ws.length ∧ At [] w [Part.cells g1 c1 9, Part.cells g2 c2 9] wr ∧ ∀ j, j < i → (us.map bl)[j]? = (ws.map bl)[j]?
set_option maxRecDepth 100000 in
set_option maxHeartbeats 1000000 in
theorem aboveR_any (p q : ByteArray) (w : World) (hp : p.size ≤ 2000000) (hq : q.size ≤ 2000000) : Calls Tryz.prog 85 #[.string p, .string q] w fun e w' => e = .returned (.bool (aboveB (bl p) (bl q))) ∧ Ext w w' := by
  have hA := At.start (w0 := w) (L0 := []) trivial
  have hF := hA.facts
  cases h1 : rightB (bl p)
  · have hb := Lib.hid (show aboveB (bl p) (bl q) = false by simp [aboveB, h1])
    go_enter Tryz.func85, Tryz.ntmps85
    go_wp2_with fail
    refine (rightR_is w hp h1).mono ?_
    rintro e w1 ⟨rfl, hx⟩
    go_wp2_with fail
    go_ret
    exact ⟨by rw [hb.out]; rfl, hx⟩
  · cases h2 : rightB (bl q)
    · have hb := Lib.hid (show aboveB (bl p) (bl q) = false by simp [aboveB, h1, h2])
      go_enter Tryz.func85, Tryz.ntmps85
      go_wp2_with fail
      refine (rightR_is w hp h1).mono ?_
      rintro e w1 ⟨rfl, hx⟩
      go_wp2_with fail
      refine (rightR_is w1 hq h2).mono ?_
      rintro e w2 ⟨rfl, hx2⟩
      go_wp2_with fail
      go_ret
      exact ⟨by rw [hb.out]; rfl, hx.trans hx2⟩
    · have hab : aboveB (bl p) (bl q) = decide (splits (bl p) <+: splits (bl q)) := by rw [aboveB_parts, h1, h2]; simp
      have hq2 : ∀ w, Calls Tryz.prog 110 #[.string q] w (RPartsP q w) := fun w => partsR_right w (by omega) h2
      have hp2 : ∀ w, Calls Tryz.prog 110 #[.string p] w (RPartsP p w) := fun w => partsR_right w (by omega) h1
      go_enter Tryz.func85, Tryz.ntmps85
      go_wp2_with fail
      refine (rightR_is w hp h1).mono ?_
      rintro e w1 ⟨rfl, hx⟩
      go_wp2_with fail
      refine (rightR_is w1 hq h2).mono ?_
      rintro e w2 ⟨rfl, hx2⟩
      have hB := (hA.ext hx).ext hx2
      clear hF hA hx hx2
      have hA := hB
      clear hB
      go_wp2_with fail
      refine (hp2 w2).mono ?_
      clear hp2
      rintro e w3 ⟨v, ws, rfl, hT, hws⟩
      have hB := hA.call0 hT
      clear hA hT
      have hA := hB
      clear hB
      simp only [List.append_nil] at hA
      go_wp2_with fail
      refine (hq2 w3).mono ?_
      clear hq2
      rintro e w4 ⟨u, us, rfl, hT, hus⟩
      have hB := hA.call0 hT
      clear hA hT
      have hA := hB
      clear hB
      simp only [List.cons_append, List.nil_append] at hA
      have n1 := splits_len (bl p)
      have n2 := splits_len (bl q)
      have m1 := splits_len_le (bl p)
      have m2 := splits_len_le (bl q)
      rw [hws] at hab n1 m1
      rw [hus] at hab n2 m2
      simp only [List.length_map] at n1 n2 m1 m2
      have z1 : (bl p).length = p.size := by simp
      have z2 : (bl q).length = q.size := by simp
      rw [z1] at m1
      rw [z2] at m2
      clear hws hus h1 h2 z1 z2
      obtain ⟨ax, cap, rfl, _, _, _⟩ := hA.row_form (v := v) (n := ws.length) (xs := flatS ws) (by with_reducible repeat (first | exact Sel.here | apply Sel.there))
      obtain ⟨bx, cbp, rfl, _, _, _⟩ := hA.row_form (v := u) (n := us.length) (xs := flatS us) (by with_reducible repeat (first | exact Sel.here | apply Sel.there))
      obtain ⟨g1, c1, rfl, _, _, hcl1, hct1, hB⟩ := hA.row_open (ax := ax) (cap := cap) (n := ws.length) (xs := flatS ws) (by with_reducible repeat (first | exact Sel.here | apply Sel.there)) (by omega)
      obtain ⟨g2, c2, rfl, _, _, hcl2, hct2, hB2⟩ := hB.row_open (ax := bx) (cap := cbp) (n := us.length) (xs := flatS us) (by with_reducible repeat (first | exact Sel.here | apply Sel.there)) (by omega)
      have x1 := Lib.hid (fun (j : Nat) (x : ByteArray) (hx : ws[j]? = some x) => flatS_at hct1 hx)
      have x2 := Lib.hid (fun (j : Nat) (x : ByteArray) (hx : us[j]? = some x) => flatS_at hct2 hx)
      clear hA hB hct1 hct2 hcl1 hcl2
      have hA := hB2
      clear hB2
      have hab' := Lib.hid hab
      clear hab
      have hF := hA.facts
      (try simp only [setL, List.set_cons_zero, List.set_cons_succ, List.cons_append, List.nil_append] at hA); (have hF := hA.facts); (try simp only [facts_cons, facts_nil, facts_cells, facts_old, facts_fact, facts_obj, facts_map, facts_iter, facts_row, and_true, true_and] at hF)
      by_cases hl : us.length < ws.length
      · have hb : aboveB (bl p) (bl q) = false := by
          rw [hab'.out, decide_eq_false_iff_not]
          intro h
          have := h.length_le
          simp at this
          omega
        have hb' := Lib.hid hb
        clear hb
        go_wp2_with fail
        go_ret
        exact ⟨by rw [hb'.out]; rfl, hA.toExt⟩
      · go_wp2_with fail
        go_loopg [9] ws.length (AboveRel w g1 g2 c1 c2 ws us)
        case atStart => exact ⟨0, rfl, by simp, hA.pick (by with_reducible repeat (first | exact Picks.nil | refine Picks.cons (by with_reducible repeat (first | exact Sel.here | apply Sel.there)) ?_)), nofun⟩
        case round =>
          obtain ⟨i, rfl, hk, hB, heq⟩ := hrel
          clear hF hA
          have hA := hB
          clear hB
          by_cases hi : i < ws.length
          · have hj : i < us.length := by omega
            have c1i : c1[i]? = some (.string ws[i]) := x1.out i _ (List.getElem?_eq_getElem hi)
            have c2i : c2[i]? = some (.string us[i]) := x2.out i _ (List.getElem?_eq_getElem hj)
            have hw1 : (ws.map bl)[i]? = some (bl ws[i]) := by simp [hi]
            have hw2 : (us.map bl)[i]? = some (bl us[i]) := by simp [hj]
            generalize ws[i] = x at *
            generalize us[i] = y at *
            have hxy := eqB x y
            have heq' := Lib.hid heq
            have hF := hA.facts
            (try simp only [setL, List.set_cons_zero, List.set_cons_succ, List.cons_append, List.nil_append] at hA); (have hF := hA.facts); (try simp only [facts_cons, facts_nil, facts_cells, facts_old, facts_fact, facts_obj, facts_map, facts_iter, facts_row, and_true, true_and] at hF)
            by_cases hc : bl x = bl y
            · rw [decide_eq_true hc] at hxy
              have hc' := Lib.hid hc
              have hw1' := Lib.hid hw1
              have hw2' := Lib.hid hw2
              clear hc hw1 hw2 heq
              go_wp2_with fail
              (refine wp_region_all (Cl _ _ _) (by kernel_rfl) (by kernel_rfl) (Cl.drew hA) ?_); (have hn1 := Cl.none hA); (have hn2 := Cl.none2 hA); (repeat (first | go_big_quiet_skip | (go_big_quiet_want; (first | (refine quiet_load_at rfl rfl (by with_reducible repeat (first | exact Sel.here | apply Sel.there)) (by kernel_rfl) (by first | assumption | exact rfl) ?_; go_frame; go_big_quiet_on) | (go_big_quiet_op; (first | go_big_quiet_on))))))
              (refine wpQuiet_nil ?_); (intro w1 hB); (clear hF hA hn1 hn2); (have hA := Cl.out hB); (clear hB); (try simp only [setL, List.set_cons_zero, List.set_cons_succ, List.cons_append, List.nil_append] at hA); (have hF := hA.facts); (try simp only [facts_cons, facts_nil, facts_cells, facts_old, facts_fact, facts_obj, facts_map, facts_iter, facts_row, and_true, true_and] at hF)
              go_wp2_with fail
              go_roundg (gk - 1)
              case measure => omega
              case rel =>
                refine ⟨i + 1, by simp, by omega, hA, fun j hj => ?_⟩
                by_cases e : j = i
                · subst e; rw [hw1'.out, hw2'.out, hc'.out]
                · exact heq'.out j (by omega)
            · rw [decide_eq_false hc] at hxy
              have hb : aboveB (bl p) (bl q) = false := by
                rw [hab'.out, decide_eq_false_iff_not]
                intro h
                have h3 := List.prefix_iff_getElem?.1 h i (by simpa using hi)
                rw [hw2] at h3
                have h4 := List.getElem?_eq_some_iff.1 hw1
                obtain ⟨_, h4⟩ := h4
                rw [h4] at h3
                exact hc (Option.some.inj h3).symm
              have hb' := Lib.hid hb
              clear hc hw1 hw2 heq hb
              go_wp2_with fail
              (refine wp_region_all (Cl _ _ _) (by kernel_rfl) (by kernel_rfl) (Cl.drew hA) ?_); (have hn1 := Cl.none hA); (have hn2 := Cl.none2 hA); (repeat (first | go_big_quiet_skip | (go_big_quiet_want; (first | (refine quiet_load_at rfl rfl (by with_reducible repeat (first | exact Sel.here | apply Sel.there)) (by kernel_rfl) (by first | assumption | exact rfl) ?_; go_frame; go_big_quiet_on) | (go_big_quiet_op; (first | go_big_quiet_on))))))
              (refine wpQuiet_nil ?_); (intro w1 hB); (clear hF hA hn1 hn2); (have hA := Cl.out hB); (clear hB); (try simp only [setL, List.set_cons_zero, List.set_cons_succ, List.cons_append, List.nil_append] at hA); (have hF := hA.facts); (try simp only [facts_cons, facts_nil, facts_cells, facts_old, facts_fact, facts_obj, facts_map, facts_iter, facts_row, and_true, true_and] at hF)
              go_wp2_with fail
              go_ret
              exact ⟨by rw [hb'.out]; rfl, hA.toExt⟩
          · have hb : aboveB (bl p) (bl q) = true := by
              rw [hab'.out, decide_eq_true_eq]
              refine List.prefix_iff_getElem?.2 fun j hj => ?_
              rw [heq j (by simp at hj; omega)]
              exact List.getElem?_eq_getElem hj
            have hb' := Lib.hid hb
            clear hb heq
            have hF := hA.facts
            (try simp only [setL, List.set_cons_zero, List.set_cons_succ, List.cons_append, List.nil_append] at hA); (have hF := hA.facts); (try simp only [facts_cons, facts_nil, facts_cells, facts_old, facts_fact, facts_obj, facts_map, facts_iter, facts_row, and_true, true_and] at hF)
            go_wp2_with fail
            go_ret
            exact ⟨by rw [hb'.out]; rfl, hA.toExt⟩
set_option maxRecDepth 100000 in
theorem overlapR_any (p q : ByteArray) (w : World) (hp : p.size ≤ 2000000) (hq : q.size ≤ 2000000) : Calls Tryz.prog 59 #[.string p, .string q] w fun e w' => e = .returned (.bool (overB (bl p) (bl q))) ∧ Ext w w' := by
  have h1 := aboveR_any p q w hp hq
  have h2 := fun w => aboveR_any q p w hq hp
  have ho : overB (bl p) (bl q) = (aboveB (bl p) (bl q) || aboveB (bl q) (bl p)) := rfl
  rw [ho]
  clear ho
  generalize aboveB (bl p) (bl q) = b1 at *
  generalize aboveB (bl q) (bl p) = b2 at *
  cases b1
  · go_enter Tryz.func59, Tryz.ntmps59
    go_wp2_with fail
    refine h1.mono ?_
    clear h1
    rintro e w1 ⟨rfl, hx⟩
    go_wp2_with fail
    refine (h2 w1).mono ?_
    clear h2
    rintro e w2 ⟨rfl, hx2⟩
    cases b2
    all_goals
      go_wp2_with fail
      go_ret
      exact ⟨rfl, hx.trans hx2⟩
  · go_enter Tryz.func59, Tryz.ntmps59
    go_wp2_with fail
    refine h1.mono ?_
    clear h1
    rintro e w1 ⟨rfl, hx⟩
    go_wp2_with fail
    go_ret
    exact ⟨rfl, hx⟩
end Go.Proofs.YtnkddjomanaadaaGreatDoor.Path
end

section
namespace Go.Proofs.YtnkddjomanaadaaGreatDoor
open Go.RowKit
set_option linter.unusedVariables false
set_option linter.unnecessarySimpa false
set_option linter.unusedSimpArgs false

theorem setL_mid : ∀ (vs p q r : List Value), q.length = vs.length → setL (p ++ (q ++ r)) p.length vs = p ++ (vs ++ r)
  | [], p, q, r, h => by
    have : q = [] := List.eq_nil_of_length_eq_zero (by simpa using h)
    subst this
    rfl
  | v :: vs, p, [], r, h => by simp at h
  | v :: vs, p, y :: q, r, h => by
    rw [setL]
    have e : (p ++ (y :: q ++ r)).set p.length v = (p ++ [v]) ++ (q ++ r) := by
      rw [List.set_append_right _ _ (Nat.le_refl _)]
      simp
    have := setL_mid vs (p ++ [v]) q r (by simpa using h)
    rw [List.length_append] at this
    rw [e]
    simp only [List.length_cons, List.length_nil, Nat.zero_add] at this
    rw [this]
    simp
theorem flat_set {α : Type} (enc : α → List Value) (size : Nat) (hs : ∀ x, (enc x).length = size) (l : List α) (i : Nat) (hi : i < l.length) (x : α) : setL (l.flatMap enc) (i * size) (enc x) = (l.set i x).flatMap enc := by
  have e1 : l = l.take i ++ l[i] :: l.drop (i + 1) := by rw [← List.drop_eq_getElem_cons hi, List.take_append_drop]
  have hl : (l.take i).length = i := by rw [List.length_take]; omega
  have e2 : l.set i x = l.take i ++ x :: l.drop (i + 1) := by
    rw [List.set_eq_take_append_cons_drop, if_pos hi]
  have e3 : l.flatMap enc = (l.take i).flatMap enc ++ (enc l[i] ++ (l.drop (i + 1)).flatMap enc) := by
    have := congrArg (fun m => m.flatMap enc) e1
    simp only [List.flatMap_append, List.flatMap_cons] at this
    exact this
  have hf : ((l.take i).flatMap enc).length = i * size := by rw [flat_len enc size hs, hl]
  rw [e2, e3, ← hf, setL_mid _ _ _ _ (by rw [hs, hs])]
  simp
theorem take_setL : ∀ (vs c : List Value) (o m : Nat), (setL c o vs).take m = setL (c.take m) o vs
  | [], _, _, _ => rfl
  | v :: vs, c, o, m => by rw [setL, setL, take_setL vs, List.take_set]
theorem take_setL_low : ∀ (vs c : List Value) (o m : Nat), m ≤ o → (setL c o vs).take m = c.take m
  | [], _, _, _, _ => rfl
  | v :: vs, c, o, m, h => by rw [setL, take_setL_low vs _ _ _ (by omega), List.take_set_of_le h]
/-- an element is written -/
theorem write_row {α : Type} {enc : α → List Value} {size : Nat} (hs : ∀ x, (enc x).length = size) {c : List Value} {l : List α} (ht : c.take (l.length * size) = l.flatMap enc) {i : Nat} (hi : i < l.length) (x : α) :
    (setL c (i * size) (enc x)).take ((l.set i x).length * size) = (l.set i x).flatMap enc := by
  rw [List.length_set, take_setL, ht, flat_set enc size hs l i hi]

section
variable {P : Program} {ops : Array Oper} {rest : List Oper} {o : Oper} {a : Act} {Q : Exit → Act → World → Prop} {L0 L F : List Part} {w0 w : World} {e : TypeId}
theorem run_clear_many (w : World) (t e ty : TypeId) (z : Value) (ht : P.underlying t = some (.slice e)) (hv : ∀ w, (zeroValue e).run P w = .ok z w) (m : Nat) (hm : 0 < m) (h1 : ∀ v ∈ (Builtin.zeroCells z.cells m).toList, v.oneCell' = true) (b o c : Nat)
    (hc : ∀ j, j < m * z.cells.size → (w.cell? ⟨b, o + j, none⟩).isSome = true) (hf : ∀ j, j < m * z.cells.size → w.frozen? ⟨b, o + j, none⟩ = false) :
    (Builtin.clear_ #[t] ty #[.slice (some ⟨b, o, none⟩) m c]).run P w = .ok (.tuple #[]) (w.setCells b o (Builtin.zeroCells z.cells m).toList) := by
  have hl : (Builtin.zeroCells z.cells m).toList.length = m * z.cells.size := by simp [Builtin.zeroCells]
  have hst := run_storeCells_cells (P := P) b o (Builtin.zeroCells z.cells m).toList 0 w (by intro j hj; simpa using hc j (by omega)) (by intro j hj; simpa using hf j (by omega)) h1
  simp only [Nat.add_zero] at hst
  obtain ⟨m, rfl⟩ : ∃ m', m = m' + 1 := ⟨m - 1, by omega⟩
  simp [Builtin.clear_, run_underlying ht, hv, hst]
theorem zero_ones (z : Value) (h : ∀ u ∈ z.cells.toList, u.oneCell' = true) (h0 : 0 < z.cells.size) (m : Nat) : ∀ v ∈ (Builtin.zeroCells z.cells m).toList, v.oneCell' = true := by
  intro v hv
  simp only [Builtin.zeroCells, Array.toList_map, List.mem_map] at hv
  obtain ⟨j, _, rfl⟩ := hv
  have hj : j % z.cells.size < z.cells.size := Nat.mod_lt _ h0
  rw [getElem!_pos z.cells (j % z.cells.size) hj]
  exact h _ (by rw [Array.mem_toList_iff]; exact Array.getElem_mem hj)
/-- the end of a row is cleared -/
theorem wpList_clear_at {t : TypeId} {x : Operand} {z : Value} {b off m cp : Nat} {c : List Value} {T : TypeId} (hg : o.guard = none) (hop : o.op = .call { callee := .builtin .clear, args := #[x], argTypes := #[t] }) (ht : P.underlying t = some (.slice e)) (hv : ∀ w, (zeroValue e).run P w = .ok z w)
    (h1 : ∀ u ∈ z.cells.toList, u.oneCell' = true) (h0 : 0 < z.cells.size) (hx : a.eval x = .slice (some ⟨b, off, none⟩) m cp) (hm : 0 < m) (h : At L0 w0 L w) (s : Sel (Part.cells b c T) L F) (hl : off + m * z.cells.size ≤ c.length)
    (hK : ∀ c' w', c'.length = c.length → c'.take off = c.take off → At L0 w0 (Part.cells b c' T :: F) w' → wpList P ops Q rest (a.put o.dst (.tuple #[])) w') : wpList P ops Q (o :: rest) a w := by
  have hb : BlockIs w b c T := h.get s
  have hrun := run_clear_many (P := P) w t e o.type z ht hv m hm (zero_ones z h1 h0 m) b off cp (fun j hj => by rw [hb.cell, List.getElem?_eq_getElem (by omega)]; rfl) (fun j hj => hb.free _)
  refine wpList_val hg ?_ (hK _ _ (setL_length _ _ _) (take_setL_low _ _ _ _ (Nat.le_refl _)) (h.stores s off (Builtin.zeroCells z.cells m).toList))
  simp [execOp, hop, resolve, invoke, builtin, hx, hrun, Result.andThen]
end
end Go.Proofs.YtnkddjomanaadaaGreatDoor
end
