/- The document's answer of layer 4 (path): the walks of Join, Normal, Right. -/
import Derived.Test.YtpbeennielgogaaDoorRefQ
namespace Go.Proofs.YtpbeennielgogaaDoor.Path
open Go.RowKit
set_option linter.unusedSimpArgs false
set_option linter.unusedVariables false

theorem join_snoc : ∀ (l : List Bs) (x : Bs), l ≠ [] → joinS (l ++ [x]) = joinS l ++ 47 :: x
  | [], x, h => absurd rfl h
  | [p], x, _ => by rw [List.cons_append, List.nil_append, join_cons _ _ (by simp), join_one, join_one]
  | p :: q :: r, x, _ => by
    have ih := join_snoc (q :: r) x (by simp)
    rw [List.cons_append, join_cons p ((q :: r) ++ [x]) (by simp), ih, join_cons p (q :: r) (by simp), List.append_assoc, List.cons_append]
theorem shut_S {L0 L F : List Part} {w0 w : World} {g cap : Nat} {c : List Value} {ws : List ByteArray} (h : At L0 w0 L w) (s : Sel (Part.cells g c 9) L F) (hl : c.length = cap * 1) (hn : ws.length ≤ cap) (hm : cap ≤ maxLen) (ht : c.take (ws.length * 1) = flatS ws) :
    At L0 w0 (rowS (.slice (some ⟨g, 0, none⟩) ws.length cap) ws :: F) w := h.row_shut s hl hn hm ht
def RJoinRel (w : World) (v : Value) (ws : List ByteArray) (k : Nat) (u3 u4 : Value) (wr : World) : Prop :=
  ∃ (i : Nat) (cur : ByteArray), u3 = .string cur ∧ u4 = .int .i64 i ∧ i + k = ws.length ∧ At [rowS v ws] w [rowS v ws] wr ∧ bl cur = joinS ((ws.take i).map bl) ∧ cur.size ≤ i * 2000001
def RJoinPost (w : World) (v : Value) (ws : List ByteArray) (e : Ending) (w' : World) : Prop := ∃ q : ByteArray, e = .returned (.string q) ∧ bl q = joinS (ws.map bl) ∧ At [rowS v ws] w [rowS v ws] w'
set_option maxRecDepth 100000 in
set_option maxHeartbeats 1000000 in
theorem joinR_any {w : World} {v : Value} {ws : List ByteArray} (h : Sep [rowS v ws] w) (hmax : ws.length ≤ 2000001) (hbd : ∀ x ∈ ws, x.size ≤ 2000000) : Calls Tryd.prog 40 #[v] w (RJoinPost w v ws) := by
  have hA := At.start h
  have hF := hA.facts
  clear h
  obtain ⟨ax, cap, rfl, hax, hcap, _⟩ := hA.row_form (v := v) (xs := flatS ws) (by with_reducible repeat (first | exact Sel.here | apply Sel.there))
  have hcap' := Lib.hid hcap
  have hbd' := Lib.hid hbd
  clear hbd
  clear hax hcap
  go_enter Tryd.func40, Tryd.ntmps40
  go_wp2_with fail
  go_loopg [3, 4] ws.length (RJoinRel w (.slice ax ws.length cap) ws)
  case atStart => exact ⟨0, ⟨#[]⟩, rfl, rfl, by simp, hA, rfl, Nat.zero_le _⟩
  case round =>
    obtain ⟨i, cur, rfl, rfl, hk, hB, hj, hcs⟩ := hrel
    clear hF hA
    have hA := hB
    clear hB
    by_cases hi : i < ws.length
    · obtain ⟨g, c, rfl, _, hcm, hcl, hct, hB⟩ := hA.row_open (ax := ax) (cap := cap) (n := ws.length) (xs := flatS ws) (by with_reducible repeat (first | exact Sel.here | apply Sel.there)) (by omega)
      have c0 : c[i]? = some (.string ws[i]) := flatS_at hct (List.getElem?_eq_getElem hi)
      have hxs : ws[i].size ≤ 2000000 := hbd'.out _ (List.getElem_mem hi)
      have hcs2 : cur.size ≤ 8000000000000 := by omega
      have hsz1 : (cur ++ (⟨#[47]⟩ : ByteArray) ++ ws[i]).size = cur.size + 1 + ws[i].size := by rw [ByteArray.size_append, ByteArray.size_append]; rfl
      have hsz2 : Hid ((cur ++ (⟨#[47]⟩ : ByteArray) ++ ws[i]).size ≤ (i + 1) * 2000001) := Lib.hid (by rw [hsz1, Nat.add_mul]; omega)
      clear hsz1
      have ht : ws.take (i + 1) = ws.take i ++ [ws[i]] := List.take_succ_eq_append_getElem hi
      have ht' := Lib.hid ht
      have hj' := Lib.hid hj
      have hct' := Lib.hid hct
      have hcl' := Lib.hid hcl
      clear hA ht hj hct hcl
      have hA := hB
      clear hB
      have hF := hA.facts
      (try simp only [uA] at hA); have hF := hA.facts; (try simp only [fA, facts_row, and_true, true_and] at hF)
      by_cases h0 : i = 0
      · subst h0
        go_wp2_with fail
        go_roundg (gk - 1)
        case measure => omega
        case rel => exact ⟨1, _, rfl, rfl, by omega, (shut_S hA (by with_reducible repeat (first | exact Sel.here | apply Sel.there)) hcl'.out hcap'.out hcm hct'.out).pick (by with_reducible repeat (first | exact Picks.nil | refine Picks.cons (by with_reducible repeat (first | exact Sel.here | apply Sel.there)) ?_)), by rw [show bl (cur ++ ws[0]) = bl cur ++ bl ws[0] by simp [bl], hj'.out, ht'.out]; simp [join_one]; simp [joinS, Lib.join], by simp; omega⟩
      · have hpos : 0 < i := by omega
        go_wp2_with fail
        go_roundg (gk - 1)
        case measure => omega
        case rel => exact ⟨i + 1, _, rfl, by simp, by omega, (shut_S hA (by with_reducible repeat (first | exact Sel.here | apply Sel.there)) hcl'.out hcap'.out hcm hct'.out).pick (by with_reducible repeat (first | exact Picks.nil | refine Picks.cons (by with_reducible repeat (first | exact Sel.here | apply Sel.there)) ?_)), by rw [show bl (cur ++ ⟨#[47]⟩ ++ ws[i]) = bl cur ++ 47 :: bl ws[i] by simp [bl], hj'.out, ht'.out, List.map_append, List.map_cons, List.map_nil, join_snoc _ _ (by intro e; have := congrArg List.length e; rw [List.length_map, List.length_take, List.length_nil] at this; omega)], hsz2.out⟩
    · have hj' := Lib.hid hj
      clear hj
      have hF := hA.facts
      (try simp only [uA] at hA); have hF := hA.facts; (try simp only [fA, facts_row, and_true, true_and] at hF)
      go_wp2_with fail
      go_ret
      exact ⟨cur, rfl, by rw [hj'.out, List.take_of_length_le (by omega)], hA⟩

def RNormPost (s : ByteArray) (w : World) (e : Ending) (w' : World) : Prop :=
  ∃ q : ByteArray, e = .returned (.tuple #[.string q, .int .i64 (normL (bl s)).2]) ∧ bl q = (normL (bl s)).1 ∧ Ext w w'
set_option maxRecDepth 100000 in
set_option maxHeartbeats 1000000 in
theorem normalR_any (s : ByteArray) (w : World) (hs : s.size ≤ 2000000) : Calls Tryd.prog 33 #[.string s] w (RNormPost s w) := by
  have hA := At.start (w0 := w) (L0 := []) trivial
  have hF := hA.facts
  go_enter Tryd.func33, Tryd.ntmps33
  go_wp2_with fail
  refine (partsR_any s w (by omega)).mono ?_
  rintro e w1 ⟨v, ws, rfl, hT, hres, hlen⟩
  have hB := hA.call0 hT
  clear hF hA hT
  have hA := hB
  clear hB
  simp only [List.append_nil] at hA
  obtain ⟨ax, cap, hv, hax0, hcap0, _⟩ := hA.row_form (v := v) (n := ws.length) (xs := flatS ws) (by with_reducible repeat (first | exact Sel.here | apply Sel.there))
  subst hv
  clear hax0 hcap0
  have hn : normL (bl s) = (match walkL [] (splits (bl s)) with
    | none => ([], 30)
    | some l => if l = [] then ([], 13) else if 8 < l.length then ([], 31) else if 64 < (joinS l).length then ([], 11) else (joinS l, 0)) := rfl
  rcases hres with hre | ⟨hre, hw0⟩
  · rw [hre] at hn
    simp only at hn
    have hbd : ∀ x ∈ ws, x.size ≤ 2000000 := fun x hx => by
      have h1 : bl x ∈ splits (bl s) := by
        rcases walk_mem hre (bl x) (List.mem_map.2 ⟨x, hx, rfl⟩) with h | h
        · simp at h
        · exact h
      have h2 := splits_mem_len (bl s) _ h1
      have h3 : (bl x).length = x.size := by simp
      have h4 : (bl s).length = s.size := by simp
      omega
    rw [hre]
    simp only [walkRes]
    simp only [List.length_map] at hn
    by_cases e1 : ws = []
    · subst e1
      simp only [List.map_nil, if_pos] at hn
      have hn' := Lib.hid hn
      clear hn hre hlen hbd
      (try simp only [uA] at hA); have hF := hA.facts; (try simp only [fA, facts_row, and_true, true_and] at hF)
      go_wp2_with fail
      go_ret2
      exact ⟨⟨#[]⟩, by rw [hn'.out]; rfl, by rw [hn'.out], hA.toExt⟩
    · rw [if_neg (by simpa using e1)] at hn
      have hl0 : ((ws.length : Int) == 0) = false := by simpa using e1
      by_cases e2 : 8 < ws.length
      · rw [if_pos e2] at hn
        have hn' := Lib.hid hn
        clear hn hre hlen hbd e1
        (try simp only [uA] at hA); have hF := hA.facts; (try simp only [fA, facts_row, and_true, true_and] at hF)
        go_wp2_with fail
        go_ret2
        exact ⟨⟨#[]⟩, by rw [hn'.out]; rfl, by rw [hn'.out], hA.toExt⟩
      · rw [if_neg e2] at hn
        have hj1 := joinR_any (hA.sep1 (A := rowS (.slice ax ws.length cap) ws) (by with_reducible repeat (first | exact Sel.here | apply Sel.there))) (by omega) hbd
        have hn' := Lib.hid hn
        have hbd' := Lib.hid hbd
        clear hn hre hlen e1 hbd
        have hF := hA.facts
        (try simp only [uA] at hA); have hF := hA.facts; (try simp only [fA, facts_row, and_true, true_and] at hF)
        go_wp2_with fail
        refine hj1.mono ?_
        clear hj1
        rintro e w2 ⟨q, rfl, hq, hT⟩
        have hB := hA.call1 (by with_reducible repeat (first | exact Sel.here | apply Sel.there)) hT
        clear hF hA hT
        have hA := hB
        clear hB
        simp only [List.cons_append, List.nil_append] at hA
        have hjs : (joinS (ws.map bl)).length = q.size := by rw [← hq]; simp
        have hn2 := hn'.out
        rw [hjs] at hn2
        have hq' := Lib.hid hq
        clear hn' hjs hq
        have hF := hA.facts
        (try simp only [uA] at hA); have hF := hA.facts; (try simp only [fA, facts_row, and_true, true_and] at hF)
        by_cases e3 : 64 < q.size
        · rw [if_pos e3] at hn2
          have hn3 := Lib.hid hn2
          clear hn2
          go_wp2_with fail
          go_ret2
          exact ⟨⟨#[]⟩, by rw [hn3.out]; rfl, by rw [hn3.out], hA.toExt⟩
        · rw [if_neg e3] at hn2
          have hn3 := Lib.hid hn2
          have hj2 := joinR_any (hA.sep1 (A := rowS (.slice ax ws.length cap) ws) (by with_reducible repeat (first | exact Sel.here | apply Sel.there))) (by omega) hbd'.out
          clear hn2
          go_wp2_with fail
          refine hj2.mono ?_
          clear hj2
          rintro e w3 ⟨q2, rfl, hq2, hT⟩
          have hB := hA.call1 (by with_reducible repeat (first | exact Sel.here | apply Sel.there)) hT
          clear hF hA hT
          go_wp2_with fail
          go_ret2
          exact ⟨q2, by rw [hn3.out]; rfl, by rw [hn3.out]; exact hq2, hB.toExt⟩
  · rw [hre] at hn
    simp only at hn
    subst hw0
    rw [hre]
    simp only [walkRes]
    have hn' := Lib.hid hn
    clear hn hre hlen
    (try simp only [uA] at hA); have hF := hA.facts; (try simp only [fA, facts_row, and_true, true_and] at hF)
    go_wp2_with fail
    go_ret2
    exact ⟨⟨#[]⟩, by rw [hn'.out]; rfl, by rw [hn'.out], hA.toExt⟩
set_option maxRecDepth 100000 in
theorem rightR_any (s : ByteArray) (w : World) (hs : s.size ≤ 2000000) : Calls Tryd.prog 22 #[.string s] w fun e w' => e = .returned (.bool (rightB (bl s))) ∧ Ext w w' := by
  have hr := right_norm (bl s)
  go_enter Tryd.func22, Tryd.ntmps22
  go_wp2_with fail
  refine (normalR_any s w hs).mono ?_
  rintro e w1 ⟨q, rfl, hq, hx⟩
  rw [← hq] at hr
  have heq := eqB q s
  obtain ⟨n2, hn2⟩ : ∃ n, (normL (bl s)).2 = n := ⟨_, rfl⟩
  rw [hn2] at hr ⊢
  clear hn2 hq
  by_cases h0 : n2 = 0
  · subst h0
    by_cases h1 : bl q = bl s
    · have hb : rightB (bl s) = true := hr.1 ⟨rfl, h1⟩
      rw [decide_eq_true h1] at heq
      have hb' := Lib.hid hb
      clear hb hr h1
      go_wp2_with fail
      go_ret
      exact ⟨by rw [hb'.out]; rfl, hx⟩
    · have hb : rightB (bl s) = false := by
        cases hb : rightB (bl s)
        · rfl
        · exact absurd (hr.2 hb).2 h1
      rw [decide_eq_false h1] at heq
      have hb' := Lib.hid hb
      clear hb hr h1
      go_wp2_with fail
      go_ret
      exact ⟨by rw [hb'.out]; rfl, hx⟩
  · have hb : rightB (bl s) = false := by
      cases hb : rightB (bl s)
      · rfl
      · exact absurd (hr.2 hb).1 h0
    have hb' := Lib.hid hb
    have h0' : (n2 == 0) = false := by simpa using h0
    clear hb hr h0 heq
    go_wp2_with fail
    go_ret
    exact ⟨by rw [hb'.out]; rfl, hx⟩
end Go.Proofs.YtpbeennielgogaaDoor.Path
