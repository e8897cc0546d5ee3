/- The document's answer of layer 4 (path): the walks of Parts, Join, Normal, Right. -/
import Derived.Test.YtpbeennielgogaaDoorRefP
namespace Go.Proofs.YtpbeennielgogaaDoor.Path
open Go.RowKit
set_option linter.unusedSimpArgs false
set_option linter.unusedVariables false

/-- what is left, behind a beginning of a part -/
def leftL (cur t : Bs) : List Bs := (cur ++ (splits t).headD []) :: (splits t).tail
theorem leftL_nil (t : Bs) : leftL [] t = splits t := by
  unfold leftL
  cases h : splits t with
  | nil => exact absurd h (splits_ne t)
  | cons a b => rfl
theorem leftL_end (cur : Bs) : leftL cur [] = [cur] := by simp [leftL, splits]
theorem leftL_slash (cur t : Bs) : leftL cur (47 :: t) = cur :: splits t := by simp [leftL, splits_cons]
theorem leftL_go (cur t : Bs) (c : UInt8) (h : c ≠ 47) : leftL cur (c :: t) = leftL (cur ++ [c]) t := by simp [leftL, splits_cons, h]
def RPartsRel (s : ByteArray) (w : World) (k : Nat) (u4 u5 u6 u7 : Value) (wr : World) : Prop :=
  ∃ (i : Nat) (v : Value) (ws : List ByteArray) (cur : ByteArray), u4 = v ∧ u5 = .string cur ∧ u6 = .int .i64 0 ∧ u7 = .int .i64 i ∧ i + k = s.size + 1 ∧ At [] w [rowS v ws] wr ∧ ws.length ≤ i ∧ cur.size ≤ i ∧
    walkL [] (splits (bl s)) = if i ≤ s.size then walkL (ws.map bl) (leftL (bl cur) ((bl s).drop i)) else some (ws.map bl)
def RPartsPost (s : ByteArray) (w : World) (e : Ending) (w' : World) : Prop :=
  ∃ (v : Value) (ws : List ByteArray), e = .returned (.tuple #[v, .int .i64 (walkRes (walkL [] (splits (bl s))))]) ∧ At [] w [rowS v ws] w' ∧ (walkL [] (splits (bl s)) = some (ws.map bl) ∨ walkL [] (splits (bl s)) = none ∧ ws = []) ∧ ws.length ≤ s.size + 1
set_option maxRecDepth 100000 in
set_option maxHeartbeats 1000000 in
theorem partsR_any (s : ByteArray) (w : World) (hs : s.size ≤ 2000000) : Calls Tryd.prog 39 #[.string s] w (RPartsPost s w) := by
  have hA := (At.start (w0 := w) (L0 := []) trivial).row_nil 9 1
  have hF := hA.facts
  go_enter Tryd.func39, Tryd.ntmps39
  go_wp2_with fail
  go_loopg [4, 5, 6, 7] (s.size + 1) (RPartsRel s w)
  case atStart => exact ⟨0, _, [], ⟨#[]⟩, rfl, rfl, rfl, rfl, by simp, hA, by simp, Nat.le_refl _, by simp [show bl ⟨#[]⟩ = [] from rfl, leftL_nil]⟩
  case round =>
    obtain ⟨i, v, ws, cur, rfl, rfl, rfl, rfl, hk, hB, hwl, hcl, hw⟩ := hrel
    clear hF hA
    have hA := hB
    clear hB
    obtain ⟨ax, kn, cap, hv0, hkn⟩ := hA.row_hid (v := u4) (xs := flatS ws) (by with_reducible repeat (first | exact Sel.here | apply Sel.there))
    subst hv0
    have hF := hA.facts
    (try simp only [uA] at hA); have hF := hA.facts; (try simp only [fA, facts_row, and_true, true_and] at hF)
    have hsz : (bl s).length = s.size := by simp
    by_cases hi : i < s.size
    · rw [if_pos (by omega), List.drop_eq_getElem_cons (by omega)] at hw
      by_cases hc : s[i] = 47
      · have hc' : (bl s)[i]'(by omega) = 47 := hc
        rw [hc', leftL_slash] at hw
        have hn : ((s[i].toNat : Int) != 47) = false := by rw [hc]; rfl
        have htk := take_any (hA.sep1 (A := rowS (.slice ax kn cap) ws) (by with_reducible repeat (first | exact Sel.here | apply Sel.there))) cur (by omega) (by omega)
        have hw' := Lib.hid hw
        clear hw hc hc' hsz
        go_wp2_with fail
        refine htk.mono ?_
        clear htk
        rintro e w1 ⟨v', us, rfl, hT, hres, hul⟩
        have hB := hA.call1 (by with_reducible repeat (first | exact Sel.here | apply Sel.there)) hT
        clear hF hA hT
        have hA := hB
        clear hB
        simp only [List.cons_append, List.nil_append] at hA
        obtain ⟨ax2, kn2, cap2, hv2, hkn2⟩ := hA.row_hid (v := v') (xs := flatS us) (by with_reducible repeat (first | exact Sel.here | apply Sel.there))
        subst hv2
        have hF := hA.facts
        (try simp only [uA] at hA); have hF := hA.facts; (try simp only [fA, facts_row, and_true, true_and] at hF)
        rcases hres with hre | ⟨hre, hus⟩
        · rw [hre]
          have hw2 := hw'.out
          rw [walkL, hre] at hw2
          simp only at hw2
          have hw3 := Lib.hid hw2
          simp only [walkRes]
          clear hw2 hw' hre
          go_wp2_with fail
          go_roundg (gk - 1)
          case measure => omega
          case rel => exact ⟨i + 1, _, us, ⟨#[]⟩, rfl, rfl, rfl, by simp, by omega, hA, by omega, Nat.zero_le _, by rw [hw3.out, if_pos (by omega), show bl ⟨#[]⟩ = [] from rfl, leftL_nil]⟩
        · rw [hre]
          have hw2 := hw'.out
          rw [walkL, hre] at hw2
          simp only at hw2
          have hw3 := Lib.hid hw2
          simp only [walkRes]
          clear hw2 hw' hre
          go_wp2_with fail
          go_ret2
          exact ⟨.slice none 0 0, [], by rw [hw3.out]; rfl, (hA.row_nil 9 1).pick (by repeat (first | exact Picks.nil | refine Picks.cons (by repeat (first | exact Sel.here | apply Sel.there)) ?_)), .inr ⟨hw3.out, rfl⟩, by simp⟩
      · have hc' : (bl s)[i]'(by omega) ≠ 47 := hc
        rw [leftL_go _ _ _ hc'] at hw
        have hn : ((s[i].toNat : Int) != 47) = true := by
          rw [bne_iff_ne]
          intro e
          apply hc
          apply UInt8.toNat_inj.1
          have : s[i].toNat = 47 := by omega
          rw [this]; rfl
        have hx : bl (cur ++ s.extract i (i + 1)) = bl cur ++ [(bl s)[i]'(by omega)] := by
          simp only [bl]
          simp
          rw [List.drop_eq_getElem_cons (by simpa using hi)]
          simp
        have hxl : (cur ++ s.extract i (i + 1)).size = cur.size + 1 := by
          have := congrArg List.length hx
          simp only [bl, List.length_append, List.length_cons, List.length_nil, Array.length_toList] at this
          exact this
        rw [← hx] at hw
        have hw' := Lib.hid hw
        have hxl' := Lib.hid hxl
        clear hw hc hc' hsz hx hxl
        go_wp2_with fail
        go_roundg (gk - 1)
        case measure => omega
        case rel => exact ⟨i + 1, _, ws, cur ++ s.extract i (i + 1), rfl, rfl, rfl, by simp, by omega, hA, by omega, by have := hxl'.out; omega, by rw [if_pos (by omega)]; exact hw'.out⟩
    · by_cases hi2 : i = s.size
      · subst hi2
        rw [if_pos (Nat.le_refl _), List.drop_eq_nil_of_le (by omega), leftL_end] at hw
        have htk := take_any (hA.sep1 (A := rowS (.slice ax kn cap) ws) (by with_reducible repeat (first | exact Sel.here | apply Sel.there))) cur (by omega) (by omega)
        have hw' := Lib.hid hw
        have hnlt : ¬ (s.size : Int) < s.size := by omega
        clear hw hsz hi
        go_wp2_with fail
        refine htk.mono ?_
        clear htk
        rintro e w1 ⟨v', us, rfl, hT, hres, hul⟩
        have hB := hA.call1 (by with_reducible repeat (first | exact Sel.here | apply Sel.there)) hT
        clear hF hA hT
        have hA := hB
        clear hB
        simp only [List.cons_append, List.nil_append] at hA
        obtain ⟨ax2, kn2, cap2, hv2, hkn2⟩ := hA.row_hid (v := v') (xs := flatS us) (by with_reducible repeat (first | exact Sel.here | apply Sel.there))
        subst hv2
        have hF := hA.facts
        (try simp only [uA] at hA); have hF := hA.facts; (try simp only [fA, facts_row, and_true, true_and] at hF)
        rcases hres with hre | ⟨hre, hus⟩
        · rw [hre]
          have hw2 := hw'.out
          rw [walkL, hre] at hw2
          simp only at hw2
          have hw3 := Lib.hid hw2
          simp only [walkRes]
          clear hw2 hw' hre
          go_wp2_with fail
          go_roundg (gk - 1)
          case measure => omega
          case rel => exact ⟨s.size + 1, _, us, ⟨#[]⟩, rfl, rfl, rfl, by simp, by omega, hA, by omega, Nat.zero_le _, by rw [hw3.out, if_neg (by omega), walkL]⟩
        · rw [hre]
          have hw2 := hw'.out
          rw [walkL, hre] at hw2
          simp only at hw2
          have hw3 := Lib.hid hw2
          simp only [walkRes]
          clear hw2 hw' hre
          go_wp2_with fail
          go_ret2
          exact ⟨.slice none 0 0, [], by rw [hw3.out]; rfl, (hA.row_nil 9 1).pick (by repeat (first | exact Picks.nil | refine Picks.cons (by repeat (first | exact Sel.here | apply Sel.there)) ?_)), .inr ⟨hw3.out, rfl⟩, by simp⟩
      · rw [if_neg (by omega)] at hw
        have hw' := Lib.hid hw
        have hgt : ¬ (i : Int) ≤ s.size := by omega
        clear hw hsz
        go_wp2_with fail
        go_ret2
        exact ⟨.slice ax kn cap, ws, by rw [hw'.out]; rfl, hA.pick (by with_reducible repeat (first | exact Picks.nil | refine Picks.cons (by with_reducible repeat (first | exact Sel.here | apply Sel.there)) ?_)), .inl hw'.out, by omega⟩
end Go.Proofs.YtpbeennielgogaaDoor.Path
