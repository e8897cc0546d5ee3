/- The walks of path.Right, Above, Overlap. -/
import Derived.Test.YtpbeennielgogaaDoorPathK
namespace Go.Proofs.YtpbeennielgogaaDoor.Path
open Go.RowKit
set_option linter.unusedSimpArgs false
set_option linter.unusedVariables false

theorem eqB (s q : ByteArray) : (s.toList == q.toList) = decide (bl s = bl q) := by
  rw [Lib.toList_data, Lib.toList_data]
  cases h : (s.data.toList == q.data.toList)
  · symm; simpa using h
  · symm; simpa using h
set_option maxRecDepth 100000 in
theorem right_any (s : ByteArray) (w : World) (hs : s.size ≤ 2000000) : Calls Tryd.prog 32 #[.string s] w fun e w' => e = .returned (.bool (rightB (bl s))) ∧ Ext w w' := by
  have hr := right_norm (bl s)
  go_enter Tryd.func32, Tryd.ntmps32
  go_wp2_with fail
  refine (normal_any s w hs).mono ?_
  rintro e w1 ⟨q, rfl, hq, hx⟩
  rw [← hq] at hr
  have heq := eqB s q
  obtain ⟨n2, hn2⟩ : ∃ n, (normL (bl s)).2 = n := ⟨_, rfl⟩
  rw [hn2] at hr ⊢
  clear hn2 hq
  by_cases h0 : n2 = 0
  · subst h0
    by_cases h1 : bl s = bl q
    · have hb : rightB (bl s) = true := hr.1 ⟨rfl, h1.symm⟩
      rw [decide_eq_true h1] at heq
      have hb' := Lib.hid hb
      clear hb hr h1
      go_wp2_with fail
      go_ret
      exact ⟨by rw [hb'.out]; rfl, hx⟩
    · have hb : rightB (bl s) = false := by
        cases hb : rightB (bl s)
        · rfl
        · exact absurd (hr.2 hb).2.symm h1
      rw [decide_eq_false h1] at heq
      have hb' := Lib.hid hb
      clear hb hr h1
      go_wp2_with fail
      go_ret
      exact ⟨by rw [hb'.out]; rfl, hx⟩
  · have hb : rightB (bl s) = false := by
      cases hb : rightB (bl s)
      · rfl
      · exact absurd (hr.2 hb).1 h0
    have hb' := Lib.hid hb
    have h0' : (n2 == 0) = false := by simpa using h0
    clear hb hr h0 heq
    go_wp2_with fail
    go_ret
    exact ⟨by rw [hb'.out]; rfl, hx⟩
theorem right_is {s : ByteArray} {b : Bool} (w : World) (hs : s.size ≤ 2000000) (hb : rightB (bl s) = b) : Calls Tryd.prog 32 #[.string s] w fun e w' => e = .returned (.bool b) ∧ Ext w w' := hb ▸ right_any s w hs
theorem pre_is (q p : ByteArray) (w : World) : Calls Tryd.prog 49 #[.string q, .string p] w fun e w' => e = .returned (.bool ((bl p).isPrefixOf (bl q))) ∧ w = w' :=
  (Tryd.strings_HasPrefix q p w).mono fun _ _ ⟨he, hw⟩ => ⟨he, hw.symm⟩
set_option maxRecDepth 100000 in
theorem above_any (p q : ByteArray) (w : World) (hp : p.size ≤ 2000000) (hq : q.size ≤ 2000000) : Calls Tryd.prog 43 #[.string p, .string q] w fun e w' => e = .returned (.bool (aboveB (bl p) (bl q))) ∧ Ext w w' := by
  have heq := eqB p q
  cases h1 : rightB (bl p)
  · have hb := Lib.hid (show aboveB (bl p) (bl q) = false by simp [aboveB, h1])
    clear heq
    go_enter Tryd.func43, Tryd.ntmps43
    go_wp2_with fail
    refine (right_is w hp h1).mono ?_
    rintro e w1 ⟨rfl, hx⟩
    go_wp2_with fail
    go_ret
    exact ⟨by rw [hb.out]; rfl, hx⟩
  · cases h2 : rightB (bl q)
    · have hb := Lib.hid (show aboveB (bl p) (bl q) = false by simp [aboveB, h1, h2])
      clear heq
      go_enter Tryd.func43, Tryd.ntmps43
      go_wp2_with fail
      refine (right_is w hp h1).mono ?_
      rintro e w1 ⟨rfl, hx⟩
      go_wp2_with fail
      refine (right_is w1 hq h2).mono ?_
      rintro e w2 ⟨rfl, hx2⟩
      go_wp2_with fail
      go_ret
      exact ⟨by rw [hb.out]; rfl, hx.trans hx2⟩
    · by_cases h3 : bl p = bl q
      · have hb := Lib.hid (show aboveB (bl p) (bl q) = true by simp [aboveB, h1, h2, h3])
        rw [decide_eq_true h3] at heq
        clear h3
        go_enter Tryd.func43, Tryd.ntmps43
        go_wp2_with fail
        refine (right_is w hp h1).mono ?_
        rintro e w1 ⟨rfl, hx⟩
        go_wp2_with fail
        refine (right_is w1 hq h2).mono ?_
        rintro e w2 ⟨rfl, hx2⟩
        go_wp2_with fail
        go_ret
        exact ⟨by rw [hb.out]; rfl, hx.trans hx2⟩
      · have hb := Lib.hid (show aboveB (bl p) (bl q) = (bl p ++ [47]).isPrefixOf (bl q) by simp [aboveB, h1, h2, h3])
        rw [decide_eq_false h3] at heq
        clear h3
        go_enter Tryd.func43, Tryd.ntmps43
        go_wp2_with fail
        refine (right_is w hp h1).mono ?_
        rintro e w1 ⟨rfl, hx⟩
        go_wp2_with fail
        refine (right_is w1 hq h2).mono ?_
        rintro e w2 ⟨rfl, hx2⟩
        go_wp2_with fail
        refine (pre_is _ _ _).mono ?_
        rintro e _ ⟨rfl, rfl⟩
        have hpa : bl (p ++ ⟨#[47]⟩) = bl p ++ [47] := by simp [bl]
        rw [hpa, ← hb.out]
        clear hpa
        obtain ⟨bb, hbb⟩ : ∃ b, aboveB (bl p) (bl q) = b := ⟨_, rfl⟩
        rw [hbb]
        have hbb' := Lib.hid hbb
        clear hb hbb
        cases bb
        all_goals
          go_wp2_with fail
          go_ret
          exact ⟨by rw [hbb'.out]; rfl, hx.trans hx2⟩
set_option maxRecDepth 100000 in
theorem overlap_any (p q : ByteArray) (w : World) (hp : p.size ≤ 2000000) (hq : q.size ≤ 2000000) : Calls Tryd.prog 35 #[.string p, .string q] w fun e w' => e = .returned (.bool (overB (bl p) (bl q))) ∧ Ext w w' := by
  have h1 := above_any p q w hp hq
  have h2 := fun w => above_any q p w hq hp
  have ho : overB (bl p) (bl q) = (aboveB (bl p) (bl q) || aboveB (bl q) (bl p)) := rfl
  rw [ho]
  clear ho
  generalize aboveB (bl p) (bl q) = b1 at *
  generalize aboveB (bl q) (bl p) = b2 at *
  cases b1
  · go_enter Tryd.func35, Tryd.ntmps35
    go_wp2_with fail
    refine h1.mono ?_
    clear h1
    rintro e w1 ⟨rfl, hx⟩
    go_wp2_with fail
    refine (h2 w1).mono ?_
    clear h2
    rintro e w2 ⟨rfl, hx2⟩
    cases b2
    all_goals
      go_wp2_with fail
      go_ret
      exact ⟨rfl, hx.trans hx2⟩
  · go_enter Tryd.func35, Tryd.ntmps35
    go_wp2_with fail
    refine h1.mono ?_
    clear h1
    rintro e w1 ⟨rfl, hx⟩
    go_wp2_with fail
    go_ret
    exact ⟨rfl, hx⟩
end Go.Proofs.YtpbeennielgogaaDoor.Path
