/- SortU2, joined. -/
import Derived.Test.YtpebabaigakagaaGreatDoorP13
set_option linter.unusedSimpArgs false
set_option linter.unusedVariables false
set_option maxRecDepth 100000
set_option maxHeartbeats 16000000
section
namespace Go.Proofs.YtpebabaigakagaaGreatDoor.SortU
open Go.RowKit
open Go.Sort (swp ltInt siftDown heapBuild heapPop reverseLoop)
theorem sift_stop {hi first root : Nat} {d : Array Int} (h : 2 * root + 1 ≥ hi) : siftDown ltInt hi first root d = d := by rw [siftDown, dif_pos h]
theorem sift_one {hi first root : Nat} {d : Array Int} (h : ¬ 2 * root + 1 ≥ hi) (hn : ¬ (2 * root + 1 + 1 < hi ∧ ltU (atU d (first + (2 * root + 1))) (atU d (first + (2 * root + 1) + 1)) = true)) :
 siftDown ltInt hi first root d = if ltU (atU d (first + root)) (atU d (first + (2 * root + 1))) = true then siftDown ltInt hi first (2 * root + 1) (swp d (first + root) (first + (2 * root + 1))) else d := by
 have hn' : ¬ (2 * root + 1 + 1 < hi && ltInt d[first + (2 * root + 1)]! d[first + (2 * root + 1) + 1]!) = true := by simpa [ltU, atU] using hn
 rw [siftDown, dif_neg h, if_neg hn']
 unfold ltU atU
 cases ltInt d[first + root]! d[first + (2 * root + 1)]! <;> simp
theorem sift_two {hi first root : Nat} {d : Array Int} (h : ¬ 2 * root + 1 ≥ hi) (hn : 2 * root + 1 + 1 < hi ∧ ltU (atU d (first + (2 * root + 1))) (atU d (first + (2 * root + 1) + 1)) = true) :
 siftDown ltInt hi first root d = if ltU (atU d (first + root)) (atU d (first + (2 * root + 2))) = true then siftDown ltInt hi first (2 * root + 2) (swp d (first + root) (first + (2 * root + 2))) else d := by
 have hn' : (2 * root + 1 + 1 < hi && ltInt d[first + (2 * root + 1)]! d[first + (2 * root + 1) + 1]!) = true := by simpa [ltU, atU] using hn
 rw [siftDown, dif_neg h, if_pos hn', dif_pos (by omega)]
 unfold ltU atU
 cases ltInt d[first + root]! d[first + (2 * root + 2)]! <;> simp
def SiftRel (w : World) (g : Nat) (d : Array Int) (r : List Value) (hi first lo : Nat) (k : Nat) (u : Value) (wr : World) : Prop :=
 ∃ (root : Nat) (dk : Array Int), u = .int .i64 root ∧ hi - root ≤ k ∧ root < 4611686018427387904 ∧ dk.size = d.size ∧ At [blkU g d r] w [blkU g dk r] wr ∧ siftDown ltInt hi first root dk = siftDown ltInt hi first lo d
theorem siftDown_any {w : World} {g cap n : Nat} {d : Array Int} {r : List Value} (h : Sep [blkU g d r] w) (hn : d.size = n) {lo hi first : Nat} (hb : first + hi ≤ d.size) (hlo : lo < 4611686018427387904) (hsz : d.size < 4611686018427387904) :
 Calls Tryz.prog 214 #[.slice (some ⟨g, 0, none⟩) n cap, .int .i64 lo, .int .i64 hi, .int .i64 first] w fun e w' => e = .returned (.tuple #[]) ∧ At [blkU g d r] w [blkU g (siftDown ltInt hi first lo d) r] w' := by
 have hA := At.start h
 have hF := hA.facts
 clear h
 go_enter Tryz.func214, Tryz.ntmps214
 go_wp2_with fail
 go_loopg [8] (hi - lo) (SiftRel w g d r hi first lo)
 case atStart => exact ⟨lo, d, rfl, Nat.le_refl _, hlo, rfl, hA, rfl⟩
 case round =>
  obtain ⟨root, dk, rfl, hk, hroot, hsk, hB, hO⟩ := hrel
  have hO' := Lib.hid hO
  clear hF hA hO; have hA := hB; clear hB
  obtain ⟨c, hc⟩ : ∃ c, 2 * root + 1 = c := ⟨_, rfl⟩
  have ec : (2 : Int) * (root : Int) + 1 = (c : Int) := by omega
  by_cases hch : c < hi
  · obtain ⟨p, hp⟩ : ∃ p, first + c = p := ⟨_, rfl⟩
    obtain ⟨q, hq⟩ : ∃ q, first + root = q := ⟨_, rfl⟩
    have ep : (first : Int) + (c : Int) = (p : Int) := by omega
    have ep1 : (first : Int) + ((c : Int) + 1) = (p : Int) + 1 := by omega
    have eq : (first : Int) + (root : Int) = (q : Int) := by omega
    have e1 := rowC_at (d := dk) (r := r) (i := p) (by omega)
    have e3 := rowC_at (d := dk) (r := r) (i := q) (by omega)
    by_cases h2 : c + 1 < hi ∧ ltU (atU dk p) (atU dk (p + 1)) = true
    · have hx := sift_two (hi := hi) (first := first) (root := root) (d := dk) (by omega) (by rw [hc, hp]; exact h2)
      rw [show 2 * root + 2 = c + 1 by omega, hq, show first + (c + 1) = p + 1 by omega] at hx
      obtain ⟨h21, h22⟩ := h2
      have h22' := Lib.hid h22
      have e2 := rowC_at (d := dk) (r := r) (i := p + 1) (by omega)
      have hg : decide ((c : Int) + 1 < (hi : Int)) = true := by simp; omega
      have hc' := Lib.hid hc
      have hp' := Lib.hid hp
      have hq' := Lib.hid hq
      clear hc hp hq h22
      have hF := hA.facts; (try simp only [uY] at hA hF)
      cases hl : ltU (atU dk q) (atU dk (p + 1))
      all_goals
       rw [hl] at hx
       simp only [Bool.false_eq_true, if_false, if_true] at hx
       have hx' := Lib.hid hx
       have hl' := Lib.hid hl
       clear hx hl
      · go_wp2_with fail
        (refine cA hA ?_); (have hn1 := Cl.none hA); (have hn2 := Cl.none2 hA); (repeat (first | go_big_quiet_skip | (go_big_quiet_want; (first | (refine qL ?_; go_frame; go_big_quiet_on) | (go_big_quiet_op; (first | go_big_quiet_on | ((apply Exists.intro); (refine ⟨fun w1 hw => ?_, ?_⟩); (focus ((have hw := Cl.out hw); (exact less_in hw _ _ h22'.out))); (go_big_quiet_on))))))))
        (refine wpQuiet_nil ?_); (intro w1 hB); (clear hF hA hn1 hn2); (have hA := Cl.out hB); (clear hB); have hF := hA.facts; (try simp only [uY] at hA hF)
        go_wp2_with fail
        (refine cA hA ?_); (have hn1 := Cl.none hA); (have hn2 := Cl.none2 hA); (repeat (first | go_big_quiet_skip | (go_big_quiet_want; (first | (refine qL ?_; go_frame; go_big_quiet_on) | (go_big_quiet_op; (first | go_big_quiet_on | ((apply Exists.intro); (refine ⟨fun w1 hw => ?_, ?_⟩); (focus ((have hw := Cl.out hw); (exact less_in hw _ _ hl'.out))); (go_big_quiet_on))))))))
        (refine wpQuiet_nil ?_); (intro w1 hB); (clear hF hA hn1 hn2); (have hA := Cl.out hB); (clear hB); have hF := hA.facts; (try simp only [uY] at hA hF)
        go_wp2_with fail
        refine bodyPost_ret (results_none rfl _ _ _) rfl ?_
        exact ⟨rfl, by rw [← hO'.out, hx'.out]; exact hA⟩
      · go_wp2_with fail
        (refine cA hA ?_); (have hn1 := Cl.none hA); (have hn2 := Cl.none2 hA); (repeat (first | go_big_quiet_skip | (go_big_quiet_want; (first | (refine qL ?_; go_frame; go_big_quiet_on) | (go_big_quiet_op; (first | go_big_quiet_on | ((apply Exists.intro); (refine ⟨fun w1 hw => ?_, ?_⟩); (focus ((have hw := Cl.out hw); (exact less_in hw _ _ h22'.out))); (go_big_quiet_on))))))))
        (refine wpQuiet_nil ?_); (intro w1 hB); (clear hF hA hn1 hn2); (have hA := Cl.out hB); (clear hB); have hF := hA.facts; (try simp only [uY] at hA hF)
        go_wp2_with fail
        (refine cA hA ?_); (have hn1 := Cl.none hA); (have hn2 := Cl.none2 hA); (repeat (first | go_big_quiet_skip | (go_big_quiet_want; (first | (refine qL ?_; go_frame; go_big_quiet_on) | (go_big_quiet_op; (first | go_big_quiet_on | ((apply Exists.intro); (refine ⟨fun w1 hw => ?_, ?_⟩); (focus ((have hw := Cl.out hw); (exact less_in hw _ _ hl'.out))); (go_big_quiet_on))))))))
        (refine wpQuiet_nil ?_); (intro w1 hB); (clear hF hA hn1 hn2); (have hA := Cl.out hB); (clear hB); have hF := hA.facts; (try simp only [uY] at hA hF)
        have b1 := hp'.out
        have b2 := hq'.out
        go_wp2_with fail
        (try clear hF); (have k1 := at_cell hA .here (i := q) (by omega)); (have k2 := at_cell hA .here (i := p + 1) (by omega)); (have f1 := at_free hA .here (q)); (have f2 := at_free hA .here (p + 1)); go_region; (have hB := (at_swp hA .here (i := q) (j := p + 1) (by omega) (by omega)).drew); (clear k1 k2 f1 f2 hA); (have hA := hB); (clear hB); (generalize World.drew (World.setCell _ _ _) = wz at *)
        go_wp2_with fail
        go_roundg (hi - (c + 1))
        case measure => have := hc'.out; omega
        case rel => exact ⟨c + 1, swp dk q (p + 1), by simp, Nat.le_refl _, by omega, by rw [swp_size]; exact hsk, hA, by rw [← hO'.out, hx'.out]⟩
    · have hx := sift_one (hi := hi) (first := first) (root := root) (d := dk) (by omega) (by rw [hc, hp]; exact h2)
      rw [hc, hq, hp] at hx
      have hc' := Lib.hid hc
      have hp' := Lib.hid hp
      have hq' := Lib.hid hq
      clear hc hp hq
      have hF := hA.facts; (try simp only [uY] at hA hF)
      by_cases h3 : c + 1 < hi
      · have h4 : ltU (atU dk p) (atU dk (p + 1)) = false := by simpa [h3] using h2
        have h4' := Lib.hid h4
        have e2 := rowC_at (d := dk) (r := r) (i := p + 1) (by have := hp'.out; omega)
        have hg : decide ((c : Int) + 1 < (hi : Int)) = true := by simp; omega
        clear h2 h4
        cases hl : ltU (atU dk q) (atU dk p)
        all_goals
         rw [hl] at hx
         simp only [Bool.false_eq_true, if_false, if_true] at hx
         have hx' := Lib.hid hx
         have hl' := Lib.hid hl
         clear hx hl
        · go_wp2_with fail
          (refine cA hA ?_); (have hn1 := Cl.none hA); (have hn2 := Cl.none2 hA); (repeat (first | go_big_quiet_skip | (go_big_quiet_want; (first | (refine qL ?_; go_frame; go_big_quiet_on) | (go_big_quiet_op; (first | go_big_quiet_on | ((apply Exists.intro); (refine ⟨fun w1 hw => ?_, ?_⟩); (focus ((have hw := Cl.out hw); (exact less_in hw _ _ h4'.out))); (go_big_quiet_on))))))))
          (refine wpQuiet_nil ?_); (intro w1 hB); (clear hF hA hn1 hn2); (have hA := Cl.out hB); (clear hB); have hF := hA.facts; (try simp only [uY] at hA hF)
          go_wp2_with fail
          (refine cA hA ?_); (have hn1 := Cl.none hA); (have hn2 := Cl.none2 hA); (repeat (first | go_big_quiet_skip | (go_big_quiet_want; (first | (refine qL ?_; go_frame; go_big_quiet_on) | (go_big_quiet_op; (first | go_big_quiet_on | ((apply Exists.intro); (refine ⟨fun w1 hw => ?_, ?_⟩); (focus ((have hw := Cl.out hw); (exact less_in hw _ _ hl'.out))); (go_big_quiet_on))))))))
          (refine wpQuiet_nil ?_); (intro w1 hB); (clear hF hA hn1 hn2); (have hA := Cl.out hB); (clear hB); have hF := hA.facts; (try simp only [uY] at hA hF)
          go_wp2_with fail
          refine bodyPost_ret (results_none rfl _ _ _) rfl ?_
          exact ⟨rfl, by rw [← hO'.out, hx'.out]; exact hA⟩
        · go_wp2_with fail
          (refine cA hA ?_); (have hn1 := Cl.none hA); (have hn2 := Cl.none2 hA); (repeat (first | go_big_quiet_skip | (go_big_quiet_want; (first | (refine qL ?_; go_frame; go_big_quiet_on) | (go_big_quiet_op; (first | go_big_quiet_on | ((apply Exists.intro); (refine ⟨fun w1 hw => ?_, ?_⟩); (focus ((have hw := Cl.out hw); (exact less_in hw _ _ h4'.out))); (go_big_quiet_on))))))))
          (refine wpQuiet_nil ?_); (intro w1 hB); (clear hF hA hn1 hn2); (have hA := Cl.out hB); (clear hB); have hF := hA.facts; (try simp only [uY] at hA hF)
          go_wp2_with fail
          (refine cA hA ?_); (have hn1 := Cl.none hA); (have hn2 := Cl.none2 hA); (repeat (first | go_big_quiet_skip | (go_big_quiet_want; (first | (refine qL ?_; go_frame; go_big_quiet_on) | (go_big_quiet_op; (first | go_big_quiet_on | ((apply Exists.intro); (refine ⟨fun w1 hw => ?_, ?_⟩); (focus ((have hw := Cl.out hw); (exact less_in hw _ _ hl'.out))); (go_big_quiet_on))))))))
          (refine wpQuiet_nil ?_); (intro w1 hB); (clear hF hA hn1 hn2); (have hA := Cl.out hB); (clear hB); have hF := hA.facts; (try simp only [uY] at hA hF)
          have b1 := hp'.out
          have b2 := hq'.out
          go_wp2_with fail
          (try clear hF); (have k1 := at_cell hA .here (i := q) (by omega)); (have k2 := at_cell hA .here (i := p) (by omega)); (have f1 := at_free hA .here (q)); (have f2 := at_free hA .here (p)); go_region; (have hB := (at_swp hA .here (i := q) (j := p) (by omega) (by omega)).drew); (clear k1 k2 f1 f2 hA); (have hA := hB); (clear hB); (generalize World.drew (World.setCell _ _ _) = wz at *)
          go_wp2_with fail
          go_roundg (hi - c)
          case measure => have := hc'.out; omega
          case rel => exact ⟨c, swp dk q p, rfl, Nat.le_refl _, by omega, by rw [swp_size]; exact hsk, hA, by rw [← hO'.out, hx'.out]⟩
      · have hg : decide ((c : Int) + 1 < (hi : Int)) = false := by simp; omega
        clear h2
        cases hl : ltU (atU dk q) (atU dk p)
        all_goals
         rw [hl] at hx
         simp only [Bool.false_eq_true, if_false, if_true] at hx
         have hx' := Lib.hid hx
         have hl' := Lib.hid hl
         clear hx hl
        · go_wp2_with fail
          (refine cA hA ?_); (have hn1 := Cl.none hA); (have hn2 := Cl.none2 hA); (repeat (first | go_big_quiet_skip | (go_big_quiet_want; (first | (refine qL ?_; go_frame; go_big_quiet_on) | (go_big_quiet_op; (first | go_big_quiet_on | ((apply Exists.intro); (refine ⟨fun w1 hw => ?_, ?_⟩); (focus ((have hw := Cl.out hw); (fail))); (go_big_quiet_on))))))))
          (refine wpQuiet_nil ?_); (intro w1 hB); (clear hF hA hn1 hn2); (have hA := Cl.out hB); (clear hB); have hF := hA.facts; (try simp only [uY] at hA hF)
          go_wp2_with fail
          (refine cA hA ?_); (have hn1 := Cl.none hA); (have hn2 := Cl.none2 hA); (repeat (first | go_big_quiet_skip | (go_big_quiet_want; (first | (refine qL ?_; go_frame; go_big_quiet_on) | (go_big_quiet_op; (first | go_big_quiet_on | ((apply Exists.intro); (refine ⟨fun w1 hw => ?_, ?_⟩); (focus ((have hw := Cl.out hw); (exact less_in hw _ _ hl'.out))); (go_big_quiet_on))))))))
          (refine wpQuiet_nil ?_); (intro w1 hB); (clear hF hA hn1 hn2); (have hA := Cl.out hB); (clear hB); have hF := hA.facts; (try simp only [uY] at hA hF)
          go_wp2_with fail
          refine bodyPost_ret (results_none rfl _ _ _) rfl ?_
          exact ⟨rfl, by rw [← hO'.out, hx'.out]; exact hA⟩
        · go_wp2_with fail
          (refine cA hA ?_); (have hn1 := Cl.none hA); (have hn2 := Cl.none2 hA); (repeat (first | go_big_quiet_skip | (go_big_quiet_want; (first | (refine qL ?_; go_frame; go_big_quiet_on) | (go_big_quiet_op; (first | go_big_quiet_on | ((apply Exists.intro); (refine ⟨fun w1 hw => ?_, ?_⟩); (focus ((have hw := Cl.out hw); (fail))); (go_big_quiet_on))))))))
          (refine wpQuiet_nil ?_); (intro w1 hB); (clear hF hA hn1 hn2); (have hA := Cl.out hB); (clear hB); have hF := hA.facts; (try simp only [uY] at hA hF)
          go_wp2_with fail
          (refine cA hA ?_); (have hn1 := Cl.none hA); (have hn2 := Cl.none2 hA); (repeat (first | go_big_quiet_skip | (go_big_quiet_want; (first | (refine qL ?_; go_frame; go_big_quiet_on) | (go_big_quiet_op; (first | go_big_quiet_on | ((apply Exists.intro); (refine ⟨fun w1 hw => ?_, ?_⟩); (focus ((have hw := Cl.out hw); (exact less_in hw _ _ hl'.out))); (go_big_quiet_on))))))))
          (refine wpQuiet_nil ?_); (intro w1 hB); (clear hF hA hn1 hn2); (have hA := Cl.out hB); (clear hB); have hF := hA.facts; (try simp only [uY] at hA hF)
          have b1 := hp'.out
          have b2 := hq'.out
          go_wp2_with fail
          (try clear hF); (have k1 := at_cell hA .here (i := q) (by omega)); (have k2 := at_cell hA .here (i := p) (by omega)); (have f1 := at_free hA .here (q)); (have f2 := at_free hA .here (p)); go_region; (have hB := (at_swp hA .here (i := q) (j := p) (by omega) (by omega)).drew); (clear k1 k2 f1 f2 hA); (have hA := hB); (clear hB); (generalize World.drew (World.setCell _ _ _) = wz at *)
          go_wp2_with fail
          go_roundg (hi - c)
          case measure => have := hc'.out; omega
          case rel => exact ⟨c, swp dk q p, rfl, Nat.le_refl _, by omega, by rw [swp_size]; exact hsk, hA, by rw [← hO'.out, hx'.out]⟩
  · have hx := Lib.hid (sift_stop (hi := hi) (first := first) (root := root) (d := dk) (by omega))
    clear hc
    go_wp2_with fail
    go_end0
    exact ⟨rfl, by rw [← hO'.out, hx.out]; exact hA⟩
theorem siftDown_size {hi first : Nat} : ∀ (n root : Nat) (d : Array Int), hi - root ≤ n → (siftDown ltInt hi first root d).size = d.size := by
 intro n
 induction n with
 | zero =>
  intro root d h
  rw [sift_stop (by omega)]
 | succ n ih =>
  intro root d h
  by_cases h0 : 2 * root + 1 ≥ hi
  · rw [sift_stop h0]
  · by_cases h1 : 2 * root + 1 + 1 < hi ∧ ltU (atU d (first + (2 * root + 1))) (atU d (first + (2 * root + 1) + 1)) = true
    · rw [sift_two h0 h1]
      split
      · rw [ih _ _ (by omega), swp_size]
      · rfl
    · rw [sift_one h0 h1]
      split
      · rw [ih _ _ (by omega), swp_size]
      · rfl
def HeapB (w : World) (g : Nat) (d : Array Int) (r : List Value) (hi a : Nat) (k : Nat) (u : Value) (wr : World) : Prop :=
 ∃ dk : Array Int, u = .int .i64 ((k : Int) - 1) ∧ k ≤ d.size ∧ dk.size = d.size ∧ At [blkU g d r] w [blkU g dk r] wr ∧ heapBuild ltInt hi a k dk = heapBuild ltInt hi a ((hi - 1) / 2 + 1) d
def HeapP (w : World) (g : Nat) (d : Array Int) (r : List Value) (hi a : Nat) (d1 : Array Int) (k : Nat) (u : Value) (wr : World) : Prop :=
 ∃ dk : Array Int, u = .int .i64 ((k : Int) - 1) ∧ k ≤ hi ∧ dk.size = d.size ∧ At [blkU g d r] w [blkU g dk r] wr ∧ heapPop ltInt a k dk = heapPop ltInt a hi d1
theorem heapSort_any {w : World} {g cap n : Nat} {d : Array Int} {r : List Value} (h : Sep [blkU g d r] w) (hn : d.size = n) {a b : Nat} (hab : a < b) (hb : b ≤ d.size) (hsz : d.size < 4611686018427387904) :
 Calls Tryz.prog 195 #[.slice (some ⟨g, 0, none⟩) n cap, .int .i64 a, .int .i64 b] w fun e w' => e = .returned (.tuple #[]) ∧ At [blkU g d r] w [blkU g (Sort.heapSort ltInt d a b) r] w' := by
 have hA := At.start h
 have hF := hA.facts
 clear h
 obtain ⟨hi, hhi⟩ : ∃ hi, b - a = hi := ⟨_, rfl⟩
 have ehi : (b : Int) - (a : Int) = (hi : Int) := by omega
 have hsort := Lib.hid (show Sort.heapSort ltInt d a b = heapPop ltInt a hi (heapBuild ltInt hi a ((hi - 1) / 2 + 1) d) by unfold Sort.heapSort; rw [hhi])
 have hhi' := Lib.hid hhi
 have hhb : a + hi ≤ d.size := by omega
 have h1 : 1 ≤ hi := by omega
 clear hhi
 have hdiv := Lib.hid (show ((hi : Int) - 1) / 2 = (((hi - 1) / 2 + 1 : Nat) : Int) - 1 by omega)
 go_enter Tryz.func195, Tryz.ntmps195
 go_wp2_with fail
 go_loopg [9] ((hi - 1) / 2 + 1) (HeapB w g d r hi a)
 case atStart => exact ⟨d, by rw [hdiv.out], by omega, rfl, hA, rfl⟩
 case round =>
  obtain ⟨dk, rfl, hk, hsk, hB, hO⟩ := hrel
  have hO' := Lib.hid hO
  clear hF hA hO; have hA := hB; clear hB
  have hF := hA.facts; (try simp only [uY] at hA hF)
  rcases Nat.eq_zero_or_pos gk with h0 | hpos
  · subst h0
    have e1 := Lib.hid (show dk = heapBuild ltInt hi a ((hi - 1) / 2 + 1) d by rw [← hO'.out]; rfl)
    go_wp2_with fail
    go_loopg [10] hi (HeapP w g d r hi a dk)
    case atStart => exact ⟨dk, by first | rfl | simp, Nat.le_refl _, hsk, hA, rfl⟩
    case round =>
     obtain ⟨dj, rfl, hk2, hsj, hB, hP⟩ := hrel
     have hP' := Lib.hid hP
     clear hF hA hP; have hA := hB; clear hB
     have hF := hA.facts; (try simp only [uY] at hA hF)
     rcases Nat.eq_zero_or_pos gk with h0 | hpos
     · subst h0
       go_wp2_with fail
       go_end0
       exact ⟨rfl, by rw [hsort.out, ← e1.out, ← hP'.out]; exact hA⟩
     · obtain ⟨m, rfl⟩ : ∃ m, gk = m + 1 := ⟨gk - 1, by omega⟩
       obtain ⟨q, hq⟩ : ∃ q, a + m = q := ⟨_, rfl⟩
       have eq : (a : Int) + (m : Int) = (q : Int) := by omega
       have hm : ((m + 1 : Nat) : Int) - 1 = (m : Int) := by omega
       rw [hm]
       clear hm
       by_cases haq : a = q
       · subst haq
         go_wp2_with fail
         (try clear hF); (have k1 := at_cell hA .here (i := a) (by omega)); (have k2 := at_cell hA .here (i := a) (by omega)); (have f1 := at_free hA .here (a)); (have f2 := at_free hA .here (a)); go_region; (have hB := (at_swp hA .here (i := a) (j := a) (by omega) (by omega)).drew); (clear k1 k2 f1 f2 hA); (have hA := hB); (clear hB); (generalize World.drew (World.setCell _ _ _) = wz at *)
         go_wp2_with fail
         refine (siftDown_any (g := g) (d := swp dj a a) (r := r) (hA.sep1 sR) (by rw [swp_size]; exact hsj.trans hn) (lo := 0) (hi := m) (first := a) (by rw [swp_size]; omega) (by omega) (by rw [swp_size]; omega)).mono ?_
         rintro e w1 ⟨rfl, hT⟩
         have hB := hA.call1 sR hT
         clear hA hT; have hA := hB; clear hB
         have hF := hA.facts; (try simp only [uY] at hA hF)
         go_wp2_with fail
         go_roundg m
         case measure => omega
         case rel => exact ⟨siftDown ltInt m a 0 (swp dj a a), by first | rfl | simp, by omega, by rw [siftDown_size _ _ _ (Nat.le_refl _), swp_size]; exact hsj, hA, by rw [← hP'.out, heapPop, hq]⟩
       · go_wp2_with fail
         (try clear hF); (have k1 := at_cell hA .here (i := a) (by omega)); (have k2 := at_cell hA .here (i := q) (by omega)); (have f1 := at_free hA .here (a)); (have f2 := at_free hA .here (q)); go_region; (have hB := (at_swp hA .here (i := a) (j := q) (by omega) (by omega)).drew); (clear k1 k2 f1 f2 hA); (have hA := hB); (clear hB); (generalize World.drew (World.setCell _ _ _) = wz at *)
         go_wp2_with fail
         refine (siftDown_any (g := g) (d := swp dj a q) (r := r) (hA.sep1 sR) (by rw [swp_size]; exact hsj.trans hn) (lo := 0) (hi := m) (first := a) (by rw [swp_size]; omega) (by omega) (by rw [swp_size]; omega)).mono ?_
         rintro e w1 ⟨rfl, hT⟩
         have hB := hA.call1 sR hT
         clear hA hT; have hA := hB; clear hB
         have hF := hA.facts; (try simp only [uY] at hA hF)
         go_wp2_with fail
         go_roundg m
         case measure => omega
         case rel => exact ⟨siftDown ltInt m a 0 (swp dj a q), by first | rfl | simp, by omega, by rw [siftDown_size _ _ _ (Nat.le_refl _), swp_size]; exact hsj, hA, by rw [← hP'.out, heapPop, hq]⟩
  · obtain ⟨m, rfl⟩ : ∃ m, gk = m + 1 := ⟨gk - 1, by omega⟩
    have hm : ((m + 1 : Nat) : Int) - 1 = (m : Int) := by omega
    rw [hm]
    clear hm
    go_wp2_with fail
    refine (siftDown_any (g := g) (d := dk) (r := r) (hA.sep1 sR) (hsk.trans hn) (lo := m) (hi := hi) (first := a) (by omega) (by omega) (by omega)).mono ?_
    rintro e w1 ⟨rfl, hT⟩
    have hB := hA.call1 sR hT
    clear hF hA hT; have hA := hB; clear hB
    have hF := hA.facts; (try simp only [uY] at hA hF)
    go_wp2_with fail
    go_roundg m
    case measure => omega
    case rel => exact ⟨siftDown ltInt hi a m dk, by first | rfl | simp, by omega, by rw [siftDown_size _ _ _ (Nat.le_refl _)]; exact hsk, hA, by rw [← hO'.out]; rfl⟩
def RevRel (w : World) (g : Nat) (d : Array Int) (r : List Value) (a b : Nat) (k : Nat) (u v : Value) (wr : World) : Prop :=
 ∃ (i j : Nat) (dk : Array Int), u = .int .i64 i ∧ v = .int .i64 j ∧ j - i ≤ k ∧ j < d.size ∧ i ≤ d.size ∧ dk.size = d.size ∧ At [blkU g d r] w [blkU g dk r] wr ∧ reverseLoop i j dk = reverseLoop a (b - 1) d
theorem reverse_any {w : World} {g cap n : Nat} {d : Array Int} {r : List Value} (h : Sep [blkU g d r] w) (hn : d.size = n) {a b : Nat} (hab : a < b) (hb : b ≤ d.size) (hsz : d.size < 4611686018427387904) :
 Calls Tryz.prog 198 #[.slice (some ⟨g, 0, none⟩) n cap, .int .i64 a, .int .i64 b] w fun e w' => e = .returned (.tuple #[]) ∧ At [blkU g d r] w [blkU g (Sort.reverseRange d a b) r] w' := by
 have hA := At.start h
 have hF := hA.facts
 clear h
 go_enter Tryz.func198, Tryz.ntmps198
 go_wp2_with fail
 go_loopg [6, 7] (b - 1 - a) (RevRel w g d r a b)
 case atStart => exact ⟨a, b - 1, d, rfl, by congr 1; omega, Nat.le_refl _, by omega, by omega, rfl, hA, rfl⟩
 case round =>
  obtain ⟨i, j, dk, rfl, rfl, hk, hj, hi, hsk, hB, hO⟩ := hrel
  clear hF hA; have hA := hB; clear hB
  have hF := hA.facts; (try simp only [uY] at hA hF)
  by_cases hij : i < j
  · have e1 := rowC_at (d := dk) (r := r) (i := i) (by omega)
    have e2 := rowC_at (d := dk) (r := r) (i := j) (by omega)
    have hx := Lib.hid (show reverseLoop i j dk = reverseLoop (i + 1) (j - 1) (swp dk i j) by rw [reverseLoop, if_pos hij])
    have hO' := Lib.hid hO
    clear hO
    go_wp2_with fail
    (try clear hF); (have k1 := at_cell hA .here (i := i) (by omega)); (have k2 := at_cell hA .here (i := j) (by omega)); (have f1 := at_free hA .here (i)); (have f2 := at_free hA .here (j)); go_region; (have hB := (at_swp hA .here (i := i) (j := j) (by omega) (by omega)).drew); (clear k1 k2 f1 f2 hA); (have hA := hB); (clear hB); (generalize World.drew (World.setCell _ _ _) = wz at *)
    go_wp2_with fail
    go_roundg (j - 1 - (i + 1))
    case measure => omega
    case rel => exact ⟨i + 1, j - 1, swp dk i j, by simp, by congr 1; omega, Nat.le_refl _, by omega, by omega, by rw [swp_size]; exact hsk, hA, by rw [← hO'.out, hx.out]⟩
  · have hx := Lib.hid (show reverseLoop i j dk = dk by rw [reverseLoop, if_neg hij])
    have hO' := Lib.hid hO
    clear hO
    go_wp2_with fail
    go_end0
    refine ⟨rfl, ?_⟩
    unfold Sort.reverseRange
    rw [← hO'.out, hx.out]
    exact hA
end Go.Proofs.YtpebabaigakagaaGreatDoor.SortU
end
