/- SortU5, SortU6, joined. -/
import Derived.Test.YtpebabaigakagaaGreatDoorP16
set_option linter.unusedSimpArgs false
set_option linter.unusedVariables false
set_option maxRecDepth 100000
set_option maxHeartbeats 16000000
section
namespace Go.Proofs.YtpebabaigakagaaGreatDoor.SortU
open Go.RowKit
open Go.Sort (swp ltInt scanUp scanDown partLoop partEqLoop)
def PartEqRel (L0 : List Part) (w : World) (g : Nat) (d : Array Int) (r : List Value) (a B i0 j0 : Nat) (k : Nat) (u v : Value) (wr : World) : Prop :=
 ∃ (i j : Nat) (dk : Array Int), u = .int .i64 i ∧ v = .int .i64 j ∧ a + 1 ≤ i ∧ i ≤ B + 1 ∧ a ≤ j ∧ j ≤ B ∧ j + 1 - i ≤ k ∧ dk.size = d.size ∧ At L0 w [blkU g dk r] wr ∧ partEqLoop ltInt a i j dk = partEqLoop ltInt a i0 j0 d
def PartEqPost (L0 : List Part) (w : World) (g : Nat) (d : Array Int) (r : List Value) (a b p : Nat) (e : Ending) (w' : World) : Prop :=
 e = .returned (.int .i64 (Sort.partitionEqual ltInt d a b p).1) ∧ At L0 w [blkU g (Sort.partitionEqual ltInt d a b p).2 r] w'
theorem partitionEqual_any {w : World} {g cap n : Nat} {d0 : Array Int} {r : List Value} (h : Sep [blkU g d0 r] w) (hn : d0.size = n) {a b p : Nat} (hap : a ≤ p) (hpb : p < b) (hb : b ≤ d0.size) (hsz : d0.size < 4611686018427387904) :
 Calls Tryz.prog 201 #[.slice (some ⟨g, 0, none⟩) n cap, .int .i64 a, .int .i64 b, .int .i64 p] w (PartEqPost [blkU g d0 r] w g d0 r a b p) := by
 have hres := Lib.hid (show Sort.partitionEqual ltInt d0 a b p = partEqLoop ltInt a (a + 1) (b - 1) (swp d0 a p) from rfl)
 obtain ⟨L0, hL0, hA⟩ : ∃ L0, L0 = [blkU g d0 r] ∧ At L0 w [blkU g d0 r] w := ⟨_, rfl, At.start h⟩
 rw [← hL0]
 clear h hL0
 obtain ⟨B, hBb⟩ : ∃ B, b = B + 1 := ⟨b - 1, by omega⟩
 have eB : (b : Int) - 1 = (B : Int) := by omega
 have gB1 : b ≤ B + 1 := by omega
 have gB2 : B + 1 ≤ b := by omega
 have hBb' := Lib.hid (show b - 1 = B by omega)
 clear hBb
 obtain ⟨A1, hA1⟩ : ∃ A1, a + 1 = A1 := ⟨_, rfl⟩
 have eA1 : (a : Int) + 1 = (A1 : Int) := by omega
 have hA1' := Lib.hid hA1
 have gA1 : a + 1 ≤ A1 ∧ A1 ≤ a + 1 := by omega
 obtain ⟨gA, gA'⟩ := gA1
 clear hA1
 go_enter Tryz.func201, Tryz.ntmps201
 go_upto_region 1 with fail
 go_cut [0] from 11 to 24 (fun u wc => u = .slice (some ⟨g, 0, none⟩) n cap ∧ At L0 w [blkU g (swp d0 a p) r] wc)
 case first =>
  by_cases hxy : a = p
  · subst hxy
    (try clear hF); (have k1 := at_cell hA .here (i := a) (by omega)); (have k2 := at_cell hA .here (i := a) (by omega)); (have f1 := at_free hA .here (a)); (have f2 := at_free hA .here (a)); go_region; (have hB := (at_swp hA .here (i := a) (j := a) (by omega) (by omega)).drew); (clear k1 k2 f1 f2 hA); (have hA := hB); (clear hB); (generalize World.drew (World.setCell _ _ _) = wz at *)
    go_wp2_with fail
    go_meet
    case rel => exact ⟨rfl, hA⟩
  · (try clear hF); (have k1 := at_cell hA .here (i := a) (by omega)); (have k2 := at_cell hA .here (i := p) (by omega)); (have f1 := at_free hA .here (a)); (have f2 := at_free hA .here (p)); go_region; (have hB := (at_swp hA .here (i := a) (j := p) (by omega) (by omega)).drew); (clear k1 k2 f1 f2 hA); (have hA := hB); (clear hB); (generalize World.drew (World.setCell _ _ _) = wz at *)
    go_wp2_with fail
    go_meet
    case rel => exact ⟨rfl, hA⟩
 case rest =>
  obtain ⟨rfl, hB⟩ := hcut
  clear hA; have hA := hB; clear hB
  obtain ⟨d1, hd1⟩ : ∃ z, swp d0 a p = z := ⟨_, rfl⟩
  rw [hd1] at hA
  have d1s : d1.size = d0.size := by rw [← hd1]; exact swp_size _ _ _
  have hd1' := Lib.hid hd1
  clear hd1
  go_upto_block 0 with fail
  go_cut [9, 10] from 29 to 82 (fun u v wc => ∃ (q : Nat) (dq : Array Int), u = .int .i64 q ∧ partEqLoop ltInt a A1 B d1 = (q, dq) ∧ At L0 w [blkU g dq r] wc)
  case first =>
   go_wp2_with fail
   go_loopg [9, 10] (B + 1 - A1) (PartEqRel L0 w g d1 r a B A1 B)
   case atStart => exact ⟨A1, B, d1, rfl, rfl, by omega, by omega, by omega, by omega, Nat.le_refl _, rfl, hA, rfl⟩
   case round =>
    obtain ⟨i, j, dk, rfl, rfl, hi1, hi2, hj1, hj2, hk, hsk, hB, hO⟩ := hrel
    have hO' := Lib.hid hO
    clear hA hO; have hA := hB; clear hB
    go_upto_block 2 with fail
    go_cut [9] from 29 to 45 (fun u wc => ∃ q : Nat, u = .int .i64 q ∧ i ≤ q ∧ (q ≤ j + 1 ∨ q = i) ∧ scanUp (leP dk a) dk j i = q ∧ At L0 w [blkU g dk r] wc)
    case first =>
     go_wp2_with fail
     go_loopg [9] (j + 1 - i) (ScanU L0 w g dk r (leP dk a) i j)
     case atStart => exact ⟨i, by first | rfl | simp, Nat.le_refl _, .inr rfl, Nat.le_refl _, hA, rfl⟩
     case round =>
      obtain ⟨x, rfl, hx1, hx2, hk, hB, hO⟩ := hrel
      have hO' := Lib.hid hO
      clear hA hO; have hA := hB; clear hB
      have hF := hA.facts
      have ea := rowC_at (d := dk) (r := r) (i := a) (by omega)
      have hF := hA.facts; (try simp only [uY] at hA hF)
      by_cases hc : x ≤ j
      · have hg : decide ((x : Int) ≤ ((j : Nat) : Int)) = true := by simp; omega
        have ex := rowC_at (d := dk) (r := r) (i := x) (by omega)
        cases hl : ltU (atU dk a) (atU dk x)
        · have hs := Lib.hid (scanUp_go (p := leP dk a) (d := dk) (j := j) hc (show leP dk a dk[x]! = true from by unfold leP; simpa [ltU, atU] using hl))
          have hl' := Lib.hid hl
          clear hl
          go_wp2_with fail
          (refine cA hA ?_); (have hn1 := Cl.none hA); (have hn2 := Cl.none2 hA); (repeat (first | go_big_quiet_skip | (go_big_quiet_want; (first | (refine qL ?_; go_frame; go_big_quiet_on) | (go_big_quiet_op; (first | go_big_quiet_on | ((apply Exists.intro); (refine ⟨fun w1 hw => ?_, ?_⟩); (focus ((have hw := Cl.out hw); (exact less_in hw _ _ hl'.out))); (go_big_quiet_on))))))))
          (refine wpQuiet_nil ?_); (intro w1 hB); (clear hF hA hn1 hn2); (have hA := Cl.out hB); (clear hB); have hF := hA.facts; (try simp only [uY] at hA hF)
          go_wp2_with fail
          go_roundg (gk - 1)
          case measure => omega
          case rel => exact ⟨x + 1, by simp, by omega, by omega, by omega, hA, by rw [← hO'.out, hs.out]⟩
        · have hs := Lib.hid (scanUp_stop (p := leP dk a) (d := dk) (j := j) (fun _ => (show leP dk a dk[x]! = false from by unfold leP; simpa [ltU, atU] using hl)))
          have hl' := Lib.hid hl
          clear hl
          go_wp2_with fail
          (refine cA hA ?_); (have hn1 := Cl.none hA); (have hn2 := Cl.none2 hA); (repeat (first | go_big_quiet_skip | (go_big_quiet_want; (first | (refine qL ?_; go_frame; go_big_quiet_on) | (go_big_quiet_op; (first | go_big_quiet_on | ((apply Exists.intro); (refine ⟨fun w1 hw => ?_, ?_⟩); (focus ((have hw := Cl.out hw); (exact less_in hw _ _ hl'.out))); (go_big_quiet_on))))))))
          (refine wpQuiet_nil ?_); (intro w1 hB); (clear hF hA hn1 hn2); (have hA := Cl.out hB); (clear hB); have hF := hA.facts; (try simp only [uY] at hA hF)
          go_wp2_with fail
          go_meet
          case rel => exact ⟨x, rfl, by omega, by omega, by rw [← hO'.out, hs.out], hA⟩
      · have hg : decide ((x : Int) ≤ ((j : Nat) : Int)) = false := by simp; omega
        have hs := Lib.hid (scanUp_stop (p := leP dk a) (d := dk) (j := j) (i := x) (fun h => absurd h hc))
        go_wp2_with fail
        (refine cA hA ?_); (have hn1 := Cl.none hA); (have hn2 := Cl.none2 hA); (repeat (first | go_big_quiet_skip | (go_big_quiet_want; (first | (refine qL ?_; go_frame; go_big_quiet_on) | (go_big_quiet_op; (first | go_big_quiet_on | ((apply Exists.intro); (refine ⟨fun w1 hw => ?_, ?_⟩); (focus ((have hw := Cl.out hw); (fail))); (go_big_quiet_on))))))))
        (refine wpQuiet_nil ?_); (intro w1 hB); (clear hF hA hn1 hn2); (have hA := Cl.out hB); (clear hB); have hF := hA.facts; (try simp only [uY] at hA hF)
        go_wp2_with fail
        go_meet
        case rel => exact ⟨x, rfl, by omega, by omega, by rw [← hO'.out, hs.out], hA⟩
    case rest =>
     obtain ⟨i4, rfl, i41, i42, i43, hB⟩ := hcut
     clear hA; have hA := hB; clear hB
     have i44 := Lib.hid i43
     clear i43
     go_upto_block 4 with fail
     go_cut [10] from 46 to 61 (fun u wc => ∃ q : Nat, u = .int .i64 q ∧ q ≤ j ∧ (i4 ≤ q + 1 ∨ q = j) ∧ scanDown (gtP dk a) dk i4 j = q ∧ At L0 w [blkU g dk r] wc)
     case first =>
      go_wp2_with fail
      go_loopg [10] (j + 1 - i4) (ScanD L0 w g dk r (gtP dk a) i4 j)
      case atStart => exact ⟨j, by first | rfl | simp, Nat.le_refl _, .inr rfl, Nat.le_refl _, hA, rfl⟩
      case round =>
       obtain ⟨x, rfl, hx1, hx2, hk, hB, hO⟩ := hrel
       have hO' := Lib.hid hO
       clear hA hO; have hA := hB; clear hB
       have hF := hA.facts
       have ea := rowC_at (d := dk) (r := r) (i := a) (by omega)
       have hF := hA.facts; (try simp only [uY] at hA hF)
       by_cases hc : i4 ≤ x
       · have hg : decide (((i4 : Nat) : Int) ≤ (x : Int)) = true := by simp; omega
         obtain ⟨y, hy⟩ : ∃ y, x = y + 1 := ⟨x - 1, by omega⟩
         have ey : (x : Int) - 1 = (y : Int) := by omega
         have gy1 : x ≤ y + 1 := by omega
         have gy2 : y + 1 ≤ x := by omega
         have hy' := Lib.hid hy
         clear hy
         have ex := rowC_at (d := dk) (r := r) (i := x) (by omega)
         cases hl : ltU (atU dk a) (atU dk x)
         · have hs := Lib.hid (scanDown_stop (p := gtP dk a) (d := dk) (i := i4) (fun _ => (show gtP dk a dk[x]! = false from by unfold gtP; simpa [ltU, atU] using hl)))
           have hl' := Lib.hid hl
           clear hl
           go_wp2_with fail
           (refine cA hA ?_); (have hn1 := Cl.none hA); (have hn2 := Cl.none2 hA); (repeat (first | go_big_quiet_skip | (go_big_quiet_want; (first | (refine qL ?_; go_frame; go_big_quiet_on) | (go_big_quiet_op; (first | go_big_quiet_on | ((apply Exists.intro); (refine ⟨fun w1 hw => ?_, ?_⟩); (focus ((have hw := Cl.out hw); (exact less_in hw _ _ hl'.out))); (go_big_quiet_on))))))))
           (refine wpQuiet_nil ?_); (intro w1 hB); (clear hF hA hn1 hn2); (have hA := Cl.out hB); (clear hB); have hF := hA.facts; (try simp only [uY] at hA hF)
           go_wp2_with fail
           go_meet
           case rel => exact ⟨x, rfl, by omega, by omega, by rw [← hO'.out, hs.out], hA⟩
         · have hs := Lib.hid (scanDown_go' (p := gtP dk a) (d := dk) (i := i4) hc hy'.out (show gtP dk a dk[x]! = true from by unfold gtP; simpa [ltU, atU] using hl))
           have hl' := Lib.hid hl
           clear hl
           go_wp2_with fail
           (refine cA hA ?_); (have hn1 := Cl.none hA); (have hn2 := Cl.none2 hA); (repeat (first | go_big_quiet_skip | (go_big_quiet_want; (first | (refine qL ?_; go_frame; go_big_quiet_on) | (go_big_quiet_op; (first | go_big_quiet_on | ((apply Exists.intro); (refine ⟨fun w1 hw => ?_, ?_⟩); (focus ((have hw := Cl.out hw); (exact less_in hw _ _ hl'.out))); (go_big_quiet_on))))))))
           (refine wpQuiet_nil ?_); (intro w1 hB); (clear hF hA hn1 hn2); (have hA := Cl.out hB); (clear hB); have hF := hA.facts; (try simp only [uY] at hA hF)
           go_wp2_with fail
           go_roundg (gk - 1)
           case measure => omega
           case rel => exact ⟨y, by first | rfl | simp, by omega, by omega, by omega, hA, by rw [← hO'.out, hs.out]⟩
       · have hg : decide (((i4 : Nat) : Int) ≤ (x : Int)) = false := by simp; omega
         have hs := Lib.hid (scanDown_stop (p := gtP dk a) (d := dk) (i := i4) (j := x) (fun h => absurd h hc))
         go_wp2_with fail
         (refine cA hA ?_); (have hn1 := Cl.none hA); (have hn2 := Cl.none2 hA); (repeat (first | go_big_quiet_skip | (go_big_quiet_want; (first | (refine qL ?_; go_frame; go_big_quiet_on) | (go_big_quiet_op; (first | go_big_quiet_on | ((apply Exists.intro); (refine ⟨fun w1 hw => ?_, ?_⟩); (focus ((have hw := Cl.out hw); (fail))); (go_big_quiet_on))))))))
         (refine wpQuiet_nil ?_); (intro w1 hB); (clear hF hA hn1 hn2); (have hA := Cl.out hB); (clear hB); have hF := hA.facts; (try simp only [uY] at hA hF)
         go_wp2_with fail
         go_meet
         case rel => exact ⟨x, rfl, by omega, by omega, by rw [← hO'.out, hs.out], hA⟩
     case rest =>
      obtain ⟨j4, rfl, j41, j42, j43, hB⟩ := hcut
      clear hA; have hA := hB; clear hB
      have j44 := Lib.hid j43
      clear j43
      by_cases hij : j4 < i4
      · have hs := Lib.hid (partEq_stop i44.out j44.out hij)
        go_wp2_with fail
        go_meet
        case rel => exact ⟨i4, dk, rfl, by rw [← hO'.out, hs.out], hA⟩
      · have hle2 : i4 ≤ j4 := by omega
        have hs := Lib.hid (partEq_go i44.out j44.out hle2 (by omega) (by omega))
        clear hij
        go_upto_region 8 with fail
        go_cut [0] from 29 to 82 (fun u wc => u = .slice (some ⟨g, 0, none⟩) n cap ∧ At L0 w [blkU g (swp dk i4 j4) r] wc)
        case first =>
         by_cases hxy : i4 = j4
         · subst hxy
           (try clear hF); (have k1 := at_cell hA .here (i := i4) (by omega)); (have k2 := at_cell hA .here (i := i4) (by omega)); (have f1 := at_free hA .here (i4)); (have f2 := at_free hA .here (i4)); go_region; (have hB := (at_swp hA .here (i := i4) (j := i4) (by omega) (by omega)).drew); (clear k1 k2 f1 f2 hA); (have hA := hB); (clear hB); (generalize World.drew (World.setCell _ _ _) = wz at *)
           go_wp2_with fail
           go_meet
           case rel => exact ⟨rfl, hA⟩
         · (try clear hF); (have k1 := at_cell hA .here (i := i4) (by omega)); (have k2 := at_cell hA .here (i := j4) (by omega)); (have f1 := at_free hA .here (i4)); (have f2 := at_free hA .here (j4)); go_region; (have hB := (at_swp hA .here (i := i4) (j := j4) (by omega) (by omega)).drew); (clear k1 k2 f1 f2 hA); (have hA := hB); (clear hB); (generalize World.drew (World.setCell _ _ _) = wz at *)
           go_wp2_with fail
           go_meet
           case rel => exact ⟨rfl, hA⟩
        case rest =>
         obtain ⟨rfl, hB⟩ := hcut
         clear hA; have hA := hB; clear hB
         obtain ⟨d5, hd5⟩ : ∃ z, swp dk i4 j4 = z := ⟨_, rfl⟩
         rw [hd5] at hA
         have d5s : d5.size = dk.size := by rw [← hd5]; exact swp_size _ _ _
         have hd5' := Lib.hid hd5
         clear hd5
         go_wp2_with fail
         go_roundg (j4 - 1 + 1 - (i4 + 1))
         case measure => omega
         case rel => exact ⟨i4 + 1, j4 - 1, d5, by simp, by congr 1; omega, by omega, by omega, by omega, by omega, Nat.le_refl _, by omega, hA, by rw [← hO'.out, hs.out, hd5'.out]⟩
  case rest =>
   obtain ⟨q, dq, rfl, hq3, hB⟩ := hcut
   clear hA; have hA := hB; clear hB
   have hq4 := Lib.hid hq3
   clear hq3
   have hp := Lib.hid (show Sort.partitionEqual ltInt d0 a b p = (q, dq) by rw [hres.out]; simp only [hd1'.out, hBb'.out, hA1'.out, hq4.out])
   go_wp2_with fail
   refine bodyPost_ret (v := .int .i64 q) (by simp [results, Tryz.results201, go_sem]) rfl ?_
   unfold PartEqPost
   rw [hp.out]
   exact ⟨rfl, hA⟩
end Go.Proofs.YtpebabaigakagaaGreatDoor.SortU
end
section
namespace Go.Proofs.YtpebabaigakagaaGreatDoor.SortU
open Go.RowKit
open Go.Sort (swp ltInt scanSorted shiftDown shiftUp partialIns)
theorem scanS_go {d : Array Int} {b i y : Nat} (hy : i = y + 1) (h : i < b) (hl : ltU (atU d i) (atU d y) = false) : scanSorted ltInt d b i = scanSorted ltInt d b (i + 1) := by
 subst hy
 have hl' : ltInt d[y + 1]! d[y]! = false := hl
 rw [scanSorted, if_pos (by simp [h, hl'])]
theorem scanS_stop {d : Array Int} {b i : Nat} (h : i < b → ∃ y, i = y + 1 ∧ ltU (atU d i) (atU d y) = true) : scanSorted ltInt d b i = i := by
 rw [scanSorted, if_neg]
 simp only [Bool.and_eq_true, decide_eq_true_eq, not_and, Bool.not_eq_true]
 intro hb
 obtain ⟨y, rfl, hl⟩ := h hb
 have hl' : ltInt d[y + 1]! d[y]! = true := hl
 simp [hl']
theorem shiftD_go {d : Array Int} {x y : Nat} (hx : x = y + 1) (hl : ltU (atU d x) (atU d y) = true) : shiftDown ltInt x d = shiftDown ltInt y (swp d x y) := by
 subst hx
 have hl' : ltInt d[y + 1]! d[y]! = true := hl
 rw [shiftDown, hl']
 rfl
theorem shiftD_stop {d : Array Int} {x y : Nat} (hx : x = y + 1) (hl : ltU (atU d x) (atU d y) = false) : shiftDown ltInt x d = d := by
 subst hx
 have hl' : ltInt d[y + 1]! d[y]! = false := hl
 rw [shiftDown, hl']
 rfl
theorem shiftU_go {d : Array Int} {b x y : Nat} (hx : x = y + 1) (h : x < b) (hl : ltU (atU d x) (atU d y) = true) : shiftUp ltInt b x d = shiftUp ltInt b (x + 1) (swp d x y) := by
 subst hx
 have hl' : ltInt d[y + 1]! d[y]! = true := hl
 rw [shiftUp, if_pos h, Nat.add_sub_cancel, hl']
 rfl
theorem shiftU_stop {d : Array Int} {b x : Nat} (h : x < b → ∃ y, x = y + 1 ∧ ltU (atU d x) (atU d y) = false) : shiftUp ltInt b x d = d := by
 rw [shiftUp]
 by_cases hb : x < b
 · obtain ⟨y, rfl, hl⟩ := h hb
   have hl' : ltInt d[y + 1]! d[y]! = false := hl
   rw [if_pos hb, Nat.add_sub_cancel, hl']
   rfl
 · rw [if_neg hb]
def stepD (d : Array Int) (a i : Nat) : Array Int := if i - a ≥ 2 then shiftDown ltInt (i - 1) (swp d i (i - 1)) else swp d i (i - 1)
def stepU (d : Array Int) (b i : Nat) : Array Int := if b - i ≥ 2 then shiftUp ltInt b (i + 1) d else d
theorem pi_end {a b s i i' : Nat} {d : Array Int} (hi : scanSorted ltInt d b i = i') (h : i' = b) : partialIns ltInt a b (s + 1) i d = (d, true) := by
 rw [partialIns]
 simp only [hi]
 rw [if_pos h]
theorem pi_small {a b s i i' : Nat} {d : Array Int} (hi : scanSorted ltInt d b i = i') (h : ¬ i' = b) (h2 : b - a < 50) : partialIns ltInt a b (s + 1) i d = (d, false) := by
 rw [partialIns]
 simp only [hi]
 rw [if_neg h, if_pos h2]
theorem pi_go {a b s i i' : Nat} {d : Array Int} (hi : scanSorted ltInt d b i = i') (h : ¬ i' = b) (h2 : ¬ b - a < 50) : partialIns ltInt a b (s + 1) i d = partialIns ltInt a b s i' (stepU (stepD d a i') b i') := by
 rw [partialIns]
 simp only [hi]
 rw [if_neg h, if_neg h2]
 rfl
theorem shiftDown_size : ∀ (x : Nat) (d : Array Int), (shiftDown ltInt x d).size = d.size
 | 0, d => rfl
 | x + 1, d => by
  rw [shiftDown]
  split
  · rfl
  · rw [shiftDown_size x, swp_size]
theorem stepD_size (d : Array Int) (a i : Nat) : (stepD d a i).size = d.size := by
 unfold stepD
 split
 · rw [shiftDown_size, swp_size]
 · rw [swp_size]
def PIPost (L0 : List Part) (w : World) (g : Nat) (d : Array Int) (r : List Value) (a b : Nat) (e : Ending) (w' : World) : Prop :=
 e = .returned (.bool (Sort.partialInsertionSort ltInt d a b).2) ∧ At L0 w [blkU g (Sort.partialInsertionSort ltInt d a b).1 r] w'
def PIRel (L0 : List Part) (w : World) (g : Nat) (d : Array Int) (r : List Value) (a b : Nat) (k : Nat) (u v : Value) (wr : World) : Prop :=
 ∃ (i : Nat) (dk : Array Int), u = .int .i64 i ∧ v = .int .i64 (5 - (k : Int)) ∧ k ≤ 5 ∧ a + 1 ≤ i ∧ i ≤ b ∧ dk.size = d.size ∧ At L0 w [blkU g dk r] wr ∧ partialIns ltInt a b k i dk = partialIns ltInt a b 5 (a + 1) d
def ScanS (L0 : List Part) (w : World) (g : Nat) (d : Array Int) (r : List Value) (b i0 : Nat) (k : Nat) (u : Value) (wr : World) : Prop :=
 ∃ i : Nat, u = .int .i64 i ∧ i0 ≤ i ∧ i + k = b ∧ At L0 w [blkU g d r] wr ∧ scanSorted ltInt d b i = scanSorted ltInt d b i0
def ShD (L0 : List Part) (w : World) (g : Nat) (d : Array Int) (r : List Value) (x0 : Nat) (k : Nat) (u : Value) (wr : World) : Prop :=
 ∃ (x : Nat) (dk : Array Int), u = .int .i64 x ∧ x ≤ x0 ∧ x ≤ k ∧ dk.size = d.size ∧ At L0 w [blkU g dk r] wr ∧ shiftDown ltInt x dk = shiftDown ltInt x0 d
def ShU (L0 : List Part) (w : World) (g : Nat) (d : Array Int) (r : List Value) (b x0 : Nat) (k : Nat) (u : Value) (wr : World) : Prop :=
 ∃ (x : Nat) (dk : Array Int), u = .int .i64 x ∧ x0 ≤ x ∧ x + k = b ∧ dk.size = d.size ∧ At L0 w [blkU g dk r] wr ∧ shiftUp ltInt b x dk = shiftUp ltInt b x0 d
theorem partialIns_any {w : World} {g cap n : Nat} {d0 : Array Int} {r : List Value} (h : Sep [blkU g d0 r] w) (hn : d0.size = n) {a b : Nat} (hab : a < b) (hb : b ≤ d0.size) (hsz : d0.size < 4611686018427387904) :
 Calls Tryz.prog 199 #[.slice (some ⟨g, 0, none⟩) n cap, .int .i64 a, .int .i64 b] w (PIPost [blkU g d0 r] w g d0 r a b) := by
 have hres := Lib.hid (show Sort.partialInsertionSort ltInt d0 a b = partialIns ltInt a b 5 (a + 1) d0 from rfl)
 obtain ⟨L0, hL0, hA⟩ : ∃ L0, L0 = [blkU g d0 r] ∧ At L0 w [blkU g d0 r] w := ⟨_, rfl, At.start h⟩
 rw [← hL0]
 clear h hL0
 go_enter Tryz.func199, Tryz.ntmps199
 go_wp2_with fail
 go_loopg [7, 8] 5 (PIRel L0 w g d0 r a b)
 case atStart => exact ⟨a + 1, d0, by simp, by simp, Nat.le_refl _, Nat.le_refl _, by omega, rfl, hA, rfl⟩
 case round =>
  obtain ⟨i, dk, rfl, rfl, hk5, hi1, hi2, hsk, hB, hO⟩ := hrel
  have hO' := Lib.hid hO
  clear hA hO; have hA := hB; clear hB
  rcases Nat.eq_zero_or_pos gk with h0 | hpos
  · subst h0
    go_wp2_with fail
    refine bodyPost_ret (v := .bool false) (by simp [results, Tryz.results199, go_sem]) rfl ?_
    unfold PIPost
    rw [hres.out, ← hO'.out]
    exact ⟨rfl, hA⟩
  · obtain ⟨s, rfl⟩ : ∃ s, gk = s + 1 := ⟨gk - 1, by omega⟩
    have hs5 : decide ((5 : Int) - ((s + 1 : Nat) : Int) < 5) = true := by simp; omega
    have hs5' : (5 : Int) - ((s + 1 : Nat) : Int) < 5 := by omega
    obtain ⟨c, hc⟩ : ∃ c : Int, (5 : Int) - ((s + 1 : Nat) : Int) = c := ⟨_, rfl⟩
    rw [hc] at hs5 hs5'
    rw [hc]
    have hcb : 0 ≤ c := by omega
    have hc2 := Lib.hid hc
    clear hc
    go_upto_block 2 with fail
    go_cut [7] from 17 to 34 (fun u wc => ∃ q : Nat, u = .int .i64 q ∧ i ≤ q ∧ q ≤ b ∧ scanSorted ltInt dk b i = q ∧ At L0 w [blkU g dk r] wc)
    case first =>
     go_wp2_with fail
     go_loopg [7] (b - i) (ScanS L0 w g dk r b i)
     case atStart => exact ⟨i, rfl, Nat.le_refl _, by omega, hA, rfl⟩
     case round =>
      obtain ⟨x, rfl, hx1, hx2, hB, hS⟩ := hrel
      have hS' := Lib.hid hS
      clear hA hS; have hA := hB; clear hB
      have hF := hA.facts; (try simp only [uY] at hA hF)
      by_cases hxb : x < b
      · have hg : decide ((x : Int) < (b : Int)) = true := by simp; omega
        obtain ⟨y, hy⟩ : ∃ y, x = y + 1 := ⟨x - 1, by omega⟩
        have ey : (x : Int) - 1 = (y : Int) := by omega
        have gy1 : x ≤ y + 1 := by omega
        have gy2 : y + 1 ≤ x := by omega
        have hy' := Lib.hid hy
        clear hy
        have e1 := rowC_at (d := dk) (r := r) (i := x) (by omega)
        have e2 := rowC_at (d := dk) (r := r) (i := y) (by omega)
        cases hl : ltU (atU dk x) (atU dk y)
        · have hq := Lib.hid (scanS_go hy'.out hxb hl)
          have hl' := Lib.hid hl
          clear hl
          go_wp2_with fail
          (refine cA hA ?_); (have hn1 := Cl.none hA); (have hn2 := Cl.none2 hA); (repeat (first | go_big_quiet_skip | (go_big_quiet_want; (first | (refine qL ?_; go_frame; go_big_quiet_on) | (go_big_quiet_op; (first | go_big_quiet_on | ((apply Exists.intro); (refine ⟨fun w1 hw => ?_, ?_⟩); (focus ((have hw := Cl.out hw); (exact less_in hw _ _ hl'.out))); (go_big_quiet_on))))))))
          (refine wpQuiet_nil ?_); (intro w1 hB); (clear hF hA hn1 hn2); (have hA := Cl.out hB); (clear hB); have hF := hA.facts; (try simp only [uY] at hA hF)
          go_wp2_with fail
          go_roundg (gk - 1)
          case measure => omega
          case rel => exact ⟨x + 1, by simp, by omega, by omega, hA, by rw [← hS'.out, hq.out]⟩
        · have hq := Lib.hid (scanS_stop (d := dk) (b := b) (i := x) (fun _ => ⟨y, hy'.out, hl⟩))
          have hl' := Lib.hid hl
          clear hl
          go_wp2_with fail
          (refine cA hA ?_); (have hn1 := Cl.none hA); (have hn2 := Cl.none2 hA); (repeat (first | go_big_quiet_skip | (go_big_quiet_want; (first | (refine qL ?_; go_frame; go_big_quiet_on) | (go_big_quiet_op; (first | go_big_quiet_on | ((apply Exists.intro); (refine ⟨fun w1 hw => ?_, ?_⟩); (focus ((have hw := Cl.out hw); (exact less_in hw _ _ hl'.out))); (go_big_quiet_on))))))))
          (refine wpQuiet_nil ?_); (intro w1 hB); (clear hF hA hn1 hn2); (have hA := Cl.out hB); (clear hB); have hF := hA.facts; (try simp only [uY] at hA hF)
          go_wp2_with fail
          go_meet
          case rel => exact ⟨x, rfl, by omega, by omega, by rw [← hS'.out, hq.out], hA⟩
      · have hg : decide ((x : Int) < (b : Int)) = false := by simp; omega
        have hq := Lib.hid (scanS_stop (d := dk) (b := b) (i := x) (fun h => absurd h hxb))
        go_wp2_with fail
        (refine cA hA ?_); (have hn1 := Cl.none hA); (have hn2 := Cl.none2 hA); (repeat (first | go_big_quiet_skip | (go_big_quiet_want; (first | (refine qL ?_; go_frame; go_big_quiet_on) | (go_big_quiet_op; (first | go_big_quiet_on | ((apply Exists.intro); (refine ⟨fun w1 hw => ?_, ?_⟩); (focus ((have hw := Cl.out hw); (fail))); (go_big_quiet_on))))))))
        (refine wpQuiet_nil ?_); (intro w1 hB); (clear hF hA hn1 hn2); (have hA := Cl.out hB); (clear hB); have hF := hA.facts; (try simp only [uY] at hA hF)
        go_wp2_with fail
        go_meet
        case rel => exact ⟨x, rfl, by omega, by omega, by rw [← hS'.out, hq.out], hA⟩
    case rest =>
     obtain ⟨q, rfl, hq1, hq2, hq3, hB⟩ := hcut
     clear hA; have hA := hB; clear hB
     have hq4 := Lib.hid hq3
     clear hq3
     by_cases hqb : q = b
     · subst hqb
       have hp := Lib.hid (pi_end (a := a) (s := s) hq4.out rfl)
       go_wp2_with fail
       refine bodyPost_ret (v := .bool true) (by simp [results, Tryz.results199, go_sem]) rfl ?_
       unfold PIPost
       rw [hres.out, ← hO'.out, hp.out]
       exact ⟨rfl, hA⟩
     · have hqb' : ¬ (q : Int) = (b : Int) := by omega
       by_cases h50 : b - a < 50
       · have h50' : (b : Int) - (a : Int) < 50 := by omega
         have hp := Lib.hid (pi_small (s := s) hq4.out hqb h50)
         go_wp2_with fail
         refine bodyPost_ret (v := .bool false) (by simp [results, Tryz.results199, go_sem]) rfl ?_
         unfold PIPost
         rw [hres.out, ← hO'.out, hp.out]
         exact ⟨rfl, hA⟩
       · have h50' : ¬ (b : Int) - (a : Int) < 50 := by omega
         have hp := Lib.hid (pi_go (s := s) hq4.out hqb h50)
         obtain ⟨y, hy⟩ : ∃ y, q = y + 1 := ⟨q - 1, by omega⟩
         have ey : (q : Int) - 1 = (y : Int) := by omega
         have gy1 : q ≤ y + 1 := by omega
         have gy2 : y + 1 ≤ q := by omega
         have hy' := Lib.hid (show q - 1 = y by omega)
         clear hy
         go_wp2_with fail
         (try clear hF); (have k1 := at_cell hA .here (i := q) (by omega)); (have k2 := at_cell hA .here (i := y) (by omega)); (have f1 := at_free hA .here (q)); (have f2 := at_free hA .here (y)); go_region; (have hB := (at_swp hA .here (i := q) (j := y) (by omega) (by omega)).drew); (clear k1 k2 f1 f2 hA); (have hA := hB); (clear hB); (generalize World.drew (World.setCell _ _ _) = wz at *)
         obtain ⟨d1, hd1⟩ : ∃ z, swp dk q y = z := ⟨_, rfl⟩
         rw [hd1] at hA
         have d1s : d1.size = dk.size := by rw [← hd1]; exact swp_size _ _ _
         have hd1' := Lib.hid hd1
         clear hd1
         go_upto_if 61 with fail
         go_cut [9] from 17 to 94 (fun u wc => ∃ d2 : Array Int, stepD dk a q = d2 ∧ At L0 w [blkU g d2 r] wc)
         case first =>
          by_cases h2 : q - a ≥ 2
          · have h2' : (2 : Int) ≤ (q : Int) - (a : Int) := by omega
            have hst := Lib.hid (show stepD dk a q = shiftDown ltInt y d1 by unfold stepD; rw [if_pos h2, hy'.out, hd1'.out])
            go_wp2_with fail
            go_loopg [9] y (ShD L0 w g d1 r y)
            case atStart => exact ⟨y, d1, rfl, Nat.le_refl _, Nat.le_refl _, rfl, hA, rfl⟩
            case round =>
             obtain ⟨x, dj, rfl, hx1, hx2, hsj, hB, hS⟩ := hrel
             have hS' := Lib.hid hS
             clear hA hS; have hA := hB; clear hB
             have hF := hA.facts; (try simp only [uY] at hA hF)
             by_cases hx0 : 1 ≤ x
             · obtain ⟨z, hz⟩ : ∃ z, x = z + 1 := ⟨x - 1, by omega⟩
               have ez : (x : Int) - 1 = (z : Int) := by omega
               have gz1 : x ≤ z + 1 := by omega
               have gz2 : z + 1 ≤ x := by omega
               have hz' := Lib.hid hz
               clear hz
               have e1 := rowC_at (d := dj) (r := r) (i := x) (by omega)
               have e2 := rowC_at (d := dj) (r := r) (i := z) (by omega)
               cases hl : ltU (atU dj x) (atU dj z)
               · have hq := Lib.hid (shiftD_stop hz'.out hl)
                 have hl' := Lib.hid hl
                 clear hl
                 go_wp2_with fail
                 (refine cA hA ?_); (have hn1 := Cl.none hA); (have hn2 := Cl.none2 hA); (repeat (first | go_big_quiet_skip | (go_big_quiet_want; (first | (refine qL ?_; go_frame; go_big_quiet_on) | (go_big_quiet_op; (first | go_big_quiet_on | ((apply Exists.intro); (refine ⟨fun w1 hw => ?_, ?_⟩); (focus ((have hw := Cl.out hw); (exact less_in hw _ _ hl'.out))); (go_big_quiet_on))))))))
                 (refine wpQuiet_nil ?_); (intro w1 hB); (clear hF hA hn1 hn2); (have hA := Cl.out hB); (clear hB); have hF := hA.facts; (try simp only [uY] at hA hF)
                 go_wp2_with fail
                 go_meet
                 case rel => exact ⟨dj, by rw [hst.out, ← hS'.out, hq.out], hA⟩
               · have hq := Lib.hid (shiftD_go hz'.out hl)
                 have hl' := Lib.hid hl
                 clear hl
                 go_wp2_with fail
                 (refine cA hA ?_); (have hn1 := Cl.none hA); (have hn2 := Cl.none2 hA); (repeat (first | go_big_quiet_skip | (go_big_quiet_want; (first | (refine qL ?_; go_frame; go_big_quiet_on) | (go_big_quiet_op; (first | go_big_quiet_on | ((apply Exists.intro); (refine ⟨fun w1 hw => ?_, ?_⟩); (focus ((have hw := Cl.out hw); (exact less_in hw _ _ hl'.out))); (go_big_quiet_on))))))))
                 (refine wpQuiet_nil ?_); (intro w1 hB); (clear hF hA hn1 hn2); (have hA := Cl.out hB); (clear hB); have hF := hA.facts; (try simp only [uY] at hA hF)
                 go_wp2_with fail
                 (try clear hF); (have k1 := at_cell hA .here (i := x) (by omega)); (have k2 := at_cell hA .here (i := z) (by omega)); (have f1 := at_free hA .here (x)); (have f2 := at_free hA .here (z)); go_region; (have hB := (at_swp hA .here (i := x) (j := z) (by omega) (by omega)).drew); (clear k1 k2 f1 f2 hA); (have hA := hB); (clear hB); (generalize World.drew (World.setCell _ _ _) = wz at *)
                 go_wp2_with fail
                 go_roundg z
                 case measure => omega
                 case rel => exact ⟨z, swp dj x z, rfl, by omega, Nat.le_refl _, by rw [swp_size]; exact hsj, hA, by rw [← hS'.out, hq.out]⟩
             · have hx00 : x = 0 := by omega
               subst hx00
               have hq := Lib.hid (show shiftDown ltInt 0 dj = dj from rfl)
               go_wp2_with fail
               go_meet
               case rel => exact ⟨dj, by rw [hst.out, ← hS'.out, hq.out], hA⟩
          · have h2' : (q : Int) - (a : Int) < 2 := by omega
            have hst := Lib.hid (show stepD dk a q = d1 by unfold stepD; rw [if_neg h2, hy'.out, hd1'.out])
            go_wp2_with fail
            go_meet
            case rel => exact ⟨d1, hst.out, hA⟩
         case rest =>
          obtain ⟨d2, hd2, hB⟩ := hcut
          clear hA; have hA := hB; clear hB
          have d2s : d2.size = dk.size := by rw [← hd2]; exact stepD_size _ _ _
          have hd2' := Lib.hid hd2
          clear hd2
          by_cases h2 : b - q ≥ 2
          · have h2' : (2 : Int) ≤ (b : Int) - (q : Int) := by omega
            have hst := Lib.hid (show stepU d2 b q = shiftUp ltInt b (q + 1) d2 by unfold stepU; rw [if_pos h2])
            go_wp2_with fail
            go_loopg [10] (b - (q + 1)) (ShU L0 w g d2 r b (q + 1))
            case atStart => exact ⟨q + 1, d2, by simp, Nat.le_refl _, by omega, rfl, hA, rfl⟩
            case round =>
             obtain ⟨x, dj, rfl, hx1, hx2, hsj, hB, hS⟩ := hrel
             have hS' := Lib.hid hS
             clear hA hS; have hA := hB; clear hB
             have hF := hA.facts; (try simp only [uY] at hA hF)
             by_cases hx0 : x < b
             · obtain ⟨z, hz⟩ : ∃ z, x = z + 1 := ⟨x - 1, by omega⟩
               have ez : (x : Int) - 1 = (z : Int) := by omega
               have gz1 : x ≤ z + 1 := by omega
               have gz2 : z + 1 ≤ x := by omega
               have hz' := Lib.hid hz
               clear hz
               have e1 := rowC_at (d := dj) (r := r) (i := x) (by omega)
               have e2 := rowC_at (d := dj) (r := r) (i := z) (by omega)
               cases hl : ltU (atU dj x) (atU dj z)
               · have hq := Lib.hid (shiftU_stop (d := dj) (b := b) (x := x) (fun _ => ⟨z, hz'.out, hl⟩))
                 have hl' := Lib.hid hl
                 clear hl
                 go_wp2_with fail
                 (refine cA hA ?_); (have hn1 := Cl.none hA); (have hn2 := Cl.none2 hA); (repeat (first | go_big_quiet_skip | (go_big_quiet_want; (first | (refine qL ?_; go_frame; go_big_quiet_on) | (go_big_quiet_op; (first | go_big_quiet_on | ((apply Exists.intro); (refine ⟨fun w1 hw => ?_, ?_⟩); (focus ((have hw := Cl.out hw); (exact less_in hw _ _ hl'.out))); (go_big_quiet_on))))))))
                 (refine wpQuiet_nil ?_); (intro w1 hB); (clear hF hA hn1 hn2); (have hA := Cl.out hB); (clear hB); have hF := hA.facts; (try simp only [uY] at hA hF)
                 go_wp2_with fail
                 go_roundg s
                 case measure => omega
                 case rel => exact ⟨q, dj, rfl, by have := hc2.out; congr 1; omega, by omega, by omega, hq2, by omega, hA, by rw [← hO'.out, hp.out, hd2'.out, hst.out, ← hS'.out, hq.out]⟩
               · have hq := Lib.hid (shiftU_go hz'.out hx0 hl)
                 have hl' := Lib.hid hl
                 clear hl
                 go_wp2_with fail
                 (refine cA hA ?_); (have hn1 := Cl.none hA); (have hn2 := Cl.none2 hA); (repeat (first | go_big_quiet_skip | (go_big_quiet_want; (first | (refine qL ?_; go_frame; go_big_quiet_on) | (go_big_quiet_op; (first | go_big_quiet_on | ((apply Exists.intro); (refine ⟨fun w1 hw => ?_, ?_⟩); (focus ((have hw := Cl.out hw); (exact less_in hw _ _ hl'.out))); (go_big_quiet_on))))))))
                 (refine wpQuiet_nil ?_); (intro w1 hB); (clear hF hA hn1 hn2); (have hA := Cl.out hB); (clear hB); have hF := hA.facts; (try simp only [uY] at hA hF)
                 go_wp2_with fail
                 (try clear hF); (have k1 := at_cell hA .here (i := x) (by omega)); (have k2 := at_cell hA .here (i := z) (by omega)); (have f1 := at_free hA .here (x)); (have f2 := at_free hA .here (z)); go_region; (have hB := (at_swp hA .here (i := x) (j := z) (by omega) (by omega)).drew); (clear k1 k2 f1 f2 hA); (have hA := hB); (clear hB); (generalize World.drew (World.setCell _ _ _) = wz at *)
                 go_wp2_with fail
                 go_roundg (gk - 1)
                 case measure => omega
                 case rel => exact ⟨x + 1, swp dj x z, by simp, by omega, by omega, by rw [swp_size]; exact hsj, hA, by rw [← hS'.out, hq.out]⟩
             · have hq := Lib.hid (shiftU_stop (d := dj) (b := b) (x := x) (fun h => absurd h hx0))
               go_wp2_with fail
               go_roundg s
               case measure => omega
               case rel => exact ⟨q, dj, rfl, by have := hc2.out; congr 1; omega, by omega, by omega, hq2, by omega, hA, by rw [← hO'.out, hp.out, hd2'.out, hst.out, ← hS'.out, hq.out]⟩
          · have h2' : (b : Int) - (q : Int) < 2 := by omega
            have hst := Lib.hid (show stepU d2 b q = d2 by unfold stepU; rw [if_neg h2])
            go_wp2_with fail
            go_roundg s
            case measure => omega
            case rel => exact ⟨q, d2, rfl, by have := hc2.out; congr 1; omega, by omega, by omega, hq2, by omega, hA, by rw [← hO'.out, hp.out, hd2'.out, hst.out]⟩
end Go.Proofs.YtpebabaigakagaaGreatDoor.SortU
end
