/- SortU4, joined. -/
import Derived.Test.YtpebabaigakagaaGreatDoorP15
import Derived.Deep.CutBlock
import Derived.Deep.CutRange
set_option linter.unusedSimpArgs false
set_option linter.unusedVariables false
set_option maxRecDepth 100000
set_option maxHeartbeats 16000000
section
namespace Go.Proofs.YtpebabaigakagaaGreatDoor.SortU
open Go.RowKit
open Go.Sort (swp ltInt scanUp scanDown partLoop partEqLoop)
theorem scanUp_go {p : Int → Bool} {d : Array Int} {j i : Nat} (h : i ≤ j) (hp : p d[i]! = true) : scanUp p d j i = scanUp p d j (i + 1) := by rw [scanUp, if_pos (by simp [h, hp])]
theorem scanUp_stop {p : Int → Bool} {d : Array Int} {j i : Nat} (h : i ≤ j → p d[i]! = false) : scanUp p d j i = i := by
 rw [scanUp, if_neg]
 simp only [Bool.and_eq_true, decide_eq_true_eq, not_and, Bool.not_eq_true]
 exact h
theorem scanDown_go {p : Int → Bool} {d : Array Int} {i j : Nat} (h : i ≤ j + 1) (hp : p d[j + 1]! = true) : scanDown p d i (j + 1) = scanDown p d i j := by rw [scanDown, if_pos (by simp [h, hp])]
theorem scanDown_go' {p : Int → Bool} {d : Array Int} {i x y : Nat} (h : i ≤ x) (hx : x = y + 1) (hp : p d[x]! = true) : scanDown p d i x = scanDown p d i y := by subst hx; exact scanDown_go h hp
theorem scanDown_stop {p : Int → Bool} {d : Array Int} {i j : Nat} (h : i ≤ j → p d[j]! = false) : scanDown p d i j = j := by
 cases j with
 | zero => rfl
 | succ j =>
  rw [scanDown, if_neg]
  simp only [Bool.and_eq_true, decide_eq_true_eq, not_and, Bool.not_eq_true]
  exact h
def ScanU (L0 : List Part) (w : World) (g : Nat) (d : Array Int) (r : List Value) (p : Int → Bool) (i0 j : Nat) (k : Nat) (u : Value) (wr : World) : Prop :=
 ∃ i : Nat, u = .int .i64 i ∧ i0 ≤ i ∧ (i ≤ j + 1 ∨ i = i0) ∧ j + 1 - i ≤ k ∧ At L0 w [blkU g d r] wr ∧ scanUp p d j i = scanUp p d j i0
def ScanD (L0 : List Part) (w : World) (g : Nat) (d : Array Int) (r : List Value) (p : Int → Bool) (i j0 : Nat) (k : Nat) (u : Value) (wr : World) : Prop :=
 ∃ j : Nat, u = .int .i64 j ∧ j ≤ j0 ∧ (i ≤ j + 1 ∨ j = j0) ∧ j + 1 - i ≤ k ∧ At L0 w [blkU g d r] wr ∧ scanDown p d i j = scanDown p d i j0
def ltP (d : Array Int) (a : Nat) : Int → Bool := fun x => ltInt x d[a]!
def geP (d : Array Int) (a : Nat) : Int → Bool := fun x => !ltInt x d[a]!
def leP (d : Array Int) (a : Nat) : Int → Bool := fun x => !ltInt d[a]! x
def gtP (d : Array Int) (a : Nat) : Int → Bool := fun x => ltInt d[a]! x
theorem partLoop_stop {a i j i2 j2 : Nat} {d : Array Int} (h1 : scanUp (ltP d a) d j i = i2) (h2 : scanDown (geP d a) d i2 j = j2) (h : j2 < i2) : partLoop ltInt a i j d = (j2, d) := by
 unfold ltP at h1; unfold geP at h2
 rw [partLoop]
 simp only [h1, h2]
 rw [if_pos h]
theorem partLoop_go {a i j i2 j2 : Nat} {d : Array Int} (h1 : scanUp (ltP d a) d j i = i2) (h2 : scanDown (geP d a) d i2 j = j2) (h : i2 ≤ j2) (hi : i ≤ i2) (hj : j2 ≤ j) : partLoop ltInt a i j d = partLoop ltInt a (i2 + 1) (j2 - 1) (swp d i2 j2) := by
 unfold ltP at h1; unfold geP at h2
 rw [partLoop]
 simp only [h1, h2]
 rw [if_neg (by omega), dif_pos (by omega)]
theorem partEq_stop {a i j i2 j2 : Nat} {d : Array Int} (h1 : scanUp (leP d a) d j i = i2) (h2 : scanDown (gtP d a) d i2 j = j2) (h : j2 < i2) : partEqLoop ltInt a i j d = (i2, d) := by
 unfold leP at h1; unfold gtP at h2
 rw [partEqLoop]
 simp only [h1, h2]
 rw [if_pos h]
theorem partEq_go {a i j i2 j2 : Nat} {d : Array Int} (h1 : scanUp (leP d a) d j i = i2) (h2 : scanDown (gtP d a) d i2 j = j2) (h : i2 ≤ j2) (hi : i ≤ i2) (hj : j2 ≤ j) : partEqLoop ltInt a i j d = partEqLoop ltInt a (i2 + 1) (j2 - 1) (swp d i2 j2) := by
 unfold leP at h1; unfold gtP at h2
 rw [partEqLoop]
 simp only [h1, h2]
 rw [if_neg (by omega), dif_pos (by omega)]
def PartPost (L0 : List Part) (w : World) (g : Nat) (d : Array Int) (r : List Value) (a b p : Nat) (e : Ending) (w' : World) : Prop :=
 e = .returned (.tuple #[.int .i64 (Sort.partition ltInt d a b p).1, .bool (Sort.partition ltInt d a b p).2.1]) ∧ At L0 w [blkU g (Sort.partition ltInt d a b p).2.2 r] w'
def PartRel (L0 : List Part) (w : World) (g : Nat) (d : Array Int) (r : List Value) (a B i0 j0 : Nat) (k : Nat) (u v : Value) (wr : World) : Prop :=
 ∃ (i j : Nat) (dk : Array Int), u = .int .i64 i ∧ v = .int .i64 j ∧ a + 1 ≤ i ∧ i ≤ B + 1 ∧ a ≤ j ∧ j ≤ B ∧ j + 1 - i ≤ k ∧ dk.size = d.size ∧ At L0 w [blkU g dk r] wr ∧ partLoop ltInt a i j dk = partLoop ltInt a i0 j0 d
theorem partition_any {w : World} {g cap n : Nat} {d0 : Array Int} {r : List Value} (h : Sep [blkU g d0 r] w) (hn : d0.size = n) {a b p : Nat} (hap : a ≤ p) (hpb : p < b) (hb : b ≤ d0.size) (hsz : d0.size < 4611686018427387904) :
 Calls Tryz.prog 202 #[.slice (some ⟨g, 0, none⟩) n cap, .int .i64 a, .int .i64 b, .int .i64 p] w (PartPost [blkU g d0 r] w g d0 r a b p) := by
 have hres := Lib.hid (show Sort.partition ltInt d0 a b p = (let d := swp d0 a p; let i := scanUp (ltP d a) d (b - 1) (a + 1); let j := scanDown (geP d a) d i (b - 1); if i > j then (j, true, swp d j a) else (let q := partLoop ltInt a (i + 1) (j - 1) (swp d i j); (q.1, false, swp q.2 q.1 a))) from rfl)
 obtain ⟨L0, hL0, hA⟩ : ∃ L0, L0 = [blkU g d0 r] ∧ At L0 w [blkU g d0 r] w := ⟨_, rfl, At.start h⟩
 rw [← hL0]
 clear h hL0
 obtain ⟨B, hBb⟩ : ∃ B, b = B + 1 := ⟨b - 1, by omega⟩
 have eB : (b : Int) - 1 = (B : Int) := by omega
 have gB1 : b ≤ B + 1 := by omega
 have gB2 : B + 1 ≤ b := by omega
 have hBb' := Lib.hid (show b - 1 = B by omega)
 clear hBb
 obtain ⟨A1, hA1⟩ : ∃ A1, a + 1 = A1 := ⟨_, rfl⟩
 have eA1 : (a : Int) + 1 = (A1 : Int) := by omega
 have hA1' := Lib.hid hA1
 have gA1 : a + 1 ≤ A1 ∧ A1 ≤ a + 1 := by omega
 obtain ⟨gA, gA'⟩ := gA1
 clear hA1
 go_enter Tryz.func202, Tryz.ntmps202
 go_upto_region 1 with fail
 go_cut [0] from 12 to 25 (fun u wc => u = .slice (some ⟨g, 0, none⟩) n cap ∧ At L0 w [blkU g (swp d0 a p) r] wc)
 case first =>
  by_cases hxy : a = p
  · subst hxy
    (try clear hF); (have k1 := at_cell hA .here (i := a) (by omega)); (have k2 := at_cell hA .here (i := a) (by omega)); (have f1 := at_free hA .here (a)); (have f2 := at_free hA .here (a)); go_region; (have hB := (at_swp hA .here (i := a) (j := a) (by omega) (by omega)).drew); (clear k1 k2 f1 f2 hA); (have hA := hB); (clear hB); (generalize World.drew (World.setCell _ _ _) = wz at *)
    go_wp2_with fail
    go_meet
    case rel => exact ⟨rfl, hA⟩
  · (try clear hF); (have k1 := at_cell hA .here (i := a) (by omega)); (have k2 := at_cell hA .here (i := p) (by omega)); (have f1 := at_free hA .here (a)); (have f2 := at_free hA .here (p)); go_region; (have hB := (at_swp hA .here (i := a) (j := p) (by omega) (by omega)).drew); (clear k1 k2 f1 f2 hA); (have hA := hB); (clear hB); (generalize World.drew (World.setCell _ _ _) = wz at *)
    go_wp2_with fail
    go_meet
    case rel => exact ⟨rfl, hA⟩
 case rest =>
  obtain ⟨rfl, hB⟩ := hcut
  clear hA; have hA := hB; clear hB
  obtain ⟨d1, hd1⟩ : ∃ z, swp d0 a p = z := ⟨_, rfl⟩
  rw [hd1] at hA
  have d1s : d1.size = d0.size := by rw [← hd1]; exact swp_size _ _ _
  have hd1' := Lib.hid hd1
  clear hd1
  go_upto_block 0 with fail
  go_cut [10] from 30 to 45 (fun u wc => ∃ q : Nat, u = .int .i64 q ∧ A1 ≤ q ∧ (q ≤ B + 1 ∨ q = A1) ∧ scanUp (ltP d1 a) d1 B A1 = q ∧ At L0 w [blkU g d1 r] wc)
  case first =>
   go_wp2_with fail
   go_loopg [10] (B + 1 - A1) (ScanU L0 w g d1 r (ltP d1 a) A1 B)
   case atStart => exact ⟨A1, by first | rfl | simp, Nat.le_refl _, .inr rfl, Nat.le_refl _, hA, rfl⟩
   case round =>
    obtain ⟨x, rfl, hx1, hx2, hk, hB, hO⟩ := hrel
    have hO' := Lib.hid hO
    clear hA hO; have hA := hB; clear hB
    have hF := hA.facts
    have ea := rowC_at (d := d1) (r := r) (i := a) (by omega)
    have hF := hA.facts; (try simp only [uY] at hA hF)
    by_cases hc : x ≤ B
    · have hg : decide ((x : Int) ≤ ((B : Nat) : Int)) = true := by simp; omega
      have ex := rowC_at (d := d1) (r := r) (i := x) (by omega)
      cases hl : ltU (atU d1 x) (atU d1 a)
      · have hs := Lib.hid (scanUp_stop (p := ltP d1 a) (d := d1) (j := B) (fun _ => (show ltP d1 a d1[x]! = false from by unfold ltP; simpa [ltU, atU] using hl)))
        have hl' := Lib.hid hl
        clear hl
        go_wp2_with fail
        (refine cA hA ?_); (have hn1 := Cl.none hA); (have hn2 := Cl.none2 hA); (repeat (first | go_big_quiet_skip | (go_big_quiet_want; (first | (refine qL ?_; go_frame; go_big_quiet_on) | (go_big_quiet_op; (first | go_big_quiet_on | ((apply Exists.intro); (refine ⟨fun w1 hw => ?_, ?_⟩); (focus ((have hw := Cl.out hw); (exact less_in hw _ _ hl'.out))); (go_big_quiet_on))))))))
        (refine wpQuiet_nil ?_); (intro w1 hB); (clear hF hA hn1 hn2); (have hA := Cl.out hB); (clear hB); have hF := hA.facts; (try simp only [uY] at hA hF)
        go_wp2_with fail
        go_meet
        case rel => exact ⟨x, rfl, by omega, by omega, by rw [← hO'.out, hs.out], hA⟩
      · have hs := Lib.hid (scanUp_go (p := ltP d1 a) (d := d1) (j := B) hc (show ltP d1 a d1[x]! = true from by unfold ltP; simpa [ltU, atU] using hl))
        have hl' := Lib.hid hl
        clear hl
        go_wp2_with fail
        (refine cA hA ?_); (have hn1 := Cl.none hA); (have hn2 := Cl.none2 hA); (repeat (first | go_big_quiet_skip | (go_big_quiet_want; (first | (refine qL ?_; go_frame; go_big_quiet_on) | (go_big_quiet_op; (first | go_big_quiet_on | ((apply Exists.intro); (refine ⟨fun w1 hw => ?_, ?_⟩); (focus ((have hw := Cl.out hw); (exact less_in hw _ _ hl'.out))); (go_big_quiet_on))))))))
        (refine wpQuiet_nil ?_); (intro w1 hB); (clear hF hA hn1 hn2); (have hA := Cl.out hB); (clear hB); have hF := hA.facts; (try simp only [uY] at hA hF)
        go_wp2_with fail
        go_roundg (gk - 1)
        case measure => omega
        case rel => exact ⟨x + 1, by simp, by omega, by omega, by omega, hA, by rw [← hO'.out, hs.out]⟩
    · have hg : decide ((x : Int) ≤ ((B : Nat) : Int)) = false := by simp; omega
      have hs := Lib.hid (scanUp_stop (p := ltP d1 a) (d := d1) (j := B) (i := x) (fun h => absurd h hc))
      go_wp2_with fail
      (refine cA hA ?_); (have hn1 := Cl.none hA); (have hn2 := Cl.none2 hA); (repeat (first | go_big_quiet_skip | (go_big_quiet_want; (first | (refine qL ?_; go_frame; go_big_quiet_on) | (go_big_quiet_op; (first | go_big_quiet_on | ((apply Exists.intro); (refine ⟨fun w1 hw => ?_, ?_⟩); (focus ((have hw := Cl.out hw); (fail))); (go_big_quiet_on))))))))
      (refine wpQuiet_nil ?_); (intro w1 hB); (clear hF hA hn1 hn2); (have hA := Cl.out hB); (clear hB); have hF := hA.facts; (try simp only [uY] at hA hF)
      go_wp2_with fail
      go_meet
      case rel => exact ⟨x, rfl, by omega, by omega, by rw [← hO'.out, hs.out], hA⟩
  case rest =>
   obtain ⟨i2, rfl, i21, i22, i23, hB⟩ := hcut
   clear hA; have hA := hB; clear hB
   have i24 := Lib.hid i23
   clear i23
   go_upto_block 2 with fail
   go_cut [11] from 46 to 62 (fun u wc => ∃ q : Nat, u = .int .i64 q ∧ q ≤ B ∧ (i2 ≤ q + 1 ∨ q = B) ∧ scanDown (geP d1 a) d1 i2 B = q ∧ At L0 w [blkU g d1 r] wc)
   case first =>
    go_wp2_with fail
    go_loopg [11] (B + 1 - i2) (ScanD L0 w g d1 r (geP d1 a) i2 B)
    case atStart => exact ⟨B, by first | rfl | simp, Nat.le_refl _, .inr rfl, Nat.le_refl _, hA, rfl⟩
    case round =>
     obtain ⟨x, rfl, hx1, hx2, hk, hB, hO⟩ := hrel
     have hO' := Lib.hid hO
     clear hA hO; have hA := hB; clear hB
     have hF := hA.facts
     have ea := rowC_at (d := d1) (r := r) (i := a) (by omega)
     have hF := hA.facts; (try simp only [uY] at hA hF)
     by_cases hc : i2 ≤ x
     · have hg : decide (((i2 : Nat) : Int) ≤ (x : Int)) = true := by simp; omega
       obtain ⟨y, hy⟩ : ∃ y, x = y + 1 := ⟨x - 1, by omega⟩
       have ey : (x : Int) - 1 = (y : Int) := by omega
       have gy1 : x ≤ y + 1 := by omega
       have gy2 : y + 1 ≤ x := by omega
       have hy' := Lib.hid hy
       clear hy
       have ex := rowC_at (d := d1) (r := r) (i := x) (by omega)
       cases hl : ltU (atU d1 x) (atU d1 a)
       · have hs := Lib.hid (scanDown_go' (p := geP d1 a) (d := d1) (i := i2) hc hy'.out (show geP d1 a d1[x]! = true from by unfold geP; simpa [ltU, atU] using hl))
         have hl' := Lib.hid hl
         clear hl
         go_wp2_with fail
         (refine cA hA ?_); (have hn1 := Cl.none hA); (have hn2 := Cl.none2 hA); (repeat (first | go_big_quiet_skip | (go_big_quiet_want; (first | (refine qL ?_; go_frame; go_big_quiet_on) | (go_big_quiet_op; (first | go_big_quiet_on | ((apply Exists.intro); (refine ⟨fun w1 hw => ?_, ?_⟩); (focus ((have hw := Cl.out hw); (exact less_in hw _ _ hl'.out))); (go_big_quiet_on))))))))
         (refine wpQuiet_nil ?_); (intro w1 hB); (clear hF hA hn1 hn2); (have hA := Cl.out hB); (clear hB); have hF := hA.facts; (try simp only [uY] at hA hF)
         go_wp2_with fail
         go_roundg (gk - 1)
         case measure => omega
         case rel => exact ⟨y, by first | rfl | simp, by omega, by omega, by omega, hA, by rw [← hO'.out, hs.out]⟩
       · have hs := Lib.hid (scanDown_stop (p := geP d1 a) (d := d1) (i := i2) (fun _ => (show geP d1 a d1[x]! = false from by unfold geP; simpa [ltU, atU] using hl)))
         have hl' := Lib.hid hl
         clear hl
         go_wp2_with fail
         (refine cA hA ?_); (have hn1 := Cl.none hA); (have hn2 := Cl.none2 hA); (repeat (first | go_big_quiet_skip | (go_big_quiet_want; (first | (refine qL ?_; go_frame; go_big_quiet_on) | (go_big_quiet_op; (first | go_big_quiet_on | ((apply Exists.intro); (refine ⟨fun w1 hw => ?_, ?_⟩); (focus ((have hw := Cl.out hw); (exact less_in hw _ _ hl'.out))); (go_big_quiet_on))))))))
         (refine wpQuiet_nil ?_); (intro w1 hB); (clear hF hA hn1 hn2); (have hA := Cl.out hB); (clear hB); have hF := hA.facts; (try simp only [uY] at hA hF)
         go_wp2_with fail
         go_meet
         case rel => exact ⟨x, rfl, by omega, by omega, by rw [← hO'.out, hs.out], hA⟩
     · have hg : decide (((i2 : Nat) : Int) ≤ (x : Int)) = false := by simp; omega
       have hs := Lib.hid (scanDown_stop (p := geP d1 a) (d := d1) (i := i2) (j := x) (fun h => absurd h hc))
       go_wp2_with fail
       (refine cA hA ?_); (have hn1 := Cl.none hA); (have hn2 := Cl.none2 hA); (repeat (first | go_big_quiet_skip | (go_big_quiet_want; (first | (refine qL ?_; go_frame; go_big_quiet_on) | (go_big_quiet_op; (first | go_big_quiet_on | ((apply Exists.intro); (refine ⟨fun w1 hw => ?_, ?_⟩); (focus ((have hw := Cl.out hw); (fail))); (go_big_quiet_on))))))))
       (refine wpQuiet_nil ?_); (intro w1 hB); (clear hF hA hn1 hn2); (have hA := Cl.out hB); (clear hB); have hF := hA.facts; (try simp only [uY] at hA hF)
       go_wp2_with fail
       go_meet
       case rel => exact ⟨x, rfl, by omega, by omega, by rw [← hO'.out, hs.out], hA⟩
   case rest =>
    obtain ⟨j2, rfl, j21, j22, j23, hB⟩ := hcut
    clear hA; have hA := hB; clear hB
    have j24 := Lib.hid j23
    clear j23
    by_cases hij : j2 < i2
    · go_upto_region 8 with fail
      go_cut [0] from 12 to 94 (fun u wc => u = .slice (some ⟨g, 0, none⟩) n cap ∧ At L0 w [blkU g (swp d1 j2 a) r] wc)
      case first =>
       by_cases hxy : j2 = a
       · subst hxy
         (try clear hF); (have k1 := at_cell hA .here (i := j2) (by omega)); (have k2 := at_cell hA .here (i := j2) (by omega)); (have f1 := at_free hA .here (j2)); (have f2 := at_free hA .here (j2)); go_region; (have hB := (at_swp hA .here (i := j2) (j := j2) (by omega) (by omega)).drew); (clear k1 k2 f1 f2 hA); (have hA := hB); (clear hB); (generalize World.drew (World.setCell _ _ _) = wz at *)
         go_wp2_with fail
         go_meet
         case rel => exact ⟨rfl, hA⟩
       · (try clear hF); (have k1 := at_cell hA .here (i := j2) (by omega)); (have k2 := at_cell hA .here (i := a) (by omega)); (have f1 := at_free hA .here (j2)); (have f2 := at_free hA .here (a)); go_region; (have hB := (at_swp hA .here (i := j2) (j := a) (by omega) (by omega)).drew); (clear k1 k2 f1 f2 hA); (have hA := hB); (clear hB); (generalize World.drew (World.setCell _ _ _) = wz at *)
         go_wp2_with fail
         go_meet
         case rel => exact ⟨rfl, hA⟩
      case rest =>
       obtain ⟨rfl, hB⟩ := hcut
       clear hA; have hA := hB; clear hB
       obtain ⟨d2, hd2⟩ : ∃ z, swp d1 j2 a = z := ⟨_, rfl⟩
       rw [hd2] at hA
       have d2s : d2.size = d1.size := by rw [← hd2]; exact swp_size _ _ _
       have hd2' := Lib.hid hd2
       clear hd2
       have hp := Lib.hid (show Sort.partition ltInt d0 a b p = (j2, true, d2) by rw [hres.out]; simp only [hd1'.out, hBb'.out, hA1'.out, i24.out, j24.out]; rw [if_pos hij, hd2'.out])
       go_wp2_with fail
       refine bodyPost_ret (v := .tuple #[.int .i64 j2, .bool true]) (by simp [results, Tryz.results202, go_sem]) rfl ?_
       unfold PartPost
       rw [hp.out]
       exact ⟨rfl, hA⟩
    · have hle : i2 ≤ j2 := by omega
      clear hij
      go_upto_region 10 with fail
      go_cut [0] from 12 to 94 (fun u wc => u = .slice (some ⟨g, 0, none⟩) n cap ∧ At L0 w [blkU g (swp d1 i2 j2) r] wc)
      case first =>
       by_cases hxy : i2 = j2
       · subst hxy
         (try clear hF); (have k1 := at_cell hA .here (i := i2) (by omega)); (have k2 := at_cell hA .here (i := i2) (by omega)); (have f1 := at_free hA .here (i2)); (have f2 := at_free hA .here (i2)); go_region; (have hB := (at_swp hA .here (i := i2) (j := i2) (by omega) (by omega)).drew); (clear k1 k2 f1 f2 hA); (have hA := hB); (clear hB); (generalize World.drew (World.setCell _ _ _) = wz at *)
         go_wp2_with fail
         go_meet
         case rel => exact ⟨rfl, hA⟩
       · (try clear hF); (have k1 := at_cell hA .here (i := i2) (by omega)); (have k2 := at_cell hA .here (i := j2) (by omega)); (have f1 := at_free hA .here (i2)); (have f2 := at_free hA .here (j2)); go_region; (have hB := (at_swp hA .here (i := i2) (j := j2) (by omega) (by omega)).drew); (clear k1 k2 f1 f2 hA); (have hA := hB); (clear hB); (generalize World.drew (World.setCell _ _ _) = wz at *)
         go_wp2_with fail
         go_meet
         case rel => exact ⟨rfl, hA⟩
      case rest =>
       obtain ⟨rfl, hB⟩ := hcut
       clear hA; have hA := hB; clear hB
       obtain ⟨d2, hd2⟩ : ∃ z, swp d1 i2 j2 = z := ⟨_, rfl⟩
       rw [hd2] at hA
       have d2s : d2.size = d1.size := by rw [← hd2]; exact swp_size _ _ _
       have hd2' := Lib.hid hd2
       clear hd2
       obtain ⟨i3, hi3⟩ : ∃ i3, i2 + 1 = i3 := ⟨_, rfl⟩
       obtain ⟨j3, hj3⟩ : ∃ j3, j2 - 1 = j3 := ⟨_, rfl⟩
       have ei3 : (i2 : Int) + 1 = (i3 : Int) := by omega
       have ej3 : (j2 : Int) - 1 = (j3 : Int) := by omega
       have hi3' := Lib.hid hi3
       have hj3' := Lib.hid hj3
       have gi3 : A1 + 1 ≤ i3 := by omega
       have gi4 : i3 ≤ B + 1 := by omega
       have gj3 : a ≤ j3 := by omega
       have gj4 : j3 ≤ B := by omega
       clear hi3 hj3
       go_upto_block 4 with fail
       go_cut [10, 11] from 99 to 152 (fun u v wc => ∃ (q : Nat) (dq : Array Int), v = .int .i64 q ∧ a ≤ q ∧ q ≤ B ∧ dq.size = d0.size ∧ partLoop ltInt a i3 j3 d2 = (q, dq) ∧ At L0 w [blkU g dq r] wc)
       case first =>
        go_wp2_with fail
        go_loopg [10, 11] (j3 + 1 - i3) (PartRel L0 w g d2 r a B i3 j3)
        case atStart => exact ⟨i3, j3, d2, rfl, rfl, by omega, by omega, by omega, by omega, Nat.le_refl _, rfl, hA, rfl⟩
        case round =>
         obtain ⟨i, j, dk, rfl, rfl, hi1, hi2, hj1, hj2, hk, hsk, hB, hO⟩ := hrel
         have hO' := Lib.hid hO
         clear hA hO; have hA := hB; clear hB
         go_upto_block 6 with fail
         go_cut [10] from 99 to 114 (fun u wc => ∃ q : Nat, u = .int .i64 q ∧ i ≤ q ∧ (q ≤ j + 1 ∨ q = i) ∧ scanUp (ltP dk a) dk j i = q ∧ At L0 w [blkU g dk r] wc)
         case first =>
          go_wp2_with fail
          go_loopg [10] (j + 1 - i) (ScanU L0 w g dk r (ltP dk a) i j)
          case atStart => exact ⟨i, by first | rfl | simp, Nat.le_refl _, .inr rfl, Nat.le_refl _, hA, rfl⟩
          case round =>
           obtain ⟨x, rfl, hx1, hx2, hk, hB, hO⟩ := hrel
           have hO' := Lib.hid hO
           clear hA hO; have hA := hB; clear hB
           have hF := hA.facts
           have ea := rowC_at (d := dk) (r := r) (i := a) (by omega)
           have hF := hA.facts; (try simp only [uY] at hA hF)
           by_cases hc : x ≤ j
           · have hg : decide ((x : Int) ≤ ((j : Nat) : Int)) = true := by simp; omega
             have ex := rowC_at (d := dk) (r := r) (i := x) (by omega)
             cases hl : ltU (atU dk x) (atU dk a)
             · have hs := Lib.hid (scanUp_stop (p := ltP dk a) (d := dk) (j := j) (fun _ => (show ltP dk a dk[x]! = false from by unfold ltP; simpa [ltU, atU] using hl)))
               have hl' := Lib.hid hl
               clear hl
               go_wp2_with fail
               (refine cA hA ?_); (have hn1 := Cl.none hA); (have hn2 := Cl.none2 hA); (repeat (first | go_big_quiet_skip | (go_big_quiet_want; (first | (refine qL ?_; go_frame; go_big_quiet_on) | (go_big_quiet_op; (first | go_big_quiet_on | ((apply Exists.intro); (refine ⟨fun w1 hw => ?_, ?_⟩); (focus ((have hw := Cl.out hw); (exact less_in hw _ _ hl'.out))); (go_big_quiet_on))))))))
               (refine wpQuiet_nil ?_); (intro w1 hB); (clear hF hA hn1 hn2); (have hA := Cl.out hB); (clear hB); have hF := hA.facts; (try simp only [uY] at hA hF)
               go_wp2_with fail
               go_meet
               case rel => exact ⟨x, rfl, by omega, by omega, by rw [← hO'.out, hs.out], hA⟩
             · have hs := Lib.hid (scanUp_go (p := ltP dk a) (d := dk) (j := j) hc (show ltP dk a dk[x]! = true from by unfold ltP; simpa [ltU, atU] using hl))
               have hl' := Lib.hid hl
               clear hl
               go_wp2_with fail
               (refine cA hA ?_); (have hn1 := Cl.none hA); (have hn2 := Cl.none2 hA); (repeat (first | go_big_quiet_skip | (go_big_quiet_want; (first | (refine qL ?_; go_frame; go_big_quiet_on) | (go_big_quiet_op; (first | go_big_quiet_on | ((apply Exists.intro); (refine ⟨fun w1 hw => ?_, ?_⟩); (focus ((have hw := Cl.out hw); (exact less_in hw _ _ hl'.out))); (go_big_quiet_on))))))))
               (refine wpQuiet_nil ?_); (intro w1 hB); (clear hF hA hn1 hn2); (have hA := Cl.out hB); (clear hB); have hF := hA.facts; (try simp only [uY] at hA hF)
               go_wp2_with fail
               go_roundg (gk - 1)
               case measure => omega
               case rel => exact ⟨x + 1, by simp, by omega, by omega, by omega, hA, by rw [← hO'.out, hs.out]⟩
           · have hg : decide ((x : Int) ≤ ((j : Nat) : Int)) = false := by simp; omega
             have hs := Lib.hid (scanUp_stop (p := ltP dk a) (d := dk) (j := j) (i := x) (fun h => absurd h hc))
             go_wp2_with fail
             (refine cA hA ?_); (have hn1 := Cl.none hA); (have hn2 := Cl.none2 hA); (repeat (first | go_big_quiet_skip | (go_big_quiet_want; (first | (refine qL ?_; go_frame; go_big_quiet_on) | (go_big_quiet_op; (first | go_big_quiet_on | ((apply Exists.intro); (refine ⟨fun w1 hw => ?_, ?_⟩); (focus ((have hw := Cl.out hw); (fail))); (go_big_quiet_on))))))))
             (refine wpQuiet_nil ?_); (intro w1 hB); (clear hF hA hn1 hn2); (have hA := Cl.out hB); (clear hB); have hF := hA.facts; (try simp only [uY] at hA hF)
             go_wp2_with fail
             go_meet
             case rel => exact ⟨x, rfl, by omega, by omega, by rw [← hO'.out, hs.out], hA⟩
         case rest =>
          obtain ⟨i4, rfl, i41, i42, i43, hB⟩ := hcut
          clear hA; have hA := hB; clear hB
          have i44 := Lib.hid i43
          clear i43
          go_upto_block 8 with fail
          go_cut [11] from 115 to 131 (fun u wc => ∃ q : Nat, u = .int .i64 q ∧ q ≤ j ∧ (i4 ≤ q + 1 ∨ q = j) ∧ scanDown (geP dk a) dk i4 j = q ∧ At L0 w [blkU g dk r] wc)
          case first =>
           go_wp2_with fail
           go_loopg [11] (j + 1 - i4) (ScanD L0 w g dk r (geP dk a) i4 j)
           case atStart => exact ⟨j, by first | rfl | simp, Nat.le_refl _, .inr rfl, Nat.le_refl _, hA, rfl⟩
           case round =>
            obtain ⟨x, rfl, hx1, hx2, hk, hB, hO⟩ := hrel
            have hO' := Lib.hid hO
            clear hA hO; have hA := hB; clear hB
            have hF := hA.facts
            have ea := rowC_at (d := dk) (r := r) (i := a) (by omega)
            have hF := hA.facts; (try simp only [uY] at hA hF)
            by_cases hc : i4 ≤ x
            · have hg : decide (((i4 : Nat) : Int) ≤ (x : Int)) = true := by simp; omega
              obtain ⟨y, hy⟩ : ∃ y, x = y + 1 := ⟨x - 1, by omega⟩
              have ey : (x : Int) - 1 = (y : Int) := by omega
              have gy1 : x ≤ y + 1 := by omega
              have gy2 : y + 1 ≤ x := by omega
              have hy' := Lib.hid hy
              clear hy
              have ex := rowC_at (d := dk) (r := r) (i := x) (by omega)
              cases hl : ltU (atU dk x) (atU dk a)
              · have hs := Lib.hid (scanDown_go' (p := geP dk a) (d := dk) (i := i4) hc hy'.out (show geP dk a dk[x]! = true from by unfold geP; simpa [ltU, atU] using hl))
                have hl' := Lib.hid hl
                clear hl
                go_wp2_with fail
                (refine cA hA ?_); (have hn1 := Cl.none hA); (have hn2 := Cl.none2 hA); (repeat (first | go_big_quiet_skip | (go_big_quiet_want; (first | (refine qL ?_; go_frame; go_big_quiet_on) | (go_big_quiet_op; (first | go_big_quiet_on | ((apply Exists.intro); (refine ⟨fun w1 hw => ?_, ?_⟩); (focus ((have hw := Cl.out hw); (exact less_in hw _ _ hl'.out))); (go_big_quiet_on))))))))
                (refine wpQuiet_nil ?_); (intro w1 hB); (clear hF hA hn1 hn2); (have hA := Cl.out hB); (clear hB); have hF := hA.facts; (try simp only [uY] at hA hF)
                go_wp2_with fail
                go_roundg (gk - 1)
                case measure => omega
                case rel => exact ⟨y, by first | rfl | simp, by omega, by omega, by omega, hA, by rw [← hO'.out, hs.out]⟩
              · have hs := Lib.hid (scanDown_stop (p := geP dk a) (d := dk) (i := i4) (fun _ => (show geP dk a dk[x]! = false from by unfold geP; simpa [ltU, atU] using hl)))
                have hl' := Lib.hid hl
                clear hl
                go_wp2_with fail
                (refine cA hA ?_); (have hn1 := Cl.none hA); (have hn2 := Cl.none2 hA); (repeat (first | go_big_quiet_skip | (go_big_quiet_want; (first | (refine qL ?_; go_frame; go_big_quiet_on) | (go_big_quiet_op; (first | go_big_quiet_on | ((apply Exists.intro); (refine ⟨fun w1 hw => ?_, ?_⟩); (focus ((have hw := Cl.out hw); (exact less_in hw _ _ hl'.out))); (go_big_quiet_on))))))))
                (refine wpQuiet_nil ?_); (intro w1 hB); (clear hF hA hn1 hn2); (have hA := Cl.out hB); (clear hB); have hF := hA.facts; (try simp only [uY] at hA hF)
                go_wp2_with fail
                go_meet
                case rel => exact ⟨x, rfl, by omega, by omega, by rw [← hO'.out, hs.out], hA⟩
            · have hg : decide (((i4 : Nat) : Int) ≤ (x : Int)) = false := by simp; omega
              have hs := Lib.hid (scanDown_stop (p := geP dk a) (d := dk) (i := i4) (j := x) (fun h => absurd h hc))
              go_wp2_with fail
              (refine cA hA ?_); (have hn1 := Cl.none hA); (have hn2 := Cl.none2 hA); (repeat (first | go_big_quiet_skip | (go_big_quiet_want; (first | (refine qL ?_; go_frame; go_big_quiet_on) | (go_big_quiet_op; (first | go_big_quiet_on | ((apply Exists.intro); (refine ⟨fun w1 hw => ?_, ?_⟩); (focus ((have hw := Cl.out hw); (fail))); (go_big_quiet_on))))))))
              (refine wpQuiet_nil ?_); (intro w1 hB); (clear hF hA hn1 hn2); (have hA := Cl.out hB); (clear hB); have hF := hA.facts; (try simp only [uY] at hA hF)
              go_wp2_with fail
              go_meet
              case rel => exact ⟨x, rfl, by omega, by omega, by rw [← hO'.out, hs.out], hA⟩
          case rest =>
           obtain ⟨j4, rfl, j41, j42, j43, hB⟩ := hcut
           clear hA; have hA := hB; clear hB
           have j44 := Lib.hid j43
           clear j43
           by_cases hij : j4 < i4
           · have hs := Lib.hid (partLoop_stop i44.out j44.out hij)
             go_wp2_with fail
             go_meet
             case rel => exact ⟨j4, dk, rfl, by omega, by omega, by omega, by rw [← hO'.out, hs.out], hA⟩
           · have hle2 : i4 ≤ j4 := by omega
             have hs := Lib.hid (partLoop_go i44.out j44.out hle2 (by omega) (by omega))
             clear hij
             go_upto_region 18 with fail
             go_cut [0] from 99 to 152 (fun u wc => u = .slice (some ⟨g, 0, none⟩) n cap ∧ At L0 w [blkU g (swp dk i4 j4) r] wc)
             case first =>
              by_cases hxy : i4 = j4
              · subst hxy
                (try clear hF); (have k1 := at_cell hA .here (i := i4) (by omega)); (have k2 := at_cell hA .here (i := i4) (by omega)); (have f1 := at_free hA .here (i4)); (have f2 := at_free hA .here (i4)); go_region; (have hB := (at_swp hA .here (i := i4) (j := i4) (by omega) (by omega)).drew); (clear k1 k2 f1 f2 hA); (have hA := hB); (clear hB); (generalize World.drew (World.setCell _ _ _) = wz at *)
                go_wp2_with fail
                go_meet
                case rel => exact ⟨rfl, hA⟩
              · (try clear hF); (have k1 := at_cell hA .here (i := i4) (by omega)); (have k2 := at_cell hA .here (i := j4) (by omega)); (have f1 := at_free hA .here (i4)); (have f2 := at_free hA .here (j4)); go_region; (have hB := (at_swp hA .here (i := i4) (j := j4) (by omega) (by omega)).drew); (clear k1 k2 f1 f2 hA); (have hA := hB); (clear hB); (generalize World.drew (World.setCell _ _ _) = wz at *)
                go_wp2_with fail
                go_meet
                case rel => exact ⟨rfl, hA⟩
             case rest =>
              obtain ⟨rfl, hB⟩ := hcut
              clear hA; have hA := hB; clear hB
              obtain ⟨d5, hd5⟩ : ∃ z, swp dk i4 j4 = z := ⟨_, rfl⟩
              rw [hd5] at hA
              have d5s : d5.size = dk.size := by rw [← hd5]; exact swp_size _ _ _
              have hd5' := Lib.hid hd5
              clear hd5
              go_wp2_with fail
              go_roundg (j4 - 1 + 1 - (i4 + 1))
              case measure => omega
              case rel => exact ⟨i4 + 1, j4 - 1, d5, by simp, by congr 1; omega, by omega, by omega, by omega, by omega, Nat.le_refl _, by omega, hA, by rw [← hO'.out, hs.out, hd5'.out]⟩
       case rest =>
        obtain ⟨q, dq, rfl, hq1, hq2, hqs, hq3, hB⟩ := hcut
        clear hA; have hA := hB; clear hB
        have hq4 := Lib.hid hq3
        clear hq3
        go_upto_region 21 with fail
        go_cut [0] from 12 to 166 (fun u wc => u = .slice (some ⟨g, 0, none⟩) n cap ∧ At L0 w [blkU g (swp dq q a) r] wc)
        case first =>
         by_cases hxy : q = a
         · subst hxy
           (try clear hF); (have k1 := at_cell hA .here (i := q) (by omega)); (have k2 := at_cell hA .here (i := q) (by omega)); (have f1 := at_free hA .here (q)); (have f2 := at_free hA .here (q)); go_region; (have hB := (at_swp hA .here (i := q) (j := q) (by omega) (by omega)).drew); (clear k1 k2 f1 f2 hA); (have hA := hB); (clear hB); (generalize World.drew (World.setCell _ _ _) = wz at *)
           go_wp2_with fail
           go_meet
           case rel => exact ⟨rfl, hA⟩
         · (try clear hF); (have k1 := at_cell hA .here (i := q) (by omega)); (have k2 := at_cell hA .here (i := a) (by omega)); (have f1 := at_free hA .here (q)); (have f2 := at_free hA .here (a)); go_region; (have hB := (at_swp hA .here (i := q) (j := a) (by omega) (by omega)).drew); (clear k1 k2 f1 f2 hA); (have hA := hB); (clear hB); (generalize World.drew (World.setCell _ _ _) = wz at *)
           go_wp2_with fail
           go_meet
           case rel => exact ⟨rfl, hA⟩
        case rest =>
         obtain ⟨rfl, hB⟩ := hcut
         clear hA; have hA := hB; clear hB
         obtain ⟨d6, hd6⟩ : ∃ z, swp dq q a = z := ⟨_, rfl⟩
         rw [hd6] at hA
         have d6s : d6.size = dq.size := by rw [← hd6]; exact swp_size _ _ _
         have hd6' := Lib.hid hd6
         clear hd6
         have hp := Lib.hid (show Sort.partition ltInt d0 a b p = (q, false, d6) by rw [hres.out]; simp only [hd1'.out, hBb'.out, hA1'.out, i24.out, j24.out]; rw [if_neg (by omega)]; simp only [hd2'.out, hi3'.out, hj3'.out, hq4.out, hd6'.out])
         go_wp2_with fail
         refine bodyPost_ret (v := .tuple #[.int .i64 q, .bool false]) (by simp [results, Tryz.results202, go_sem]) rfl ?_
         unfold PartPost
         rw [hp.out]
         exact ⟨rfl, hA⟩
end Go.Proofs.YtpebabaigakagaaGreatDoor.SortU
end
