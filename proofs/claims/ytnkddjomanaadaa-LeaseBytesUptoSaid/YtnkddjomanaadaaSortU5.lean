/- slices.Sort at uint64, walked: partitionEqualOrdered (printed by gen/sortu4.py). -/
import Derived.Test.YtnkddjomanaadaaSortU4
namespace Go.Proofs.Ytnkddjomanaadaa.SortU
open Go.RowKit
open Go.Sort (swp ltInt scanUp scanDown partLoop partEqLoop)
set_option linter.unusedSimpArgs false
set_option linter.unusedVariables false

def PartEqRel (L0 : List Part) (w : World) (g : Nat) (d : Array Int) (r : List Value) (a B i0 j0 : Nat) (k : Nat) (u v : Value) (wr : World) : Prop :=
  ∃ (i j : Nat) (dk : Array Int), u = .int .i64 i ∧ v = .int .i64 j ∧ a + 1 ≤ i ∧ i ≤ B + 1 ∧ a ≤ j ∧ j ≤ B ∧ j + 1 - i ≤ k ∧ dk.size = d.size ∧ At L0 w [blkU g dk r] wr ∧ partEqLoop ltInt a i j dk = partEqLoop ltInt a i0 j0 d
def PartEqPost (L0 : List Part) (w : World) (g : Nat) (d : Array Int) (r : List Value) (a b p : Nat) (e : Ending) (w' : World) : Prop :=
  e = .returned (.int .i64 (Sort.partitionEqual ltInt d a b p).1) ∧ At L0 w [blkU g (Sort.partitionEqual ltInt d a b p).2 r] w'
set_option maxRecDepth 100000 in
set_option maxHeartbeats 8000000 in
theorem partitionEqual_any {w : World} {g cap n : Nat} {d0 : Array Int} {r : List Value} (h : Sep [blkU g d0 r] w) (hn : d0.size = n) {a b p : Nat} (hap : a ≤ p) (hpb : p < b) (hb : b ≤ d0.size) (hsz : d0.size < 4611686018427387904) :
    Calls Try.prog 80 #[.slice (some ⟨g, 0, none⟩) n cap, .int .i64 a, .int .i64 b, .int .i64 p] w (PartEqPost [blkU g d0 r] w g d0 r a b p) := by
  have hres := Lib.hid (show Sort.partitionEqual ltInt d0 a b p = partEqLoop ltInt a (a + 1) (b - 1) (swp d0 a p) from rfl)
  obtain ⟨L0, hL0, hA⟩ : ∃ L0, L0 = [blkU g d0 r] ∧ At L0 w [blkU g d0 r] w := ⟨_, rfl, At.start h⟩
  rw [← hL0]
  clear h hL0
  obtain ⟨B, hBb⟩ : ∃ B, b = B + 1 := ⟨b - 1, by omega⟩
  have eB : (b : Int) - 1 = (B : Int) := by omega
  have gB1 : b ≤ B + 1 := by omega
  have gB2 : B + 1 ≤ b := by omega
  have hBb' := Lib.hid (show b - 1 = B by omega)
  clear hBb
  obtain ⟨A1, hA1⟩ : ∃ A1, a + 1 = A1 := ⟨_, rfl⟩
  have eA1 : (a : Int) + 1 = (A1 : Int) := by omega
  have hA1' := Lib.hid hA1
  have gA1 : a + 1 ≤ A1 ∧ A1 ≤ a + 1 := by omega
  obtain ⟨gA, gA'⟩ := gA1
  clear hA1
  go_enter Try.func80, Try.ntmps80
  go_upto_region 1 with fail
  go_cut [0] from 11 to 24 (fun u wc => u = .slice (some ⟨g, 0, none⟩) n cap ∧ At L0 w [blkU g (swp d0 a p) r] wc)
  case first =>
    by_cases hxy : a = p
    · subst hxy
      (try clear hF); (have k1 := at_cell hA .here (i := a) (by omega)); (have k2 := at_cell hA .here (i := a) (by omega)); (have f1 := at_free hA .here (a)); (have f2 := at_free hA .here (a)); go_region; (have hB := (at_swp hA .here (i := a) (j := a) (by omega) (by omega)).drew); (clear k1 k2 f1 f2 hA); (have hA := hB); (clear hB); (generalize World.drew (World.setCell _ _ _) = wz at *)
      go_wp2_with fail
      go_meet
      case rel => exact ⟨rfl, hA⟩
    · (try clear hF); (have k1 := at_cell hA .here (i := a) (by omega)); (have k2 := at_cell hA .here (i := p) (by omega)); (have f1 := at_free hA .here (a)); (have f2 := at_free hA .here (p)); go_region; (have hB := (at_swp hA .here (i := a) (j := p) (by omega) (by omega)).drew); (clear k1 k2 f1 f2 hA); (have hA := hB); (clear hB); (generalize World.drew (World.setCell _ _ _) = wz at *)
      go_wp2_with fail
      go_meet
      case rel => exact ⟨rfl, hA⟩
  case rest =>
    obtain ⟨rfl, hB⟩ := hcut
    clear hA
    have hA := hB
    clear hB
    obtain ⟨d1, hd1⟩ : ∃ z, swp d0 a p = z := ⟨_, rfl⟩
    rw [hd1] at hA
    have d1s : d1.size = d0.size := by rw [← hd1]; exact swp_size _ _ _
    have hd1' := Lib.hid hd1
    clear hd1
    go_upto_block 0 with fail
    go_cut [9, 10] from 29 to 82 (fun u v wc => ∃ (q : Nat) (dq : Array Int), u = .int .i64 q ∧ partEqLoop ltInt a A1 B d1 = (q, dq) ∧ At L0 w [blkU g dq r] wc)
    case first =>
      go_wp2_with fail
      go_loopg [9, 10] (B + 1 - A1) (PartEqRel L0 w g d1 r a B A1 B)
      case atStart => exact ⟨A1, B, d1, rfl, rfl, by omega, by omega, by omega, by omega, Nat.le_refl _, rfl, hA, rfl⟩
      case round =>
        obtain ⟨i, j, dk, rfl, rfl, hi1, hi2, hj1, hj2, hk, hsk, hB, hO⟩ := hrel
        have hO' := Lib.hid hO
        clear hA hO
        have hA := hB
        clear hB
        go_upto_block 2 with fail
        go_cut [9] from 29 to 45 (fun u wc => ∃ q : Nat, u = .int .i64 q ∧ i ≤ q ∧ (q ≤ j + 1 ∨ q = i) ∧ scanUp (leP dk a) dk j i = q ∧ At L0 w [blkU g dk r] wc)
        case first =>
          go_wp2_with fail
          go_loopg [9] (j + 1 - i) (ScanU L0 w g dk r (leP dk a) i j)
          case atStart => exact ⟨i, by first | rfl | simp, Nat.le_refl _, .inr rfl, Nat.le_refl _, hA, rfl⟩
          case round =>
            obtain ⟨x, rfl, hx1, hx2, hk, hB, hO⟩ := hrel
            have hO' := Lib.hid hO
            clear hA hO
            have hA := hB
            clear hB
            have hF := hA.facts
            have ea := rowC_at (d := dk) (r := r) (i := a) (by omega)
            (try simp only [setL, List.set_cons_zero, List.set_cons_succ, List.cons_append, List.nil_append] at hA); (have hF := hA.facts); (try simp only [facts_cons, facts_nil, facts_cells, facts_old, facts_fact, facts_obj, facts_map, facts_iter, and_true, true_and] at hF)
            by_cases hc : x ≤ j
            · have hg : decide ((x : Int) ≤ ((j : Nat) : Int)) = true := by simp; omega
              have ex := rowC_at (d := dk) (r := r) (i := x) (by omega)
              cases hl : ltU (atU dk a) (atU dk x)
              · have hs := Lib.hid (scanUp_go (p := leP dk a) (d := dk) (j := j) hc (show leP dk a dk[x]! = true from by unfold leP; simpa [ltU, atU] using hl))
                have hl' := Lib.hid hl
                clear hl
                go_wp2_with fail
                (refine wp_region_all (Cl _ _ _) (by kernel_rfl) (by kernel_rfl) (Cl.drew hA) ?_); (have hn1 := Cl.none hA); (have hn2 := Cl.none2 hA); (repeat (first | go_big_quiet_skip | (go_big_quiet_want; (first | (refine quiet_load_at rfl rfl (by with_reducible repeat (first | exact Sel.here | apply Sel.there)) (by kernel_rfl) (by first | assumption | exact rfl) ?_; go_frame; go_big_quiet_on) | (go_big_quiet_op; (first | go_big_quiet_on | ((apply Exists.intro); (refine ⟨fun w1 hw => ?_, ?_⟩); (focus ((have hw := Cl.out hw); (exact less_in hw _ _ hl'.out))); (go_big_quiet_on))))))))
                (refine wpQuiet_nil ?_); (intro w1 hB); (clear hF hA hn1 hn2); (have hA := Cl.out hB); (clear hB); (try simp only [setL, List.set_cons_zero, List.set_cons_succ, List.cons_append, List.nil_append] at hA); (have hF := hA.facts); (try simp only [facts_cons, facts_nil, facts_cells, facts_old, facts_fact, facts_obj, facts_map, facts_iter, and_true, true_and] at hF)
                go_wp2_with fail
                go_roundg (gk - 1)
                case measure => omega
                case rel => exact ⟨x + 1, by simp, by omega, by omega, by omega, hA, by rw [← hO'.out, hs.out]⟩
              · have hs := Lib.hid (scanUp_stop (p := leP dk a) (d := dk) (j := j) (fun _ => (show leP dk a dk[x]! = false from by unfold leP; simpa [ltU, atU] using hl)))
                have hl' := Lib.hid hl
                clear hl
                go_wp2_with fail
                (refine wp_region_all (Cl _ _ _) (by kernel_rfl) (by kernel_rfl) (Cl.drew hA) ?_); (have hn1 := Cl.none hA); (have hn2 := Cl.none2 hA); (repeat (first | go_big_quiet_skip | (go_big_quiet_want; (first | (refine quiet_load_at rfl rfl (by with_reducible repeat (first | exact Sel.here | apply Sel.there)) (by kernel_rfl) (by first | assumption | exact rfl) ?_; go_frame; go_big_quiet_on) | (go_big_quiet_op; (first | go_big_quiet_on | ((apply Exists.intro); (refine ⟨fun w1 hw => ?_, ?_⟩); (focus ((have hw := Cl.out hw); (exact less_in hw _ _ hl'.out))); (go_big_quiet_on))))))))
                (refine wpQuiet_nil ?_); (intro w1 hB); (clear hF hA hn1 hn2); (have hA := Cl.out hB); (clear hB); (try simp only [setL, List.set_cons_zero, List.set_cons_succ, List.cons_append, List.nil_append] at hA); (have hF := hA.facts); (try simp only [facts_cons, facts_nil, facts_cells, facts_old, facts_fact, facts_obj, facts_map, facts_iter, and_true, true_and] at hF)
                go_wp2_with fail
                go_meet
                case rel => exact ⟨x, rfl, by omega, by omega, by rw [← hO'.out, hs.out], hA⟩
            · have hg : decide ((x : Int) ≤ ((j : Nat) : Int)) = false := by simp; omega
              have hs := Lib.hid (scanUp_stop (p := leP dk a) (d := dk) (j := j) (i := x) (fun h => absurd h hc))
              go_wp2_with fail
              (refine wp_region_all (Cl _ _ _) (by kernel_rfl) (by kernel_rfl) (Cl.drew hA) ?_); (have hn1 := Cl.none hA); (have hn2 := Cl.none2 hA); (repeat (first | go_big_quiet_skip | (go_big_quiet_want; (first | (refine quiet_load_at rfl rfl (by with_reducible repeat (first | exact Sel.here | apply Sel.there)) (by kernel_rfl) (by first | assumption | exact rfl) ?_; go_frame; go_big_quiet_on) | (go_big_quiet_op; (first | go_big_quiet_on | ((apply Exists.intro); (refine ⟨fun w1 hw => ?_, ?_⟩); (focus ((have hw := Cl.out hw); (fail))); (go_big_quiet_on))))))))
              (refine wpQuiet_nil ?_); (intro w1 hB); (clear hF hA hn1 hn2); (have hA := Cl.out hB); (clear hB); (try simp only [setL, List.set_cons_zero, List.set_cons_succ, List.cons_append, List.nil_append] at hA); (have hF := hA.facts); (try simp only [facts_cons, facts_nil, facts_cells, facts_old, facts_fact, facts_obj, facts_map, facts_iter, and_true, true_and] at hF)
              go_wp2_with fail
              go_meet
              case rel => exact ⟨x, rfl, by omega, by omega, by rw [← hO'.out, hs.out], hA⟩
        case rest =>
          obtain ⟨i4, rfl, i41, i42, i43, hB⟩ := hcut
          clear hA
          have hA := hB
          clear hB
          have i44 := Lib.hid i43
          clear i43
          go_upto_block 4 with fail
          go_cut [10] from 46 to 61 (fun u wc => ∃ q : Nat, u = .int .i64 q ∧ q ≤ j ∧ (i4 ≤ q + 1 ∨ q = j) ∧ scanDown (gtP dk a) dk i4 j = q ∧ At L0 w [blkU g dk r] wc)
          case first =>
            go_wp2_with fail
            go_loopg [10] (j + 1 - i4) (ScanD L0 w g dk r (gtP dk a) i4 j)
            case atStart => exact ⟨j, by first | rfl | simp, Nat.le_refl _, .inr rfl, Nat.le_refl _, hA, rfl⟩
            case round =>
              obtain ⟨x, rfl, hx1, hx2, hk, hB, hO⟩ := hrel
              have hO' := Lib.hid hO
              clear hA hO
              have hA := hB
              clear hB
              have hF := hA.facts
              have ea := rowC_at (d := dk) (r := r) (i := a) (by omega)
              (try simp only [setL, List.set_cons_zero, List.set_cons_succ, List.cons_append, List.nil_append] at hA); (have hF := hA.facts); (try simp only [facts_cons, facts_nil, facts_cells, facts_old, facts_fact, facts_obj, facts_map, facts_iter, and_true, true_and] at hF)
              by_cases hc : i4 ≤ x
              · have hg : decide (((i4 : Nat) : Int) ≤ (x : Int)) = true := by simp; omega
                obtain ⟨y, hy⟩ : ∃ y, x = y + 1 := ⟨x - 1, by omega⟩
                have ey : (x : Int) - 1 = (y : Int) := by omega
                have gy1 : x ≤ y + 1 := by omega
                have gy2 : y + 1 ≤ x := by omega
                have hy' := Lib.hid hy
                clear hy
                have ex := rowC_at (d := dk) (r := r) (i := x) (by omega)
                cases hl : ltU (atU dk a) (atU dk x)
                · have hs := Lib.hid (scanDown_stop (p := gtP dk a) (d := dk) (i := i4) (fun _ => (show gtP dk a dk[x]! = false from by unfold gtP; simpa [ltU, atU] using hl)))
                  have hl' := Lib.hid hl
                  clear hl
                  go_wp2_with fail
                  (refine wp_region_all (Cl _ _ _) (by kernel_rfl) (by kernel_rfl) (Cl.drew hA) ?_); (have hn1 := Cl.none hA); (have hn2 := Cl.none2 hA); (repeat (first | go_big_quiet_skip | (go_big_quiet_want; (first | (refine quiet_load_at rfl rfl (by with_reducible repeat (first | exact Sel.here | apply Sel.there)) (by kernel_rfl) (by first | assumption | exact rfl) ?_; go_frame; go_big_quiet_on) | (go_big_quiet_op; (first | go_big_quiet_on | ((apply Exists.intro); (refine ⟨fun w1 hw => ?_, ?_⟩); (focus ((have hw := Cl.out hw); (exact less_in hw _ _ hl'.out))); (go_big_quiet_on))))))))
                  (refine wpQuiet_nil ?_); (intro w1 hB); (clear hF hA hn1 hn2); (have hA := Cl.out hB); (clear hB); (try simp only [setL, List.set_cons_zero, List.set_cons_succ, List.cons_append, List.nil_append] at hA); (have hF := hA.facts); (try simp only [facts_cons, facts_nil, facts_cells, facts_old, facts_fact, facts_obj, facts_map, facts_iter, and_true, true_and] at hF)
                  go_wp2_with fail
                  go_meet
                  case rel => exact ⟨x, rfl, by omega, by omega, by rw [← hO'.out, hs.out], hA⟩
                · have hs := Lib.hid (scanDown_go' (p := gtP dk a) (d := dk) (i := i4) hc hy'.out (show gtP dk a dk[x]! = true from by unfold gtP; simpa [ltU, atU] using hl))
                  have hl' := Lib.hid hl
                  clear hl
                  go_wp2_with fail
                  (refine wp_region_all (Cl _ _ _) (by kernel_rfl) (by kernel_rfl) (Cl.drew hA) ?_); (have hn1 := Cl.none hA); (have hn2 := Cl.none2 hA); (repeat (first | go_big_quiet_skip | (go_big_quiet_want; (first | (refine quiet_load_at rfl rfl (by with_reducible repeat (first | exact Sel.here | apply Sel.there)) (by kernel_rfl) (by first | assumption | exact rfl) ?_; go_frame; go_big_quiet_on) | (go_big_quiet_op; (first | go_big_quiet_on | ((apply Exists.intro); (refine ⟨fun w1 hw => ?_, ?_⟩); (focus ((have hw := Cl.out hw); (exact less_in hw _ _ hl'.out))); (go_big_quiet_on))))))))
                  (refine wpQuiet_nil ?_); (intro w1 hB); (clear hF hA hn1 hn2); (have hA := Cl.out hB); (clear hB); (try simp only [setL, List.set_cons_zero, List.set_cons_succ, List.cons_append, List.nil_append] at hA); (have hF := hA.facts); (try simp only [facts_cons, facts_nil, facts_cells, facts_old, facts_fact, facts_obj, facts_map, facts_iter, and_true, true_and] at hF)
                  go_wp2_with fail
                  go_roundg (gk - 1)
                  case measure => omega
                  case rel => exact ⟨y, by first | rfl | simp, by omega, by omega, by omega, hA, by rw [← hO'.out, hs.out]⟩
              · have hg : decide (((i4 : Nat) : Int) ≤ (x : Int)) = false := by simp; omega
                have hs := Lib.hid (scanDown_stop (p := gtP dk a) (d := dk) (i := i4) (j := x) (fun h => absurd h hc))
                go_wp2_with fail
                (refine wp_region_all (Cl _ _ _) (by kernel_rfl) (by kernel_rfl) (Cl.drew hA) ?_); (have hn1 := Cl.none hA); (have hn2 := Cl.none2 hA); (repeat (first | go_big_quiet_skip | (go_big_quiet_want; (first | (refine quiet_load_at rfl rfl (by with_reducible repeat (first | exact Sel.here | apply Sel.there)) (by kernel_rfl) (by first | assumption | exact rfl) ?_; go_frame; go_big_quiet_on) | (go_big_quiet_op; (first | go_big_quiet_on | ((apply Exists.intro); (refine ⟨fun w1 hw => ?_, ?_⟩); (focus ((have hw := Cl.out hw); (fail))); (go_big_quiet_on))))))))
                (refine wpQuiet_nil ?_); (intro w1 hB); (clear hF hA hn1 hn2); (have hA := Cl.out hB); (clear hB); (try simp only [setL, List.set_cons_zero, List.set_cons_succ, List.cons_append, List.nil_append] at hA); (have hF := hA.facts); (try simp only [facts_cons, facts_nil, facts_cells, facts_old, facts_fact, facts_obj, facts_map, facts_iter, and_true, true_and] at hF)
                go_wp2_with fail
                go_meet
                case rel => exact ⟨x, rfl, by omega, by omega, by rw [← hO'.out, hs.out], hA⟩
          case rest =>
            obtain ⟨j4, rfl, j41, j42, j43, hB⟩ := hcut
            clear hA
            have hA := hB
            clear hB
            have j44 := Lib.hid j43
            clear j43
            by_cases hij : j4 < i4
            · have hs := Lib.hid (partEq_stop i44.out j44.out hij)
              go_wp2_with fail
              go_meet
              case rel => exact ⟨i4, dk, rfl, by rw [← hO'.out, hs.out], hA⟩
            · have hle2 : i4 ≤ j4 := by omega
              have hs := Lib.hid (partEq_go i44.out j44.out hle2 (by omega) (by omega))
              clear hij
              go_upto_region 8 with fail
              go_cut [0] from 29 to 82 (fun u wc => u = .slice (some ⟨g, 0, none⟩) n cap ∧ At L0 w [blkU g (swp dk i4 j4) r] wc)
              case first =>
                by_cases hxy : i4 = j4
                · subst hxy
                  (try clear hF); (have k1 := at_cell hA .here (i := i4) (by omega)); (have k2 := at_cell hA .here (i := i4) (by omega)); (have f1 := at_free hA .here (i4)); (have f2 := at_free hA .here (i4)); go_region; (have hB := (at_swp hA .here (i := i4) (j := i4) (by omega) (by omega)).drew); (clear k1 k2 f1 f2 hA); (have hA := hB); (clear hB); (generalize World.drew (World.setCell _ _ _) = wz at *)
                  go_wp2_with fail
                  go_meet
                  case rel => exact ⟨rfl, hA⟩
                · (try clear hF); (have k1 := at_cell hA .here (i := i4) (by omega)); (have k2 := at_cell hA .here (i := j4) (by omega)); (have f1 := at_free hA .here (i4)); (have f2 := at_free hA .here (j4)); go_region; (have hB := (at_swp hA .here (i := i4) (j := j4) (by omega) (by omega)).drew); (clear k1 k2 f1 f2 hA); (have hA := hB); (clear hB); (generalize World.drew (World.setCell _ _ _) = wz at *)
                  go_wp2_with fail
                  go_meet
                  case rel => exact ⟨rfl, hA⟩
              case rest =>
                obtain ⟨rfl, hB⟩ := hcut
                clear hA
                have hA := hB
                clear hB
                obtain ⟨d5, hd5⟩ : ∃ z, swp dk i4 j4 = z := ⟨_, rfl⟩
                rw [hd5] at hA
                have d5s : d5.size = dk.size := by rw [← hd5]; exact swp_size _ _ _
                have hd5' := Lib.hid hd5
                clear hd5
                go_wp2_with fail
                go_roundg (j4 - 1 + 1 - (i4 + 1))
                case measure => omega
                case rel => exact ⟨i4 + 1, j4 - 1, d5, by simp, by congr 1; omega, by omega, by omega, by omega, by omega, Nat.le_refl _, by omega, hA, by rw [← hO'.out, hs.out, hd5'.out]⟩
    case rest =>
      obtain ⟨q, dq, rfl, hq3, hB⟩ := hcut
      clear hA
      have hA := hB
      clear hB
      have hq4 := Lib.hid hq3
      clear hq3
      have hp := Lib.hid (show Sort.partitionEqual ltInt d0 a b p = (q, dq) by rw [hres.out]; simp only [hd1'.out, hBb'.out, hA1'.out, hq4.out])
      go_wp2_with fail
      refine bodyPost_ret (v := .int .i64 q) (by simp [results, Try.results80, go_sem]) rfl ?_
      unfold PartEqPost
      rw [hp.out]
      exact ⟨rfl, hA⟩
end Go.Proofs.Ytnkddjomanaadaa.SortU
