/- slices.Sort at uint64, walked: pdqsortOrdered. -/
import Derived.Test.YtnkddjomanaadaaSortU6
namespace Go.Proofs.Ytnkddjomanaadaa.SortU
open Go.RowKit
open Go.Sort (swp ltInt PermIn SortedIn)
set_option linter.unusedSimpArgs false
set_option linter.unusedVariables false

/-- sorted from a to b -/
def PdqPost (L0 : List Part) (w : World) (g : Nat) (d : Array Int) (r : List Value) (a b : Nat) (e : Ending) (w' : World) : Prop :=
  ∃ R, e = .returned (.tuple #[]) ∧ PermIn a b d R ∧ SortedIn ltInt a b R ∧ At L0 w [blkU g R r] w'
/-- what is still to be done: whatever sorts the part sorts the whole -/
def Todo (d : Array Int) (a b : Nat) (dk : Array Int) (a' b' : Nat) : Prop := ∀ R, PermIn a' b' dk R → SortedIn ltInt a' b' R → PermIn a b d R ∧ SortedIn ltInt a b R
theorem Todo.step {d dk d1 : Array Int} {a b a' b' : Nat} (h : Todo d a b dk a' b') (hp : PermIn a' b' dk d1) : Todo d a b d1 a' b' := fun R h1 h2 => h R (Sort.permIn_trans _ _ _ a' b' hp h1) h2
def PdqRel (L0 : List Part) (w : World) (g : Nat) (d : Array Int) (r : List Value) (a b : Nat) (k : Nat) (u1 u2 u3 u8 u9 : Value) (wr : World) : Prop :=
  ∃ (a' b' lim : Nat) (wb wp : Bool) (dk : Array Int), u1 = .int .i64 a' ∧ u2 = .int .i64 b' ∧ u3 = .int .i64 lim ∧ u8 = .bool wb ∧ u9 = .bool wp ∧ a' ≤ b' ∧ b' ≤ d.size ∧ b' - a' ≤ k ∧ k ≤ b - a ∧ lim < 4611686018427387904 ∧ dk.size = d.size ∧
    Sort.Below ltInt a' b' dk ∧ At L0 w [blkU g dk r] wr ∧ Todo d a b dk a' b'
set_option maxRecDepth 1000000 in
set_option maxHeartbeats 16000000 in
theorem pdq_any : ∀ (N : Nat) {w : World} {g cap n : Nat} {d : Array Int} {r : List Value} (h : Sep [blkU g d r] w) (hn : d.size = n) {a b limit : Nat} (hN : b - a < N) (hab : a ≤ b) (hb : b ≤ d.size) (hlim : limit < 4611686018427387904) (hsz : d.size < 4611686018427387904) (hBel : Sort.Below ltInt a b d),
    Calls Try.prog 60 #[.slice (some ⟨g, 0, none⟩) n cap, .int .i64 a, .int .i64 b, .int .i64 limit] w (PdqPost [blkU g d r] w g d r a b) := by
  intro N
  induction N with
  | zero => intro w g cap n d r h hn a b limit hN; omega
  | succ N ih =>
    intro w g cap n d r h hn a b limit hN hab hb hlim hsz hBel
    obtain ⟨L0, hL0, hA⟩ : ∃ L0, L0 = [blkU g d r] ∧ At L0 w [blkU g d r] w := ⟨_, rfl, At.start h⟩
    rw [← hL0]
    clear h hL0
    go_enter Try.func60, Try.ntmps60
    go_wp2_with fail
    go_loopg [1, 2, 3, 8, 9] (b - a) (PdqRel L0 w g d r a b)
    case atStart => exact ⟨a, b, limit, true, true, d, rfl, rfl, rfl, rfl, rfl, hab, hb, Nat.le_refl _, Nat.le_refl _, hlim, rfl, hBel, hA, fun R h1 h2 => ⟨h1, h2⟩⟩
    case round =>
      obtain ⟨a', b', lim, wb, wp, dk, rfl, rfl, rfl, rfl, rfl, hab', hb', hk, hkb, hlim', hsk, hBk, hB, hT⟩ := hrel
      have hT' := Lib.hid hT
      have hBk' := Lib.hid hBk
      clear hA hT hBel hBk
      have hA := hB
      clear hB
      by_cases h12 : b' - a' ≤ 12
      · have h12' : (b' : Int) - (a' : Int) ≤ 12 := by omega
        have hs := Sort.insertionSort_holds Sort.swo_ltInt dk a' b' hab' (by omega)
        have hs' := Lib.hid hs
        clear hs
        go_wp2_with fail
        refine (insertion_any (hA.sep1 .here) (hsk.trans hn) hab' (by omega) (by omega)).mono ?_
        rintro e w1 ⟨rfl, hT1⟩
        have hB := hA.call1 .here hT1
        clear hA hT1
        go_wp2_with fail
        refine bodyPost_ret (results_none rfl _ _ _) rfl ?_
        have hh := hT'.out _ hs'.out.1 hs'.out.2
        exact ⟨_, rfl, hh.1, hh.2, hB⟩
      · have h12' : ¬ (b' : Int) - (a' : Int) ≤ 12 := by omega
        by_cases hl0 : lim = 0
        · subst hl0
          have hs := Sort.heapSort_holds Sort.swo_ltInt dk a' b' hab' (by omega)
          have hs' := Lib.hid hs
          clear hs
          go_wp2_with fail
          refine (heapSort_any (hA.sep1 .here) (hsk.trans hn) (a := a') (b := b') (by omega) (by omega) (by omega)).mono ?_
          rintro e w1 ⟨rfl, hT1⟩
          have hB := hA.call1 .here hT1
          clear hA hT1
          go_wp2_with fail
          refine bodyPost_ret (results_none rfl _ _ _) rfl ?_
          have hh := hT'.out _ hs'.out.1 hs'.out.2
          exact ⟨_, rfl, hh.1, hh.2, hB⟩
        · have hl0' : ¬ (lim : Int) = 0 := by omega
          go_upto_if 35 with fail
          go_cut [3] from 19 to 133 (fun u wc => ∃ (l2 : Nat) (d1 : Array Int), u = .int .i64 l2 ∧ l2 < 4611686018427387904 ∧ PermIn a' b' dk d1 ∧ At L0 w [blkU g d1 r] wc)
          case first =>
            cases wb
            · go_wp2_with fail
              refine (break_any (hA.sep1 .here) (hsk.trans hn) (a := a') (b := b') (by omega) (by omega) (by omega)).mono ?_
              rintro e w1 ⟨d1, rfl, hp, hT1⟩
              have hB := hA.call1 .here hT1
              clear hA hT1
              have hp' := Lib.hid hp
              clear hp
              go_wp2_with fail
              go_meet
              case rel => exact ⟨lim - 1, d1, by congr 1; omega, by omega, hp'.out, hB⟩
            · go_wp2_with fail
              go_meet
              case rel => exact ⟨lim, dk, rfl, hlim', Sort.permIn_refl _ _ _, hA⟩
          case rest =>
            obtain ⟨l2, d1, rfl, hl2, hp1, hB⟩ := hcut
            clear hA
            have hA := hB
            clear hB
            have s1 : d1.size = dk.size := hp1.1
            have T1 := Lib.hid (Todo.step hT'.out hp1)
            have B1 := Lib.hid (Sort.Below.perm hBk'.out (by omega) hp1)
            clear hp1 hT' hBk'
            go_upto_if 50 with (go_at_call 76; refine (pivot_any (hA.sep1 .here) (s1.trans (hsk.trans hn)) (a := a') (b := b') (by omega) (by omega) (by omega)).mono ?_; rintro e w1 ⟨p, hv, rfl, hpa, hpb, hT1⟩; have hB := hA.call1 .here hT1; clear hA hT1; have hA := hB; clear hB)
            go_cut [11, 12] from 19 to 133 (fun u v wc => ∃ (p2 : Nat) (hv2 : Int) (d2 : Array Int), u = .int .i64 p2 ∧ v = .int .i64 hv2 ∧ a' ≤ p2 ∧ p2 < b' ∧ PermIn a' b' d1 d2 ∧ At L0 w [blkU g d2 r] wc)
            case first =>
              by_cases h2 : hv = 2
              · have hs := Lib.hid (Sort.reverseRange_holds d1 a' b' hab' (by omega))
                subst h2
                go_wp2_with fail
                refine (reverse_any (hA.sep1 (by simpa using Sel.here)) (s1.trans (hsk.trans hn)) (a := a') (b := b') (by omega) (by omega) (by omega)).mono ?_
                rintro e w1 ⟨rfl, hT1⟩
                have hB := hA.call1 (by simpa using Sel.here) hT1
                clear hA hT1
                go_wp2_with fail
                go_meet
                case rel => exact ⟨b' - 1 - (p - a'), 1, _, by congr 1; omega, rfl, by omega, by omega, hs.out, hB⟩
              · have h2' : (hv == 2) = false := by simpa using h2
                go_wp2_with fail
                go_meet
                case rel => exact ⟨p, hv, d1, rfl, rfl, hpa, hpb, Sort.permIn_refl _ _ _, hA⟩
            case rest =>
              obtain ⟨p2, hv2, d2, rfl, rfl, hpa2, hpb2, hp2, hB⟩ := hcut
              clear hA
              have hA := hB
              clear hB
              have s2 : d2.size = d1.size := hp2.1
              have T2 := Lib.hid (Todo.step T1.out hp2)
              have B2 := Lib.hid (Sort.Below.perm B1.out (by omega) hp2)
              clear hp2 T1 B1
              go_upto_region 15 with fail
              go_cut [68] from 19 to 133 (fun u wc => ∃ c : Bool, u = .bool c ∧ At L0 w [blkU g d2 r] wc)
              case first =>
                cases wb
                · go_wp2_with fail
                  go_meet
                  case rel => exact ⟨false, rfl, hA⟩
                · cases wp
                  · go_wp2_with fail
                    go_meet
                    case rel => exact ⟨false, rfl, hA⟩
                  · by_cases h1 : hv2 = 1
                    · subst h1
                      go_wp2_with fail
                      go_meet
                      case rel => exact ⟨true, rfl, hA⟩
                    · have h1' : (hv2 == 1) = false := by simpa using h1
                      go_wp2_with fail
                      go_meet
                      case rel => exact ⟨false, rfl, hA⟩
              case rest =>
                obtain ⟨c, rfl, hB⟩ := hcut
                clear hA
                have hA := hB
                clear hB
                go_upto_if 68 with fail
                go_cut [11] from 19 to 133 (fun u wc => ∃ d3 : Array Int, u = .int .i64 p2 ∧ PermIn a' b' d2 d3 ∧ At L0 w [blkU g d3 r] wc)
                case first =>
                  cases c
                  · go_wp2_with fail
                    go_meet
                    case rel => exact ⟨d2, rfl, Sort.permIn_refl _ _ _, hA⟩
                  · have hs := Lib.hid (Sort.partialInsertionSort_holds Sort.swo_ltInt d2 a' b' (by omega) (by omega) B2.out)
                    go_wp2_with fail
                    refine (partialIns_any (hA.sep1 .here) (s2.trans (s1.trans (hsk.trans hn))) (a := a') (b := b') (by omega) (by omega) (by omega)).mono ?_
                    rintro e w1 ⟨rfl, hT1⟩
                    have hB := hA.call1 .here hT1
                    clear hA hT1
                    cases hq : (Sort.partialInsertionSort ltInt d2 a' b').2
                    · go_wp2_with fail
                      go_meet
                      case rel => exact ⟨_, rfl, hs.out.1, hB⟩
                    · have hh := Lib.hid (T2.out _ hs.out.1 (hs.out.2 hq))
                      go_wp2_with fail
                      refine bodyPost_ret (results_none rfl _ _ _) rfl ?_
                      exact ⟨_, rfl, hh.out.1, hh.out.2, hB⟩
                case rest =>
                  obtain ⟨d3, rfl, hp3, hB⟩ := hcut
                  clear hA
                  have hA := hB
                  clear hB
                  have s3 : d3.size = d2.size := hp3.1
                  have T3 := Lib.hid (Todo.step T2.out hp3)
                  have B3 := Lib.hid (Sort.Below.perm B2.out (by omega) hp3)
                  clear hp3 T2 B2
                  go_upto_region 17 with fail
                  go_cut [87] from 19 to 133 (fun u wc => ∃ c : Bool, u = .bool c ∧ (c = true → 0 < a' ∧ ltInt d3[a' - 1]! d3[p2]! = false) ∧ At L0 w [blkU g d3 r] wc)
                  case first =>
                    have hF := hA.facts
                    (try simp only [setL, List.set_cons_zero, List.set_cons_succ, List.cons_append, List.nil_append] at hA); (have hF := hA.facts); (try simp only [facts_cons, facts_nil, facts_cells, facts_old, facts_fact, facts_obj, facts_map, facts_iter, and_true, true_and] at hF)
                    by_cases ha0 : 0 < a'
                    · have hg : decide ((0 : Int) < (a' : Int)) = true := by simp; omega
                      obtain ⟨y, hy⟩ : ∃ y, a' = y + 1 := ⟨a' - 1, by omega⟩
                      have ey : (a' : Int) - 1 = (y : Int) := by omega
                      have gy1 : a' ≤ y + 1 := by omega
                      have gy2 : y + 1 ≤ a' := by omega
                      have hy' := Lib.hid (show a' - 1 = y by omega)
                      clear hy
                      have e1 := rowC_at (d := d3) (r := r) (i := y) (by omega)
                      have e2 := rowC_at (d := d3) (r := r) (i := p2) (by omega)
                      cases hl : ltU (atU d3 y) (atU d3 p2)
                      · have hl' := Lib.hid hl
                        clear hl
                        go_wp2_with fail
                        (refine wp_region_all (Cl _ _ _) (by kernel_rfl) (by kernel_rfl) (Cl.drew hA) ?_); (have hn1 := Cl.none hA); (have hn2 := Cl.none2 hA); (repeat (first | go_big_quiet_skip | (go_big_quiet_want; (first | (refine quiet_load_at rfl rfl (by with_reducible repeat (first | exact Sel.here | apply Sel.there)) (by kernel_rfl) (by first | assumption | exact rfl) ?_; go_frame; go_big_quiet_on) | (go_big_quiet_op; (first | go_big_quiet_on | ((apply Exists.intro); (refine ⟨fun w1 hw => ?_, ?_⟩); (focus ((have hw := Cl.out hw); (exact less_in hw _ _ hl'.out))); (go_big_quiet_on))))))))
                        (refine wpQuiet_nil ?_); (intro w1 hB); (clear hF hA hn1 hn2); (have hA := Cl.out hB); (clear hB); (try simp only [setL, List.set_cons_zero, List.set_cons_succ, List.cons_append, List.nil_append] at hA); (have hF := hA.facts); (try simp only [facts_cons, facts_nil, facts_cells, facts_old, facts_fact, facts_obj, facts_map, facts_iter, and_true, true_and] at hF)
                        go_wp2_with fail
                        go_meet
                        case rel => exact ⟨true, rfl, fun _ => ⟨ha0, by rw [hy'.out]; exact hl'.out⟩, hA⟩
                      · have hl' := Lib.hid hl
                        clear hl
                        go_wp2_with fail
                        (refine wp_region_all (Cl _ _ _) (by kernel_rfl) (by kernel_rfl) (Cl.drew hA) ?_); (have hn1 := Cl.none hA); (have hn2 := Cl.none2 hA); (repeat (first | go_big_quiet_skip | (go_big_quiet_want; (first | (refine quiet_load_at rfl rfl (by with_reducible repeat (first | exact Sel.here | apply Sel.there)) (by kernel_rfl) (by first | assumption | exact rfl) ?_; go_frame; go_big_quiet_on) | (go_big_quiet_op; (first | go_big_quiet_on | ((apply Exists.intro); (refine ⟨fun w1 hw => ?_, ?_⟩); (focus ((have hw := Cl.out hw); (exact less_in hw _ _ hl'.out))); (go_big_quiet_on))))))))
                        (refine wpQuiet_nil ?_); (intro w1 hB); (clear hF hA hn1 hn2); (have hA := Cl.out hB); (clear hB); (try simp only [setL, List.set_cons_zero, List.set_cons_succ, List.cons_append, List.nil_append] at hA); (have hF := hA.facts); (try simp only [facts_cons, facts_nil, facts_cells, facts_old, facts_fact, facts_obj, facts_map, facts_iter, and_true, true_and] at hF)
                        go_wp2_with fail
                        go_meet
                        case rel => exact ⟨false, rfl, nofun, hA⟩
                    · have hg : decide ((0 : Int) < (a' : Int)) = false := by simp; omega
                      go_wp2_with fail
                      (refine wp_region_all (Cl _ _ _) (by kernel_rfl) (by kernel_rfl) (Cl.drew hA) ?_); (have hn1 := Cl.none hA); (have hn2 := Cl.none2 hA); (repeat (first | go_big_quiet_skip | (go_big_quiet_want; (first | (refine quiet_load_at rfl rfl (by with_reducible repeat (first | exact Sel.here | apply Sel.there)) (by kernel_rfl) (by first | assumption | exact rfl) ?_; go_frame; go_big_quiet_on) | (go_big_quiet_op; (first | go_big_quiet_on | ((apply Exists.intro); (refine ⟨fun w1 hw => ?_, ?_⟩); (focus ((have hw := Cl.out hw); (fail))); (go_big_quiet_on))))))))
                      (refine wpQuiet_nil ?_); (intro w1 hB); (clear hF hA hn1 hn2); (have hA := Cl.out hB); (clear hB); (try simp only [setL, List.set_cons_zero, List.set_cons_succ, List.cons_append, List.nil_append] at hA); (have hF := hA.facts); (try simp only [facts_cons, facts_nil, facts_cells, facts_old, facts_fact, facts_obj, facts_map, facts_iter, and_true, true_and] at hF)
                      go_wp2_with fail
                      go_meet
                      case rel => exact ⟨false, rfl, nofun, hA⟩
                  case rest =>
                    obtain ⟨c, rfl, hc, hB⟩ := hcut
                    clear hA
                    have hA := hB
                    clear hB
                    have hc' := Lib.hid hc
                    clear hc
                    cases c
                    · rcases hx : Sort.partition ltInt d3 a' b' p2 with ⟨mid, ap, d4⟩
                      have hr := Sort.round_part Sort.swo_ltInt (Sort.partition_holds ltInt) hpa2 hpb2 (by omega) B3.out hx
                      obtain ⟨m1, m2, s4, BL, BR, RL, RR⟩ := hr
                      have BL' := Lib.hid BL
                      have BR' := Lib.hid BR
                      have RL' := Lib.hid RL
                      have RR' := Lib.hid RR
                      clear BL BR RL RR
                      have hx' := Lib.hid hx
                      clear hx
                      go_wp2_with (go_at_call 81; refine (partition_any (hA.sep1 .here) (s3.trans (s2.trans (s1.trans (hsk.trans hn)))) hpa2 hpb2 (by omega) (by omega)).mono ?_; unfold PartPost; rw [hx'.out]; rintro e w1 ⟨rfl, hT1⟩; have hB := hA.call1 .here hT1; clear hA hT1; have hA := hB; clear hB; simp only [])
                      · -- the left one is the smaller
                        refine (ih (hA.sep1 .here) (s4.trans (s3.trans (s2.trans (s1.trans (hsk.trans hn))))) (a := a') (b := mid) (limit := l2) (by omega) m1 (by omega) hl2 (by omega) BL'.out).mono ?_
                        rintro e w1 ⟨d5, rfl, hp5, hs5, hT1⟩
                        have hB := hA.call1 .here hT1
                        clear hA hT1
                        have hA := hB
                        clear hB
                        have s5 : d5.size = d4.size := hp5.1
                        have hh := Lib.hid (RL'.out d5 hp5 hs5)
                        clear hp5 hs5
                        go_wp2_with fail
                        go_roundg (b' - (mid + 1))
                        case measure => omega
                        case rel => exact ⟨mid + 1, b', l2, _, _, d5, by simp, rfl, rfl, rfl, rfl, by omega, hb', Nat.le_refl _, by omega, hl2, by omega, hh.out.1, hA, fun R h1 h2 => T3.out R (hh.out.2 R h1 h2).1 (hh.out.2 R h1 h2).2⟩
                      · have em : (mid : Int) + 1 = ((mid + 1 : Nat) : Int) := by omega
                        rw [em]
                        refine (ih (hA.sep1 .here) (s4.trans (s3.trans (s2.trans (s1.trans (hsk.trans hn))))) (a := mid + 1) (b := b') (limit := l2) (by omega) (by omega) (by omega) hl2 (by omega) BR'.out).mono ?_
                        rintro e w1 ⟨d5, rfl, hp5, hs5, hT1⟩
                        have hB := hA.call1 .here hT1
                        clear hA hT1
                        have hA := hB
                        clear hB
                        have s5 : d5.size = d4.size := hp5.1
                        have hh := Lib.hid (RR'.out d5 hp5 hs5)
                        clear hp5 hs5
                        go_wp2_with fail
                        go_roundg (mid - a')
                        case measure => omega
                        case rel => exact ⟨a', mid, l2, _, _, d5, rfl, rfl, rfl, rfl, rfl, m1, by omega, Nat.le_refl _, by omega, hl2, by omega, hh.out.1, hA, fun R h1 h2 => T3.out R (hh.out.2 R h1 h2).1 (hh.out.2 R h1 h2).2⟩
                    · rcases hx : Sort.partitionEqual ltInt d3 a' b' p2 with ⟨mid, d4⟩
                      have hr := Sort.round_eq Sort.swo_ltInt (Sort.partitionEqual_holds ltInt) (hc'.out rfl).1 hpa2 hpb2 (by omega) B3.out (hc'.out rfl).2 hx
                      obtain ⟨m1, m2, s4, BR, RR⟩ := hr
                      have BR' := Lib.hid BR
                      have RR' := Lib.hid RR
                      clear BR RR
                      have hx' := Lib.hid hx
                      clear hx
                      go_wp2_with (go_at_call 80; refine (partitionEqual_any (hA.sep1 .here) (s3.trans (s2.trans (s1.trans (hsk.trans hn)))) hpa2 hpb2 (by omega) (by omega)).mono ?_; unfold PartEqPost; rw [hx'.out]; rintro e w1 ⟨rfl, hT1⟩; have hB := hA.call1 .here hT1; clear hA hT1; have hA := hB; clear hB; simp only [])
                      go_roundg (b' - mid)
                      case measure => omega
                      case rel => exact ⟨mid, b', l2, _, _, d4, rfl, rfl, rfl, rfl, rfl, m2, hb', Nat.le_refl _, by omega, hl2, by omega, BR'.out, hA, fun R h1 h2 => T3.out R (RR'.out R h1 h2).1 (RR'.out R h1 h2).2⟩
end Go.Proofs.Ytnkddjomanaadaa.SortU
