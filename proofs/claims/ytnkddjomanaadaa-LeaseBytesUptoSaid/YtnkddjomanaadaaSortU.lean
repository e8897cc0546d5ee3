/- slices.Sort at uint64, walked: the row as a part; cmp.Less; insertionSortOrdered. -/
import Derived.Test.YtnkddjomanaadaaRow4
import Derived.Test.YtnkddjomanaadaaMapW
import Derived.Test.YtnkddjomanaadaaChecked
import Derived.Sort.AssemblyPlain
import Derived.Deep.LoopGhost
import Derived.Deep.QuietTactic
import Derived.BigQuiet
import Derived.Deep.Cut
namespace Go.Proofs.Ytnkddjomanaadaa.SortU
open Go.RowKit
open Go.Sort (swp ltInt insInner insOuter)
set_option linter.unusedSimpArgs false
set_option linter.unusedVariables false

/-- a row of numbers, and what lies behind it -/
def rowC (d : Array Int) (r : List Value) : List Value := d.toList.map (Value.int .u64) ++ r
def atU (d : Array Int) (i : Nat) : Int := d[i]!
def ltU (x y : Int) : Bool := ltInt x y
abbrev blkU (g : Nat) (d : Array Int) (r : List Value) : Part := .cells g (rowC d r) 29
theorem rowC_at {d : Array Int} {r : List Value} {i : Nat} (h : i < d.size) : (rowC d r)[i]? = some (.int .u64 (atU d i)) := by
  unfold rowC atU
  rw [List.getElem?_append_left (by simpa using h), List.getElem?_map, Array.getElem?_toList, getElem!_pos d i h, Array.getElem?_eq_getElem h]
  rfl
theorem rowC_len (d : Array Int) (r : List Value) : (rowC d r).length = d.size + r.length := by simp [rowC]
theorem rowC_set {d : Array Int} {r : List Value} {i : Nat} (h : i < d.size) (x : Int) : setL (rowC d r) i [.int .u64 x] = rowC (d.setIfInBounds i x) r := by
  unfold rowC
  simp only [setL, Array.toList_setIfInBounds, List.map_set]
  rw [List.set_append_left _ _ (by simpa using h)]
theorem rowC_swp {d : Array Int} {r : List Value} {i j : Nat} (hi : i < d.size) (hj : j < d.size) : setL (setL (rowC d r) i [.int .u64 (atU d j)]) j [.int .u64 (atU d i)] = rowC (swp d i j) r := by
  rw [rowC_set hi, rowC_set (by simpa using hj)]
  rfl
theorem at_swp {L0 L F : List Part} {w0 w : World} {g : Nat} {d : Array Int} {r : List Value} (h : At L0 w0 L w) (s : Sel (blkU g d r) L F) {i j : Nat} (hi : i < d.size) (hj : j < d.size) :
    At L0 w0 (blkU g (swp d i j) r :: F) ((w.setCell ⟨g, i, none⟩ (.int .u64 (atU d j))).setCell ⟨g, j, none⟩ (.int .u64 (atU d i))) := by
  have h0 := At.store h s i (.int .u64 (atU d j))
  have h1 := At.store h0 .here j (.int .u64 (atU d i))
  rw [show ((rowC d r).set i (.int .u64 (atU d j))).set j (.int .u64 (atU d i)) = rowC (swp d i j) r from rowC_swp hi hj] at h1
  exact h1
/-- the cells, one by one -/
theorem at_cell {L0 L F : List Part} {w0 w : World} {g : Nat} {d : Array Int} {r : List Value} (h : At L0 w0 L w) (s : Sel (blkU g d r) L F) {i : Nat} (hi : i < d.size) : w.cell? ⟨g, i, none⟩ = some (.int .u64 (atU d i)) := ((h.get s : BlockIs w g (rowC d r) 29).cell i).trans (rowC_at hi)
theorem at_free {L0 L F : List Part} {w0 w : World} {g : Nat} {d : Array Int} {r : List Value} (h : At L0 w0 L w) (s : Sel (blkU g d r) L F) (i : Nat) : w.frozen? ⟨g, i, none⟩ = false := (h.get s : BlockIs w g (rowC d r) 29).free i
theorem swp_size (d : Array Int) (i j : Nat) : (swp d i j).size = d.size := by simp [swp]

set_option maxRecDepth 100000 in
theorem isNaN_any (x : Int) (w : World) : Calls Try.prog 71 #[.int .u64 x] w fun e w' => e = .returned (.bool false) ∧ w' = w := by
  go_enter Try.func71, Try.ntmps71
  go_wp2
  go_ret
  exact ⟨by simp, rfl⟩
set_option maxRecDepth 100000 in
theorem less_any (x y : Int) (w : World) : Calls Try.prog 79 #[.int .u64 x, .int .u64 y] w fun e w' => e = .returned (.bool (ltU x y)) ∧ w' = w := by
  go_enter Try.func79, Try.ntmps79
  go_wp2_with (go_at_call 71; refine (isNaN_any _ _).mono ?_; rintro e w' ⟨rfl, rfl⟩)
  go_ret
  exact ⟨by simp [ltU, ltInt], rfl⟩
theorem less_in {L0 L : List Part} {w0 w : World} (h : At L0 w0 L w) (x y : Int) {b : Bool} (hb : ltU x y = b) : Calls Try.prog 79 #[.int .u64 x, .int .u64 y] w fun e w' => e = .returned (.bool b) ∧ At L0 w0 L w' := by
  subst hb
  exact (less_any x y w).mono fun _ _ ⟨h1, h2⟩ => ⟨h1, by rw [h2]; exact h⟩

/-! ### insertionSortOrdered -/
theorem insInner_go {a j : Nat} {d : Array Int} (hj : a < j + 1) (hl : ltU (atU d (j + 1)) (atU d j) = true) : insInner ltInt a (j + 1) d = insInner ltInt a j (swp d (j + 1) j) := by
  have hl' : ltInt d[j + 1]! d[j]! = true := hl
  rw [insInner]
  simp [hj, hl']
theorem insInner_stop {a j : Nat} {d : Array Int} (h : j ≤ a ∨ ∃ k, j = k + 1 ∧ ltU (atU d (k + 1)) (atU d k) = false) : insInner ltInt a j d = d := by
  cases j with
  | zero => rw [insInner]
  | succ k =>
    rw [insInner]
    rcases h with h | ⟨m, hm, h⟩
    · simp [show ¬ k + 1 > a by omega]
    · have : m = k := by omega
      subst this
      have h' : ltInt d[m + 1]! d[m]! = false := h
      simp [h']
theorem insOuter_go {a b i : Nat} {d : Array Int} (h : i < b) : insOuter ltInt a b i d = insOuter ltInt a b (i + 1) (insInner ltInt a i d) := by rw [insOuter, if_pos h]
theorem insOuter_stop {a b i : Nat} {d : Array Int} (h : ¬ i < b) : insOuter ltInt a b i d = d := by rw [insOuter, if_neg h]
def InsO (w : World) (g : Nat) (d : Array Int) (r : List Value) (a b : Nat) (k : Nat) (u : Value) (wr : World) : Prop :=
  ∃ (i : Nat) (dk : Array Int), u = .int .i64 i ∧ a < i ∧ i + k = b + 1 ∧ dk.size = d.size ∧ At [blkU g d r] w [blkU g dk r] wr ∧ insOuter ltInt a b i dk = insOuter ltInt a b (a + 1) d
def InsI (w : World) (g : Nat) (d : Array Int) (r : List Value) (a i : Nat) (dk : Array Int) (k : Nat) (u : Value) (wr : World) : Prop :=
  ∃ dj : Array Int, u = .int .i64 (a + k : Nat) ∧ a + k ≤ i ∧ dj.size = d.size ∧ At [blkU g d r] w [blkU g dj r] wr ∧ insInner ltInt a (a + k) dj = insInner ltInt a i dk
set_option maxRecDepth 100000 in
set_option maxHeartbeats 1000000 in
theorem insertion_any {w : World} {g cap n : Nat} {d : Array Int} {r : List Value} (h : Sep [blkU g d r] w) (hn : d.size = n) {a b : Nat} (hab : a ≤ b) (hb : b ≤ d.size) (hsz : d.size < 4611686018427387904) :
    Calls Try.prog 73 #[.slice (some ⟨g, 0, none⟩) n cap, .int .i64 a, .int .i64 b] w fun e w' => e = .returned (.tuple #[]) ∧ At [blkU g d r] w [blkU g (Sort.insertionSort ltInt d a b) r] w' := by
  have hA := At.start h
  clear h
  go_enter Try.func73, Try.ntmps73
  go_wp2_with fail
  go_loopg [6] (b - a) (InsO w g d r a b)
  case atStart => exact ⟨a + 1, d, by simp, by omega, by omega, rfl, hA, rfl⟩
  case round =>
    obtain ⟨i, dk, rfl, hai, hik, hsk, hB, hO⟩ := hrel
    have hO' := Lib.hid hO
    clear hA hO
    have hA := hB
    clear hB
    by_cases hi : i < b
    · go_wp2_with fail
      go_loopg [7] (i - a) (InsI w g d r a i dk)
      case atStart => exact ⟨dk, by rw [show a + (i - a) = i by omega], by omega, hsk, hA, by rw [show a + (i - a) = i by omega]⟩
      case round =>
        obtain ⟨dj, rfl, hji, hsj, hB, hI⟩ := hrel
        have hI' := Lib.hid hI
        clear hA hI
        have hA := hB
        clear hB
        have out : insInner ltInt a (a + gk) dj = dj → insOuter ltInt a b (i + 1) dj = insOuter ltInt a b (a + 1) d := fun hs => by
          rw [← hO'.out, insOuter_go hi, ← hI'.out, hs]
        have out' := Lib.hid out
        clear out
        rcases Nat.eq_zero_or_pos gk with h0 | hpos
        · subst h0
          (try simp only [setL, List.set_cons_zero, List.set_cons_succ, List.cons_append, List.nil_append] at hA); (have hF := hA.facts); (try simp only [facts_cons, facts_nil, facts_cells, facts_old, facts_fact, facts_obj, facts_map, facts_iter, and_true, true_and] at hF)
          have hx := Lib.hid (out'.out (insInner_stop (.inl (by omega))))
          go_wp2_with fail
          (refine wp_region_all (Cl _ _ _) (by kernel_rfl) (by kernel_rfl) (Cl.drew hA) ?_); (have hn1 := Cl.none hA); (have hn2 := Cl.none2 hA); (repeat (first | go_big_quiet_skip | (go_big_quiet_want; (first | (refine quiet_load_at rfl rfl (by with_reducible repeat (first | exact Sel.here | apply Sel.there)) (by kernel_rfl) (by first | assumption | exact rfl) ?_; go_frame; go_big_quiet_on) | (go_big_quiet_op; (first | go_big_quiet_on | ((apply Exists.intro); (refine ⟨fun w1 hw => ?_, ?_⟩); (focus ((have hw := Cl.out hw); (fail))); (go_big_quiet_on))))))))
          (refine wpQuiet_nil ?_); (intro w1 hB); (clear hF hA hn1 hn2); (have hA := Cl.out hB); (clear hB); (try simp only [setL, List.set_cons_zero, List.set_cons_succ, List.cons_append, List.nil_append] at hA); (have hF := hA.facts); (try simp only [facts_cons, facts_nil, facts_cells, facts_old, facts_fact, facts_obj, facts_map, facts_iter, and_true, true_and] at hF)
          go_wp2_with fail
          go_roundg (b - i)
          case measure => omega
          case rel => exact ⟨i + 1, dj, by simp, by omega, by omega, hsj, hA, hx.out⟩
        · obtain ⟨m, rfl⟩ : ∃ m, gk = m + 1 := ⟨gk - 1, by omega⟩
          obtain ⟨j, hj⟩ : ∃ j, a + m = j := ⟨_, rfl⟩
          have ej : a + (m + 1) = j + 1 := by omega
          rw [ej] at hI' hji out' ⊢
          have hj' := Lib.hid hj
          have e1 := rowC_at (d := dj) (r := r) (i := j + 1) (by omega)
          have e2 := rowC_at (d := dj) (r := r) (i := j) (by omega)
          have haj : a < j + 1 := by omega
          have hg : decide ((a : Int) < (j : Int) + 1) = true := by simp; omega
          clear hj ej
          (try simp only [setL, List.set_cons_zero, List.set_cons_succ, List.cons_append, List.nil_append] at hA); (have hF := hA.facts); (try simp only [facts_cons, facts_nil, facts_cells, facts_old, facts_fact, facts_obj, facts_map, facts_iter, and_true, true_and] at hF)
          cases hl : ltU (atU dj (j + 1)) (atU dj j)
          · have hx := Lib.hid (out'.out (insInner_stop (.inr ⟨j, rfl, hl⟩)))
            have hl' := Lib.hid hl
            clear hl
            go_wp2_with fail
            (refine wp_region_all (Cl _ _ _) (by kernel_rfl) (by kernel_rfl) (Cl.drew hA) ?_); (have hn1 := Cl.none hA); (have hn2 := Cl.none2 hA); (repeat (first | go_big_quiet_skip | (go_big_quiet_want; (first | (refine quiet_load_at rfl rfl (by with_reducible repeat (first | exact Sel.here | apply Sel.there)) (by kernel_rfl) (by first | assumption | exact rfl) ?_; go_frame; go_big_quiet_on) | (go_big_quiet_op; (first | go_big_quiet_on | ((apply Exists.intro); (refine ⟨fun w1 hw => ?_, ?_⟩); (focus ((have hw := Cl.out hw); (exact less_in hw _ _ hl'.out))); (go_big_quiet_on))))))))
            (refine wpQuiet_nil ?_); (intro w1 hB); (clear hF hA hn1 hn2); (have hA := Cl.out hB); (clear hB); (try simp only [setL, List.set_cons_zero, List.set_cons_succ, List.cons_append, List.nil_append] at hA); (have hF := hA.facts); (try simp only [facts_cons, facts_nil, facts_cells, facts_old, facts_fact, facts_obj, facts_map, facts_iter, and_true, true_and] at hF)
            go_wp2_with fail
            go_roundg (b - i)
            case measure => omega
            case rel => exact ⟨i + 1, dj, by simp, by omega, by omega, hsj, hA, hx.out⟩
          · have hx := Lib.hid (insInner_go haj hl)
            have hl' := Lib.hid hl
            clear hl
            go_wp2_with fail
            (refine wp_region_all (Cl _ _ _) (by kernel_rfl) (by kernel_rfl) (Cl.drew hA) ?_); (have hn1 := Cl.none hA); (have hn2 := Cl.none2 hA); (repeat (first | go_big_quiet_skip | (go_big_quiet_want; (first | (refine quiet_load_at rfl rfl (by with_reducible repeat (first | exact Sel.here | apply Sel.there)) (by kernel_rfl) (by first | assumption | exact rfl) ?_; go_frame; go_big_quiet_on) | (go_big_quiet_op; (first | go_big_quiet_on | ((apply Exists.intro); (refine ⟨fun w1 hw => ?_, ?_⟩); (focus ((have hw := Cl.out hw); (exact less_in hw _ _ hl'.out))); (go_big_quiet_on))))))))
            (refine wpQuiet_nil ?_); (intro w1 hB); (clear hF hA hn1 hn2); (have hA := Cl.out hB); (clear hB); (try simp only [setL, List.set_cons_zero, List.set_cons_succ, List.cons_append, List.nil_append] at hA); (have hF := hA.facts); (try simp only [facts_cons, facts_nil, facts_cells, facts_old, facts_fact, facts_obj, facts_map, facts_iter, and_true, true_and] at hF)
            go_wp2_with fail
            (try clear hF); (have k1 := at_cell hA .here (i := j + 1) (by omega)); (have k2 := at_cell hA .here (i := j) (by omega)); (have f1 := at_free hA .here (j + 1)); (have f2 := at_free hA .here (j)); go_region; (have hB := (at_swp hA .here (i := j + 1) (j := j) (by omega) (by omega)).drew); (clear k1 k2 f1 f2 hA); (have hA := hB); (clear hB); (generalize World.drew (World.setCell _ _ _) = wz at *)
            go_wp2_with fail
            go_roundg m
            case measure => omega
            case rel => exact ⟨swp dj (j + 1) j, by rw [hj'.out], by have := hj'.out; omega, by rw [swp_size]; exact hsj, hA, by rw [hj'.out, ← hI'.out, hx.out]⟩
    · have hx := Lib.hid (insOuter_stop (a := a) (d := dk) hi)
      go_wp2_with fail
      go_end0
      refine ⟨rfl, ?_⟩
      unfold Sort.insertionSort
      rw [← hO'.out, hx.out]
      exact hA
end Go.Proofs.Ytnkddjomanaadaa.SortU
