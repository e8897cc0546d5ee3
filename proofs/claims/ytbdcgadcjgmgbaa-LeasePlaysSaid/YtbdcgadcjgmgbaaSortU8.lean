/- XSortU XSortU2 XSortU3 XSortU4 XSortU5 XSortU6 XSortU7 XSortU8, joined by merge.py. -/
import Derived.Test.YtbdcgadcjgmgbaaRow4
import Derived.Test.YtbdcgadcjgmgbaaMapW
import Derived.Test.YtbdcgadcjgmgbaaChecked
import Derived.Sort.AssemblyPlain
import Derived.Deep.LoopGhost
import Derived.Deep.QuietTactic
import Derived.BigQuiet
import Derived.Deep.Cut
import Derived.Test.YtbdcgadcjgmgbaaShelf
import Derived.Laws.Bits64b
import Derived.Deep.CutBlock
import Derived.Deep.CutRange
import Derived.Test.YtbdcgadcjgmgbaaCollU
import Derived.Test.YtbdcgadcjgmgbaaLeaseW9
section
namespace Go.Proofs.Ytbdcgadcjgmgbaa.SortU
open Go.RowKit
open Go.Sort (swp ltInt insInner insOuter)
set_option linter.unusedSimpArgs false
set_option linter.unusedVariables false

/-- a row of numbers, and what lies behind it -/
def rowC (d : Array Int) (r : List Value) : List Value := d.toList.map (Value.int .u64) ++ r
def atU (d : Array Int) (i : Nat) : Int := d[i]!
def ltU (x y : Int) : Bool := ltInt x y
abbrev blkU (g : Nat) (d : Array Int) (r : List Value) : Part := .cells g (rowC d r) 23
theorem rowC_at {d : Array Int} {r : List Value} {i : Nat} (h : i < d.size) : (rowC d r)[i]? = some (.int .u64 (atU d i)) := by
  unfold rowC atU
  rw [List.getElem?_append_left (by simpa using h), List.getElem?_map, Array.getElem?_toList, getElem!_pos d i h, Array.getElem?_eq_getElem h]
  rfl
theorem rowC_len (d : Array Int) (r : List Value) : (rowC d r).length = d.size + r.length := by simp [rowC]
theorem rowC_set {d : Array Int} {r : List Value} {i : Nat} (h : i < d.size) (x : Int) : setL (rowC d r) i [.int .u64 x] = rowC (d.setIfInBounds i x) r := by
  unfold rowC
  simp only [setL, Array.toList_setIfInBounds, List.map_set]
  rw [List.set_append_left _ _ (by simpa using h)]
theorem rowC_swp {d : Array Int} {r : List Value} {i j : Nat} (hi : i < d.size) (hj : j < d.size) : setL (setL (rowC d r) i [.int .u64 (atU d j)]) j [.int .u64 (atU d i)] = rowC (swp d i j) r := by
  rw [rowC_set hi, rowC_set (by simpa using hj)]
  rfl
theorem at_swp {L0 L F : List Part} {w0 w : World} {g : Nat} {d : Array Int} {r : List Value} (h : At L0 w0 L w) (s : Sel (blkU g d r) L F) {i j : Nat} (hi : i < d.size) (hj : j < d.size) :
    At L0 w0 (blkU g (swp d i j) r :: F) ((w.setCell ⟨g, i, none⟩ (.int .u64 (atU d j))).setCell ⟨g, j, none⟩ (.int .u64 (atU d i))) := by
  have h0 := At.store h s i (.int .u64 (atU d j))
  have h1 := At.store h0 .here j (.int .u64 (atU d i))
  rw [show ((rowC d r).set i (.int .u64 (atU d j))).set j (.int .u64 (atU d i)) = rowC (swp d i j) r from rowC_swp hi hj] at h1
  exact h1
/-- the cells, one by one -/
theorem at_cell {L0 L F : List Part} {w0 w : World} {g : Nat} {d : Array Int} {r : List Value} (h : At L0 w0 L w) (s : Sel (blkU g d r) L F) {i : Nat} (hi : i < d.size) : w.cell? ⟨g, i, none⟩ = some (.int .u64 (atU d i)) := ((h.get s : BlockIs w g (rowC d r) 23).cell i).trans (rowC_at hi)
theorem at_free {L0 L F : List Part} {w0 w : World} {g : Nat} {d : Array Int} {r : List Value} (h : At L0 w0 L w) (s : Sel (blkU g d r) L F) (i : Nat) : w.frozen? ⟨g, i, none⟩ = false := (h.get s : BlockIs w g (rowC d r) 23).free i
theorem swp_size (d : Array Int) (i j : Nat) : (swp d i j).size = d.size := by simp [swp]

set_option maxRecDepth 100000 in
theorem isNaN_any (x : Int) (w : World) : Calls Try.prog 72 #[.int .u64 x] w fun e w' => e = .returned (.bool false) ∧ w' = w := by
  go_enter Try.func72, Try.ntmps72
  go_wp2
  go_ret
  exact ⟨by simp, rfl⟩
set_option maxRecDepth 100000 in
theorem less_any (x y : Int) (w : World) : Calls Try.prog 88 #[.int .u64 x, .int .u64 y] w fun e w' => e = .returned (.bool (ltU x y)) ∧ w' = w := by
  go_enter Try.func88, Try.ntmps88
  go_wp2_with (go_at_call 72; refine (isNaN_any _ _).mono ?_; rintro e w' ⟨rfl, rfl⟩)
  go_ret
  exact ⟨by simp [ltU, ltInt], rfl⟩
theorem less_in {L0 L : List Part} {w0 w : World} (h : At L0 w0 L w) (x y : Int) {b : Bool} (hb : ltU x y = b) : Calls Try.prog 88 #[.int .u64 x, .int .u64 y] w fun e w' => e = .returned (.bool b) ∧ At L0 w0 L w' := by
  subst hb
  exact (less_any x y w).mono fun _ _ ⟨h1, h2⟩ => ⟨h1, by rw [h2]; exact h⟩

/-! ### insertionSortOrdered -/
theorem insInner_go {a j : Nat} {d : Array Int} (hj : a < j + 1) (hl : ltU (atU d (j + 1)) (atU d j) = true) : insInner ltInt a (j + 1) d = insInner ltInt a j (swp d (j + 1) j) := by
  have hl' : ltInt d[j + 1]! d[j]! = true := hl
  rw [insInner]
  simp [hj, hl']
theorem insInner_stop {a j : Nat} {d : Array Int} (h : j ≤ a ∨ ∃ k, j = k + 1 ∧ ltU (atU d (k + 1)) (atU d k) = false) : insInner ltInt a j d = d := by
  cases j with
  | zero => rw [insInner]
  | succ k =>
    rw [insInner]
    rcases h with h | ⟨m, hm, h⟩
    · simp [show ¬ k + 1 > a by omega]
    · have : m = k := by omega
      subst this
      have h' : ltInt d[m + 1]! d[m]! = false := h
      simp [h']
theorem insOuter_go {a b i : Nat} {d : Array Int} (h : i < b) : insOuter ltInt a b i d = insOuter ltInt a b (i + 1) (insInner ltInt a i d) := by rw [insOuter, if_pos h]
theorem insOuter_stop {a b i : Nat} {d : Array Int} (h : ¬ i < b) : insOuter ltInt a b i d = d := by rw [insOuter, if_neg h]
def InsO (w : World) (g : Nat) (d : Array Int) (r : List Value) (a b : Nat) (k : Nat) (u : Value) (wr : World) : Prop :=
  ∃ (i : Nat) (dk : Array Int), u = .int .i64 i ∧ a < i ∧ i + k = b + 1 ∧ dk.size = d.size ∧ At [blkU g d r] w [blkU g dk r] wr ∧ insOuter ltInt a b i dk = insOuter ltInt a b (a + 1) d
def InsI (w : World) (g : Nat) (d : Array Int) (r : List Value) (a i : Nat) (dk : Array Int) (k : Nat) (u : Value) (wr : World) : Prop :=
  ∃ dj : Array Int, u = .int .i64 (a + k : Nat) ∧ a + k ≤ i ∧ dj.size = d.size ∧ At [blkU g d r] w [blkU g dj r] wr ∧ insInner ltInt a (a + k) dj = insInner ltInt a i dk
set_option maxRecDepth 100000 in
set_option maxHeartbeats 1000000 in
theorem insertion_any {w : World} {g cap n : Nat} {d : Array Int} {r : List Value} (h : Sep [blkU g d r] w) (hn : d.size = n) {a b : Nat} (hab : a ≤ b) (hb : b ≤ d.size) (hsz : d.size < 4611686018427387904) :
    Calls Try.prog 82 #[.slice (some ⟨g, 0, none⟩) n cap, .int .i64 a, .int .i64 b] w fun e w' => e = .returned (.tuple #[]) ∧ At [blkU g d r] w [blkU g (Sort.insertionSort ltInt d a b) r] w' := by
  have hA := At.start h
  clear h
  go_enter Try.func82, Try.ntmps82
  go_wp2_with fail
  go_loopg [6] (b - a) (InsO w g d r a b)
  case atStart => exact ⟨a + 1, d, by simp, by omega, by omega, rfl, hA, rfl⟩
  case round =>
    obtain ⟨i, dk, rfl, hai, hik, hsk, hB, hO⟩ := hrel
    have hO' := Lib.hid hO
    clear hA hO
    have hA := hB
    clear hB
    by_cases hi : i < b
    · go_wp2_with fail
      go_loopg [7] (i - a) (InsI w g d r a i dk)
      case atStart => exact ⟨dk, by rw [show a + (i - a) = i by omega], by omega, hsk, hA, by rw [show a + (i - a) = i by omega]⟩
      case round =>
        obtain ⟨dj, rfl, hji, hsj, hB, hI⟩ := hrel
        have hI' := Lib.hid hI
        clear hA hI
        have hA := hB
        clear hB
        have out : insInner ltInt a (a + gk) dj = dj → insOuter ltInt a b (i + 1) dj = insOuter ltInt a b (a + 1) d := fun hs => by
          rw [← hO'.out, insOuter_go hi, ← hI'.out, hs]
        have out' := Lib.hid out
        clear out
        rcases Nat.eq_zero_or_pos gk with h0 | hpos
        · subst h0
          (try simp only [setL, List.set_cons_zero, List.set_cons_succ, List.cons_append, List.nil_append] at hA); (have hF := hA.facts); (try simp only [facts_cons, facts_nil, facts_cells, facts_old, facts_fact, facts_obj, facts_map, facts_iter, and_true, true_and] at hF)
          have hx := Lib.hid (out'.out (insInner_stop (.inl (by omega))))
          go_wp2_with fail
          (refine wp_region_all (Cl _ _ _) (by kernel_rfl) (by kernel_rfl) (Cl.drew hA) ?_); (have hn1 := Cl.none hA); (have hn2 := Cl.none2 hA); (repeat (first | go_big_quiet_skip | (go_big_quiet_want; (first | (refine quiet_load_at rfl rfl (by with_reducible repeat (first | exact Sel.here | apply Sel.there)) (by kernel_rfl) (by first | assumption | exact rfl) ?_; go_frame; go_big_quiet_on) | (go_big_quiet_op; (first | go_big_quiet_on | ((apply Exists.intro); (refine ⟨fun w1 hw => ?_, ?_⟩); (focus ((have hw := Cl.out hw); (fail))); (go_big_quiet_on))))))))
          (refine wpQuiet_nil ?_); (intro w1 hB); (clear hF hA hn1 hn2); (have hA := Cl.out hB); (clear hB); (try simp only [setL, List.set_cons_zero, List.set_cons_succ, List.cons_append, List.nil_append] at hA); (have hF := hA.facts); (try simp only [facts_cons, facts_nil, facts_cells, facts_old, facts_fact, facts_obj, facts_map, facts_iter, and_true, true_and] at hF)
          go_wp2_with fail
          go_roundg (b - i)
          case measure => omega
          case rel => exact ⟨i + 1, dj, by simp, by omega, by omega, hsj, hA, hx.out⟩
        · obtain ⟨m, rfl⟩ : ∃ m, gk = m + 1 := ⟨gk - 1, by omega⟩
          obtain ⟨j, hj⟩ : ∃ j, a + m = j := ⟨_, rfl⟩
          have ej : a + (m + 1) = j + 1 := by omega
          rw [ej] at hI' hji out' ⊢
          have hj' := Lib.hid hj
          have e1 := rowC_at (d := dj) (r := r) (i := j + 1) (by omega)
          have e2 := rowC_at (d := dj) (r := r) (i := j) (by omega)
          have haj : a < j + 1 := by omega
          have hg : decide ((a : Int) < (j : Int) + 1) = true := by simp; omega
          clear hj ej
          (try simp only [setL, List.set_cons_zero, List.set_cons_succ, List.cons_append, List.nil_append] at hA); (have hF := hA.facts); (try simp only [facts_cons, facts_nil, facts_cells, facts_old, facts_fact, facts_obj, facts_map, facts_iter, and_true, true_and] at hF)
          cases hl : ltU (atU dj (j + 1)) (atU dj j)
          · have hx := Lib.hid (out'.out (insInner_stop (.inr ⟨j, rfl, hl⟩)))
            have hl' := Lib.hid hl
            clear hl
            go_wp2_with fail
            (refine wp_region_all (Cl _ _ _) (by kernel_rfl) (by kernel_rfl) (Cl.drew hA) ?_); (have hn1 := Cl.none hA); (have hn2 := Cl.none2 hA); (repeat (first | go_big_quiet_skip | (go_big_quiet_want; (first | (refine quiet_load_at rfl rfl (by with_reducible repeat (first | exact Sel.here | apply Sel.there)) (by kernel_rfl) (by first | assumption | exact rfl) ?_; go_frame; go_big_quiet_on) | (go_big_quiet_op; (first | go_big_quiet_on | ((apply Exists.intro); (refine ⟨fun w1 hw => ?_, ?_⟩); (focus ((have hw := Cl.out hw); (exact less_in hw _ _ hl'.out))); (go_big_quiet_on))))))))
            (refine wpQuiet_nil ?_); (intro w1 hB); (clear hF hA hn1 hn2); (have hA := Cl.out hB); (clear hB); (try simp only [setL, List.set_cons_zero, List.set_cons_succ, List.cons_append, List.nil_append] at hA); (have hF := hA.facts); (try simp only [facts_cons, facts_nil, facts_cells, facts_old, facts_fact, facts_obj, facts_map, facts_iter, and_true, true_and] at hF)
            go_wp2_with fail
            go_roundg (b - i)
            case measure => omega
            case rel => exact ⟨i + 1, dj, by simp, by omega, by omega, hsj, hA, hx.out⟩
          · have hx := Lib.hid (insInner_go haj hl)
            have hl' := Lib.hid hl
            clear hl
            go_wp2_with fail
            (refine wp_region_all (Cl _ _ _) (by kernel_rfl) (by kernel_rfl) (Cl.drew hA) ?_); (have hn1 := Cl.none hA); (have hn2 := Cl.none2 hA); (repeat (first | go_big_quiet_skip | (go_big_quiet_want; (first | (refine quiet_load_at rfl rfl (by with_reducible repeat (first | exact Sel.here | apply Sel.there)) (by kernel_rfl) (by first | assumption | exact rfl) ?_; go_frame; go_big_quiet_on) | (go_big_quiet_op; (first | go_big_quiet_on | ((apply Exists.intro); (refine ⟨fun w1 hw => ?_, ?_⟩); (focus ((have hw := Cl.out hw); (exact less_in hw _ _ hl'.out))); (go_big_quiet_on))))))))
            (refine wpQuiet_nil ?_); (intro w1 hB); (clear hF hA hn1 hn2); (have hA := Cl.out hB); (clear hB); (try simp only [setL, List.set_cons_zero, List.set_cons_succ, List.cons_append, List.nil_append] at hA); (have hF := hA.facts); (try simp only [facts_cons, facts_nil, facts_cells, facts_old, facts_fact, facts_obj, facts_map, facts_iter, and_true, true_and] at hF)
            go_wp2_with fail
            (try clear hF); (have k1 := at_cell hA .here (i := j + 1) (by omega)); (have k2 := at_cell hA .here (i := j) (by omega)); (have f1 := at_free hA .here (j + 1)); (have f2 := at_free hA .here (j)); go_region; (have hB := (at_swp hA .here (i := j + 1) (j := j) (by omega) (by omega)).drew); (clear k1 k2 f1 f2 hA); (have hA := hB); (clear hB); (generalize World.drew (World.setCell _ _ _) = wz at *)
            go_wp2_with fail
            go_roundg m
            case measure => omega
            case rel => exact ⟨swp dj (j + 1) j, by rw [hj'.out], by have := hj'.out; omega, by rw [swp_size]; exact hsj, hA, by rw [hj'.out, ← hI'.out, hx.out]⟩
    · have hx := Lib.hid (insOuter_stop (a := a) (d := dk) hi)
      go_wp2_with fail
      go_end0
      refine ⟨rfl, ?_⟩
      unfold Sort.insertionSort
      rw [← hO'.out, hx.out]
      exact hA
end Go.Proofs.Ytbdcgadcjgmgbaa.SortU
end

section
namespace Go.Proofs.Ytbdcgadcjgmgbaa.SortU
open Go.RowKit
open Go.Sort (swp ltInt siftDown heapBuild heapPop reverseLoop)
set_option linter.unusedSimpArgs false
set_option linter.unusedVariables false

theorem sift_stop {hi first root : Nat} {d : Array Int} (h : 2 * root + 1 ≥ hi) : siftDown ltInt hi first root d = d := by rw [siftDown, dif_pos h]
theorem sift_one {hi first root : Nat} {d : Array Int} (h : ¬ 2 * root + 1 ≥ hi) (hn : ¬ (2 * root + 1 + 1 < hi ∧ ltU (atU d (first + (2 * root + 1))) (atU d (first + (2 * root + 1) + 1)) = true)) :
    siftDown ltInt hi first root d = if ltU (atU d (first + root)) (atU d (first + (2 * root + 1))) = true then siftDown ltInt hi first (2 * root + 1) (swp d (first + root) (first + (2 * root + 1))) else d := by
  have hn' : ¬ (2 * root + 1 + 1 < hi && ltInt d[first + (2 * root + 1)]! d[first + (2 * root + 1) + 1]!) = true := by simpa [ltU, atU] using hn
  rw [siftDown, dif_neg h, if_neg hn']
  unfold ltU atU
  cases ltInt d[first + root]! d[first + (2 * root + 1)]! <;> simp
theorem sift_two {hi first root : Nat} {d : Array Int} (h : ¬ 2 * root + 1 ≥ hi) (hn : 2 * root + 1 + 1 < hi ∧ ltU (atU d (first + (2 * root + 1))) (atU d (first + (2 * root + 1) + 1)) = true) :
    siftDown ltInt hi first root d = if ltU (atU d (first + root)) (atU d (first + (2 * root + 2))) = true then siftDown ltInt hi first (2 * root + 2) (swp d (first + root) (first + (2 * root + 2))) else d := by
  have hn' : (2 * root + 1 + 1 < hi && ltInt d[first + (2 * root + 1)]! d[first + (2 * root + 1) + 1]!) = true := by simpa [ltU, atU] using hn
  rw [siftDown, dif_neg h, if_pos hn', dif_pos (by omega)]
  unfold ltU atU
  cases ltInt d[first + root]! d[first + (2 * root + 2)]! <;> simp
def SiftRel (w : World) (g : Nat) (d : Array Int) (r : List Value) (hi first lo : Nat) (k : Nat) (u : Value) (wr : World) : Prop :=
  ∃ (root : Nat) (dk : Array Int), u = .int .i64 root ∧ hi - root ≤ k ∧ root < 4611686018427387904 ∧ dk.size = d.size ∧ At [blkU g d r] w [blkU g dk r] wr ∧ siftDown ltInt hi first root dk = siftDown ltInt hi first lo d
set_option maxRecDepth 100000 in
set_option maxHeartbeats 1000000 in
theorem siftDown_any {w : World} {g cap n : Nat} {d : Array Int} {r : List Value} (h : Sep [blkU g d r] w) (hn : d.size = n) {lo hi first : Nat} (hb : first + hi ≤ d.size) (hlo : lo < 4611686018427387904) (hsz : d.size < 4611686018427387904) :
    Calls Try.prog 92 #[.slice (some ⟨g, 0, none⟩) n cap, .int .i64 lo, .int .i64 hi, .int .i64 first] w fun e w' => e = .returned (.tuple #[]) ∧ At [blkU g d r] w [blkU g (siftDown ltInt hi first lo d) r] w' := by
  have hA := At.start h
  have hF := hA.facts
  clear h
  go_enter Try.func92, Try.ntmps92
  go_wp2_with fail
  go_loopg [8] (hi - lo) (SiftRel w g d r hi first lo)
  case atStart => exact ⟨lo, d, rfl, Nat.le_refl _, hlo, rfl, hA, rfl⟩
  case round =>
    obtain ⟨root, dk, rfl, hk, hroot, hsk, hB, hO⟩ := hrel
    have hO' := Lib.hid hO
    clear hF hA hO
    have hA := hB
    clear hB
    obtain ⟨c, hc⟩ : ∃ c, 2 * root + 1 = c := ⟨_, rfl⟩
    have ec : (2 : Int) * (root : Int) + 1 = (c : Int) := by omega
    by_cases hch : c < hi
    · obtain ⟨p, hp⟩ : ∃ p, first + c = p := ⟨_, rfl⟩
      obtain ⟨q, hq⟩ : ∃ q, first + root = q := ⟨_, rfl⟩
      have ep : (first : Int) + (c : Int) = (p : Int) := by omega
      have ep1 : (first : Int) + ((c : Int) + 1) = (p : Int) + 1 := by omega
      have eq : (first : Int) + (root : Int) = (q : Int) := by omega
      have e1 := rowC_at (d := dk) (r := r) (i := p) (by omega)
      have e3 := rowC_at (d := dk) (r := r) (i := q) (by omega)
      by_cases h2 : c + 1 < hi ∧ ltU (atU dk p) (atU dk (p + 1)) = true
      · have hx := sift_two (hi := hi) (first := first) (root := root) (d := dk) (by omega) (by rw [hc, hp]; exact h2)
        rw [show 2 * root + 2 = c + 1 by omega, hq, show first + (c + 1) = p + 1 by omega] at hx
        obtain ⟨h21, h22⟩ := h2
        have h22' := Lib.hid h22
        have e2 := rowC_at (d := dk) (r := r) (i := p + 1) (by omega)
        have hg : decide ((c : Int) + 1 < (hi : Int)) = true := by simp; omega
        have hc' := Lib.hid hc
        have hp' := Lib.hid hp
        have hq' := Lib.hid hq
        clear hc hp hq h22
        (try simp only [setL, List.set_cons_zero, List.set_cons_succ, List.cons_append, List.nil_append] at hA); (have hF := hA.facts); (try simp only [facts_cons, facts_nil, facts_cells, facts_old, facts_fact, facts_obj, facts_map, facts_iter, and_true, true_and] at hF)
        cases hl : ltU (atU dk q) (atU dk (p + 1))
        all_goals
          rw [hl] at hx
          simp only [Bool.false_eq_true, if_false, if_true] at hx
          have hx' := Lib.hid hx
          have hl' := Lib.hid hl
          clear hx hl
        · go_wp2_with fail
          (refine wp_region_all (Cl _ _ _) (by kernel_rfl) (by kernel_rfl) (Cl.drew hA) ?_); (have hn1 := Cl.none hA); (have hn2 := Cl.none2 hA); (repeat (first | go_big_quiet_skip | (go_big_quiet_want; (first | (refine quiet_load_at rfl rfl (by with_reducible repeat (first | exact Sel.here | apply Sel.there)) (by kernel_rfl) (by first | assumption | exact rfl) ?_; go_frame; go_big_quiet_on) | (go_big_quiet_op; (first | go_big_quiet_on | ((apply Exists.intro); (refine ⟨fun w1 hw => ?_, ?_⟩); (focus ((have hw := Cl.out hw); (exact less_in hw _ _ h22'.out))); (go_big_quiet_on))))))))
          (refine wpQuiet_nil ?_); (intro w1 hB); (clear hF hA hn1 hn2); (have hA := Cl.out hB); (clear hB); (try simp only [setL, List.set_cons_zero, List.set_cons_succ, List.cons_append, List.nil_append] at hA); (have hF := hA.facts); (try simp only [facts_cons, facts_nil, facts_cells, facts_old, facts_fact, facts_obj, facts_map, facts_iter, and_true, true_and] at hF)
          go_wp2_with fail
          (refine wp_region_all (Cl _ _ _) (by kernel_rfl) (by kernel_rfl) (Cl.drew hA) ?_); (have hn1 := Cl.none hA); (have hn2 := Cl.none2 hA); (repeat (first | go_big_quiet_skip | (go_big_quiet_want; (first | (refine quiet_load_at rfl rfl (by with_reducible repeat (first | exact Sel.here | apply Sel.there)) (by kernel_rfl) (by first | assumption | exact rfl) ?_; go_frame; go_big_quiet_on) | (go_big_quiet_op; (first | go_big_quiet_on | ((apply Exists.intro); (refine ⟨fun w1 hw => ?_, ?_⟩); (focus ((have hw := Cl.out hw); (exact less_in hw _ _ hl'.out))); (go_big_quiet_on))))))))
          (refine wpQuiet_nil ?_); (intro w1 hB); (clear hF hA hn1 hn2); (have hA := Cl.out hB); (clear hB); (try simp only [setL, List.set_cons_zero, List.set_cons_succ, List.cons_append, List.nil_append] at hA); (have hF := hA.facts); (try simp only [facts_cons, facts_nil, facts_cells, facts_old, facts_fact, facts_obj, facts_map, facts_iter, and_true, true_and] at hF)
          go_wp2_with fail
          refine bodyPost_ret (results_none rfl _ _ _) rfl ?_
          exact ⟨rfl, by rw [← hO'.out, hx'.out]; exact hA⟩
        · go_wp2_with fail
          (refine wp_region_all (Cl _ _ _) (by kernel_rfl) (by kernel_rfl) (Cl.drew hA) ?_); (have hn1 := Cl.none hA); (have hn2 := Cl.none2 hA); (repeat (first | go_big_quiet_skip | (go_big_quiet_want; (first | (refine quiet_load_at rfl rfl (by with_reducible repeat (first | exact Sel.here | apply Sel.there)) (by kernel_rfl) (by first | assumption | exact rfl) ?_; go_frame; go_big_quiet_on) | (go_big_quiet_op; (first | go_big_quiet_on | ((apply Exists.intro); (refine ⟨fun w1 hw => ?_, ?_⟩); (focus ((have hw := Cl.out hw); (exact less_in hw _ _ h22'.out))); (go_big_quiet_on))))))))
          (refine wpQuiet_nil ?_); (intro w1 hB); (clear hF hA hn1 hn2); (have hA := Cl.out hB); (clear hB); (try simp only [setL, List.set_cons_zero, List.set_cons_succ, List.cons_append, List.nil_append] at hA); (have hF := hA.facts); (try simp only [facts_cons, facts_nil, facts_cells, facts_old, facts_fact, facts_obj, facts_map, facts_iter, and_true, true_and] at hF)
          go_wp2_with fail
          (refine wp_region_all (Cl _ _ _) (by kernel_rfl) (by kernel_rfl) (Cl.drew hA) ?_); (have hn1 := Cl.none hA); (have hn2 := Cl.none2 hA); (repeat (first | go_big_quiet_skip | (go_big_quiet_want; (first | (refine quiet_load_at rfl rfl (by with_reducible repeat (first | exact Sel.here | apply Sel.there)) (by kernel_rfl) (by first | assumption | exact rfl) ?_; go_frame; go_big_quiet_on) | (go_big_quiet_op; (first | go_big_quiet_on | ((apply Exists.intro); (refine ⟨fun w1 hw => ?_, ?_⟩); (focus ((have hw := Cl.out hw); (exact less_in hw _ _ hl'.out))); (go_big_quiet_on))))))))
          (refine wpQuiet_nil ?_); (intro w1 hB); (clear hF hA hn1 hn2); (have hA := Cl.out hB); (clear hB); (try simp only [setL, List.set_cons_zero, List.set_cons_succ, List.cons_append, List.nil_append] at hA); (have hF := hA.facts); (try simp only [facts_cons, facts_nil, facts_cells, facts_old, facts_fact, facts_obj, facts_map, facts_iter, and_true, true_and] at hF)
          have b1 := hp'.out
          have b2 := hq'.out
          go_wp2_with fail
          (try clear hF); (have k1 := at_cell hA .here (i := q) (by omega)); (have k2 := at_cell hA .here (i := p + 1) (by omega)); (have f1 := at_free hA .here (q)); (have f2 := at_free hA .here (p + 1)); go_region; (have hB := (at_swp hA .here (i := q) (j := p + 1) (by omega) (by omega)).drew); (clear k1 k2 f1 f2 hA); (have hA := hB); (clear hB); (generalize World.drew (World.setCell _ _ _) = wz at *)
          go_wp2_with fail
          go_roundg (hi - (c + 1))
          case measure => have := hc'.out; omega
          case rel => exact ⟨c + 1, swp dk q (p + 1), by simp, Nat.le_refl _, by omega, by rw [swp_size]; exact hsk, hA, by rw [← hO'.out, hx'.out]⟩
      · have hx := sift_one (hi := hi) (first := first) (root := root) (d := dk) (by omega) (by rw [hc, hp]; exact h2)
        rw [hc, hq, hp] at hx
        have hc' := Lib.hid hc
        have hp' := Lib.hid hp
        have hq' := Lib.hid hq
        clear hc hp hq
        (try simp only [setL, List.set_cons_zero, List.set_cons_succ, List.cons_append, List.nil_append] at hA); (have hF := hA.facts); (try simp only [facts_cons, facts_nil, facts_cells, facts_old, facts_fact, facts_obj, facts_map, facts_iter, and_true, true_and] at hF)
        by_cases h3 : c + 1 < hi
        · have h4 : ltU (atU dk p) (atU dk (p + 1)) = false := by simpa [h3] using h2
          have h4' := Lib.hid h4
          have e2 := rowC_at (d := dk) (r := r) (i := p + 1) (by have := hp'.out; omega)
          have hg : decide ((c : Int) + 1 < (hi : Int)) = true := by simp; omega
          clear h2 h4
          cases hl : ltU (atU dk q) (atU dk p)
          all_goals
            rw [hl] at hx
            simp only [Bool.false_eq_true, if_false, if_true] at hx
            have hx' := Lib.hid hx
            have hl' := Lib.hid hl
            clear hx hl
          · go_wp2_with fail
            (refine wp_region_all (Cl _ _ _) (by kernel_rfl) (by kernel_rfl) (Cl.drew hA) ?_); (have hn1 := Cl.none hA); (have hn2 := Cl.none2 hA); (repeat (first | go_big_quiet_skip | (go_big_quiet_want; (first | (refine quiet_load_at rfl rfl (by with_reducible repeat (first | exact Sel.here | apply Sel.there)) (by kernel_rfl) (by first | assumption | exact rfl) ?_; go_frame; go_big_quiet_on) | (go_big_quiet_op; (first | go_big_quiet_on | ((apply Exists.intro); (refine ⟨fun w1 hw => ?_, ?_⟩); (focus ((have hw := Cl.out hw); (exact less_in hw _ _ h4'.out))); (go_big_quiet_on))))))))
            (refine wpQuiet_nil ?_); (intro w1 hB); (clear hF hA hn1 hn2); (have hA := Cl.out hB); (clear hB); (try simp only [setL, List.set_cons_zero, List.set_cons_succ, List.cons_append, List.nil_append] at hA); (have hF := hA.facts); (try simp only [facts_cons, facts_nil, facts_cells, facts_old, facts_fact, facts_obj, facts_map, facts_iter, and_true, true_and] at hF)
            go_wp2_with fail
            (refine wp_region_all (Cl _ _ _) (by kernel_rfl) (by kernel_rfl) (Cl.drew hA) ?_); (have hn1 := Cl.none hA); (have hn2 := Cl.none2 hA); (repeat (first | go_big_quiet_skip | (go_big_quiet_want; (first | (refine quiet_load_at rfl rfl (by with_reducible repeat (first | exact Sel.here | apply Sel.there)) (by kernel_rfl) (by first | assumption | exact rfl) ?_; go_frame; go_big_quiet_on) | (go_big_quiet_op; (first | go_big_quiet_on | ((apply Exists.intro); (refine ⟨fun w1 hw => ?_, ?_⟩); (focus ((have hw := Cl.out hw); (exact less_in hw _ _ hl'.out))); (go_big_quiet_on))))))))
            (refine wpQuiet_nil ?_); (intro w1 hB); (clear hF hA hn1 hn2); (have hA := Cl.out hB); (clear hB); (try simp only [setL, List.set_cons_zero, List.set_cons_succ, List.cons_append, List.nil_append] at hA); (have hF := hA.facts); (try simp only [facts_cons, facts_nil, facts_cells, facts_old, facts_fact, facts_obj, facts_map, facts_iter, and_true, true_and] at hF)
            go_wp2_with fail
            refine bodyPost_ret (results_none rfl _ _ _) rfl ?_
            exact ⟨rfl, by rw [← hO'.out, hx'.out]; exact hA⟩
          · go_wp2_with fail
            (refine wp_region_all (Cl _ _ _) (by kernel_rfl) (by kernel_rfl) (Cl.drew hA) ?_); (have hn1 := Cl.none hA); (have hn2 := Cl.none2 hA); (repeat (first | go_big_quiet_skip | (go_big_quiet_want; (first | (refine quiet_load_at rfl rfl (by with_reducible repeat (first | exact Sel.here | apply Sel.there)) (by kernel_rfl) (by first | assumption | exact rfl) ?_; go_frame; go_big_quiet_on) | (go_big_quiet_op; (first | go_big_quiet_on | ((apply Exists.intro); (refine ⟨fun w1 hw => ?_, ?_⟩); (focus ((have hw := Cl.out hw); (exact less_in hw _ _ h4'.out))); (go_big_quiet_on))))))))
            (refine wpQuiet_nil ?_); (intro w1 hB); (clear hF hA hn1 hn2); (have hA := Cl.out hB); (clear hB); (try simp only [setL, List.set_cons_zero, List.set_cons_succ, List.cons_append, List.nil_append] at hA); (have hF := hA.facts); (try simp only [facts_cons, facts_nil, facts_cells, facts_old, facts_fact, facts_obj, facts_map, facts_iter, and_true, true_and] at hF)
            go_wp2_with fail
            (refine wp_region_all (Cl _ _ _) (by kernel_rfl) (by kernel_rfl) (Cl.drew hA) ?_); (have hn1 := Cl.none hA); (have hn2 := Cl.none2 hA); (repeat (first | go_big_quiet_skip | (go_big_quiet_want; (first | (refine quiet_load_at rfl rfl (by with_reducible repeat (first | exact Sel.here | apply Sel.there)) (by kernel_rfl) (by first | assumption | exact rfl) ?_; go_frame; go_big_quiet_on) | (go_big_quiet_op; (first | go_big_quiet_on | ((apply Exists.intro); (refine ⟨fun w1 hw => ?_, ?_⟩); (focus ((have hw := Cl.out hw); (exact less_in hw _ _ hl'.out))); (go_big_quiet_on))))))))
            (refine wpQuiet_nil ?_); (intro w1 hB); (clear hF hA hn1 hn2); (have hA := Cl.out hB); (clear hB); (try simp only [setL, List.set_cons_zero, List.set_cons_succ, List.cons_append, List.nil_append] at hA); (have hF := hA.facts); (try simp only [facts_cons, facts_nil, facts_cells, facts_old, facts_fact, facts_obj, facts_map, facts_iter, and_true, true_and] at hF)
            have b1 := hp'.out
            have b2 := hq'.out
            go_wp2_with fail
            (try clear hF); (have k1 := at_cell hA .here (i := q) (by omega)); (have k2 := at_cell hA .here (i := p) (by omega)); (have f1 := at_free hA .here (q)); (have f2 := at_free hA .here (p)); go_region; (have hB := (at_swp hA .here (i := q) (j := p) (by omega) (by omega)).drew); (clear k1 k2 f1 f2 hA); (have hA := hB); (clear hB); (generalize World.drew (World.setCell _ _ _) = wz at *)
            go_wp2_with fail
            go_roundg (hi - c)
            case measure => have := hc'.out; omega
            case rel => exact ⟨c, swp dk q p, rfl, Nat.le_refl _, by omega, by rw [swp_size]; exact hsk, hA, by rw [← hO'.out, hx'.out]⟩
        · have hg : decide ((c : Int) + 1 < (hi : Int)) = false := by simp; omega
          clear h2
          cases hl : ltU (atU dk q) (atU dk p)
          all_goals
            rw [hl] at hx
            simp only [Bool.false_eq_true, if_false, if_true] at hx
            have hx' := Lib.hid hx
            have hl' := Lib.hid hl
            clear hx hl
          · go_wp2_with fail
            (refine wp_region_all (Cl _ _ _) (by kernel_rfl) (by kernel_rfl) (Cl.drew hA) ?_); (have hn1 := Cl.none hA); (have hn2 := Cl.none2 hA); (repeat (first | go_big_quiet_skip | (go_big_quiet_want; (first | (refine quiet_load_at rfl rfl (by with_reducible repeat (first | exact Sel.here | apply Sel.there)) (by kernel_rfl) (by first | assumption | exact rfl) ?_; go_frame; go_big_quiet_on) | (go_big_quiet_op; (first | go_big_quiet_on | ((apply Exists.intro); (refine ⟨fun w1 hw => ?_, ?_⟩); (focus ((have hw := Cl.out hw); (fail))); (go_big_quiet_on))))))))
            (refine wpQuiet_nil ?_); (intro w1 hB); (clear hF hA hn1 hn2); (have hA := Cl.out hB); (clear hB); (try simp only [setL, List.set_cons_zero, List.set_cons_succ, List.cons_append, List.nil_append] at hA); (have hF := hA.facts); (try simp only [facts_cons, facts_nil, facts_cells, facts_old, facts_fact, facts_obj, facts_map, facts_iter, and_true, true_and] at hF)
            go_wp2_with fail
            (refine wp_region_all (Cl _ _ _) (by kernel_rfl) (by kernel_rfl) (Cl.drew hA) ?_); (have hn1 := Cl.none hA); (have hn2 := Cl.none2 hA); (repeat (first | go_big_quiet_skip | (go_big_quiet_want; (first | (refine quiet_load_at rfl rfl (by with_reducible repeat (first | exact Sel.here | apply Sel.there)) (by kernel_rfl) (by first | assumption | exact rfl) ?_; go_frame; go_big_quiet_on) | (go_big_quiet_op; (first | go_big_quiet_on | ((apply Exists.intro); (refine ⟨fun w1 hw => ?_, ?_⟩); (focus ((have hw := Cl.out hw); (exact less_in hw _ _ hl'.out))); (go_big_quiet_on))))))))
            (refine wpQuiet_nil ?_); (intro w1 hB); (clear hF hA hn1 hn2); (have hA := Cl.out hB); (clear hB); (try simp only [setL, List.set_cons_zero, List.set_cons_succ, List.cons_append, List.nil_append] at hA); (have hF := hA.facts); (try simp only [facts_cons, facts_nil, facts_cells, facts_old, facts_fact, facts_obj, facts_map, facts_iter, and_true, true_and] at hF)
            go_wp2_with fail
            refine bodyPost_ret (results_none rfl _ _ _) rfl ?_
            exact ⟨rfl, by rw [← hO'.out, hx'.out]; exact hA⟩
          · go_wp2_with fail
            (refine wp_region_all (Cl _ _ _) (by kernel_rfl) (by kernel_rfl) (Cl.drew hA) ?_); (have hn1 := Cl.none hA); (have hn2 := Cl.none2 hA); (repeat (first | go_big_quiet_skip | (go_big_quiet_want; (first | (refine quiet_load_at rfl rfl (by with_reducible repeat (first | exact Sel.here | apply Sel.there)) (by kernel_rfl) (by first | assumption | exact rfl) ?_; go_frame; go_big_quiet_on) | (go_big_quiet_op; (first | go_big_quiet_on | ((apply Exists.intro); (refine ⟨fun w1 hw => ?_, ?_⟩); (focus ((have hw := Cl.out hw); (fail))); (go_big_quiet_on))))))))
            (refine wpQuiet_nil ?_); (intro w1 hB); (clear hF hA hn1 hn2); (have hA := Cl.out hB); (clear hB); (try simp only [setL, List.set_cons_zero, List.set_cons_succ, List.cons_append, List.nil_append] at hA); (have hF := hA.facts); (try simp only [facts_cons, facts_nil, facts_cells, facts_old, facts_fact, facts_obj, facts_map, facts_iter, and_true, true_and] at hF)
            go_wp2_with fail
            (refine wp_region_all (Cl _ _ _) (by kernel_rfl) (by kernel_rfl) (Cl.drew hA) ?_); (have hn1 := Cl.none hA); (have hn2 := Cl.none2 hA); (repeat (first | go_big_quiet_skip | (go_big_quiet_want; (first | (refine quiet_load_at rfl rfl (by with_reducible repeat (first | exact Sel.here | apply Sel.there)) (by kernel_rfl) (by first | assumption | exact rfl) ?_; go_frame; go_big_quiet_on) | (go_big_quiet_op; (first | go_big_quiet_on | ((apply Exists.intro); (refine ⟨fun w1 hw => ?_, ?_⟩); (focus ((have hw := Cl.out hw); (exact less_in hw _ _ hl'.out))); (go_big_quiet_on))))))))
            (refine wpQuiet_nil ?_); (intro w1 hB); (clear hF hA hn1 hn2); (have hA := Cl.out hB); (clear hB); (try simp only [setL, List.set_cons_zero, List.set_cons_succ, List.cons_append, List.nil_append] at hA); (have hF := hA.facts); (try simp only [facts_cons, facts_nil, facts_cells, facts_old, facts_fact, facts_obj, facts_map, facts_iter, and_true, true_and] at hF)
            have b1 := hp'.out
            have b2 := hq'.out
            go_wp2_with fail
            (try clear hF); (have k1 := at_cell hA .here (i := q) (by omega)); (have k2 := at_cell hA .here (i := p) (by omega)); (have f1 := at_free hA .here (q)); (have f2 := at_free hA .here (p)); go_region; (have hB := (at_swp hA .here (i := q) (j := p) (by omega) (by omega)).drew); (clear k1 k2 f1 f2 hA); (have hA := hB); (clear hB); (generalize World.drew (World.setCell _ _ _) = wz at *)
            go_wp2_with fail
            go_roundg (hi - c)
            case measure => have := hc'.out; omega
            case rel => exact ⟨c, swp dk q p, rfl, Nat.le_refl _, by omega, by rw [swp_size]; exact hsk, hA, by rw [← hO'.out, hx'.out]⟩
    · have hx := Lib.hid (sift_stop (hi := hi) (first := first) (root := root) (d := dk) (by omega))
      clear hc
      go_wp2_with fail
      go_end0
      exact ⟨rfl, by rw [← hO'.out, hx.out]; exact hA⟩

/-! ### heapSortOrdered -/
theorem siftDown_size {hi first : Nat} : ∀ (n root : Nat) (d : Array Int), hi - root ≤ n → (siftDown ltInt hi first root d).size = d.size := by
  intro n
  induction n with
  | zero =>
    intro root d h
    rw [sift_stop (by omega)]
  | succ n ih =>
    intro root d h
    by_cases h0 : 2 * root + 1 ≥ hi
    · rw [sift_stop h0]
    · by_cases h1 : 2 * root + 1 + 1 < hi ∧ ltU (atU d (first + (2 * root + 1))) (atU d (first + (2 * root + 1) + 1)) = true
      · rw [sift_two h0 h1]
        split
        · rw [ih _ _ (by omega), swp_size]
        · rfl
      · rw [sift_one h0 h1]
        split
        · rw [ih _ _ (by omega), swp_size]
        · rfl
def HeapB (w : World) (g : Nat) (d : Array Int) (r : List Value) (hi a : Nat) (k : Nat) (u : Value) (wr : World) : Prop :=
  ∃ dk : Array Int, u = .int .i64 ((k : Int) - 1) ∧ k ≤ d.size ∧ dk.size = d.size ∧ At [blkU g d r] w [blkU g dk r] wr ∧ heapBuild ltInt hi a k dk = heapBuild ltInt hi a ((hi - 1) / 2 + 1) d
def HeapP (w : World) (g : Nat) (d : Array Int) (r : List Value) (hi a : Nat) (d1 : Array Int) (k : Nat) (u : Value) (wr : World) : Prop :=
  ∃ dk : Array Int, u = .int .i64 ((k : Int) - 1) ∧ k ≤ hi ∧ dk.size = d.size ∧ At [blkU g d r] w [blkU g dk r] wr ∧ heapPop ltInt a k dk = heapPop ltInt a hi d1
set_option maxRecDepth 100000 in
set_option maxHeartbeats 1000000 in
theorem heapSort_any {w : World} {g cap n : Nat} {d : Array Int} {r : List Value} (h : Sep [blkU g d r] w) (hn : d.size = n) {a b : Nat} (hab : a < b) (hb : b ≤ d.size) (hsz : d.size < 4611686018427387904) :
    Calls Try.prog 83 #[.slice (some ⟨g, 0, none⟩) n cap, .int .i64 a, .int .i64 b] w fun e w' => e = .returned (.tuple #[]) ∧ At [blkU g d r] w [blkU g (Sort.heapSort ltInt d a b) r] w' := by
  have hA := At.start h
  have hF := hA.facts
  clear h
  obtain ⟨hi, hhi⟩ : ∃ hi, b - a = hi := ⟨_, rfl⟩
  have ehi : (b : Int) - (a : Int) = (hi : Int) := by omega
  have hsort := Lib.hid (show Sort.heapSort ltInt d a b = heapPop ltInt a hi (heapBuild ltInt hi a ((hi - 1) / 2 + 1) d) by unfold Sort.heapSort; rw [hhi])
  have hhi' := Lib.hid hhi
  have hhb : a + hi ≤ d.size := by omega
  have h1 : 1 ≤ hi := by omega
  clear hhi
  have hdiv := Lib.hid (show ((hi : Int) - 1) / 2 = (((hi - 1) / 2 + 1 : Nat) : Int) - 1 by omega)
  go_enter Try.func83, Try.ntmps83
  go_wp2_with fail
  go_loopg [9] ((hi - 1) / 2 + 1) (HeapB w g d r hi a)
  case atStart => exact ⟨d, by rw [hdiv.out], by omega, rfl, hA, rfl⟩
  case round =>
    obtain ⟨dk, rfl, hk, hsk, hB, hO⟩ := hrel
    have hO' := Lib.hid hO
    clear hF hA hO
    have hA := hB
    clear hB
    (try simp only [setL, List.set_cons_zero, List.set_cons_succ, List.cons_append, List.nil_append] at hA); (have hF := hA.facts); (try simp only [facts_cons, facts_nil, facts_cells, facts_old, facts_fact, facts_obj, facts_map, facts_iter, and_true, true_and] at hF)
    rcases Nat.eq_zero_or_pos gk with h0 | hpos
    · subst h0
      have e1 := Lib.hid (show dk = heapBuild ltInt hi a ((hi - 1) / 2 + 1) d by rw [← hO'.out]; rfl)
      go_wp2_with fail
      go_loopg [10] hi (HeapP w g d r hi a dk)
      case atStart => exact ⟨dk, by first | rfl | simp, Nat.le_refl _, hsk, hA, rfl⟩
      case round =>
        obtain ⟨dj, rfl, hk2, hsj, hB, hP⟩ := hrel
        have hP' := Lib.hid hP
        clear hF hA hP
        have hA := hB
        clear hB
        (try simp only [setL, List.set_cons_zero, List.set_cons_succ, List.cons_append, List.nil_append] at hA); (have hF := hA.facts); (try simp only [facts_cons, facts_nil, facts_cells, facts_old, facts_fact, facts_obj, facts_map, facts_iter, and_true, true_and] at hF)
        rcases Nat.eq_zero_or_pos gk with h0 | hpos
        · subst h0
          go_wp2_with fail
          go_end0
          exact ⟨rfl, by rw [hsort.out, ← e1.out, ← hP'.out]; exact hA⟩
        · obtain ⟨m, rfl⟩ : ∃ m, gk = m + 1 := ⟨gk - 1, by omega⟩
          obtain ⟨q, hq⟩ : ∃ q, a + m = q := ⟨_, rfl⟩
          have eq : (a : Int) + (m : Int) = (q : Int) := by omega
          have hm : ((m + 1 : Nat) : Int) - 1 = (m : Int) := by omega
          rw [hm]
          clear hm
          by_cases haq : a = q
          · subst haq
            go_wp2_with fail
            (try clear hF); (have k1 := at_cell hA .here (i := a) (by omega)); (have k2 := at_cell hA .here (i := a) (by omega)); (have f1 := at_free hA .here (a)); (have f2 := at_free hA .here (a)); go_region; (have hB := (at_swp hA .here (i := a) (j := a) (by omega) (by omega)).drew); (clear k1 k2 f1 f2 hA); (have hA := hB); (clear hB); (generalize World.drew (World.setCell _ _ _) = wz at *)
            go_wp2_with fail
            refine (siftDown_any (g := g) (d := swp dj a a) (r := r) (hA.sep1 (by with_reducible repeat (first | exact Sel.here | apply Sel.there))) (by rw [swp_size]; exact hsj.trans hn) (lo := 0) (hi := m) (first := a) (by rw [swp_size]; omega) (by omega) (by rw [swp_size]; omega)).mono ?_
            rintro e w1 ⟨rfl, hT⟩
            have hB := hA.call1 (by with_reducible repeat (first | exact Sel.here | apply Sel.there)) hT
            clear hA hT
            have hA := hB
            clear hB
            (try simp only [setL, List.set_cons_zero, List.set_cons_succ, List.cons_append, List.nil_append] at hA); (have hF := hA.facts); (try simp only [facts_cons, facts_nil, facts_cells, facts_old, facts_fact, facts_obj, facts_map, facts_iter, and_true, true_and] at hF)
            go_wp2_with fail
            go_roundg m
            case measure => omega
            case rel => exact ⟨siftDown ltInt m a 0 (swp dj a a), by first | rfl | simp, by omega, by rw [siftDown_size _ _ _ (Nat.le_refl _), swp_size]; exact hsj, hA, by rw [← hP'.out, heapPop, hq]⟩
          · go_wp2_with fail
            (try clear hF); (have k1 := at_cell hA .here (i := a) (by omega)); (have k2 := at_cell hA .here (i := q) (by omega)); (have f1 := at_free hA .here (a)); (have f2 := at_free hA .here (q)); go_region; (have hB := (at_swp hA .here (i := a) (j := q) (by omega) (by omega)).drew); (clear k1 k2 f1 f2 hA); (have hA := hB); (clear hB); (generalize World.drew (World.setCell _ _ _) = wz at *)
            go_wp2_with fail
            refine (siftDown_any (g := g) (d := swp dj a q) (r := r) (hA.sep1 (by with_reducible repeat (first | exact Sel.here | apply Sel.there))) (by rw [swp_size]; exact hsj.trans hn) (lo := 0) (hi := m) (first := a) (by rw [swp_size]; omega) (by omega) (by rw [swp_size]; omega)).mono ?_
            rintro e w1 ⟨rfl, hT⟩
            have hB := hA.call1 (by with_reducible repeat (first | exact Sel.here | apply Sel.there)) hT
            clear hA hT
            have hA := hB
            clear hB
            (try simp only [setL, List.set_cons_zero, List.set_cons_succ, List.cons_append, List.nil_append] at hA); (have hF := hA.facts); (try simp only [facts_cons, facts_nil, facts_cells, facts_old, facts_fact, facts_obj, facts_map, facts_iter, and_true, true_and] at hF)
            go_wp2_with fail
            go_roundg m
            case measure => omega
            case rel => exact ⟨siftDown ltInt m a 0 (swp dj a q), by first | rfl | simp, by omega, by rw [siftDown_size _ _ _ (Nat.le_refl _), swp_size]; exact hsj, hA, by rw [← hP'.out, heapPop, hq]⟩
    · obtain ⟨m, rfl⟩ : ∃ m, gk = m + 1 := ⟨gk - 1, by omega⟩
      have hm : ((m + 1 : Nat) : Int) - 1 = (m : Int) := by omega
      rw [hm]
      clear hm
      go_wp2_with fail
      refine (siftDown_any (g := g) (d := dk) (r := r) (hA.sep1 (by with_reducible repeat (first | exact Sel.here | apply Sel.there))) (hsk.trans hn) (lo := m) (hi := hi) (first := a) (by omega) (by omega) (by omega)).mono ?_
      rintro e w1 ⟨rfl, hT⟩
      have hB := hA.call1 (by with_reducible repeat (first | exact Sel.here | apply Sel.there)) hT
      clear hF hA hT
      have hA := hB
      clear hB
      (try simp only [setL, List.set_cons_zero, List.set_cons_succ, List.cons_append, List.nil_append] at hA); (have hF := hA.facts); (try simp only [facts_cons, facts_nil, facts_cells, facts_old, facts_fact, facts_obj, facts_map, facts_iter, and_true, true_and] at hF)
      go_wp2_with fail
      go_roundg m
      case measure => omega
      case rel => exact ⟨siftDown ltInt hi a m dk, by first | rfl | simp, by omega, by rw [siftDown_size _ _ _ (Nat.le_refl _)]; exact hsk, hA, by rw [← hO'.out]; rfl⟩

/-! ### reverseRangeOrdered -/
def RevRel (w : World) (g : Nat) (d : Array Int) (r : List Value) (a b : Nat) (k : Nat) (u v : Value) (wr : World) : Prop :=
  ∃ (i j : Nat) (dk : Array Int), u = .int .i64 i ∧ v = .int .i64 j ∧ j - i ≤ k ∧ j < d.size ∧ i ≤ d.size ∧ dk.size = d.size ∧ At [blkU g d r] w [blkU g dk r] wr ∧ reverseLoop i j dk = reverseLoop a (b - 1) d
set_option maxRecDepth 100000 in
set_option maxHeartbeats 1000000 in
theorem reverse_any {w : World} {g cap n : Nat} {d : Array Int} {r : List Value} (h : Sep [blkU g d r] w) (hn : d.size = n) {a b : Nat} (hab : a < b) (hb : b ≤ d.size) (hsz : d.size < 4611686018427387904) :
    Calls Try.prog 86 #[.slice (some ⟨g, 0, none⟩) n cap, .int .i64 a, .int .i64 b] w fun e w' => e = .returned (.tuple #[]) ∧ At [blkU g d r] w [blkU g (Sort.reverseRange d a b) r] w' := by
  have hA := At.start h
  have hF := hA.facts
  clear h
  go_enter Try.func86, Try.ntmps86
  go_wp2_with fail
  go_loopg [6, 7] (b - 1 - a) (RevRel w g d r a b)
  case atStart => exact ⟨a, b - 1, d, rfl, by congr 1; omega, Nat.le_refl _, by omega, by omega, rfl, hA, rfl⟩
  case round =>
    obtain ⟨i, j, dk, rfl, rfl, hk, hj, hi, hsk, hB, hO⟩ := hrel
    clear hF hA
    have hA := hB
    clear hB
    (try simp only [setL, List.set_cons_zero, List.set_cons_succ, List.cons_append, List.nil_append] at hA); (have hF := hA.facts); (try simp only [facts_cons, facts_nil, facts_cells, facts_old, facts_fact, facts_obj, facts_map, facts_iter, and_true, true_and] at hF)
    by_cases hij : i < j
    · have e1 := rowC_at (d := dk) (r := r) (i := i) (by omega)
      have e2 := rowC_at (d := dk) (r := r) (i := j) (by omega)
      have hx := Lib.hid (show reverseLoop i j dk = reverseLoop (i + 1) (j - 1) (swp dk i j) by rw [reverseLoop, if_pos hij])
      have hO' := Lib.hid hO
      clear hO
      go_wp2_with fail
      (try clear hF); (have k1 := at_cell hA .here (i := i) (by omega)); (have k2 := at_cell hA .here (i := j) (by omega)); (have f1 := at_free hA .here (i)); (have f2 := at_free hA .here (j)); go_region; (have hB := (at_swp hA .here (i := i) (j := j) (by omega) (by omega)).drew); (clear k1 k2 f1 f2 hA); (have hA := hB); (clear hB); (generalize World.drew (World.setCell _ _ _) = wz at *)
      go_wp2_with fail
      go_roundg (j - 1 - (i + 1))
      case measure => omega
      case rel => exact ⟨i + 1, j - 1, swp dk i j, by simp, by congr 1; omega, Nat.le_refl _, by omega, by omega, by rw [swp_size]; exact hsk, hA, by rw [← hO'.out, hx.out]⟩
    · have hx := Lib.hid (show reverseLoop i j dk = dk by rw [reverseLoop, if_neg hij])
      have hO' := Lib.hid hO
      clear hO
      go_wp2_with fail
      go_end0
      refine ⟨rfl, ?_⟩
      unfold Sort.reverseRange
      rw [← hO'.out, hx.out]
      exact hA
end Go.Proofs.Ytbdcgadcjgmgbaa.SortU
end

section
namespace Go.Proofs.Ytbdcgadcjgmgbaa.SortU
open Go.RowKit
open Go.Sort (swp ltInt PermIn)
set_option linter.unusedSimpArgs false
set_option linter.unusedVariables false

abbrev intC (b : Nat) (x : Int) : Part := .cells b [.int .i64 x] 3
/-- two places, in either order; the count of swaps -/
def O2Post (w : World) (g s : Nat) (d : Array Int) (r : List Value) (x : Nat) (a b : Nat) (e : Ending) (w' : World) : Prop :=
  ∃ (p q y : Nat), e = .returned (.tuple #[.int .i64 p, .int .i64 q]) ∧ (p = a ∧ q = b ∨ p = b ∧ q = a) ∧ y ≤ x + 1 ∧ At [blkU g d r, intC s x] w [blkU g d r, intC s y] w'
set_option maxRecDepth 100000 in
set_option maxHeartbeats 1000000 in
theorem order2_any {w : World} {g s cap n x : Nat} {d : Array Int} {r : List Value} (h : Sep [blkU g d r, intC s x] w) (hn : d.size = n) {a b : Nat} (ha : a < d.size) (hb : b < d.size) (hx : x < 1000) (hsz : d.size < 4611686018427387904) :
    Calls Try.prog 95 #[.slice (some ⟨g, 0, none⟩) n cap, .int .i64 a, .int .i64 b, .pointer (some ⟨s, 0, none⟩)] w (O2Post w g s d r x a b) := by
  have hA := At.start h
  have hF := hA.facts
  have e1 := rowC_at (r := r) ha
  have e2 := rowC_at (r := r) hb
  clear h
  (try simp only [setL, List.set_cons_zero, List.set_cons_succ, List.cons_append, List.nil_append] at hA); (have hF := hA.facts); (try simp only [facts_cons, facts_nil, facts_cells, facts_old, facts_fact, facts_obj, facts_map, facts_iter, and_true, true_and] at hF)
  cases hl : ltU (atU d b) (atU d a)
  · have hl' := Lib.hid hl
    clear hl
    go_enter Try.func95, Try.ntmps95
    go_wp2_with fail
    (refine wp_region_all (Cl _ _ _) (by kernel_rfl) (by kernel_rfl) (Cl.drew hA) ?_); (have hn1 := Cl.none hA); (have hn2 := Cl.none2 hA); (repeat (first | go_big_quiet_skip | (go_big_quiet_want; (first | (refine quiet_load_at rfl rfl (by with_reducible repeat (first | exact Sel.here | apply Sel.there)) (by kernel_rfl) (by first | assumption | exact rfl) ?_; go_frame; go_big_quiet_on) | (go_big_quiet_op; (first | go_big_quiet_on | ((apply Exists.intro); (refine ⟨fun w1 hw => ?_, ?_⟩); (focus ((have hw := Cl.out hw); (exact less_in hw _ _ hl'.out))); (go_big_quiet_on))))))))
    (refine wpQuiet_nil ?_); (intro w1 hB); (clear hF hA hn1 hn2); (have hA := Cl.out hB); (clear hB); (try simp only [setL, List.set_cons_zero, List.set_cons_succ, List.cons_append, List.nil_append] at hA); (have hF := hA.facts); (try simp only [facts_cons, facts_nil, facts_cells, facts_old, facts_fact, facts_obj, facts_map, facts_iter, and_true, true_and] at hF)
    go_wp2_with fail
    refine bodyPost_ret (v := .tuple #[.int .i64 a, .int .i64 b]) (by simp [results, Try.results95, go_sem, hF]) rfl ?_
    exact ⟨a, b, x, rfl, .inl ⟨rfl, rfl⟩, by omega, hA⟩
  · have hl' := Lib.hid hl
    clear hl
    go_enter Try.func95, Try.ntmps95
    go_wp2_with fail
    (refine wp_region_all (Cl _ _ _) (by kernel_rfl) (by kernel_rfl) (Cl.drew hA) ?_); (have hn1 := Cl.none hA); (have hn2 := Cl.none2 hA); (repeat (first | go_big_quiet_skip | (go_big_quiet_want; (first | (refine quiet_load_at rfl rfl (by with_reducible repeat (first | exact Sel.here | apply Sel.there)) (by kernel_rfl) (by first | assumption | exact rfl) ?_; go_frame; go_big_quiet_on) | (go_big_quiet_op; (first | go_big_quiet_on | ((apply Exists.intro); (refine ⟨fun w1 hw => ?_, ?_⟩); (focus ((have hw := Cl.out hw); (exact less_in hw _ _ hl'.out))); (go_big_quiet_on))))))))
    (refine wpQuiet_nil ?_); (intro w1 hB); (clear hF hA hn1 hn2); (have hA := Cl.out hB); (clear hB); (try simp only [setL, List.set_cons_zero, List.set_cons_succ, List.cons_append, List.nil_append] at hA); (have hF := hA.facts); (try simp only [facts_cons, facts_nil, facts_cells, facts_old, facts_fact, facts_obj, facts_map, facts_iter, and_true, true_and] at hF)
    go_wp2_with (first | (refine wpList_store_at rfl rfl rfl (by (try simp only [Act.eval, Array.getD_eq_getD_getElem?, List.getElem?_toArray, List.getElem?_cons_succ, List.getElem?_cons_zero, Option.getD_some]) <;> exact rfl) (by exact rfl) hA (by with_reducible repeat (first | exact Sel.here | apply Sel.there)) (by kernel_rfl) rfl (by first | decide | (simp; done) | omega) ?_; intro w1 hB; clear hF hA; have hA := hB; clear hB; (try simp only [setL, List.set_cons_zero, List.set_cons_succ, List.cons_append, List.nil_append] at hA); (have hF := hA.facts); (try simp only [facts_cons, facts_nil, facts_cells, facts_old, facts_fact, facts_obj, facts_map, facts_iter, and_true, true_and] at hF)) | (refine wpList_box_at rfl rfl (by (try simp only [Act.eval, Array.getD_eq_getD_getElem?, List.getElem?_toArray, List.getElem?_cons_succ, List.getElem?_cons_zero, Option.getD_some]) <;> exact rfl) (by exact rfl) hA ?_; intro b1 w1 hB hb1; clear hF hA; have hA := hB; clear hB; (try simp only [setL, List.set_cons_zero, List.set_cons_succ, List.cons_append, List.nil_append] at hA); (have hF := hA.facts); (try simp only [facts_cons, facts_nil, facts_cells, facts_old, facts_fact, facts_obj, facts_map, facts_iter, and_true, true_and] at hF)))
    refine bodyPost_ret (v := .tuple #[.int .i64 b, .int .i64 a]) (by simp [results, Try.results95, go_sem, hF]) rfl ?_
    have hA := (show At _ _ [intC s ((x + 1 : Nat) : Int), blkU g d r] _ from hA)
    exact ⟨b, a, x + 1, rfl, .inr ⟨rfl, rfl⟩, by omega, hA.pick (by with_reducible repeat (first | exact Picks.nil | refine Picks.cons (by with_reducible repeat (first | exact Sel.here | apply Sel.there)) ?_))⟩
/-- one of three places -/
def MedPost (w : World) (g s : Nat) (d : Array Int) (r : List Value) (x : Nat) (a b c : Nat) (e : Ending) (w' : World) : Prop :=
  ∃ (p y : Nat), e = .returned (.int .i64 p) ∧ (p = a ∨ p = b ∨ p = c) ∧ y ≤ x + 3 ∧ At [blkU g d r, intC s x] w [blkU g d r, intC s y] w'
set_option maxRecDepth 100000 in
set_option maxHeartbeats 1000000 in
theorem median_any {w : World} {g s cap n x : Nat} {d : Array Int} {r : List Value} (h : Sep [blkU g d r, intC s x] w) (hn : d.size = n) {a b c : Nat} (ha : a < d.size) (hb : b < d.size) (hc : c < d.size) (hx : x < 900) (hsz : d.size < 4611686018427387904) :
    Calls Try.prog 94 #[.slice (some ⟨g, 0, none⟩) n cap, .int .i64 a, .int .i64 b, .int .i64 c, .pointer (some ⟨s, 0, none⟩)] w (MedPost w g s d r x a b c) := by
  have hA := At.start h
  have hF := hA.facts
  clear h
  go_enter Try.func94, Try.ntmps94
  go_wp2_with fail
  refine (order2_any (hA.seps (by with_reducible repeat (first | exact Picks.nil | refine Picks.cons (by with_reducible repeat (first | exact Sel.here | apply Sel.there)) ?_))) hn ha hb (by omega) hsz).mono ?_
  rintro e w1 ⟨p1, q1, y1, rfl, h1, hy1, hT⟩
  have hB := hA.call2 (by with_reducible repeat (first | exact Sel.here | apply Sel.there)) (by with_reducible repeat (first | exact Sel.here | apply Sel.there)) hT
  clear hF hA hT
  have hA := hB
  clear hB
  simp only [List.cons_append, List.nil_append] at hA
  go_wp2_with fail
  refine (order2_any (hA.seps (by with_reducible repeat (first | exact Picks.nil | refine Picks.cons (by with_reducible repeat (first | exact Sel.here | apply Sel.there)) ?_))) hn (a := q1) (b := c) (by omega) hc (by omega) hsz).mono ?_
  rintro e w1 ⟨p2, q2, y2, rfl, h2, hy2, hT⟩
  have hB := hA.call2 (by with_reducible repeat (first | exact Sel.here | apply Sel.there)) (by with_reducible repeat (first | exact Sel.here | apply Sel.there)) hT
  clear hA hT
  have hA := hB
  clear hB
  simp only [List.cons_append, List.nil_append] at hA
  go_wp2_with fail
  refine (order2_any (hA.seps (by with_reducible repeat (first | exact Picks.nil | refine Picks.cons (by with_reducible repeat (first | exact Sel.here | apply Sel.there)) ?_))) hn (a := p1) (b := p2) (by omega) (by omega) (by omega) hsz).mono ?_
  rintro e w1 ⟨p3, q3, y3, rfl, h3, hy3, hT⟩
  have hB := hA.call2 (by with_reducible repeat (first | exact Sel.here | apply Sel.there)) (by with_reducible repeat (first | exact Sel.here | apply Sel.there)) hT
  clear hA hT
  have hA := hB
  clear hB
  simp only [List.cons_append, List.nil_append] at hA
  go_wp2_with fail
  go_ret
  exact ⟨q3, y3, rfl, by omega, by omega, hA⟩
set_option maxRecDepth 100000 in
set_option maxHeartbeats 1000000 in
theorem medianAdj_any {w : World} {g s cap n x : Nat} {d : Array Int} {r : List Value} (h : Sep [blkU g d r, intC s x] w) (hn : d.size = n) {a : Nat} (ha : 0 < a) (ha2 : a + 1 < d.size) (hx : x < 900) (hsz : d.size < 4611686018427387904) :
    Calls Try.prog 93 #[.slice (some ⟨g, 0, none⟩) n cap, .int .i64 a, .pointer (some ⟨s, 0, none⟩)] w (MedPost w g s d r x (a - 1) a (a + 1)) := by
  have hA := At.start h
  have hF := hA.facts
  clear h
  obtain ⟨m, rfl⟩ : ∃ m, a = m + 1 := ⟨a - 1, by omega⟩
  go_enter Try.func93, Try.ntmps93
  go_wp2_with fail
  refine (median_any (hA.seps (by with_reducible repeat (first | exact Picks.nil | refine Picks.cons (by with_reducible repeat (first | exact Sel.here | apply Sel.there)) ?_))) hn (a := m) (b := m + 1) (c := m + 2) (by omega) (by omega) (by omega) hx hsz).mono ?_
  rintro e w1 ⟨p, y, rfl, h1, hy, hT⟩
  have hB := hA.call2 (by with_reducible repeat (first | exact Sel.here | apply Sel.there)) (by with_reducible repeat (first | exact Sel.here | apply Sel.there)) hT
  clear hF hA hT
  have hA := hB
  clear hB
  simp only [List.cons_append, List.nil_append] at hA
  go_wp2_with fail
  go_ret
  exact ⟨p, y, rfl, by omega, hy, hA⟩

/-! ### choosePivotOrdered -/
def PivPost (w : World) (g : Nat) (d : Array Int) (r : List Value) (a b : Nat) (e : Ending) (w' : World) : Prop :=
  ∃ (p : Nat) (hv : Int), e = .returned (.tuple #[.int .i64 p, .int .i64 hv]) ∧ a ≤ p ∧ p < b ∧ At [blkU g d r] w [blkU g d r] w'
set_option maxRecDepth 100000 in
set_option maxHeartbeats 4000000 in
theorem pivot_any {w : World} {g cap n : Nat} {d : Array Int} {r : List Value} (h : Sep [blkU g d r] w) (hn : d.size = n) {a b : Nat} (hab : a + 12 < b) (hb : b ≤ d.size) (hsz : d.size < 4611686018427387904) :
    Calls Try.prog 85 #[.slice (some ⟨g, 0, none⟩) n cap, .int .i64 a, .int .i64 b] w (PivPost w g d r a b) := by
  have hA := At.start h
  have hF := hA.facts
  clear h
  obtain ⟨l, hl⟩ : ∃ l, b - a = l := ⟨_, rfl⟩
  have el : (b : Int) - (a : Int) = (l : Int) := by omega
  obtain ⟨q, hq⟩ : ∃ q, l / 4 = q := ⟨_, rfl⟩
  have eq : (l : Int) / 4 = (q : Int) := by omega
  obtain ⟨i, hi⟩ : ∃ i, a + q = i := ⟨_, rfl⟩
  have ei : (a : Int) + (q : Int) = (i : Int) := by omega
  obtain ⟨j, hj⟩ : ∃ j, a + q * 2 = j := ⟨_, rfl⟩
  have ej : (a : Int) + (q : Int) * 2 = (j : Int) := by omega
  obtain ⟨k, hk⟩ : ∃ k, a + q * 3 = k := ⟨_, rfl⟩
  have ek : (a : Int) + (q : Int) * 3 = (k : Int) := by omega
  have h8 : (8 : Int) ≤ (l : Int) := by omega
  have hr1 : a < i ∧ i + 1 < b ∧ a < j ∧ j + 1 < b ∧ a < k ∧ k < b := by omega
  have hr2 : 50 ≤ l → a + 1 < i ∧ i + 1 < b ∧ a + 1 < j ∧ j + 1 < b ∧ a + 1 < k ∧ k + 1 < b := by omega
  have hr1' := Lib.hid hr1
  have hr2' := Lib.hid hr2
  clear hr1 hr2 hl hq hi hj hk
  by_cases h50 : 50 ≤ l
  · have h50' : (50 : Int) ≤ (l : Int) := by omega
    have hr := hr2'.out h50
    go_enter Try.func85, Try.ntmps85
    go_wp2_with (first | (refine wpList_alloc_at (E := 3) (z := .int .i64 0) (vs := [.int .i64 0]) rfl rfl (by kernel_rfl) rfl hA ?_; intro bS w1 hB hbS; clear hF hA; have hA := hB; clear hB; (try simp only [setL, List.set_cons_zero, List.set_cons_succ, List.cons_append, List.nil_append] at hA); (have hF := hA.facts); (try simp only [facts_cons, facts_nil, facts_cells, facts_old, facts_fact, facts_obj, facts_map, facts_iter, and_true, true_and] at hF)) | (refine wpList_store_at rfl rfl rfl (by (try simp only [Act.eval, Array.getD_eq_getD_getElem?, List.getElem?_toArray, List.getElem?_cons_succ, List.getElem?_cons_zero, Option.getD_some]) <;> exact rfl) (by exact rfl) hA (by with_reducible repeat (first | exact Sel.here | apply Sel.there)) (by kernel_rfl) rfl (by first | decide | (simp; done) | omega) ?_; intro w1 hB; clear hF hA; have hA := hB; clear hB; (try simp only [setL, List.set_cons_zero, List.set_cons_succ, List.cons_append, List.nil_append] at hA); (have hF := hA.facts); (try simp only [facts_cons, facts_nil, facts_cells, facts_old, facts_fact, facts_obj, facts_map, facts_iter, and_true, true_and] at hF)) | (refine wpList_box_at rfl rfl (by (try simp only [Act.eval, Array.getD_eq_getD_getElem?, List.getElem?_toArray, List.getElem?_cons_succ, List.getElem?_cons_zero, Option.getD_some]) <;> exact rfl) (by exact rfl) hA ?_; intro b1 w1 hB hb1; clear hF hA; have hA := hB; clear hB; (try simp only [setL, List.set_cons_zero, List.set_cons_succ, List.cons_append, List.nil_append] at hA); (have hF := hA.facts); (try simp only [facts_cons, facts_nil, facts_cells, facts_old, facts_fact, facts_obj, facts_map, facts_iter, and_true, true_and] at hF)))
    refine (medianAdj_any (x := 0) (hA.seps (by repeat (first | exact Picks.nil | refine Picks.cons (by repeat (first | exact Sel.here | apply Sel.there)) ?_))) hn (a := i) (by omega) (by omega) (by omega) hsz).mono ?_
    rintro e w1 ⟨p1, y1, rfl, g1, hy1, hT⟩
    have hB := hA.call2 (by repeat (first | exact Sel.here | apply Sel.there)) (by repeat (first | exact Sel.here | apply Sel.there)) hT
    clear hF hA hT
    have hA := hB
    clear hB
    simp only [List.cons_append, List.nil_append] at hA
    go_wp2_with fail
    refine (medianAdj_any (x := y1) (hA.seps (by repeat (first | exact Picks.nil | refine Picks.cons (by repeat (first | exact Sel.here | apply Sel.there)) ?_))) hn (a := j) (by omega) (by omega) (by omega) hsz).mono ?_
    rintro e w1 ⟨p2, y2, rfl, g2, hy2, hT⟩
    have hB := hA.call2 (by repeat (first | exact Sel.here | apply Sel.there)) (by repeat (first | exact Sel.here | apply Sel.there)) hT
    clear hA hT
    have hA := hB
    clear hB
    simp only [List.cons_append, List.nil_append] at hA
    go_wp2_with fail
    refine (medianAdj_any (x := y2) (hA.seps (by repeat (first | exact Picks.nil | refine Picks.cons (by repeat (first | exact Sel.here | apply Sel.there)) ?_))) hn (a := k) (by omega) (by omega) (by omega) hsz).mono ?_
    rintro e w1 ⟨p3, y3, rfl, g3, hy3, hT⟩
    have hB := hA.call2 (by repeat (first | exact Sel.here | apply Sel.there)) (by repeat (first | exact Sel.here | apply Sel.there)) hT
    clear hA hT
    have hA := hB
    clear hB
    simp only [List.cons_append, List.nil_append] at hA
    go_wp2_with fail
    refine (median_any (x := y3) (hA.seps (by repeat (first | exact Picks.nil | refine Picks.cons (by repeat (first | exact Sel.here | apply Sel.there)) ?_))) hn (a := p1) (b := p2) (c := p3) (by omega) (by omega) (by omega) (by omega) hsz).mono ?_
    rintro e w1 ⟨p4, y4, rfl, g4, hy4, hT⟩
    have hB := hA.call2 (by repeat (first | exact Sel.here | apply Sel.there)) (by repeat (first | exact Sel.here | apply Sel.there)) hT
    clear hA hT
    have hA := hB
    clear hB
    simp only [List.cons_append, List.nil_append] at hA
    have hpr : a ≤ p4 ∧ p4 < b := by omega
    have hF := hA.facts
    (try simp only [setL, List.set_cons_zero, List.set_cons_succ, List.cons_append, List.nil_append] at hA); (have hF := hA.facts); (try simp only [facts_cons, facts_nil, facts_cells, facts_old, facts_fact, facts_obj, facts_map, facts_iter, and_true, true_and] at hF)
    by_cases h0 : (y4 : Int) = 0
    · rw [h0] at hF
      go_wp2_with fail
      refine bodyPost_ret (v := .tuple #[.int .i64 p4, .int .i64 1]) (by simp [results, Try.results85, go_sem, hF]) rfl ?_
      exact ⟨p4, 1, rfl, hpr.1, hpr.2, hA.pick (by with_reducible repeat (first | exact Picks.nil | refine Picks.cons (by with_reducible repeat (first | exact Sel.here | apply Sel.there)) ?_))⟩
    · by_cases h12 : (y4 : Int) = 12
      · rw [h12] at hF
        go_wp2_with fail
        refine bodyPost_ret (v := .tuple #[.int .i64 p4, .int .i64 2]) (by simp [results, Try.results85, go_sem, hF]) rfl ?_
        exact ⟨p4, 2, rfl, hpr.1, hpr.2, hA.pick (by with_reducible repeat (first | exact Picks.nil | refine Picks.cons (by with_reducible repeat (first | exact Sel.here | apply Sel.there)) ?_))⟩
      · go_wp2_with fail
        refine bodyPost_ret (v := .tuple #[.int .i64 p4, .int .i64 0]) (by simp [results, Try.results85, go_sem, hF]) rfl ?_
        exact ⟨p4, 0, rfl, hpr.1, hpr.2, hA.pick (by with_reducible repeat (first | exact Picks.nil | refine Picks.cons (by with_reducible repeat (first | exact Sel.here | apply Sel.there)) ?_))⟩
  · have h50' : (l : Int) < 50 := by omega
    have hr := hr1'.out
    go_enter Try.func85, Try.ntmps85
    go_wp2_with (first | (refine wpList_alloc_at (E := 3) (z := .int .i64 0) (vs := [.int .i64 0]) rfl rfl (by kernel_rfl) rfl hA ?_; intro bS w1 hB hbS; clear hF hA; have hA := hB; clear hB; (try simp only [setL, List.set_cons_zero, List.set_cons_succ, List.cons_append, List.nil_append] at hA); (have hF := hA.facts); (try simp only [facts_cons, facts_nil, facts_cells, facts_old, facts_fact, facts_obj, facts_map, facts_iter, and_true, true_and] at hF)) | (refine wpList_store_at rfl rfl rfl (by (try simp only [Act.eval, Array.getD_eq_getD_getElem?, List.getElem?_toArray, List.getElem?_cons_succ, List.getElem?_cons_zero, Option.getD_some]) <;> exact rfl) (by exact rfl) hA (by with_reducible repeat (first | exact Sel.here | apply Sel.there)) (by kernel_rfl) rfl (by first | decide | (simp; done) | omega) ?_; intro w1 hB; clear hF hA; have hA := hB; clear hB; (try simp only [setL, List.set_cons_zero, List.set_cons_succ, List.cons_append, List.nil_append] at hA); (have hF := hA.facts); (try simp only [facts_cons, facts_nil, facts_cells, facts_old, facts_fact, facts_obj, facts_map, facts_iter, and_true, true_and] at hF)) | (refine wpList_box_at rfl rfl (by (try simp only [Act.eval, Array.getD_eq_getD_getElem?, List.getElem?_toArray, List.getElem?_cons_succ, List.getElem?_cons_zero, Option.getD_some]) <;> exact rfl) (by exact rfl) hA ?_; intro b1 w1 hB hb1; clear hF hA; have hA := hB; clear hB; (try simp only [setL, List.set_cons_zero, List.set_cons_succ, List.cons_append, List.nil_append] at hA); (have hF := hA.facts); (try simp only [facts_cons, facts_nil, facts_cells, facts_old, facts_fact, facts_obj, facts_map, facts_iter, and_true, true_and] at hF)))
    refine (median_any (x := 0) (hA.seps (by repeat (first | exact Picks.nil | refine Picks.cons (by repeat (first | exact Sel.here | apply Sel.there)) ?_))) hn (a := i) (b := j) (c := k) (by omega) (by omega) (by omega) (by omega) hsz).mono ?_
    rintro e w1 ⟨p4, y4, rfl, g4, hy4, hT⟩
    have hB := hA.call2 (by repeat (first | exact Sel.here | apply Sel.there)) (by repeat (first | exact Sel.here | apply Sel.there)) hT
    clear hF hA hT
    have hA := hB
    clear hB
    simp only [List.cons_append, List.nil_append] at hA
    have hpr : a ≤ p4 ∧ p4 < b := by omega
    have hF := hA.facts
    (try simp only [setL, List.set_cons_zero, List.set_cons_succ, List.cons_append, List.nil_append] at hA); (have hF := hA.facts); (try simp only [facts_cons, facts_nil, facts_cells, facts_old, facts_fact, facts_obj, facts_map, facts_iter, and_true, true_and] at hF)
    by_cases h0 : (y4 : Int) = 0
    · rw [h0] at hF
      go_wp2_with fail
      refine bodyPost_ret (v := .tuple #[.int .i64 p4, .int .i64 1]) (by simp [results, Try.results85, go_sem, hF]) rfl ?_
      exact ⟨p4, 1, rfl, hpr.1, hpr.2, hA.pick (by with_reducible repeat (first | exact Picks.nil | refine Picks.cons (by with_reducible repeat (first | exact Sel.here | apply Sel.there)) ?_))⟩
    · have h12 : ¬ (y4 : Int) = 12 := by omega
      go_wp2_with fail
      refine bodyPost_ret (v := .tuple #[.int .i64 p4, .int .i64 0]) (by simp [results, Try.results85, go_sem, hF]) rfl ?_
      exact ⟨p4, 0, rfl, hpr.1, hpr.2, hA.pick (by with_reducible repeat (first | exact Picks.nil | refine Picks.cons (by with_reducible repeat (first | exact Sel.here | apply Sel.there)) ?_))⟩

/-! ### breakPatternsOrdered -/
abbrev rndC (b : Nat) (x : Int) : Part := .cells b [.int .u64 x] 133
theorem xor_nat (x y : Nat) (hx : x < 18446744073709551616) (hy : y < 18446744073709551616) : ∃ z : Nat, bits .xor .u64 (x : Int) (y : Int) = (z : Int) ∧ z < 18446744073709551616 :=
  ⟨_, bits_xor_u64_nat x y hx hy, Nat.xor_lt_two_pow (n := 64) (by omega) (by omega)⟩
theorem rnd_step {L0 F : List Part} {w W : World} {b y : Nat} (z : Nat) (h : At L0 w (rndC b y :: F) W) : At L0 w (rndC b z :: F) (W.setCell ⟨b, 0, none⟩ (.int .u64 z)) := h.store .here 0 (.int .u64 z)
theorem rnd_cell {L0 F : List Part} {w W : World} {b y : Nat} (h : At L0 w (rndC b y :: F) W) : W.cell? ⟨b, 0, none⟩ = some (.int .u64 y) ∧ W.frozen? ⟨b, 0, none⟩ = false :=
  ⟨(h.get (A := rndC b y) .here : BlockIs W b [.int .u64 y] 133).cell 0, (h.get (A := rndC b y) .here : BlockIs W b [.int .u64 y] 133).free 0⟩
def NextPost (w : World) (b : Nat) (x : Nat) (e : Ending) (w' : World) : Prop := ∃ y : Nat, e = .returned (.int .u64 y) ∧ y < 18446744073709551616 ∧ At [rndC b x] w [rndC b y] w'
set_option maxRecDepth 100000 in
theorem next_any {w : World} {b x : Nat} (h : Sep [rndC b x] w) (hx : x < 18446744073709551616) : Calls Try.prog 78 #[.pointer (some ⟨b, 0, none⟩)] w (NextPost w b x) := by
  obtain ⟨A, e1, lA⟩ := xor_nat x (x * 8192 % 18446744073709551616) hx (by omega)
  obtain ⟨B, e2, lB⟩ := xor_nat A (A / 128) lA (by omega)
  obtain ⟨C, e3, lC⟩ := xor_nat B (B * 131072 % 18446744073709551616) lB (by omega)
  have e1' : bits .xor .u64 (x : Int) (IntKind.u64.wrap ((x : Int) * 8192)) = (A : Int) := by rw [IntKind.wrap_u64, ← e1]; congr 1
  have e2' : bits .xor .u64 (A : Int) ((A : Int) / 128) = (B : Int) := by rw [← e2]; congr 1
  have e3' : bits .xor .u64 (B : Int) (IntKind.u64.wrap ((B : Int) * 131072)) = (C : Int) := by rw [IntKind.wrap_u64, ← e3]; congr 1
  clear e1 e2 e3
  have hA := At.start h
  clear h
  obtain ⟨k1, f1⟩ := rnd_cell hA
  go_enter Try.func78, Try.ntmps78
  go_wp2_with fail
  go_region
  have hB := (rnd_step A hA).drew
  clear hA k1 f1
  have hA := hB
  clear hB
  generalize World.drew (World.setCell _ _ _) = wz at *
  obtain ⟨k1, f1⟩ := rnd_cell hA
  go_wp2_with fail
  go_region
  have hB := (rnd_step B hA).drew
  clear hA k1 f1
  have hA := hB
  clear hB
  generalize World.drew (World.setCell _ _ _) = wz at *
  obtain ⟨k1, f1⟩ := rnd_cell hA
  go_wp2_with fail
  go_region
  have hB := (rnd_step C hA).drew
  clear hA k1 f1
  have hA := hB
  clear hB
  generalize World.drew (World.setCell _ _ _) = wz at *
  obtain ⟨k1, f1⟩ := rnd_cell hA
  go_wp2_with fail
  go_ret
  exact ⟨C, rfl, lC, hA⟩
theorem bitLen_le (x : Nat) (h : x < 2 ^ 64) : 2 ^ Lib.bitLen x ≤ 2 * x + 1 ∧ (x < 4611686018427387904 → Lib.bitLen x ≤ 62) := by
  have key : ∀ n x, x < n → x < 2 ^ 64 → 2 ^ Lib.bitLen x ≤ 2 * x + 1 ∧ (0 < x → 2 ^ Lib.bitLen x ≤ 2 * x) := by
    intro n
    induction n with
    | zero => intro x h; omega
    | succ n ih =>
      intro x h1 h2
      by_cases h0 : x = 0
      · subst h0; exact ⟨by decide, by omega⟩
      · have := ih (x / 2) (by omega) (by omega)
        have e : 2 ^ Lib.bitLen x = 2 * 2 ^ Lib.bitLen (x / 2) := by rw [Lib.bitLen_half x h0 h2, Nat.pow_add]
        by_cases h3 : x / 2 = 0
        · rw [h3] at e
          have e0 : 2 ^ Lib.bitLen 0 = 1 := by decide
          rw [e0] at e
          omega
        · have := this.2 (by omega)
          omega
  have k1 := (key (x + 1) x (by omega) h).1
  refine ⟨k1, fun h2 => ?_⟩
  rcases Nat.lt_or_ge 62 (Lib.bitLen x) with q | q
  · have h3 : 2 ^ 63 ≤ 2 ^ Lib.bitLen x := Nat.pow_le_pow_right (by decide) q
    have k2 := (key (x + 1) x (by omega) h).2
    rcases Nat.eq_zero_or_pos x with h0 | h0
    · subst h0; simp at k1; omega
    · have := k2 h0; omega
  · exact q
theorem wrap_pow (k : Nat) (hk : k ≤ 62) : IntKind.u64.wrap ((2 : Int) ^ k) = ((2 ^ k : Nat) : Int) := by
  have h : (2 : Nat) ^ k ≤ 2 ^ 62 := Nat.pow_le_pow_right (by decide) hk
  rw [IntKind.wrap_u64, show ((2 : Int) ^ k) = ((2 ^ k : Nat) : Int) by push_cast; rfl]
  generalize (2 : Nat) ^ k = p at h
  omega
set_option maxRecDepth 100000 in
theorem npow_any (n : Nat) (hn : n < 4611686018427387904) (w : World) : Calls Try.prog 77 #[.int .i64 n] w fun e w' => e = .returned (.int .u64 ((2 ^ Lib.bitLen n : Nat) : Int)) ∧ w' = w := by
  have hLen : ∀ w, Calls Try.prog 55 #[.int .u64 (n : Int)] w fun e w' => e = .returned (.int .i64 (Lib.bitLen n : Nat)) ∧ w' = w := fun w => by
    have h := Try.bits_Len (n : Int) w (by omega) (by omega)
    rwa [Int.toNat_natCast] at h
  have hk := (bitLen_le n (by omega)).2 hn
  have hp : IntKind.u64.wrap ((2 : Int) ^ min (Lib.bitLen n) 64) = ((2 ^ Lib.bitLen n : Nat) : Int) := by rw [Nat.min_eq_left (by omega)]; exact wrap_pow (Lib.bitLen n) hk
  go_enter Try.func77, Try.ntmps77
  go_wp2_with (first | (go_at_call 55; refine (hLen _).mono ?_; rintro e w' ⟨rfl, rfl⟩))
  go_ret
  exact ⟨congrArg (fun x => Ending.returned (.int .u64 x)) (wrap_pow (Lib.bitLen n) hk), rfl⟩
def BrkPost (w : World) (g : Nat) (d : Array Int) (r : List Value) (a b : Nat) (e : Ending) (w' : World) : Prop := ∃ d', e = .returned (.tuple #[]) ∧ PermIn a b d d' ∧ At [blkU g d r] w [blkU g d' r] w'
def BrkRel (w : World) (g : Nat) (d : Array Int) (r : List Value) (a b t bR : Nat) (k : Nat) (u : Value) (wr : World) : Prop :=
  ∃ (i y : Nat) (dk : Array Int), u = .int .i64 i ∧ t ≤ i + 1 ∧ i + k = t + 2 ∧ y < 18446744073709551616 ∧ PermIn a b d dk ∧ At [blkU g d r] w [rndC bR y, blkU g dk r] wr
set_option maxRecDepth 100000 in
set_option maxHeartbeats 4000000 in
theorem break_any {w : World} {g cap n : Nat} {d : Array Int} {r : List Value} (h : Sep [blkU g d r] w) (hn : d.size = n) {a b : Nat} (hab : a + 12 < b) (hb : b ≤ d.size) (hsz : d.size < 4611686018427387904) :
    Calls Try.prog 84 #[.slice (some ⟨g, 0, none⟩) n cap, .int .i64 a, .int .i64 b] w (BrkPost w g d r a b) := by
  have hA := At.start h
  have hF := hA.facts
  clear h
  obtain ⟨l, hl⟩ : ∃ l, b - a = l := ⟨_, rfl⟩
  have el : (b : Int) - (a : Int) = (l : Int) := by omega
  obtain ⟨q, hq⟩ : ∃ q, l / 4 = q := ⟨_, rfl⟩
  have eq : (l : Int) / 4 = (q : Int) := by omega
  obtain ⟨t, ht⟩ : ∃ t, a + q * 2 = t := ⟨_, rfl⟩
  have et : (a : Int) + (q : Int) * 2 = (t : Int) := by omega
  have h8 : (8 : Int) ≤ (l : Int) := by omega
  obtain ⟨M, hM⟩ : ∃ M, 2 ^ Lib.bitLen l = M := ⟨_, rfl⟩
  have hM2 : M ≤ 2 * l + 1 ∧ 1 ≤ M := by rw [← hM]; exact ⟨(bitLen_le l (by omega)).1, Nat.one_le_two_pow⟩
  have hlw : IntKind.u64.wrap (l : Int) = (l : Int) := by rw [IntKind.wrap_u64]; omega
  have hM1 : M ≤ 2 * l := by
    have h2 : 2 ^ Lib.bitLen l = 2 * 2 ^ Lib.bitLen (l / 2) := by rw [Lib.bitLen_half l (by omega) (by omega), Nat.pow_add]
    omega
  have hM' := Lib.hid hM
  have hr := Lib.hid (show a + 2 ≤ t ∧ t + 2 ≤ b ∧ l = b - a by omega)
  clear hM hl hq ht
  go_enter Try.func84, Try.ntmps84
  go_wp2_with (first | (refine wpList_alloc_at (E := 133) (z := .int .u64 0) (vs := [.int .u64 0]) rfl rfl (by kernel_rfl) rfl hA ?_; intro bR w1 hB hbR; clear hF hA; have hA := hB; clear hB; (try simp only [setL, List.set_cons_zero, List.set_cons_succ, List.cons_append, List.nil_append] at hA); (have hF := hA.facts); (try simp only [facts_cons, facts_nil, facts_cells, facts_old, facts_fact, facts_obj, facts_map, facts_iter, and_true, true_and] at hF)) | (refine wpList_store_at rfl rfl rfl (by (try simp only [Act.eval, Array.getD_eq_getD_getElem?, List.getElem?_toArray, List.getElem?_cons_succ, List.getElem?_cons_zero, Option.getD_some]) <;> exact rfl) (by exact rfl) hA (by with_reducible repeat (first | exact Sel.here | apply Sel.there)) (by kernel_rfl) rfl (by first | decide | (simp; done) | omega) ?_; intro w1 hB; clear hF hA; have hA := hB; clear hB; (try simp only [setL, List.set_cons_zero, List.set_cons_succ, List.cons_append, List.nil_append] at hA); (have hF := hA.facts); (try simp only [facts_cons, facts_nil, facts_cells, facts_old, facts_fact, facts_obj, facts_map, facts_iter, and_true, true_and] at hF)) | (refine wpList_box_at rfl rfl (by (try simp only [Act.eval, Array.getD_eq_getD_getElem?, List.getElem?_toArray, List.getElem?_cons_succ, List.getElem?_cons_zero, Option.getD_some]) <;> exact rfl) (by exact rfl) hA ?_; intro b1 w1 hB hb1; clear hF hA; have hA := hB; clear hB; (try simp only [setL, List.set_cons_zero, List.set_cons_succ, List.cons_append, List.nil_append] at hA); (have hF := hA.facts); (try simp only [facts_cons, facts_nil, facts_cells, facts_old, facts_fact, facts_obj, facts_map, facts_iter, and_true, true_and] at hF)))
  refine (npow_any l (by omega) _).mono ?_
  rintro e _ ⟨rfl, rfl⟩
  rw [hM'.out]
  go_wp2_with fail
  go_loopg [9] 3 (BrkRel w g d r a b t bR)
  case atStart => exact ⟨t - 1, l, d, by have := hr.out; congr 1; omega, by omega, by have := hr.out; omega, by omega, Sort.permIn_refl d a b, hA⟩
  case round =>
    obtain ⟨i, y, dk, rfl, hi1, hik, hy, hp, hB⟩ := hrel
    have hp' := Lib.hid hp
    have hdk : dk.size = d.size := hp.1
    clear hF hA hp
    have hA := hB
    clear hB
    have hF := hA.facts
    (try simp only [setL, List.set_cons_zero, List.set_cons_succ, List.cons_append, List.nil_append] at hA); (have hF := hA.facts); (try simp only [facts_cons, facts_nil, facts_cells, facts_old, facts_fact, facts_obj, facts_map, facts_iter, and_true, true_and] at hF)
    rcases Nat.eq_zero_or_pos gk with h0 | hpos
    · subst h0
      go_wp2_with fail
      go_end0
      exact ⟨dk, rfl, hp'.out, hA.pick (by with_reducible repeat (first | exact Picks.nil | refine Picks.cons (by with_reducible repeat (first | exact Sel.here | apply Sel.there)) ?_))⟩
    · have hle : (i : Int) ≤ (t : Int) + 1 := by omega
      go_wp2_with fail
      refine (next_any (hA.sep1 .here) hy).mono ?_
      rintro e w1 ⟨z, rfl, hz, hT⟩
      have hB := hA.call1 .here hT
      clear hF hA hT
      have hA := hB
      clear hB
      simp only [List.cons_append, List.nil_append] at hA
      have hF := hA.facts
      (try simp only [setL, List.set_cons_zero, List.set_cons_succ, List.cons_append, List.nil_append] at hA); (have hF := hA.facts); (try simp only [facts_cons, facts_nil, facts_cells, facts_old, facts_fact, facts_obj, facts_map, facts_iter, and_true, true_and] at hF)
      obtain ⟨O, hO⟩ : ∃ O : Nat, O = z &&& (M - 1) := ⟨_, rfl⟩
      have lO : O ≤ M - 1 := by rw [hO]; exact Nat.and_le_right
      have eAnd : bits .and .u64 (z : Int) ((M : Int) - 1) = (O : Int) := by
        rw [show ((M : Int) - 1) = ((M - 1 : Nat) : Int) by omega, bits_and_u64_nat _ _ hz (by omega), hO]
      clear hO
      by_cases hge : (l : Int) ≤ (O : Int)
      · obtain ⟨p, hpp⟩ : ∃ p, a + (O - l) = p := ⟨_, rfl⟩
        have ep : (a : Int) + ((O : Int) - (l : Int)) = (p : Int) := by omega
        have hpb := Lib.hid (show a ≤ p ∧ p < b by have := hr.out; omega)
        clear hpp
        by_cases hip : i = p
        · subst hip
          go_wp2_with fail
          have hA := hA.pick (K := [blkU g dk r, rndC bR z]) (by with_reducible repeat (first | exact Picks.nil | refine Picks.cons (by with_reducible repeat (first | exact Sel.here | apply Sel.there)) ?_))
          have hbb := hpb.out
          (try clear hF); (have k1 := at_cell hA .here (i := i) (by omega)); (have k2 := at_cell hA .here (i := i) (by omega)); (have f1 := at_free hA .here (i)); (have f2 := at_free hA .here (i)); go_region; (have hB := (at_swp hA .here (i := i) (j := i) (by omega) (by omega)).drew); (clear k1 k2 f1 f2 hA); (have hA := hB); (clear hB); (generalize World.drew (World.setCell _ _ _) = wz at *)
          go_wp2_with fail
          go_roundg (gk - 1)
          case measure => omega
          case rel => exact ⟨i + 1, z, swp dk i i, by simp, by omega, by omega, hz, Sort.permIn_trans _ _ _ a b hp'.out (Sort.swp_permIn dk a b i i hbb.1 hbb.2 hbb.1 hbb.2 (by omega)), hA.pick (by with_reducible repeat (first | exact Picks.nil | refine Picks.cons (by with_reducible repeat (first | exact Sel.here | apply Sel.there)) ?_))⟩
        · go_wp2_with fail
          have hA := hA.pick (K := [blkU g dk r, rndC bR z]) (by with_reducible repeat (first | exact Picks.nil | refine Picks.cons (by with_reducible repeat (first | exact Sel.here | apply Sel.there)) ?_))
          have hbb := hpb.out
          have hr1 := hr.out.1
          have hr2 := hr.out.2.1
          (try clear hF); (have k1 := at_cell hA .here (i := i) (by omega)); (have k2 := at_cell hA .here (i := p) (by omega)); (have f1 := at_free hA .here (i)); (have f2 := at_free hA .here (p)); go_region; (have hB := (at_swp hA .here (i := i) (j := p) (by omega) (by omega)).drew); (clear k1 k2 f1 f2 hA); (have hA := hB); (clear hB); (generalize World.drew (World.setCell _ _ _) = wz at *)
          go_wp2_with fail
          go_roundg (gk - 1)
          case measure => omega
          case rel => exact ⟨i + 1, z, swp dk i p, by simp, by omega, by omega, hz, Sort.permIn_trans _ _ _ a b hp'.out (Sort.swp_permIn dk a b i p (by omega) (by omega) hbb.1 hbb.2 (by omega)), hA.pick (by with_reducible repeat (first | exact Picks.nil | refine Picks.cons (by with_reducible repeat (first | exact Sel.here | apply Sel.there)) ?_))⟩
      · obtain ⟨p, hpp⟩ : ∃ p, a + O = p := ⟨_, rfl⟩
        have ep : (a : Int) + (O : Int) = (p : Int) := by omega
        have hpb := Lib.hid (show a ≤ p ∧ p < b by have := hr.out; omega)
        clear hpp
        by_cases hip : i = p
        · subst hip
          go_wp2_with fail
          have hA := hA.pick (K := [blkU g dk r, rndC bR z]) (by with_reducible repeat (first | exact Picks.nil | refine Picks.cons (by with_reducible repeat (first | exact Sel.here | apply Sel.there)) ?_))
          have hbb := hpb.out
          (try clear hF); (have k1 := at_cell hA .here (i := i) (by omega)); (have k2 := at_cell hA .here (i := i) (by omega)); (have f1 := at_free hA .here (i)); (have f2 := at_free hA .here (i)); go_region; (have hB := (at_swp hA .here (i := i) (j := i) (by omega) (by omega)).drew); (clear k1 k2 f1 f2 hA); (have hA := hB); (clear hB); (generalize World.drew (World.setCell _ _ _) = wz at *)
          go_wp2_with fail
          go_roundg (gk - 1)
          case measure => omega
          case rel => exact ⟨i + 1, z, swp dk i i, by simp, by omega, by omega, hz, Sort.permIn_trans _ _ _ a b hp'.out (Sort.swp_permIn dk a b i i hbb.1 hbb.2 hbb.1 hbb.2 (by omega)), hA.pick (by with_reducible repeat (first | exact Picks.nil | refine Picks.cons (by with_reducible repeat (first | exact Sel.here | apply Sel.there)) ?_))⟩
        · go_wp2_with fail
          have hA := hA.pick (K := [blkU g dk r, rndC bR z]) (by with_reducible repeat (first | exact Picks.nil | refine Picks.cons (by with_reducible repeat (first | exact Sel.here | apply Sel.there)) ?_))
          have hbb := hpb.out
          have hr1 := hr.out.1
          have hr2 := hr.out.2.1
          (try clear hF); (have k1 := at_cell hA .here (i := i) (by omega)); (have k2 := at_cell hA .here (i := p) (by omega)); (have f1 := at_free hA .here (i)); (have f2 := at_free hA .here (p)); go_region; (have hB := (at_swp hA .here (i := i) (j := p) (by omega) (by omega)).drew); (clear k1 k2 f1 f2 hA); (have hA := hB); (clear hB); (generalize World.drew (World.setCell _ _ _) = wz at *)
          go_wp2_with fail
          go_roundg (gk - 1)
          case measure => omega
          case rel => exact ⟨i + 1, z, swp dk i p, by simp, by omega, by omega, hz, Sort.permIn_trans _ _ _ a b hp'.out (Sort.swp_permIn dk a b i p (by omega) (by omega) hbb.1 hbb.2 (by omega)), hA.pick (by with_reducible repeat (first | exact Picks.nil | refine Picks.cons (by with_reducible repeat (first | exact Sel.here | apply Sel.there)) ?_))⟩
end Go.Proofs.Ytbdcgadcjgmgbaa.SortU
end

section
namespace Go.Proofs.Ytbdcgadcjgmgbaa.SortU
open Go.RowKit
open Go.Sort (swp ltInt scanUp scanDown partLoop partEqLoop)
set_option linter.unusedSimpArgs false
set_option linter.unusedVariables false

theorem scanUp_go {p : Int → Bool} {d : Array Int} {j i : Nat} (h : i ≤ j) (hp : p d[i]! = true) : scanUp p d j i = scanUp p d j (i + 1) := by rw [scanUp, if_pos (by simp [h, hp])]
theorem scanUp_stop {p : Int → Bool} {d : Array Int} {j i : Nat} (h : i ≤ j → p d[i]! = false) : scanUp p d j i = i := by
  rw [scanUp, if_neg]
  simp only [Bool.and_eq_true, decide_eq_true_eq, not_and, Bool.not_eq_true]
  exact h
theorem scanDown_go {p : Int → Bool} {d : Array Int} {i j : Nat} (h : i ≤ j + 1) (hp : p d[j + 1]! = true) : scanDown p d i (j + 1) = scanDown p d i j := by rw [scanDown, if_pos (by simp [h, hp])]
theorem scanDown_go' {p : Int → Bool} {d : Array Int} {i x y : Nat} (h : i ≤ x) (hx : x = y + 1) (hp : p d[x]! = true) : scanDown p d i x = scanDown p d i y := by subst hx; exact scanDown_go h hp
theorem scanDown_stop {p : Int → Bool} {d : Array Int} {i j : Nat} (h : i ≤ j → p d[j]! = false) : scanDown p d i j = j := by
  cases j with
  | zero => rfl
  | succ j =>
    rw [scanDown, if_neg]
    simp only [Bool.and_eq_true, decide_eq_true_eq, not_and, Bool.not_eq_true]
    exact h
def ScanU (L0 : List Part) (w : World) (g : Nat) (d : Array Int) (r : List Value) (p : Int → Bool) (i0 j : Nat) (k : Nat) (u : Value) (wr : World) : Prop :=
  ∃ i : Nat, u = .int .i64 i ∧ i0 ≤ i ∧ (i ≤ j + 1 ∨ i = i0) ∧ j + 1 - i ≤ k ∧ At L0 w [blkU g d r] wr ∧ scanUp p d j i = scanUp p d j i0
def ScanD (L0 : List Part) (w : World) (g : Nat) (d : Array Int) (r : List Value) (p : Int → Bool) (i j0 : Nat) (k : Nat) (u : Value) (wr : World) : Prop :=
  ∃ j : Nat, u = .int .i64 j ∧ j ≤ j0 ∧ (i ≤ j + 1 ∨ j = j0) ∧ j + 1 - i ≤ k ∧ At L0 w [blkU g d r] wr ∧ scanDown p d i j = scanDown p d i j0
def upF (lt : Int → Int → Bool) (d : Array Int) (a : Nat) : Int → Bool := fun x => lt x d[a]!
def ltP (d : Array Int) (a : Nat) : Int → Bool := fun x => ltInt x d[a]!
def geP (d : Array Int) (a : Nat) : Int → Bool := fun x => !ltInt x d[a]!
def leP (d : Array Int) (a : Nat) : Int → Bool := fun x => !ltInt d[a]! x
def gtP (d : Array Int) (a : Nat) : Int → Bool := fun x => ltInt d[a]! x
theorem partLoop_stop {a i j i2 j2 : Nat} {d : Array Int} (h1 : scanUp (ltP d a) d j i = i2) (h2 : scanDown (geP d a) d i2 j = j2) (h : j2 < i2) : partLoop ltInt a i j d = (j2, d) := by
  unfold ltP at h1; unfold geP at h2
  rw [partLoop]
  simp only [h1, h2]
  rw [if_pos h]
theorem partLoop_go {a i j i2 j2 : Nat} {d : Array Int} (h1 : scanUp (ltP d a) d j i = i2) (h2 : scanDown (geP d a) d i2 j = j2) (h : i2 ≤ j2) (hi : i ≤ i2) (hj : j2 ≤ j) : partLoop ltInt a i j d = partLoop ltInt a (i2 + 1) (j2 - 1) (swp d i2 j2) := by
  unfold ltP at h1; unfold geP at h2
  rw [partLoop]
  simp only [h1, h2]
  rw [if_neg (by omega), dif_pos (by omega)]
theorem partEq_stop {a i j i2 j2 : Nat} {d : Array Int} (h1 : scanUp (leP d a) d j i = i2) (h2 : scanDown (gtP d a) d i2 j = j2) (h : j2 < i2) : partEqLoop ltInt a i j d = (i2, d) := by
  unfold leP at h1; unfold gtP at h2
  rw [partEqLoop]
  simp only [h1, h2]
  rw [if_pos h]
theorem partEq_go {a i j i2 j2 : Nat} {d : Array Int} (h1 : scanUp (leP d a) d j i = i2) (h2 : scanDown (gtP d a) d i2 j = j2) (h : i2 ≤ j2) (hi : i ≤ i2) (hj : j2 ≤ j) : partEqLoop ltInt a i j d = partEqLoop ltInt a (i2 + 1) (j2 - 1) (swp d i2 j2) := by
  unfold leP at h1; unfold gtP at h2
  rw [partEqLoop]
  simp only [h1, h2]
  rw [if_neg (by omega), dif_pos (by omega)]
def PartPost (L0 : List Part) (w : World) (g : Nat) (d : Array Int) (r : List Value) (a b p : Nat) (e : Ending) (w' : World) : Prop :=
  e = .returned (.tuple #[.int .i64 (Sort.partition ltInt d a b p).1, .bool (Sort.partition ltInt d a b p).2.1]) ∧ At L0 w [blkU g (Sort.partition ltInt d a b p).2.2 r] w'
def PartRel (L0 : List Part) (w : World) (g : Nat) (d : Array Int) (r : List Value) (a B i0 j0 : Nat) (k : Nat) (u v : Value) (wr : World) : Prop :=
  ∃ (i j : Nat) (dk : Array Int), u = .int .i64 i ∧ v = .int .i64 j ∧ a + 1 ≤ i ∧ i ≤ B + 1 ∧ a ≤ j ∧ j ≤ B ∧ j + 1 - i ≤ k ∧ dk.size = d.size ∧ At L0 w [blkU g dk r] wr ∧ partLoop ltInt a i j dk = partLoop ltInt a i0 j0 d
set_option maxRecDepth 100000 in
set_option maxHeartbeats 8000000 in
theorem partition_any {w : World} {g cap n : Nat} {d0 : Array Int} {r : List Value} (h : Sep [blkU g d0 r] w) (hn : d0.size = n) {a b p : Nat} (hap : a ≤ p) (hpb : p < b) (hb : b ≤ d0.size) (hsz : d0.size < 4611686018427387904) :
    Calls Try.prog 90 #[.slice (some ⟨g, 0, none⟩) n cap, .int .i64 a, .int .i64 b, .int .i64 p] w (PartPost [blkU g d0 r] w g d0 r a b p) := by
  have hres := Lib.hid (show Sort.partition ltInt d0 a b p = (let d := swp d0 a p; let i := scanUp (ltP d a) d (b - 1) (a + 1); let j := scanDown (geP d a) d i (b - 1); if i > j then (j, true, swp d j a) else (let q := partLoop ltInt a (i + 1) (j - 1) (swp d i j); (q.1, false, swp q.2 q.1 a))) from rfl)
  obtain ⟨L0, hL0, hA⟩ : ∃ L0, L0 = [blkU g d0 r] ∧ At L0 w [blkU g d0 r] w := ⟨_, rfl, At.start h⟩
  rw [← hL0]
  clear h hL0
  obtain ⟨B, hBb⟩ : ∃ B, b = B + 1 := ⟨b - 1, by omega⟩
  have eB : (b : Int) - 1 = (B : Int) := by omega
  have gB1 : b ≤ B + 1 := by omega
  have gB2 : B + 1 ≤ b := by omega
  have hBb' := Lib.hid (show b - 1 = B by omega)
  clear hBb
  obtain ⟨A1, hA1⟩ : ∃ A1, a + 1 = A1 := ⟨_, rfl⟩
  have eA1 : (a : Int) + 1 = (A1 : Int) := by omega
  have hA1' := Lib.hid hA1
  have gA1 : a + 1 ≤ A1 ∧ A1 ≤ a + 1 := by omega
  obtain ⟨gA, gA'⟩ := gA1
  clear hA1
  go_enter Try.func90, Try.ntmps90
  go_upto_region 1 with fail
  go_cut [0] from 12 to 25 (fun u wc => u = .slice (some ⟨g, 0, none⟩) n cap ∧ At L0 w [blkU g (swp d0 a p) r] wc)
  case first =>
    by_cases hxy : a = p
    · subst hxy
      (try clear hF); (have k1 := at_cell hA .here (i := a) (by omega)); (have k2 := at_cell hA .here (i := a) (by omega)); (have f1 := at_free hA .here (a)); (have f2 := at_free hA .here (a)); go_region; (have hB := (at_swp hA .here (i := a) (j := a) (by omega) (by omega)).drew); (clear k1 k2 f1 f2 hA); (have hA := hB); (clear hB); (generalize World.drew (World.setCell _ _ _) = wz at *)
      go_wp2_with fail
      go_meet
      case rel => exact ⟨rfl, hA⟩
    · (try clear hF); (have k1 := at_cell hA .here (i := a) (by omega)); (have k2 := at_cell hA .here (i := p) (by omega)); (have f1 := at_free hA .here (a)); (have f2 := at_free hA .here (p)); go_region; (have hB := (at_swp hA .here (i := a) (j := p) (by omega) (by omega)).drew); (clear k1 k2 f1 f2 hA); (have hA := hB); (clear hB); (generalize World.drew (World.setCell _ _ _) = wz at *)
      go_wp2_with fail
      go_meet
      case rel => exact ⟨rfl, hA⟩
  case rest =>
    obtain ⟨rfl, hB⟩ := hcut
    clear hA
    have hA := hB
    clear hB
    obtain ⟨d1, hd1⟩ : ∃ z, swp d0 a p = z := ⟨_, rfl⟩
    rw [hd1] at hA
    have d1s : d1.size = d0.size := by rw [← hd1]; exact swp_size _ _ _
    have hd1' := Lib.hid hd1
    clear hd1
    go_upto_block 0 with fail
    go_cut [10] from 30 to 45 (fun u wc => ∃ q : Nat, u = .int .i64 q ∧ A1 ≤ q ∧ (q ≤ B + 1 ∨ q = A1) ∧ scanUp (ltP d1 a) d1 B A1 = q ∧ At L0 w [blkU g d1 r] wc)
    case first =>
      go_wp2_with fail
      go_loopg [10] (B + 1 - A1) (ScanU L0 w g d1 r (ltP d1 a) A1 B)
      case atStart => exact ⟨A1, by first | rfl | simp, Nat.le_refl _, .inr rfl, Nat.le_refl _, hA, rfl⟩
      case round =>
        obtain ⟨x, rfl, hx1, hx2, hk, hB, hO⟩ := hrel
        have hO' := Lib.hid hO
        clear hA hO
        have hA := hB
        clear hB
        have hF := hA.facts
        have ea := rowC_at (d := d1) (r := r) (i := a) (by omega)
        (try simp only [setL, List.set_cons_zero, List.set_cons_succ, List.cons_append, List.nil_append] at hA); (have hF := hA.facts); (try simp only [facts_cons, facts_nil, facts_cells, facts_old, facts_fact, facts_obj, facts_map, facts_iter, and_true, true_and] at hF)
        by_cases hc : x ≤ B
        · have hg : decide ((x : Int) ≤ ((B : Nat) : Int)) = true := by simp; omega
          have ex := rowC_at (d := d1) (r := r) (i := x) (by omega)
          cases hl : ltU (atU d1 x) (atU d1 a)
          · have hs := Lib.hid (scanUp_stop (p := ltP d1 a) (d := d1) (j := B) (fun _ => (show ltP d1 a d1[x]! = false from by unfold ltP; simpa [ltU, atU] using hl)))
            have hl' := Lib.hid hl
            clear hl
            go_wp2_with fail
            (refine wp_region_all (Cl _ _ _) (by kernel_rfl) (by kernel_rfl) (Cl.drew hA) ?_); (have hn1 := Cl.none hA); (have hn2 := Cl.none2 hA); (repeat (first | go_big_quiet_skip | (go_big_quiet_want; (first | (refine quiet_load_at rfl rfl (by with_reducible repeat (first | exact Sel.here | apply Sel.there)) (by kernel_rfl) (by first | assumption | exact rfl) ?_; go_frame; go_big_quiet_on) | (go_big_quiet_op; (first | go_big_quiet_on | ((apply Exists.intro); (refine ⟨fun w1 hw => ?_, ?_⟩); (focus ((have hw := Cl.out hw); (exact less_in hw _ _ hl'.out))); (go_big_quiet_on))))))))
            (refine wpQuiet_nil ?_); (intro w1 hB); (clear hF hA hn1 hn2); (have hA := Cl.out hB); (clear hB); (try simp only [setL, List.set_cons_zero, List.set_cons_succ, List.cons_append, List.nil_append] at hA); (have hF := hA.facts); (try simp only [facts_cons, facts_nil, facts_cells, facts_old, facts_fact, facts_obj, facts_map, facts_iter, and_true, true_and] at hF)
            go_wp2_with fail
            go_meet
            case rel => exact ⟨x, rfl, by omega, by omega, by rw [← hO'.out, hs.out], hA⟩
          · have hs := Lib.hid (scanUp_go (p := ltP d1 a) (d := d1) (j := B) hc (show ltP d1 a d1[x]! = true from by unfold ltP; simpa [ltU, atU] using hl))
            have hl' := Lib.hid hl
            clear hl
            go_wp2_with fail
            (refine wp_region_all (Cl _ _ _) (by kernel_rfl) (by kernel_rfl) (Cl.drew hA) ?_); (have hn1 := Cl.none hA); (have hn2 := Cl.none2 hA); (repeat (first | go_big_quiet_skip | (go_big_quiet_want; (first | (refine quiet_load_at rfl rfl (by with_reducible repeat (first | exact Sel.here | apply Sel.there)) (by kernel_rfl) (by first | assumption | exact rfl) ?_; go_frame; go_big_quiet_on) | (go_big_quiet_op; (first | go_big_quiet_on | ((apply Exists.intro); (refine ⟨fun w1 hw => ?_, ?_⟩); (focus ((have hw := Cl.out hw); (exact less_in hw _ _ hl'.out))); (go_big_quiet_on))))))))
            (refine wpQuiet_nil ?_); (intro w1 hB); (clear hF hA hn1 hn2); (have hA := Cl.out hB); (clear hB); (try simp only [setL, List.set_cons_zero, List.set_cons_succ, List.cons_append, List.nil_append] at hA); (have hF := hA.facts); (try simp only [facts_cons, facts_nil, facts_cells, facts_old, facts_fact, facts_obj, facts_map, facts_iter, and_true, true_and] at hF)
            go_wp2_with fail
            go_roundg (gk - 1)
            case measure => omega
            case rel => exact ⟨x + 1, by simp, by omega, by omega, by omega, hA, by rw [← hO'.out, hs.out]⟩
        · have hg : decide ((x : Int) ≤ ((B : Nat) : Int)) = false := by simp; omega
          have hs := Lib.hid (scanUp_stop (p := ltP d1 a) (d := d1) (j := B) (i := x) (fun h => absurd h hc))
          go_wp2_with fail
          (refine wp_region_all (Cl _ _ _) (by kernel_rfl) (by kernel_rfl) (Cl.drew hA) ?_); (have hn1 := Cl.none hA); (have hn2 := Cl.none2 hA); (repeat (first | go_big_quiet_skip | (go_big_quiet_want; (first | (refine quiet_load_at rfl rfl (by with_reducible repeat (first | exact Sel.here | apply Sel.there)) (by kernel_rfl) (by first | assumption | exact rfl) ?_; go_frame; go_big_quiet_on) | (go_big_quiet_op; (first | go_big_quiet_on | ((apply Exists.intro); (refine ⟨fun w1 hw => ?_, ?_⟩); (focus ((have hw := Cl.out hw); (fail))); (go_big_quiet_on))))))))
          (refine wpQuiet_nil ?_); (intro w1 hB); (clear hF hA hn1 hn2); (have hA := Cl.out hB); (clear hB); (try simp only [setL, List.set_cons_zero, List.set_cons_succ, List.cons_append, List.nil_append] at hA); (have hF := hA.facts); (try simp only [facts_cons, facts_nil, facts_cells, facts_old, facts_fact, facts_obj, facts_map, facts_iter, and_true, true_and] at hF)
          go_wp2_with fail
          go_meet
          case rel => exact ⟨x, rfl, by omega, by omega, by rw [← hO'.out, hs.out], hA⟩
    case rest =>
      obtain ⟨i2, rfl, i21, i22, i23, hB⟩ := hcut
      clear hA
      have hA := hB
      clear hB
      have i24 := Lib.hid i23
      clear i23
      go_upto_block 2 with fail
      go_cut [11] from 46 to 62 (fun u wc => ∃ q : Nat, u = .int .i64 q ∧ q ≤ B ∧ (i2 ≤ q + 1 ∨ q = B) ∧ scanDown (geP d1 a) d1 i2 B = q ∧ At L0 w [blkU g d1 r] wc)
      case first =>
        go_wp2_with fail
        go_loopg [11] (B + 1 - i2) (ScanD L0 w g d1 r (geP d1 a) i2 B)
        case atStart => exact ⟨B, by first | rfl | simp, Nat.le_refl _, .inr rfl, Nat.le_refl _, hA, rfl⟩
        case round =>
          obtain ⟨x, rfl, hx1, hx2, hk, hB, hO⟩ := hrel
          have hO' := Lib.hid hO
          clear hA hO
          have hA := hB
          clear hB
          have hF := hA.facts
          have ea := rowC_at (d := d1) (r := r) (i := a) (by omega)
          (try simp only [setL, List.set_cons_zero, List.set_cons_succ, List.cons_append, List.nil_append] at hA); (have hF := hA.facts); (try simp only [facts_cons, facts_nil, facts_cells, facts_old, facts_fact, facts_obj, facts_map, facts_iter, and_true, true_and] at hF)
          by_cases hc : i2 ≤ x
          · have hg : decide (((i2 : Nat) : Int) ≤ (x : Int)) = true := by simp; omega
            obtain ⟨y, hy⟩ : ∃ y, x = y + 1 := ⟨x - 1, by omega⟩
            have ey : (x : Int) - 1 = (y : Int) := by omega
            have gy1 : x ≤ y + 1 := by omega
            have gy2 : y + 1 ≤ x := by omega
            have hy' := Lib.hid hy
            clear hy
            have ex := rowC_at (d := d1) (r := r) (i := x) (by omega)
            cases hl : ltU (atU d1 x) (atU d1 a)
            · have hs := Lib.hid (scanDown_go' (p := geP d1 a) (d := d1) (i := i2) hc hy'.out (show geP d1 a d1[x]! = true from by unfold geP; simpa [ltU, atU] using hl))
              have hl' := Lib.hid hl
              clear hl
              go_wp2_with fail
              (refine wp_region_all (Cl _ _ _) (by kernel_rfl) (by kernel_rfl) (Cl.drew hA) ?_); (have hn1 := Cl.none hA); (have hn2 := Cl.none2 hA); (repeat (first | go_big_quiet_skip | (go_big_quiet_want; (first | (refine quiet_load_at rfl rfl (by with_reducible repeat (first | exact Sel.here | apply Sel.there)) (by kernel_rfl) (by first | assumption | exact rfl) ?_; go_frame; go_big_quiet_on) | (go_big_quiet_op; (first | go_big_quiet_on | ((apply Exists.intro); (refine ⟨fun w1 hw => ?_, ?_⟩); (focus ((have hw := Cl.out hw); (exact less_in hw _ _ hl'.out))); (go_big_quiet_on))))))))
              (refine wpQuiet_nil ?_); (intro w1 hB); (clear hF hA hn1 hn2); (have hA := Cl.out hB); (clear hB); (try simp only [setL, List.set_cons_zero, List.set_cons_succ, List.cons_append, List.nil_append] at hA); (have hF := hA.facts); (try simp only [facts_cons, facts_nil, facts_cells, facts_old, facts_fact, facts_obj, facts_map, facts_iter, and_true, true_and] at hF)
              go_wp2_with fail
              go_roundg (gk - 1)
              case measure => omega
              case rel => exact ⟨y, by first | rfl | simp, by omega, by omega, by omega, hA, by rw [← hO'.out, hs.out]⟩
            · have hs := Lib.hid (scanDown_stop (p := geP d1 a) (d := d1) (i := i2) (fun _ => (show geP d1 a d1[x]! = false from by unfold geP; simpa [ltU, atU] using hl)))
              have hl' := Lib.hid hl
              clear hl
              go_wp2_with fail
              (refine wp_region_all (Cl _ _ _) (by kernel_rfl) (by kernel_rfl) (Cl.drew hA) ?_); (have hn1 := Cl.none hA); (have hn2 := Cl.none2 hA); (repeat (first | go_big_quiet_skip | (go_big_quiet_want; (first | (refine quiet_load_at rfl rfl (by with_reducible repeat (first | exact Sel.here | apply Sel.there)) (by kernel_rfl) (by first | assumption | exact rfl) ?_; go_frame; go_big_quiet_on) | (go_big_quiet_op; (first | go_big_quiet_on | ((apply Exists.intro); (refine ⟨fun w1 hw => ?_, ?_⟩); (focus ((have hw := Cl.out hw); (exact less_in hw _ _ hl'.out))); (go_big_quiet_on))))))))
              (refine wpQuiet_nil ?_); (intro w1 hB); (clear hF hA hn1 hn2); (have hA := Cl.out hB); (clear hB); (try simp only [setL, List.set_cons_zero, List.set_cons_succ, List.cons_append, List.nil_append] at hA); (have hF := hA.facts); (try simp only [facts_cons, facts_nil, facts_cells, facts_old, facts_fact, facts_obj, facts_map, facts_iter, and_true, true_and] at hF)
              go_wp2_with fail
              go_meet
              case rel => exact ⟨x, rfl, by omega, by omega, by rw [← hO'.out, hs.out], hA⟩
          · have hg : decide (((i2 : Nat) : Int) ≤ (x : Int)) = false := by simp; omega
            have hs := Lib.hid (scanDown_stop (p := geP d1 a) (d := d1) (i := i2) (j := x) (fun h => absurd h hc))
            go_wp2_with fail
            (refine wp_region_all (Cl _ _ _) (by kernel_rfl) (by kernel_rfl) (Cl.drew hA) ?_); (have hn1 := Cl.none hA); (have hn2 := Cl.none2 hA); (repeat (first | go_big_quiet_skip | (go_big_quiet_want; (first | (refine quiet_load_at rfl rfl (by with_reducible repeat (first | exact Sel.here | apply Sel.there)) (by kernel_rfl) (by first | assumption | exact rfl) ?_; go_frame; go_big_quiet_on) | (go_big_quiet_op; (first | go_big_quiet_on | ((apply Exists.intro); (refine ⟨fun w1 hw => ?_, ?_⟩); (focus ((have hw := Cl.out hw); (fail))); (go_big_quiet_on))))))))
            (refine wpQuiet_nil ?_); (intro w1 hB); (clear hF hA hn1 hn2); (have hA := Cl.out hB); (clear hB); (try simp only [setL, List.set_cons_zero, List.set_cons_succ, List.cons_append, List.nil_append] at hA); (have hF := hA.facts); (try simp only [facts_cons, facts_nil, facts_cells, facts_old, facts_fact, facts_obj, facts_map, facts_iter, and_true, true_and] at hF)
            go_wp2_with fail
            go_meet
            case rel => exact ⟨x, rfl, by omega, by omega, by rw [← hO'.out, hs.out], hA⟩
      case rest =>
        obtain ⟨j2, rfl, j21, j22, j23, hB⟩ := hcut
        clear hA
        have hA := hB
        clear hB
        have j24 := Lib.hid j23
        clear j23
        by_cases hij : j2 < i2
        · go_upto_region 8 with fail
          go_cut [0] from 12 to 94 (fun u wc => u = .slice (some ⟨g, 0, none⟩) n cap ∧ At L0 w [blkU g (swp d1 j2 a) r] wc)
          case first =>
            by_cases hxy : j2 = a
            · subst hxy
              (try clear hF); (have k1 := at_cell hA .here (i := j2) (by omega)); (have k2 := at_cell hA .here (i := j2) (by omega)); (have f1 := at_free hA .here (j2)); (have f2 := at_free hA .here (j2)); go_region; (have hB := (at_swp hA .here (i := j2) (j := j2) (by omega) (by omega)).drew); (clear k1 k2 f1 f2 hA); (have hA := hB); (clear hB); (generalize World.drew (World.setCell _ _ _) = wz at *)
              go_wp2_with fail
              go_meet
              case rel => exact ⟨rfl, hA⟩
            · (try clear hF); (have k1 := at_cell hA .here (i := j2) (by omega)); (have k2 := at_cell hA .here (i := a) (by omega)); (have f1 := at_free hA .here (j2)); (have f2 := at_free hA .here (a)); go_region; (have hB := (at_swp hA .here (i := j2) (j := a) (by omega) (by omega)).drew); (clear k1 k2 f1 f2 hA); (have hA := hB); (clear hB); (generalize World.drew (World.setCell _ _ _) = wz at *)
              go_wp2_with fail
              go_meet
              case rel => exact ⟨rfl, hA⟩
          case rest =>
            obtain ⟨rfl, hB⟩ := hcut
            clear hA
            have hA := hB
            clear hB
            obtain ⟨d2, hd2⟩ : ∃ z, swp d1 j2 a = z := ⟨_, rfl⟩
            rw [hd2] at hA
            have d2s : d2.size = d1.size := by rw [← hd2]; exact swp_size _ _ _
            have hd2' := Lib.hid hd2
            clear hd2
            have hp := Lib.hid (show Sort.partition ltInt d0 a b p = (j2, true, d2) by rw [hres.out]; simp only [hd1'.out, hBb'.out, hA1'.out, i24.out, j24.out]; rw [if_pos hij, hd2'.out])
            go_wp2_with fail
            refine bodyPost_ret (v := .tuple #[.int .i64 j2, .bool true]) (by simp [results, Try.results90, go_sem]) rfl ?_
            unfold PartPost
            rw [hp.out]
            exact ⟨rfl, hA⟩
        · have hle : i2 ≤ j2 := by omega
          clear hij
          go_upto_region 10 with fail
          go_cut [0] from 12 to 94 (fun u wc => u = .slice (some ⟨g, 0, none⟩) n cap ∧ At L0 w [blkU g (swp d1 i2 j2) r] wc)
          case first =>
            by_cases hxy : i2 = j2
            · subst hxy
              (try clear hF); (have k1 := at_cell hA .here (i := i2) (by omega)); (have k2 := at_cell hA .here (i := i2) (by omega)); (have f1 := at_free hA .here (i2)); (have f2 := at_free hA .here (i2)); go_region; (have hB := (at_swp hA .here (i := i2) (j := i2) (by omega) (by omega)).drew); (clear k1 k2 f1 f2 hA); (have hA := hB); (clear hB); (generalize World.drew (World.setCell _ _ _) = wz at *)
              go_wp2_with fail
              go_meet
              case rel => exact ⟨rfl, hA⟩
            · (try clear hF); (have k1 := at_cell hA .here (i := i2) (by omega)); (have k2 := at_cell hA .here (i := j2) (by omega)); (have f1 := at_free hA .here (i2)); (have f2 := at_free hA .here (j2)); go_region; (have hB := (at_swp hA .here (i := i2) (j := j2) (by omega) (by omega)).drew); (clear k1 k2 f1 f2 hA); (have hA := hB); (clear hB); (generalize World.drew (World.setCell _ _ _) = wz at *)
              go_wp2_with fail
              go_meet
              case rel => exact ⟨rfl, hA⟩
          case rest =>
            obtain ⟨rfl, hB⟩ := hcut
            clear hA
            have hA := hB
            clear hB
            obtain ⟨d2, hd2⟩ : ∃ z, swp d1 i2 j2 = z := ⟨_, rfl⟩
            rw [hd2] at hA
            have d2s : d2.size = d1.size := by rw [← hd2]; exact swp_size _ _ _
            have hd2' := Lib.hid hd2
            clear hd2
            obtain ⟨i3, hi3⟩ : ∃ i3, i2 + 1 = i3 := ⟨_, rfl⟩
            obtain ⟨j3, hj3⟩ : ∃ j3, j2 - 1 = j3 := ⟨_, rfl⟩
            have ei3 : (i2 : Int) + 1 = (i3 : Int) := by omega
            have ej3 : (j2 : Int) - 1 = (j3 : Int) := by omega
            have hi3' := Lib.hid hi3
            have hj3' := Lib.hid hj3
            have gi3 : A1 + 1 ≤ i3 := by omega
            have gi4 : i3 ≤ B + 1 := by omega
            have gj3 : a ≤ j3 := by omega
            have gj4 : j3 ≤ B := by omega
            clear hi3 hj3
            go_upto_block 4 with fail
            go_cut [10, 11] from 99 to 152 (fun u v wc => ∃ (q : Nat) (dq : Array Int), v = .int .i64 q ∧ a ≤ q ∧ q ≤ B ∧ dq.size = d0.size ∧ partLoop ltInt a i3 j3 d2 = (q, dq) ∧ At L0 w [blkU g dq r] wc)
            case first =>
              go_wp2_with fail
              go_loopg [10, 11] (j3 + 1 - i3) (PartRel L0 w g d2 r a B i3 j3)
              case atStart => exact ⟨i3, j3, d2, rfl, rfl, by omega, by omega, by omega, by omega, Nat.le_refl _, rfl, hA, rfl⟩
              case round =>
                obtain ⟨i, j, dk, rfl, rfl, hi1, hi2, hj1, hj2, hk, hsk, hB, hO⟩ := hrel
                have hO' := Lib.hid hO
                clear hA hO
                have hA := hB
                clear hB
                go_upto_block 6 with fail
                go_cut [10] from 99 to 114 (fun u wc => ∃ q : Nat, u = .int .i64 q ∧ i ≤ q ∧ (q ≤ j + 1 ∨ q = i) ∧ scanUp (ltP dk a) dk j i = q ∧ At L0 w [blkU g dk r] wc)
                case first =>
                  go_wp2_with fail
                  go_loopg [10] (j + 1 - i) (ScanU L0 w g dk r (ltP dk a) i j)
                  case atStart => exact ⟨i, by first | rfl | simp, Nat.le_refl _, .inr rfl, Nat.le_refl _, hA, rfl⟩
                  case round =>
                    obtain ⟨x, rfl, hx1, hx2, hk, hB, hO⟩ := hrel
                    have hO' := Lib.hid hO
                    clear hA hO
                    have hA := hB
                    clear hB
                    have hF := hA.facts
                    have ea := rowC_at (d := dk) (r := r) (i := a) (by omega)
                    (try simp only [setL, List.set_cons_zero, List.set_cons_succ, List.cons_append, List.nil_append] at hA); (have hF := hA.facts); (try simp only [facts_cons, facts_nil, facts_cells, facts_old, facts_fact, facts_obj, facts_map, facts_iter, and_true, true_and] at hF)
                    by_cases hc : x ≤ j
                    · have hg : decide ((x : Int) ≤ ((j : Nat) : Int)) = true := by simp; omega
                      have ex := rowC_at (d := dk) (r := r) (i := x) (by omega)
                      cases hl : ltU (atU dk x) (atU dk a)
                      · have hs := Lib.hid (scanUp_stop (p := ltP dk a) (d := dk) (j := j) (fun _ => (show ltP dk a dk[x]! = false from by unfold ltP; simpa [ltU, atU] using hl)))
                        have hl' := Lib.hid hl
                        clear hl
                        go_wp2_with fail
                        (refine wp_region_all (Cl _ _ _) (by kernel_rfl) (by kernel_rfl) (Cl.drew hA) ?_); (have hn1 := Cl.none hA); (have hn2 := Cl.none2 hA); (repeat (first | go_big_quiet_skip | (go_big_quiet_want; (first | (refine quiet_load_at rfl rfl (by with_reducible repeat (first | exact Sel.here | apply Sel.there)) (by kernel_rfl) (by first | assumption | exact rfl) ?_; go_frame; go_big_quiet_on) | (go_big_quiet_op; (first | go_big_quiet_on | ((apply Exists.intro); (refine ⟨fun w1 hw => ?_, ?_⟩); (focus ((have hw := Cl.out hw); (exact less_in hw _ _ hl'.out))); (go_big_quiet_on))))))))
                        (refine wpQuiet_nil ?_); (intro w1 hB); (clear hF hA hn1 hn2); (have hA := Cl.out hB); (clear hB); (try simp only [setL, List.set_cons_zero, List.set_cons_succ, List.cons_append, List.nil_append] at hA); (have hF := hA.facts); (try simp only [facts_cons, facts_nil, facts_cells, facts_old, facts_fact, facts_obj, facts_map, facts_iter, and_true, true_and] at hF)
                        go_wp2_with fail
                        go_meet
                        case rel => exact ⟨x, rfl, by omega, by omega, by rw [← hO'.out, hs.out], hA⟩
                      · have hs := Lib.hid (scanUp_go (p := ltP dk a) (d := dk) (j := j) hc (show ltP dk a dk[x]! = true from by unfold ltP; simpa [ltU, atU] using hl))
                        have hl' := Lib.hid hl
                        clear hl
                        go_wp2_with fail
                        (refine wp_region_all (Cl _ _ _) (by kernel_rfl) (by kernel_rfl) (Cl.drew hA) ?_); (have hn1 := Cl.none hA); (have hn2 := Cl.none2 hA); (repeat (first | go_big_quiet_skip | (go_big_quiet_want; (first | (refine quiet_load_at rfl rfl (by with_reducible repeat (first | exact Sel.here | apply Sel.there)) (by kernel_rfl) (by first | assumption | exact rfl) ?_; go_frame; go_big_quiet_on) | (go_big_quiet_op; (first | go_big_quiet_on | ((apply Exists.intro); (refine ⟨fun w1 hw => ?_, ?_⟩); (focus ((have hw := Cl.out hw); (exact less_in hw _ _ hl'.out))); (go_big_quiet_on))))))))
                        (refine wpQuiet_nil ?_); (intro w1 hB); (clear hF hA hn1 hn2); (have hA := Cl.out hB); (clear hB); (try simp only [setL, List.set_cons_zero, List.set_cons_succ, List.cons_append, List.nil_append] at hA); (have hF := hA.facts); (try simp only [facts_cons, facts_nil, facts_cells, facts_old, facts_fact, facts_obj, facts_map, facts_iter, and_true, true_and] at hF)
                        go_wp2_with fail
                        go_roundg (gk - 1)
                        case measure => omega
                        case rel => exact ⟨x + 1, by simp, by omega, by omega, by omega, hA, by rw [← hO'.out, hs.out]⟩
                    · have hg : decide ((x : Int) ≤ ((j : Nat) : Int)) = false := by simp; omega
                      have hs := Lib.hid (scanUp_stop (p := ltP dk a) (d := dk) (j := j) (i := x) (fun h => absurd h hc))
                      go_wp2_with fail
                      (refine wp_region_all (Cl _ _ _) (by kernel_rfl) (by kernel_rfl) (Cl.drew hA) ?_); (have hn1 := Cl.none hA); (have hn2 := Cl.none2 hA); (repeat (first | go_big_quiet_skip | (go_big_quiet_want; (first | (refine quiet_load_at rfl rfl (by with_reducible repeat (first | exact Sel.here | apply Sel.there)) (by kernel_rfl) (by first | assumption | exact rfl) ?_; go_frame; go_big_quiet_on) | (go_big_quiet_op; (first | go_big_quiet_on | ((apply Exists.intro); (refine ⟨fun w1 hw => ?_, ?_⟩); (focus ((have hw := Cl.out hw); (fail))); (go_big_quiet_on))))))))
                      (refine wpQuiet_nil ?_); (intro w1 hB); (clear hF hA hn1 hn2); (have hA := Cl.out hB); (clear hB); (try simp only [setL, List.set_cons_zero, List.set_cons_succ, List.cons_append, List.nil_append] at hA); (have hF := hA.facts); (try simp only [facts_cons, facts_nil, facts_cells, facts_old, facts_fact, facts_obj, facts_map, facts_iter, and_true, true_and] at hF)
                      go_wp2_with fail
                      go_meet
                      case rel => exact ⟨x, rfl, by omega, by omega, by rw [← hO'.out, hs.out], hA⟩
                case rest =>
                  obtain ⟨i4, rfl, i41, i42, i43, hB⟩ := hcut
                  clear hA
                  have hA := hB
                  clear hB
                  have i44 := Lib.hid i43
                  clear i43
                  go_upto_block 8 with fail
                  go_cut [11] from 115 to 131 (fun u wc => ∃ q : Nat, u = .int .i64 q ∧ q ≤ j ∧ (i4 ≤ q + 1 ∨ q = j) ∧ scanDown (geP dk a) dk i4 j = q ∧ At L0 w [blkU g dk r] wc)
                  case first =>
                    go_wp2_with fail
                    go_loopg [11] (j + 1 - i4) (ScanD L0 w g dk r (geP dk a) i4 j)
                    case atStart => exact ⟨j, by first | rfl | simp, Nat.le_refl _, .inr rfl, Nat.le_refl _, hA, rfl⟩
                    case round =>
                      obtain ⟨x, rfl, hx1, hx2, hk, hB, hO⟩ := hrel
                      have hO' := Lib.hid hO
                      clear hA hO
                      have hA := hB
                      clear hB
                      have hF := hA.facts
                      have ea := rowC_at (d := dk) (r := r) (i := a) (by omega)
                      (try simp only [setL, List.set_cons_zero, List.set_cons_succ, List.cons_append, List.nil_append] at hA); (have hF := hA.facts); (try simp only [facts_cons, facts_nil, facts_cells, facts_old, facts_fact, facts_obj, facts_map, facts_iter, and_true, true_and] at hF)
                      by_cases hc : i4 ≤ x
                      · have hg : decide (((i4 : Nat) : Int) ≤ (x : Int)) = true := by simp; omega
                        obtain ⟨y, hy⟩ : ∃ y, x = y + 1 := ⟨x - 1, by omega⟩
                        have ey : (x : Int) - 1 = (y : Int) := by omega
                        have gy1 : x ≤ y + 1 := by omega
                        have gy2 : y + 1 ≤ x := by omega
                        have hy' := Lib.hid hy
                        clear hy
                        have ex := rowC_at (d := dk) (r := r) (i := x) (by omega)
                        cases hl : ltU (atU dk x) (atU dk a)
                        · have hs := Lib.hid (scanDown_go' (p := geP dk a) (d := dk) (i := i4) hc hy'.out (show geP dk a dk[x]! = true from by unfold geP; simpa [ltU, atU] using hl))
                          have hl' := Lib.hid hl
                          clear hl
                          go_wp2_with fail
                          (refine wp_region_all (Cl _ _ _) (by kernel_rfl) (by kernel_rfl) (Cl.drew hA) ?_); (have hn1 := Cl.none hA); (have hn2 := Cl.none2 hA); (repeat (first | go_big_quiet_skip | (go_big_quiet_want; (first | (refine quiet_load_at rfl rfl (by with_reducible repeat (first | exact Sel.here | apply Sel.there)) (by kernel_rfl) (by first | assumption | exact rfl) ?_; go_frame; go_big_quiet_on) | (go_big_quiet_op; (first | go_big_quiet_on | ((apply Exists.intro); (refine ⟨fun w1 hw => ?_, ?_⟩); (focus ((have hw := Cl.out hw); (exact less_in hw _ _ hl'.out))); (go_big_quiet_on))))))))
                          (refine wpQuiet_nil ?_); (intro w1 hB); (clear hF hA hn1 hn2); (have hA := Cl.out hB); (clear hB); (try simp only [setL, List.set_cons_zero, List.set_cons_succ, List.cons_append, List.nil_append] at hA); (have hF := hA.facts); (try simp only [facts_cons, facts_nil, facts_cells, facts_old, facts_fact, facts_obj, facts_map, facts_iter, and_true, true_and] at hF)
                          go_wp2_with fail
                          go_roundg (gk - 1)
                          case measure => omega
                          case rel => exact ⟨y, by first | rfl | simp, by omega, by omega, by omega, hA, by rw [← hO'.out, hs.out]⟩
                        · have hs := Lib.hid (scanDown_stop (p := geP dk a) (d := dk) (i := i4) (fun _ => (show geP dk a dk[x]! = false from by unfold geP; simpa [ltU, atU] using hl)))
                          have hl' := Lib.hid hl
                          clear hl
                          go_wp2_with fail
                          (refine wp_region_all (Cl _ _ _) (by kernel_rfl) (by kernel_rfl) (Cl.drew hA) ?_); (have hn1 := Cl.none hA); (have hn2 := Cl.none2 hA); (repeat (first | go_big_quiet_skip | (go_big_quiet_want; (first | (refine quiet_load_at rfl rfl (by with_reducible repeat (first | exact Sel.here | apply Sel.there)) (by kernel_rfl) (by first | assumption | exact rfl) ?_; go_frame; go_big_quiet_on) | (go_big_quiet_op; (first | go_big_quiet_on | ((apply Exists.intro); (refine ⟨fun w1 hw => ?_, ?_⟩); (focus ((have hw := Cl.out hw); (exact less_in hw _ _ hl'.out))); (go_big_quiet_on))))))))
                          (refine wpQuiet_nil ?_); (intro w1 hB); (clear hF hA hn1 hn2); (have hA := Cl.out hB); (clear hB); (try simp only [setL, List.set_cons_zero, List.set_cons_succ, List.cons_append, List.nil_append] at hA); (have hF := hA.facts); (try simp only [facts_cons, facts_nil, facts_cells, facts_old, facts_fact, facts_obj, facts_map, facts_iter, and_true, true_and] at hF)
                          go_wp2_with fail
                          go_meet
                          case rel => exact ⟨x, rfl, by omega, by omega, by rw [← hO'.out, hs.out], hA⟩
                      · have hg : decide (((i4 : Nat) : Int) ≤ (x : Int)) = false := by simp; omega
                        have hs := Lib.hid (scanDown_stop (p := geP dk a) (d := dk) (i := i4) (j := x) (fun h => absurd h hc))
                        go_wp2_with fail
                        (refine wp_region_all (Cl _ _ _) (by kernel_rfl) (by kernel_rfl) (Cl.drew hA) ?_); (have hn1 := Cl.none hA); (have hn2 := Cl.none2 hA); (repeat (first | go_big_quiet_skip | (go_big_quiet_want; (first | (refine quiet_load_at rfl rfl (by with_reducible repeat (first | exact Sel.here | apply Sel.there)) (by kernel_rfl) (by first | assumption | exact rfl) ?_; go_frame; go_big_quiet_on) | (go_big_quiet_op; (first | go_big_quiet_on | ((apply Exists.intro); (refine ⟨fun w1 hw => ?_, ?_⟩); (focus ((have hw := Cl.out hw); (fail))); (go_big_quiet_on))))))))
                        (refine wpQuiet_nil ?_); (intro w1 hB); (clear hF hA hn1 hn2); (have hA := Cl.out hB); (clear hB); (try simp only [setL, List.set_cons_zero, List.set_cons_succ, List.cons_append, List.nil_append] at hA); (have hF := hA.facts); (try simp only [facts_cons, facts_nil, facts_cells, facts_old, facts_fact, facts_obj, facts_map, facts_iter, and_true, true_and] at hF)
                        go_wp2_with fail
                        go_meet
                        case rel => exact ⟨x, rfl, by omega, by omega, by rw [← hO'.out, hs.out], hA⟩
                  case rest =>
                    obtain ⟨j4, rfl, j41, j42, j43, hB⟩ := hcut
                    clear hA
                    have hA := hB
                    clear hB
                    have j44 := Lib.hid j43
                    clear j43
                    by_cases hij : j4 < i4
                    · have hs := Lib.hid (partLoop_stop i44.out j44.out hij)
                      go_wp2_with fail
                      go_meet
                      case rel => exact ⟨j4, dk, rfl, by omega, by omega, by omega, by rw [← hO'.out, hs.out], hA⟩
                    · have hle2 : i4 ≤ j4 := by omega
                      have hs := Lib.hid (partLoop_go i44.out j44.out hle2 (by omega) (by omega))
                      clear hij
                      go_upto_region 18 with fail
                      go_cut [0] from 99 to 152 (fun u wc => u = .slice (some ⟨g, 0, none⟩) n cap ∧ At L0 w [blkU g (swp dk i4 j4) r] wc)
                      case first =>
                        by_cases hxy : i4 = j4
                        · subst hxy
                          (try clear hF); (have k1 := at_cell hA .here (i := i4) (by omega)); (have k2 := at_cell hA .here (i := i4) (by omega)); (have f1 := at_free hA .here (i4)); (have f2 := at_free hA .here (i4)); go_region; (have hB := (at_swp hA .here (i := i4) (j := i4) (by omega) (by omega)).drew); (clear k1 k2 f1 f2 hA); (have hA := hB); (clear hB); (generalize World.drew (World.setCell _ _ _) = wz at *)
                          go_wp2_with fail
                          go_meet
                          case rel => exact ⟨rfl, hA⟩
                        · (try clear hF); (have k1 := at_cell hA .here (i := i4) (by omega)); (have k2 := at_cell hA .here (i := j4) (by omega)); (have f1 := at_free hA .here (i4)); (have f2 := at_free hA .here (j4)); go_region; (have hB := (at_swp hA .here (i := i4) (j := j4) (by omega) (by omega)).drew); (clear k1 k2 f1 f2 hA); (have hA := hB); (clear hB); (generalize World.drew (World.setCell _ _ _) = wz at *)
                          go_wp2_with fail
                          go_meet
                          case rel => exact ⟨rfl, hA⟩
                      case rest =>
                        obtain ⟨rfl, hB⟩ := hcut
                        clear hA
                        have hA := hB
                        clear hB
                        obtain ⟨d5, hd5⟩ : ∃ z, swp dk i4 j4 = z := ⟨_, rfl⟩
                        rw [hd5] at hA
                        have d5s : d5.size = dk.size := by rw [← hd5]; exact swp_size _ _ _
                        have hd5' := Lib.hid hd5
                        clear hd5
                        go_wp2_with fail
                        go_roundg (j4 - 1 + 1 - (i4 + 1))
                        case measure => omega
                        case rel => exact ⟨i4 + 1, j4 - 1, d5, by simp, by congr 1; omega, by omega, by omega, by omega, by omega, Nat.le_refl _, by omega, hA, by rw [← hO'.out, hs.out, hd5'.out]⟩
            case rest =>
              obtain ⟨q, dq, rfl, hq1, hq2, hqs, hq3, hB⟩ := hcut
              clear hA
              have hA := hB
              clear hB
              have hq4 := Lib.hid hq3
              clear hq3
              go_upto_region 21 with fail
              go_cut [0] from 12 to 166 (fun u wc => u = .slice (some ⟨g, 0, none⟩) n cap ∧ At L0 w [blkU g (swp dq q a) r] wc)
              case first =>
                by_cases hxy : q = a
                · subst hxy
                  (try clear hF); (have k1 := at_cell hA .here (i := q) (by omega)); (have k2 := at_cell hA .here (i := q) (by omega)); (have f1 := at_free hA .here (q)); (have f2 := at_free hA .here (q)); go_region; (have hB := (at_swp hA .here (i := q) (j := q) (by omega) (by omega)).drew); (clear k1 k2 f1 f2 hA); (have hA := hB); (clear hB); (generalize World.drew (World.setCell _ _ _) = wz at *)
                  go_wp2_with fail
                  go_meet
                  case rel => exact ⟨rfl, hA⟩
                · (try clear hF); (have k1 := at_cell hA .here (i := q) (by omega)); (have k2 := at_cell hA .here (i := a) (by omega)); (have f1 := at_free hA .here (q)); (have f2 := at_free hA .here (a)); go_region; (have hB := (at_swp hA .here (i := q) (j := a) (by omega) (by omega)).drew); (clear k1 k2 f1 f2 hA); (have hA := hB); (clear hB); (generalize World.drew (World.setCell _ _ _) = wz at *)
                  go_wp2_with fail
                  go_meet
                  case rel => exact ⟨rfl, hA⟩
              case rest =>
                obtain ⟨rfl, hB⟩ := hcut
                clear hA
                have hA := hB
                clear hB
                obtain ⟨d6, hd6⟩ : ∃ z, swp dq q a = z := ⟨_, rfl⟩
                rw [hd6] at hA
                have d6s : d6.size = dq.size := by rw [← hd6]; exact swp_size _ _ _
                have hd6' := Lib.hid hd6
                clear hd6
                have hp := Lib.hid (show Sort.partition ltInt d0 a b p = (q, false, d6) by rw [hres.out]; simp only [hd1'.out, hBb'.out, hA1'.out, i24.out, j24.out]; rw [if_neg (by omega)]; simp only [hd2'.out, hi3'.out, hj3'.out, hq4.out, hd6'.out])
                go_wp2_with fail
                refine bodyPost_ret (v := .tuple #[.int .i64 q, .bool false]) (by simp [results, Try.results90, go_sem]) rfl ?_
                unfold PartPost
                rw [hp.out]
                exact ⟨rfl, hA⟩
end Go.Proofs.Ytbdcgadcjgmgbaa.SortU
end

section
namespace Go.Proofs.Ytbdcgadcjgmgbaa.SortU
open Go.RowKit
open Go.Sort (swp ltInt scanUp scanDown partLoop partEqLoop)
set_option linter.unusedSimpArgs false
set_option linter.unusedVariables false

def PartEqRel (L0 : List Part) (w : World) (g : Nat) (d : Array Int) (r : List Value) (a B i0 j0 : Nat) (k : Nat) (u v : Value) (wr : World) : Prop :=
  ∃ (i j : Nat) (dk : Array Int), u = .int .i64 i ∧ v = .int .i64 j ∧ a + 1 ≤ i ∧ i ≤ B + 1 ∧ a ≤ j ∧ j ≤ B ∧ j + 1 - i ≤ k ∧ dk.size = d.size ∧ At L0 w [blkU g dk r] wr ∧ partEqLoop ltInt a i j dk = partEqLoop ltInt a i0 j0 d
def PartEqPost (L0 : List Part) (w : World) (g : Nat) (d : Array Int) (r : List Value) (a b p : Nat) (e : Ending) (w' : World) : Prop :=
  e = .returned (.int .i64 (Sort.partitionEqual ltInt d a b p).1) ∧ At L0 w [blkU g (Sort.partitionEqual ltInt d a b p).2 r] w'
set_option maxRecDepth 100000 in
set_option maxHeartbeats 8000000 in
theorem partitionEqual_any {w : World} {g cap n : Nat} {d0 : Array Int} {r : List Value} (h : Sep [blkU g d0 r] w) (hn : d0.size = n) {a b p : Nat} (hap : a ≤ p) (hpb : p < b) (hb : b ≤ d0.size) (hsz : d0.size < 4611686018427387904) :
    Calls Try.prog 89 #[.slice (some ⟨g, 0, none⟩) n cap, .int .i64 a, .int .i64 b, .int .i64 p] w (PartEqPost [blkU g d0 r] w g d0 r a b p) := by
  have hres := Lib.hid (show Sort.partitionEqual ltInt d0 a b p = partEqLoop ltInt a (a + 1) (b - 1) (swp d0 a p) from rfl)
  obtain ⟨L0, hL0, hA⟩ : ∃ L0, L0 = [blkU g d0 r] ∧ At L0 w [blkU g d0 r] w := ⟨_, rfl, At.start h⟩
  rw [← hL0]
  clear h hL0
  obtain ⟨B, hBb⟩ : ∃ B, b = B + 1 := ⟨b - 1, by omega⟩
  have eB : (b : Int) - 1 = (B : Int) := by omega
  have gB1 : b ≤ B + 1 := by omega
  have gB2 : B + 1 ≤ b := by omega
  have hBb' := Lib.hid (show b - 1 = B by omega)
  clear hBb
  obtain ⟨A1, hA1⟩ : ∃ A1, a + 1 = A1 := ⟨_, rfl⟩
  have eA1 : (a : Int) + 1 = (A1 : Int) := by omega
  have hA1' := Lib.hid hA1
  have gA1 : a + 1 ≤ A1 ∧ A1 ≤ a + 1 := by omega
  obtain ⟨gA, gA'⟩ := gA1
  clear hA1
  go_enter Try.func89, Try.ntmps89
  go_upto_region 1 with fail
  go_cut [0] from 11 to 24 (fun u wc => u = .slice (some ⟨g, 0, none⟩) n cap ∧ At L0 w [blkU g (swp d0 a p) r] wc)
  case first =>
    by_cases hxy : a = p
    · subst hxy
      (try clear hF); (have k1 := at_cell hA .here (i := a) (by omega)); (have k2 := at_cell hA .here (i := a) (by omega)); (have f1 := at_free hA .here (a)); (have f2 := at_free hA .here (a)); go_region; (have hB := (at_swp hA .here (i := a) (j := a) (by omega) (by omega)).drew); (clear k1 k2 f1 f2 hA); (have hA := hB); (clear hB); (generalize World.drew (World.setCell _ _ _) = wz at *)
      go_wp2_with fail
      go_meet
      case rel => exact ⟨rfl, hA⟩
    · (try clear hF); (have k1 := at_cell hA .here (i := a) (by omega)); (have k2 := at_cell hA .here (i := p) (by omega)); (have f1 := at_free hA .here (a)); (have f2 := at_free hA .here (p)); go_region; (have hB := (at_swp hA .here (i := a) (j := p) (by omega) (by omega)).drew); (clear k1 k2 f1 f2 hA); (have hA := hB); (clear hB); (generalize World.drew (World.setCell _ _ _) = wz at *)
      go_wp2_with fail
      go_meet
      case rel => exact ⟨rfl, hA⟩
  case rest =>
    obtain ⟨rfl, hB⟩ := hcut
    clear hA
    have hA := hB
    clear hB
    obtain ⟨d1, hd1⟩ : ∃ z, swp d0 a p = z := ⟨_, rfl⟩
    rw [hd1] at hA
    have d1s : d1.size = d0.size := by rw [← hd1]; exact swp_size _ _ _
    have hd1' := Lib.hid hd1
    clear hd1
    go_upto_block 0 with fail
    go_cut [9, 10] from 29 to 82 (fun u v wc => ∃ (q : Nat) (dq : Array Int), u = .int .i64 q ∧ partEqLoop ltInt a A1 B d1 = (q, dq) ∧ At L0 w [blkU g dq r] wc)
    case first =>
      go_wp2_with fail
      go_loopg [9, 10] (B + 1 - A1) (PartEqRel L0 w g d1 r a B A1 B)
      case atStart => exact ⟨A1, B, d1, rfl, rfl, by omega, by omega, by omega, by omega, Nat.le_refl _, rfl, hA, rfl⟩
      case round =>
        obtain ⟨i, j, dk, rfl, rfl, hi1, hi2, hj1, hj2, hk, hsk, hB, hO⟩ := hrel
        have hO' := Lib.hid hO
        clear hA hO
        have hA := hB
        clear hB
        go_upto_block 2 with fail
        go_cut [9] from 29 to 45 (fun u wc => ∃ q : Nat, u = .int .i64 q ∧ i ≤ q ∧ (q ≤ j + 1 ∨ q = i) ∧ scanUp (leP dk a) dk j i = q ∧ At L0 w [blkU g dk r] wc)
        case first =>
          go_wp2_with fail
          go_loopg [9] (j + 1 - i) (ScanU L0 w g dk r (leP dk a) i j)
          case atStart => exact ⟨i, by first | rfl | simp, Nat.le_refl _, .inr rfl, Nat.le_refl _, hA, rfl⟩
          case round =>
            obtain ⟨x, rfl, hx1, hx2, hk, hB, hO⟩ := hrel
            have hO' := Lib.hid hO
            clear hA hO
            have hA := hB
            clear hB
            have hF := hA.facts
            have ea := rowC_at (d := dk) (r := r) (i := a) (by omega)
            (try simp only [setL, List.set_cons_zero, List.set_cons_succ, List.cons_append, List.nil_append] at hA); (have hF := hA.facts); (try simp only [facts_cons, facts_nil, facts_cells, facts_old, facts_fact, facts_obj, facts_map, facts_iter, and_true, true_and] at hF)
            by_cases hc : x ≤ j
            · have hg : decide ((x : Int) ≤ ((j : Nat) : Int)) = true := by simp; omega
              have ex := rowC_at (d := dk) (r := r) (i := x) (by omega)
              cases hl : ltU (atU dk a) (atU dk x)
              · have hs := Lib.hid (scanUp_go (p := leP dk a) (d := dk) (j := j) hc (show leP dk a dk[x]! = true from by unfold leP; simpa [ltU, atU] using hl))
                have hl' := Lib.hid hl
                clear hl
                go_wp2_with fail
                (refine wp_region_all (Cl _ _ _) (by kernel_rfl) (by kernel_rfl) (Cl.drew hA) ?_); (have hn1 := Cl.none hA); (have hn2 := Cl.none2 hA); (repeat (first | go_big_quiet_skip | (go_big_quiet_want; (first | (refine quiet_load_at rfl rfl (by with_reducible repeat (first | exact Sel.here | apply Sel.there)) (by kernel_rfl) (by first | assumption | exact rfl) ?_; go_frame; go_big_quiet_on) | (go_big_quiet_op; (first | go_big_quiet_on | ((apply Exists.intro); (refine ⟨fun w1 hw => ?_, ?_⟩); (focus ((have hw := Cl.out hw); (exact less_in hw _ _ hl'.out))); (go_big_quiet_on))))))))
                (refine wpQuiet_nil ?_); (intro w1 hB); (clear hF hA hn1 hn2); (have hA := Cl.out hB); (clear hB); (try simp only [setL, List.set_cons_zero, List.set_cons_succ, List.cons_append, List.nil_append] at hA); (have hF := hA.facts); (try simp only [facts_cons, facts_nil, facts_cells, facts_old, facts_fact, facts_obj, facts_map, facts_iter, and_true, true_and] at hF)
                go_wp2_with fail
                go_roundg (gk - 1)
                case measure => omega
                case rel => exact ⟨x + 1, by simp, by omega, by omega, by omega, hA, by rw [← hO'.out, hs.out]⟩
              · have hs := Lib.hid (scanUp_stop (p := leP dk a) (d := dk) (j := j) (fun _ => (show leP dk a dk[x]! = false from by unfold leP; simpa [ltU, atU] using hl)))
                have hl' := Lib.hid hl
                clear hl
                go_wp2_with fail
                (refine wp_region_all (Cl _ _ _) (by kernel_rfl) (by kernel_rfl) (Cl.drew hA) ?_); (have hn1 := Cl.none hA); (have hn2 := Cl.none2 hA); (repeat (first | go_big_quiet_skip | (go_big_quiet_want; (first | (refine quiet_load_at rfl rfl (by with_reducible repeat (first | exact Sel.here | apply Sel.there)) (by kernel_rfl) (by first | assumption | exact rfl) ?_; go_frame; go_big_quiet_on) | (go_big_quiet_op; (first | go_big_quiet_on | ((apply Exists.intro); (refine ⟨fun w1 hw => ?_, ?_⟩); (focus ((have hw := Cl.out hw); (exact less_in hw _ _ hl'.out))); (go_big_quiet_on))))))))
                (refine wpQuiet_nil ?_); (intro w1 hB); (clear hF hA hn1 hn2); (have hA := Cl.out hB); (clear hB); (try simp only [setL, List.set_cons_zero, List.set_cons_succ, List.cons_append, List.nil_append] at hA); (have hF := hA.facts); (try simp only [facts_cons, facts_nil, facts_cells, facts_old, facts_fact, facts_obj, facts_map, facts_iter, and_true, true_and] at hF)
                go_wp2_with fail
                go_meet
                case rel => exact ⟨x, rfl, by omega, by omega, by rw [← hO'.out, hs.out], hA⟩
            · have hg : decide ((x : Int) ≤ ((j : Nat) : Int)) = false := by simp; omega
              have hs := Lib.hid (scanUp_stop (p := leP dk a) (d := dk) (j := j) (i := x) (fun h => absurd h hc))
              go_wp2_with fail
              (refine wp_region_all (Cl _ _ _) (by kernel_rfl) (by kernel_rfl) (Cl.drew hA) ?_); (have hn1 := Cl.none hA); (have hn2 := Cl.none2 hA); (repeat (first | go_big_quiet_skip | (go_big_quiet_want; (first | (refine quiet_load_at rfl rfl (by with_reducible repeat (first | exact Sel.here | apply Sel.there)) (by kernel_rfl) (by first | assumption | exact rfl) ?_; go_frame; go_big_quiet_on) | (go_big_quiet_op; (first | go_big_quiet_on | ((apply Exists.intro); (refine ⟨fun w1 hw => ?_, ?_⟩); (focus ((have hw := Cl.out hw); (fail))); (go_big_quiet_on))))))))
              (refine wpQuiet_nil ?_); (intro w1 hB); (clear hF hA hn1 hn2); (have hA := Cl.out hB); (clear hB); (try simp only [setL, List.set_cons_zero, List.set_cons_succ, List.cons_append, List.nil_append] at hA); (have hF := hA.facts); (try simp only [facts_cons, facts_nil, facts_cells, facts_old, facts_fact, facts_obj, facts_map, facts_iter, and_true, true_and] at hF)
              go_wp2_with fail
              go_meet
              case rel => exact ⟨x, rfl, by omega, by omega, by rw [← hO'.out, hs.out], hA⟩
        case rest =>
          obtain ⟨i4, rfl, i41, i42, i43, hB⟩ := hcut
          clear hA
          have hA := hB
          clear hB
          have i44 := Lib.hid i43
          clear i43
          go_upto_block 4 with fail
          go_cut [10] from 46 to 61 (fun u wc => ∃ q : Nat, u = .int .i64 q ∧ q ≤ j ∧ (i4 ≤ q + 1 ∨ q = j) ∧ scanDown (gtP dk a) dk i4 j = q ∧ At L0 w [blkU g dk r] wc)
          case first =>
            go_wp2_with fail
            go_loopg [10] (j + 1 - i4) (ScanD L0 w g dk r (gtP dk a) i4 j)
            case atStart => exact ⟨j, by first | rfl | simp, Nat.le_refl _, .inr rfl, Nat.le_refl _, hA, rfl⟩
            case round =>
              obtain ⟨x, rfl, hx1, hx2, hk, hB, hO⟩ := hrel
              have hO' := Lib.hid hO
              clear hA hO
              have hA := hB
              clear hB
              have hF := hA.facts
              have ea := rowC_at (d := dk) (r := r) (i := a) (by omega)
              (try simp only [setL, List.set_cons_zero, List.set_cons_succ, List.cons_append, List.nil_append] at hA); (have hF := hA.facts); (try simp only [facts_cons, facts_nil, facts_cells, facts_old, facts_fact, facts_obj, facts_map, facts_iter, and_true, true_and] at hF)
              by_cases hc : i4 ≤ x
              · have hg : decide (((i4 : Nat) : Int) ≤ (x : Int)) = true := by simp; omega
                obtain ⟨y, hy⟩ : ∃ y, x = y + 1 := ⟨x - 1, by omega⟩
                have ey : (x : Int) - 1 = (y : Int) := by omega
                have gy1 : x ≤ y + 1 := by omega
                have gy2 : y + 1 ≤ x := by omega
                have hy' := Lib.hid hy
                clear hy
                have ex := rowC_at (d := dk) (r := r) (i := x) (by omega)
                cases hl : ltU (atU dk a) (atU dk x)
                · have hs := Lib.hid (scanDown_stop (p := gtP dk a) (d := dk) (i := i4) (fun _ => (show gtP dk a dk[x]! = false from by unfold gtP; simpa [ltU, atU] using hl)))
                  have hl' := Lib.hid hl
                  clear hl
                  go_wp2_with fail
                  (refine wp_region_all (Cl _ _ _) (by kernel_rfl) (by kernel_rfl) (Cl.drew hA) ?_); (have hn1 := Cl.none hA); (have hn2 := Cl.none2 hA); (repeat (first | go_big_quiet_skip | (go_big_quiet_want; (first | (refine quiet_load_at rfl rfl (by with_reducible repeat (first | exact Sel.here | apply Sel.there)) (by kernel_rfl) (by first | assumption | exact rfl) ?_; go_frame; go_big_quiet_on) | (go_big_quiet_op; (first | go_big_quiet_on | ((apply Exists.intro); (refine ⟨fun w1 hw => ?_, ?_⟩); (focus ((have hw := Cl.out hw); (exact less_in hw _ _ hl'.out))); (go_big_quiet_on))))))))
                  (refine wpQuiet_nil ?_); (intro w1 hB); (clear hF hA hn1 hn2); (have hA := Cl.out hB); (clear hB); (try simp only [setL, List.set_cons_zero, List.set_cons_succ, List.cons_append, List.nil_append] at hA); (have hF := hA.facts); (try simp only [facts_cons, facts_nil, facts_cells, facts_old, facts_fact, facts_obj, facts_map, facts_iter, and_true, true_and] at hF)
                  go_wp2_with fail
                  go_meet
                  case rel => exact ⟨x, rfl, by omega, by omega, by rw [← hO'.out, hs.out], hA⟩
                · have hs := Lib.hid (scanDown_go' (p := gtP dk a) (d := dk) (i := i4) hc hy'.out (show gtP dk a dk[x]! = true from by unfold gtP; simpa [ltU, atU] using hl))
                  have hl' := Lib.hid hl
                  clear hl
                  go_wp2_with fail
                  (refine wp_region_all (Cl _ _ _) (by kernel_rfl) (by kernel_rfl) (Cl.drew hA) ?_); (have hn1 := Cl.none hA); (have hn2 := Cl.none2 hA); (repeat (first | go_big_quiet_skip | (go_big_quiet_want; (first | (refine quiet_load_at rfl rfl (by with_reducible repeat (first | exact Sel.here | apply Sel.there)) (by kernel_rfl) (by first | assumption | exact rfl) ?_; go_frame; go_big_quiet_on) | (go_big_quiet_op; (first | go_big_quiet_on | ((apply Exists.intro); (refine ⟨fun w1 hw => ?_, ?_⟩); (focus ((have hw := Cl.out hw); (exact less_in hw _ _ hl'.out))); (go_big_quiet_on))))))))
                  (refine wpQuiet_nil ?_); (intro w1 hB); (clear hF hA hn1 hn2); (have hA := Cl.out hB); (clear hB); (try simp only [setL, List.set_cons_zero, List.set_cons_succ, List.cons_append, List.nil_append] at hA); (have hF := hA.facts); (try simp only [facts_cons, facts_nil, facts_cells, facts_old, facts_fact, facts_obj, facts_map, facts_iter, and_true, true_and] at hF)
                  go_wp2_with fail
                  go_roundg (gk - 1)
                  case measure => omega
                  case rel => exact ⟨y, by first | rfl | simp, by omega, by omega, by omega, hA, by rw [← hO'.out, hs.out]⟩
              · have hg : decide (((i4 : Nat) : Int) ≤ (x : Int)) = false := by simp; omega
                have hs := Lib.hid (scanDown_stop (p := gtP dk a) (d := dk) (i := i4) (j := x) (fun h => absurd h hc))
                go_wp2_with fail
                (refine wp_region_all (Cl _ _ _) (by kernel_rfl) (by kernel_rfl) (Cl.drew hA) ?_); (have hn1 := Cl.none hA); (have hn2 := Cl.none2 hA); (repeat (first | go_big_quiet_skip | (go_big_quiet_want; (first | (refine quiet_load_at rfl rfl (by with_reducible repeat (first | exact Sel.here | apply Sel.there)) (by kernel_rfl) (by first | assumption | exact rfl) ?_; go_frame; go_big_quiet_on) | (go_big_quiet_op; (first | go_big_quiet_on | ((apply Exists.intro); (refine ⟨fun w1 hw => ?_, ?_⟩); (focus ((have hw := Cl.out hw); (fail))); (go_big_quiet_on))))))))
                (refine wpQuiet_nil ?_); (intro w1 hB); (clear hF hA hn1 hn2); (have hA := Cl.out hB); (clear hB); (try simp only [setL, List.set_cons_zero, List.set_cons_succ, List.cons_append, List.nil_append] at hA); (have hF := hA.facts); (try simp only [facts_cons, facts_nil, facts_cells, facts_old, facts_fact, facts_obj, facts_map, facts_iter, and_true, true_and] at hF)
                go_wp2_with fail
                go_meet
                case rel => exact ⟨x, rfl, by omega, by omega, by rw [← hO'.out, hs.out], hA⟩
          case rest =>
            obtain ⟨j4, rfl, j41, j42, j43, hB⟩ := hcut
            clear hA
            have hA := hB
            clear hB
            have j44 := Lib.hid j43
            clear j43
            by_cases hij : j4 < i4
            · have hs := Lib.hid (partEq_stop i44.out j44.out hij)
              go_wp2_with fail
              go_meet
              case rel => exact ⟨i4, dk, rfl, by rw [← hO'.out, hs.out], hA⟩
            · have hle2 : i4 ≤ j4 := by omega
              have hs := Lib.hid (partEq_go i44.out j44.out hle2 (by omega) (by omega))
              clear hij
              go_upto_region 8 with fail
              go_cut [0] from 29 to 82 (fun u wc => u = .slice (some ⟨g, 0, none⟩) n cap ∧ At L0 w [blkU g (swp dk i4 j4) r] wc)
              case first =>
                by_cases hxy : i4 = j4
                · subst hxy
                  (try clear hF); (have k1 := at_cell hA .here (i := i4) (by omega)); (have k2 := at_cell hA .here (i := i4) (by omega)); (have f1 := at_free hA .here (i4)); (have f2 := at_free hA .here (i4)); go_region; (have hB := (at_swp hA .here (i := i4) (j := i4) (by omega) (by omega)).drew); (clear k1 k2 f1 f2 hA); (have hA := hB); (clear hB); (generalize World.drew (World.setCell _ _ _) = wz at *)
                  go_wp2_with fail
                  go_meet
                  case rel => exact ⟨rfl, hA⟩
                · (try clear hF); (have k1 := at_cell hA .here (i := i4) (by omega)); (have k2 := at_cell hA .here (i := j4) (by omega)); (have f1 := at_free hA .here (i4)); (have f2 := at_free hA .here (j4)); go_region; (have hB := (at_swp hA .here (i := i4) (j := j4) (by omega) (by omega)).drew); (clear k1 k2 f1 f2 hA); (have hA := hB); (clear hB); (generalize World.drew (World.setCell _ _ _) = wz at *)
                  go_wp2_with fail
                  go_meet
                  case rel => exact ⟨rfl, hA⟩
              case rest =>
                obtain ⟨rfl, hB⟩ := hcut
                clear hA
                have hA := hB
                clear hB
                obtain ⟨d5, hd5⟩ : ∃ z, swp dk i4 j4 = z := ⟨_, rfl⟩
                rw [hd5] at hA
                have d5s : d5.size = dk.size := by rw [← hd5]; exact swp_size _ _ _
                have hd5' := Lib.hid hd5
                clear hd5
                go_wp2_with fail
                go_roundg (j4 - 1 + 1 - (i4 + 1))
                case measure => omega
                case rel => exact ⟨i4 + 1, j4 - 1, d5, by simp, by congr 1; omega, by omega, by omega, by omega, by omega, Nat.le_refl _, by omega, hA, by rw [← hO'.out, hs.out, hd5'.out]⟩
    case rest =>
      obtain ⟨q, dq, rfl, hq3, hB⟩ := hcut
      clear hA
      have hA := hB
      clear hB
      have hq4 := Lib.hid hq3
      clear hq3
      have hp := Lib.hid (show Sort.partitionEqual ltInt d0 a b p = (q, dq) by rw [hres.out]; simp only [hd1'.out, hBb'.out, hA1'.out, hq4.out])
      go_wp2_with fail
      refine bodyPost_ret (v := .int .i64 q) (by simp [results, Try.results89, go_sem]) rfl ?_
      unfold PartEqPost
      rw [hp.out]
      exact ⟨rfl, hA⟩
end Go.Proofs.Ytbdcgadcjgmgbaa.SortU
end

section
namespace Go.Proofs.Ytbdcgadcjgmgbaa.SortU
open Go.RowKit
open Go.Sort (swp ltInt scanSorted shiftDown shiftUp partialIns)
set_option linter.unusedSimpArgs false
set_option linter.unusedVariables false

theorem scanS_go {d : Array Int} {b i y : Nat} (hy : i = y + 1) (h : i < b) (hl : ltU (atU d i) (atU d y) = false) : scanSorted ltInt d b i = scanSorted ltInt d b (i + 1) := by
  subst hy
  have hl' : ltInt d[y + 1]! d[y]! = false := hl
  rw [scanSorted, if_pos (by simp [h, hl'])]
theorem scanS_stop {d : Array Int} {b i : Nat} (h : i < b → ∃ y, i = y + 1 ∧ ltU (atU d i) (atU d y) = true) : scanSorted ltInt d b i = i := by
  rw [scanSorted, if_neg]
  simp only [Bool.and_eq_true, decide_eq_true_eq, not_and, Bool.not_eq_true]
  intro hb
  obtain ⟨y, rfl, hl⟩ := h hb
  have hl' : ltInt d[y + 1]! d[y]! = true := hl
  simp [hl']
theorem shiftD_go {d : Array Int} {x y : Nat} (hx : x = y + 1) (hl : ltU (atU d x) (atU d y) = true) : shiftDown ltInt x d = shiftDown ltInt y (swp d x y) := by
  subst hx
  have hl' : ltInt d[y + 1]! d[y]! = true := hl
  rw [shiftDown, hl']
  rfl
theorem shiftD_stop {d : Array Int} {x y : Nat} (hx : x = y + 1) (hl : ltU (atU d x) (atU d y) = false) : shiftDown ltInt x d = d := by
  subst hx
  have hl' : ltInt d[y + 1]! d[y]! = false := hl
  rw [shiftDown, hl']
  rfl
theorem shiftU_go {d : Array Int} {b x y : Nat} (hx : x = y + 1) (h : x < b) (hl : ltU (atU d x) (atU d y) = true) : shiftUp ltInt b x d = shiftUp ltInt b (x + 1) (swp d x y) := by
  subst hx
  have hl' : ltInt d[y + 1]! d[y]! = true := hl
  rw [shiftUp, if_pos h, Nat.add_sub_cancel, hl']
  rfl
theorem shiftU_stop {d : Array Int} {b x : Nat} (h : x < b → ∃ y, x = y + 1 ∧ ltU (atU d x) (atU d y) = false) : shiftUp ltInt b x d = d := by
  rw [shiftUp]
  by_cases hb : x < b
  · obtain ⟨y, rfl, hl⟩ := h hb
    have hl' : ltInt d[y + 1]! d[y]! = false := hl
    rw [if_pos hb, Nat.add_sub_cancel, hl']
    rfl
  · rw [if_neg hb]
def stepD (d : Array Int) (a i : Nat) : Array Int := if i - a ≥ 2 then shiftDown ltInt (i - 1) (swp d i (i - 1)) else swp d i (i - 1)
def stepU (d : Array Int) (b i : Nat) : Array Int := if b - i ≥ 2 then shiftUp ltInt b (i + 1) d else d
theorem pi_end {a b s i i' : Nat} {d : Array Int} (hi : scanSorted ltInt d b i = i') (h : i' = b) : partialIns ltInt a b (s + 1) i d = (d, true) := by
  rw [partialIns]
  simp only [hi]
  rw [if_pos h]
theorem pi_small {a b s i i' : Nat} {d : Array Int} (hi : scanSorted ltInt d b i = i') (h : ¬ i' = b) (h2 : b - a < 50) : partialIns ltInt a b (s + 1) i d = (d, false) := by
  rw [partialIns]
  simp only [hi]
  rw [if_neg h, if_pos h2]
theorem pi_go {a b s i i' : Nat} {d : Array Int} (hi : scanSorted ltInt d b i = i') (h : ¬ i' = b) (h2 : ¬ b - a < 50) : partialIns ltInt a b (s + 1) i d = partialIns ltInt a b s i' (stepU (stepD d a i') b i') := by
  rw [partialIns]
  simp only [hi]
  rw [if_neg h, if_neg h2]
  rfl
theorem shiftDown_size : ∀ (x : Nat) (d : Array Int), (shiftDown ltInt x d).size = d.size
  | 0, d => rfl
  | x + 1, d => by
    rw [shiftDown]
    split
    · rfl
    · rw [shiftDown_size x, swp_size]
theorem shiftUp_size (b : Nat) : ∀ (n x : Nat) (d : Array Int), b - x ≤ n → (shiftUp ltInt b x d).size = d.size
  | 0, x, d, h => by rw [shiftUp, if_neg (by omega)]
  | n + 1, x, d, h => by
    rw [shiftUp]
    split
    · split
      · rfl
      · rw [shiftUp_size b n _ _ (by omega), swp_size]
    · rfl
theorem stepD_size (d : Array Int) (a i : Nat) : (stepD d a i).size = d.size := by
  unfold stepD
  split
  · rw [shiftDown_size, swp_size]
  · rw [swp_size]
theorem stepU_size (d : Array Int) (b i : Nat) : (stepU d b i).size = d.size := by
  unfold stepU
  split
  · rw [shiftUp_size b _ _ _ (Nat.le_refl _)]
  · rfl
def PIPost (L0 : List Part) (w : World) (g : Nat) (d : Array Int) (r : List Value) (a b : Nat) (e : Ending) (w' : World) : Prop :=
  e = .returned (.bool (Sort.partialInsertionSort ltInt d a b).2) ∧ At L0 w [blkU g (Sort.partialInsertionSort ltInt d a b).1 r] w'
def PIRel (L0 : List Part) (w : World) (g : Nat) (d : Array Int) (r : List Value) (a b : Nat) (k : Nat) (u v : Value) (wr : World) : Prop :=
  ∃ (i : Nat) (dk : Array Int), u = .int .i64 i ∧ v = .int .i64 (5 - (k : Int)) ∧ k ≤ 5 ∧ a + 1 ≤ i ∧ i ≤ b ∧ dk.size = d.size ∧ At L0 w [blkU g dk r] wr ∧ partialIns ltInt a b k i dk = partialIns ltInt a b 5 (a + 1) d
def ScanS (L0 : List Part) (w : World) (g : Nat) (d : Array Int) (r : List Value) (b i0 : Nat) (k : Nat) (u : Value) (wr : World) : Prop :=
  ∃ i : Nat, u = .int .i64 i ∧ i0 ≤ i ∧ i + k = b ∧ At L0 w [blkU g d r] wr ∧ scanSorted ltInt d b i = scanSorted ltInt d b i0
def ShD (L0 : List Part) (w : World) (g : Nat) (d : Array Int) (r : List Value) (x0 : Nat) (k : Nat) (u : Value) (wr : World) : Prop :=
  ∃ (x : Nat) (dk : Array Int), u = .int .i64 x ∧ x ≤ x0 ∧ x ≤ k ∧ dk.size = d.size ∧ At L0 w [blkU g dk r] wr ∧ shiftDown ltInt x dk = shiftDown ltInt x0 d
def ShU (L0 : List Part) (w : World) (g : Nat) (d : Array Int) (r : List Value) (b x0 : Nat) (k : Nat) (u : Value) (wr : World) : Prop :=
  ∃ (x : Nat) (dk : Array Int), u = .int .i64 x ∧ x0 ≤ x ∧ x + k = b ∧ dk.size = d.size ∧ At L0 w [blkU g dk r] wr ∧ shiftUp ltInt b x dk = shiftUp ltInt b x0 d
set_option maxRecDepth 100000 in
set_option maxHeartbeats 8000000 in
theorem partialIns_any {w : World} {g cap n : Nat} {d0 : Array Int} {r : List Value} (h : Sep [blkU g d0 r] w) (hn : d0.size = n) {a b : Nat} (hab : a < b) (hb : b ≤ d0.size) (hsz : d0.size < 4611686018427387904) :
    Calls Try.prog 87 #[.slice (some ⟨g, 0, none⟩) n cap, .int .i64 a, .int .i64 b] w (PIPost [blkU g d0 r] w g d0 r a b) := by
  have hres := Lib.hid (show Sort.partialInsertionSort ltInt d0 a b = partialIns ltInt a b 5 (a + 1) d0 from rfl)
  obtain ⟨L0, hL0, hA⟩ : ∃ L0, L0 = [blkU g d0 r] ∧ At L0 w [blkU g d0 r] w := ⟨_, rfl, At.start h⟩
  rw [← hL0]
  clear h hL0
  go_enter Try.func87, Try.ntmps87
  go_wp2_with fail
  go_loopg [7, 8] 5 (PIRel L0 w g d0 r a b)
  case atStart => exact ⟨a + 1, d0, by simp, by simp, Nat.le_refl _, Nat.le_refl _, by omega, rfl, hA, rfl⟩
  case round =>
    obtain ⟨i, dk, rfl, rfl, hk5, hi1, hi2, hsk, hB, hO⟩ := hrel
    have hO' := Lib.hid hO
    clear hA hO
    have hA := hB
    clear hB
    rcases Nat.eq_zero_or_pos gk with h0 | hpos
    · subst h0
      go_wp2_with fail
      refine bodyPost_ret (v := .bool false) (by simp [results, Try.results87, go_sem]) rfl ?_
      unfold PIPost
      rw [hres.out, ← hO'.out]
      exact ⟨rfl, hA⟩
    · obtain ⟨s, rfl⟩ : ∃ s, gk = s + 1 := ⟨gk - 1, by omega⟩
      have hs5 : decide ((5 : Int) - ((s + 1 : Nat) : Int) < 5) = true := by simp; omega
      have hs5' : (5 : Int) - ((s + 1 : Nat) : Int) < 5 := by omega
      obtain ⟨c, hc⟩ : ∃ c : Int, (5 : Int) - ((s + 1 : Nat) : Int) = c := ⟨_, rfl⟩
      rw [hc] at hs5 hs5'
      rw [hc]
      have hcb : 0 ≤ c := by omega
      have hc2 := Lib.hid hc
      clear hc
      go_upto_block 2 with fail
      go_cut [7] from 17 to 34 (fun u wc => ∃ q : Nat, u = .int .i64 q ∧ i ≤ q ∧ q ≤ b ∧ scanSorted ltInt dk b i = q ∧ At L0 w [blkU g dk r] wc)
      case first =>
        go_wp2_with fail
        go_loopg [7] (b - i) (ScanS L0 w g dk r b i)
        case atStart => exact ⟨i, rfl, Nat.le_refl _, by omega, hA, rfl⟩
        case round =>
          obtain ⟨x, rfl, hx1, hx2, hB, hS⟩ := hrel
          have hS' := Lib.hid hS
          clear hA hS
          have hA := hB
          clear hB
          have hF := hA.facts
          (try simp only [setL, List.set_cons_zero, List.set_cons_succ, List.cons_append, List.nil_append] at hA); (have hF := hA.facts); (try simp only [facts_cons, facts_nil, facts_cells, facts_old, facts_fact, facts_obj, facts_map, facts_iter, and_true, true_and] at hF)
          by_cases hxb : x < b
          · have hg : decide ((x : Int) < (b : Int)) = true := by simp; omega
            obtain ⟨y, hy⟩ : ∃ y, x = y + 1 := ⟨x - 1, by omega⟩
            have ey : (x : Int) - 1 = (y : Int) := by omega
            have gy1 : x ≤ y + 1 := by omega
            have gy2 : y + 1 ≤ x := by omega
            have hy' := Lib.hid hy
            clear hy
            have e1 := rowC_at (d := dk) (r := r) (i := x) (by omega)
            have e2 := rowC_at (d := dk) (r := r) (i := y) (by omega)
            cases hl : ltU (atU dk x) (atU dk y)
            · have hq := Lib.hid (scanS_go hy'.out hxb hl)
              have hl' := Lib.hid hl
              clear hl
              go_wp2_with fail
              (refine wp_region_all (Cl _ _ _) (by kernel_rfl) (by kernel_rfl) (Cl.drew hA) ?_); (have hn1 := Cl.none hA); (have hn2 := Cl.none2 hA); (repeat (first | go_big_quiet_skip | (go_big_quiet_want; (first | (refine quiet_load_at rfl rfl (by with_reducible repeat (first | exact Sel.here | apply Sel.there)) (by kernel_rfl) (by first | assumption | exact rfl) ?_; go_frame; go_big_quiet_on) | (go_big_quiet_op; (first | go_big_quiet_on | ((apply Exists.intro); (refine ⟨fun w1 hw => ?_, ?_⟩); (focus ((have hw := Cl.out hw); (exact less_in hw _ _ hl'.out))); (go_big_quiet_on))))))))
              (refine wpQuiet_nil ?_); (intro w1 hB); (clear hF hA hn1 hn2); (have hA := Cl.out hB); (clear hB); (try simp only [setL, List.set_cons_zero, List.set_cons_succ, List.cons_append, List.nil_append] at hA); (have hF := hA.facts); (try simp only [facts_cons, facts_nil, facts_cells, facts_old, facts_fact, facts_obj, facts_map, facts_iter, and_true, true_and] at hF)
              go_wp2_with fail
              go_roundg (gk - 1)
              case measure => omega
              case rel => exact ⟨x + 1, by simp, by omega, by omega, hA, by rw [← hS'.out, hq.out]⟩
            · have hq := Lib.hid (scanS_stop (d := dk) (b := b) (i := x) (fun _ => ⟨y, hy'.out, hl⟩))
              have hl' := Lib.hid hl
              clear hl
              go_wp2_with fail
              (refine wp_region_all (Cl _ _ _) (by kernel_rfl) (by kernel_rfl) (Cl.drew hA) ?_); (have hn1 := Cl.none hA); (have hn2 := Cl.none2 hA); (repeat (first | go_big_quiet_skip | (go_big_quiet_want; (first | (refine quiet_load_at rfl rfl (by with_reducible repeat (first | exact Sel.here | apply Sel.there)) (by kernel_rfl) (by first | assumption | exact rfl) ?_; go_frame; go_big_quiet_on) | (go_big_quiet_op; (first | go_big_quiet_on | ((apply Exists.intro); (refine ⟨fun w1 hw => ?_, ?_⟩); (focus ((have hw := Cl.out hw); (exact less_in hw _ _ hl'.out))); (go_big_quiet_on))))))))
              (refine wpQuiet_nil ?_); (intro w1 hB); (clear hF hA hn1 hn2); (have hA := Cl.out hB); (clear hB); (try simp only [setL, List.set_cons_zero, List.set_cons_succ, List.cons_append, List.nil_append] at hA); (have hF := hA.facts); (try simp only [facts_cons, facts_nil, facts_cells, facts_old, facts_fact, facts_obj, facts_map, facts_iter, and_true, true_and] at hF)
              go_wp2_with fail
              go_meet
              case rel => exact ⟨x, rfl, by omega, by omega, by rw [← hS'.out, hq.out], hA⟩
          · have hg : decide ((x : Int) < (b : Int)) = false := by simp; omega
            have hq := Lib.hid (scanS_stop (d := dk) (b := b) (i := x) (fun h => absurd h hxb))
            go_wp2_with fail
            (refine wp_region_all (Cl _ _ _) (by kernel_rfl) (by kernel_rfl) (Cl.drew hA) ?_); (have hn1 := Cl.none hA); (have hn2 := Cl.none2 hA); (repeat (first | go_big_quiet_skip | (go_big_quiet_want; (first | (refine quiet_load_at rfl rfl (by with_reducible repeat (first | exact Sel.here | apply Sel.there)) (by kernel_rfl) (by first | assumption | exact rfl) ?_; go_frame; go_big_quiet_on) | (go_big_quiet_op; (first | go_big_quiet_on | ((apply Exists.intro); (refine ⟨fun w1 hw => ?_, ?_⟩); (focus ((have hw := Cl.out hw); (fail))); (go_big_quiet_on))))))))
            (refine wpQuiet_nil ?_); (intro w1 hB); (clear hF hA hn1 hn2); (have hA := Cl.out hB); (clear hB); (try simp only [setL, List.set_cons_zero, List.set_cons_succ, List.cons_append, List.nil_append] at hA); (have hF := hA.facts); (try simp only [facts_cons, facts_nil, facts_cells, facts_old, facts_fact, facts_obj, facts_map, facts_iter, and_true, true_and] at hF)
            go_wp2_with fail
            go_meet
            case rel => exact ⟨x, rfl, by omega, by omega, by rw [← hS'.out, hq.out], hA⟩
      case rest =>
        obtain ⟨q, rfl, hq1, hq2, hq3, hB⟩ := hcut
        clear hA
        have hA := hB
        clear hB
        have hq4 := Lib.hid hq3
        clear hq3
        by_cases hqb : q = b
        · subst hqb
          have hp := Lib.hid (pi_end (a := a) (s := s) hq4.out rfl)
          go_wp2_with fail
          refine bodyPost_ret (v := .bool true) (by simp [results, Try.results87, go_sem]) rfl ?_
          unfold PIPost
          rw [hres.out, ← hO'.out, hp.out]
          exact ⟨rfl, hA⟩
        · have hqb' : ¬ (q : Int) = (b : Int) := by omega
          by_cases h50 : b - a < 50
          · have h50' : (b : Int) - (a : Int) < 50 := by omega
            have hp := Lib.hid (pi_small (s := s) hq4.out hqb h50)
            go_wp2_with fail
            refine bodyPost_ret (v := .bool false) (by simp [results, Try.results87, go_sem]) rfl ?_
            unfold PIPost
            rw [hres.out, ← hO'.out, hp.out]
            exact ⟨rfl, hA⟩
          · have h50' : ¬ (b : Int) - (a : Int) < 50 := by omega
            have hp := Lib.hid (pi_go (s := s) hq4.out hqb h50)
            obtain ⟨y, hy⟩ : ∃ y, q = y + 1 := ⟨q - 1, by omega⟩
            have ey : (q : Int) - 1 = (y : Int) := by omega
            have gy1 : q ≤ y + 1 := by omega
            have gy2 : y + 1 ≤ q := by omega
            have hy' := Lib.hid (show q - 1 = y by omega)
            clear hy
            go_wp2_with fail
            (try clear hF); (have k1 := at_cell hA .here (i := q) (by omega)); (have k2 := at_cell hA .here (i := y) (by omega)); (have f1 := at_free hA .here (q)); (have f2 := at_free hA .here (y)); go_region; (have hB := (at_swp hA .here (i := q) (j := y) (by omega) (by omega)).drew); (clear k1 k2 f1 f2 hA); (have hA := hB); (clear hB); (generalize World.drew (World.setCell _ _ _) = wz at *)
            obtain ⟨d1, hd1⟩ : ∃ z, swp dk q y = z := ⟨_, rfl⟩
            rw [hd1] at hA
            have d1s : d1.size = dk.size := by rw [← hd1]; exact swp_size _ _ _
            have hd1' := Lib.hid hd1
            clear hd1
            go_upto_if 61 with fail
            go_cut [9] from 17 to 94 (fun u wc => ∃ d2 : Array Int, stepD dk a q = d2 ∧ At L0 w [blkU g d2 r] wc)
            case first =>
              by_cases h2 : q - a ≥ 2
              · have h2' : (2 : Int) ≤ (q : Int) - (a : Int) := by omega
                have hst := Lib.hid (show stepD dk a q = shiftDown ltInt y d1 by unfold stepD; rw [if_pos h2, hy'.out, hd1'.out])
                go_wp2_with fail
                go_loopg [9] y (ShD L0 w g d1 r y)
                case atStart => exact ⟨y, d1, rfl, Nat.le_refl _, Nat.le_refl _, rfl, hA, rfl⟩
                case round =>
                  obtain ⟨x, dj, rfl, hx1, hx2, hsj, hB, hS⟩ := hrel
                  have hS' := Lib.hid hS
                  clear hA hS
                  have hA := hB
                  clear hB
                  have hF := hA.facts
                  (try simp only [setL, List.set_cons_zero, List.set_cons_succ, List.cons_append, List.nil_append] at hA); (have hF := hA.facts); (try simp only [facts_cons, facts_nil, facts_cells, facts_old, facts_fact, facts_obj, facts_map, facts_iter, and_true, true_and] at hF)
                  by_cases hx0 : 1 ≤ x
                  · obtain ⟨z, hz⟩ : ∃ z, x = z + 1 := ⟨x - 1, by omega⟩
                    have ez : (x : Int) - 1 = (z : Int) := by omega
                    have gz1 : x ≤ z + 1 := by omega
                    have gz2 : z + 1 ≤ x := by omega
                    have hz' := Lib.hid hz
                    clear hz
                    have e1 := rowC_at (d := dj) (r := r) (i := x) (by omega)
                    have e2 := rowC_at (d := dj) (r := r) (i := z) (by omega)
                    cases hl : ltU (atU dj x) (atU dj z)
                    · have hq := Lib.hid (shiftD_stop hz'.out hl)
                      have hl' := Lib.hid hl
                      clear hl
                      go_wp2_with fail
                      (refine wp_region_all (Cl _ _ _) (by kernel_rfl) (by kernel_rfl) (Cl.drew hA) ?_); (have hn1 := Cl.none hA); (have hn2 := Cl.none2 hA); (repeat (first | go_big_quiet_skip | (go_big_quiet_want; (first | (refine quiet_load_at rfl rfl (by with_reducible repeat (first | exact Sel.here | apply Sel.there)) (by kernel_rfl) (by first | assumption | exact rfl) ?_; go_frame; go_big_quiet_on) | (go_big_quiet_op; (first | go_big_quiet_on | ((apply Exists.intro); (refine ⟨fun w1 hw => ?_, ?_⟩); (focus ((have hw := Cl.out hw); (exact less_in hw _ _ hl'.out))); (go_big_quiet_on))))))))
                      (refine wpQuiet_nil ?_); (intro w1 hB); (clear hF hA hn1 hn2); (have hA := Cl.out hB); (clear hB); (try simp only [setL, List.set_cons_zero, List.set_cons_succ, List.cons_append, List.nil_append] at hA); (have hF := hA.facts); (try simp only [facts_cons, facts_nil, facts_cells, facts_old, facts_fact, facts_obj, facts_map, facts_iter, and_true, true_and] at hF)
                      go_wp2_with fail
                      go_meet
                      case rel => exact ⟨dj, by rw [hst.out, ← hS'.out, hq.out], hA⟩
                    · have hq := Lib.hid (shiftD_go hz'.out hl)
                      have hl' := Lib.hid hl
                      clear hl
                      go_wp2_with fail
                      (refine wp_region_all (Cl _ _ _) (by kernel_rfl) (by kernel_rfl) (Cl.drew hA) ?_); (have hn1 := Cl.none hA); (have hn2 := Cl.none2 hA); (repeat (first | go_big_quiet_skip | (go_big_quiet_want; (first | (refine quiet_load_at rfl rfl (by with_reducible repeat (first | exact Sel.here | apply Sel.there)) (by kernel_rfl) (by first | assumption | exact rfl) ?_; go_frame; go_big_quiet_on) | (go_big_quiet_op; (first | go_big_quiet_on | ((apply Exists.intro); (refine ⟨fun w1 hw => ?_, ?_⟩); (focus ((have hw := Cl.out hw); (exact less_in hw _ _ hl'.out))); (go_big_quiet_on))))))))
                      (refine wpQuiet_nil ?_); (intro w1 hB); (clear hF hA hn1 hn2); (have hA := Cl.out hB); (clear hB); (try simp only [setL, List.set_cons_zero, List.set_cons_succ, List.cons_append, List.nil_append] at hA); (have hF := hA.facts); (try simp only [facts_cons, facts_nil, facts_cells, facts_old, facts_fact, facts_obj, facts_map, facts_iter, and_true, true_and] at hF)
                      go_wp2_with fail
                      (try clear hF); (have k1 := at_cell hA .here (i := x) (by omega)); (have k2 := at_cell hA .here (i := z) (by omega)); (have f1 := at_free hA .here (x)); (have f2 := at_free hA .here (z)); go_region; (have hB := (at_swp hA .here (i := x) (j := z) (by omega) (by omega)).drew); (clear k1 k2 f1 f2 hA); (have hA := hB); (clear hB); (generalize World.drew (World.setCell _ _ _) = wz at *)
                      go_wp2_with fail
                      go_roundg z
                      case measure => omega
                      case rel => exact ⟨z, swp dj x z, rfl, by omega, Nat.le_refl _, by rw [swp_size]; exact hsj, hA, by rw [← hS'.out, hq.out]⟩
                  · have hx00 : x = 0 := by omega
                    subst hx00
                    have hq := Lib.hid (show shiftDown ltInt 0 dj = dj from rfl)
                    go_wp2_with fail
                    go_meet
                    case rel => exact ⟨dj, by rw [hst.out, ← hS'.out, hq.out], hA⟩
              · have h2' : (q : Int) - (a : Int) < 2 := by omega
                have hst := Lib.hid (show stepD dk a q = d1 by unfold stepD; rw [if_neg h2, hy'.out, hd1'.out])
                go_wp2_with fail
                go_meet
                case rel => exact ⟨d1, hst.out, hA⟩
            case rest =>
              obtain ⟨d2, hd2, hB⟩ := hcut
              clear hA
              have hA := hB
              clear hB
              have d2s : d2.size = dk.size := by rw [← hd2]; exact stepD_size _ _ _
              have hd2' := Lib.hid hd2
              clear hd2
              by_cases h2 : b - q ≥ 2
              · have h2' : (2 : Int) ≤ (b : Int) - (q : Int) := by omega
                have hst := Lib.hid (show stepU d2 b q = shiftUp ltInt b (q + 1) d2 by unfold stepU; rw [if_pos h2])
                go_wp2_with fail
                go_loopg [10] (b - (q + 1)) (ShU L0 w g d2 r b (q + 1))
                case atStart => exact ⟨q + 1, d2, by simp, Nat.le_refl _, by omega, rfl, hA, rfl⟩
                case round =>
                  obtain ⟨x, dj, rfl, hx1, hx2, hsj, hB, hS⟩ := hrel
                  have hS' := Lib.hid hS
                  clear hA hS
                  have hA := hB
                  clear hB
                  have hF := hA.facts
                  (try simp only [setL, List.set_cons_zero, List.set_cons_succ, List.cons_append, List.nil_append] at hA); (have hF := hA.facts); (try simp only [facts_cons, facts_nil, facts_cells, facts_old, facts_fact, facts_obj, facts_map, facts_iter, and_true, true_and] at hF)
                  by_cases hx0 : x < b
                  · obtain ⟨z, hz⟩ : ∃ z, x = z + 1 := ⟨x - 1, by omega⟩
                    have ez : (x : Int) - 1 = (z : Int) := by omega
                    have gz1 : x ≤ z + 1 := by omega
                    have gz2 : z + 1 ≤ x := by omega
                    have hz' := Lib.hid hz
                    clear hz
                    have e1 := rowC_at (d := dj) (r := r) (i := x) (by omega)
                    have e2 := rowC_at (d := dj) (r := r) (i := z) (by omega)
                    cases hl : ltU (atU dj x) (atU dj z)
                    · have hq := Lib.hid (shiftU_stop (d := dj) (b := b) (x := x) (fun _ => ⟨z, hz'.out, hl⟩))
                      have hl' := Lib.hid hl
                      clear hl
                      go_wp2_with fail
                      (refine wp_region_all (Cl _ _ _) (by kernel_rfl) (by kernel_rfl) (Cl.drew hA) ?_); (have hn1 := Cl.none hA); (have hn2 := Cl.none2 hA); (repeat (first | go_big_quiet_skip | (go_big_quiet_want; (first | (refine quiet_load_at rfl rfl (by with_reducible repeat (first | exact Sel.here | apply Sel.there)) (by kernel_rfl) (by first | assumption | exact rfl) ?_; go_frame; go_big_quiet_on) | (go_big_quiet_op; (first | go_big_quiet_on | ((apply Exists.intro); (refine ⟨fun w1 hw => ?_, ?_⟩); (focus ((have hw := Cl.out hw); (exact less_in hw _ _ hl'.out))); (go_big_quiet_on))))))))
                      (refine wpQuiet_nil ?_); (intro w1 hB); (clear hF hA hn1 hn2); (have hA := Cl.out hB); (clear hB); (try simp only [setL, List.set_cons_zero, List.set_cons_succ, List.cons_append, List.nil_append] at hA); (have hF := hA.facts); (try simp only [facts_cons, facts_nil, facts_cells, facts_old, facts_fact, facts_obj, facts_map, facts_iter, and_true, true_and] at hF)
                      go_wp2_with fail
                      go_roundg s
                      case measure => omega
                      case rel => exact ⟨q, dj, rfl, by have := hc2.out; congr 1; omega, by omega, by omega, hq2, by omega, hA, by rw [← hO'.out, hp.out, hd2'.out, hst.out, ← hS'.out, hq.out]⟩
                    · have hq := Lib.hid (shiftU_go hz'.out hx0 hl)
                      have hl' := Lib.hid hl
                      clear hl
                      go_wp2_with fail
                      (refine wp_region_all (Cl _ _ _) (by kernel_rfl) (by kernel_rfl) (Cl.drew hA) ?_); (have hn1 := Cl.none hA); (have hn2 := Cl.none2 hA); (repeat (first | go_big_quiet_skip | (go_big_quiet_want; (first | (refine quiet_load_at rfl rfl (by with_reducible repeat (first | exact Sel.here | apply Sel.there)) (by kernel_rfl) (by first | assumption | exact rfl) ?_; go_frame; go_big_quiet_on) | (go_big_quiet_op; (first | go_big_quiet_on | ((apply Exists.intro); (refine ⟨fun w1 hw => ?_, ?_⟩); (focus ((have hw := Cl.out hw); (exact less_in hw _ _ hl'.out))); (go_big_quiet_on))))))))
                      (refine wpQuiet_nil ?_); (intro w1 hB); (clear hF hA hn1 hn2); (have hA := Cl.out hB); (clear hB); (try simp only [setL, List.set_cons_zero, List.set_cons_succ, List.cons_append, List.nil_append] at hA); (have hF := hA.facts); (try simp only [facts_cons, facts_nil, facts_cells, facts_old, facts_fact, facts_obj, facts_map, facts_iter, and_true, true_and] at hF)
                      go_wp2_with fail
                      (try clear hF); (have k1 := at_cell hA .here (i := x) (by omega)); (have k2 := at_cell hA .here (i := z) (by omega)); (have f1 := at_free hA .here (x)); (have f2 := at_free hA .here (z)); go_region; (have hB := (at_swp hA .here (i := x) (j := z) (by omega) (by omega)).drew); (clear k1 k2 f1 f2 hA); (have hA := hB); (clear hB); (generalize World.drew (World.setCell _ _ _) = wz at *)
                      go_wp2_with fail
                      go_roundg (gk - 1)
                      case measure => omega
                      case rel => exact ⟨x + 1, swp dj x z, by simp, by omega, by omega, by rw [swp_size]; exact hsj, hA, by rw [← hS'.out, hq.out]⟩
                  · have hq := Lib.hid (shiftU_stop (d := dj) (b := b) (x := x) (fun h => absurd h hx0))
                    go_wp2_with fail
                    go_roundg s
                    case measure => omega
                    case rel => exact ⟨q, dj, rfl, by have := hc2.out; congr 1; omega, by omega, by omega, hq2, by omega, hA, by rw [← hO'.out, hp.out, hd2'.out, hst.out, ← hS'.out, hq.out]⟩
              · have h2' : (b : Int) - (q : Int) < 2 := by omega
                have hst := Lib.hid (show stepU d2 b q = d2 by unfold stepU; rw [if_neg h2])
                go_wp2_with fail
                go_roundg s
                case measure => omega
                case rel => exact ⟨q, d2, rfl, by have := hc2.out; congr 1; omega, by omega, by omega, hq2, by omega, hA, by rw [← hO'.out, hp.out, hd2'.out, hst.out]⟩
end Go.Proofs.Ytbdcgadcjgmgbaa.SortU
end

section
namespace Go.Proofs.Ytbdcgadcjgmgbaa.SortU
open Go.RowKit
open Go.Sort (swp ltInt PermIn SortedIn)
set_option linter.unusedSimpArgs false
set_option linter.unusedVariables false

/-- sorted from a to b -/
def PdqPost (L0 : List Part) (w : World) (g : Nat) (d : Array Int) (r : List Value) (a b : Nat) (e : Ending) (w' : World) : Prop :=
  ∃ R, e = .returned (.tuple #[]) ∧ PermIn a b d R ∧ SortedIn ltInt a b R ∧ At L0 w [blkU g R r] w'
/-- what is still to be done: whatever sorts the part sorts the whole -/
def Todo (d : Array Int) (a b : Nat) (dk : Array Int) (a' b' : Nat) : Prop := ∀ R, PermIn a' b' dk R → SortedIn ltInt a' b' R → PermIn a b d R ∧ SortedIn ltInt a b R
theorem Todo.step {d dk d1 : Array Int} {a b a' b' : Nat} (h : Todo d a b dk a' b') (hp : PermIn a' b' dk d1) : Todo d a b d1 a' b' := fun R h1 h2 => h R (Sort.permIn_trans _ _ _ a' b' hp h1) h2
def PdqRel (L0 : List Part) (w : World) (g : Nat) (d : Array Int) (r : List Value) (a b : Nat) (k : Nat) (u1 u2 u3 u8 u9 : Value) (wr : World) : Prop :=
  ∃ (a' b' lim : Nat) (wb wp : Bool) (dk : Array Int), u1 = .int .i64 a' ∧ u2 = .int .i64 b' ∧ u3 = .int .i64 lim ∧ u8 = .bool wb ∧ u9 = .bool wp ∧ a' ≤ b' ∧ b' ≤ d.size ∧ b' - a' ≤ k ∧ k ≤ b - a ∧ lim < 4611686018427387904 ∧ dk.size = d.size ∧
    Sort.Below ltInt a' b' dk ∧ At L0 w [blkU g dk r] wr ∧ Todo d a b dk a' b'
set_option maxRecDepth 1000000 in
set_option maxHeartbeats 16000000 in
theorem pdq_any : ∀ (N : Nat) {w : World} {g cap n : Nat} {d : Array Int} {r : List Value} (h : Sep [blkU g d r] w) (hn : d.size = n) {a b limit : Nat} (hN : b - a < N) (hab : a ≤ b) (hb : b ≤ d.size) (hlim : limit < 4611686018427387904) (hsz : d.size < 4611686018427387904) (hBel : Sort.Below ltInt a b d),
    Calls Try.prog 75 #[.slice (some ⟨g, 0, none⟩) n cap, .int .i64 a, .int .i64 b, .int .i64 limit] w (PdqPost [blkU g d r] w g d r a b) := by
  intro N
  induction N with
  | zero => intro w g cap n d r h hn a b limit hN; omega
  | succ N ih =>
    intro w g cap n d r h hn a b limit hN hab hb hlim hsz hBel
    obtain ⟨L0, hL0, hA⟩ : ∃ L0, L0 = [blkU g d r] ∧ At L0 w [blkU g d r] w := ⟨_, rfl, At.start h⟩
    rw [← hL0]
    clear h hL0
    go_enter Try.func75, Try.ntmps75
    go_wp2_with fail
    go_loopg [1, 2, 3, 8, 9] (b - a) (PdqRel L0 w g d r a b)
    case atStart => exact ⟨a, b, limit, true, true, d, rfl, rfl, rfl, rfl, rfl, hab, hb, Nat.le_refl _, Nat.le_refl _, hlim, rfl, hBel, hA, fun R h1 h2 => ⟨h1, h2⟩⟩
    case round =>
      obtain ⟨a', b', lim, wb, wp, dk, rfl, rfl, rfl, rfl, rfl, hab', hb', hk, hkb, hlim', hsk, hBk, hB, hT⟩ := hrel
      have hT' := Lib.hid hT
      have hBk' := Lib.hid hBk
      clear hA hT hBel hBk
      have hA := hB
      clear hB
      by_cases h12 : b' - a' ≤ 12
      · have h12' : (b' : Int) - (a' : Int) ≤ 12 := by omega
        have hs := Sort.insertionSort_holds Sort.swo_ltInt dk a' b' hab' (by omega)
        have hs' := Lib.hid hs
        clear hs
        go_wp2_with fail
        refine (insertion_any (hA.sep1 .here) (hsk.trans hn) hab' (by omega) (by omega)).mono ?_
        rintro e w1 ⟨rfl, hT1⟩
        have hB := hA.call1 .here hT1
        clear hA hT1
        go_wp2_with fail
        refine bodyPost_ret (results_none rfl _ _ _) rfl ?_
        have hh := hT'.out _ hs'.out.1 hs'.out.2
        exact ⟨_, rfl, hh.1, hh.2, hB⟩
      · have h12' : ¬ (b' : Int) - (a' : Int) ≤ 12 := by omega
        by_cases hl0 : lim = 0
        · subst hl0
          have hs := Sort.heapSort_holds Sort.swo_ltInt dk a' b' hab' (by omega)
          have hs' := Lib.hid hs
          clear hs
          go_wp2_with fail
          refine (heapSort_any (hA.sep1 .here) (hsk.trans hn) (a := a') (b := b') (by omega) (by omega) (by omega)).mono ?_
          rintro e w1 ⟨rfl, hT1⟩
          have hB := hA.call1 .here hT1
          clear hA hT1
          go_wp2_with fail
          refine bodyPost_ret (results_none rfl _ _ _) rfl ?_
          have hh := hT'.out _ hs'.out.1 hs'.out.2
          exact ⟨_, rfl, hh.1, hh.2, hB⟩
        · have hl0' : ¬ (lim : Int) = 0 := by omega
          go_upto_if 35 with fail
          go_cut [3] from 19 to 133 (fun u wc => ∃ (l2 : Nat) (d1 : Array Int), u = .int .i64 l2 ∧ l2 < 4611686018427387904 ∧ PermIn a' b' dk d1 ∧ At L0 w [blkU g d1 r] wc)
          case first =>
            cases wb
            · go_wp2_with fail
              refine (break_any (hA.sep1 .here) (hsk.trans hn) (a := a') (b := b') (by omega) (by omega) (by omega)).mono ?_
              rintro e w1 ⟨d1, rfl, hp, hT1⟩
              have hB := hA.call1 .here hT1
              clear hA hT1
              have hp' := Lib.hid hp
              clear hp
              go_wp2_with fail
              go_meet
              case rel => exact ⟨lim - 1, d1, by congr 1; omega, by omega, hp'.out, hB⟩
            · go_wp2_with fail
              go_meet
              case rel => exact ⟨lim, dk, rfl, hlim', Sort.permIn_refl _ _ _, hA⟩
          case rest =>
            obtain ⟨l2, d1, rfl, hl2, hp1, hB⟩ := hcut
            clear hA
            have hA := hB
            clear hB
            have s1 : d1.size = dk.size := hp1.1
            have T1 := Lib.hid (Todo.step hT'.out hp1)
            have B1 := Lib.hid (Sort.Below.perm hBk'.out (by omega) hp1)
            clear hp1 hT' hBk'
            go_upto_if 50 with (go_at_call 85; refine (pivot_any (hA.sep1 .here) (s1.trans (hsk.trans hn)) (a := a') (b := b') (by omega) (by omega) (by omega)).mono ?_; rintro e w1 ⟨p, hv, rfl, hpa, hpb, hT1⟩; have hB := hA.call1 .here hT1; clear hA hT1; have hA := hB; clear hB)
            go_cut [11, 12] from 19 to 133 (fun u v wc => ∃ (p2 : Nat) (hv2 : Int) (d2 : Array Int), u = .int .i64 p2 ∧ v = .int .i64 hv2 ∧ a' ≤ p2 ∧ p2 < b' ∧ PermIn a' b' d1 d2 ∧ At L0 w [blkU g d2 r] wc)
            case first =>
              by_cases h2 : hv = 2
              · have hs := Lib.hid (Sort.reverseRange_holds d1 a' b' hab' (by omega))
                subst h2
                go_wp2_with fail
                refine (reverse_any (hA.sep1 (by simpa using Sel.here)) (s1.trans (hsk.trans hn)) (a := a') (b := b') (by omega) (by omega) (by omega)).mono ?_
                rintro e w1 ⟨rfl, hT1⟩
                have hB := hA.call1 (by simpa using Sel.here) hT1
                clear hA hT1
                go_wp2_with fail
                go_meet
                case rel => exact ⟨b' - 1 - (p - a'), 1, _, by congr 1; omega, rfl, by omega, by omega, hs.out, hB⟩
              · have h2' : (hv == 2) = false := by simpa using h2
                go_wp2_with fail
                go_meet
                case rel => exact ⟨p, hv, d1, rfl, rfl, hpa, hpb, Sort.permIn_refl _ _ _, hA⟩
            case rest =>
              obtain ⟨p2, hv2, d2, rfl, rfl, hpa2, hpb2, hp2, hB⟩ := hcut
              clear hA
              have hA := hB
              clear hB
              have s2 : d2.size = d1.size := hp2.1
              have T2 := Lib.hid (Todo.step T1.out hp2)
              have B2 := Lib.hid (Sort.Below.perm B1.out (by omega) hp2)
              clear hp2 T1 B1
              go_upto_region 15 with fail
              go_cut [68] from 19 to 133 (fun u wc => ∃ c : Bool, u = .bool c ∧ At L0 w [blkU g d2 r] wc)
              case first =>
                cases wb
                · go_wp2_with fail
                  go_meet
                  case rel => exact ⟨false, rfl, hA⟩
                · cases wp
                  · go_wp2_with fail
                    go_meet
                    case rel => exact ⟨false, rfl, hA⟩
                  · by_cases h1 : hv2 = 1
                    · subst h1
                      go_wp2_with fail
                      go_meet
                      case rel => exact ⟨true, rfl, hA⟩
                    · have h1' : (hv2 == 1) = false := by simpa using h1
                      go_wp2_with fail
                      go_meet
                      case rel => exact ⟨false, rfl, hA⟩
              case rest =>
                obtain ⟨c, rfl, hB⟩ := hcut
                clear hA
                have hA := hB
                clear hB
                go_upto_if 68 with fail
                go_cut [11] from 19 to 133 (fun u wc => ∃ d3 : Array Int, u = .int .i64 p2 ∧ PermIn a' b' d2 d3 ∧ At L0 w [blkU g d3 r] wc)
                case first =>
                  cases c
                  · go_wp2_with fail
                    go_meet
                    case rel => exact ⟨d2, rfl, Sort.permIn_refl _ _ _, hA⟩
                  · have hs := Lib.hid (Sort.partialInsertionSort_holds Sort.swo_ltInt d2 a' b' (by omega) (by omega) B2.out)
                    go_wp2_with fail
                    refine (partialIns_any (hA.sep1 .here) (s2.trans (s1.trans (hsk.trans hn))) (a := a') (b := b') (by omega) (by omega) (by omega)).mono ?_
                    rintro e w1 ⟨rfl, hT1⟩
                    have hB := hA.call1 .here hT1
                    clear hA hT1
                    cases hq : (Sort.partialInsertionSort ltInt d2 a' b').2
                    · go_wp2_with fail
                      go_meet
                      case rel => exact ⟨_, rfl, hs.out.1, hB⟩
                    · have hh := Lib.hid (T2.out _ hs.out.1 (hs.out.2 hq))
                      go_wp2_with fail
                      refine bodyPost_ret (results_none rfl _ _ _) rfl ?_
                      exact ⟨_, rfl, hh.out.1, hh.out.2, hB⟩
                case rest =>
                  obtain ⟨d3, rfl, hp3, hB⟩ := hcut
                  clear hA
                  have hA := hB
                  clear hB
                  have s3 : d3.size = d2.size := hp3.1
                  have T3 := Lib.hid (Todo.step T2.out hp3)
                  have B3 := Lib.hid (Sort.Below.perm B2.out (by omega) hp3)
                  clear hp3 T2 B2
                  go_upto_region 17 with fail
                  go_cut [87] from 19 to 133 (fun u wc => ∃ c : Bool, u = .bool c ∧ (c = true → 0 < a' ∧ ltInt d3[a' - 1]! d3[p2]! = false) ∧ At L0 w [blkU g d3 r] wc)
                  case first =>
                    have hF := hA.facts
                    (try simp only [setL, List.set_cons_zero, List.set_cons_succ, List.cons_append, List.nil_append] at hA); (have hF := hA.facts); (try simp only [facts_cons, facts_nil, facts_cells, facts_old, facts_fact, facts_obj, facts_map, facts_iter, and_true, true_and] at hF)
                    by_cases ha0 : 0 < a'
                    · have hg : decide ((0 : Int) < (a' : Int)) = true := by simp; omega
                      obtain ⟨y, hy⟩ : ∃ y, a' = y + 1 := ⟨a' - 1, by omega⟩
                      have ey : (a' : Int) - 1 = (y : Int) := by omega
                      have gy1 : a' ≤ y + 1 := by omega
                      have gy2 : y + 1 ≤ a' := by omega
                      have hy' := Lib.hid (show a' - 1 = y by omega)
                      clear hy
                      have e1 := rowC_at (d := d3) (r := r) (i := y) (by omega)
                      have e2 := rowC_at (d := d3) (r := r) (i := p2) (by omega)
                      cases hl : ltU (atU d3 y) (atU d3 p2)
                      · have hl' := Lib.hid hl
                        clear hl
                        go_wp2_with fail
                        (refine wp_region_all (Cl _ _ _) (by kernel_rfl) (by kernel_rfl) (Cl.drew hA) ?_); (have hn1 := Cl.none hA); (have hn2 := Cl.none2 hA); (repeat (first | go_big_quiet_skip | (go_big_quiet_want; (first | (refine quiet_load_at rfl rfl (by with_reducible repeat (first | exact Sel.here | apply Sel.there)) (by kernel_rfl) (by first | assumption | exact rfl) ?_; go_frame; go_big_quiet_on) | (go_big_quiet_op; (first | go_big_quiet_on | ((apply Exists.intro); (refine ⟨fun w1 hw => ?_, ?_⟩); (focus ((have hw := Cl.out hw); (exact less_in hw _ _ hl'.out))); (go_big_quiet_on))))))))
                        (refine wpQuiet_nil ?_); (intro w1 hB); (clear hF hA hn1 hn2); (have hA := Cl.out hB); (clear hB); (try simp only [setL, List.set_cons_zero, List.set_cons_succ, List.cons_append, List.nil_append] at hA); (have hF := hA.facts); (try simp only [facts_cons, facts_nil, facts_cells, facts_old, facts_fact, facts_obj, facts_map, facts_iter, and_true, true_and] at hF)
                        go_wp2_with fail
                        go_meet
                        case rel => exact ⟨true, rfl, fun _ => ⟨ha0, by rw [hy'.out]; exact hl'.out⟩, hA⟩
                      · have hl' := Lib.hid hl
                        clear hl
                        go_wp2_with fail
                        (refine wp_region_all (Cl _ _ _) (by kernel_rfl) (by kernel_rfl) (Cl.drew hA) ?_); (have hn1 := Cl.none hA); (have hn2 := Cl.none2 hA); (repeat (first | go_big_quiet_skip | (go_big_quiet_want; (first | (refine quiet_load_at rfl rfl (by with_reducible repeat (first | exact Sel.here | apply Sel.there)) (by kernel_rfl) (by first | assumption | exact rfl) ?_; go_frame; go_big_quiet_on) | (go_big_quiet_op; (first | go_big_quiet_on | ((apply Exists.intro); (refine ⟨fun w1 hw => ?_, ?_⟩); (focus ((have hw := Cl.out hw); (exact less_in hw _ _ hl'.out))); (go_big_quiet_on))))))))
                        (refine wpQuiet_nil ?_); (intro w1 hB); (clear hF hA hn1 hn2); (have hA := Cl.out hB); (clear hB); (try simp only [setL, List.set_cons_zero, List.set_cons_succ, List.cons_append, List.nil_append] at hA); (have hF := hA.facts); (try simp only [facts_cons, facts_nil, facts_cells, facts_old, facts_fact, facts_obj, facts_map, facts_iter, and_true, true_and] at hF)
                        go_wp2_with fail
                        go_meet
                        case rel => exact ⟨false, rfl, nofun, hA⟩
                    · have hg : decide ((0 : Int) < (a' : Int)) = false := by simp; omega
                      go_wp2_with fail
                      (refine wp_region_all (Cl _ _ _) (by kernel_rfl) (by kernel_rfl) (Cl.drew hA) ?_); (have hn1 := Cl.none hA); (have hn2 := Cl.none2 hA); (repeat (first | go_big_quiet_skip | (go_big_quiet_want; (first | (refine quiet_load_at rfl rfl (by with_reducible repeat (first | exact Sel.here | apply Sel.there)) (by kernel_rfl) (by first | assumption | exact rfl) ?_; go_frame; go_big_quiet_on) | (go_big_quiet_op; (first | go_big_quiet_on | ((apply Exists.intro); (refine ⟨fun w1 hw => ?_, ?_⟩); (focus ((have hw := Cl.out hw); (fail))); (go_big_quiet_on))))))))
                      (refine wpQuiet_nil ?_); (intro w1 hB); (clear hF hA hn1 hn2); (have hA := Cl.out hB); (clear hB); (try simp only [setL, List.set_cons_zero, List.set_cons_succ, List.cons_append, List.nil_append] at hA); (have hF := hA.facts); (try simp only [facts_cons, facts_nil, facts_cells, facts_old, facts_fact, facts_obj, facts_map, facts_iter, and_true, true_and] at hF)
                      go_wp2_with fail
                      go_meet
                      case rel => exact ⟨false, rfl, nofun, hA⟩
                  case rest =>
                    obtain ⟨c, rfl, hc, hB⟩ := hcut
                    clear hA
                    have hA := hB
                    clear hB
                    have hc' := Lib.hid hc
                    clear hc
                    cases c
                    · rcases hx : Sort.partition ltInt d3 a' b' p2 with ⟨mid, ap, d4⟩
                      have hr := Sort.round_part Sort.swo_ltInt (Sort.partition_holds ltInt) hpa2 hpb2 (by omega) B3.out hx
                      obtain ⟨m1, m2, s4, BL, BR, RL, RR⟩ := hr
                      have BL' := Lib.hid BL
                      have BR' := Lib.hid BR
                      have RL' := Lib.hid RL
                      have RR' := Lib.hid RR
                      clear BL BR RL RR
                      have hx' := Lib.hid hx
                      clear hx
                      go_wp2_with (go_at_call 90; refine (partition_any (hA.sep1 .here) (s3.trans (s2.trans (s1.trans (hsk.trans hn)))) hpa2 hpb2 (by omega) (by omega)).mono ?_; unfold PartPost; rw [hx'.out]; rintro e w1 ⟨rfl, hT1⟩; have hB := hA.call1 .here hT1; clear hA hT1; have hA := hB; clear hB; simp only [])
                      · -- the left one is the smaller
                        refine (ih (hA.sep1 .here) (s4.trans (s3.trans (s2.trans (s1.trans (hsk.trans hn))))) (a := a') (b := mid) (limit := l2) (by omega) m1 (by omega) hl2 (by omega) BL'.out).mono ?_
                        rintro e w1 ⟨d5, rfl, hp5, hs5, hT1⟩
                        have hB := hA.call1 .here hT1
                        clear hA hT1
                        have hA := hB
                        clear hB
                        have s5 : d5.size = d4.size := hp5.1
                        have hh := Lib.hid (RL'.out d5 hp5 hs5)
                        clear hp5 hs5
                        go_wp2_with fail
                        go_roundg (b' - (mid + 1))
                        case measure => omega
                        case rel => exact ⟨mid + 1, b', l2, _, _, d5, by simp, rfl, rfl, rfl, rfl, by omega, hb', Nat.le_refl _, by omega, hl2, by omega, hh.out.1, hA, fun R h1 h2 => T3.out R (hh.out.2 R h1 h2).1 (hh.out.2 R h1 h2).2⟩
                      · have em : (mid : Int) + 1 = ((mid + 1 : Nat) : Int) := by omega
                        rw [em]
                        refine (ih (hA.sep1 .here) (s4.trans (s3.trans (s2.trans (s1.trans (hsk.trans hn))))) (a := mid + 1) (b := b') (limit := l2) (by omega) (by omega) (by omega) hl2 (by omega) BR'.out).mono ?_
                        rintro e w1 ⟨d5, rfl, hp5, hs5, hT1⟩
                        have hB := hA.call1 .here hT1
                        clear hA hT1
                        have hA := hB
                        clear hB
                        have s5 : d5.size = d4.size := hp5.1
                        have hh := Lib.hid (RR'.out d5 hp5 hs5)
                        clear hp5 hs5
                        go_wp2_with fail
                        go_roundg (mid - a')
                        case measure => omega
                        case rel => exact ⟨a', mid, l2, _, _, d5, rfl, rfl, rfl, rfl, rfl, m1, by omega, Nat.le_refl _, by omega, hl2, by omega, hh.out.1, hA, fun R h1 h2 => T3.out R (hh.out.2 R h1 h2).1 (hh.out.2 R h1 h2).2⟩
                    · rcases hx : Sort.partitionEqual ltInt d3 a' b' p2 with ⟨mid, d4⟩
                      have hr := Sort.round_eq Sort.swo_ltInt (Sort.partitionEqual_holds ltInt) (hc'.out rfl).1 hpa2 hpb2 (by omega) B3.out (hc'.out rfl).2 hx
                      obtain ⟨m1, m2, s4, BR, RR⟩ := hr
                      have BR' := Lib.hid BR
                      have RR' := Lib.hid RR
                      clear BR RR
                      have hx' := Lib.hid hx
                      clear hx
                      go_wp2_with (go_at_call 89; refine (partitionEqual_any (hA.sep1 .here) (s3.trans (s2.trans (s1.trans (hsk.trans hn)))) hpa2 hpb2 (by omega) (by omega)).mono ?_; unfold PartEqPost; rw [hx'.out]; rintro e w1 ⟨rfl, hT1⟩; have hB := hA.call1 .here hT1; clear hA hT1; have hA := hB; clear hB; simp only [])
                      go_roundg (b' - mid)
                      case measure => omega
                      case rel => exact ⟨mid, b', l2, _, _, d4, rfl, rfl, rfl, rfl, rfl, m2, hb', Nat.le_refl _, by omega, hl2, by omega, BR'.out, hA, fun R h1 h2 => T3.out R (RR'.out R h1 h2).1 (RR'.out R h1 h2).2⟩
end Go.Proofs.Ytbdcgadcjgmgbaa.SortU
end

section
namespace Go.Proofs.Ytbdcgadcjgmgbaa.SortU
open Go.RowKit Go.Shelf
open Go.Sort (ltInt PermIn SortedIn)
open Go.Maps (Keyed)
open _root_.Go.Proofs.Ytbdcgadcjgmgbaa.Unt (seV seL)
set_option linter.unusedSimpArgs false
set_option linter.unusedVariables false

def sortI (l : List Int) : List Int := l.mergeSort fun x y => decide (x ≤ y)
theorem sortI_of {zs : List Int} {R : Array Int} (hP : PermIn 0 zs.length zs.toArray R) (hS : SortedIn ltInt 0 zs.length R) : R.toList = sortI zs := by
  have h := Sort.sorted_unique_holds Sort.swo_ltInt (fun x y h1 h2 => by simp only [ltInt, decide_eq_false_iff_not] at h1 h2; omega) zs.toArray R (by simpa using hP) (by simpa using hS)
  rw [h]
  unfold sortI
  simp only []
  congr 1
  funext x y
  show (!decide (y < x)) = decide (x ≤ y)
  by_cases h : x ≤ y
  · have h' : ¬ y < x := by omega
    simp [h, h']
  · have h' : y < x := by omega
    simp [h, h']
theorem sortI_perm {l m : List Int} (h : l.Perm m) : sortI l = sortI m := by
  have hp : (sortI l).Perm (sortI m) := (List.mergeSort_perm l _).trans (h.trans (List.mergeSort_perm m _).symm)
  have tr : ∀ a b c : Int, decide (a ≤ b) = true → decide (b ≤ c) = true → decide (a ≤ c) = true := by intro a b c h1 h2; simp at *; omega
  have tt : ∀ a b : Int, (decide (a ≤ b) || decide (b ≤ a)) = true := by intro a b; simp; omega
  refine List.Perm.eq_of_pairwise (le := fun a b => decide (a ≤ b) = true) ?_ (List.pairwise_mergeSort tr tt l) (List.pairwise_mergeSort tr tt m) hp
  intro a b _ _ h1 h2
  simp at h1 h2
  omega
theorem sortI_len (l : List Int) : (sortI l).length = l.length := List.length_mergeSort l
theorem flat_seL (l : List Int) : l.flatMap seL = l.map (Value.int .u64) := by
  induction l with
  | nil => rfl
  | cons x l ih => rw [List.flatMap_cons, ih]; rfl
abbrev rowI (v : Value) (l : List Int) : Part := .row 23 1 v l.length (l.flatMap seL)
set_option maxRecDepth 100000 in
theorem ins_none (ax : Option Addr) (cap : Nat) (w : World) : Calls Try.prog 82 #[.slice ax 0 cap, .int .i64 0, .int .i64 0] w fun e w' => e = .returned (.tuple #[]) ∧ w' = w := by
  go_enter Try.func82, Try.ntmps82
  go_wp2_with fail
  go_loopg [6] 0 (fun (k : Nat) u wr => u = .int .i64 1 ∧ wr = w)
  case atStart => exact ⟨rfl, rfl⟩
  case round =>
    obtain ⟨rfl, rfl⟩ := hrel
    go_wp2_with fail
    go_end0
    exact ⟨rfl, rfl⟩
set_option maxRecDepth 100000 in
theorem pdq_none (ax : Option Addr) (cap : Nat) (w : World) : Calls Try.prog 75 #[.slice ax 0 cap, .int .i64 0, .int .i64 0, .int .i64 0] w fun e w' => e = .returned (.tuple #[]) ∧ w' = w := by
  go_enter Try.func75, Try.ntmps75
  go_wp2_with fail
  go_loopg [1, 2, 3] 0 (fun (k : Nat) u1 u2 u3 wr => u1 = .int .i64 0 ∧ u2 = .int .i64 0 ∧ u3 = .int .i64 0 ∧ wr = w)
  case atStart => exact ⟨rfl, rfl, rfl, rfl⟩
  case round =>
    obtain ⟨rfl, rfl, rfl, rfl⟩ := hrel
    go_wp2_with fail
    refine (ins_none _ _ _).mono ?_
    rintro e w' ⟨rfl, rfl⟩
    go_wp2_with fail
    refine bodyPost_ret (results_none rfl _ _ _) rfl ?_
    exact ⟨rfl, rfl⟩
set_option maxRecDepth 100000 in
/-- slices.Sort: the row is sorted where it lies -/
theorem sort_any {w : World} {v : Value} {l : List Int} (h : Sep [rowI v l] w) (hmax : l.length < 4611686018427387904) :
    Calls Try.prog 60 #[v] w fun e w' => e = .returned (.tuple #[]) ∧ At [rowI v l] w [rowI v (sortI l)] w' := by
  have hA := At.start h
  clear h
  obtain ⟨ax, cap, rfl, hax, hcap, _⟩ := hA.row_form (v := v) (xs := l.flatMap seL) .here
  have hLen : ∀ w, Calls Try.prog 55 #[.int .u64 (l.length : Int)] w fun e w' => e = .returned (.int .i64 (Lib.bitLen l.length : Nat)) ∧ w' = w := fun w => by
    have h := Try.bits_Len (l.length : Int) w (by omega) (by omega)
    rwa [Int.toNat_natCast] at h
  have hk := (bitLen_le l.length (by omega)).2 hmax
  have hlw : IntKind.u64.wrap (l.length : Int) = (l.length : Int) := by rw [IntKind.wrap_u64]; omega
  by_cases hl : 0 < l.length
  · obtain ⟨g, c, rfl, _, hcm, hcl, hct, hB⟩ := hA.row_open (ax := ax) (cap := cap) (n := l.length) (xs := l.flatMap seL) .here hl
    have hc : c = rowC l.toArray (c.drop l.length) := by
      unfold rowC
      rw [List.toList_toArray, ← flat_seL, ← hct, Nat.mul_one, List.take_append_drop]
    obtain ⟨r, hr⟩ : ∃ r, c.drop l.length = r := ⟨_, rfl⟩
    rw [hr] at hc
    have hrl : r.length = cap - l.length := by rw [← hr, List.length_drop, hcl]; omega
    subst hc
    have hrl' := Lib.hid hrl
    clear hr hct hcl hrl hA
    have hA := hB
    clear hB
    go_enter Try.func60, Try.ntmps60
    go_wp2_with (first | (go_at_call 55; refine (hLen _).mono ?_; rintro e w' ⟨rfl, rfl⟩))
    refine (pdq_any (l.length + 1) (g := g) (d := l.toArray) (r := r) (a := 0) (b := l.length) (limit := Lib.bitLen l.length) (hA.sep1 .here) (by simp) (by omega) (by omega) (by simp) (by omega) (by simpa using hmax) (.inl rfl)).mono ?_
    rintro e w1 ⟨R, rfl, hp, hs, hT⟩
    have hB := hA.call1 .here hT
    clear hA hT
    have hR := Lib.hid (sortI_of hp hs)
    have hsz : R.size = l.length := by have := hp.1; simpa using this
    clear hp hs
    go_wp2_with fail
    go_end0
    refine ⟨rfl, ?_⟩
    have hC := hB.row_shut (size := 1) (n := l.length) (xs := (sortI l).flatMap seL) .here (cap := cap) (by rw [rowC_len, hrl'.out, hsz]; omega) hcap hcm (by
      unfold rowC
      rw [hR.out, ← flat_seL, Nat.mul_one, List.take_append_of_le_length (by rw [flat_len seL 1 (fun _ => rfl), sortI_len]; omega), List.take_of_length_le (by rw [flat_len seL 1 (fun _ => rfl), sortI_len]; omega)])
    unfold rowI
    rw [sortI_len]
    exact hC.pick (by with_reducible repeat (first | exact Picks.nil | refine Picks.cons (by with_reducible repeat (first | exact Sel.here | apply Sel.there)) ?_))
  · have h0 : l = [] := List.eq_nil_of_length_eq_zero (by omega)
    subst h0
    have hz : (([] : List Int).length : Int) = 0 := rfl
    have hbl : Lib.bitLen 0 = 0 := rfl
    simp only [List.length_nil] at *
    go_enter Try.func60, Try.ntmps60
    go_wp2_with (first | (go_at_call 55; refine (hLen _).mono ?_; rintro e w' ⟨rfl, rfl⟩))
    refine (pdq_none _ _ _).mono ?_
    rintro e w1 ⟨rfl, rfl⟩
    go_wp2_with fail
    go_end0
    exact ⟨rfl, by simpa [sortI] using hA⟩

/-! ### slices.Collect, slices.Sorted -/
set_option maxRecDepth 100000 in
set_option maxHeartbeats 2000000 in
theorem collect_in (F : Fence) (n : Nat) (hF : F.fn 59) (hF2 : F.fn 74) (hro : F.round = none) (hn : 4 ≤ n) (gf : Nat) (lb : Array Value) (hFg : F.fn gf) (eg : ∀ args w, (callFunc gf args).run Try.prog w = .ok (.enter gf args) w)
    (S Sp : List Int → Prop) (N : Nat) (hN : N ≤ 100000000) (w : World) (hseq : SeqStopsK F (n - 1 - 1) Try.prog gf lb (fun x : Int => #[seV x]) KeepsWalks S Sp N w) :
    CallsIn F n Try.prog 59 #[.func (.func gf) #[] lb] w fun e w' => ∃ (v : Value) (ss : List Int), e = .returned v ∧ S ss ∧ w'.ownsRow w.heap.size 23 1 v ss.length (ss.flatMap seL) ∧ (v = .slice none 0 0 ↔ ss = []) ∧ Below w.heap.size w w' := by
  have h1 : 1 ≤ n := by omega
  refine callsIn_of_wp Try.func59 rfl hF ?_ hro
  simp only [Try.ntmps59, List.size_toArray, List.length_cons, List.length_nil, Nat.reduceAdd, Nat.reduceSub, Array.replicate_succ, Array.replicate_zero, List.push_toArray, List.append_toArray, List.nil_append, List.cons_append]
  gi_wp2_with (gi_at_call 74; refine (Unt.appendSeq_in F (n - 1) hF2 hro (by omega) gf lb hFg eg S Sp N hN _ hseq).mono ?_; rintro e W ⟨v, ss, rfl, hS, hrow, hnil, hb⟩)
  go_ret
  exact ⟨v, ss, rfl, hS, hrow, hnil, hb⟩
theorem collect_keys (Bm b : Nat) (es : List (Value × Value)) (ks : List Int) (hes : es.map (·.1) = ks.map seV) (w : World) (hBm : Bm < w.heap.size) (hm : w.cell? ⟨Bm, 0, none⟩ = some (.map (some b))) (hM : MapAt Try.prog 23 w b es) (hN : ks.length ≤ 100000000) :
    Calls Try.prog 59 #[.func (.func 61) #[] #[.pointer (some ⟨Bm, 0, none⟩)]] w fun e w' => ∃ (v : Value) (ss : List Int), e = .returned v ∧ ss.Perm ks ∧ w'.ownsRow w.heap.size 23 1 v ss.length (ss.flatMap seL) ∧ (v = .slice none 0 0 ↔ ss = []) ∧ Below w.heap.size w w' :=
  callsIn_wide.1 (collect_in Fence.wide 5 trivial trivial rfl (by omega) _ _ trivial (enters_of Try.func61 (by kernel_rfl) rfl) _ _ ks.length hN w
    (Unt.keys_stops Fence.wide _ trivial rfl (by omega) Bm b es ks hes w hBm hm hM))
def SortedPost (L0 : List Part) (w : World) (L : List Part) (ks : List Int) (e : Ending) (w' : World) : Prop := ∃ v, e = .returned v ∧ At L0 w (rowI v (sortI ks) :: L) w'
set_option maxRecDepth 100000 in
/-- slices.Sorted(maps.Keys(m)): behind the closure's cell and the map -/
theorem sorted_any {L0 L F G : List Part} {w0 w : World} {Bm b : Nat} {es : List (Value × Value)} {T : TypeId} (hA : At L0 w0 L w) (s1 : Sel (Part.cells Bm [.map (some b)] T) L F) (s2 : Sel (Part.map Try.prog 23 b es) L G) (ks : List Int) (hes : es.map (·.1) = ks.map seV) (hN : ks.length ≤ 100000000) :
    Calls Try.prog 49 #[.func (.func 61) #[] #[.pointer (some ⟨Bm, 0, none⟩)]] w (SortedPost L0 w0 L ks) := by
  have hb : BlockIs w Bm [.map (some b)] T := hA.get s1
  have hC := collect_keys Bm b es ks hes w hb.lt (hb.cell 0) (hA.get s2) hN
  clear hes
  go_enter Try.func49, Try.ntmps49
  go_wp2_with fail
  refine hC.mono ?_
  rintro e w1 ⟨v, ss, rfl, hp, hrow, _, hbl⟩
  have hB := hA.row_new hbl hrow
  have hss := Lib.hid (sortI_perm hp)
  have hll := hp.length_eq
  clear hA hC hrow hbl hb
  go_wp2_with fail
  refine (sort_any (l := ss) (hB.sep1 .here) (by omega)).mono ?_
  rintro e w2 ⟨rfl, hT⟩
  have hD := hB.call1 .here hT
  clear hB hT
  go_wp2_with fail
  go_ret
  rw [hss.out] at hD
  exact ⟨v, rfl, hD⟩
theorem mkeys_in (mb : Option Nat) (w : World) :
    Calls Try.prog 50 #[.map mb] w fun e w' => e = .returned (.func (.func 61) #[] #[.pointer (some ⟨w.heap.size, 0, none⟩)]) ∧ w' = w.alloc (.cells #[.map mb] 84) :=
  callsIn_wide.1 (Unt.keys_in Fence.wide 1 trivial rfl mb w)
end Go.Proofs.Ytbdcgadcjgmgbaa.SortU
end
