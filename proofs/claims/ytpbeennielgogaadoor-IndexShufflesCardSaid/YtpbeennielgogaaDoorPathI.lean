/- strings.SplitSeq at a slash: what its iterator yields. -/
import Derived.Test.YtpbeennielgogaaDoorPathW
import Derived.Test.YtpbeennielgogaaDoorSeqB
import Derived.Test.YtpbeennielgogaaDoorShelf
import Derived.RangeFuncBox
import Derived.Outline
namespace Go.Proofs.YtpbeennielgogaaDoor.Path
open Go.RowKit Go.Shelf
set_option linter.unusedSimpArgs false
set_option linter.unusedVariables false
attribute [local go_sem] Oper.semAt_some

abbrev bl (x : ByteArray) : Bs := x.data.toList
def slashB : ByteArray := ⟨#[47]⟩
def keep3 (b1 b2 b3 : Nat) (W W' : World) : Prop := ∀ b, b = b1 ∨ b = b2 ∨ b = b3 → W'.heap[b]? = W.heap[b]?
/-- how long the text in a box is -/
def lenAt (w : World) (b : Nat) : Nat := match w.heap[b]? with | some (.cells #[.string r] _ _) => r.size | _ => 0
theorem lenAt_eq {w : World} {b : Nat} {r : ByteArray} {t : TypeId} (h : Boxed w b t (.string r)) : lenAt w b = r.size := by
  unfold lenAt; rw [show w.heap[b]? = _ from h]; rfl
theorem idx_none {l : Bs} (h : Lib.indexByte l 47 < 0) : splits l = [l] := by
  refine splits_noslash l (fun c hc e => ?_)
  subst e
  have h1 : Lib.indexByte l 47 = -1 := by have := Lib.indexByte_ge l 47; omega
  obtain ⟨k, hk⟩ := List.mem_iff_getElem?.1 hc
  exact Lib.indexByte_none h1 k hk
theorem idx_some {l : Bs} {i : Nat} (h : Lib.indexByte l 47 = i) : i < l.length ∧ splits l = l.take i :: splits (l.drop (i + 1)) := by
  obtain ⟨h1, h2⟩ := Lib.indexByte_some h
  have hi := (List.getElem?_eq_some_iff.1 h1).1
  refine ⟨hi, ?_⟩
  have e : l = l.take i ++ 47 :: l.drop (i + 1) := by
    have := (List.getElem?_eq_some_iff.1 h1).2
    rw [← this, ← List.drop_eq_getElem_cons hi, List.take_append_drop]
  conv => lhs; rw [e]
  rw [splits_app _ _ (fun c hc ec => ?_)]
  subst ec
  obtain ⟨k, hk⟩ := List.mem_iff_getElem?.1 hc
  rw [List.getElem?_take] at hk
  split at hk
  · rename_i hki; exact h2 k hki hk
  · cases hk

theorem index_any (n : Nat) (r : ByteArray) (w : World) : CallsIn Fence.wide n Tryd.prog 63 #[.string r, .string ⟨#[47]⟩] w fun e w' => e = .returned (.int .i64 (Lib.indexByte r.data.toList 47)) ∧ w = w' :=
  callsIn_wide.2 ((Tryd.strings_Index_one _ _ _).mono fun _ _ ⟨he, hw⟩ => ⟨he, hw.symm⟩)
set_option maxRecDepth 100000 in
set_option maxHeartbeats 2000000 in
theorem split1_in (n : Nat) (hn : 3 ≤ n) (l Bs Bp Bv : Nat) (h12 : Bs ≠ Bp) (h13 : Bs ≠ Bv) (s : ByteArray) (hs : s.size ≤ 2000000) (J Jx : List ByteArray → World → Prop) (W : World) (hJ : AbidesB Bs J)
    (hY : ∀ pre x W1, J pre W1 → pre.length < 2000001 → YieldAt Fence.wide (n - 1) Tryd.prog l #[.string x] W1 fun e W' => (e = .returned (.bool true) ∧ J (pre ++ [x]) W' ∧ keep3 Bs Bp Bv W1 W') ∨ (e = .returned (.bool false) ∧ Jx (pre ++ [x]) W'))
    (h1 : Boxed W Bs 9 (.string s)) (h2 : Boxed W Bp 9 (.string slashB)) (h3 : Boxed W Bv 3 (.int .i64 0)) (h0 : J [] W) :
    CallsIn Fence.wide n Tryd.prog 61 #[.func (.yield l) #[] #[], .pointer (some ⟨Bp, 0, none⟩), .pointer (some ⟨Bs, 0, none⟩), .pointer (some ⟨Bv, 0, none⟩)] W fun e W' =>
      (∃ v, e = .returned v) ∧ ((∃ ys : List ByteArray, ys.map bl = splits (bl s) ∧ J ys W') ∨ (∃ pre : List ByteArray, pre.map bl <+: splits (bl s) ∧ Jx pre W')) := by
  have hn1 : 1 ≤ n := by omega
  have c1 := h1.cell
  have c2 := h2.cell
  have c3 := h3.cell
  refine callsIn_of_wp Tryd.func61 rfl trivial ?_ rfl
  simp only [Tryd.ntmps61, List.size_toArray, List.length_cons, List.length_nil, Nat.reduceAdd, Nat.reduceSub, Array.replicate_succ, Array.replicate_zero, List.push_toArray, List.append_toArray, List.nil_append, List.cons_append]
  unfold slashB at c2
  gi_wp2
  gi_loopw [7] (fun _ wr => ∃ (pre : List ByteArray) (r : ByteArray), splits (bl s) = pre.map bl ++ splits (bl r) ∧ pre.length + r.size ≤ s.size ∧ J pre wr ∧ Boxed wr Bs 9 (.string r) ∧ Boxed wr Bp 9 (.string ⟨#[47]⟩) ∧ Boxed wr Bv 3 (.int .i64 0))
    (fun _ wr => lenAt wr Bs)
  case atStart => exact ⟨[], s, rfl, by simp, h0, h1, h2, h3⟩
  case round =>
    obtain ⟨pre, r, hsp, hlen, hJs, b1, b2, b3⟩ := hrel
    clear c1 c2 c3
    have c1 := b1.cell
    have c2 := b2.cell
    have c3 := b3.cell
    rcases Int.lt_or_le (Lib.indexByte (bl r) 47) 0 with hi | hi
    · have hsr := idx_none hi
      have hi' : decide (Lib.indexByte r.data.toList 47 < 0) = true := by simpa using hi
      gi_wp2_with fail
      refine ⟨trivial, (index_any _ _ _).mono ?_⟩
      rintro e _ ⟨rfl, rfl⟩
      obtain ⟨fn, tmps, assign, body, hy, hR⟩ := hY pre r wr hJs (by omega)
      have hsp' := Lib.hid hsp
      have hsr' := Lib.hid hsr
      clear hsp hsr
      gi_wp2
      refine hR.mono ?_
      rintro e W3 (⟨rfl, hJ3, hk3⟩ | ⟨rfl, hJx3⟩)
      · gi_wp2
        go_end0
        exact ⟨⟨_, rfl⟩, .inl ⟨pre ++ [r], by rw [hsp'.out, hsr'.out]; simp, hJ3⟩⟩
      · gi_wp2
        go_end0
        exact ⟨⟨_, rfl⟩, .inr ⟨pre ++ [r], by rw [hsp'.out, hsr'.out]; simp, hJx3⟩⟩
    · obtain ⟨i, hi2⟩ := Int.eq_ofNat_of_zero_le hi
      obtain ⟨hilt, hsr⟩ := idx_some hi2
      have hi' : decide (Lib.indexByte r.data.toList 47 < 0) = false := by simpa using hi
      have hi3 := Lib.hid hi2
      have hrl : (bl r).length = r.size := by simp
      have hil : i + 1 ≤ r.size := by omega
      have hsp' := Lib.hid hsp
      have hsr' := Lib.hid hsr
      clear hsp hsr hi2
      gi_wp2_with fail
      refine ⟨trivial, (index_any _ _ _).mono ?_⟩
      rintro e _ ⟨rfl, rfl⟩
      rw [show Lib.indexByte r.data.toList 47 = (i : Int) from hi3.out]
      clear hi hi' hi3 hilt hrl
      have hi' : decide ((i : Int) < 0) = false := by simp
      obtain ⟨fn, tmps, assign, body, hy, hR⟩ := hY pre (r.extract 0 i) wr hJs (by omega)
      gi_wp2
      refine hR.mono ?_
      have e1 : bl (r.extract 0 i) = (bl r).take i := by simp [bl]
      have e2 : bl (r.extract (i + 1) r.size) = (bl r).drop (i + 1) := by simp only [bl]; simp; rw [List.take_of_length_le (by simp)]
      have e1' := Lib.hid e1
      have e2' := Lib.hid e2
      clear e1 e2
      rintro e W3 (⟨rfl, hJ3, hk3⟩ | ⟨rfl, hJx3⟩)
      · have d1 : Boxed W3 Bs 9 (.string r) := (hk3 Bs (.inl rfl)).trans b1
        have d2 : Boxed W3 Bp 9 (.string ⟨#[47]⟩) := (hk3 Bp (.inr (.inl rfl))).trans b2
        have d3 : Boxed W3 Bv 3 (.int .i64 0) := (hk3 Bv (.inr (.inr rfl))).trans b3
        have x1 := d1.cell
        have x2 := d2.cell
        have x3 := d3.cell
        have f1 := d1.frozen
        clear hR hy hk3
        gi_wp2
        have g1 := d1.set (.string (r.extract (i + 1) r.size))
        go_roundw
        case rel =>
          refine ⟨pre ++ [r.extract 0 i], r.extract (i + 1) r.size, ?_, ?_, ?_, g1, d2.other (Ne.symm h12) _, d3.other (Ne.symm h13) _⟩
          · rw [hsp'.out, hsr'.out, e2'.out]; simp [e1'.out]
          · simp; omega
          · exact hJ _ _ _ (some Bs) hJ3 (grownBy_setCell' W3 Bs _) (fun q e => by cases e; exact ⟨rfl, _, g1, rfl⟩)
        case measure =>
          rw [lenAt_eq g1, lenAt_eq b1]
          simp
          omega
      · gi_wp2
        refine bodyPost_ret (results_none rfl _ _ _) rfl ?_
        exact ⟨⟨_, rfl⟩, .inr ⟨pre ++ [r.extract 0 i], ⟨splits ((bl r).drop (i + 1)), by rw [hsp'.out, hsr'.out, List.map_append, List.append_assoc]; simp [e1'.out]⟩, hJx3⟩⟩

set_option maxRecDepth 100000 in
theorem splitSeq_any (s : ByteArray) (w : World) : Calls Tryd.prog 50 #[.string s, .string ⟨#[47]⟩] w fun e w' =>
    e = .returned (.func (.func 61) #[] #[.pointer (some ⟨w.heap.size + 1, 0, none⟩), .pointer (some ⟨w.heap.size, 0, none⟩), .pointer (some ⟨w.heap.size + 2, 0, none⟩)]) ∧
      w' = ((w.alloc (.cells #[.string s] 9)).alloc (.cells #[.string ⟨#[47]⟩] 9)).alloc (.cells #[.int .i64 0] 3) := by
  have h1 : Calls Tryd.prog 57 #[.string s, .string ⟨#[47]⟩, .int .i64 0] w fun e w' =>
    e = .returned (.func (.func 61) #[] #[.pointer (some ⟨w.heap.size + 1, 0, none⟩), .pointer (some ⟨w.heap.size, 0, none⟩), .pointer (some ⟨w.heap.size + 2, 0, none⟩)]) ∧
      w' = ((w.alloc (.cells #[.string s] 9)).alloc (.cells #[.string ⟨#[47]⟩] 9)).alloc (.cells #[.int .i64 0] 3) := by
    go_enter Tryd.func57, Tryd.ntmps57
    go_wp2
    go_ret
    exact ⟨rfl, rfl⟩
  go_enter Tryd.func50, Tryd.ntmps50
  go_wp2_with fail
  refine h1.mono ?_
  rintro e _ ⟨rfl, rfl⟩
  go_wp2_with fail
  go_ret
  exact ⟨rfl, rfl⟩
end Go.Proofs.YtpbeennielgogaaDoor.Path
