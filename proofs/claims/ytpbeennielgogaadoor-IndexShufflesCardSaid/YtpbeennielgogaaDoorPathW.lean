/- The walks of a path's letters and parts. -/
import Derived.Test.YtpbeennielgogaaDoorPathP
import Derived.Test.YtpbeennielgogaaDoorRow4
import Derived.Test.YtpbeennielgogaaDoorMapW
import Derived.Test.YtpbeennielgogaaDoorChecked
import Derived.Laws.RangeAny
import Derived.Lib.OthersKept
import Derived.Deep.QuietTactic
import Derived.BigQuiet
import Derived.Deep.LoopGhost
import Derived.WalkLawsBesides
namespace Go.Proofs.YtpbeennielgogaaDoor.Path
open Go.RowKit
set_option linter.unusedSimpArgs false
set_option linter.unusedVariables false

def letR (r : Int) : Bool := (decide (97 ≤ r) && decide (r ≤ 122)) || (decide (48 ≤ r) && decide (r ≤ 57)) || decide (r = 45) || decide (r = 95)
theorem letR_eq (c : UInt8) : letR (c.toNat : Int) = letB c := by
  unfold letR letB
  rw [Bool.eq_iff_iff]
  simp only [Bool.or_eq_true, Bool.and_eq_true, decide_eq_true_eq]
  omega
theorem letR_high {r : Int} (h : 128 ≤ r) : letR r = false := by
  unfold letR
  have h1 : ¬ r ≤ 122 := by omega
  have h2 : ¬ r ≤ 57 := by omega
  have h3 : ¬ r = 45 := by omega
  have h4 : ¬ r = 95 := by omega
  simp [h1, h2, h3, h4]
theorem letter_cases (r : Int) : (97 ≤ r ∧ r ≤ 122) ∨ (48 ≤ r ∧ r ≤ 57) ∨ r = 45 ∨ r = 95 ∨ (r < 45) ∨ (45 < r ∧ r < 48) ∨ (57 < r ∧ r < 95) ∨ r = 96 ∨ 122 < r := by omega
set_option maxRecDepth 100000 in
theorem letter_any (r : Int) (w : World) : Calls Tryd.prog 58 #[.int .i32 r] w fun e w' => e = .returned (.bool (letR r)) ∧ w = w' := by
  have key : ∀ (b1 b2 b3 b4 b5 b6 : Bool), decide (97 ≤ r) = b1 → decide (r ≤ 122) = b2 → decide (48 ≤ r) = b3 → decide (r ≤ 57) = b4 → decide (r = 45) = b5 → decide (r = 95) = b6 →
      Calls Tryd.prog 58 #[.int .i32 r] w fun e w' => e = .returned (.bool ((b1 && b2) || (b3 && b4) || b5 || b6)) ∧ w = w' := by
    intro b1 b2 b3 b4 b5 b6 h1 h2 h3 h4 h5 h6
    have h5' : (r == 45) = b5 := by rw [← h5]; rfl
    have h6' : (r == 95) = b6 := by rw [← h6]; rfl
    clear h5 h6
    cases b1 <;> cases b2 <;> cases b3 <;> cases b4 <;> cases b5 <;> cases b6
    all_goals first
      | (exfalso; simp at h1 h2 h3 h4 h5' h6'; omega)
      | (go_enter Tryd.func58, Tryd.ntmps58
         go_wp2
         go_ret
         exact ⟨rfl, rfl⟩)
  exact key _ _ _ _ _ _ rfl rfl rfl rfl rfl rfl

/-! ### A range over a text -/
section
variable {P : Program} {ops : Array Oper} {rest : List Oper} {o : Oper} {a : Act} {Q : Exit → Act → World → Prop} {L0 L F : List Part} {w0 w : World}
theorem wpList_srange_at {t : TypeId} {x : Operand} {s : ByteArray} (hg : o.guard = none) (hop : o.op = .range t x) (hx : a.eval x = .string s) (ht : P.underlying t = some .string) (h : At L0 w0 L w)
    (hK : ∀ r w', At L0 w0 (Part.obj r (.stringIter s 0) :: L) w' → w0.heap.size ≤ r → wpList P ops Q rest (a.put o.dst (.pointer (some ⟨r, 0, none⟩))) w') : wpList P ops Q (o :: rest) a w := by
  refine wpList_val hg ?_ (hK _ _ (h.allocObj (.stringIter s 0)) h.size)
  simp [execOp, hop, hx, run_range_string w t s ht, World.iter, Result.andThen]
theorem wpList_snext_at {r pos : Nat} {s : ByteArray} {it : Operand} (hg : o.guard = none) (hop : o.op = .next it true) (hi : a.eval it = .pointer (some ⟨r, 0, none⟩)) (h : At L0 w0 L w) (sl : Sel (Part.obj r (.stringIter s pos)) L F)
    (hEnd : ¬ pos < s.size → wpList P ops Q rest (a.put o.dst (.tuple #[.bool false])) w)
    (hK : ∀ w', pos < s.size → At L0 w0 (Part.obj r (.stringIter s (pos + (Utf8.decode s pos).2)) :: F) w' → wpList P ops Q rest (a.put o.dst (.tuple #[.bool true, .int .i64 pos, .int .i32 (Utf8.decode s pos).1])) w') : wpList P ops Q (o :: rest) a w := by
  have hI : w.heap[r]? = some (.stringIter s pos) := h.get sl
  by_cases hp : pos < s.size
  · have h1 := Lib.run_next_any_at (P := P) w r s pos o.type hI hp
    refine wpList_val hg ?_ (hK _ hp (h.turn sl (Part.obj r (.stringIter s (pos + (Utf8.decode s pos).2))) (Lib.iterAt_heap w r s pos _ hI) (fun _ e => .inl e) ?_))
    · simp [execOp, hop, hi, h1, Result.andThen]
    · exact ⟨rfl, rfl, rfl, by rw [Lib.iterAt_size]; exact Nat.le_refl _, fun i _ hn => Lib.iterAt_other w r i s _ hn⟩
  · have h1 := Lib.run_next_end_at (P := P) w r s pos o.type hI hp
    refine wpList_val hg ?_ (hEnd hp)
    simp [execOp, hop, hi, h1, Result.andThen]
end

theorem all_take {s : ByteArray} {pos : Nat} (h : ¬ pos < s.size) (ha : (s.data.toList.take pos).all letB = true) : s.data.toList.all letB = true := by
  rwa [List.take_of_length_le (by simpa using Nat.le_of_not_lt h)] at ha
theorem all_succ {s : ByteArray} {pos : Nat} (h : pos < s.size) (ha : (s.data.toList.take pos).all letB = true) (hc : letB s[pos] = true) : (s.data.toList.take (pos + 1)).all letB = true := by
  rw [List.take_succ_eq_append_getElem (by simpa using h), List.all_append, ha]
  simpa using (show letB (s.data[pos]'(by simpa using h)) = true from hc)
theorem all_no {s : ByteArray} {pos : Nat} (h : pos < s.size) (hc : letB s[pos] = false) : partB s.data.toList = false := by
  unfold partB
  rw [Bool.and_eq_false_iff]
  right
  cases q : s.data.toList.all letB
  · rfl
  · have := List.all_eq_true.1 q s[pos] (by show s.data[pos]'(by simpa using h) ∈ s.data.toList; exact Array.mem_toList_iff.2 (Array.getElem_mem _))
    rw [hc] at this; cases this
theorem letB_ascii {c : UInt8} (h : letB c = true) : c.toNat < 128 := by
  unfold letB at h
  simp only [Bool.or_eq_true, Bool.and_eq_true, decide_eq_true_eq] at h
  omega
theorem dec_yes {s : ByteArray} {pos : Nat} (h : pos < s.size) (hc : letB s[pos] = true) : Utf8.decode s pos = (s[pos].toNat, 1) := decode_ascii s pos h (letB_ascii hc)
theorem dec_no {s : ByteArray} {pos : Nat} (h : pos < s.size) (hc : letB s[pos] = false) : letR ((Utf8.decode s pos).1 : Int) = false := by
  by_cases ha : s[pos].toNat < 128
  · rw [decode_ascii s pos h ha]
    simp only
    rw [letR_eq, hc]
  · have := (decode_high s pos h (by omega)).1
    exact letR_high (by omega)

def PartRel (w : World) (r : Nat) (s : ByteArray) (k : Nat) (wr : World) : Prop :=
  ∃ pos : Nat, At [] w [Part.obj r (.stringIter s pos)] wr ∧ pos + k = s.size ∧ (s.data.toList.take pos).all letB = true
set_option maxRecDepth 100000 in
theorem part_any (s : ByteArray) (w : World) : Calls Tryd.prog 51 #[.string s] w fun e w' => e = .returned (.bool (partB s.data.toList)) ∧ Ext w w' := by
  have hA := At.start (w0 := w) (L0 := []) trivial
  have hF := hA.facts
  go_enter Tryd.func51, Tryd.ntmps51
  go_wp2_with (refine wpList_srange_at rfl rfl rfl Tryd.underlying9 hA ?_; intro r w1 hB hr; clear hF hA; have hA := hB; clear hB; (try simp only [uA] at hA); have hF := hA.facts; (try simp only [fA, and_true, true_and] at hF))
  try go_frame
  go_loopg [] s.size (PartRel w r s)
  case atStart => exact ⟨0, hA, by simp, by simp⟩
  case round =>
    obtain ⟨pos, hB, hk, hal⟩ := hrel
    clear hF hA
    have hA := hB
    clear hB
    go_step
    go_step
    refine wpList_snext_at rfl rfl rfl hA (by with_reducible repeat (first | exact Sel.here | apply Sel.there)) (fun hp => ?_) (fun w1 hp hB => ?_)
    · have hall := all_take hp hal
      have e : partB s.data.toList = !s.data.toList.isEmpty := by unfold partB; rw [hall, Bool.and_true]
      have e' := Lib.hid e
      clear e hall hal
      go_wp2_with fail
      go_ret
      exact ⟨by rw [e'.out, ← Lib.toList_data]; rfl, hA.toExt⟩
    · cases hc : letB s[pos]
      · have hd := dec_no hp hc
        have hno := Lib.hid (all_no hp hc)
        clear hc hal hk
        generalize Utf8.decode s pos = d at *
        obtain ⟨d1, d2⟩ := d
        simp only at hd
        clear hA
        have hA := hB
        clear hB
        (try simp only [uA] at hA); have hF := hA.facts; (try simp only [fA, and_true, true_and] at hF)
        go_wp2_with (refine (letter_any _ _).mono ?_; rintro e _ ⟨rfl, rfl⟩)
        go_ret
        exact ⟨by rw [hno.out]; rfl, hA.toExt⟩
      · have hd := dec_yes hp hc
        have hal' := Lib.hid (all_succ hp hal hc)
        have hy : letR (s[pos].toNat : Int) = true := by rw [letR_eq, hc]
        rw [hd] at hB
        rw [hd]
        clear hd hal
        generalize s[pos] = c at *
        clear hA
        have hA := hB
        clear hB
        (try simp only [uA] at hA); have hF := hA.facts; (try simp only [fA, and_true, true_and] at hF)
        go_wp2_with (refine (letter_any _ _).mono ?_; rintro e _ ⟨rfl, rfl⟩)
        go_roundg (gk - 1)
        case measure => omega
        case rel => exact ⟨pos + 1, hA, by omega, hal'.out⟩
end Go.Proofs.YtpbeennielgogaaDoor.Path
