/- MapW, PathW, SeqB, PathI, CmdM, AttrM, joined. -/
import Derived.Test.YtpbeennielgogaaDoorJ2
import Derived.Test.YtpbeennielgogaaDoorJ1
import Derived.Test.YtpbeennielgogaaDoorJ0
import Derived.Test.YtpbeennielgogaaDoorChecked
import Derived.Laws.RangeAny
import Derived.Lib.OthersKept
import Derived.Deep.QuietTactic
import Derived.BigQuiet
import Derived.Deep.LoopGhost
import Derived.WalkLawsBesides
import Derived.RangeFuncNested
import Derived.RangeFuncBound
import Derived.RangeFuncCalls
import Derived.RangeFuncLeaves
import Derived.Shelf.Abstract
import Derived.WalkKit
import Derived.OwnWalkIn
import Derived.TacticsInMore
import Derived.LoopNIn
import Derived.LoopIn
import Derived.Test.YtpbeennielgogaaDoorShelf
import Derived.RangeFuncBox
import Derived.Outline
section
namespace Go.Proofs.YtpbeennielgogaaDoor
open Go.RowKit
open Go.Maps (Keyed)
set_option linter.unusedVariables false
set_option linter.unusedSimpArgs false

section
variable {P : Program} {k : TypeId} {w : World} {b : Nat} {es : List (Value × Value)}
theorem MapAt.run_len (h : MapAt P k w b es) {t e : TypeId} (ht : P.underlying t = some (.map k e)) (ty : TypeId) : (Builtin.len_ #[t] ty #[.map (some b)]).run P w = .ok (.int .i64 es.length) w := by
  obtain ⟨ents, clock, hb, hl⟩ := h.len
  simp [Builtin.len_, run_underlying ht, MapKept.run_getObj_map hb, Result.andThen, goInt, hl]
variable {ops : Array Oper} {rest : List Oper} {o : Oper} {a : Act} {Q : Exit → Act → World → Prop} {L0 L F : List Part} {w0 : World}
theorem wpList_len_map_at {t : TypeId} {m : Operand} (hg : o.guard = none) (hop : o.op = Op.call { callee := Callee.builtin Builtin.len, args := #[m], argTypes := #[t] }) (hm : a.eval m = .map (some b))
    (h : At L0 w0 L w) (s : Sel (Part.map P k b es) L F) {e : TypeId} (ht : P.underlying t = some (.map k e))
    (hK : wpList P ops Q rest (a.put o.dst (.int .i64 es.length)) w) : wpList P ops Q (o :: rest) a w := by
  have hM : MapAt P k w b es := h.get s
  refine wpList_val hg ?_ hK
  simp [execOp, hop, resolve, invoke, builtin, hm, hM.run_len ht o.type, Result.andThen]
theorem wpList_look_none_at {t : TypeId} {m x : Operand} (hg : o.guard = none) (hop : o.op = .lookup t m x true) (hm : a.eval m = .map (some b)) {key : Value} (hx : a.eval x = key)
    (h : At L0 w0 L w) (s : Sel (Part.map P k b es) L F) {e : TypeId} (K : Keyed P k) (ht : P.underlying t = some (.map k e)) {kl : Lit} (hk : keyOf P k key = some kl) (hn : ∀ p ∈ es, p.1 ≠ key) {z : Value} (hz : ∀ w, (zeroValue e).run P w = .ok z w)
    (hK : wpList P ops Q rest (a.put o.dst (.tuple #[z, .bool false])) w) : wpList P ops Q (o :: rest) a w := by
  have hM : MapAt P k w b es := h.get s
  refine wpList_val hg ?_ hK
  simp [execOp, hop, hm, hx, hM.look_none K ht hk hn (hz w) true, Result.andThen]
theorem wpList_look_some_at {t : TypeId} {m x : Operand} (hg : o.guard = none) (hop : o.op = .lookup t m x true) (hm : a.eval m = .map (some b)) {key : Value} (hx : a.eval x = key)
    (h : At L0 w0 L w) (s : Sel (Part.map P k b es) L F) {e : TypeId} (K : Keyed P k) (ht : P.underlying t = some (.map k e)) {kl : Lit} (hk : keyOf P k key = some kl) {v : Value} (hn : (key, v) ∈ es)
    (hK : wpList P ops Q rest (a.put o.dst (.tuple #[v, .bool true])) w) : wpList P ops Q (o :: rest) a w := by
  have hM : MapAt P k w b es := h.get s
  refine wpList_val hg ?_ hK
  simp [execOp, hop, hm, hx, hM.look_some K ht hk hn true, Result.andThen]
theorem wpList_look1_none_at {t : TypeId} {m x : Operand} (hg : o.guard = none) (hop : o.op = .lookup t m x false) (hm : a.eval m = .map (some b)) {key : Value} (hx : a.eval x = key)
    (h : At L0 w0 L w) (s : Sel (Part.map P k b es) L F) {e : TypeId} (K : Keyed P k) (ht : P.underlying t = some (.map k e)) {kl : Lit} (hk : keyOf P k key = some kl) (hn : ∀ p ∈ es, p.1 ≠ key) {z : Value} (hz : ∀ w, (zeroValue e).run P w = .ok z w)
    (hK : wpList P ops Q rest (a.put o.dst z) w) : wpList P ops Q (o :: rest) a w := by
  have hM : MapAt P k w b es := h.get s
  refine wpList_val hg ?_ hK
  simp [execOp, hop, hm, hx, hM.look_none K ht hk hn (hz w) false, Result.andThen]
theorem wpList_look1_some_at {t : TypeId} {m x : Operand} (hg : o.guard = none) (hop : o.op = .lookup t m x false) (hm : a.eval m = .map (some b)) {key : Value} (hx : a.eval x = key)
    (h : At L0 w0 L w) (s : Sel (Part.map P k b es) L F) {e : TypeId} (K : Keyed P k) (ht : P.underlying t = some (.map k e)) {kl : Lit} (hk : keyOf P k key = some kl) {v : Value} (hn : (key, v) ∈ es)
    (hK : wpList P ops Q rest (a.put o.dst v) w) : wpList P ops Q (o :: rest) a w := by
  have hM : MapAt P k w b es := h.get s
  refine wpList_val hg ?_ hK
  simp [execOp, hop, hm, hx, hM.look_some K ht hk hn false, Result.andThen]
/-- a new entry -/
theorem wpList_put_new_at {t : TypeId} {m x y : Operand} (hg : o.guard = none) (hop : o.op = .mapUpdate t m x y) (hm : a.eval m = .map (some b)) {key val : Value} (hx : a.eval x = key) (hy : a.eval y = val)
    (h : At L0 w0 L w) (s : Sel (Part.map P k b es) L F) {e : TypeId} (K : Keyed P k) (ht : P.underlying t = some (.map k e)) {kl : Lit} (hk : keyOf P k key = some kl) (hn : ∀ p ∈ es, p.1 ≠ key)
    (hK : ∀ w', At L0 w0 (Part.map P k b (es ++ [(key, val)]) :: F) w' → wpList P ops Q rest (a.put o.dst undef) w') : wpList P ops Q (o :: rest) a w := by
  have hM : MapAt P k w b es := h.get s
  obtain ⟨w', h1, h2, h3⟩ := hM.put_new K ht hk hn val
  refine wpList_unit hg ?_ (hK w' (h.turn s _ h2 (fun _ e => .inl e) h3))
  simp [execOp, hop, hm, hx, hy, h1, Result.andThen]
/-- a new value -/
theorem wpList_put_there_at {t : TypeId} {m x y : Operand} (hg : o.guard = none) (hop : o.op = .mapUpdate t m x y) (hm : a.eval m = .map (some b)) {key val u : Value} {l1 l2 : List (Value × Value)} (hx : a.eval x = key) (hy : a.eval y = val)
    (h : At L0 w0 L w) (s : Sel (Part.map P k b (l1 ++ (key, u) :: l2)) L F) {e : TypeId} (K : Keyed P k) (ht : P.underlying t = some (.map k e)) {kl : Lit} (hk : keyOf P k key = some kl)
    (hK : ∀ w', At L0 w0 (Part.map P k b (l1 ++ (key, val) :: l2) :: F) w' → wpList P ops Q rest (a.put o.dst undef) w') : wpList P ops Q (o :: rest) a w := by
  have hM : MapAt P k w b (l1 ++ (key, u) :: l2) := h.get s
  obtain ⟨w', h1, h2, h3⟩ := hM.put_there K ht hk val
  refine wpList_unit hg ?_ (hK w' (h.turn s _ h2 (fun _ e => .inl e) h3))
  simp [execOp, hop, hm, hx, hy, h1, Result.andThen]
/-- a new map -/
theorem wpList_makeMap_at {t : TypeId} (P : Program) (k : TypeId) (hg : o.guard = none) (hop : o.op = .makeMap t none) (h : At L0 w0 L w)
    (hK : ∀ b w', At L0 w0 (Part.map P k b [] :: L) w' → w0.heap.size ≤ b → wpList P ops Q rest (a.put o.dst (.map (some b))) w') : wpList P ops Q (o :: rest) a w := by
  refine wpList_val hg ?_ (hK _ _ (h.new ((Ext.refl w).alloc (.map #[] 0)) _ (MapAt.made P k w) (fun _ e => by cases e; exact Nat.le_refl _)) h.size)
  simp [execOp, hop, run_makeMap, Result.andThen]
/-- a range begins -/
theorem wpList_range_at {t : TypeId} {m : Operand} (hg : o.guard = none) (hop : o.op = .range t m) (hm : a.eval m = .map (some b)) (h : At L0 w0 L w) (s : Sel (Part.map P k b es) L F) {e : TypeId} (ht : P.underlying t = some (.map k e))
    (hK : ∀ r w', At L0 w0 (Part.iter P k r b es [] :: F) w' → w0.heap.size ≤ r → wpList P ops Q rest (a.put o.dst (.pointer (some ⟨r, 0, none⟩))) w') : wpList P ops Q (o :: rest) a w := by
  have hM : MapAt P k w b es := h.get s
  obtain ⟨w', h1, h2, h3⟩ := hM |> fun q => IterAt.start q ht
  refine wpList_val hg ?_ (hK _ w' (h.turn s (Part.iter P k w.heap.size b es []) h3 (fun q e => ?_) (h2.exc _)) h.size)
  · simp [execOp, hop, hm, h1, Result.andThen]
  · rcases e with e | e
    · exact .inl e
    · exact .inr (by omega)
/-- a step of a range -/
theorem wpList_next_at {r : Nat} {done : List (Value × Value)} {it : Operand} (hg : o.guard = none) (hop : o.op = .next it false) (hi : a.eval it = .pointer (some ⟨r, 0, none⟩)) (h : At L0 w0 L w) (s : Sel (Part.iter P k r b es done) L F)
    (hEnd : es.Perm done → wpList P ops Q rest (a.put o.dst (.tuple #[.bool false])) w)
    (hK : ∀ p w', p ∈ es → (∀ q ∈ done, q.1 ≠ p.1) → At L0 w0 (Part.iter P k r b es (done ++ [p]) :: F) w' → wpList P ops Q rest (a.put o.dst (.tuple #[.bool true, p.1, p.2])) w') : wpList P ops Q (o :: rest) a w := by
  have hI : IterAt P k w r b es done := h.get s
  rcases hI.next o.type with ⟨h1, h2⟩ | ⟨p, w', h1, h2, h3, h4, h5⟩
  · refine wpList_val hg ?_ (hEnd h1)
    simp [execOp, hop, hi, h2, Result.andThen]
  · refine wpList_val hg ?_ (hK p w' h1 h2 (h.turn s (Part.iter P k r b es (done ++ [p])) h4 (fun q e => .inl e) (h5.mono (fun _ _ e => .inr e))))
    simp [execOp, hop, hi, h3, Result.andThen]
theorem wpList_entry_at {r : Nat} {done : List (Value × Value)} {p : Value × Value} {it : Operand} (hg : o.guard = none) (hop : o.op = .entry it) (hi : a.eval it = .pointer (some ⟨r, 0, none⟩)) (h : At L0 w0 L w) (s : Sel (Part.iter P k r b es (done ++ [p])) L F)
    (hK : wpList P ops Q rest (a.put o.dst (.tuple #[p.1, p.2])) w) : wpList P ops Q (o :: rest) a w := by
  have hI : IterAt P k w r b es (done ++ [p]) := h.get s
  refine wpList_val hg ?_ hK
  simp [execOp, hop, hi, hI.entry, Result.andThen]
/-- behind a range -/
theorem At.ranged {r : Nat} {done : List (Value × Value)} (h : At L0 w0 L w) (s : Sel (Part.iter P k r b es done) L F) : At L0 w0 (Part.map P k b es :: F) w := by
  have hI : IterAt P k w r b es done := h.get s
  exact h.turn s (Part.map P k b es) hI.1 (fun _ e => .inl (.inl e)) (Exc.refl _ _)
end
end Go.Proofs.YtpbeennielgogaaDoor
end

section
namespace Go.Proofs.YtpbeennielgogaaDoor.Path
open Go.RowKit
set_option linter.unusedSimpArgs false
set_option linter.unusedVariables false

def letR (r : Int) : Bool := (decide (97 ≤ r) && decide (r ≤ 122)) || (decide (48 ≤ r) && decide (r ≤ 57)) || decide (r = 45) || decide (r = 95)
theorem letR_eq (c : UInt8) : letR (c.toNat : Int) = letB c := by
  unfold letR letB
  rw [Bool.eq_iff_iff]
  simp only [Bool.or_eq_true, Bool.and_eq_true, decide_eq_true_eq]
  omega
theorem letR_high {r : Int} (h : 128 ≤ r) : letR r = false := by
  unfold letR
  have h1 : ¬ r ≤ 122 := by omega
  have h2 : ¬ r ≤ 57 := by omega
  have h3 : ¬ r = 45 := by omega
  have h4 : ¬ r = 95 := by omega
  simp [h1, h2, h3, h4]
theorem letter_cases (r : Int) : (97 ≤ r ∧ r ≤ 122) ∨ (48 ≤ r ∧ r ≤ 57) ∨ r = 45 ∨ r = 95 ∨ (r < 45) ∨ (45 < r ∧ r < 48) ∨ (57 < r ∧ r < 95) ∨ r = 96 ∨ 122 < r := by omega
set_option maxRecDepth 100000 in
theorem letter_any (r : Int) (w : World) : Calls Tryd.prog 58 #[.int .i32 r] w fun e w' => e = .returned (.bool (letR r)) ∧ w = w' := by
  have key : ∀ (b1 b2 b3 b4 b5 b6 : Bool), decide (97 ≤ r) = b1 → decide (r ≤ 122) = b2 → decide (48 ≤ r) = b3 → decide (r ≤ 57) = b4 → decide (r = 45) = b5 → decide (r = 95) = b6 →
      Calls Tryd.prog 58 #[.int .i32 r] w fun e w' => e = .returned (.bool ((b1 && b2) || (b3 && b4) || b5 || b6)) ∧ w = w' := by
    intro b1 b2 b3 b4 b5 b6 h1 h2 h3 h4 h5 h6
    have h5' : (r == 45) = b5 := by rw [← h5]; rfl
    have h6' : (r == 95) = b6 := by rw [← h6]; rfl
    clear h5 h6
    cases b1 <;> cases b2 <;> cases b3 <;> cases b4 <;> cases b5 <;> cases b6
    all_goals first
      | (exfalso; simp at h1 h2 h3 h4 h5' h6'; omega)
      | (go_enter Tryd.func58, Tryd.ntmps58
         go_wp2
         go_ret
         exact ⟨rfl, rfl⟩)
  exact key _ _ _ _ _ _ rfl rfl rfl rfl rfl rfl

/-! ### A range over a text -/
section
variable {P : Program} {ops : Array Oper} {rest : List Oper} {o : Oper} {a : Act} {Q : Exit → Act → World → Prop} {L0 L F : List Part} {w0 w : World}
theorem wpList_srange_at {t : TypeId} {x : Operand} {s : ByteArray} (hg : o.guard = none) (hop : o.op = .range t x) (hx : a.eval x = .string s) (ht : P.underlying t = some .string) (h : At L0 w0 L w)
    (hK : ∀ r w', At L0 w0 (Part.obj r (.stringIter s 0) :: L) w' → w0.heap.size ≤ r → wpList P ops Q rest (a.put o.dst (.pointer (some ⟨r, 0, none⟩))) w') : wpList P ops Q (o :: rest) a w := by
  refine wpList_val hg ?_ (hK _ _ (h.allocObj (.stringIter s 0)) h.size)
  simp [execOp, hop, hx, run_range_string w t s ht, World.iter, Result.andThen]
theorem wpList_snext_at {r pos : Nat} {s : ByteArray} {it : Operand} (hg : o.guard = none) (hop : o.op = .next it true) (hi : a.eval it = .pointer (some ⟨r, 0, none⟩)) (h : At L0 w0 L w) (sl : Sel (Part.obj r (.stringIter s pos)) L F)
    (hEnd : ¬ pos < s.size → wpList P ops Q rest (a.put o.dst (.tuple #[.bool false])) w)
    (hK : ∀ w', pos < s.size → At L0 w0 (Part.obj r (.stringIter s (pos + (Utf8.decode s pos).2)) :: F) w' → wpList P ops Q rest (a.put o.dst (.tuple #[.bool true, .int .i64 pos, .int .i32 (Utf8.decode s pos).1])) w') : wpList P ops Q (o :: rest) a w := by
  have hI : w.heap[r]? = some (.stringIter s pos) := h.get sl
  by_cases hp : pos < s.size
  · have h1 := Lib.run_next_any_at (P := P) w r s pos o.type hI hp
    refine wpList_val hg ?_ (hK _ hp (h.turn sl (Part.obj r (.stringIter s (pos + (Utf8.decode s pos).2))) (Lib.iterAt_heap w r s pos _ hI) (fun _ e => .inl e) ?_))
    · simp [execOp, hop, hi, h1, Result.andThen]
    · exact ⟨rfl, rfl, rfl, by rw [Lib.iterAt_size]; exact Nat.le_refl _, fun i _ hn => Lib.iterAt_other w r i s _ hn⟩
  · have h1 := Lib.run_next_end_at (P := P) w r s pos o.type hI hp
    refine wpList_val hg ?_ (hEnd hp)
    simp [execOp, hop, hi, h1, Result.andThen]
end

theorem all_take {s : ByteArray} {pos : Nat} (h : ¬ pos < s.size) (ha : (s.data.toList.take pos).all letB = true) : s.data.toList.all letB = true := by
  rwa [List.take_of_length_le (by simpa using Nat.le_of_not_lt h)] at ha
theorem all_succ {s : ByteArray} {pos : Nat} (h : pos < s.size) (ha : (s.data.toList.take pos).all letB = true) (hc : letB s[pos] = true) : (s.data.toList.take (pos + 1)).all letB = true := by
  rw [List.take_succ_eq_append_getElem (by simpa using h), List.all_append, ha]
  simpa using (show letB (s.data[pos]'(by simpa using h)) = true from hc)
theorem all_no {s : ByteArray} {pos : Nat} (h : pos < s.size) (hc : letB s[pos] = false) : partB s.data.toList = false := by
  unfold partB
  rw [Bool.and_eq_false_iff]
  right
  cases q : s.data.toList.all letB
  · rfl
  · have := List.all_eq_true.1 q s[pos] (by show s.data[pos]'(by simpa using h) ∈ s.data.toList; exact Array.mem_toList_iff.2 (Array.getElem_mem _))
    rw [hc] at this; cases this
theorem letB_ascii {c : UInt8} (h : letB c = true) : c.toNat < 128 := by
  unfold letB at h
  simp only [Bool.or_eq_true, Bool.and_eq_true, decide_eq_true_eq] at h
  omega
theorem dec_yes {s : ByteArray} {pos : Nat} (h : pos < s.size) (hc : letB s[pos] = true) : Utf8.decode s pos = (s[pos].toNat, 1) := decode_ascii s pos h (letB_ascii hc)
theorem dec_no {s : ByteArray} {pos : Nat} (h : pos < s.size) (hc : letB s[pos] = false) : letR ((Utf8.decode s pos).1 : Int) = false := by
  by_cases ha : s[pos].toNat < 128
  · rw [decode_ascii s pos h ha]
    simp only
    rw [letR_eq, hc]
  · have := (decode_high s pos h (by omega)).1
    exact letR_high (by omega)

def PartRel (w : World) (r : Nat) (s : ByteArray) (k : Nat) (wr : World) : Prop :=
  ∃ pos : Nat, At [] w [Part.obj r (.stringIter s pos)] wr ∧ pos + k = s.size ∧ (s.data.toList.take pos).all letB = true
set_option maxRecDepth 100000 in
theorem part_any (s : ByteArray) (w : World) : Calls Tryd.prog 51 #[.string s] w fun e w' => e = .returned (.bool (partB s.data.toList)) ∧ Ext w w' := by
  have hA := At.start (w0 := w) (L0 := []) trivial
  have hF := hA.facts
  go_enter Tryd.func51, Tryd.ntmps51
  go_wp2_with (refine wpList_srange_at rfl rfl rfl Tryd.underlying9 hA ?_; intro r w1 hB hr; clear hF hA; have hA := hB; clear hB; (try simp only [uA] at hA); have hF := hA.facts; (try simp only [fA, and_true, true_and] at hF))
  try go_frame
  go_loopg [] s.size (PartRel w r s)
  case atStart => exact ⟨0, hA, by simp, by simp⟩
  case round =>
    obtain ⟨pos, hB, hk, hal⟩ := hrel
    clear hF hA
    have hA := hB
    clear hB
    go_step
    go_step
    refine wpList_snext_at rfl rfl rfl hA (by with_reducible repeat (first | exact Sel.here | apply Sel.there)) (fun hp => ?_) (fun w1 hp hB => ?_)
    · have hall := all_take hp hal
      have e : partB s.data.toList = !s.data.toList.isEmpty := by unfold partB; rw [hall, Bool.and_true]
      have e' := Lib.hid e
      clear e hall hal
      go_wp2_with fail
      go_ret
      exact ⟨by rw [e'.out, ← Lib.toList_data]; rfl, hA.toExt⟩
    · cases hc : letB s[pos]
      · have hd := dec_no hp hc
        have hno := Lib.hid (all_no hp hc)
        clear hc hal hk
        generalize Utf8.decode s pos = d at *
        obtain ⟨d1, d2⟩ := d
        simp only at hd
        clear hA
        have hA := hB
        clear hB
        (try simp only [uA] at hA); have hF := hA.facts; (try simp only [fA, and_true, true_and] at hF)
        go_wp2_with (refine (letter_any _ _).mono ?_; rintro e _ ⟨rfl, rfl⟩)
        go_ret
        exact ⟨by rw [hno.out]; rfl, hA.toExt⟩
      · have hd := dec_yes hp hc
        have hal' := Lib.hid (all_succ hp hal hc)
        have hy : letR (s[pos].toNat : Int) = true := by rw [letR_eq, hc]
        rw [hd] at hB
        rw [hd]
        clear hd hal
        generalize s[pos] = c at *
        clear hA
        have hA := hB
        clear hB
        (try simp only [uA] at hA); have hF := hA.facts; (try simp only [fA, and_true, true_and] at hF)
        go_wp2_with (refine (letter_any _ _).mono ?_; rintro e _ ⟨rfl, rfl⟩)
        go_roundg (gk - 1)
        case measure => omega
        case rel => exact ⟨pos + 1, hA, by omega, hal'.out⟩
end Go.Proofs.YtpbeennielgogaaDoor.Path
end

section
namespace Go.Proofs.YtpbeennielgogaaDoor
open Go.RowKit
set_option linter.unusedVariables false
set_option linter.unusedSimpArgs false

/-- what abides the iterator's steps: block Bs is written (it holds cells still), new blocks are laid -/
def AbidesB {β : Type} (Bs : Nat) (J : β → World → Prop) : Prop :=
  ∀ s W W' row, J s W → W.grownBy W' row → (∀ r, row = some r → r = Bs ∧ ∃ o : Obj, W'.heap[r]? = some o ∧ o.isCells = true) → J s W'
/-- what abides the law's book-keeping too: blocks from B on that are no cells -/
def OwnB {β : Type} (Bs B : Nat) (I : β → World → Prop) : Prop :=
  ∀ s W W' row, I s W → W.grownBy W' row → (∀ r, row = some r → (r = Bs ∧ ∃ o : Obj, W'.heap[r]? = some o ∧ o.isCells = true) ∨ (B ≤ r ∧ ∃ o : Obj, W.heap[r]? = some o ∧ o.isCells = false)) → I s W'
section
variable {β : Type} {Bs B : Nat} {I : β → World → Prop} {s : β} {W : World}
theorem OwnB.abides (h : OwnB Bs B I) : AbidesB Bs I := fun s W W' row hs hg hr => h s W W' row hs hg (fun r e => .inl (hr r e))
theorem OwnB.put (h : OwnB Bs B I) {l : Nat} {o : Obj} (o' : Obj) (hs : I s W) (hB : B ≤ l) (hl : W.heap[l]? = some o) (ho : o.isCells = false) : I s (W.putObj l o') :=
  h s W _ (some l) hs (grownBy_putObj' W l o') (fun r e => by cases e; exact .inr ⟨hB, o, hl, ho⟩)
theorem OwnB.alloc (h : OwnB Bs B I) (o : Obj) (hs : I s W) : I s (W.alloc o) := h s W _ none hs (World.grownBy_alloc W o none) (fun r e => by cases e)
end

/-- the iterator's contract: at whatever invariant that abides its steps -/
def SeqB {α : Type} (F : Fence) (n : Nat) (P : Program) (g : Nat) (lb : Array Value) (encs : α → Array Value) (Bs : Nat) (Kp : World → World → Prop) (S Sp : List α → Prop) (N : Nat) (w : World) : Prop :=
  ∀ (l : Nat) (J Jx : List α → World → Prop) (W : World), Below w.heap.size w W → AbidesB Bs J →
    (∀ pre x W1, J pre W1 → pre.length < N → YieldAt F (n - 1) P l (encs x) W1 fun e W' =>
      (e = .returned (.bool true) ∧ J (pre ++ [x]) W' ∧ Kp W1 W') ∨ (e = .returned (.bool false) ∧ Jx (pre ++ [x]) W')) →
    J [] W →
    CallsIn F n P g (#[.func (.yield l) #[] #[]] ++ lb) W fun e W' => (∃ v, e = .returned v) ∧ ((∃ xs, S xs ∧ J xs W') ∨ (∃ pre, Sp pre ∧ Jx pre W'))

theorem grownB_keeps {Bs : Nat} {W W' : World} {row : Option Nat} (hg : W.grownBy W' row) (hr : ∀ r, row = some r → r = Bs ∧ ∃ o : Obj, W'.heap[r]? = some o ∧ o.isCells = true) {k : Nat} {o : Obj} (hk : W.heap[k]? = some o) (hne : k ≠ Bs) : W'.heap[k]? = some o :=
  (hg.block k (Array.getElem?_eq_some_iff.1 hk).1 (fun e => hne (hr k e.symm).1)).trans hk

variable {F : Fence} {n : Nat} {P : Program}
theorem wpIn_rangeFunc_B {α : Type} {g : Operand} {ps : Array Tmp} {assign body : Code} {Q : Exit → Act → World → Prop} {a : Act} {w : World}
    (hro : F.round = none) (h1 : 1 ≤ n) {gf : Nat} {lb : Array Value} (hg : a.eval g = .func (.func gf) #[] lb) (hFg : F.fn gf) (eg : ∀ args w, (callFunc gf args).run P w = .ok (.enter gf args) w)
    {encs : α → Array Value} {Bs : Nat} {Kp : World → World → Prop} {S Sp : List α → Prop} {N : Nat} (hseq : SeqB F (n - 1) P gf lb encs Bs Kp S Sp N w) (hBs : Bs < w.heap.size)
    (hKt : ∀ {A B C : World}, Kp A B → Kp B C → Kp A C) (hKb : ∀ (W : World) (l : Nat) (o' : Obj), w.heap.size ≤ l → Kp W (W.putObj l o')) (hps : ∀ x, (encs x).size = ps.size)
    (I : List α → World → Prop) (Ix : Code → List α → World → Prop) (hI : OwnB Bs w.heap.size I) (hIx : ∀ c, OwnB Bs w.heap.size (Ix c)) (h0 : I [] w) (a₁ : α → Act)
    (hassign : ∀ (l : Nat) (x : α) (W : World) (K : Act → World → Prop), K (a₁ x) W →
      assign.wpIn (F.inRound l) (n - 1 - 1) P (Exit.then K (fun _ _ _ => False)) { tmps := (ps.zip (encs x)).foldl (fun t (p, v) => t.setIfInBounds p v) a.tmps, defers := [] } W)
    (hbody : ∀ (l : Nat) (pre : List α) (x : α) (W : World), I pre W → pre.length < N → body.wpIn (F.inRound l) (n - 1 - 1) P (ownPostG w.heap.size Kp I Ix (pre ++ [x]) W) (a₁ x) W)
    (hdone : ∀ (D : Nat) (xs : List α) (W : World), w.heap.size ≤ D → S xs → I xs W → W.heap[D]? = some (.deferred (some [])) → Q .normal { a with defers := { target := .collected D, args := #[] } :: a.defers } W)
    (hstop : ∀ (D : Nat) (c : Code) (pre : List α) (W : World), w.heap.size ≤ D → Sp pre → Ix c pre W → W.heap[D]? = some (.deferred (some [])) → c.wpIn F n P Q { a with defers := { target := .collected D, args := #[] } :: a.defers } W) :
    (Code.rangeFunc g ps assign body).wpIn F n P Q a w := by
  refine wpIn_rangeFunc ?_
  intro fn hfn
  rw [hro]
  obtain ⟨K0, hK0⟩ : ∃ k, k = w.heap.size := ⟨_, rfl⟩
  obtain ⟨rc, hrc⟩ : ∃ rc : LoopState → Option Code → Loop, rc = fun st pe => { state := st, pending := pe, fn, tmps := a.tmps, params := ps, assign, body, defers := K0 } := ⟨_, rfl⟩
  obtain ⟨W1, hW1⟩ : ∃ W1, (w.alloc (.deferred (some []))).alloc (.loop (rc .ready none)) = W1 := ⟨_, rfl⟩
  have hR : W1.heap[K0 + 1]? = some (.loop (rc .ready none)) := by
    have := World.alloc_heap_new (w.alloc (.deferred (some []))) (.loop (rc .ready none))
    rw [← hW1, hK0]
    rwa [World.size_alloc] at this
  have hD : W1.heap[K0]? = some (.deferred (some [])) := by
    rw [← hW1, hK0]
    exact (Below.heap_alloc _ _ _ (by simp)).trans (World.alloc_heap_new w _)
  have hI1 : I [] W1 := by rw [← hW1]; exact hI.alloc _ (hI.alloc _ h0)
  have hb1 : Below w.heap.size w W1 := by
    rw [← hW1]
    exact ((Below.refl _ w).alloc (Nat.le_refl _) _).alloc (by simp) _
  have hl0 : (Instr.enterLoop fn a.tmps ps assign body none).run P w = .ok (K0 + 1, [{ target := .collected K0, args := #[] }]) W1 := by
    rw [← hW1, hrc, hK0]
    exact run_enterLoop_outer _ _ _ _ _
  refine ⟨K0 + 1, [{ target := .collected K0, args := #[] }], W1, { target := .fn (.func gf) lb, args := #[.func (.yield (K0 + 1)) #[] #[]] }, W1, gf, #[.func (.yield (K0 + 1)) #[] #[]] ++ lb, W1, hl0, ?_, ?_, ?_, fun _ => h1, ?_⟩
  · simp only [resolve, hg]
    simp [go_sem]
  · intro f' hf'
    simp [Target.leads] at hf'
    subst hf'
    exact hFg
  · simp [invoke, go_sem, eg]
  · have ne0 : K0 ≠ Bs := by omega
    have ne1 : K0 + 1 ≠ Bs := by omega
    refine (hseq (K0 + 1)
      (fun pre W => I pre W ∧ W.heap[K0 + 1]? = some (.loop (rc .ready none)) ∧ W.heap[K0]? = some (.deferred (some [])))
      (fun pre W => ∃ c, Ix c pre W ∧ W.heap[K0 + 1]? = some (.loop (rc .done (some c))) ∧ W.heap[K0]? = some (.deferred (some [])))
      W1 hb1 (fun s A B row hs hg' hr => ⟨hI.abides s A B row hs.1 hg' hr, grownB_keeps hg' hr hs.2.1 ne1, grownB_keeps hg' hr hs.2.2 ne0⟩) ?_ ⟨hI1, hR, hD⟩).mono ?_
    · rintro pre x W ⟨hi, hl, hk⟩ hlen
      have hlt : K0 + 1 < W.heap.size := (Array.getElem?_eq_some_iff.1 hl).1
      have hy := run_yield (P := P) (args := encs x) hl (by rw [hrc]; exact hps x)
      rw [hrc] at hy
      refine ⟨fn, _, assign, body, hy, roundIn_of_wpIn hfn (hassign _ x W _ ?_)⟩
      clear hy
      refine ⟨_, run_beginRound hl (by rw [hrc]), ?_⟩
      have hl2 : (W.putObj (K0 + 1) (.loop { rc .ready none with state := .busy })).heap[K0 + 1]? = some (.loop { rc .ready none with state := .busy }) := World.putObj_heap_same hlt
      have hk2 : (W.putObj (K0 + 1) (.loop { rc .ready none with state := .busy })).heap[K0]? = some (.deferred (some [])) := (World.putObj_heap_other (by omega)).trans hk
      have hw2 : Kp W (W.putObj (K0 + 1) (.loop { rc .ready none with state := .busy })) := hKb _ _ _ (by omega)
      refine wpIn_mono (hbody _ pre x _ (hI.put _ hi (by omega) hl rfl) hlen) ?_
      have fin : ∀ (jump : Option Code) (W3 : World), KeepsFrom w.heap.size (W.putObj (K0 + 1) (.loop { rc .ready none with state := .busy })) W3 →
          (Instr.endRound (K0 + 1) jump).run P W3 = .ok (.bool jump.isNone) (W3.putObj (K0 + 1) (.loop (rc (if jump.isNone then .ready else .done) jump))) ∧
          W3.heap[K0 + 1]? = some (.loop { rc .ready none with state := .busy }) ∧
          (W3.putObj (K0 + 1) (.loop (rc (if jump.isNone then .ready else .done) jump))).heap[K0 + 1]? = some (.loop (rc (if jump.isNone then .ready else .done) jump)) ∧
          (W3.putObj (K0 + 1) (.loop (rc (if jump.isNone then .ready else .done) jump))).heap[K0]? = some (.deferred (some [])) := fun jump W3 hk3 => by
        have hl3 := hk3.same _ _ (by omega) hl2 rfl
        have he := run_endRound (P := P) jump hl3
        rw [hrc] at he ⊢
        exact ⟨he, by rw [hrc] at hl3; exact hl3, World.putObj_heap_same (Array.getElem?_eq_some_iff.1 hl3).1, (World.putObj_heap_other (by omega)).trans (hk3.same _ _ (by omega) hk2 rfl)⟩
      rintro e a3 W3 hp
      cases e with
      | normal =>
        obtain ⟨hk3, hkp3, hi3⟩ := hp
        obtain ⟨hr, hl3, hl4, hk4⟩ := fin none W3 hk3
        exact ⟨_, _, hr, .inl ⟨rfl, ⟨hI.put _ hi3 (by omega) hl3 rfl, hl4, hk4⟩, hKt (hKt hw2 hkp3) (hKb _ _ _ (by omega))⟩⟩
      | ret =>
        obtain ⟨hk3, hi3⟩ := hp
        obtain ⟨hr, hl3, hl4, hk4⟩ := fin (some .ret) W3 hk3
        exact ⟨_, _, hr, .inr ⟨rfl, .ret, (hIx _).put _ hi3 (by omega) hl3 rfl, hl4, hk4⟩⟩
      | exit id =>
        obtain ⟨hk3, hi3⟩ := hp
        obtain ⟨hr, hl3, hl4, hk4⟩ := fin (some (.exit id)) W3 hk3
        exact ⟨_, _, hr, .inr ⟨rfl, .exit id, (hIx _).put _ hi3 (by omega) hl3 rfl, hl4, hk4⟩⟩
      | goto t =>
        obtain ⟨hk3, hi3⟩ := hp
        obtain ⟨hr, hl3, hl4, hk4⟩ := fin (some (.goto t)) W3 hk3
        exact ⟨_, _, hr, .inr ⟨rfl, .goto t, (hIx _).put _ hi3 (by omega) hl3 rfl, hl4, hk4⟩⟩
      | panic ch => exact hp.elim
      | outgrown => exact hp.elim
    · rintro e W2 ⟨⟨v, rfl⟩, (⟨xs, hS, hi, hl, hk⟩ | ⟨pre, hSp, c, hi, hl, hk⟩)⟩
      · have he := run_endLoop (P := P) hl (by rw [hrc]; simp)
        rw [hrc] at he
        exact ⟨none, _, he, hdone _ xs _ (by omega) hS (hI.put _ hi (by omega) hl rfl) ((World.putObj_heap_other (by omega)).trans hk)⟩
      · have he := run_endLoop (P := P) hl (by rw [hrc]; simp)
        rw [hrc] at he
        exact ⟨some c, _, he, hstop _ c pre _ (by omega) hSp ((hIx c).put _ hi (by omega) hl rfl) ((World.putObj_heap_other (by omega)).trans hk)⟩
end Go.Proofs.YtpbeennielgogaaDoor
end

section
namespace Go.Proofs.YtpbeennielgogaaDoor.Path
open Go.RowKit Go.Shelf
set_option linter.unusedSimpArgs false
set_option linter.unusedVariables false
attribute [local go_sem] Oper.semAt_some

abbrev bl (x : ByteArray) : Bs := x.data.toList
def slashB : ByteArray := ⟨#[47]⟩
def keep3 (b1 b2 b3 : Nat) (W W' : World) : Prop := ∀ b, b = b1 ∨ b = b2 ∨ b = b3 → W'.heap[b]? = W.heap[b]?
/-- how long the text in a box is -/
def lenAt (w : World) (b : Nat) : Nat := match w.heap[b]? with | some (.cells #[.string r] _ _) => r.size | _ => 0
theorem lenAt_eq {w : World} {b : Nat} {r : ByteArray} {t : TypeId} (h : Boxed w b t (.string r)) : lenAt w b = r.size := by
  unfold lenAt; rw [show w.heap[b]? = _ from h]; rfl
theorem idx_none {l : Bs} (h : Lib.indexByte l 47 < 0) : splits l = [l] := by
  refine splits_noslash l (fun c hc e => ?_)
  subst e
  have h1 : Lib.indexByte l 47 = -1 := by have := Lib.indexByte_ge l 47; omega
  obtain ⟨k, hk⟩ := List.mem_iff_getElem?.1 hc
  exact Lib.indexByte_none h1 k hk
theorem idx_some {l : Bs} {i : Nat} (h : Lib.indexByte l 47 = i) : i < l.length ∧ splits l = l.take i :: splits (l.drop (i + 1)) := by
  obtain ⟨h1, h2⟩ := Lib.indexByte_some h
  have hi := (List.getElem?_eq_some_iff.1 h1).1
  refine ⟨hi, ?_⟩
  have e : l = l.take i ++ 47 :: l.drop (i + 1) := by
    have := (List.getElem?_eq_some_iff.1 h1).2
    rw [← this, ← List.drop_eq_getElem_cons hi, List.take_append_drop]
  conv => lhs; rw [e]
  rw [splits_app _ _ (fun c hc ec => ?_)]
  subst ec
  obtain ⟨k, hk⟩ := List.mem_iff_getElem?.1 hc
  rw [List.getElem?_take] at hk
  split at hk
  · rename_i hki; exact h2 k hki hk
  · cases hk

theorem index_any (n : Nat) (r : ByteArray) (w : World) : CallsIn Fence.wide n Tryd.prog 63 #[.string r, .string ⟨#[47]⟩] w fun e w' => e = .returned (.int .i64 (Lib.indexByte r.data.toList 47)) ∧ w = w' :=
  callsIn_wide.2 ((Tryd.strings_Index_one _ _ _).mono fun _ _ ⟨he, hw⟩ => ⟨he, hw.symm⟩)
set_option maxRecDepth 100000 in
set_option maxHeartbeats 2000000 in
theorem split1_in (n : Nat) (hn : 3 ≤ n) (l Bs Bp Bv : Nat) (h12 : Bs ≠ Bp) (h13 : Bs ≠ Bv) (s : ByteArray) (hs : s.size ≤ 2000000) (J Jx : List ByteArray → World → Prop) (W : World) (hJ : AbidesB Bs J)
    (hY : ∀ pre x W1, J pre W1 → pre.length < 2000001 → YieldAt Fence.wide (n - 1) Tryd.prog l #[.string x] W1 fun e W' => (e = .returned (.bool true) ∧ J (pre ++ [x]) W' ∧ keep3 Bs Bp Bv W1 W') ∨ (e = .returned (.bool false) ∧ Jx (pre ++ [x]) W'))
    (h1 : Boxed W Bs 9 (.string s)) (h2 : Boxed W Bp 9 (.string slashB)) (h3 : Boxed W Bv 3 (.int .i64 0)) (h0 : J [] W) :
    CallsIn Fence.wide n Tryd.prog 61 #[.func (.yield l) #[] #[], .pointer (some ⟨Bp, 0, none⟩), .pointer (some ⟨Bs, 0, none⟩), .pointer (some ⟨Bv, 0, none⟩)] W fun e W' =>
      (∃ v, e = .returned v) ∧ ((∃ ys : List ByteArray, ys.map bl = splits (bl s) ∧ J ys W') ∨ (∃ pre : List ByteArray, pre.map bl <+: splits (bl s) ∧ Jx pre W')) := by
  have hn1 : 1 ≤ n := by omega
  have c1 := h1.cell
  have c2 := h2.cell
  have c3 := h3.cell
  refine callsIn_of_wp Tryd.func61 rfl trivial ?_ rfl
  simp only [Tryd.ntmps61, List.size_toArray, List.length_cons, List.length_nil, Nat.reduceAdd, Nat.reduceSub, Array.replicate_succ, Array.replicate_zero, List.push_toArray, List.append_toArray, List.nil_append, List.cons_append]
  unfold slashB at c2
  gi_wp2
  gi_loopw [7] (fun _ wr => ∃ (pre : List ByteArray) (r : ByteArray), splits (bl s) = pre.map bl ++ splits (bl r) ∧ pre.length + r.size ≤ s.size ∧ J pre wr ∧ Boxed wr Bs 9 (.string r) ∧ Boxed wr Bp 9 (.string ⟨#[47]⟩) ∧ Boxed wr Bv 3 (.int .i64 0))
    (fun _ wr => lenAt wr Bs)
  case atStart => exact ⟨[], s, rfl, by simp, h0, h1, h2, h3⟩
  case round =>
    obtain ⟨pre, r, hsp, hlen, hJs, b1, b2, b3⟩ := hrel
    clear c1 c2 c3
    have c1 := b1.cell
    have c2 := b2.cell
    have c3 := b3.cell
    rcases Int.lt_or_le (Lib.indexByte (bl r) 47) 0 with hi | hi
    · have hsr := idx_none hi
      have hi' : decide (Lib.indexByte r.data.toList 47 < 0) = true := by simpa using hi
      gi_wp2_with fail
      refine ⟨trivial, (index_any _ _ _).mono ?_⟩
      rintro e _ ⟨rfl, rfl⟩
      obtain ⟨fn, tmps, assign, body, hy, hR⟩ := hY pre r wr hJs (by omega)
      have hsp' := Lib.hid hsp
      have hsr' := Lib.hid hsr
      clear hsp hsr
      gi_wp2
      refine hR.mono ?_
      rintro e W3 (⟨rfl, hJ3, hk3⟩ | ⟨rfl, hJx3⟩)
      · gi_wp2
        go_end0
        exact ⟨⟨_, rfl⟩, .inl ⟨pre ++ [r], by rw [hsp'.out, hsr'.out]; simp, hJ3⟩⟩
      · gi_wp2
        go_end0
        exact ⟨⟨_, rfl⟩, .inr ⟨pre ++ [r], by rw [hsp'.out, hsr'.out]; simp, hJx3⟩⟩
    · obtain ⟨i, hi2⟩ := Int.eq_ofNat_of_zero_le hi
      obtain ⟨hilt, hsr⟩ := idx_some hi2
      have hi' : decide (Lib.indexByte r.data.toList 47 < 0) = false := by simpa using hi
      have hi3 := Lib.hid hi2
      have hrl : (bl r).length = r.size := by simp
      have hil : i + 1 ≤ r.size := by omega
      have hsp' := Lib.hid hsp
      have hsr' := Lib.hid hsr
      clear hsp hsr hi2
      gi_wp2_with fail
      refine ⟨trivial, (index_any _ _ _).mono ?_⟩
      rintro e _ ⟨rfl, rfl⟩
      rw [show Lib.indexByte r.data.toList 47 = (i : Int) from hi3.out]
      clear hi hi' hi3 hilt hrl
      have hi' : decide ((i : Int) < 0) = false := by simp
      obtain ⟨fn, tmps, assign, body, hy, hR⟩ := hY pre (r.extract 0 i) wr hJs (by omega)
      gi_wp2
      refine hR.mono ?_
      have e1 : bl (r.extract 0 i) = (bl r).take i := by simp [bl]
      have e2 : bl (r.extract (i + 1) r.size) = (bl r).drop (i + 1) := by simp only [bl]; simp; rw [List.take_of_length_le (by simp)]
      have e1' := Lib.hid e1
      have e2' := Lib.hid e2
      clear e1 e2
      rintro e W3 (⟨rfl, hJ3, hk3⟩ | ⟨rfl, hJx3⟩)
      · have d1 : Boxed W3 Bs 9 (.string r) := (hk3 Bs (.inl rfl)).trans b1
        have d2 : Boxed W3 Bp 9 (.string ⟨#[47]⟩) := (hk3 Bp (.inr (.inl rfl))).trans b2
        have d3 : Boxed W3 Bv 3 (.int .i64 0) := (hk3 Bv (.inr (.inr rfl))).trans b3
        have x1 := d1.cell
        have x2 := d2.cell
        have x3 := d3.cell
        have f1 := d1.frozen
        clear hR hy hk3
        gi_wp2
        have g1 := d1.set (.string (r.extract (i + 1) r.size))
        go_roundw
        case rel =>
          refine ⟨pre ++ [r.extract 0 i], r.extract (i + 1) r.size, ?_, ?_, ?_, g1, d2.other (Ne.symm h12) _, d3.other (Ne.symm h13) _⟩
          · rw [hsp'.out, hsr'.out, e2'.out]; simp [e1'.out]
          · simp; omega
          · exact hJ _ _ _ (some Bs) hJ3 (grownBy_setCell' W3 Bs _) (fun q e => by cases e; exact ⟨rfl, _, g1, rfl⟩)
        case measure =>
          rw [lenAt_eq g1, lenAt_eq b1]
          simp
          omega
      · gi_wp2
        refine bodyPost_ret (results_none rfl _ _ _) rfl ?_
        exact ⟨⟨_, rfl⟩, .inr ⟨pre ++ [r.extract 0 i], ⟨splits ((bl r).drop (i + 1)), by rw [hsp'.out, hsr'.out, List.map_append, List.append_assoc]; simp [e1'.out]⟩, hJx3⟩⟩

set_option maxRecDepth 100000 in
theorem splitSeq_any (s : ByteArray) (w : World) : Calls Tryd.prog 50 #[.string s, .string ⟨#[47]⟩] w fun e w' =>
    e = .returned (.func (.func 61) #[] #[.pointer (some ⟨w.heap.size + 1, 0, none⟩), .pointer (some ⟨w.heap.size, 0, none⟩), .pointer (some ⟨w.heap.size + 2, 0, none⟩)]) ∧
      w' = ((w.alloc (.cells #[.string s] 9)).alloc (.cells #[.string ⟨#[47]⟩] 9)).alloc (.cells #[.int .i64 0] 3) := by
  have h1 : Calls Tryd.prog 57 #[.string s, .string ⟨#[47]⟩, .int .i64 0] w fun e w' =>
    e = .returned (.func (.func 61) #[] #[.pointer (some ⟨w.heap.size + 1, 0, none⟩), .pointer (some ⟨w.heap.size, 0, none⟩), .pointer (some ⟨w.heap.size + 2, 0, none⟩)]) ∧
      w' = ((w.alloc (.cells #[.string s] 9)).alloc (.cells #[.string ⟨#[47]⟩] 9)).alloc (.cells #[.int .i64 0] 3) := by
    go_enter Tryd.func57, Tryd.ntmps57
    go_wp2
    go_ret
    exact ⟨rfl, rfl⟩
  go_enter Tryd.func50, Tryd.ntmps50
  go_wp2_with fail
  refine h1.mono ?_
  rintro e _ ⟨rfl, rfl⟩
  go_wp2_with fail
  go_ret
  exact ⟨rfl, rfl⟩
end Go.Proofs.YtpbeennielgogaaDoor.Path
end

section
namespace Go.Proofs.YtpbeennielgogaaDoor.Cmd
open Path (bl rightB overB)
set_option linter.unusedSimpArgs false
set_option linter.unusedVariables false

/-- a command -/
structure Cm where
  kind : Int
  num : Int
  foot : ByteArray
  req : Int
  path : ByteArray
  mode : Int
  n : Int
  time : Int
deriving DecidableEq
def Cm.cells (c : Cm) : List Value := [.int .i64 c.kind, .int .u64 c.num, .string c.foot, .int .u64 c.req, .string c.path, .int .i64 c.mode, .int .u64 c.n, .int .i64 c.time]
def Cm.val (c : Cm) : Value := .agg #[.int .i64 c.kind, .int .u64 c.num, .string c.foot, .int .u64 c.req, .string c.path, .int .i64 c.mode, .int .u64 c.n, .int .i64 c.time]
/-- what a kind has -/
structure Hs where
  session : Bool
  request : Bool
  path : Bool
  mode : Bool
  n : Bool
  time : Bool
def hasOf (k : Int) : Option Hs :=
  if k = 0 then some ⟨false, false, false, false, false, false⟩
  else if k = 1 then some ⟨true, true, false, false, true, true⟩
  else if k = 2 then some ⟨true, true, false, false, false, false⟩
  else if k = 3 then some ⟨true, true, false, false, false, true⟩
  else if k = 4 then some ⟨true, true, true, true, false, false⟩
  else if k = 5 then some ⟨true, true, true, true, false, false⟩
  else if k = 6 then some ⟨true, true, true, false, false, false⟩
  else if k = 7 then some ⟨true, true, true, false, true, false⟩
  else if k = 8 then some ⟨true, false, false, false, false, true⟩
  else none
def bareC (c : Cm) (h : Hs) : Cm := ⟨c.kind, if h.session then c.num else 0, if h.session then c.foot else .empty, if h.request then c.req else 0, if h.path then c.path else .empty, if h.mode then c.mode else 0, if h.n then c.n else 0, if h.time then c.time else 0⟩
def mostN (k : Int) : Int := if k = 1 then 1048576 else 9223372036854775807
/-- may a command be, whose kind has h? -/
def rightH (c : Cm) (h : Hs) : Bool := decide (c = bareC c h) && (!h.session || rightB (bl c.foot)) && (!h.request || !(c.req == 0)) && (!h.path || rightB (bl c.path)) && (!h.mode || !((c.mode != 1) && (c.mode != 2))) && (!h.n || !((c.n == 0) || decide (mostN c.kind < c.n))) && (decide (0 ≤ c.time) && decide (c.time ≤ 1099511627776))
def rightC (c : Cm) : Bool := match hasOf c.kind with
  | some h => rightH c h
  | none => false
/-- a command's footprint; false: none -/
def footC (c : Cm) : ByteArray × Bool := if rightC c then (match hasOf c.kind with
  | some h => if h.path then (c.path, true) else (c.foot, h.session)
  | none => (.empty, false)) else (.empty, false)
/-- what a command touches -/
def keyC (c : Cm) : Option (ByteArray × Int) := if (footC c).2 then some ((footC c).1, c.num) else none
end Go.Proofs.YtpbeennielgogaaDoor.Cmd
end

section
namespace Go.Proofs.YtpbeennielgogaaDoor.Attr
set_option linter.unusedSimpArgs false
set_option linter.unusedVariables false

structure A8 where
  s : Int
  d0 : Int
  d1 : Int
  d2 : Int
  d3 : Int
  d4 : Int
  d5 : Int
  d6 : Int
deriving DecidableEq
def A8.cells (a : A8) : List Value := [.int .i64 a.s, .int .i64 a.d0, .int .i64 a.d1, .int .i64 a.d2, .int .i64 a.d3, .int .i64 a.d4, .int .i64 a.d5, .int .i64 a.d6]
def A8.val (a : A8) : Value := .agg #[.int .i64 a.s, .int .i64 a.d0, .int .i64 a.d1, .int .i64 a.d2, .int .i64 a.d3, .int .i64 a.d4, .int .i64 a.d5, .int .i64 a.d6]
def A8.zero : A8 := ⟨0, 0, 0, 0, 0, 0, 0, 0⟩
def A8.merge (a b : A8) : A8 := ⟨max a.s b.s, max a.d0 b.d0, max a.d1 b.d1, max a.d2 b.d2, max a.d3 b.d3, max a.d4 b.d4, max a.d5 b.d5, max a.d6 b.d6⟩
def A8.past (a : A8) (q : Int) : A8 := if 0 ≤ q then { a with s := max a.s (min q 1073741823 + 1) } else a
def A8.set (a : A8) (q : Nat) (v : Int) : A8 := match q with
  | 0 => { a with d0 := v }
  | 1 => { a with d1 := v }
  | 2 => { a with d2 := v }
  | 3 => { a with d3 := v }
  | 4 => { a with d4 := v }
  | 5 => { a with d5 := v }
  | 6 => { a with d6 := v }
  | _ => a
def A8.dep (a : A8) (q : Nat) : Int := match q with
  | 0 => a.d0
  | 1 => a.d1
  | 2 => a.d2
  | 3 => a.d3
  | 4 => a.d4
  | 5 => a.d5
  | 6 => a.d6
  | _ => 0
/-- may a name be? -/
def rightI (r t : Int) : Bool := decide (0 ≤ r) && decide (r ≤ 6) && decide (0 ≤ t) && decide (t < 1024)
def A8.own (a : A8) (r t : Int) : A8 := if rightI r t then a.set r.toNat t else a
def badD (d : Int) : Bool := decide (d < 0) || decide (1024 < d)
def A8.right (a : A8) : Bool := !badD a.d0 && !badD a.d1 && !badD a.d2 && !badD a.d3 && !badD a.d4 && !badD a.d5 && !badD a.d6 && (decide (0 ≤ a.s) && decide (a.s ≤ 1073741824))
theorem rightI_iff {r t : Int} : rightI r t = true ↔ 0 ≤ r ∧ r ≤ 6 ∧ 0 ≤ t ∧ t < 1024 := by
  unfold rightI
  simp
  omega
end Go.Proofs.YtpbeennielgogaaDoor.Attr
end
