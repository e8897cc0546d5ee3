/- PathW, SeqB, PathI, CmdM, AttrM, IndexM, RowI, joined. -/
import Derived.Test.YtgbpfgdjnhbcgaaGreatDoorQ2
import Derived.Test.YtgbpfgdjnhbcgaaGreatDoorChecked
import Derived.RangeFuncNested
import Derived.RangeFuncBound
import Derived.OwnWalkIn
import Derived.TacticsInMore
import Derived.LoopNIn
import Derived.LoopIn
import Derived.Test.YtgbpfgdjnhbcgaaGreatDoorShelft
set_option linter.unusedSimpArgs false
set_option linter.unusedVariables false
set_option maxRecDepth 100000
set_option maxHeartbeats 16000000
section
namespace Go.Proofs.YtgbpfgdjnhbcgaaGreatDoor.Path
open Go.RowKit
def letR (r : Int) : Bool := (decide (97 ≤ r) && decide (r ≤ 122)) || (decide (48 ≤ r) && decide (r ≤ 57)) || decide (r = 45) || decide (r = 95)
theorem letR_eq (c : UInt8) : letR (c.toNat : Int) = letB c := by
 unfold letR letB
 rw [Bool.eq_iff_iff]
 simp only [Bool.or_eq_true, Bool.and_eq_true, decide_eq_true_eq]
 omega
theorem letR_high {r : Int} (h : 128 ≤ r) : letR r = false := by
 unfold letR
 have h1 : ¬ r ≤ 122 := by omega
 have h2 : ¬ r ≤ 57 := by omega
 have h3 : ¬ r = 45 := by omega
 have h4 : ¬ r = 95 := by omega
 simp [h1, h2, h3, h4]
theorem letter_any (r : Int) (w : World) : Calls Tryz.prog 108 #[.int .i32 r] w fun e w' => e = .returned (.bool (letR r)) ∧ w = w' := by
 have key : ∀ (b1 b2 b3 b4 b5 b6 : Bool), decide (97 ≤ r) = b1 → decide (r ≤ 122) = b2 → decide (48 ≤ r) = b3 → decide (r ≤ 57) = b4 → decide (r = 45) = b5 → decide (r = 95) = b6 →
  Calls Tryz.prog 108 #[.int .i32 r] w fun e w' => e = .returned (.bool ((b1 && b2) || (b3 && b4) || b5 || b6)) ∧ w = w' := by
  intro b1 b2 b3 b4 b5 b6 h1 h2 h3 h4 h5 h6
  have h5' : (r == 45) = b5 := by rw [← h5]; rfl
  have h6' : (r == 95) = b6 := by rw [← h6]; rfl
  clear h5 h6
  cases b1 <;> cases b2 <;> cases b3 <;> cases b4 <;> cases b5 <;> cases b6
  all_goals first
   | (exfalso; simp at h1 h2 h3 h4 h5' h6'; omega)
   | (go_enter Tryz.func108, Tryz.ntmps108
      go_wp2
      go_ret
      exact ⟨rfl, rfl⟩)
 exact key _ _ _ _ _ _ rfl rfl rfl rfl rfl rfl
section
variable {P : Program} {ops : Array Oper} {rest : List Oper} {o : Oper} {a : Act} {Q : Exit → Act → World → Prop} {L0 L F : List Part} {w0 w : World}
theorem wpList_srange_at {t : TypeId} {x : Operand} {s : ByteArray} (hg : o.guard = none) (hop : o.op = .range t x) (hx : a.eval x = .string s) (ht : P.underlying t = some .string) (h : At L0 w0 L w)
 (hK : ∀ r w', At L0 w0 (Part.obj r (.stringIter s 0) :: L) w' → w0.heap.size ≤ r → wpList P ops Q rest (a.put o.dst (.pointer (some ⟨r, 0, none⟩))) w') : wpList P ops Q (o :: rest) a w := by
 refine wpList_val hg ?_ (hK _ _ (h.allocObj (.stringIter s 0)) h.size)
 simp [execOp, hop, hx, run_range_string w t s ht, World.iter, Result.andThen]
theorem wpList_snext_at {r pos : Nat} {s : ByteArray} {it : Operand} (hg : o.guard = none) (hop : o.op = .next it true) (hi : a.eval it = .pointer (some ⟨r, 0, none⟩)) (h : At L0 w0 L w) (sl : Sel (Part.obj r (.stringIter s pos)) L F)
 (hEnd : ¬ pos < s.size → wpList P ops Q rest (a.put o.dst (.tuple #[.bool false])) w)
 (hK : ∀ w', pos < s.size → At L0 w0 (Part.obj r (.stringIter s (pos + (Utf8.decode s pos).2)) :: F) w' → wpList P ops Q rest (a.put o.dst (.tuple #[.bool true, .int .i64 pos, .int .i32 (Utf8.decode s pos).1])) w') : wpList P ops Q (o :: rest) a w := by
 have hI : w.heap[r]? = some (.stringIter s pos) := h.get sl
 by_cases hp : pos < s.size
 · have h1 := Lib.run_next_any_at (P := P) w r s pos o.type hI hp
   refine wpList_val hg ?_ (hK _ hp (h.turn sl (Part.obj r (.stringIter s (pos + (Utf8.decode s pos).2))) (Lib.iterAt_heap w r s pos _ hI) (fun _ e => .inl e) ?_))
   · simp [execOp, hop, hi, h1, Result.andThen]
   · exact ⟨rfl, rfl, rfl, by rw [Lib.iterAt_size]; exact Nat.le_refl _, fun i _ hn => Lib.iterAt_other w r i s _ hn⟩
 · have h1 := Lib.run_next_end_at (P := P) w r s pos o.type hI hp
   refine wpList_val hg ?_ (hEnd hp)
   simp [execOp, hop, hi, h1, Result.andThen]
end
theorem all_take {s : ByteArray} {pos : Nat} (h : ¬ pos < s.size) (ha : (s.data.toList.take pos).all letB = true) : s.data.toList.all letB = true := by
 rwa [List.take_of_length_le (by simpa using Nat.le_of_not_lt h)] at ha
theorem all_succ {s : ByteArray} {pos : Nat} (h : pos < s.size) (ha : (s.data.toList.take pos).all letB = true) (hc : letB s[pos] = true) : (s.data.toList.take (pos + 1)).all letB = true := by
 rw [List.take_succ_eq_append_getElem (by simpa using h), List.all_append, ha]
 simpa using (show letB (s.data[pos]'(by simpa using h)) = true from hc)
theorem all_no {s : ByteArray} {pos : Nat} (h : pos < s.size) (hc : letB s[pos] = false) : partB s.data.toList = false := by
 unfold partB
 rw [Bool.and_eq_false_iff]
 right
 cases q : s.data.toList.all letB
 · rfl
 · have := List.all_eq_true.1 q s[pos] (by show s.data[pos]'(by simpa using h) ∈ s.data.toList; exact Array.mem_toList_iff.2 (Array.getElem_mem _))
   rw [hc] at this; cases this
theorem letB_ascii {c : UInt8} (h : letB c = true) : c.toNat < 128 := by
 unfold letB at h
 simp only [Bool.or_eq_true, Bool.and_eq_true, decide_eq_true_eq] at h
 omega
theorem dec_yes {s : ByteArray} {pos : Nat} (h : pos < s.size) (hc : letB s[pos] = true) : Utf8.decode s pos = (s[pos].toNat, 1) := decode_ascii s pos h (letB_ascii hc)
theorem dec_no {s : ByteArray} {pos : Nat} (h : pos < s.size) (hc : letB s[pos] = false) : letR ((Utf8.decode s pos).1 : Int) = false := by
 by_cases ha : s[pos].toNat < 128
 · rw [decode_ascii s pos h ha]
   simp only
   rw [letR_eq, hc]
 · have := (decode_high s pos h (by omega)).1
   exact letR_high (by omega)
def PartRel (w : World) (r : Nat) (s : ByteArray) (k : Nat) (wr : World) : Prop :=
 ∃ pos : Nat, At [] w [Part.obj r (.stringIter s pos)] wr ∧ pos + k = s.size ∧ (s.data.toList.take pos).all letB = true
theorem part_any (s : ByteArray) (w : World) : Calls Tryz.prog 100 #[.string s] w fun e w' => e = .returned (.bool (partB s.data.toList)) ∧ Ext w w' := by
 have hA := At.start (w0 := w) (L0 := []) trivial
 have hF := hA.facts
 go_enter Tryz.func100, Tryz.ntmps100
 go_wp2_with (refine wpList_srange_at rfl rfl rfl Tryz.underlying9 hA ?_; intro r w1 hB hr; clear hF hA; have hA := hB; clear hB; have hF := hA.facts; (try simp only [uY] at hA hF))
 try go_frame
 go_loopg [] s.size (PartRel w r s)
 case atStart => exact ⟨0, hA, by simp, by simp⟩
 case round =>
  obtain ⟨pos, hB, hk, hal⟩ := hrel
  clear hF hA; have hA := hB; clear hB
  go_step
  go_step
  refine wpList_snext_at rfl rfl rfl hA sR (fun hp => ?_) (fun w1 hp hB => ?_)
  · have hall := all_take hp hal
    have e : partB s.data.toList = !s.data.toList.isEmpty := by unfold partB; rw [hall, Bool.and_true]
    have e' := Lib.hid e
    clear e hall hal
    go_wp2_with fail
    go_ret
    exact ⟨by rw [e'.out, ← Lib.toList_data]; rfl, hA.toExt⟩
  · cases hc : letB s[pos]
    · have hd := dec_no hp hc
      have hno := Lib.hid (all_no hp hc)
      clear hc hal hk
      generalize Utf8.decode s pos = d at *
      obtain ⟨d1, d2⟩ := d
      simp only at hd
      clear hA; have hA := hB; clear hB
      have hF := hA.facts; (try simp only [uY] at hA hF)
      go_wp2_with (refine (letter_any _ _).mono ?_; rintro e _ ⟨rfl, rfl⟩)
      go_ret
      exact ⟨by rw [hno.out]; rfl, hA.toExt⟩
    · have hd := dec_yes hp hc
      have hal' := Lib.hid (all_succ hp hal hc)
      have hy : letR (s[pos].toNat : Int) = true := by rw [letR_eq, hc]
      rw [hd] at hB
      rw [hd]
      clear hd hal
      generalize s[pos] = c at *
      clear hA; have hA := hB; clear hB
      have hF := hA.facts; (try simp only [uY] at hA hF)
      go_wp2_with (refine (letter_any _ _).mono ?_; rintro e _ ⟨rfl, rfl⟩)
      go_roundg (gk - 1)
      case measure => omega
      case rel => exact ⟨pos + 1, hA, by omega, hal'.out⟩
end Go.Proofs.YtgbpfgdjnhbcgaaGreatDoor.Path
end
section
namespace Go.Proofs.YtgbpfgdjnhbcgaaGreatDoor
open Go.RowKit
def AbidesB {β : Type} (Bs : Nat) (J : β → World → Prop) : Prop :=
 ∀ s W W' row, J s W → W.grownBy W' row → (∀ r, row = some r → r = Bs ∧ ∃ o : Obj, W'.heap[r]? = some o ∧ o.isCells = true) → J s W'
def OwnB {β : Type} (Bs B : Nat) (I : β → World → Prop) : Prop :=
 ∀ s W W' row, I s W → W.grownBy W' row → (∀ r, row = some r → (r = Bs ∧ ∃ o : Obj, W'.heap[r]? = some o ∧ o.isCells = true) ∨ (B ≤ r ∧ ∃ o : Obj, W.heap[r]? = some o ∧ o.isCells = false)) → I s W'
section
variable {β : Type} {Bs B : Nat} {I : β → World → Prop} {s : β} {W : World}
theorem OwnB.abides (h : OwnB Bs B I) : AbidesB Bs I := fun s W W' row hs hg hr => h s W W' row hs hg (fun r e => .inl (hr r e))
theorem OwnB.put (h : OwnB Bs B I) {l : Nat} {o : Obj} (o' : Obj) (hs : I s W) (hB : B ≤ l) (hl : W.heap[l]? = some o) (ho : o.isCells = false) : I s (W.putObj l o') :=
 h s W _ (some l) hs (grownBy_putObj' W l o') (fun r e => by cases e; exact .inr ⟨hB, o, hl, ho⟩)
theorem OwnB.alloc (h : OwnB Bs B I) (o : Obj) (hs : I s W) : I s (W.alloc o) := h s W _ none hs (World.grownBy_alloc W o none) (fun r e => by cases e)
end
def SeqB {α : Type} (F : Fence) (n : Nat) (P : Program) (g : Nat) (lb : Array Value) (encs : α → Array Value) (Bs : Nat) (Kp : World → World → Prop) (S Sp : List α → Prop) (N : Nat) (w : World) : Prop :=
 ∀ (l : Nat) (J Jx : List α → World → Prop) (W : World), Below w.heap.size w W → AbidesB Bs J →
  (∀ pre x W1, J pre W1 → pre.length < N → YieldAt F (n - 1) P l (encs x) W1 fun e W' =>
    (e = .returned (.bool true) ∧ J (pre ++ [x]) W' ∧ Kp W1 W') ∨ (e = .returned (.bool false) ∧ Jx (pre ++ [x]) W')) →
  J [] W →
  CallsIn F n P g (#[.func (.yield l) #[] #[]] ++ lb) W fun e W' => (∃ v, e = .returned v) ∧ ((∃ xs, S xs ∧ J xs W') ∨ (∃ pre, Sp pre ∧ Jx pre W'))
theorem grownB_keeps {Bs : Nat} {W W' : World} {row : Option Nat} (hg : W.grownBy W' row) (hr : ∀ r, row = some r → r = Bs ∧ ∃ o : Obj, W'.heap[r]? = some o ∧ o.isCells = true) {k : Nat} {o : Obj} (hk : W.heap[k]? = some o) (hne : k ≠ Bs) : W'.heap[k]? = some o :=
 (hg.block k (Array.getElem?_eq_some_iff.1 hk).1 (fun e => hne (hr k e.symm).1)).trans hk
variable {F : Fence} {n : Nat} {P : Program}
theorem wpIn_rangeFunc_B {α : Type} {g : Operand} {ps : Array Tmp} {assign body : Code} {Q : Exit → Act → World → Prop} {a : Act} {w : World}
 (hro : F.round = none) (h1 : 1 ≤ n) {gf : Nat} {lb : Array Value} (hg : a.eval g = .func (.func gf) #[] lb) (hFg : F.fn gf) (eg : ∀ args w, (callFunc gf args).run P w = .ok (.enter gf args) w)
 {encs : α → Array Value} {Bs : Nat} {Kp : World → World → Prop} {S Sp : List α → Prop} {N : Nat} (hseq : SeqB F (n - 1) P gf lb encs Bs Kp S Sp N w) (hBs : Bs < w.heap.size)
 (hKt : ∀ {A B C : World}, Kp A B → Kp B C → Kp A C) (hKb : ∀ (W : World) (l : Nat) (o' : Obj), w.heap.size ≤ l → Kp W (W.putObj l o')) (hps : ∀ x, (encs x).size = ps.size)
 (I : List α → World → Prop) (Ix : Code → List α → World → Prop) (hI : OwnB Bs w.heap.size I) (hIx : ∀ c, OwnB Bs w.heap.size (Ix c)) (h0 : I [] w) (a₁ : α → Act)
 (hassign : ∀ (l : Nat) (x : α) (W : World) (K : Act → World → Prop), K (a₁ x) W →
   assign.wpIn (F.inRound l) (n - 1 - 1) P (Exit.then K (fun _ _ _ => False)) { tmps := (ps.zip (encs x)).foldl (fun t (p, v) => t.setIfInBounds p v) a.tmps, defers := [] } W)
 (hbody : ∀ (l : Nat) (pre : List α) (x : α) (W : World), I pre W → pre.length < N → body.wpIn (F.inRound l) (n - 1 - 1) P (ownPostG w.heap.size Kp I Ix (pre ++ [x]) W) (a₁ x) W)
 (hdone : ∀ (D : Nat) (xs : List α) (W : World), w.heap.size ≤ D → S xs → I xs W → W.heap[D]? = some (.deferred (some [])) → Q .normal { a with defers := { target := .collected D, args := #[] } :: a.defers } W)
 (hstop : ∀ (D : Nat) (c : Code) (pre : List α) (W : World), w.heap.size ≤ D → Sp pre → Ix c pre W → W.heap[D]? = some (.deferred (some [])) → c.wpIn F n P Q { a with defers := { target := .collected D, args := #[] } :: a.defers } W) :
 (Code.rangeFunc g ps assign body).wpIn F n P Q a w := by
 refine wpIn_rangeFunc ?_
 intro fn hfn
 rw [hro]
 obtain ⟨K0, hK0⟩ : ∃ k, k = w.heap.size := ⟨_, rfl⟩
 obtain ⟨rc, hrc⟩ : ∃ rc : LoopState → Option Code → Loop, rc = fun st pe => { state := st, pending := pe, fn, tmps := a.tmps, params := ps, assign, body, defers := K0 } := ⟨_, rfl⟩
 obtain ⟨W1, hW1⟩ : ∃ W1, (w.alloc (.deferred (some []))).alloc (.loop (rc .ready none)) = W1 := ⟨_, rfl⟩
 have hR : W1.heap[K0 + 1]? = some (.loop (rc .ready none)) := by
  have := World.alloc_heap_new (w.alloc (.deferred (some []))) (.loop (rc .ready none))
  rw [← hW1, hK0]
  rwa [World.size_alloc] at this
 have hD : W1.heap[K0]? = some (.deferred (some [])) := by
  rw [← hW1, hK0]
  exact (Below.heap_alloc _ _ _ (by simp)).trans (World.alloc_heap_new w _)
 have hI1 : I [] W1 := by rw [← hW1]; exact hI.alloc _ (hI.alloc _ h0)
 have hb1 : Below w.heap.size w W1 := by
  rw [← hW1]
  exact ((Below.refl _ w).alloc (Nat.le_refl _) _).alloc (by simp) _
 have hl0 : (Instr.enterLoop fn a.tmps ps assign body none).run P w = .ok (K0 + 1, [{ target := .collected K0, args := #[] }]) W1 := by
  rw [← hW1, hrc, hK0]
  exact run_enterLoop_outer _ _ _ _ _
 refine ⟨K0 + 1, [{ target := .collected K0, args := #[] }], W1, { target := .fn (.func gf) lb, args := #[.func (.yield (K0 + 1)) #[] #[]] }, W1, gf, #[.func (.yield (K0 + 1)) #[] #[]] ++ lb, W1, hl0, ?_, ?_, ?_, fun _ => h1, ?_⟩
 · simp only [resolve, hg]
   simp [go_sem]
 · intro f' hf'
   simp [Target.leads] at hf'
   subst hf'
   exact hFg
 · simp [invoke, go_sem, eg]
 · have ne0 : K0 ≠ Bs := by omega
   have ne1 : K0 + 1 ≠ Bs := by omega
   refine (hseq (K0 + 1)
    (fun pre W => I pre W ∧ W.heap[K0 + 1]? = some (.loop (rc .ready none)) ∧ W.heap[K0]? = some (.deferred (some [])))
    (fun pre W => ∃ c, Ix c pre W ∧ W.heap[K0 + 1]? = some (.loop (rc .done (some c))) ∧ W.heap[K0]? = some (.deferred (some [])))
    W1 hb1 (fun s A B row hs hg' hr => ⟨hI.abides s A B row hs.1 hg' hr, grownB_keeps hg' hr hs.2.1 ne1, grownB_keeps hg' hr hs.2.2 ne0⟩) ?_ ⟨hI1, hR, hD⟩).mono ?_
   · rintro pre x W ⟨hi, hl, hk⟩ hlen
     have hlt : K0 + 1 < W.heap.size := (Array.getElem?_eq_some_iff.1 hl).1
     have hy := run_yield (P := P) (args := encs x) hl (by rw [hrc]; exact hps x)
     rw [hrc] at hy
     refine ⟨fn, _, assign, body, hy, roundIn_of_wpIn hfn (hassign _ x W _ ?_)⟩
     clear hy
     refine ⟨_, run_beginRound hl (by rw [hrc]), ?_⟩
     have hl2 : (W.putObj (K0 + 1) (.loop { rc .ready none with state := .busy })).heap[K0 + 1]? = some (.loop { rc .ready none with state := .busy }) := World.putObj_heap_same hlt
     have hk2 : (W.putObj (K0 + 1) (.loop { rc .ready none with state := .busy })).heap[K0]? = some (.deferred (some [])) := (World.putObj_heap_other (by omega)).trans hk
     have hw2 : Kp W (W.putObj (K0 + 1) (.loop { rc .ready none with state := .busy })) := hKb _ _ _ (by omega)
     refine wpIn_mono (hbody _ pre x _ (hI.put _ hi (by omega) hl rfl) hlen) ?_
     have fin : ∀ (jump : Option Code) (W3 : World), KeepsFrom w.heap.size (W.putObj (K0 + 1) (.loop { rc .ready none with state := .busy })) W3 →
      (Instr.endRound (K0 + 1) jump).run P W3 = .ok (.bool jump.isNone) (W3.putObj (K0 + 1) (.loop (rc (if jump.isNone then .ready else .done) jump))) ∧
      W3.heap[K0 + 1]? = some (.loop { rc .ready none with state := .busy }) ∧
      (W3.putObj (K0 + 1) (.loop (rc (if jump.isNone then .ready else .done) jump))).heap[K0 + 1]? = some (.loop (rc (if jump.isNone then .ready else .done) jump)) ∧
      (W3.putObj (K0 + 1) (.loop (rc (if jump.isNone then .ready else .done) jump))).heap[K0]? = some (.deferred (some [])) := fun jump W3 hk3 => by
      have hl3 := hk3.same _ _ (by omega) hl2 rfl
      have he := run_endRound (P := P) jump hl3
      rw [hrc] at he ⊢
      exact ⟨he, by rw [hrc] at hl3; exact hl3, World.putObj_heap_same (Array.getElem?_eq_some_iff.1 hl3).1, (World.putObj_heap_other (by omega)).trans (hk3.same _ _ (by omega) hk2 rfl)⟩
     rintro e a3 W3 hp
     cases e with
     | normal =>
      obtain ⟨hk3, hkp3, hi3⟩ := hp
      obtain ⟨hr, hl3, hl4, hk4⟩ := fin none W3 hk3
      exact ⟨_, _, hr, .inl ⟨rfl, ⟨hI.put _ hi3 (by omega) hl3 rfl, hl4, hk4⟩, hKt (hKt hw2 hkp3) (hKb _ _ _ (by omega))⟩⟩
     | ret =>
      obtain ⟨hk3, hi3⟩ := hp
      obtain ⟨hr, hl3, hl4, hk4⟩ := fin (some .ret) W3 hk3
      exact ⟨_, _, hr, .inr ⟨rfl, .ret, (hIx _).put _ hi3 (by omega) hl3 rfl, hl4, hk4⟩⟩
     | exit id =>
      obtain ⟨hk3, hi3⟩ := hp
      obtain ⟨hr, hl3, hl4, hk4⟩ := fin (some (.exit id)) W3 hk3
      exact ⟨_, _, hr, .inr ⟨rfl, .exit id, (hIx _).put _ hi3 (by omega) hl3 rfl, hl4, hk4⟩⟩
     | goto t =>
      obtain ⟨hk3, hi3⟩ := hp
      obtain ⟨hr, hl3, hl4, hk4⟩ := fin (some (.goto t)) W3 hk3
      exact ⟨_, _, hr, .inr ⟨rfl, .goto t, (hIx _).put _ hi3 (by omega) hl3 rfl, hl4, hk4⟩⟩
     | panic ch => exact hp.elim
     | outgrown => exact hp.elim
   · rintro e W2 ⟨⟨v, rfl⟩, (⟨xs, hS, hi, hl, hk⟩ | ⟨pre, hSp, c, hi, hl, hk⟩)⟩
     · have he := run_endLoop (P := P) hl (by rw [hrc]; simp)
       rw [hrc] at he
       exact ⟨none, _, he, hdone _ xs _ (by omega) hS (hI.put _ hi (by omega) hl rfl) ((World.putObj_heap_other (by omega)).trans hk)⟩
     · have he := run_endLoop (P := P) hl (by rw [hrc]; simp)
       rw [hrc] at he
       exact ⟨some c, _, he, hstop _ c pre _ (by omega) hSp ((hIx c).put _ hi (by omega) hl rfl) ((World.putObj_heap_other (by omega)).trans hk)⟩
end Go.Proofs.YtgbpfgdjnhbcgaaGreatDoor
end
section
namespace Go.Proofs.YtgbpfgdjnhbcgaaGreatDoor.Path
open Go.RowKit Go.Shelf
attribute [local go_sem] Oper.semAt_some
abbrev bl (x : ByteArray) : Bs := x.data.toList
def slashB : ByteArray := ⟨#[47]⟩
def keep3 (b1 b2 b3 : Nat) (W W' : World) : Prop := ∀ b, b = b1 ∨ b = b2 ∨ b = b3 → W'.heap[b]? = W.heap[b]?
def lenAt (w : World) (b : Nat) : Nat := match w.heap[b]? with | some (.cells #[.string r] _ _) => r.size | _ => 0
theorem lenAt_eq {w : World} {b : Nat} {r : ByteArray} {t : TypeId} (h : Boxed w b t (.string r)) : lenAt w b = r.size := by
 unfold lenAt; rw [show w.heap[b]? = _ from h]; rfl
theorem idx_none {l : Bs} (h : Lib.indexByte l 47 < 0) : splits l = [l] := by
 refine splits_noslash l (fun c hc e => ?_)
 subst e
 have h1 : Lib.indexByte l 47 = -1 := by have := Lib.indexByte_ge l 47; omega
 obtain ⟨k, hk⟩ := List.mem_iff_getElem?.1 hc
 exact Lib.indexByte_none h1 k hk
theorem idx_some {l : Bs} {i : Nat} (h : Lib.indexByte l 47 = i) : i < l.length ∧ splits l = l.take i :: splits (l.drop (i + 1)) := by
 obtain ⟨h1, h2⟩ := Lib.indexByte_some h
 have hi := (List.getElem?_eq_some_iff.1 h1).1
 refine ⟨hi, ?_⟩
 have e : l = l.take i ++ 47 :: l.drop (i + 1) := by
  have := (List.getElem?_eq_some_iff.1 h1).2
  rw [← this, ← List.drop_eq_getElem_cons hi, List.take_append_drop]
 conv => lhs; rw [e]
 rw [splits_app _ _ (fun c hc ec => ?_)]
 subst ec
 obtain ⟨k, hk⟩ := List.mem_iff_getElem?.1 hc
 rw [List.getElem?_take] at hk
 split at hk
 · rename_i hki; exact h2 k hki hk
 · cases hk
theorem index_any (n : Nat) (r : ByteArray) (w : World) : CallsIn Fence.wide n Tryz.prog 113 #[.string r, .string ⟨#[47]⟩] w fun e w' => e = .returned (.int .i64 (Lib.indexByte r.data.toList 47)) ∧ w = w' :=
 callsIn_wide.2 ((Tryz.strings_Index_one _ _ _).mono fun _ _ ⟨he, hw⟩ => ⟨he, hw.symm⟩)
theorem split1_in (n : Nat) (hn : 3 ≤ n) (l Bs Bp Bv : Nat) (h12 : Bs ≠ Bp) (h13 : Bs ≠ Bv) (s : ByteArray) (hs : s.size ≤ 2000000) (J Jx : List ByteArray → World → Prop) (W : World) (hJ : AbidesB Bs J)
 (hY : ∀ pre x W1, J pre W1 → pre.length < 2000001 → YieldAt Fence.wide (n - 1) Tryz.prog l #[.string x] W1 fun e W' => (e = .returned (.bool true) ∧ J (pre ++ [x]) W' ∧ keep3 Bs Bp Bv W1 W') ∨ (e = .returned (.bool false) ∧ Jx (pre ++ [x]) W'))
 (h1 : Boxed W Bs 9 (.string s)) (h2 : Boxed W Bp 9 (.string slashB)) (h3 : Boxed W Bv 3 (.int .i64 0)) (h0 : J [] W) :
 CallsIn Fence.wide n Tryz.prog 111 #[.func (.yield l) #[] #[], .pointer (some ⟨Bp, 0, none⟩), .pointer (some ⟨Bs, 0, none⟩), .pointer (some ⟨Bv, 0, none⟩)] W fun e W' =>
  (∃ v, e = .returned v) ∧ ((∃ ys : List ByteArray, ys.map bl = splits (bl s) ∧ J ys W') ∨ (∃ pre : List ByteArray, pre.map bl <+: splits (bl s) ∧ Jx pre W')) := by
 have hn1 : 1 ≤ n := by omega
 have c1 := h1.cell
 have c2 := h2.cell
 have c3 := h3.cell
 refine callsIn_of_wp Tryz.func111 rfl trivial ?_ rfl
 simp only [Tryz.ntmps111, List.size_toArray, List.length_cons, List.length_nil, Nat.reduceAdd, Nat.reduceSub, Array.replicate_succ, Array.replicate_zero, List.push_toArray, List.append_toArray, List.nil_append, List.cons_append]
 unfold slashB at c2
 gi_wp2
 gi_loopw [7] (fun _ wr => ∃ (pre : List ByteArray) (r : ByteArray), splits (bl s) = pre.map bl ++ splits (bl r) ∧ pre.length + r.size ≤ s.size ∧ J pre wr ∧ Boxed wr Bs 9 (.string r) ∧ Boxed wr Bp 9 (.string ⟨#[47]⟩) ∧ Boxed wr Bv 3 (.int .i64 0))
  (fun _ wr => lenAt wr Bs)
 case atStart => exact ⟨[], s, rfl, by simp, h0, h1, h2, h3⟩
 case round =>
  obtain ⟨pre, r, hsp, hlen, hJs, b1, b2, b3⟩ := hrel
  clear c1 c2 c3
  have c1 := b1.cell
  have c2 := b2.cell
  have c3 := b3.cell
  rcases Int.lt_or_le (Lib.indexByte (bl r) 47) 0 with hi | hi
  · have hsr := idx_none hi
    have hi' : decide (Lib.indexByte r.data.toList 47 < 0) = true := by simpa using hi
    gi_wp2_with fail
    refine ⟨trivial, (index_any _ _ _).mono ?_⟩
    rintro e _ ⟨rfl, rfl⟩
    obtain ⟨fn, tmps, assign, body, hy, hR⟩ := hY pre r wr hJs (by omega)
    have hsp' := Lib.hid hsp
    have hsr' := Lib.hid hsr
    clear hsp hsr
    gi_wp2
    refine hR.mono ?_
    rintro e W3 (⟨rfl, hJ3, hk3⟩ | ⟨rfl, hJx3⟩)
    · gi_wp2
      go_end0
      exact ⟨⟨_, rfl⟩, .inl ⟨pre ++ [r], by rw [hsp'.out, hsr'.out]; simp, hJ3⟩⟩
    · gi_wp2
      go_end0
      exact ⟨⟨_, rfl⟩, .inr ⟨pre ++ [r], by rw [hsp'.out, hsr'.out]; simp, hJx3⟩⟩
  · obtain ⟨i, hi2⟩ := Int.eq_ofNat_of_zero_le hi
    obtain ⟨hilt, hsr⟩ := idx_some hi2
    have hi' : decide (Lib.indexByte r.data.toList 47 < 0) = false := by simpa using hi
    have hi3 := Lib.hid hi2
    have hrl : (bl r).length = r.size := by simp
    have hil : i + 1 ≤ r.size := by omega
    have hsp' := Lib.hid hsp
    have hsr' := Lib.hid hsr
    clear hsp hsr hi2
    gi_wp2_with fail
    refine ⟨trivial, (index_any _ _ _).mono ?_⟩
    rintro e _ ⟨rfl, rfl⟩
    rw [show Lib.indexByte r.data.toList 47 = (i : Int) from hi3.out]
    clear hi hi' hi3 hilt hrl
    have hi' : decide ((i : Int) < 0) = false := by simp
    obtain ⟨fn, tmps, assign, body, hy, hR⟩ := hY pre (r.extract 0 i) wr hJs (by omega)
    gi_wp2
    refine hR.mono ?_
    have e1 : bl (r.extract 0 i) = (bl r).take i := by simp [bl]
    have e2 : bl (r.extract (i + 1) r.size) = (bl r).drop (i + 1) := by simp only [bl]; simp; rw [List.take_of_length_le (by simp)]
    have e1' := Lib.hid e1
    have e2' := Lib.hid e2
    clear e1 e2
    rintro e W3 (⟨rfl, hJ3, hk3⟩ | ⟨rfl, hJx3⟩)
    · have d1 : Boxed W3 Bs 9 (.string r) := (hk3 Bs (.inl rfl)).trans b1
      have d2 : Boxed W3 Bp 9 (.string ⟨#[47]⟩) := (hk3 Bp (.inr (.inl rfl))).trans b2
      have d3 : Boxed W3 Bv 3 (.int .i64 0) := (hk3 Bv (.inr (.inr rfl))).trans b3
      have x1 := d1.cell
      have x2 := d2.cell
      have x3 := d3.cell
      have f1 := d1.frozen
      clear hR hy hk3
      gi_wp2
      have g1 := d1.set (.string (r.extract (i + 1) r.size))
      go_roundw
      case rel =>
       refine ⟨pre ++ [r.extract 0 i], r.extract (i + 1) r.size, ?_, ?_, ?_, g1, d2.other (Ne.symm h12) _, d3.other (Ne.symm h13) _⟩
       · rw [hsp'.out, hsr'.out, e2'.out]; simp [e1'.out]
       · simp; omega
       · exact hJ _ _ _ (some Bs) hJ3 (grownBy_setCell' W3 Bs _) (fun q e => by cases e; exact ⟨rfl, _, g1, rfl⟩)
      case measure =>
       rw [lenAt_eq g1, lenAt_eq b1]
       simp
       omega
    · gi_wp2
      refine bodyPost_ret (results_none rfl _ _ _) rfl ?_
      exact ⟨⟨_, rfl⟩, .inr ⟨pre ++ [r.extract 0 i], ⟨splits ((bl r).drop (i + 1)), by rw [hsp'.out, hsr'.out, List.map_append, List.append_assoc]; simp [e1'.out]⟩, hJx3⟩⟩
theorem splitSeq_any (s : ByteArray) (w : World) : Calls Tryz.prog 99 #[.string s, .string ⟨#[47]⟩] w fun e w' =>
 e = .returned (.func (.func 111) #[] #[.pointer (some ⟨w.heap.size + 1, 0, none⟩), .pointer (some ⟨w.heap.size, 0, none⟩), .pointer (some ⟨w.heap.size + 2, 0, none⟩)]) ∧
  w' = ((w.alloc (.cells #[.string s] 9)).alloc (.cells #[.string ⟨#[47]⟩] 9)).alloc (.cells #[.int .i64 0] 3) := by
 have h1 : Calls Tryz.prog 107 #[.string s, .string ⟨#[47]⟩, .int .i64 0] w fun e w' =>
  e = .returned (.func (.func 111) #[] #[.pointer (some ⟨w.heap.size + 1, 0, none⟩), .pointer (some ⟨w.heap.size, 0, none⟩), .pointer (some ⟨w.heap.size + 2, 0, none⟩)]) ∧
   w' = ((w.alloc (.cells #[.string s] 9)).alloc (.cells #[.string ⟨#[47]⟩] 9)).alloc (.cells #[.int .i64 0] 3) := by
  go_enter Tryz.func107, Tryz.ntmps107
  go_wp2
  go_ret
  exact ⟨rfl, rfl⟩
 go_enter Tryz.func99, Tryz.ntmps99
 go_wp2_with fail
 refine h1.mono ?_
 rintro e _ ⟨rfl, rfl⟩
 go_wp2_with fail
 go_ret
 exact ⟨rfl, rfl⟩
end Go.Proofs.YtgbpfgdjnhbcgaaGreatDoor.Path
end
section
namespace Go.Proofs.YtgbpfgdjnhbcgaaGreatDoor.Cmd
open Path (bl rightB overB)
structure Cm where
 kind : Int
 num : Int
 foot : ByteArray
 req : Int
 path : ByteArray
 mode : Int
 n : Int
 time : Int
deriving DecidableEq
def Cm.cells (c : Cm) : List Value := [.int .i64 c.kind, .int .u64 c.num, .string c.foot, .int .u64 c.req, .string c.path, .int .i64 c.mode, .int .u64 c.n, .int .i64 c.time]
def Cm.val (c : Cm) : Value := .agg #[.int .i64 c.kind, .int .u64 c.num, .string c.foot, .int .u64 c.req, .string c.path, .int .i64 c.mode, .int .u64 c.n, .int .i64 c.time]
structure Hs where
 session : Bool
 request : Bool
 path : Bool
 mode : Bool
 n : Bool
 time : Bool
def hasOf (k : Int) : Option Hs :=
 if k = 0 then some ⟨false, false, false, false, false, false⟩
 else if k = 1 then some ⟨true, true, false, false, true, true⟩
 else if k = 2 then some ⟨true, true, false, false, false, false⟩
 else if k = 3 then some ⟨true, true, false, false, false, true⟩
 else if k = 4 then some ⟨true, true, true, true, false, false⟩
 else if k = 5 then some ⟨true, true, true, true, false, false⟩
 else if k = 6 then some ⟨true, true, true, false, false, false⟩
 else if k = 7 then some ⟨true, true, true, false, true, false⟩
 else if k = 8 then some ⟨true, false, false, false, false, true⟩
 else none
def bareC (c : Cm) (h : Hs) : Cm := ⟨c.kind, if h.session then c.num else 0, if h.session then c.foot else .empty, if h.request then c.req else 0, if h.path then c.path else .empty, if h.mode then c.mode else 0, if h.n then c.n else 0, if h.time then c.time else 0⟩
def mostN (k : Int) : Int := if k = 1 then 1048576 else 9223372036854775807
def rightH (c : Cm) (h : Hs) : Bool := decide (c = bareC c h) && (!h.session || rightB (bl c.foot)) && (!h.request || !(c.req == 0)) && (!h.path || rightB (bl c.path)) && (!h.mode || !((c.mode != 1) && (c.mode != 2))) && (!h.n || !((c.n == 0) || decide (mostN c.kind < c.n))) && (decide (0 ≤ c.time) && decide (c.time ≤ 1099511627776))
def rightC (c : Cm) : Bool := match hasOf c.kind with
 | some h => rightH c h
 | none => false
def footC (c : Cm) : ByteArray × Bool := if rightC c then (match hasOf c.kind with
 | some h => if h.path then (c.path, true) else (c.foot, h.session)
 | none => (.empty, false)) else (.empty, false)
def keyC (c : Cm) : Option (ByteArray × Int) := if (footC c).2 then some ((footC c).1, c.num) else none
end Go.Proofs.YtgbpfgdjnhbcgaaGreatDoor.Cmd
namespace Go
abbrev k8 (k n : Int) (f : ByteArray) (r : Int) (p : ByteArray) (m u t : Int) : List Value := [.int .i64 k, .int .u64 n, .string f, .int .u64 r, .string p, .int .i64 m, .int .u64 u, .int .i64 t]
abbrev k2 (p q : Nat) : List Value := [.pointer (some ⟨p, 0, none⟩), .pointer (some ⟨q, 0, none⟩)]
end Go
end
section
namespace Go.Proofs.YtgbpfgdjnhbcgaaGreatDoor.Attr
structure A8 where
 s : Int
 d0 : Int
 d1 : Int
 d2 : Int
 d3 : Int
 d4 : Int
 d5 : Int
 d6 : Int
deriving DecidableEq
def A8.cells (a : A8) : List Value := [.int .i64 a.s, .int .i64 a.d0, .int .i64 a.d1, .int .i64 a.d2, .int .i64 a.d3, .int .i64 a.d4, .int .i64 a.d5, .int .i64 a.d6]
def A8.val (a : A8) : Value := .agg #[.int .i64 a.s, .int .i64 a.d0, .int .i64 a.d1, .int .i64 a.d2, .int .i64 a.d3, .int .i64 a.d4, .int .i64 a.d5, .int .i64 a.d6]
def A8.zero : A8 := ⟨0, 0, 0, 0, 0, 0, 0, 0⟩
def A8.merge (a b : A8) : A8 := ⟨max a.s b.s, max a.d0 b.d0, max a.d1 b.d1, max a.d2 b.d2, max a.d3 b.d3, max a.d4 b.d4, max a.d5 b.d5, max a.d6 b.d6⟩
def A8.past (a : A8) (q : Int) : A8 := if 0 ≤ q then { a with s := max a.s (min q 1073741823 + 1) } else a
def A8.set (a : A8) (q : Nat) (v : Int) : A8 := match q with
 | 0 => { a with d0 := v }
 | 1 => { a with d1 := v }
 | 2 => { a with d2 := v }
 | 3 => { a with d3 := v }
 | 4 => { a with d4 := v }
 | 5 => { a with d5 := v }
 | 6 => { a with d6 := v }
 | _ => a
def rightI (r t : Int) : Bool := decide (0 ≤ r) && decide (r ≤ 6) && decide (0 ≤ t) && decide (t < 1024)
def A8.own (a : A8) (r t : Int) : A8 := if rightI r t then a.set r.toNat t else a
def badD (d : Int) : Bool := decide (d < 0) || decide (1024 < d)
def A8.right (a : A8) : Bool := !badD a.d0 && !badD a.d1 && !badD a.d2 && !badD a.d3 && !badD a.d4 && !badD a.d5 && !badD a.d6 && (decide (0 ≤ a.s) && decide (a.s ≤ 1073741824))
theorem rightI_iff {r t : Int} : rightI r t = true ↔ 0 ≤ r ∧ r ≤ 6 ∧ 0 ≤ t ∧ t < 1024 := by
 unfold rightI
 simp
 omega
end Go.Proofs.YtgbpfgdjnhbcgaaGreatDoor.Attr
end
section
namespace Go.Proofs.YtgbpfgdjnhbcgaaGreatDoor.Ix
open Go.RowKit
open Go.Maps (Keyed)
open Path (bl rightB overB)
open Attr (A8 rightI)
open Cmd (Cm keyC)
structure En where
 foot : ByteArray
 num : Int
 a : A8
deriving DecidableEq
def keyV (f : ByteArray) (n : Int) : Value := .agg #[.string f, .int .u64 n]
def En.key (e : En) : Value := keyV e.foot e.num
def ent (e : En) : Value × Value := (e.key, e.a.val)
def ents (l : List En) : List (Value × Value) := l.map ent
abbrev headC (p m : Nat) : Part := Part.cells p [.map (some m)] 76
abbrev mapC (m : Nat) (es : List (Value × Value)) : Part := Part.map Tryz.prog 37 m es
def IxP (p m : Nat) (es : List En) : Part := Part.all [headC p m, mapC m (ents es)]
theorem eqv0 (p m : Nat) (es : List En) (F : List Part) : Eqv (IxP p m es :: F) (headC p m :: mapC m (ents es) :: F) := Eqv.all [headC p m, mapC m (ents es)] F
theorem begin0 {w : World} {p m : Nat} {es : List En} (h : Sep [IxP p m es] w) : At [IxP p m es] w [headC p m, mapC m (ents es)] w := (At.start h).to (eqv0 p m es [])
theorem fold0 {L0 L F G : List Part} {w0 w : World} {p m : Nat} {es : List En} (h : At L0 w0 L w) (s1 : Sel (headC p m) L F) (s2 : Sel (mapC m (ents es)) F G) : At L0 w0 (IxP p m es :: G) w :=
 (h.perm (s1.perm.trans (s2.perm.cons _))).to (eqv0 p m es G).symm
theorem close0 {L0 L F G : List Part} {w0 w : World} {p m : Nat} {es : List En} (h : At L0 w0 L w) (s1 : Sel (headC p m) L F) (s2 : Sel (mapC m (ents es)) F G) : At L0 w0 [IxP p m es] w := (fold0 h s1 s2).only1 .here
theorem laidOut : laidOutB Tryz.prog = true := by kernel_rfl
theorem wideK : (match Tryz.prog.underlying 37 with | some (.array _ _) | some (.struct _) => true | _ => false) = true := by kernel_rfl
theorem rowK : (37 : TypeId) < Tryz.prog.types.size := of_decide_eq_true (by kernel_rfl)
theorem lawK : Keyed Tryz.prog 37 := Keyed.of_law (deep_law_laid laidOut (m := 2) (by omega) rowK (by kernel_rfl) wideK)
theorem keyTypeK : Tryz.prog.keyType 37 = true := by kernel_rfl
theorem cellsK : Tryz.prog.cellsOf 37 = 2 := by kernel_rfl
theorem cellsU : Tryz.prog.cellsOf 23 = 1 := by kernel_rfl
theorem cellsStr : Tryz.prog.cellsOf 9 = 1 := by kernel_rfl
theorem formedK (c0 c1 : Value) : (Value.agg #[c0, c1]).formed Tryz.prog 37 = true := by simp [Value.formed, Tryz.underlying37, cellsK]
def big64 : Int := 18446744073709551616
theorem keyK {f : ByteArray} {n : Int} (hf : f.size ≤ maxLen) (h0 : 0 ≤ n) (h1 : n < big64) : ∃ l, keyOf Tryz.prog 37 (keyV f n) = some l := by
 have hw : (Lit.int .u64 n).wf = true := by simp [Lit.wf, IntKind.min, IntKind.max, IntKind.signed, IntKind.bits]; unfold big64 at h1; omega
 obtain ⟨d, hd⟩ : ∃ d, Tryz.prog.types.size = d + 1 := Nat.exists_eq_succ_of_ne_zero (Nat.ne_of_gt (Nat.lt_of_le_of_lt (Nat.zero_le _) rowK))
 have hl : Tryz.prog.keyLits (Tryz.prog.types.size + 1) 37 [.string f, .int .u64 n] = some [.string f.data.toList, .int .u64 n] := by
  rw [hd]
  simp [Program.keyLits, Tryz.underlying37, Tryz.underlying23, Tryz.underlying9, cellsK, cellsU, cellsStr, hw, hf]
 exact ⟨.string (keyBytes [.string f.data.toList, .int .u64 n]), by
  unfold keyOf
  rw [Tryz.underlying37]
  simp only [keyTypeK, keyV, formedK, Bool.and_self, if_true]
  rw [show (Value.agg #[.string f, .int .u64 n]).cells.toList = [.string f, .int .u64 n] from rfl, hl]
  rfl⟩
def En.is (e : En) (f : ByteArray) (n : Int) : Bool := decide (e.foot = f ∧ e.num = n)
def find (es : List En) (f : ByteArray) (n : Int) : Option En := es.find? (·.is f n)
def mergeE : List En → ByteArray → Int → A8 → List En
 | [], f, n, a => [⟨f, n, A8.zero.merge a⟩]
 | e :: es, f, n, a => if e.is f n then ⟨f, n, e.a.merge a⟩ :: es else e :: mergeE es f n a
def noteA (r t q : Int) : A8 := ({ A8.zero with s := min (max q 0) 1073741824 }).set r.toNat (t + 1)
def noteE (es : List En) (k : Option (ByteArray × Int)) (r t q : Int) : List En := match k with
 | some (f, n) => if rightI r t then mergeE es f n (noteA r t q) else es
 | none => es
def addE (es : List En) (f : ByteArray) (n : Int) (a : A8) : List En := if rightB (bl f) && a.right then mergeE es f n a else es
def clashK (k o : ByteArray × Int) : Bool := (k.2 == o.2) || overB (bl k.1) (bl o.1)
def askStep (g : Bool) (k : ByteArray × Int) (o : A8) (e : En) : A8 := if g && clashK k (e.foot, e.num) then o.merge (e.a.past e.a.s) else o
def askF (g : Bool) (k : ByteArray × Int) (es : List En) : A8 := es.foldl (askStep g k) A8.zero
def askE (es : List En) (k : Option (ByteArray × Int)) (r t : Int) : A8 := (match k with
 | some k => askF (rightI r t) k es
 | none => A8.zero).own r t
theorem find_split {es : List En} {f : ByteArray} {n : Int} {e : En} (h : find es f n = some e) : ∃ l1 l2, es = l1 ++ e :: l2 ∧ e.foot = f ∧ e.num = n ∧ ∀ x ∈ l1, x.is f n = false := by
 obtain ⟨h1, l1, l2, h2, h3⟩ := List.find?_eq_some_iff_append.1 h
 have h4 : e.foot = f ∧ e.num = n := by simpa [En.is] using h1
 exact ⟨l1, l2, h2, h4.1, h4.2, fun x hx => by simpa using h3 x hx⟩
theorem find_none {es : List En} {f : ByteArray} {n : Int} (h : find es f n = none) : ∀ q ∈ ents es, q.1 ≠ keyV f n := by
 intro q hq
 obtain ⟨e, he, rfl⟩ := List.mem_map.1 hq
 have h1 : ¬ e.is f n = true := List.find?_eq_none.1 h e he
 intro q2
 apply h1
 simp [ent, En.key, keyV] at q2
 simp [En.is, q2]
theorem find_mem {es : List En} {f : ByteArray} {n : Int} {e : En} (h : find es f n = some e) : (keyV f n, e.a.val) ∈ ents es := by
 obtain ⟨l1, l2, rfl, rfl, rfl, _⟩ := find_split h
 simp [ents, ent, En.key]
theorem merge_none {a : A8} {f : ByteArray} {n : Int} : ∀ {es : List En}, find es f n = none → mergeE es f n a = es ++ [⟨f, n, A8.zero.merge a⟩]
 | [], _ => rfl
 | e :: es, h => by
  unfold find at h
  rw [List.find?_cons] at h
  cases he : e.is f n with
  | true => rw [he] at h; cases h
  | false =>
   rw [he] at h
   simp [mergeE, he, merge_none (es := es) h]
theorem merge_mid {a : A8} {f : ByteArray} {n : Int} {e : En} {l2 : List En} (he : e.is f n = true) : ∀ {l1 : List En}, (∀ x ∈ l1, x.is f n = false) → mergeE (l1 ++ e :: l2) f n a = l1 ++ ⟨f, n, e.a.merge a⟩ :: l2
 | [], _ => by simp [mergeE, he]
 | x :: l1, h => by
  have h1 := h x (by simp)
  have h2 := merge_mid (a := a) (l2 := l2) he (l1 := l1) (fun y hy => h y (by simp [hy]))
  simp [mergeE, h1, h2]
theorem ents_one (es : List En) (f : ByteArray) (n : Int) (a : A8) : ents es ++ [(keyV f n, a.val)] = ents (es ++ [⟨f, n, a⟩]) := by simp [ents, ent, En.key]
theorem ents_mid (l1 l2 : List En) (e : En) : ents (l1 ++ e :: l2) = ents l1 ++ (e.key, e.a.val) :: ents l2 := by simp [ents, ent]
theorem ents_snoc (ds : List En) (s : En) : ents ds ++ [ent s] = ents (ds ++ [s]) := by simp [ents]
def unE : Value × Value → En
 | (.agg #[.string f, .int _ n], .agg #[.int _ s, .int _ d0, .int _ d1, .int _ d2, .int _ d3, .int _ d4, .int _ d5, .int _ d6]) => ⟨f, n, ⟨s, d0, d1, d2, d3, d4, d5, d6⟩⟩
 | _ => ⟨.empty, 0, A8.zero⟩
theorem unE_ent (e : En) : unE (ent e) = e := rfl
theorem ents_perm {ss ds : List En} (hp : (ents ss).Perm (ents ds)) : ss.Perm ds := by
 have := hp.map unE
 simpa [ents, List.map_map, Function.comp_def, unE_ent] using this
theorem foldl_perm {α β : Type} {f : β → α → β} (hc : ∀ z x y, f (f z x) y = f (f z y) x) {l m : List α} (h : l.Perm m) : ∀ z, l.foldl f z = m.foldl f z := by
 induction h with
 | nil => intro z; rfl
 | cons x _ ih => intro z; exact ih _
 | swap x y l => intro z; rw [List.foldl_cons, List.foldl_cons, List.foldl_cons, List.foldl_cons, hc]
 | trans _ _ i j => intro z; rw [i, j]
theorem merge_rc (z x y : A8) : (z.merge x).merge y = (z.merge y).merge x := by
 unfold A8.merge
 simp only [A8.mk.injEq]
 refine ⟨?_, ?_, ?_, ?_, ?_, ?_, ?_, ?_⟩ <;> omega
theorem ask_rc (g : Bool) (k : ByteArray × Int) (z : A8) (x y : En) : askStep g k (askStep g k z x) y = askStep g k (askStep g k z y) x := by
 unfold askStep
 split <;> split <;> first | rfl | exact merge_rc _ _ _
theorem askF_perm {g : Bool} {k : ByteArray × Int} {l m : List En} (h : l.Perm m) : askF g k l = askF g k m := foldl_perm (ask_rc g k) h _
theorem askF_snoc (g : Bool) (k : ByteArray × Int) (l : List En) (e : En) : askF g k (l ++ [e]) = askStep g k (askF g k l) e := by unfold askF; rw [List.foldl_append]; rfl
theorem askF_false (k : ByteArray × Int) (l : List En) : askF false k l = A8.zero := by
 unfold askF
 induction l with
 | nil => rfl
 | cons e l ih => rw [List.foldl_cons]; exact ih
end Go.Proofs.YtgbpfgdjnhbcgaaGreatDoor.Ix
end
section
namespace Go.Proofs.YtgbpfgdjnhbcgaaGreatDoor
open Go.RowKit
section
variable {F : Fence} {n : Nat} {P : Program} {ops : Array Oper} {rest : List Oper} {o : Oper} {a : Act} {Q : Exit → Act → World → Prop} {L0 L G : List Part} {w0 w : World}
theorem wpListIn_val (hfn : ∀ f, F.fn f) (hg : o.guard = none) (hd : ∀ c, o.op ≠ .defer c) {v : Value} {w' : World} (hrun : (execOp a.eval o).run P w = .ok (.value v) w') (hK : wpListIn F n P ops Q rest (a.put o.dst v) w') : wpListIn F n P ops Q (o :: rest) a w :=
 wpListIn_plain hg fun K hK' => ⟨fun f _ => hfn f, by rw [Oper.semAt_eq _ _ _ hd, hrun, Oper.uponIn_value]; exact hK' _ _ hK⟩
theorem wpListIn_unit (hfn : ∀ f, F.fn f) (hg : o.guard = none) (hd : ∀ c, o.op ≠ .defer c) {w' : World} (hrun : (execOp a.eval o).run P w = .ok .skip w') (hK : wpListIn F n P ops Q rest (a.put o.dst undef) w') : wpListIn F n P ops Q (o :: rest) a w :=
 wpListIn_plain hg fun K hK' => ⟨fun f _ => hfn f, by rw [Oper.semAt_eq _ _ _ hd, hrun, Oper.uponIn_skip]; exact hK' _ _ hK⟩
theorem wpListIn_store_at {ty : TypeId} {x y : Operand} (hfn : ∀ f, F.fn f) (hg : o.guard = none) (hop : o.op = .store ty x y) {b j : Nat} (hx : a.eval x = .pointer (some ⟨b, j, none⟩)) {v : Value} (hy : a.eval y = v) {vs : List Value} (hv : v.cells = vs.toArray)
 (h : At L0 w0 L w) {c : List Value} {T : TypeId} (s : Sel (Part.cells b c T) L G) (hi : (P.info? ty).map (·.size) = some vs.length) (h1 : vs.all (·.oneCell') = true) (hj : j + vs.length ≤ c.length)
 (hK : ∀ w', At L0 w0 (Part.cells b (setL c j vs) T :: G) w' → wpListIn F n P ops Q rest (a.put o.dst undef) w') : wpListIn F n P ops Q (o :: rest) a w := by
 have hb : BlockIs w b c T := h.get s
 have hs : v.cells.size = vs.length := by rw [hv]; simp
 have h1' : v.cells.all (·.oneCell') = true := by
  rw [hv, Array.all_eq_true_iff_forall_mem]
  intro u hu
  exact List.all_eq_true.1 h1 u (by simpa using hu)
 have hrun := run_storeAt_cells (P := P) w b j ty v (hb.there j _ (by omega)) (by rw [hs]; exact hi) h1'
 rw [show v.cells.toList = vs from by rw [hv]] at hrun
 refine wpListIn_unit hfn hg (by rw [hop]; nofun) ?_ (hK _ (h.stores s j vs))
 simp [execOp, hop, hx, hy, hrun, Result.andThen]
theorem wpListIn_one_at {t e : TypeId} {x : Operand} (hfn : ∀ f, F.fn f) (hg : o.guard = none) (hop : o.op = .buildSlice t 1 #[(0, x)]) {xv : Value} (hx : a.eval x = xv) {vs : List Value}
 (hrun : ∀ w, (Instr.buildSlice t 1 #[(0, xv)]).run P w = .ok (.slice (some ⟨w.heap.size, 0, none⟩) 1 1) (w.alloc (.cells vs.toArray e)))
 (h : At L0 w0 L w)
 (hK : ∀ b w', At L0 w0 (Part.cells b vs e :: L) w' → w0.heap.size ≤ b → wpListIn F n P ops Q rest (a.put o.dst (.slice (some ⟨b, 0, none⟩) 1 1)) w') : wpListIn F n P ops Q (o :: rest) a w := by
 refine wpListIn_val hfn hg (by rw [hop]; nofun) ?_ (hK _ _ (h.alloc vs e) h.size)
 simp [execOp, hop, hx, hrun, Result.andThen]
theorem wpListIn_append_at {e : TypeId} {size m0 : Nat} {v : Value} {xs : List Value} {i : TypeInfo} {z : Value} {bytes : Nat} (hfn : ∀ f, F.fn f) (hg : o.guard = none) (s' x : Operand) (t : TypeId) (ho : o.op = .call { callee := .builtin .append, args := #[s', x], argTypes := #[t, t] })
 (ht : P.underlying t = some (.slice e)) (hi : P.info? e = some i) (hz : i.zero = some z) (hsize : i.size = size) (hby : i.bytes = bytes) (hzs : z.cells.size = size) (hsz : 0 < size)
 (h : At L0 w0 L w) (s : Sel (Part.row e size v m0 xs) L G) (hs : a.eval s' = v) {xv : Value} {m : Nat} {news : List Value} (hxv : a.eval x = xv) (hl : news.length = m * size) (hx : Reads w xv m news) (h1 : ∀ u ∈ news, u.oneCell' = true)
 (h63 : m0 + m ≤ maxLen) (hbytes : (m0 + m) * bytes ≤ 140737488355328)
 (hK : ∀ v' w', At L0 w0 (Part.row e size v' (m0 + m) (xs ++ news) :: G) w' → wpListIn F n P ops Q rest (a.put o.dst v') w') : wpListIn F n P ops Q (o :: rest) a w := by
 obtain ⟨v', w', hr, h2, h3, h4⟩ := run_append_all (P := P) w 0 t o.type e i z size bytes ht hi hz hsize hby hzs hsz v m0 xs (h.get s) xv m news hl hx h1 h63 hbytes (Nat.zero_le _)
 refine wpListIn_val hfn hg (by rw [ho]; nofun) (v := v') (w' := w') ?_ (hK v' w' (h.turn s _ h2 (fun b hb => ?_) (exc_grown h3)))
 · simp [execOp, ho, resolve, invoke, builtin, hs, hxv, hr, Result.andThen]
 · rcases h4 with h4 | h4
   · exact .inl (show v.ownBlock = some b from by rw [← h4]; exact hb)
   · right
     have hb' : v'.ownBlock = some b := hb
     rw [h4] at hb'
     cases hb'
     exact Nat.le_refl _
end
theorem run_cut_own {P : Program} {w : World} {t e : TypeId} {i : TypeInfo} {size n : Nat} {v : Value} {xs : List Value} (ht : P.underlying t = some (.slice e)) (hi : P.info? e = some i) (hsize : i.size = size) (hr : w.ownsRow 0 e size v n xs) (k : Nat) (hk : k ≤ n) :
 ∃ v', (Instr.sliceAt t v none (some (.int .i64 k)) none).run P w = .ok v' w ∧ w.ownsRow 0 e size v' k (xs.take (k * size)) ∧ v'.ownBlock = v.ownBlock := by
 have hz : ∀ w, (sizeOf e).run P w = .ok size w := fun w => by simp [sizeOf, typeInfo, hi, hsize]
 rcases hr.2 with ⟨rfl, rfl⟩ | ⟨g, cap, cur, rfl, hg, hh, hc, hm, hs, htk⟩
 · obtain rfl : k = 0 := by omega
   refine ⟨.slice none 0 0, ?_, ⟨by simp, .inl ⟨rfl, rfl⟩⟩, rfl⟩
   simp [Instr.sliceAt, Instr.slice, run_underlying ht, Instr.sliceBounds, run_sliceBound, hz, Result.andThen]
 · refine ⟨.slice (some ⟨g, 0, none⟩) k cap, ?_, ⟨?_, .inr ⟨g, cap, cur, rfl, hg, hh, by omega, hm, hs, ?_⟩⟩, rfl⟩
   · by_cases h0 : cap = 0
     · subst h0
       obtain rfl : k = 0 := by omega
       simp [Instr.sliceAt, Instr.slice, run_underlying ht, Instr.sliceBounds, run_sliceBound, hz, Result.andThen]
     · simp [Instr.sliceAt, Instr.slice, run_underlying ht, Instr.sliceBounds, run_sliceBound, hz, Result.andThen, show (k : Int) ≤ cap by omega, h0, Addr.add]
   · rw [List.length_take, hr.1]
     have : k * size ≤ n * size := Nat.mul_le_mul_right _ hk
     omega
   · rw [← htk, List.take_take]
     have : k * size ≤ n * size := Nat.mul_le_mul_right _ hk
     rw [Nat.min_eq_left this]
theorem wpListIn_cut_at {F : Fence} {n : Nat} {P : Program} {ops : Array Oper} {rest : List Oper} {o : Oper} {a : Act} {Q : Exit → Act → World → Prop} {L0 L G : List Part} {w0 w : World} {t e : TypeId} {i : TypeInfo} {size m0 k : Nat} {v : Value} {xs : List Value} {x hi' : Operand}
 (hfn : ∀ f, F.fn f) (hg : o.guard = none) (hop : o.op = .slice t x none (some hi') none) (ht : P.underlying t = some (.slice e)) (hi : P.info? e = some i) (hsize : i.size = size) (hx : a.eval x = v) (hh : a.eval hi' = .int .i64 k)
 (h : At L0 w0 L w) (s : Sel (Part.row e size v m0 xs) L G) (hk : k ≤ m0) (hK : ∀ v', At L0 w0 (Part.row e size v' k (xs.take (k * size)) :: G) w → wpListIn F n P ops Q rest (a.put o.dst v') w) : wpListIn F n P ops Q (o :: rest) a w := by
 obtain ⟨v', hr, h1, h2⟩ := run_cut_own (P := P) ht hi hsize (h.get s : w.ownsRow 0 e size v m0 xs) k hk
 refine wpListIn_val hfn hg (by rw [hop]; nofun) ?_ (hK v' (h.turn s (Part.row e size v' k (xs.take (k * size))) h1 (fun b hb => .inl (by simpa [Part.row, h2] using hb)) (Exc.refl _ _)))
 simp [execOp, hop, hx, hh, hr, Result.andThen]
def Part.hole (b : Nat) : Part where
 holds w := ∃ o : Obj, w.heap[b]? = some o ∧ o.isCells = true
 foot k := k = b
 lt := fun w ⟨o, h, _⟩ _ e => by subst e; exact lt_of_some h
 stay := fun _ _ ⟨o, h, ho⟩ e => ⟨o, (e b rfl).trans h, ho⟩
def Part.Cl (A : Part) : Prop := ∀ w, A.holds w → ∀ b, A.foot b → ∃ o : Obj, w.heap[b]? = some o ∧ o.isCells = true
theorem Part.cl_cells (b : Nat) (c : List Value) (T : TypeId) : (Part.cells b c T).Cl := fun w h k e => by subst e; exact ⟨_, h, rfl⟩
theorem Part.cl_hole (b : Nat) : (Part.hole b).Cl := fun w h k e => by subst e; exact h
theorem Part.cl_row (e : TypeId) (size : Nat) (v : Value) (n : Nat) (xs : List Value) : (Part.row e size v n xs).Cl := fun w h k hk => by
 rcases h.2 with ⟨rfl, _⟩ | ⟨g, cap, cur, rfl, _, hh, _⟩
 · exact nomatch hk
 · cases hk; exact ⟨_, hh, rfl⟩
theorem At.grown {L0 L : List Part} {w0 W W' : World} {row : Option Nat} (h : At L0 w0 L W) (hg : W.grownBy W' row) (hr : ∀ r, row = some r → w0.heap.size ≤ r ∧ ¬ footL L r) : At L0 w0 L W' :=
 ⟨h.sep.same (fun b ⟨A, hA, hb⟩ => hg.block b (h.sep.lt hA hb) (fun e => (hr b e.symm).2 ⟨A, hA, hb⟩)), h.foot,
   h.exc.trans' (T := fun k => row = some k) (exc_grown hg) (fun b _ hb => .inr (hr b hb).1)⟩
theorem At.ownB {L0 L G : List Part} {w0 W W' : World} {row : Option Nat} {Bs B : Nat} (h : At L0 w0 L W) (s : Sel (Part.hole Bs) L G) (hc : ∀ A ∈ L, A.Cl) (hB : w0.heap.size ≤ B) (hg : W.grownBy W' row)
 (hr : ∀ r, row = some r → (r = Bs ∧ ∃ o : Obj, W'.heap[r]? = some o ∧ o.isCells = true) ∨ (B ≤ r ∧ ∃ o : Obj, W.heap[r]? = some o ∧ o.isCells = false)) : At L0 w0 (Part.hole Bs :: G) W' := by
 cases row with
 | none => exact (h.grown hg (fun r e => by cases e)).take s
 | some r =>
  rcases hr r rfl with ⟨rfl, ho⟩ | ⟨h1, o, ho, hoc⟩
  · exact h.turn s (Part.hole r) ho (fun _ e => .inl e) ((exc_grown hg).mono (fun b _ e => by cases e; rfl))
  · refine (h.grown hg (fun q e => ?_)).take s
    cases e
    refine ⟨by omega, fun ⟨A, hA, hb⟩ => ?_⟩
    obtain ⟨o', ho', hoc'⟩ := hc A hA W (h.sep.get hA) r hb
    rw [ho] at ho'
    cases ho'
    rw [hoc] at hoc'
    cases hoc'
theorem At.keepsFrom {L0 L : List Part} {W W' : World} (h : At L0 W L W') (hs : Sep L0 W) (hc : ∀ A ∈ L0, A.Cl) (B : Nat) : KeepsFrom B W W' :=
 ⟨h.size, fun k o _ hk ho => (h.exc.block k (lt_of_some hk) (fun ⟨A, hA, hb⟩ => by
   obtain ⟨o', ho', hoc'⟩ := hc A hA W (hs.get hA) k hb
   rw [hk] at ho'
   cases ho'
   rw [ho] at hoc'
   cases hoc')).trans hk⟩
end Go.Proofs.YtgbpfgdjnhbcgaaGreatDoor
end
