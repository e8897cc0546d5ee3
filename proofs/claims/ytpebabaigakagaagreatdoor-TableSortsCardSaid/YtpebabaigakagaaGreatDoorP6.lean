/- SeqB, PathI, RowI, joined. -/
import Derived.RangeFuncNested
import Derived.RangeFuncBound
import Derived.RangeFuncCalls
import Derived.RangeFuncLeaves
import Derived.Shelf.Abstract
import Derived.WalkKit
import Derived.OwnWalkIn
import Derived.TacticsInMore
import Derived.LoopNIn
import Derived.LoopIn
import Derived.Test.YtpebabaigakagaaGreatDoorP4
import Derived.Test.YtpebabaigakagaaGreatDoorP5
import Derived.Test.YtpebabaigakagaaGreatDoorShelft
import Derived.RangeFuncBox
import Derived.Outline
set_option linter.unusedSimpArgs false
set_option linter.unusedVariables false
set_option maxRecDepth 100000
set_option maxHeartbeats 16000000
section
namespace Go.Proofs.YtpebabaigakagaaGreatDoor
open Go.RowKit
def AbidesB {β : Type} (Bs : Nat) (J : β → World → Prop) : Prop :=
 ∀ s W W' row, J s W → W.grownBy W' row → (∀ r, row = some r → r = Bs ∧ ∃ o : Obj, W'.heap[r]? = some o ∧ o.isCells = true) → J s W'
def OwnB {β : Type} (Bs B : Nat) (I : β → World → Prop) : Prop :=
 ∀ s W W' row, I s W → W.grownBy W' row → (∀ r, row = some r → (r = Bs ∧ ∃ o : Obj, W'.heap[r]? = some o ∧ o.isCells = true) ∨ (B ≤ r ∧ ∃ o : Obj, W.heap[r]? = some o ∧ o.isCells = false)) → I s W'
section
variable {β : Type} {Bs B : Nat} {I : β → World → Prop} {s : β} {W : World}
theorem OwnB.abides (h : OwnB Bs B I) : AbidesB Bs I := fun s W W' row hs hg hr => h s W W' row hs hg (fun r e => .inl (hr r e))
theorem OwnB.put (h : OwnB Bs B I) {l : Nat} {o : Obj} (o' : Obj) (hs : I s W) (hB : B ≤ l) (hl : W.heap[l]? = some o) (ho : o.isCells = false) : I s (W.putObj l o') :=
 h s W _ (some l) hs (grownBy_putObj' W l o') (fun r e => by cases e; exact .inr ⟨hB, o, hl, ho⟩)
theorem OwnB.alloc (h : OwnB Bs B I) (o : Obj) (hs : I s W) : I s (W.alloc o) := h s W _ none hs (World.grownBy_alloc W o none) (fun r e => by cases e)
end
def SeqB {α : Type} (F : Fence) (n : Nat) (P : Program) (g : Nat) (lb : Array Value) (encs : α → Array Value) (Bs : Nat) (Kp : World → World → Prop) (S Sp : List α → Prop) (N : Nat) (w : World) : Prop :=
 ∀ (l : Nat) (J Jx : List α → World → Prop) (W : World), Below w.heap.size w W → AbidesB Bs J →
  (∀ pre x W1, J pre W1 → pre.length < N → YieldAt F (n - 1) P l (encs x) W1 fun e W' =>
    (e = .returned (.bool true) ∧ J (pre ++ [x]) W' ∧ Kp W1 W') ∨ (e = .returned (.bool false) ∧ Jx (pre ++ [x]) W')) →
  J [] W →
  CallsIn F n P g (#[.func (.yield l) #[] #[]] ++ lb) W fun e W' => (∃ v, e = .returned v) ∧ ((∃ xs, S xs ∧ J xs W') ∨ (∃ pre, Sp pre ∧ Jx pre W'))
theorem grownB_keeps {Bs : Nat} {W W' : World} {row : Option Nat} (hg : W.grownBy W' row) (hr : ∀ r, row = some r → r = Bs ∧ ∃ o : Obj, W'.heap[r]? = some o ∧ o.isCells = true) {k : Nat} {o : Obj} (hk : W.heap[k]? = some o) (hne : k ≠ Bs) : W'.heap[k]? = some o :=
 (hg.block k (Array.getElem?_eq_some_iff.1 hk).1 (fun e => hne (hr k e.symm).1)).trans hk
variable {F : Fence} {n : Nat} {P : Program}
theorem wpIn_rangeFunc_B {α : Type} {g : Operand} {ps : Array Tmp} {assign body : Code} {Q : Exit → Act → World → Prop} {a : Act} {w : World}
 (hro : F.round = none) (h1 : 1 ≤ n) {gf : Nat} {lb : Array Value} (hg : a.eval g = .func (.func gf) #[] lb) (hFg : F.fn gf) (eg : ∀ args w, (callFunc gf args).run P w = .ok (.enter gf args) w)
 {encs : α → Array Value} {Bs : Nat} {Kp : World → World → Prop} {S Sp : List α → Prop} {N : Nat} (hseq : SeqB F (n - 1) P gf lb encs Bs Kp S Sp N w) (hBs : Bs < w.heap.size)
 (hKt : ∀ {A B C : World}, Kp A B → Kp B C → Kp A C) (hKb : ∀ (W : World) (l : Nat) (o' : Obj), w.heap.size ≤ l → Kp W (W.putObj l o')) (hps : ∀ x, (encs x).size = ps.size)
 (I : List α → World → Prop) (Ix : Code → List α → World → Prop) (hI : OwnB Bs w.heap.size I) (hIx : ∀ c, OwnB Bs w.heap.size (Ix c)) (h0 : I [] w) (a₁ : α → Act)
 (hassign : ∀ (l : Nat) (x : α) (W : World) (K : Act → World → Prop), K (a₁ x) W →
   assign.wpIn (F.inRound l) (n - 1 - 1) P (Exit.then K (fun _ _ _ => False)) { tmps := (ps.zip (encs x)).foldl (fun t (p, v) => t.setIfInBounds p v) a.tmps, defers := [] } W)
 (hbody : ∀ (l : Nat) (pre : List α) (x : α) (W : World), I pre W → pre.length < N → body.wpIn (F.inRound l) (n - 1 - 1) P (ownPostG w.heap.size Kp I Ix (pre ++ [x]) W) (a₁ x) W)
 (hdone : ∀ (D : Nat) (xs : List α) (W : World), w.heap.size ≤ D → S xs → I xs W → W.heap[D]? = some (.deferred (some [])) → Q .normal { a with defers := { target := .collected D, args := #[] } :: a.defers } W)
 (hstop : ∀ (D : Nat) (c : Code) (pre : List α) (W : World), w.heap.size ≤ D → Sp pre → Ix c pre W → W.heap[D]? = some (.deferred (some [])) → c.wpIn F n P Q { a with defers := { target := .collected D, args := #[] } :: a.defers } W) :
 (Code.rangeFunc g ps assign body).wpIn F n P Q a w := by
 refine wpIn_rangeFunc ?_
 intro fn hfn
 rw [hro]
 obtain ⟨K0, hK0⟩ : ∃ k, k = w.heap.size := ⟨_, rfl⟩
 obtain ⟨rc, hrc⟩ : ∃ rc : LoopState → Option Code → Loop, rc = fun st pe => { state := st, pending := pe, fn, tmps := a.tmps, params := ps, assign, body, defers := K0 } := ⟨_, rfl⟩
 obtain ⟨W1, hW1⟩ : ∃ W1, (w.alloc (.deferred (some []))).alloc (.loop (rc .ready none)) = W1 := ⟨_, rfl⟩
 have hR : W1.heap[K0 + 1]? = some (.loop (rc .ready none)) := by
  have := World.alloc_heap_new (w.alloc (.deferred (some []))) (.loop (rc .ready none))
  rw [← hW1, hK0]
  rwa [World.size_alloc] at this
 have hD : W1.heap[K0]? = some (.deferred (some [])) := by
  rw [← hW1, hK0]
  exact (Below.heap_alloc _ _ _ (by simp)).trans (World.alloc_heap_new w _)
 have hI1 : I [] W1 := by rw [← hW1]; exact hI.alloc _ (hI.alloc _ h0)
 have hb1 : Below w.heap.size w W1 := by
  rw [← hW1]
  exact ((Below.refl _ w).alloc (Nat.le_refl _) _).alloc (by simp) _
 have hl0 : (Instr.enterLoop fn a.tmps ps assign body none).run P w = .ok (K0 + 1, [{ target := .collected K0, args := #[] }]) W1 := by
  rw [← hW1, hrc, hK0]
  exact run_enterLoop_outer _ _ _ _ _
 refine ⟨K0 + 1, [{ target := .collected K0, args := #[] }], W1, { target := .fn (.func gf) lb, args := #[.func (.yield (K0 + 1)) #[] #[]] }, W1, gf, #[.func (.yield (K0 + 1)) #[] #[]] ++ lb, W1, hl0, ?_, ?_, ?_, fun _ => h1, ?_⟩
 · simp only [resolve, hg]
   simp [go_sem]
 · intro f' hf'
   simp [Target.leads] at hf'
   subst hf'
   exact hFg
 · simp [invoke, go_sem, eg]
 · have ne0 : K0 ≠ Bs := by omega
   have ne1 : K0 + 1 ≠ Bs := by omega
   refine (hseq (K0 + 1)
    (fun pre W => I pre W ∧ W.heap[K0 + 1]? = some (.loop (rc .ready none)) ∧ W.heap[K0]? = some (.deferred (some [])))
    (fun pre W => ∃ c, Ix c pre W ∧ W.heap[K0 + 1]? = some (.loop (rc .done (some c))) ∧ W.heap[K0]? = some (.deferred (some [])))
    W1 hb1 (fun s A B row hs hg' hr => ⟨hI.abides s A B row hs.1 hg' hr, grownB_keeps hg' hr hs.2.1 ne1, grownB_keeps hg' hr hs.2.2 ne0⟩) ?_ ⟨hI1, hR, hD⟩).mono ?_
   · rintro pre x W ⟨hi, hl, hk⟩ hlen
     have hlt : K0 + 1 < W.heap.size := (Array.getElem?_eq_some_iff.1 hl).1
     have hy := run_yield (P := P) (args := encs x) hl (by rw [hrc]; exact hps x)
     rw [hrc] at hy
     refine ⟨fn, _, assign, body, hy, roundIn_of_wpIn hfn (hassign _ x W _ ?_)⟩
     clear hy
     refine ⟨_, run_beginRound hl (by rw [hrc]), ?_⟩
     have hl2 : (W.putObj (K0 + 1) (.loop { rc .ready none with state := .busy })).heap[K0 + 1]? = some (.loop { rc .ready none with state := .busy }) := World.putObj_heap_same hlt
     have hk2 : (W.putObj (K0 + 1) (.loop { rc .ready none with state := .busy })).heap[K0]? = some (.deferred (some [])) := (World.putObj_heap_other (by omega)).trans hk
     have hw2 : Kp W (W.putObj (K0 + 1) (.loop { rc .ready none with state := .busy })) := hKb _ _ _ (by omega)
     refine wpIn_mono (hbody _ pre x _ (hI.put _ hi (by omega) hl rfl) hlen) ?_
     have fin : ∀ (jump : Option Code) (W3 : World), KeepsFrom w.heap.size (W.putObj (K0 + 1) (.loop { rc .ready none with state := .busy })) W3 →
      (Instr.endRound (K0 + 1) jump).run P W3 = .ok (.bool jump.isNone) (W3.putObj (K0 + 1) (.loop (rc (if jump.isNone then .ready else .done) jump))) ∧
      W3.heap[K0 + 1]? = some (.loop { rc .ready none with state := .busy }) ∧
      (W3.putObj (K0 + 1) (.loop (rc (if jump.isNone then .ready else .done) jump))).heap[K0 + 1]? = some (.loop (rc (if jump.isNone then .ready else .done) jump)) ∧
      (W3.putObj (K0 + 1) (.loop (rc (if jump.isNone then .ready else .done) jump))).heap[K0]? = some (.deferred (some [])) := fun jump W3 hk3 => by
      have hl3 := hk3.same _ _ (by omega) hl2 rfl
      have he := run_endRound (P := P) jump hl3
      rw [hrc] at he ⊢
      exact ⟨he, by rw [hrc] at hl3; exact hl3, World.putObj_heap_same (Array.getElem?_eq_some_iff.1 hl3).1, (World.putObj_heap_other (by omega)).trans (hk3.same _ _ (by omega) hk2 rfl)⟩
     rintro e a3 W3 hp
     cases e with
     | normal =>
      obtain ⟨hk3, hkp3, hi3⟩ := hp
      obtain ⟨hr, hl3, hl4, hk4⟩ := fin none W3 hk3
      exact ⟨_, _, hr, .inl ⟨rfl, ⟨hI.put _ hi3 (by omega) hl3 rfl, hl4, hk4⟩, hKt (hKt hw2 hkp3) (hKb _ _ _ (by omega))⟩⟩
     | ret =>
      obtain ⟨hk3, hi3⟩ := hp
      obtain ⟨hr, hl3, hl4, hk4⟩ := fin (some .ret) W3 hk3
      exact ⟨_, _, hr, .inr ⟨rfl, .ret, (hIx _).put _ hi3 (by omega) hl3 rfl, hl4, hk4⟩⟩
     | exit id =>
      obtain ⟨hk3, hi3⟩ := hp
      obtain ⟨hr, hl3, hl4, hk4⟩ := fin (some (.exit id)) W3 hk3
      exact ⟨_, _, hr, .inr ⟨rfl, .exit id, (hIx _).put _ hi3 (by omega) hl3 rfl, hl4, hk4⟩⟩
     | goto t =>
      obtain ⟨hk3, hi3⟩ := hp
      obtain ⟨hr, hl3, hl4, hk4⟩ := fin (some (.goto t)) W3 hk3
      exact ⟨_, _, hr, .inr ⟨rfl, .goto t, (hIx _).put _ hi3 (by omega) hl3 rfl, hl4, hk4⟩⟩
     | panic ch => exact hp.elim
     | outgrown => exact hp.elim
   · rintro e W2 ⟨⟨v, rfl⟩, (⟨xs, hS, hi, hl, hk⟩ | ⟨pre, hSp, c, hi, hl, hk⟩)⟩
     · have he := run_endLoop (P := P) hl (by rw [hrc]; simp)
       rw [hrc] at he
       exact ⟨none, _, he, hdone _ xs _ (by omega) hS (hI.put _ hi (by omega) hl rfl) ((World.putObj_heap_other (by omega)).trans hk)⟩
     · have he := run_endLoop (P := P) hl (by rw [hrc]; simp)
       rw [hrc] at he
       exact ⟨some c, _, he, hstop _ c pre _ (by omega) hSp ((hIx c).put _ hi (by omega) hl rfl) ((World.putObj_heap_other (by omega)).trans hk)⟩
end Go.Proofs.YtpebabaigakagaaGreatDoor
end
section
namespace Go.Proofs.YtpebabaigakagaaGreatDoor.Path
open Go.RowKit Go.Shelf
attribute [local go_sem] Oper.semAt_some
abbrev bl (x : ByteArray) : Bs := x.data.toList
def slashB : ByteArray := ⟨#[47]⟩
def keep3 (b1 b2 b3 : Nat) (W W' : World) : Prop := ∀ b, b = b1 ∨ b = b2 ∨ b = b3 → W'.heap[b]? = W.heap[b]?
def lenAt (w : World) (b : Nat) : Nat := match w.heap[b]? with | some (.cells #[.string r] _ _) => r.size | _ => 0
theorem lenAt_eq {w : World} {b : Nat} {r : ByteArray} {t : TypeId} (h : Boxed w b t (.string r)) : lenAt w b = r.size := by
 unfold lenAt; rw [show w.heap[b]? = _ from h]; rfl
theorem idx_none {l : Bs} (h : Lib.indexByte l 47 < 0) : splits l = [l] := by
 refine splits_noslash l (fun c hc e => ?_)
 subst e
 have h1 : Lib.indexByte l 47 = -1 := by have := Lib.indexByte_ge l 47; omega
 obtain ⟨k, hk⟩ := List.mem_iff_getElem?.1 hc
 exact Lib.indexByte_none h1 k hk
theorem idx_some {l : Bs} {i : Nat} (h : Lib.indexByte l 47 = i) : i < l.length ∧ splits l = l.take i :: splits (l.drop (i + 1)) := by
 obtain ⟨h1, h2⟩ := Lib.indexByte_some h
 have hi := (List.getElem?_eq_some_iff.1 h1).1
 refine ⟨hi, ?_⟩
 have e : l = l.take i ++ 47 :: l.drop (i + 1) := by
  have := (List.getElem?_eq_some_iff.1 h1).2
  rw [← this, ← List.drop_eq_getElem_cons hi, List.take_append_drop]
 conv => lhs; rw [e]
 rw [splits_app _ _ (fun c hc ec => ?_)]
 subst ec
 obtain ⟨k, hk⟩ := List.mem_iff_getElem?.1 hc
 rw [List.getElem?_take] at hk
 split at hk
 · rename_i hki; exact h2 k hki hk
 · cases hk
theorem index_any (n : Nat) (r : ByteArray) (w : World) : CallsIn Fence.wide n Tryz.prog 153 #[.string r, .string ⟨#[47]⟩] w fun e w' => e = .returned (.int .i64 (Lib.indexByte r.data.toList 47)) ∧ w = w' :=
 callsIn_wide.2 ((Tryz.strings_Index_one _ _ _).mono fun _ _ ⟨he, hw⟩ => ⟨he, hw.symm⟩)
theorem split1_in (n : Nat) (hn : 3 ≤ n) (l Bs Bp Bv : Nat) (h12 : Bs ≠ Bp) (h13 : Bs ≠ Bv) (s : ByteArray) (hs : s.size ≤ 2000000) (J Jx : List ByteArray → World → Prop) (W : World) (hJ : AbidesB Bs J)
 (hY : ∀ pre x W1, J pre W1 → pre.length < 2000001 → YieldAt Fence.wide (n - 1) Tryz.prog l #[.string x] W1 fun e W' => (e = .returned (.bool true) ∧ J (pre ++ [x]) W' ∧ keep3 Bs Bp Bv W1 W') ∨ (e = .returned (.bool false) ∧ Jx (pre ++ [x]) W'))
 (h1 : Boxed W Bs 9 (.string s)) (h2 : Boxed W Bp 9 (.string slashB)) (h3 : Boxed W Bv 3 (.int .i64 0)) (h0 : J [] W) :
 CallsIn Fence.wide n Tryz.prog 182 #[.func (.yield l) #[] #[], .pointer (some ⟨Bp, 0, none⟩), .pointer (some ⟨Bs, 0, none⟩), .pointer (some ⟨Bv, 0, none⟩)] W fun e W' =>
  (∃ v, e = .returned v) ∧ ((∃ ys : List ByteArray, ys.map bl = splits (bl s) ∧ J ys W') ∨ (∃ pre : List ByteArray, pre.map bl <+: splits (bl s) ∧ Jx pre W')) := by
 have hn1 : 1 ≤ n := by omega
 have c1 := h1.cell
 have c2 := h2.cell
 have c3 := h3.cell
 refine callsIn_of_wp Tryz.func182 rfl trivial ?_ rfl
 simp only [Tryz.ntmps182, List.size_toArray, List.length_cons, List.length_nil, Nat.reduceAdd, Nat.reduceSub, Array.replicate_succ, Array.replicate_zero, List.push_toArray, List.append_toArray, List.nil_append, List.cons_append]
 unfold slashB at c2
 gi_wp2
 gi_loopw [7] (fun _ wr => ∃ (pre : List ByteArray) (r : ByteArray), splits (bl s) = pre.map bl ++ splits (bl r) ∧ pre.length + r.size ≤ s.size ∧ J pre wr ∧ Boxed wr Bs 9 (.string r) ∧ Boxed wr Bp 9 (.string ⟨#[47]⟩) ∧ Boxed wr Bv 3 (.int .i64 0))
  (fun _ wr => lenAt wr Bs)
 case atStart => exact ⟨[], s, rfl, by simp, h0, h1, h2, h3⟩
 case round =>
  obtain ⟨pre, r, hsp, hlen, hJs, b1, b2, b3⟩ := hrel
  clear c1 c2 c3
  have c1 := b1.cell
  have c2 := b2.cell
  have c3 := b3.cell
  rcases Int.lt_or_le (Lib.indexByte (bl r) 47) 0 with hi | hi
  · have hsr := idx_none hi
    have hi' : decide (Lib.indexByte r.data.toList 47 < 0) = true := by simpa using hi
    gi_wp2_with fail
    refine ⟨trivial, (index_any _ _ _).mono ?_⟩
    rintro e _ ⟨rfl, rfl⟩
    obtain ⟨fn, tmps, assign, body, hy, hR⟩ := hY pre r wr hJs (by omega)
    have hsp' := Lib.hid hsp
    have hsr' := Lib.hid hsr
    clear hsp hsr
    gi_wp2
    refine hR.mono ?_
    rintro e W3 (⟨rfl, hJ3, hk3⟩ | ⟨rfl, hJx3⟩)
    · gi_wp2
      go_end0
      exact ⟨⟨_, rfl⟩, .inl ⟨pre ++ [r], by rw [hsp'.out, hsr'.out]; simp, hJ3⟩⟩
    · gi_wp2
      go_end0
      exact ⟨⟨_, rfl⟩, .inr ⟨pre ++ [r], by rw [hsp'.out, hsr'.out]; simp, hJx3⟩⟩
  · obtain ⟨i, hi2⟩ := Int.eq_ofNat_of_zero_le hi
    obtain ⟨hilt, hsr⟩ := idx_some hi2
    have hi' : decide (Lib.indexByte r.data.toList 47 < 0) = false := by simpa using hi
    have hi3 := Lib.hid hi2
    have hrl : (bl r).length = r.size := by simp
    have hil : i + 1 ≤ r.size := by omega
    have hsp' := Lib.hid hsp
    have hsr' := Lib.hid hsr
    clear hsp hsr hi2
    gi_wp2_with fail
    refine ⟨trivial, (index_any _ _ _).mono ?_⟩
    rintro e _ ⟨rfl, rfl⟩
    rw [show Lib.indexByte r.data.toList 47 = (i : Int) from hi3.out]
    clear hi hi' hi3 hilt hrl
    have hi' : decide ((i : Int) < 0) = false := by simp
    obtain ⟨fn, tmps, assign, body, hy, hR⟩ := hY pre (r.extract 0 i) wr hJs (by omega)
    gi_wp2
    refine hR.mono ?_
    have e1 : bl (r.extract 0 i) = (bl r).take i := by simp [bl]
    have e2 : bl (r.extract (i + 1) r.size) = (bl r).drop (i + 1) := by simp only [bl]; simp; rw [List.take_of_length_le (by simp)]
    have e1' := Lib.hid e1
    have e2' := Lib.hid e2
    clear e1 e2
    rintro e W3 (⟨rfl, hJ3, hk3⟩ | ⟨rfl, hJx3⟩)
    · have d1 : Boxed W3 Bs 9 (.string r) := (hk3 Bs (.inl rfl)).trans b1
      have d2 : Boxed W3 Bp 9 (.string ⟨#[47]⟩) := (hk3 Bp (.inr (.inl rfl))).trans b2
      have d3 : Boxed W3 Bv 3 (.int .i64 0) := (hk3 Bv (.inr (.inr rfl))).trans b3
      have x1 := d1.cell
      have x2 := d2.cell
      have x3 := d3.cell
      have f1 := d1.frozen
      clear hR hy hk3
      gi_wp2
      have g1 := d1.set (.string (r.extract (i + 1) r.size))
      go_roundw
      case rel =>
       refine ⟨pre ++ [r.extract 0 i], r.extract (i + 1) r.size, ?_, ?_, ?_, g1, d2.other (Ne.symm h12) _, d3.other (Ne.symm h13) _⟩
       · rw [hsp'.out, hsr'.out, e2'.out]; simp [e1'.out]
       · simp; omega
       · exact hJ _ _ _ (some Bs) hJ3 (grownBy_setCell' W3 Bs _) (fun q e => by cases e; exact ⟨rfl, _, g1, rfl⟩)
      case measure =>
       rw [lenAt_eq g1, lenAt_eq b1]
       simp
       omega
    · gi_wp2
      refine bodyPost_ret (results_none rfl _ _ _) rfl ?_
      exact ⟨⟨_, rfl⟩, .inr ⟨pre ++ [r.extract 0 i], ⟨splits ((bl r).drop (i + 1)), by rw [hsp'.out, hsr'.out, List.map_append, List.append_assoc]; simp [e1'.out]⟩, hJx3⟩⟩
theorem splitSeq_any (s : ByteArray) (w : World) : Calls Tryz.prog 134 #[.string s, .string ⟨#[47]⟩] w fun e w' =>
 e = .returned (.func (.func 182) #[] #[.pointer (some ⟨w.heap.size + 1, 0, none⟩), .pointer (some ⟨w.heap.size, 0, none⟩), .pointer (some ⟨w.heap.size + 2, 0, none⟩)]) ∧
  w' = ((w.alloc (.cells #[.string s] 9)).alloc (.cells #[.string ⟨#[47]⟩] 9)).alloc (.cells #[.int .i64 0] 3) := by
 have h1 : Calls Tryz.prog 159 #[.string s, .string ⟨#[47]⟩, .int .i64 0] w fun e w' =>
  e = .returned (.func (.func 182) #[] #[.pointer (some ⟨w.heap.size + 1, 0, none⟩), .pointer (some ⟨w.heap.size, 0, none⟩), .pointer (some ⟨w.heap.size + 2, 0, none⟩)]) ∧
   w' = ((w.alloc (.cells #[.string s] 9)).alloc (.cells #[.string ⟨#[47]⟩] 9)).alloc (.cells #[.int .i64 0] 3) := by
  go_enter Tryz.func159, Tryz.ntmps159
  go_wp2
  go_ret
  exact ⟨rfl, rfl⟩
 go_enter Tryz.func134, Tryz.ntmps134
 go_wp2_with fail
 refine h1.mono ?_
 rintro e _ ⟨rfl, rfl⟩
 go_wp2_with fail
 go_ret
 exact ⟨rfl, rfl⟩
end Go.Proofs.YtpebabaigakagaaGreatDoor.Path
end
section
namespace Go.Proofs.YtpebabaigakagaaGreatDoor
open Go.RowKit
section
variable {F : Fence} {n : Nat} {P : Program} {ops : Array Oper} {rest : List Oper} {o : Oper} {a : Act} {Q : Exit → Act → World → Prop} {L0 L G : List Part} {w0 w : World}
theorem wpListIn_val (hfn : ∀ f, F.fn f) (hg : o.guard = none) (hd : ∀ c, o.op ≠ .defer c) {v : Value} {w' : World} (hrun : (execOp a.eval o).run P w = .ok (.value v) w') (hK : wpListIn F n P ops Q rest (a.put o.dst v) w') : wpListIn F n P ops Q (o :: rest) a w :=
 wpListIn_plain hg fun K hK' => ⟨fun f _ => hfn f, by rw [Oper.semAt_eq _ _ _ hd, hrun, Oper.uponIn_value]; exact hK' _ _ hK⟩
theorem wpListIn_unit (hfn : ∀ f, F.fn f) (hg : o.guard = none) (hd : ∀ c, o.op ≠ .defer c) {w' : World} (hrun : (execOp a.eval o).run P w = .ok .skip w') (hK : wpListIn F n P ops Q rest (a.put o.dst undef) w') : wpListIn F n P ops Q (o :: rest) a w :=
 wpListIn_plain hg fun K hK' => ⟨fun f _ => hfn f, by rw [Oper.semAt_eq _ _ _ hd, hrun, Oper.uponIn_skip]; exact hK' _ _ hK⟩
theorem wpListIn_store_at {ty : TypeId} {x y : Operand} (hfn : ∀ f, F.fn f) (hg : o.guard = none) (hop : o.op = .store ty x y) {b j : Nat} (hx : a.eval x = .pointer (some ⟨b, j, none⟩)) {v : Value} (hy : a.eval y = v) {vs : List Value} (hv : v.cells = vs.toArray)
 (h : At L0 w0 L w) {c : List Value} {T : TypeId} (s : Sel (Part.cells b c T) L G) (hi : (P.info? ty).map (·.size) = some vs.length) (h1 : vs.all (·.oneCell') = true) (hj : j + vs.length ≤ c.length)
 (hK : ∀ w', At L0 w0 (Part.cells b (setL c j vs) T :: G) w' → wpListIn F n P ops Q rest (a.put o.dst undef) w') : wpListIn F n P ops Q (o :: rest) a w := by
 have hb : BlockIs w b c T := h.get s
 have hs : v.cells.size = vs.length := by rw [hv]; simp
 have h1' : v.cells.all (·.oneCell') = true := by
  rw [hv, Array.all_eq_true_iff_forall_mem]
  intro u hu
  exact List.all_eq_true.1 h1 u (by simpa using hu)
 have hrun := run_storeAt_cells (P := P) w b j ty v (hb.there j _ (by omega)) (by rw [hs]; exact hi) h1'
 rw [show v.cells.toList = vs from by rw [hv]] at hrun
 refine wpListIn_unit hfn hg (by rw [hop]; nofun) ?_ (hK _ (h.stores s j vs))
 simp [execOp, hop, hx, hy, hrun, Result.andThen]
theorem wpListIn_one_at {t e : TypeId} {x : Operand} (hfn : ∀ f, F.fn f) (hg : o.guard = none) (hop : o.op = .buildSlice t 1 #[(0, x)]) {xv : Value} (hx : a.eval x = xv) {vs : List Value}
 (hrun : ∀ w, (Instr.buildSlice t 1 #[(0, xv)]).run P w = .ok (.slice (some ⟨w.heap.size, 0, none⟩) 1 1) (w.alloc (.cells vs.toArray e)))
 (h : At L0 w0 L w)
 (hK : ∀ b w', At L0 w0 (Part.cells b vs e :: L) w' → w0.heap.size ≤ b → wpListIn F n P ops Q rest (a.put o.dst (.slice (some ⟨b, 0, none⟩) 1 1)) w') : wpListIn F n P ops Q (o :: rest) a w := by
 refine wpListIn_val hfn hg (by rw [hop]; nofun) ?_ (hK _ _ (h.alloc vs e) h.size)
 simp [execOp, hop, hx, hrun, Result.andThen]
theorem wpListIn_append_at {e : TypeId} {size m0 : Nat} {v : Value} {xs : List Value} {i : TypeInfo} {z : Value} {bytes : Nat} (hfn : ∀ f, F.fn f) (hg : o.guard = none) (s' x : Operand) (t : TypeId) (ho : o.op = .call { callee := .builtin .append, args := #[s', x], argTypes := #[t, t] })
 (ht : P.underlying t = some (.slice e)) (hi : P.info? e = some i) (hz : i.zero = some z) (hsize : i.size = size) (hby : i.bytes = bytes) (hzs : z.cells.size = size) (hsz : 0 < size)
 (h : At L0 w0 L w) (s : Sel (Part.row e size v m0 xs) L G) (hs : a.eval s' = v) {xv : Value} {m : Nat} {news : List Value} (hxv : a.eval x = xv) (hl : news.length = m * size) (hx : Reads w xv m news) (h1 : ∀ u ∈ news, u.oneCell' = true)
 (h63 : m0 + m ≤ maxLen) (hbytes : (m0 + m) * bytes ≤ 140737488355328)
 (hK : ∀ v' w', At L0 w0 (Part.row e size v' (m0 + m) (xs ++ news) :: G) w' → wpListIn F n P ops Q rest (a.put o.dst v') w') : wpListIn F n P ops Q (o :: rest) a w := by
 obtain ⟨v', w', hr, h2, h3, h4⟩ := run_append_all (P := P) w 0 t o.type e i z size bytes ht hi hz hsize hby hzs hsz v m0 xs (h.get s) xv m news hl hx h1 h63 hbytes (Nat.zero_le _)
 refine wpListIn_val hfn hg (by rw [ho]; nofun) (v := v') (w' := w') ?_ (hK v' w' (h.turn s _ h2 (fun b hb => ?_) (exc_grown h3)))
 · simp [execOp, ho, resolve, invoke, builtin, hs, hxv, hr, Result.andThen]
 · rcases h4 with h4 | h4
   · exact .inl (show v.ownBlock = some b from by rw [← h4]; exact hb)
   · right
     have hb' : v'.ownBlock = some b := hb
     rw [h4] at hb'
     cases hb'
     exact Nat.le_refl _
end
theorem run_cut_own {P : Program} {w : World} {t e : TypeId} {i : TypeInfo} {size n : Nat} {v : Value} {xs : List Value} (ht : P.underlying t = some (.slice e)) (hi : P.info? e = some i) (hsize : i.size = size) (hr : w.ownsRow 0 e size v n xs) (k : Nat) (hk : k ≤ n) :
 ∃ v', (Instr.sliceAt t v none (some (.int .i64 k)) none).run P w = .ok v' w ∧ w.ownsRow 0 e size v' k (xs.take (k * size)) ∧ v'.ownBlock = v.ownBlock := by
 have hz : ∀ w, (sizeOf e).run P w = .ok size w := fun w => by simp [sizeOf, typeInfo, hi, hsize]
 rcases hr.2 with ⟨rfl, rfl⟩ | ⟨g, cap, cur, rfl, hg, hh, hc, hm, hs, htk⟩
 · obtain rfl : k = 0 := by omega
   refine ⟨.slice none 0 0, ?_, ⟨by simp, .inl ⟨rfl, rfl⟩⟩, rfl⟩
   simp [Instr.sliceAt, Instr.slice, run_underlying ht, Instr.sliceBounds, run_sliceBound, hz, Result.andThen]
 · refine ⟨.slice (some ⟨g, 0, none⟩) k cap, ?_, ⟨?_, .inr ⟨g, cap, cur, rfl, hg, hh, by omega, hm, hs, ?_⟩⟩, rfl⟩
   · by_cases h0 : cap = 0
     · subst h0
       obtain rfl : k = 0 := by omega
       simp [Instr.sliceAt, Instr.slice, run_underlying ht, Instr.sliceBounds, run_sliceBound, hz, Result.andThen]
     · simp [Instr.sliceAt, Instr.slice, run_underlying ht, Instr.sliceBounds, run_sliceBound, hz, Result.andThen, show (k : Int) ≤ cap by omega, h0, Addr.add]
   · rw [List.length_take, hr.1]
     have : k * size ≤ n * size := Nat.mul_le_mul_right _ hk
     omega
   · rw [← htk, List.take_take]
     have : k * size ≤ n * size := Nat.mul_le_mul_right _ hk
     rw [Nat.min_eq_left this]
theorem wpListIn_cut_at {F : Fence} {n : Nat} {P : Program} {ops : Array Oper} {rest : List Oper} {o : Oper} {a : Act} {Q : Exit → Act → World → Prop} {L0 L G : List Part} {w0 w : World} {t e : TypeId} {i : TypeInfo} {size m0 k : Nat} {v : Value} {xs : List Value} {x hi' : Operand}
 (hfn : ∀ f, F.fn f) (hg : o.guard = none) (hop : o.op = .slice t x none (some hi') none) (ht : P.underlying t = some (.slice e)) (hi : P.info? e = some i) (hsize : i.size = size) (hx : a.eval x = v) (hh : a.eval hi' = .int .i64 k)
 (h : At L0 w0 L w) (s : Sel (Part.row e size v m0 xs) L G) (hk : k ≤ m0) (hK : ∀ v', At L0 w0 (Part.row e size v' k (xs.take (k * size)) :: G) w → wpListIn F n P ops Q rest (a.put o.dst v') w) : wpListIn F n P ops Q (o :: rest) a w := by
 obtain ⟨v', hr, h1, h2⟩ := run_cut_own (P := P) ht hi hsize (h.get s : w.ownsRow 0 e size v m0 xs) k hk
 refine wpListIn_val hfn hg (by rw [hop]; nofun) ?_ (hK v' (h.turn s (Part.row e size v' k (xs.take (k * size))) h1 (fun b hb => .inl (by simpa [Part.row, h2] using hb)) (Exc.refl _ _)))
 simp [execOp, hop, hx, hh, hr, Result.andThen]
def Part.hole (b : Nat) : Part where
 holds w := ∃ o : Obj, w.heap[b]? = some o ∧ o.isCells = true
 foot k := k = b
 lt := fun w ⟨o, h, _⟩ _ e => by subst e; exact lt_of_some h
 stay := fun _ _ ⟨o, h, ho⟩ e => ⟨o, (e b rfl).trans h, ho⟩
def Part.Cl (A : Part) : Prop := ∀ w, A.holds w → ∀ b, A.foot b → ∃ o : Obj, w.heap[b]? = some o ∧ o.isCells = true
theorem Part.cl_cells (b : Nat) (c : List Value) (T : TypeId) : (Part.cells b c T).Cl := fun w h k e => by subst e; exact ⟨_, h, rfl⟩
theorem Part.cl_hole (b : Nat) : (Part.hole b).Cl := fun w h k e => by subst e; exact h
theorem Part.cl_row (e : TypeId) (size : Nat) (v : Value) (n : Nat) (xs : List Value) : (Part.row e size v n xs).Cl := fun w h k hk => by
 rcases h.2 with ⟨rfl, _⟩ | ⟨g, cap, cur, rfl, _, hh, _⟩
 · exact nomatch hk
 · cases hk; exact ⟨_, hh, rfl⟩
theorem At.grown {L0 L : List Part} {w0 W W' : World} {row : Option Nat} (h : At L0 w0 L W) (hg : W.grownBy W' row) (hr : ∀ r, row = some r → w0.heap.size ≤ r ∧ ¬ footL L r) : At L0 w0 L W' :=
 ⟨h.sep.same (fun b ⟨A, hA, hb⟩ => hg.block b (h.sep.lt hA hb) (fun e => (hr b e.symm).2 ⟨A, hA, hb⟩)), h.foot,
   h.exc.trans' (T := fun k => row = some k) (exc_grown hg) (fun b _ hb => .inr (hr b hb).1)⟩
theorem At.ownB {L0 L G : List Part} {w0 W W' : World} {row : Option Nat} {Bs B : Nat} (h : At L0 w0 L W) (s : Sel (Part.hole Bs) L G) (hc : ∀ A ∈ L, A.Cl) (hB : w0.heap.size ≤ B) (hg : W.grownBy W' row)
 (hr : ∀ r, row = some r → (r = Bs ∧ ∃ o : Obj, W'.heap[r]? = some o ∧ o.isCells = true) ∨ (B ≤ r ∧ ∃ o : Obj, W.heap[r]? = some o ∧ o.isCells = false)) : At L0 w0 (Part.hole Bs :: G) W' := by
 cases row with
 | none => exact (h.grown hg (fun r e => by cases e)).take s
 | some r =>
  rcases hr r rfl with ⟨rfl, ho⟩ | ⟨h1, o, ho, hoc⟩
  · exact h.turn s (Part.hole r) ho (fun _ e => .inl e) ((exc_grown hg).mono (fun b _ e => by cases e; rfl))
  · refine (h.grown hg (fun q e => ?_)).take s
    cases e
    refine ⟨by omega, fun ⟨A, hA, hb⟩ => ?_⟩
    obtain ⟨o', ho', hoc'⟩ := hc A hA W (h.sep.get hA) r hb
    rw [ho] at ho'
    cases ho'
    rw [hoc] at hoc'
    cases hoc'
theorem At.keepsFrom {L0 L : List Part} {W W' : World} (h : At L0 W L W') (hs : Sep L0 W) (hc : ∀ A ∈ L0, A.Cl) (B : Nat) : KeepsFrom B W W' :=
 ⟨h.size, fun k o _ hk ho => (h.exc.block k (lt_of_some hk) (fun ⟨A, hA, hb⟩ => by
   obtain ⟨o', ho', hoc'⟩ := hc A hA W (hs.get hA) k hb
   rw [hk] at ho'
   cases ho'
   rw [ho] at hoc'
   cases hoc')).trans hk⟩
end Go.Proofs.YtpebabaigakagaaGreatDoor
end
