/- A range over an iterator that writes a variable of its own between two rounds (strings.SplitSeq): the law. After the kit's law for iterators that write nothing. No program in sight. -/
import Derived.RangeFuncNested
import Derived.RangeFuncBound
import Derived.RangeFuncCalls
import Derived.RangeFuncLeaves
import Derived.Shelf.Abstract
import Derived.WalkKit
import Derived.OwnWalkIn
import Derived.TacticsInMore
import Derived.LoopNIn
import Derived.LoopIn
import Derived.Test.YtpbeennielgogaaDoorRow2
namespace Go.Proofs.YtpbeennielgogaaDoor
open Go.RowKit
set_option linter.unusedVariables false
set_option linter.unusedSimpArgs false

/-- what abides the iterator's steps: block Bs is written (it holds cells still), new blocks are laid -/
def AbidesB {β : Type} (Bs : Nat) (J : β → World → Prop) : Prop :=
  ∀ s W W' row, J s W → W.grownBy W' row → (∀ r, row = some r → r = Bs ∧ ∃ o : Obj, W'.heap[r]? = some o ∧ o.isCells = true) → J s W'
/-- what abides the law's book-keeping too: blocks from B on that are no cells -/
def OwnB {β : Type} (Bs B : Nat) (I : β → World → Prop) : Prop :=
  ∀ s W W' row, I s W → W.grownBy W' row → (∀ r, row = some r → (r = Bs ∧ ∃ o : Obj, W'.heap[r]? = some o ∧ o.isCells = true) ∨ (B ≤ r ∧ ∃ o : Obj, W.heap[r]? = some o ∧ o.isCells = false)) → I s W'
section
variable {β : Type} {Bs B : Nat} {I : β → World → Prop} {s : β} {W : World}
theorem OwnB.abides (h : OwnB Bs B I) : AbidesB Bs I := fun s W W' row hs hg hr => h s W W' row hs hg (fun r e => .inl (hr r e))
theorem OwnB.put (h : OwnB Bs B I) {l : Nat} {o : Obj} (o' : Obj) (hs : I s W) (hB : B ≤ l) (hl : W.heap[l]? = some o) (ho : o.isCells = false) : I s (W.putObj l o') :=
  h s W _ (some l) hs (grownBy_putObj' W l o') (fun r e => by cases e; exact .inr ⟨hB, o, hl, ho⟩)
theorem OwnB.alloc (h : OwnB Bs B I) (o : Obj) (hs : I s W) : I s (W.alloc o) := h s W _ none hs (World.grownBy_alloc W o none) (fun r e => by cases e)
end

/-- the iterator's contract: at whatever invariant that abides its steps -/
def SeqB {α : Type} (F : Fence) (n : Nat) (P : Program) (g : Nat) (lb : Array Value) (encs : α → Array Value) (Bs : Nat) (Kp : World → World → Prop) (S Sp : List α → Prop) (N : Nat) (w : World) : Prop :=
  ∀ (l : Nat) (J Jx : List α → World → Prop) (W : World), Below w.heap.size w W → AbidesB Bs J →
    (∀ pre x W1, J pre W1 → pre.length < N → YieldAt F (n - 1) P l (encs x) W1 fun e W' =>
      (e = .returned (.bool true) ∧ J (pre ++ [x]) W' ∧ Kp W1 W') ∨ (e = .returned (.bool false) ∧ Jx (pre ++ [x]) W')) →
    J [] W →
    CallsIn F n P g (#[.func (.yield l) #[] #[]] ++ lb) W fun e W' => (∃ v, e = .returned v) ∧ ((∃ xs, S xs ∧ J xs W') ∨ (∃ pre, Sp pre ∧ Jx pre W'))

theorem grownB_keeps {Bs : Nat} {W W' : World} {row : Option Nat} (hg : W.grownBy W' row) (hr : ∀ r, row = some r → r = Bs ∧ ∃ o : Obj, W'.heap[r]? = some o ∧ o.isCells = true) {k : Nat} {o : Obj} (hk : W.heap[k]? = some o) (hne : k ≠ Bs) : W'.heap[k]? = some o :=
  (hg.block k (Array.getElem?_eq_some_iff.1 hk).1 (fun e => hne (hr k e.symm).1)).trans hk

variable {F : Fence} {n : Nat} {P : Program}
theorem wpIn_rangeFunc_B {α : Type} {g : Operand} {ps : Array Tmp} {assign body : Code} {Q : Exit → Act → World → Prop} {a : Act} {w : World}
    (hro : F.round = none) (h1 : 1 ≤ n) {gf : Nat} {lb : Array Value} (hg : a.eval g = .func (.func gf) #[] lb) (hFg : F.fn gf) (eg : ∀ args w, (callFunc gf args).run P w = .ok (.enter gf args) w)
    {encs : α → Array Value} {Bs : Nat} {Kp : World → World → Prop} {S Sp : List α → Prop} {N : Nat} (hseq : SeqB F (n - 1) P gf lb encs Bs Kp S Sp N w) (hBs : Bs < w.heap.size)
    (hKt : ∀ {A B C : World}, Kp A B → Kp B C → Kp A C) (hKb : ∀ (W : World) (l : Nat) (o' : Obj), w.heap.size ≤ l → Kp W (W.putObj l o')) (hps : ∀ x, (encs x).size = ps.size)
    (I : List α → World → Prop) (Ix : Code → List α → World → Prop) (hI : OwnB Bs w.heap.size I) (hIx : ∀ c, OwnB Bs w.heap.size (Ix c)) (h0 : I [] w) (a₁ : α → Act)
    (hassign : ∀ (l : Nat) (x : α) (W : World) (K : Act → World → Prop), K (a₁ x) W →
      assign.wpIn (F.inRound l) (n - 1 - 1) P (Exit.then K (fun _ _ _ => False)) { tmps := (ps.zip (encs x)).foldl (fun t (p, v) => t.setIfInBounds p v) a.tmps, defers := [] } W)
    (hbody : ∀ (l : Nat) (pre : List α) (x : α) (W : World), I pre W → pre.length < N → body.wpIn (F.inRound l) (n - 1 - 1) P (ownPostG w.heap.size Kp I Ix (pre ++ [x]) W) (a₁ x) W)
    (hdone : ∀ (D : Nat) (xs : List α) (W : World), w.heap.size ≤ D → S xs → I xs W → W.heap[D]? = some (.deferred (some [])) → Q .normal { a with defers := { target := .collected D, args := #[] } :: a.defers } W)
    (hstop : ∀ (D : Nat) (c : Code) (pre : List α) (W : World), w.heap.size ≤ D → Sp pre → Ix c pre W → W.heap[D]? = some (.deferred (some [])) → c.wpIn F n P Q { a with defers := { target := .collected D, args := #[] } :: a.defers } W) :
    (Code.rangeFunc g ps assign body).wpIn F n P Q a w := by
  refine wpIn_rangeFunc ?_
  intro fn hfn
  rw [hro]
  obtain ⟨K0, hK0⟩ : ∃ k, k = w.heap.size := ⟨_, rfl⟩
  obtain ⟨rc, hrc⟩ : ∃ rc : LoopState → Option Code → Loop, rc = fun st pe => { state := st, pending := pe, fn, tmps := a.tmps, params := ps, assign, body, defers := K0 } := ⟨_, rfl⟩
  obtain ⟨W1, hW1⟩ : ∃ W1, (w.alloc (.deferred (some []))).alloc (.loop (rc .ready none)) = W1 := ⟨_, rfl⟩
  have hR : W1.heap[K0 + 1]? = some (.loop (rc .ready none)) := by
    have := World.alloc_heap_new (w.alloc (.deferred (some []))) (.loop (rc .ready none))
    rw [← hW1, hK0]
    rwa [World.size_alloc] at this
  have hD : W1.heap[K0]? = some (.deferred (some [])) := by
    rw [← hW1, hK0]
    exact (Below.heap_alloc _ _ _ (by simp)).trans (World.alloc_heap_new w _)
  have hI1 : I [] W1 := by rw [← hW1]; exact hI.alloc _ (hI.alloc _ h0)
  have hb1 : Below w.heap.size w W1 := by
    rw [← hW1]
    exact ((Below.refl _ w).alloc (Nat.le_refl _) _).alloc (by simp) _
  have hl0 : (Instr.enterLoop fn a.tmps ps assign body none).run P w = .ok (K0 + 1, [{ target := .collected K0, args := #[] }]) W1 := by
    rw [← hW1, hrc, hK0]
    exact run_enterLoop_outer _ _ _ _ _
  refine ⟨K0 + 1, [{ target := .collected K0, args := #[] }], W1, { target := .fn (.func gf) lb, args := #[.func (.yield (K0 + 1)) #[] #[]] }, W1, gf, #[.func (.yield (K0 + 1)) #[] #[]] ++ lb, W1, hl0, ?_, ?_, ?_, fun _ => h1, ?_⟩
  · simp only [resolve, hg]
    simp [go_sem]
  · intro f' hf'
    simp [Target.leads] at hf'
    subst hf'
    exact hFg
  · simp [invoke, go_sem, eg]
  · have ne0 : K0 ≠ Bs := by omega
    have ne1 : K0 + 1 ≠ Bs := by omega
    refine (hseq (K0 + 1)
      (fun pre W => I pre W ∧ W.heap[K0 + 1]? = some (.loop (rc .ready none)) ∧ W.heap[K0]? = some (.deferred (some [])))
      (fun pre W => ∃ c, Ix c pre W ∧ W.heap[K0 + 1]? = some (.loop (rc .done (some c))) ∧ W.heap[K0]? = some (.deferred (some [])))
      W1 hb1 (fun s A B row hs hg' hr => ⟨hI.abides s A B row hs.1 hg' hr, grownB_keeps hg' hr hs.2.1 ne1, grownB_keeps hg' hr hs.2.2 ne0⟩) ?_ ⟨hI1, hR, hD⟩).mono ?_
    · rintro pre x W ⟨hi, hl, hk⟩ hlen
      have hlt : K0 + 1 < W.heap.size := (Array.getElem?_eq_some_iff.1 hl).1
      have hy := run_yield (P := P) (args := encs x) hl (by rw [hrc]; exact hps x)
      rw [hrc] at hy
      refine ⟨fn, _, assign, body, hy, roundIn_of_wpIn hfn (hassign _ x W _ ?_)⟩
      clear hy
      refine ⟨_, run_beginRound hl (by rw [hrc]), ?_⟩
      have hl2 : (W.putObj (K0 + 1) (.loop { rc .ready none with state := .busy })).heap[K0 + 1]? = some (.loop { rc .ready none with state := .busy }) := World.putObj_heap_same hlt
      have hk2 : (W.putObj (K0 + 1) (.loop { rc .ready none with state := .busy })).heap[K0]? = some (.deferred (some [])) := (World.putObj_heap_other (by omega)).trans hk
      have hw2 : Kp W (W.putObj (K0 + 1) (.loop { rc .ready none with state := .busy })) := hKb _ _ _ (by omega)
      refine wpIn_mono (hbody _ pre x _ (hI.put _ hi (by omega) hl rfl) hlen) ?_
      have fin : ∀ (jump : Option Code) (W3 : World), KeepsFrom w.heap.size (W.putObj (K0 + 1) (.loop { rc .ready none with state := .busy })) W3 →
          (Instr.endRound (K0 + 1) jump).run P W3 = .ok (.bool jump.isNone) (W3.putObj (K0 + 1) (.loop (rc (if jump.isNone then .ready else .done) jump))) ∧
          W3.heap[K0 + 1]? = some (.loop { rc .ready none with state := .busy }) ∧
          (W3.putObj (K0 + 1) (.loop (rc (if jump.isNone then .ready else .done) jump))).heap[K0 + 1]? = some (.loop (rc (if jump.isNone then .ready else .done) jump)) ∧
          (W3.putObj (K0 + 1) (.loop (rc (if jump.isNone then .ready else .done) jump))).heap[K0]? = some (.deferred (some [])) := fun jump W3 hk3 => by
        have hl3 := hk3.same _ _ (by omega) hl2 rfl
        have he := run_endRound (P := P) jump hl3
        rw [hrc] at he ⊢
        exact ⟨he, by rw [hrc] at hl3; exact hl3, World.putObj_heap_same (Array.getElem?_eq_some_iff.1 hl3).1, (World.putObj_heap_other (by omega)).trans (hk3.same _ _ (by omega) hk2 rfl)⟩
      rintro e a3 W3 hp
      cases e with
      | normal =>
        obtain ⟨hk3, hkp3, hi3⟩ := hp
        obtain ⟨hr, hl3, hl4, hk4⟩ := fin none W3 hk3
        exact ⟨_, _, hr, .inl ⟨rfl, ⟨hI.put _ hi3 (by omega) hl3 rfl, hl4, hk4⟩, hKt (hKt hw2 hkp3) (hKb _ _ _ (by omega))⟩⟩
      | ret =>
        obtain ⟨hk3, hi3⟩ := hp
        obtain ⟨hr, hl3, hl4, hk4⟩ := fin (some .ret) W3 hk3
        exact ⟨_, _, hr, .inr ⟨rfl, .ret, (hIx _).put _ hi3 (by omega) hl3 rfl, hl4, hk4⟩⟩
      | exit id =>
        obtain ⟨hk3, hi3⟩ := hp
        obtain ⟨hr, hl3, hl4, hk4⟩ := fin (some (.exit id)) W3 hk3
        exact ⟨_, _, hr, .inr ⟨rfl, .exit id, (hIx _).put _ hi3 (by omega) hl3 rfl, hl4, hk4⟩⟩
      | goto t =>
        obtain ⟨hk3, hi3⟩ := hp
        obtain ⟨hr, hl3, hl4, hk4⟩ := fin (some (.goto t)) W3 hk3
        exact ⟨_, _, hr, .inr ⟨rfl, .goto t, (hIx _).put _ hi3 (by omega) hl3 rfl, hl4, hk4⟩⟩
      | panic ch => exact hp.elim
      | outgrown => exact hp.elim
    · rintro e W2 ⟨⟨v, rfl⟩, (⟨xs, hS, hi, hl, hk⟩ | ⟨pre, hSp, c, hi, hl, hk⟩)⟩
      · have he := run_endLoop (P := P) hl (by rw [hrc]; simp)
        rw [hrc] at he
        exact ⟨none, _, he, hdone _ xs _ (by omega) hS (hI.put _ hi (by omega) hl rfl) ((World.putObj_heap_other (by omega)).trans hk)⟩
      · have he := run_endLoop (P := P) hl (by rw [hrc]; simp)
        rw [hrc] at he
        exact ⟨some c, _, he, hstop _ c pre _ (by omega) hSp ((hIx c).put _ hi (by omega) hl rfl) ((World.putObj_heap_other (by omega)).trans hk)⟩
end Go.Proofs.YtpbeennielgogaaDoor
