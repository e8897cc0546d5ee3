/- MarkS, PathM, PathN, Drawn, PathO, IxA, Row3, WireA, RegE, joined. -/
import Derived.Test.YtgbpfgdjnhbcgaaGreatDoorQ10
import Derived.Sort.OwnSorted
import Derived.Deep.OwnRows
import Derived.Lib.QuietBelow
set_option linter.unusedSimpArgs false
set_option linter.unusedVariables false
set_option maxRecDepth 100000
set_option maxHeartbeats 16000000
section
namespace Go.Proofs.YtgbpfgdjnhbcgaaGreatDoor.Mark
open Go.RowKit Go.Shelf Go.Sort
open Go.Maps (Keyed)
section
variable {α : Type} [Inhabited α]
theorem flatK_list (enc : α → List Value) (k : Nat) (hk : ∀ x, (enc x).length = k) (l : List α) : (flatK enc k l.toArray).toList = l.flatMap enc := by
 apply List.ext_getElem?
 intro t
 by_cases ht : t < l.length * k
 · have hk0 : 0 < k := by
    rcases Nat.eq_zero_or_pos k with h | h
    · subst h; omega
    · exact h
   have hq : t / k < l.length := Nat.div_lt_of_lt_mul (by rw [Nat.mul_comm]; exact ht)
   have e := flat_at enc k hk l (t / k) l[t / k] (List.getElem?_eq_getElem hq) (t % k) (Nat.mod_lt _ hk0)
   rw [Nat.mul_comm, Nat.div_add_mod] at e
   rw [e, Array.getElem?_toList]
   have hm : t % k < (enc l[t / k]).length := by rw [hk]; exact Nat.mod_lt _ hk0
   simp [flatK, ht, hq, hm]
 · rw [List.getElem?_eq_none (by simp; omega), List.getElem?_eq_none (by rw [flat_len enc k hk]; omega)]
theorem heap_sortedK {w : World} {g n : Nat} {os : Array Obj} {cur : Array Value} {e : TypeId} {fr : Nat × Nat} (F : Array Value) (hb : w.heap[g]? = some (.cells cur e fr)) :
 (grow (putRow id (Sort.ahead w n) g 0 F) os).heap[g]? = some (.cells (putCells id 0 F cur) e fr) := by
 have hg : g < w.heap.size := (Array.getElem?_eq_some_iff.1 hb).1
 rw [heap_grow_old _ _ (by simpa using hg)]
 simp [putRow, mapBlock, Sort.ahead, Array.getElem?_modify, hb, onCells]
theorem grownBy_sortedK {w : World} {g n : Nat} {os : Array Obj} (F : Array Value) : w.grownBy (grow (putRow id (Sort.ahead w n) g 0 F) os) (some g) := by
 refine ⟨rfl, rfl, rfl, by simp, fun k hk hne => ?_⟩
 rw [heap_grow_old _ _ (by simpa using hk)]
 have : g ≠ k := fun e => hne (by rw [e])
 simp [putRow, mapBlock, Sort.ahead, Array.getElem?_modify, this]
theorem take_putK (cur F : Array Value) (h : F.size ≤ cur.size) : (putCells id 0 F cur).toList.take F.size = F.toList := by
 apply List.ext_getElem?
 intro j
 by_cases hj : j < F.size
 · rw [List.getElem?_take_of_lt hj, Array.getElem?_toList]
   simp [putCells, hj, show j < cur.size by omega]
 · rw [List.getElem?_take_eq_none (by omega), List.getElem?_eq_none (by simp; omega)]
theorem own_sorted (enc : α → List Value) (k : Nat) (hk : ∀ x, (enc x).length = k) {w : World} {base g cap n : Nat} {e : TypeId} {os : Array Obj} {cur : Array Value} {ss ts : List α} (hl : ts.length = ss.length) (hbase : base ≤ g) (hb : w.heap[g]? = some (.cells cur e (0, 0)))
 (h1 : ss.length ≤ cap) (h2 : cap ≤ maxLen) (h3 : cur.size = cap * k) :
 (sortWorldK enc k w g 0 n ts.toArray os).ownsRow base e k (.slice (some ⟨g, 0, none⟩) ss.length cap) ss.length (ts.flatMap enc) := by
 have hsz : (flatK enc k ts.toArray).size = ss.length * k := by simp [hl]
 refine ⟨by rw [flat_len enc k hk, hl], .inr ⟨g, cap, _, rfl, hbase, heap_sortedK (flatK enc k ts.toArray) hb, h1, h2, by simp [putCells, h3], ?_⟩⟩
 have := take_putK cur (flatK enc k ts.toArray) (by rw [hsz, h3]; exact Nat.mul_le_mul_right _ h1)
 rw [hsz, flatK_list enc k hk] at this
 exact this
theorem holdsK_of (enc : α → List Value) (k : Nat) (hk : ∀ x, (enc x).length = k) {w : World} {g : Nat} {cur : Array Value} {e : TypeId} {ss : List α} (hb : w.heap[g]? = some (.cells cur e (0, 0))) (ht : cur.toList.take (ss.length * k) = ss.flatMap enc) : HoldsK enc k w g 0 ss.toArray := by
 intro j hj
 have hj' : j < ss.length * k := by simpa using hj
 refine ⟨?_, by simp [World.frozen?, hb]⟩
 have h1 : (cur.toList.take (ss.length * k))[j]? = (flatK enc k ss.toArray).toList[j]? := by rw [ht, flatK_list enc k hk]
 rw [List.getElem?_take_of_lt hj', Array.getElem?_toList, Array.getElem?_toList, Array.getElem?_eq_getElem hj] at h1
 simp only [World.cell?, hb, Nat.zero_add]
 simp only [Option.isSome_none, Bool.false_eq_true, if_false]
 rw [h1, getElem!_pos _ j hj]
 rfl
end
end Go.Proofs.YtgbpfgdjnhbcgaaGreatDoor.Mark
end
section
namespace Go.Proofs.YtgbpfgdjnhbcgaaGreatDoor.Path
open Go.RowKit
end Go.Proofs.YtgbpfgdjnhbcgaaGreatDoor.Path
end
section
namespace Go.Proofs.YtgbpfgdjnhbcgaaGreatDoor.Path
open Go.RowKit
open Go.Lib (compareBytes)
end Go.Proofs.YtgbpfgdjnhbcgaaGreatDoor.Path
end
section
namespace Go.Proofs.YtgbpfgdjnhbcgaaGreatDoor
def resW {α : Type} : Result α → World
 | .ok _ w => w
 | .halt _ w => w
theorem ask_drawn {α : Type} : ∀ (x : Ask α) (w : World), w.drawn ≤ (w.ask x).2.drawn
 | .done a, w => Nat.le_refl _
 | .ask what range k, w => by
  unfold World.ask
  simp only []
  split
  · exact ask_drawn _ _
  · exact Nat.le_trans (Nat.le_succ _) (ask_drawn _ { w with drawn := w.drawn + 1 })
theorem sys_drawn (w : World) (c : Sys) : w.drawn ≤ (w.sys c).2.drawn := by
 unfold World.sys
 have h := ask_drawn (Kernel.perform c w.os) w
 split
 · exact Nat.le_refl _
 · rename_i he
   rw [he] at h
   exact h
theorem viewStore_drawn {p : Program} {w : World} {at_ : Addr} {u : TypeId} {k : Addr} {v : Value} {atomic : Bool} {r : World × List Addr} (h : w.viewStore p at_ u k v atomic = .ok r) : r.1.drawn = w.drawn := by
 unfold World.viewStore at h
 simp only [bind, Except.bind, pure, Except.pure, throw, throwThe, MonadExceptOf.throw] at h
 repeat' first
  | (cases h; done)
  | (cases h; rfl)
  | (simp at h; done)
  | split at h
theorem farStore_drawn {p : Program} {w : World} {a : Addr} {v : Value} {atomic : Bool} {r : World × List Addr} (h : w.farStore p a v atomic = .ok r) : r.1.drawn = w.drawn := by
 unfold World.farStore at h
 split at h
 · split at h
   · rename_i hv
     cases h
     exact viewStore_drawn hv
   · exact nomatch h
 · exact nomatch h
theorem run_drawn {α : Type} (p : Program) (x : Sem α) : ∀ w : World, w.drawn ≤ (resW (x.run p w)).drawn := by
 induction x with
 | pure a => exact fun w => Nat.le_refl _
 | load m a k ih =>
  intro w
  simp only [Sem.run]
  split
  · exact ih _ _
  · split
    · exact ih _ _
    · exact Nat.le_refl _
 | store m a v k ih =>
  intro w
  cases v
  all_goals
   simp only [Sem.run]
   try exact Nat.le_refl _
  all_goals
   split
   · split
     · exact Nat.le_refl _
     · exact ih (w.setCell a _)
   · split
     · rename_i hf
       exact Nat.le_trans (Nat.le_of_eq (farStore_drawn hf).symm) (ih _)
     · exact Nat.le_refl _
 | new o k ih => intro w; exact ih _ { w with heap := w.heap.push o }
 | shape r k ih => intro w; exact ih _ _
 | freeze a n k ih =>
  intro w
  refine Nat.le_trans (Nat.le_of_eq ?_) (ih (w.freeze a n))
  unfold World.freeze
  split <;> rfl
 | frozen a k ih => intro w; exact ih _ _
 | getObj r k ih =>
  intro w
  simp only [Sem.run]
  split
  · exact Nat.le_refl _
  · exact ih _ _
  · exact Nat.le_refl _
 | setObj r o k ih =>
  intro w
  simp only [Sem.run]
  split
  · exact Nat.le_refl _
  · exact ih { w with heap := w.heap.setIfInBounds r o }
  · exact Nat.le_refl _
 | choose q k ih =>
  intro w
  simp only [Sem.run]
  split
  · exact ih _ _
  · exact Nat.le_trans (Nat.le_succ _) (ih _ { w with drawn := w.drawn + 1 })
 | sys c k ih => intro w; exact Nat.le_trans (sys_drawn w c) (ih _ _)
 | program k ih => intro w; exact ih _ _
 | mark m k ih => intro w; exact ih _
 | halt h => exact fun w => Nat.le_refl _
theorem run_ok {α : Type} {p : Program} {x : Sem α} {w w' : World} {a : α} (h : x.run p w = .ok a w') : w.drawn ≤ w'.drawn := by
 have := run_drawn p x w
 rw [h] at this
 exact this
theorem run_halt {α : Type} {p : Program} {x : Sem α} {w w' : World} {a : Halt} (h : x.run p w = .halt a w') : w.drawn ≤ w'.drawn := by
 have := run_drawn p x w
 rw [h] at this
 exact this
theorem runT_ok {α : Type} {p : Program} {x : Sem α} {w w' : World} {a : α} {es es' : Array Event} (h : x.runT p w es = (.ok a w', es')) : w.drawn ≤ w'.drawn :=
 run_ok (p := p) (x := x) (by rw [← Sem.runT_fst p x w es, h])
theorem runT_halt {α : Type} {p : Program} {x : Sem α} {w w' : World} {a : Halt} {es es' : Array Event} (h : x.runT p w es = (.halt a w', es')) : w.drawn ≤ w'.drawn :=
 run_halt (p := p) (x := x) (by rw [← Sem.runT_fst p x w es, h])
def gw : GStep → World
 | .go _ w _ => w
 | .comm _ _ _ _ w _ => w
 | .spawn _ _ w _ => w
 | .count _ w _ => w
 | .timer _ _ w _ => w
 | .alone _ _ w _ => w
 | .newcoro _ _ _ w _ => w
 | .coroswitch _ _ _ w _ => w
 | .collect _ w _ => w
 | .watch _ w _ => w
 | .ended _ w _ => w
theorem gw_after (es : Array Event) (s : GStep) : gw (GStep.after es s) = gw s := by cases s <;> rfl
theorem le_ite {c : Prop} [Decidable c] {a b : GStep} {n : Nat} (h1 : n ≤ (gw a).drawn) (h2 : n ≤ (gw b).drawn) : n ≤ (gw (if c then a else b)).drawn := by split <;> assumption
theorem endWith_drawn (w : World) (fd : Nat) (text : ByteArray) (o : Outcome) : w.drawn ≤ (gw (endWith w fd text o)).drawn := by
 unfold endWith
 have h := sys_drawn w (.write fd text)
 simp only []
 split
 · rename_i he
   rw [he] at h
   split <;> exact h
 · rename_i he
   rw [he] at h
   exact h
 · rename_i he
   rw [he] at h
   exact h
theorem dieOf_drawn (fr : Frame) (a : List ByteArray) (m : String) (wh : Bool) (w : World) : gw (dieOf fr a m wh w) = w := rfl
theorem endThrow_drawn (fr : Frame) (m : String) (w : World) : gw (endThrow fr m w) = w := rfl
theorem endPrinting_drawn (p : Program) (fr : Frame) (v : Value) (w : World) : gw (endPrinting p fr v w) = w := by
 unfold endPrinting
 simp only []
 split
 · exact endThrow_drawn _ _ _
 · rfl
theorem endFatal_drawn (p : Program) (fr : Frame) (cs : List Frame) (d : Option Dying) (m : String) (w : World) : w.drawn ≤ (gw (endFatal p fr cs d m w)).drawn := by
 unfold endFatal
 simp only []
 split
 · rename_i h; rw [dieOf_drawn]; exact run_ok h
 · rename_i h; exact run_halt h
 · rename_i h; exact run_halt h
theorem writeOn_drawn (p : Program) (fr : Frame) (d : Dying) (f : Fatal) (w : World) : w.drawn ≤ (gw (writeOn p fr d f w)).drawn := by
 unfold writeOn
 simp only []
 split
 · exact Nat.le_refl _
 · split
   · rename_i h; exact runT_ok h
   · rename_i h; exact runT_halt h
   · rename_i h; exact runT_halt h
   · rename_i h; exact runT_halt h
theorem die_drawn (p : Program) (fr : Frame) (d : Dying) (w : World) : w.drawn ≤ (gw (die p fr d w)).drawn := by
 unfold die
 split
 · exact writeOn_drawn _ _ _ _ _
 · split
   · split
     · exact Nat.le_refl _
     · exact endWith_drawn _ _ _ _
   · simp only []
     split
     · exact Nat.le_refl _
     · split
       · rename_i h; exact run_ok h
       · rename_i h; exact run_halt h
     · rw [gw_after]
       simp only [Sem.runT_fst]
       split
       all_goals first
        | exact Nat.le_refl _
        | (rename_i h; exact run_ok h)
        | (rename_i h; exact run_halt h)
        | (rename_i h; rw [endPrinting_drawn]; exact run_halt h)
     · exact Nat.le_refl _
theorem doReturn_drawn (p : Program) (main : Bool) (fr : Frame) (cs : List Frame) (d : Option Dying) (v : Value) (w : World) : gw (doReturn p main fr cs d v w) = w := by
 unfold doReturn
 repeat' first
  | rfl
  | split
  | simp only []
theorem callDeferred_drawn (p : Program) (fr : Frame) (cs : List Frame) (dy : Option Dying) (d : Deferred) (w : World) : w.drawn ≤ (gw (callDeferred p fr cs dy d w)).drawn := by
 unfold callDeferred
 refine le_ite (Nat.le_refl _) ?_
 · simp only []
   rw [gw_after]
   simp only [Sem.runT_fst]
   split
   all_goals first
    | (rename_i h; exact run_ok h)
    | (rename_i h; exact run_halt h)
    | (rename_i h; exact Nat.le_trans (run_halt h) (endFatal_drawn _ _ _ _ _ _))
    | (rename_i h; rw [endThrow_drawn]; exact run_halt h)
    | (rename_i h; split <;> exact run_ok h)
theorem unwind_drawn (p : Program) (main : Bool) (fr : Frame) (cs : List Frame) (dy : Option Dying) (w : World) : w.drawn ≤ (gw (unwind p main fr cs dy w)).drawn := by
 unfold unwind
 split
 · simp only []
   rw [gw_after]
   simp only [Sem.runT_fst]
   split
   · rename_i h; exact run_ok h
   · rename_i h; exact run_halt h
 · exact callDeferred_drawn _ _ _ _ _ _
 · split
   · exact Nat.le_refl _
   · split
     · exact Nat.le_refl _
     · split
       · exact Nat.le_refl _
       · split
         · split
           · exact Nat.le_refl _
           · split
             all_goals (rename_i h; first | exact run_ok h | exact run_halt h)
         · split
           · rw [endPrinting_drawn]; exact Nat.le_refl _
           · exact Nat.le_refl _
   · split
     · rw [doReturn_drawn]; exact Nat.le_refl _
     · simp only []
       rw [gw_after]
       simp only [Sem.runT_fst]
       split
       · rename_i h; rw [doReturn_drawn]; exact run_ok h
       · rename_i h; exact run_halt h
       · rename_i h; exact run_halt h
theorem early_drawn (p : Program) (fr : Frame) (cs : List Frame) (dy : Option Dying) (g : Nat) (w : World) : w.drawn ≤ (gw (early p fr cs dy g w)).drawn := by
 have key : ∀ w1 : World, w.drawn ≤ w1.drawn → w.drawn ≤ (gw (match w1.heap[g]? with
  | some (.pending c elem) => GStep.go { frame := fr, callers := cs, status := .running, dying := dy } { w1 with heap := w1.heap.setIfInBounds g (.cells c elem) }
  | _ => .ended (.stuck "early: the variable does not wait" (fr.pos p)) w1)).drawn := by
  intro w1 h
  split <;> exact h
 unfold early
 simp only []
 split
 · exact key w (Nat.le_refl _)
 · split
   · exact Nat.le_refl _
   · split
     · exact key w (Nat.le_refl _)
     · split
       · exact key w (Nat.le_refl _)
       · split
         · exact Nat.le_refl _
         · exact Nat.le_refl _
         · exact Nat.le_refl _
         · exact key w (Nat.le_refl _)
         · split
           · exact Nat.le_refl _
           · split
             · exact key w (Nat.le_refl _)
             · split
               · rename_i h; exact key _ (run_ok h)
               · rename_i h; exact run_ok h
               · rename_i h; exact run_halt h
theorem apply_drawn (p : Program) (listen : Bool) (fr : Frame) (cs : List Frame) (dy : Option Dying) (x : Sem Next) (w : World) : w.drawn ≤ (gw (stepG.apply p listen fr cs dy x w)).drawn := by
 unfold stepG.apply
 simp only []
 rw [gw_after]
 have hr : ∀ r es, (if listen = true then x.runT p w #[] else (x.run p w, #[])) = (r, es) → x.run p w = r := by
  intro r es h
  split at h
  · rw [← Sem.runT_fst p x w #[], h]
  · exact congrArg Prod.fst h
 generalize hq : (if listen = true then x.runT p w #[] else (x.run p w, #[])) = q at *
 obtain ⟨r, es⟩ := q
 have h0 := hr r es rfl
 clear hr hq
 simp only []
 split
 all_goals first
  | (subst_vars; exact run_ok ‹_›)
  | (exact run_ok h0)
  | (exact run_halt h0)
  | (exact Nat.le_trans (run_halt h0) (endFatal_drawn _ _ _ _ _ _))
  | (exact Nat.le_trans (run_halt h0) (early_drawn _ _ _ _ _ _))
  | (rw [endThrow_drawn]; exact run_halt h0)
  | (refine le_ite ?_ (run_ok h0); rw [endThrow_drawn]; exact run_ok h0)
  | (split <;> first | exact run_ok h0 | (rw [endThrow_drawn]; exact run_ok h0))
theorem oper_drawn (p : Program) (listen : Bool) (fr : Frame) (cs : List Frame) (dy : Option Dying) (w : World) : w.drawn ≤ (gw (stepG.oper p listen fr cs dy w)).drawn := by
 unfold stepG.oper
 split
 · exact Nat.le_refl _
 · split
   · exact apply_drawn _ _ _ _ _ _ _
   · exact apply_drawn _ _ _ _ _ _ _
theorem exec_drawn (p : Program) (main listen : Bool) (fr : Frame) (cs : List Frame) (dy : Option Dying) (w : World) : w.drawn ≤ (gw (stepG.exec p main listen fr cs dy w)).drawn := by
 unfold stepG.exec
 simp only []
 split
 all_goals first
  | exact Nat.le_refl _
  | exact apply_drawn _ _ _ _ _ _ _
  | (split; exact le_ite (Nat.le_refl _) (Nat.le_refl _); (rw [gw_after]; simp only [Sem.runT_fst]; split; (rename_i h; rw [doReturn_drawn]; exact run_ok h); (rename_i h; exact run_halt h)))
  | (split <;> exact Nat.le_refl _)
  | (generalize exitTo _ _ = o; cases o; (simp only [Option.elim_none]; (split; exact le_ite (Nat.le_refl _) (Nat.le_refl _); (rw [gw_after]; simp only [Sem.runT_fst]; split; (rename_i h; rw [doReturn_drawn]; exact run_ok h); (rename_i h; exact run_halt h)))); exact Nat.le_refl _)
  | (generalize gotoIn _ _ = o; cases o; (simp only [Option.elim_none]; (split; exact le_ite (Nat.le_refl _) (Nat.le_refl _); (rw [gw_after]; simp only [Sem.runT_fst]; split; (rename_i h; rw [doReturn_drawn]; exact run_ok h); (rename_i h; exact run_halt h)))); exact Nat.le_refl _)
  | (generalize Extern.next _ = o; cases o; exact Nat.le_refl _; exact apply_drawn _ _ _ _ _ _ _)
  | (refine le_ite (oper_drawn _ _ _ _ _ _) (Nat.le_refl _))
  | (refine le_ite (Nat.le_refl _) ?_; split; (rename_i h; exact run_ok h); (rename_i h; exact run_halt h))
  | (rw [gw_after]; simp only [Sem.runT_fst]; split; (rename_i h; exact Nat.le_trans (run_ok h) (apply_drawn _ _ _ _ _ _ _)); (rename_i h; exact run_halt h))
  | (rw [gw_after]; simp only [Sem.runT_fst]; split; (rename_i h; exact run_ok h); (rename_i h; exact run_halt h); (rename_i h; exact run_halt h))
theorem stepG_drawn (p : Program) (main : Bool) (g : Goroutine) (w : World) (listen : Bool) : w.drawn ≤ (gw (stepG p main g w listen)).drawn := by
 unfold stepG
 simp only []
 split
 · exact die_drawn _ _ _ _
 · exact exec_drawn _ _ _ _ _ _ _
 · exact unwind_drawn _ _ _ _ _ _
theorem communicate_drawn (p : Program) (rest : Rest) (gs : Array Goroutine) (i : Nat) (g : Goroutine) (cases : Array CommCase) (blocking : Bool)
 (shape : CommShape) (w : World) (m' : Machine) (h : (communicate p rest gs i g cases blocking shape w).1 = .next m') : w.drawn ≤ m'.world.drawn := by
 have wa : ∀ w1, waitingAt rest cases w = some w1 → w1.drawn = w.drawn := by
  intro w1 hw
  unfold waitingAt at hw
  split at hw
  · split at hw
    · cases hw; rfl
    · cases hw
  · cases hw; rfl
 unfold communicate at h
 simp only [] at h
 split at h
 · simp at h
 · split at h
   · split at h
     · split at h
       · simp only [Stepped.next.injEq] at h; subst h; exact Nat.le_of_eq (wa _ ‹_›).symm
       · simp at h
     · simp only [Stepped.next.injEq] at h; subst h; exact Nat.le_refl _
   · generalize hq : Sem.run p _ w = q at h
     cases q with
     | halt a w1 => simp at h
     | ok a w1 =>
      obtain ⟨k, c, way⟩ := a
      have h1 := run_ok hq
      clear hq
      simp only [] at h
      repeat' first
       | (simp at h; done)
       | (simp only [Stepped.next.injEq] at h; subst h; exact h1)
       | (simp only [Stepped.next.injEq] at h; subst h; exact Nat.le_trans h1 (run_ok ‹_›))
       | (simp only [Stepped.next.injEq] at h; subst h; exact Nat.le_trans h1 (run_halt ‹_›))
       | (generalize hq : Sem.run p (choose _) _ = q at h; cases q; (have h2 := Nat.le_trans h1 (run_ok hq); clear hq; simp only [Stepped.next.injEq] at h; subst h; exact h2); (simp at h; done))
       | split at h
theorem look_drawn (p : Program) (gs : Array Goroutine) (rest : Rest) (w : World) (m' : Machine) (h : look p gs rest w = .next m') : w.drawn ≤ m'.world.drawn := by
 unfold look at h
 simp only [] at h
 split at h
 · split at h
   · simp at h
   · split at h
     · simp at h
     · generalize hq : Sem.run p _ w = q at h
       cases q with
       | halt a w1 =>
        clear hq
        cases a <;> simp at h
       | ok a w1 =>
        obtain ⟨f, c⟩ := a
        have h1 := run_ok hq
        clear hq
        simp only [Stepped.next.injEq] at h
        subst h
        exact h1
 · simp at h
theorem timerOp_drawn (m m' : Machine) (op : TimerOp) (v : Value) (h : timerOp m op = .ok (v, m')) : m'.world.drawn = m.world.drawn := by
 have op_ : ∀ var m1, timerOp.opened m var = some m1 → m1.world.drawn = m.world.drawn := by
  intro var m1 ho
  unfold timerOp.opened at ho
  split at ho
  · split at ho
    · cases ho; rfl
    · cases ho
  · cases ho; rfl
 have rt : ∀ (m1 : Machine) k t a b, (retime m1 k t a b).2.world.drawn = m1.world.drawn := by
  intro m1 k t a b
  unfold retime
  simp only []
  split
  · unfold drain
    split <;> rfl
  · rfl
 have nm : ∀ (m1 : Machine) var f (r : Value × Machine), (∀ k t, (f k t).2.world.drawn = m1.world.drawn) → timerOp.named m1 var f = .ok r → r.2.world.drawn = m1.world.drawn := by
  intro m1 var f r hf hr
  unfold timerOp.named at hr
  split at hr
  · cases hr; exact hf _ _
  · cases hr
 unfold timerOp at h
 repeat' first
  | (simp at h; done)
  | (simp only [Except.ok.injEq, Prod.mk.injEq] at h; obtain ⟨_, rfl⟩ := h; rfl)
  | (exact nm _ _ _ (v, m') (fun _ _ => rt _ _ _ _ _) h)
  | (rename_i ho; exact nm _ _ _ (v, m') (fun _ _ => (rt _ _ _ _ _).trans (op_ _ _ ho)) h)
  | split at h
theorem runT_drawn (p : Program) (m m' : Machine) (i : Nat) (b : Bool) (h : (runT p m i b).1 = .next m') : m.world.drawn ≤ m'.world.drawn := by
 simp only [runT] at h
 have hs := stepG_drawn p (i == 0) (m.gs.swapAt! i { (default : Goroutine) with status := .finished }).1 m.world b
 revert hs h
 generalize m.gs.swapAt! _ _ = gg
 generalize stepG p _ gg.1 m.world b = s
 intro h hs
 cases s <;> simp only [gw] at h hs
 all_goals first
  | (simp at h; done)
  | (exact Nat.le_trans hs (communicate_drawn _ _ _ _ _ _ _ _ _ _ h))
  | (exact Nat.le_trans hs (look_drawn _ _ _ _ _ h))
  | (simp only [Stepped.next.injEq] at h; subst h; exact hs)
  | (repeat' first
      | (simp at h; done)
      | (simp only [Stepped.next.injEq] at h; subst h; exact hs)
      | (simp only [Stepped.next.injEq] at h; subst h; exact Nat.le_trans hs (Nat.le_of_eq (timerOp_drawn _ _ _ _ ‹_›).symm))
      | (rename_i he; unfold endThrow dieOf at he; simp only [GStep.go.injEq] at he; obtain ⟨_, rfl, _⟩ := he; simp only [Stepped.next.injEq] at h; subst h; exact hs)
      | split at h)
theorem serve_drawn (p : Program) (m m' : Machine) (k : Nat) (h : serve p m k = .next m') : m'.world.drawn = m.world.drawn := by
 unfold serve at h
 simp only [] at h
 repeat' first
  | (simp at h; done)
  | (simp only [Stepped.next.injEq] at h; subst h; rfl)
  | split at h
def mvW : Move → Option World
 | .goroutine m _ => some m.world
 | .machine (.next m) _ => some m.world
 | .machine (.ended _ _) _ => none
theorem askOn_drawn (p : Program) (m : Machine) (w' : World) (h : mvW (askOn p m) = some w') : m.world.drawn ≤ w'.drawn := by
 unfold askOn at h
 simp only [] at h
 generalize hq : Sem.run p _ m.world = q at h
 cases q with
 | halt a w1 => simp [mvW] at h
 | ok k w1 =>
  have h1 : m.world.drawn ≤ w1.drawn := run_ok hq
  clear hq
  have pick : ∀ (m1 : Machine) (rs : List Nat) (w2 : World), m.world.drawn ≤ m1.world.drawn → mvW (match (choose (.sched rs.length)).run p m1.world with
   | .halt _ w => Move.machine (.ended (.stuck "sched" "") w)
   | .ok k world =>
    if rs.length ≤ 1 then .goroutine { m1 with world } (rs.getD k 0) else
    match (choose (.extern "sched.slice" 65536)).run p world with
    | .halt _ w => .machine (.ended (.stuck "sched.slice" "") w)
    | .ok n world => .goroutine { m1 with world, rest := { m1.rest with slice := if n = 0 then none else some (rs.getD k 0, n) } } (rs.getD k 0)) = some w2 → m.world.drawn ≤ w2.drawn := by
   intro m1 rs w2 h0 hm
   generalize hr : Sem.run p (choose (.sched rs.length)) m1.world = r at hm
   cases r with
   | halt a w3 => simp [mvW] at hm
   | ok k w3 =>
    have h2 := run_ok hr
    simp only [] at hm
    split at hm
    · simp only [mvW, Option.some.injEq] at hm; subst hm; exact Nat.le_trans h0 h2
    · generalize hs : Sem.run p (choose (.extern "sched.slice" 65536)) w3 = r at hm
      cases r with
      | halt a w4 => simp [mvW] at hm
      | ok n w4 =>
       have h3 := run_ok hs
       simp only [mvW, Option.some.injEq] at hm
       subst hm
       exact Nat.le_trans h0 (Nat.le_trans h2 h3)
  dsimp only at h
  split at h
  · generalize hs : serve p _ _ = s at h
    cases s with
    | next m2 =>
     simp only [mvW, Option.some.injEq] at h
     subst h
     rw [serve_drawn _ _ _ _ hs]
     exact h1
    | ended o w2 => simp [mvW] at h
  · split at h
    · split at h
      · simp only [mvW, Option.some.injEq] at h; subst h; exact h1
      · split at h
        · simp only [mvW, Option.some.injEq] at h; subst h; exact h1
        · split at h <;> simp [mvW] at h
    · split at h
      · exact pick { m with world := w1 } (runnable m.gs m.world.os.mono) _ h1 h
      · generalize hs : Sem.run p (choose (.extern "clock.wait" _)) w1 = s at h
        cases s with
        | halt a w2 => simp [mvW] at h
        | ok k w2 =>
         have h2 := run_ok hs
         rcases k with _ | _ | k
         · exact pick { m with world := w2 } _ _ (Nat.le_trans h1 h2) h
         · simp only [mvW, Option.some.injEq] at h; subst h; exact Nat.le_trans h1 h2
         · exact pick (Machine.advanceTo { m with world := w2 } _) _ _ (Nat.le_trans h1 h2) h
theorem ask_drawn' (p : Program) (m : Machine) (w' : World) (h : mvW (ask p m) = some w') : m.world.drawn ≤ w'.drawn := by
 unfold ask at h
 split at h
 · generalize hs : Sem.run p (choose (.extern "collector.look" 2)) m.world = s at h
   cases s with
   | halt a w2 => simp [mvW] at h
   | ok k w2 =>
    have h2 := run_ok hs
    rcases k with _ | _ | k
    · exact Nat.le_trans h2 (askOn_drawn p { m with world := w2 } w' h)
    · simp only [] at h
      generalize hl : look p m.gs m.rest w2 = l at h
      cases l with
      | next m2 => exact Nat.le_trans h2 (Nat.le_trans (look_drawn _ _ _ _ _ hl) (askOn_drawn p m2 w' h))
      | ended o w3 => simp [mvW] at h
    · exact Nat.le_trans h2 (askOn_drawn p { m with world := w2 } w' h)
 · exact askOn_drawn p m w' h
theorem move_drawn (p : Program) (m : Machine) (w' : World) (h : mvW (move p m) = some w') : m.world.drawn ≤ w'.drawn := by
 unfold move at h
 split at h
 · split at h
   · simp only [mvW, Option.some.injEq] at h; subst h; exact Nat.le_refl _
   · simp [mvW] at h
 · split at h
   · split at h
     · simp only [mvW, Option.some.injEq] at h; subst h; exact Nat.le_refl _
     · exact ask_drawn' p { m with rest := { m.rest with slice := none } } w' h
   · exact ask_drawn' p m w' h
theorem step_drawn (p : Program) (m m' : Machine) (h : step p m = .next m') : m.world.drawn ≤ m'.world.drawn := by
 unfold step stepT at h
 split at h
 · rename_i m1 i hm
   exact Nat.le_trans (move_drawn p m m1.world (by rw [hm]; rfl)) (runT_drawn _ _ _ _ _ h)
 · rename_i s ops hm
   simp only [] at h
   subst h
   exact move_drawn p m m'.world (by rw [hm]; rfl)
theorem steps_drawn {p : Program} {m m' : Machine} (h : Steps p m m') : m.world.drawn ≤ m'.world.drawn := by
 obtain ⟨n, hn⟩ := h
 induction n generalizing m with
 | zero => simp [runN] at hn; rw [hn]; exact Nat.le_refl _
 | succ n ih =>
  rw [runN] at hn
  split at hn
  · rename_i m1 h1
    exact Nat.le_trans (step_drawn p m m1 h1) (ih hn)
  · rename_i hno
    exact (hno _ hn).elim
theorem calls_drawn {p : Program} {f : FuncId} {args : Array Value} {w : World} {R : Ending → World → Prop} (h : Calls p f args w R) (ho : ∀ w', ¬ R .outgrown w') : Calls p f args w fun e w' => R e w' ∧ w.drawn ≤ w'.drawn := by
 intro cs
 obtain ⟨e, w', fr, r, c, x⟩ := h cs
 refine ⟨e, w', fr, ⟨r, ?_⟩, c, x⟩
 cases e with
 | returned v => exact steps_drawn c
 | panicked ch => exact steps_drawn c
 | outgrown => exact absurd r (ho w')
end Go.Proofs.YtgbpfgdjnhbcgaaGreatDoor
end
section
namespace Go.Proofs.YtgbpfgdjnhbcgaaGreatDoor.Path
open Go.RowKit
open Go.Sort (grow)
open Go.Lib (compareBytes)
theorem ext_grow {w w' : World} (h : Ext w w') (hd : w.drawn ≤ w'.drawn) : ∃ q os', w' = grow (w.drewN q) os' := by
 obtain ⟨p, hp⟩ := regrown_of_below h
 refine ⟨p.d - w.drawn, p.os, ?_⟩
 have e : w'.drawn = p.d := by rw [hp]; rfl
 rw [hp]
 congr 1
 unfold World.drewN redrawn
 congr 1
 omega
theorem calls_grow {P : Program} {f : FuncId} {args : Array Value} {w : World} {v : Value} (h : Calls P f args w fun e w' => e = .returned v ∧ Ext w w') : Calls P f args w fun e w' => e = .returned v ∧ ∃ q os', w' = grow (w.drewN q) os' :=
 (calls_drawn h (fun w' hr => by cases hr.1)).mono fun e w' ⟨⟨he, hx⟩, hd⟩ => ⟨he, ext_grow hx hd⟩
end Go.Proofs.YtgbpfgdjnhbcgaaGreatDoor.Path
end
section
namespace Go.Proofs.YtgbpfgdjnhbcgaaGreatDoor.Ix
open Go.RowKit Go.Shelf Go.Sort
open Go.Maps (Keyed)
open Go.Lib (compareBytes compareInt)
open _root_.Go.Proofs.YtgbpfgdjnhbcgaaGreatDoor.Mark (holdsK_of own_sorted grownBy_sortedK orI or2 new_cell)
open _root_.Go.Proofs.YtgbpfgdjnhbcgaaGreatDoor.Sess (cbS cbS_flip cbS_trans cbS_zero compare_u64)
open Attr (A8)
def En.cells (e : En) : List Value := [.string e.foot, .int .u64 e.num, .int .i64 e.a.s, .int .i64 e.a.d0, .int .i64 e.a.d1, .int .i64 e.a.d2, .int .i64 e.a.d3, .int .i64 e.a.d4, .int .i64 e.a.d5, .int .i64 e.a.d6]
theorem enL_len (e : En) : e.cells.length = 10 := rfl
theorem enL_one (e : En) : ∀ u ∈ e.cells, u.oneCell' = true := List.all_eq_true.1 (show e.cells.all (·.oneCell') = true from rfl)
abbrev rowX (v : Value) (l : List En) : Part := .row 42 10 v l.length (l.flatMap En.cells)
theorem rowX_nil {L0 L : List Part} {w0 w : World} (h : At L0 w0 L w) : At L0 w0 (rowX (.slice none 0 0) [] :: L) w := h.row_nil 42 10
theorem rowX_snoc (v : Value) (l : List En) (e : En) : Part.row 42 10 v (l.length + 1) (l.flatMap En.cells ++ e.cells) = rowX v (l ++ [e]) := by
 unfold rowX
 rw [List.length_append]
 simp
theorem infoX : (Tryz.prog.info? 42).map (fun i => (i.zero, i.size, i.bytes)) = some (some (.agg #[.string .empty, .int .u64 0, .int .i64 0, .int .i64 0, .int .i64 0, .int .i64 0, .int .i64 0, .int .i64 0, .int .i64 0, .int .i64 0]), 10, 88) := by kernel_rfl
def cmpX (x y : En) : Int := orI (cbS x.foot y.foot) (compareInt x.num y.num)
def ltX (x y : En) : Prop := cbS x.foot y.foot < 0 ∨ (x.foot = y.foot ∧ x.num < y.num)
instance (x y : En) : Decidable (ltX x y) := by unfold ltX; infer_instance
theorem cbS_self (a : ByteArray) : cbS a a = 0 := by have := cbS_flip a a; omega
theorem cmpX_lt (x y : En) : ltOf cmpX x y = decide (ltX x y) := by
 unfold ltOf cmpX orI compareInt ltX
 by_cases h0 : cbS x.foot y.foot = 0
 · have e := cbS_zero h0
   rw [if_pos h0]
   by_cases h1 : x.num < y.num
   · simp [h1, e]
   · by_cases h2 : y.num < x.num
     · simp [h1, h2, h0]
     · simp [h1, h2, h0]
 · rw [if_neg h0]
   have hne : x.foot ≠ y.foot := fun e => h0 (by rw [e]; exact cbS_self _)
   simp [hne]
theorem ltX_trans {x y z : En} (h1 : ltX x y) (h2 : ltX y z) : ltX x z := by
 unfold ltX at *
 rcases h1 with h1 | ⟨h1, h1'⟩
 · rcases h2 with h2 | ⟨h2, _⟩
   · exact .inl (cbS_trans h1 h2)
   · exact .inl (by rw [← h2]; exact h1)
 · rcases h2 with h2 | ⟨h2, h2'⟩
   · exact .inl (by rw [h1]; exact h2)
   · exact .inr ⟨h1.trans h2, by omega⟩
theorem ltX_irrefl (x : En) : ¬ ltX x x := by
 unfold ltX
 have := cbS_self x.foot
 omega
theorem ltX_tri (x y : En) : ltX x y ∨ (x.foot = y.foot ∧ x.num = y.num) ∨ ltX y x := by
 unfold ltX
 have h := cbS_flip x.foot y.foot
 by_cases h0 : cbS x.foot y.foot = 0
 · have e := cbS_zero h0
   rcases Int.lt_trichotomy x.num y.num with q | q | q
   · exact .inl (.inr ⟨e, q⟩)
   · exact .inr (.inl ⟨e, q⟩)
   · exact .inr (.inr (.inr ⟨e.symm, q⟩))
 · by_cases hl : cbS x.foot y.foot < 0
   · exact .inl (.inl hl)
   · exact .inr (.inr (.inl (by omega)))
abbrev EnI (es : List En) := {e : En // e ∈ es}
def cmpI (es : List En) (x y : EnI es) : Int := cmpX x.1 y.1
def encI (es : List En) (x : EnI es) : List Value := x.1.cells
def OneK (es : List En) : Prop := ∀ a ∈ es, ∀ b ∈ es, a.foot = b.foot → a.num = b.num → a = b
section
variable {es : List En} (H : OneK es)
theorem encI_len (x : EnI es) : (encI es x).length = 10 := rfl
theorem encI_one (x : EnI es) : ∀ v ∈ encI es x, v.oneCell' = true := enL_one x.1
theorem cmpI_lt (x y : EnI es) : ltOf (cmpI es) x y = decide (ltX x.1 y.1) := cmpX_lt x.1 y.1
include H
theorem totI (x y : EnI es) (h1 : ltOf (cmpI es) x y = false) (h2 : ltOf (cmpI es) y x = false) : x = y := by
 rw [cmpI_lt] at *
 rcases ltX_tri x.1 y.1 with q | q | q
 · exact absurd q (of_decide_eq_false h1)
 · exact Subtype.ext (H _ x.2 _ y.2 q.1 q.2)
 · exact absurd q (of_decide_eq_false h2)
theorem swoI : SWO (ltOf (cmpI es)) where
 irrefl x := by rw [cmpI_lt]; exact decide_eq_false (ltX_irrefl _)
 trans x y z h1 h2 := by rw [cmpI_lt] at *; exact decide_eq_true (ltX_trans (of_decide_eq_true h1) (of_decide_eq_true h2))
 ntrans x y z h1 h2 := by
  rw [cmpI_lt] at *
  refine decide_eq_false fun h => ?_
  have n1 := of_decide_eq_false h1
  have n2 := of_decide_eq_false h2
  rcases ltX_tri x.1 y.1 with q | q | q
  · exact n1 q
  · have e : x = y := Subtype.ext (H _ x.2 _ y.2 q.1 q.2)
    subst e; exact n2 h
  · exact n2 (ltX_trans q h)
omit H in
def sortI (_ : OneK es) (l : List (EnI es)) : List (EnI es) := l.mergeSort fun x y => !ltOf (cmpI es) y x
omit H in
theorem sortI_len (H : OneK es) (l : List (EnI es)) : (sortI H l).length = l.length := List.length_mergeSort l
omit H in
theorem sortI_perm (H : OneK es) (l : List (EnI es)) : (sortI H l).Perm l := List.mergeSort_perm l _
omit H in
theorem sortI_le (H : OneK es) (l : List (EnI es)) : (sortI H l).Pairwise (fun a b => (!ltOf (cmpI es) b a) = true) := by
 refine List.pairwise_mergeSort ?_ ?_ l
 · intro a b c h1 h2
   rw [cmpI_lt] at *
   simp only [Bool.not_eq_true', decide_eq_false_iff_not] at *
   intro h
   rcases ltX_tri b.1 a.1 with q | q | q
   · exact h1 q
   · have e : b = a := Subtype.ext (H _ b.2 _ a.2 q.1 q.2)
     subst e; exact h2 h
   · exact h2 (ltX_trans h q)
 · intro a b
   rw [cmpI_lt, cmpI_lt]
   simp only [Bool.or_eq_true, Bool.not_eq_true', decide_eq_false_iff_not]
   by_cases h : ltX b.1 a.1
   · right
     intro h'
     exact ltX_irrefl _ (ltX_trans h h')
   · exact .inl h
end
theorem sortI_lt {es : List En} (H : OneK es) (l : List (EnI es)) (hn : l.Nodup) : ((sortI H l).map (·.1)).Pairwise ltX := by
 have h2 : (sortI H l).Nodup := (sortI_perm H l).nodup_iff.2 hn
 rw [List.pairwise_map]
 refine ((sortI_le H l).and h2).imp ?_
 rintro a b ⟨h, hne⟩
 rw [cmpI_lt] at h
 simp only [Bool.not_eq_true', decide_eq_false_iff_not] at h
 rcases ltX_tri a.1 b.1 with q | q | q
 · exact q
 · exact absurd (Subtype.ext (H _ a.2 _ b.2 q.1 q.2)) hne
 · exact absurd q h
def toI {es : List En} (l : List En) (h : ∀ x ∈ l, x ∈ es) : List (EnI es) := l.attach.map fun x => ⟨x.1, h x.1 x.2⟩
theorem toI_map {es : List En} (l : List En) (h : ∀ x ∈ l, x ∈ es) : (toI l h).map (·.1) = l := by
 unfold toI
 rw [List.map_map]
 exact List.attach_map_subtype_val l
theorem encI_flat {es : List En} (l : List (EnI es)) : l.flatMap (encI es) = (l.map (·.1)).flatMap En.cells := by
 rw [List.flatMap_map]
 rfl
theorem list1_any (x y : En) (w : World) : Calls Tryz.prog 28 #[x.val, y.val] w fun e w' => e = .returned (.int .i64 (cmpX x y)) ∧ Ext w w' := by
 have hA : At [] w [] w := At.start (L0 := []) trivial
 have hF := hA.facts
 have hcp := fun (w1 : World) => Tryz.strings_Compare x.foot y.foot w1
 have hcc := fun (w1 : World) => compare_u64 x.num y.num w1
 unfold cmpX cbS
 generalize compareBytes x.foot.data.toList y.foot.data.toList = cp at *
 generalize hcs : Lib.compareInt x.num y.num = cs at *
 obtain ⟨f1, n1, ⟨a0, a1, a2, a3, a4, a5, a6, a7⟩⟩ := x
 obtain ⟨f2, n2, ⟨c0, c1, c2, c3, c4, c5, c6, c7⟩⟩ := y
 simp only [En.val] at *
 go_enter Tryz.func28, Tryz.ntmps28
 go_wp2_with (first | ((with_reducible refine gbx ?_); refine wH 42 [.string f1, .int .u64 n1, .int .i64 a0, .int .i64 a1, .int .i64 a2, .int .i64 a3, .int .i64 a4, .int .i64 a5, .int .i64 a6, .int .i64 a7] hA ?_; clear hF hA; intro bX w1 hA hbX hF; (try simp only [uZ] at hA hF)) | ((with_reducible refine gbx ?_); refine wH 42 [.string f2, .int .u64 n2, .int .i64 c0, .int .i64 c1, .int .i64 c2, .int .i64 c3, .int .i64 c4, .int .i64 c5, .int .i64 c6, .int .i64 c7] hA ?_; clear hF hA; intro bY w1 hA hbY hF; (try simp only [uZ] at hA hF)))
 try go_frame
 (refine wp_region_head 14 (Cl _ _ _) (by kernel_rfl) (by kernel_rfl) (Cl.drew hA) ?_); (simp only [List.take_succ_cons, List.take_zero, List.drop_succ_cons, List.drop_zero]); (have hn1 := Cl.none hA); (have hn2 := Cl.none2 hA); (repeat (first | go_big_quiet_skip | (go_big_quiet_want; (first | (refine qL ?_; go_frame; go_big_quiet_on) | (go_big_quiet_op; (first | go_big_quiet_on | ((apply Exists.intro); (refine ⟨fun w1 hw => ?_, ?_⟩); (focus ((have hw := Cl.out hw); (first | exact (hcp _).mono fun _ _ ⟨he, hq⟩ => ⟨he, hq ▸ hw⟩ | exact (hcc _).mono fun _ _ ⟨he, hq⟩ => ⟨he, hq ▸ hw⟩))); (go_big_quiet_on))))))))
 (refine wpQuiet_nil ?_); (intro w1 hB); (clear hF hA hn1 hn2); (have hA := Cl.out hB); (clear hB); have hF := hA.facts; (try simp only [uZ] at hA hF)
 clear hcp hcc
 have hB := hA.alloc [.int .i64 cp, .int .i64 cs] 3
 have hx1 := hA.toExt
 go_wp2_with fail
 refine (or2 cp cs _ _ ?h0 ?h1).mono ?_
 case h0 => exact new_cell _ _ (by simp) _ _ _ _ rfl
 case h1 => exact new_cell _ _ (by simp) _ _ _ _ rfl
 rintro e _ ⟨rfl, rfl⟩
 go_wp2_with fail
 go_ret
 exact ⟨rfl, hx1.alloc _⟩
theorem cmpLaysI {es : List En} [Inhabited (EnI es)] (blk off size : Nat) (w : World) : CmpLays Tryz.prog 28 #[] (encI es) 10 (cmpI es) blk off size w :=
 fun _ _ _ _ x y => Path.calls_grow (list1_any x.1 y.1 _)
def LsRel (p m r : Nat) (es : List En) (w : World) (k : Nat) (v : Value) (wr : World) : Prop :=
 ∃ ds : List En, At [IxP p m es] w [Part.iter Tryz.prog 37 r m (ents es) (ents ds), rowX v ds, headC p m] wr ∧ ds.length + k = es.length ∧ (∀ d ∈ ds, d ∈ es) ∧ (ds = [] → v = .slice none 0 0)
def ListP (w : World) (p m : Nat) (es : List En) (e : Ending) (w' : World) : Prop := ∃ (v : Value) (l : List En), e = .returned v ∧ l.Perm es ∧ l.Pairwise ltX ∧ At [IxP p m es] w [rowX v l, IxP p m es] w'
theorem oneK_of {es : List En} (h : (ents es).Pairwise (fun p q => p.1 ≠ q.1)) : OneK es := by
 intro a ha b hb e1 e2
 obtain ⟨i, hi⟩ := List.mem_iff_getElem?.1 ha
 obtain ⟨j, hj⟩ := List.mem_iff_getElem?.1 hb
 obtain ⟨hi1, hi2⟩ := List.getElem?_eq_some_iff.1 hi
 obtain ⟨hj1, hj2⟩ := List.getElem?_eq_some_iff.1 hj
 have hp := List.pairwise_iff_getElem.1 (List.pairwise_map.1 h)
 have hk : (ent a).1 = (ent b).1 := by unfold ent En.key; rw [e1, e2]
 rcases Nat.lt_trichotomy i j with q | q | q
 · have := hp i j hi1 hj1 q
   rw [hi2, hj2] at this
   exact absurd hk this
 · subst q; rw [hi] at hj; exact Option.some.inj hj
 · have := hp j i hj1 hi1 q
   rw [hi2, hj2] at this
   exact absurd hk.symm this
theorem nodup_of {es : List En} (h : (ents es).Pairwise (fun p q => p.1 ≠ q.1)) : es.Nodup := (List.pairwise_map.1 h).imp (fun q e => q (by rw [e]))
theorem list_any {w : World} {p m : Nat} {es : List En} (h : Sep [IxP p m es] w) (hmax : es.length ≤ 1000000) :
 Calls Tryz.prog 11 #[.pointer (some ⟨p, 0, none⟩)] w (ListP w p m es) := by
 obtain ⟨i0, hi0, hz0, hz1, hz2⟩ := info_parts infoX
 have hA := begin0 h
 have hkeys := MapAt.keys (hA.get (A := mapC m (ents es)) sR)
 have H := oneK_of hkeys
 have hndE := nodup_of hkeys
 have hF := hA.facts; (try simp only [uZ] at hA hF)
 clear h hkeys
 have H' := Lib.hid H
 have hndE' := Lib.hid hndE
 clear H hndE
 go_enter Tryz.func11, Tryz.ntmps11
 go_wp2_with (first | ((with_reducible refine gst ?_); refine wT hA ?_; clear hF hA; intro w1 hA hF; (try simp only [uZ] at hA hF)) | ((with_reducible refine gbx ?_); refine wC hA ?_; clear hF hA; intro b1 w1 hA hb1 hF; (try simp only [uZ] at hA hF)) | (refine wpList_range_at rfl rfl rfl hA sR Tryz.underlying74 ?_; intro r w1 hB hr; clear hF hA; have hA := hB; clear hB; have hF := hA.facts; (try simp only [uZ] at hA hF)))
 try go_frame
 go_loopg [3] es.length (LsRel p m r es w)
 case atStart => exact ⟨[], (rowX_nil hA).pick pZ, by simp, nofun, fun _ => rfl⟩
 case round =>
  obtain ⟨ds, hA2, hk, hds, hnl⟩ := hrel
  have hnl' := Lib.hid hnl
  clear hF hA hnl
  have hA := hA2
  clear hA2
  have hF := hA.facts; (try simp only [uZ] at hA hF)
  go_step
  go_step
  refine wpList_next_at rfl rfl rfl hA sR (fun hp => ?_) (fun q w1 hq hd hB => ?_)
  · have hpm : ds.Perm es := (ents_perm hp).symm
    have hM := At.ranged hA sR
    have hrow := (hM.get (A := rowX u3 ds) sR : World.ownsRow _ _ _ _ _ _ _)
    have hpm' := Lib.hid hpm
    clear hp hpm hF hA
    by_cases hne : ds = []
    · have hv := hnl'.out hne
      subst hne
      subst hv
      have hS := fun (w1 : World) => (AnyF.slices_SortFunc_none Tryz.sort27 none 0 (.func (.func 28) #[] #[]) w1 : Calls Tryz.prog 27 #[.slice none 0 0, .func (.func 28) #[] #[]] w1 fun e w' => e = .returned (.tuple #[]) ∧ w' = w1)
      clear hrow
      have hA := hM
      have hF := hA.facts; (try simp only [uZ] at hA hF)
      go_wp2_with fail
      refine (hS _).mono ?_
      rintro e _ ⟨rfl, rfl⟩
      go_wp2_with fail
      go_ret
      exact ⟨_, [], rfl, hpm'.out, .nil, (fold0 (es := es) hA sZ sZ).pick pZ⟩
    · have hpos : 0 < ds.length := List.length_pos_iff.2 hne
      rcases hrow.2 with ⟨_, hz⟩ | ⟨gb, cap, cur, rfl, hbase, hgb, r1, r2, r3, r4⟩
      · omega
      have hsub : ∀ x ∈ ds, x ∈ es := fun x hx => hpm'.out.mem_iff.1 hx
      have htm := toI_map ds hsub
      obtain ⟨ti, hti⟩ : ∃ ti, toI ds hsub = ti := ⟨_, rfl⟩
      rw [hti] at htm
      have htl : ti.length = ds.length := by rw [← htm]; simp
      have hflat : ti.flatMap (encI es) = ds.flatMap En.cells := by rw [encI_flat, htm]
      have htn : ti.Nodup := by
       have : (ti.map (·.1)).Nodup := by rw [htm]; exact hpm'.out.nodup_iff.2 hndE'.out
       exact (List.pairwise_map.1 this).imp (fun q e => q (by rw [e]))
      haveI : Inhabited (EnI es) := ⟨⟨ds[0]'hpos, hsub _ (List.getElem_mem _)⟩⟩
      have hH : HoldsK (encI es) 10 wr gb 0 ti.toArray := holdsK_of (encI es) 10 encI_len hgb (by rw [htl, hflat]; exact r4)
      have hgl : gb < wr.heap.size := (Array.getElem?_eq_some_iff.1 hgb).1
      have hdl : ds.length ≤ 1000000 := by have := hpm'.out.length_eq; omega
      have hsz : ti.toArray.size < 4611686018427387904 := by simp; omega
      have hS : Calls Tryz.prog 27 #[.slice (some ⟨gb, 0, none⟩) ti.length cap, .func (.func 28) #[] #[]] wr fun e w' => e = .returned (.tuple #[]) ∧ ∃ n os, w' = sortWorldK (encI es) 10 wr gb 0 n (sortI H'.out ti).toArray os :=
       AnyQ.slices_SortFunc_total Tryz.sort27 10 Tryz.isAgg42 Tryz.sizeOf42 (encI es) encI_len encI_one (cmpI es) (swoI H'.out) 28 #[] gb 0 cap ti.toArray wr (enters_of Tryz.func28 (by kernel_rfl) rfl) (cmpLaysI _ _ _ _) hH hgl hsz (totI H'.out)
      rw [htl] at hS
      have htl' := Lib.hid htl
      have hS' := Lib.hid hS
      have hq2 := Lib.hid (show _ ∧ _ ∧ _ ∧ _ ∧ _ from ⟨hgb, r1, r2, r3, hbase⟩)
      clear hrow htl hS hH hgl hsz hflat hti hgb r1 r2 r3 r4 hbase hdl
      have hA := hM
      have hF := hA.facts; (try simp only [uZ] at hA hF)
      go_wp2_with fail
      refine hS'.out.mono ?_
      rintro e _ ⟨rfl, nn, os, rfl⟩
      go_wp2_with fail
      go_ret
      obtain ⟨hgb, r1, r2, r3, hbase⟩ := hq2.out
      have hown := own_sorted (encI es) 10 encI_len (w := wr) (base := 0) (cap := cap) (n := nn) (os := os) (sortI_len H'.out ti) (Nat.zero_le _) hgb (by rw [htl'.out]; exact r1) r2 r3
      have hlt := sortI_lt H'.out ti htn
      have hlp : ((sortI H'.out ti).map (fun x : EnI es => x.1)).Perm ds := by
       have := (sortI_perm H'.out ti).map (fun x : EnI es => x.1)
       rwa [htm] at this
      rw [encI_flat, htl'.out, ← hlp.length_eq] at hown
      generalize (sortI H'.out ti).map (fun x : EnI es => x.1) = l at *
      have hD := hM.turn (A := rowX (.slice (some ⟨gb, 0, none⟩) ds.length cap) ds) sZ (rowX (.slice (some ⟨gb, 0, none⟩) l.length cap) l) hown (fun b hb => .inl hb) (exc_grown (grownBy_sortedK _))
      refine ⟨_, l, ?_, hlp.trans hpm'.out, hlt, (fold0 (es := es) hD sZ sZ).pick pZ⟩
      rw [hlp.length_eq]
      rfl
  · obtain ⟨s, hs, rfl⟩ := List.mem_map.1 hq
    have hI : IterAt Tryz.prog 37 w1 r m (ents es) (ents ds ++ [ent s]) := hB.get (A := Part.iter _ _ r m (ents es) (ents ds ++ [ent s])) sR
    have hen := hI.entry
    have hlen : (ds ++ [s]).length ≤ es.length := by have := hI.len; simpa [ents] using this
    rw [ents_snoc] at hB
    have hin := Lib.hid (show ∀ d ∈ ds ++ [s], d ∈ es from fun d hd => by
     rcases List.mem_append.1 hd with hd | hd
     · exact hds d hd
     · rw [List.mem_singleton.1 hd]; exact hs)
    clear hF hA
    have hA := hB
    have hk' := Lib.hid hk
    simp only [List.length_append, List.length_cons, List.length_nil, Nat.zero_add] at hlen
    clear hI hB hk hds hq hd hs
    simp only [ent, En.key, keyV, A8.val] at hen
    obtain ⟨sf, sn, ⟨c0, c1, c2, c3, c4, c5, c6, c7⟩⟩ := s
    simp only at hen
    have hF := hA.facts; (try simp only [uZ] at hA hF)
    go_wp2_with (first | ((with_reducible refine gal ?_); refine wG 37 [.string .empty, .int .u64 0] hA ?_; clear hF hA; intro bK w1 hA hbK hF; (try simp only [uZ] at hA hF)) | ((with_reducible refine gal ?_); refine wG 40 [.int .i64 0, .int .i64 0, .int .i64 0, .int .i64 0, .int .i64 0, .int .i64 0, .int .i64 0, .int .i64 0] hA ?_; clear hF hA; intro bA w1 hA hbA hF; (try simp only [uZ] at hA hF)) | ((with_reducible refine gst ?_); refine wT hA ?_; clear hF hA; intro w1 hA hF; (try simp only [uZ] at hA hF)) | ((with_reducible refine gbx ?_); refine wC hA ?_; clear hF hA; intro b1 w1 hA hb1 hF; (try simp only [uZ] at hA hF)) | (refine wpList_one_at (e := 42) (vs := En.cells ⟨sf, sn, ⟨c0, c1, c2, c3, c4, c5, c6, c7⟩⟩) rfl rfl (by (try simp only [Act.eval, eV]) <;> exact rfl) (fun _ => by kernel_rfl) hA ?_; intro b2 w1 hB hb2; clear hF hA; have hA := hB; clear hB; have hF := hA.facts; (try simp only [uZ] at hA hF)) | (refine wpList_append_at (e := 42) (size := 10) (v := u3) (xs := ds.flatMap En.cells) (n := ds.length) (m := 1) (news := En.cells ⟨sf, sn, ⟨c0, c1, c2, c3, c4, c5, c6, c7⟩⟩) rfl _ _ 48 rfl Tryz.underlying48 hi0 hz0 hz1 hz2 rfl (by omega) hA sZ (by (try simp only [Act.eval, eV]) <;> exact rfl) (by (try simp only [Act.eval, eV]) <;> exact rfl) rfl (hA.cells_reads sZ _ _) (enL_one _) (by unfold maxLen; omega) (by omega) ?_; intro v1 w1 hB; rw [rowX_snoc] at hB; clear hF hA; have hA := hB; clear hB; have hF := hA.facts; (try simp only [uZ] at hA hF)))
    go_roundg (gk - 1)
    case measure => have := hk'.out; omega
    case rel => exact ⟨ds ++ [⟨sf, sn, ⟨c0, c1, c2, c3, c4, c5, c6, c7⟩⟩], hA.pick pZ, by have := hk'.out; simp; omega, hin.out, fun q => by simp at q⟩
end Go.Proofs.YtgbpfgdjnhbcgaaGreatDoor.Ix
end
section
namespace Go.Proofs.YtgbpfgdjnhbcgaaGreatDoor
open Go.RowKit
theorem setL_mid : ∀ (vs p q r : List Value), q.length = vs.length → setL (p ++ (q ++ r)) p.length vs = p ++ (vs ++ r)
 | [], p, q, r, h => by
  have : q = [] := List.eq_nil_of_length_eq_zero (by simpa using h)
  subst this
  rfl
 | v :: vs, p, [], r, h => by simp at h
 | v :: vs, p, y :: q, r, h => by
  rw [setL]
  have e : (p ++ (y :: q ++ r)).set p.length v = (p ++ [v]) ++ (q ++ r) := by
   rw [List.set_append_right _ _ (Nat.le_refl _)]
   simp
  have := setL_mid vs (p ++ [v]) q r (by simpa using h)
  rw [List.length_append] at this
  rw [e]
  simp only [List.length_cons, List.length_nil, Nat.zero_add] at this
  rw [this]
  simp
theorem flat_set {α : Type} (enc : α → List Value) (size : Nat) (hs : ∀ x, (enc x).length = size) (l : List α) (i : Nat) (hi : i < l.length) (x : α) : setL (l.flatMap enc) (i * size) (enc x) = (l.set i x).flatMap enc := by
 have e1 : l = l.take i ++ l[i] :: l.drop (i + 1) := by rw [← List.drop_eq_getElem_cons hi, List.take_append_drop]
 have hl : (l.take i).length = i := by rw [List.length_take]; omega
 have e2 : l.set i x = l.take i ++ x :: l.drop (i + 1) := by
  rw [List.set_eq_take_append_cons_drop, if_pos hi]
 have e3 : l.flatMap enc = (l.take i).flatMap enc ++ (enc l[i] ++ (l.drop (i + 1)).flatMap enc) := by
  have := congrArg (fun m => m.flatMap enc) e1
  simp only [List.flatMap_append, List.flatMap_cons] at this
  exact this
 have hf : ((l.take i).flatMap enc).length = i * size := by rw [flat_len enc size hs, hl]
 rw [e2, e3, ← hf, setL_mid _ _ _ _ (by rw [hs, hs])]
 simp
theorem take_setL : ∀ (vs c : List Value) (o m : Nat), (setL c o vs).take m = setL (c.take m) o vs
 | [], _, _, _ => rfl
 | v :: vs, c, o, m => by rw [setL, setL, take_setL vs, List.take_set]
theorem write_row {α : Type} {enc : α → List Value} {size : Nat} (hs : ∀ x, (enc x).length = size) {c : List Value} {l : List α} (ht : c.take (l.length * size) = l.flatMap enc) {i : Nat} (hi : i < l.length) (x : α) :
 (setL c (i * size) (enc x)).take ((l.set i x).length * size) = (l.set i x).flatMap enc := by
 rw [List.length_set, take_setL, ht, flat_set enc size hs l i hi]
section
variable {P : Program} {ops : Array Oper} {rest : List Oper} {o : Oper} {a : Act} {Q : Exit → Act → World → Prop} {L0 L F : List Part} {w0 w : World} {e : TypeId}
end
end Go.Proofs.YtgbpfgdjnhbcgaaGreatDoor
end
section
namespace Go.Proofs.YtgbpfgdjnhbcgaaGreatDoor.Wire
open Go.RowKit
def encY (x : Int) : List Value := [.int .u8 x]
abbrev flatY (l : List Int) : List Value := l.flatMap encY
abbrev rowY (v : Value) (l : List Int) : Part := .row 5 1 v l.length (flatY l)
def shortN : Nat → List Int
 | v => if h : v < 128 then [(v : Int)] else ((v % 128 + 128 : Nat) : Int) :: shortN (v / 128)
termination_by v => v
decreasing_by omega
theorem short_lo {v : Nat} (h : v < 128) : shortN v = [(v : Int)] := by rw [shortN, dif_pos h]
theorem short_hi {v : Nat} (h : 128 ≤ v) : shortN v = ((v % 128 + 128 : Nat) : Int) :: shortN (v / 128) := by rw [shortN, dif_neg (by omega)]
def byteN (v k : Nat) : Int := ((v / 2 ^ k % 256 : Nat) : Int)
def fixL (v : Nat) : List Int := [byteN v 56, byteN v 48, byteN v 40, byteN v 32, byteN v 24, byteN v 16, byteN v 8, byteN v 0]
end Go.Proofs.YtgbpfgdjnhbcgaaGreatDoor.Wire
end
section
namespace Go
open _root_.Go.Proofs.YtgbpfgdjnhbcgaaGreatDoor
open Go.RowKit
section
variable {P : Program} {ops : Array Oper} {Q : Exit → Act → World → Prop} {md : Region.Mode} {S : World → Prop} {L0 L F : List Part} {w0 w : World}
theorem wpAnyH_one {i fuel : Nat} {listed : Array Bool} {a : Act} (hr : Region.ready md ops listed = [i]) (h : wpOp P ops Q i (fun a' w' => S w' ∧ wpAnyH P md ops Q S fuel (listed.setIfInBounds i true) a' w') a w) : wpAnyH P md ops Q S (fuel + 1) listed a w :=
 wpAnyH_all hr (by simp) (fun k hk => by rw [List.mem_singleton.1 hk]; exact h)
theorem wpAnyH_two {i j fuel : Nat} {listed : Array Bool} {a : Act} (hr : Region.ready md ops listed = [i, j]) (h1 : wpOp P ops Q i (fun a' w' => S w' ∧ wpAnyH P md ops Q S fuel (listed.setIfInBounds i true) a' w') a w)
 (h2 : wpOp P ops Q j (fun a' w' => S w' ∧ wpAnyH P md ops Q S fuel (listed.setIfInBounds j true) a' w') a w) : wpAnyH P md ops Q S (fuel + 1) listed a w :=
 wpAnyH_all hr (by simp) (fun k hk => by
  rcases List.mem_cons.1 hk with rfl | hk
  · exact h1
  · rw [List.mem_singleton.1 hk]; exact h2)
theorem wpAnyH_takeD {i : Nat} {oi : Oper} {v : Value} {d : Option Tmp} {fuel : Nat} {listed : Array Bool} {a : Act} (hi : ops[i]? = some oi) (hd : oi.dst = d)
 (hs : Region.noSelect ops = true) (hf : Region.free md ops listed i = true) (hr : (Region.ready md ops listed).contains i = true)
 (hQ : ∀ c a w, Q (.panic c) (a.put oi.dst v) w → Q (.panic c) a w) (hw : Region.wanted oi (yielded ops a.tmps) = true) (hrun : ∀ w, S w → (execOp a.eval oi).run P w = .ok (.value v) w) (hS : S w)
 (h : wpAnyH P md ops Q S fuel (listed.setIfInBounds i true) (a.put d v) w) : wpAnyH P md ops Q S (fuel + 1) listed a w := by
 subst hd
 exact wpAnyH_take hi hs hf hr hQ (.inl ⟨hw, hrun⟩) hS h
theorem opOne_at {i : Nat} {d : Option Tmp} {o : Oper} {a : Act} {K : Act → World → Prop} {t : TypeId} {x : Operand} {e : TypeId} (ho : ops[i]? = some o) (hd : o.dst = d) (hw : Region.wanted o (yielded ops a.tmps) = true) (hop : o.op = .buildSlice t 1 #[(0, x)]) {xv : Value} (hx : a.eval x = xv) {vs : List Value}
 (hrun : ∀ w, (Instr.buildSlice t 1 #[(0, xv)]).run P w = .ok (.slice (some ⟨w.heap.size, 0, none⟩) 1 1) (w.alloc (.cells vs.toArray e))) (h : At L0 w0 L w)
 (hK : ∀ b w', At L0 w0 (Part.cells b vs e :: L) w' → K (a.put d (.slice (some ⟨b, 0, none⟩) 1 1)) w') : wpOp P ops Q i K a w := by
 subst hd
 exact wpOp_val ho hw (v := .slice (some ⟨w.heap.size, 0, none⟩) 1 1) (w' := w.alloc (.cells vs.toArray e)) (by simp [execOp, hop, hx, hrun, Result.andThen]) (hK _ _ (h.alloc vs e))
theorem opAppend_at {k : Nat} {d : Option Tmp} {o : Oper} {a : Act} {K : Act → World → Prop} {e : TypeId} {size n : Nat} {v : Value} {xs : List Value} {i : TypeInfo} {z : Value} {bytes : Nat} (hok : ops[k]? = some o) (hd : o.dst = d) (hw : Region.wanted o (yielded ops a.tmps) = true) (hg : o.guard = none) (s' x : Operand) (t : TypeId) (ho : o.op = .call { callee := .builtin .append, args := #[s', x], argTypes := #[t, t] })
 (ht : P.underlying t = some (.slice e)) (hi : P.info? e = some i) (hz : i.zero = some z) (hsize : i.size = size) (hby : i.bytes = bytes) (hzs : z.cells.size = size) (hsz : 0 < size)
 (h : At L0 w0 L w) (s : Sel (Part.row e size v n xs) L F) (hs : a.eval s' = v) {xv : Value} {m : Nat} {news : List Value} (hxv : a.eval x = xv) (hl : news.length = m * size) (hx : Reads w xv m news) (h1 : ∀ u ∈ news, u.oneCell' = true)
 (h63 : n + m ≤ maxLen) (hbytes : (n + m) * bytes ≤ 140737488355328)
 (hK : ∀ v' w', At L0 w0 (Part.row e size v' (n + m) (xs ++ news) :: F) w' → K (a.put d v') w') : wpOp P ops Q k K a w := by
 subst hd
 have hst := step_append_all w (K := K) (Q := Q) (E := True) (ops := ops) (a := a) (o := o) hg s' x t ho 0 e i z size bytes ht hi hz hsize hby hzs hsz v n xs hs (h.get s) xv m news hxv hl hx h1 h63 hbytes (Nat.zero_le _) (fun v' w' h2 h3 h4 =>
  hK v' w' (h.turn s _ h2 (fun b hb => by
   rcases h4 with h4 | h4
   · exact .inl (show v.ownBlock = some b from by rw [← h4]; exact hb)
   · right
     have hb' : v'.ownBlock = some b := hb
     rw [h4] at hb'
     cases hb'
     exact Nat.le_refl _) (exc_grown h3)))
 rw [if_pos hw] at hst
 unfold wpOp
 simp only [hok, hw, if_true]
 exact .inl hst
theorem opCall_at {i : Nat} {d : Option Tmp} {o : Oper} {a : Act} {K : Act → World → Prop} (ho : ops[i]? = some o) (hd : o.dst = d) (hw : Region.wanted o (yielded ops a.tmps) = true) {fn : FuncId} {args : Array Value} (hrun : (execOp a.eval o).run P w = .ok (.enter fn args) w)
 {R : Value → World → Prop} (hc : Calls P fn args w fun e w' => ∃ u, e = .returned u ∧ R u w') (hK : ∀ u w', R u w' → K (a.put d u) w') : wpOp P ops Q i K a w := by
 subst hd
 exact wpOp_call ho hw hrun hc (fun e w' ⟨u, he, hr⟩ => ⟨u, he, hK u w' hr⟩)
theorem opStore_at {i : Nat} {o : Oper} {a : Act} {K : Act → World → Prop} (ho : ops[i]? = some o) (hd : o.dst = none) (hw : Region.wanted o (yielded ops a.tmps) = true) {ty : TypeId} {x y : Operand} (hop : o.op = .store ty x y) {b j : Nat} (hx : a.eval x = .pointer (some ⟨b, j, none⟩)) {v : Value} (hy : a.eval y = v) {vs : List Value} (hv : v.cells = vs.toArray)
 (h : At L0 w0 L w) {c : List Value} {T : TypeId} (s : Sel (Part.cells b c T) L F) (hi : (P.info? ty).map (·.size) = some vs.length) (h1 : vs.all (·.oneCell') = true) (hj : j + vs.length ≤ c.length)
 (hK : ∀ w', At L0 w0 (Part.cells b (setL c j vs) T :: F) w' → K (a.put none undef) w') : wpOp P ops Q i K a w := by
 have hb : BlockIs w b c T := h.get s
 have hs : v.cells.size = vs.length := by rw [hv]; simp
 have h1' : v.cells.all (·.oneCell') = true := by
  rw [hv, Array.all_eq_true_iff_forall_mem]
  intro u hu
  exact List.all_eq_true.1 h1 u (by simpa using hu)
 have hrun := run_storeAt_cells (P := P) w b j ty v (hb.there j _ (by omega)) (by rw [hs]; exact hi) h1'
 rw [show v.cells.toList = vs from by rw [hv]] at hrun
 refine wpOp_unit ho hw (w' := _) ?_ (by rw [hd]; exact hK _ (h.stores s j vs))
 simp [execOp, hop, hx, hy, hrun, Result.andThen]
end
end Go
end
section
namespace Go
open _root_.Go.Proofs.YtgbpfgdjnhbcgaaGreatDoor
open Go.RowKit
theorem tZ {P : Program} {ops : Array Oper} {Q : Exit → Act → World → Prop} {md : Region.Mode} {S : World → Prop} {w : World} {fuel : Nat} {listed : Array Bool} {a : Act} {oi : Oper} (i d : Nat) (v : Value) (hi : ops[i]? = some oi := by exact rfl) (hd : oi.dst = some d := by exact rfl) (hs : Region.noSelect ops = true := by kernel_rfl) (hf : Region.free md ops listed i = true := by kernel_rfl) (hr : (Region.ready md ops listed).contains i = true := by kernel_rfl) (hQ : ∀ c a w, Q (.panic c) (a.put oi.dst v) w → Q (.panic c) a w := by exact fun _ _ _ h => h) (hw : Region.wanted oi (yielded ops a.tmps) = true := by exact rfl) (r : ∀ w, S w → (execOp a.eval oi).run P w = .ok (.value v) w) (s : S w) (h : wpAnyH P md ops Q S fuel (listed.setIfInBounds i true) (a.put (some d) v) w) : wpAnyH P md ops Q S (fuel + 1) listed a w := wpAnyH_takeD hi hd hs hf hr hQ hw r s h
end Go
end
section
namespace Go
open _root_.Go.Proofs.YtgbpfgdjnhbcgaaGreatDoor
open Go.RowKit
end Go
end
