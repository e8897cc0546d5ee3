/- Drawn, PathO, LockL, LockLa, LockLb, EncB, TakB, TakC, TakD, joined. -/
import Derived.Lone
import Derived.RunT
import Derived.Calls
import Derived.Test.YtpebabaigakagaaGreatDoorP30
import Derived.Lib.QuietBelow
import Derived.Sort.Grow
import Derived.Test.YtpebabaigakagaaGreatDoorP21
import Derived.Test.YtpebabaigakagaaGreatDoorP29
import Derived.Test.YtpebabaigakagaaGreatDoorP19
import Derived.Test.YtpebabaigakagaaGreatDoorP20
import Derived.Test.YtpebabaigakagaaGreatDoorP28
import Derived.Test.YtpebabaigakagaaGreatDoorP9
set_option linter.unusedSimpArgs false
set_option linter.unusedVariables false
set_option maxRecDepth 100000
set_option maxHeartbeats 16000000
section
namespace Go.Proofs.YtpebabaigakagaaGreatDoor
def resW {α : Type} : Result α → World
 | .ok _ w => w
 | .halt _ w => w
theorem ask_drawn {α : Type} : ∀ (x : Ask α) (w : World), w.drawn ≤ (w.ask x).2.drawn
 | .done a, w => Nat.le_refl _
 | .ask what range k, w => by
  unfold World.ask
  simp only []
  split
  · exact ask_drawn _ _
  · exact Nat.le_trans (Nat.le_succ _) (ask_drawn _ { w with drawn := w.drawn + 1 })
theorem sys_drawn (w : World) (c : Sys) : w.drawn ≤ (w.sys c).2.drawn := by
 unfold World.sys
 have h := ask_drawn (Kernel.perform c w.os) w
 split
 · exact Nat.le_refl _
 · rename_i he
   rw [he] at h
   exact h
theorem viewStore_drawn {p : Program} {w : World} {at_ : Addr} {u : TypeId} {k : Addr} {v : Value} {atomic : Bool} {r : World × List Addr} (h : w.viewStore p at_ u k v atomic = .ok r) : r.1.drawn = w.drawn := by
 unfold World.viewStore at h
 simp only [bind, Except.bind, pure, Except.pure, throw, throwThe, MonadExceptOf.throw] at h
 repeat' first
  | (cases h; done)
  | (cases h; rfl)
  | (simp at h; done)
  | split at h
theorem farStore_drawn {p : Program} {w : World} {a : Addr} {v : Value} {atomic : Bool} {r : World × List Addr} (h : w.farStore p a v atomic = .ok r) : r.1.drawn = w.drawn := by
 unfold World.farStore at h
 split at h
 · split at h
   · rename_i hv
     cases h
     exact viewStore_drawn hv
   · exact nomatch h
 · exact nomatch h
theorem run_drawn {α : Type} (p : Program) (x : Sem α) : ∀ w : World, w.drawn ≤ (resW (x.run p w)).drawn := by
 induction x with
 | pure a => exact fun w => Nat.le_refl _
 | load m a k ih =>
  intro w
  simp only [Sem.run]
  split
  · exact ih _ _
  · split
    · exact ih _ _
    · exact Nat.le_refl _
 | store m a v k ih =>
  intro w
  cases v
  all_goals
   simp only [Sem.run]
   try exact Nat.le_refl _
  all_goals
   split
   · split
     · exact Nat.le_refl _
     · exact ih (w.setCell a _)
   · split
     · rename_i hf
       exact Nat.le_trans (Nat.le_of_eq (farStore_drawn hf).symm) (ih _)
     · exact Nat.le_refl _
 | new o k ih => intro w; exact ih _ { w with heap := w.heap.push o }
 | shape r k ih => intro w; exact ih _ _
 | freeze a n k ih =>
  intro w
  refine Nat.le_trans (Nat.le_of_eq ?_) (ih (w.freeze a n))
  unfold World.freeze
  split <;> rfl
 | frozen a k ih => intro w; exact ih _ _
 | getObj r k ih =>
  intro w
  simp only [Sem.run]
  split
  · exact Nat.le_refl _
  · exact ih _ _
  · exact Nat.le_refl _
 | setObj r o k ih =>
  intro w
  simp only [Sem.run]
  split
  · exact Nat.le_refl _
  · exact ih { w with heap := w.heap.setIfInBounds r o }
  · exact Nat.le_refl _
 | choose q k ih =>
  intro w
  simp only [Sem.run]
  split
  · exact ih _ _
  · exact Nat.le_trans (Nat.le_succ _) (ih _ { w with drawn := w.drawn + 1 })
 | sys c k ih => intro w; exact Nat.le_trans (sys_drawn w c) (ih _ _)
 | program k ih => intro w; exact ih _ _
 | mark m k ih => intro w; exact ih _
 | halt h => exact fun w => Nat.le_refl _
theorem run_ok {α : Type} {p : Program} {x : Sem α} {w w' : World} {a : α} (h : x.run p w = .ok a w') : w.drawn ≤ w'.drawn := by
 have := run_drawn p x w
 rw [h] at this
 exact this
theorem run_halt {α : Type} {p : Program} {x : Sem α} {w w' : World} {a : Halt} (h : x.run p w = .halt a w') : w.drawn ≤ w'.drawn := by
 have := run_drawn p x w
 rw [h] at this
 exact this
theorem runT_ok {α : Type} {p : Program} {x : Sem α} {w w' : World} {a : α} {es es' : Array Event} (h : x.runT p w es = (.ok a w', es')) : w.drawn ≤ w'.drawn :=
 run_ok (p := p) (x := x) (by rw [← Sem.runT_fst p x w es, h])
theorem runT_halt {α : Type} {p : Program} {x : Sem α} {w w' : World} {a : Halt} {es es' : Array Event} (h : x.runT p w es = (.halt a w', es')) : w.drawn ≤ w'.drawn :=
 run_halt (p := p) (x := x) (by rw [← Sem.runT_fst p x w es, h])
def gw : GStep → World
 | .go _ w _ => w
 | .comm _ _ _ _ w _ => w
 | .spawn _ _ w _ => w
 | .count _ w _ => w
 | .timer _ _ w _ => w
 | .alone _ _ w _ => w
 | .newcoro _ _ _ w _ => w
 | .coroswitch _ _ _ w _ => w
 | .collect _ w _ => w
 | .watch _ w _ => w
 | .ended _ w _ => w
theorem gw_after (es : Array Event) (s : GStep) : gw (GStep.after es s) = gw s := by cases s <;> rfl
theorem le_ite {c : Prop} [Decidable c] {a b : GStep} {n : Nat} (h1 : n ≤ (gw a).drawn) (h2 : n ≤ (gw b).drawn) : n ≤ (gw (if c then a else b)).drawn := by split <;> assumption
theorem endWith_drawn (w : World) (fd : Nat) (text : ByteArray) (o : Outcome) : w.drawn ≤ (gw (endWith w fd text o)).drawn := by
 unfold endWith
 have h := sys_drawn w (.write fd text)
 simp only []
 split
 · rename_i he
   rw [he] at h
   split <;> exact h
 · rename_i he
   rw [he] at h
   exact h
 · rename_i he
   rw [he] at h
   exact h
theorem dieOf_drawn (fr : Frame) (a : List ByteArray) (m : String) (wh : Bool) (w : World) : gw (dieOf fr a m wh w) = w := rfl
theorem endThrow_drawn (fr : Frame) (m : String) (w : World) : gw (endThrow fr m w) = w := rfl
theorem endPrinting_drawn (p : Program) (fr : Frame) (v : Value) (w : World) : gw (endPrinting p fr v w) = w := by
 unfold endPrinting
 simp only []
 split
 · exact endThrow_drawn _ _ _
 · rfl
theorem endFatal_drawn (p : Program) (fr : Frame) (cs : List Frame) (d : Option Dying) (m : String) (w : World) : w.drawn ≤ (gw (endFatal p fr cs d m w)).drawn := by
 unfold endFatal
 simp only []
 split
 · rename_i h; rw [dieOf_drawn]; exact run_ok h
 · rename_i h; exact run_halt h
 · rename_i h; exact run_halt h
theorem writeOn_drawn (p : Program) (fr : Frame) (d : Dying) (f : Fatal) (w : World) : w.drawn ≤ (gw (writeOn p fr d f w)).drawn := by
 unfold writeOn
 simp only []
 split
 · exact Nat.le_refl _
 · split
   · rename_i h; exact runT_ok h
   · rename_i h; exact runT_halt h
   · rename_i h; exact runT_halt h
   · rename_i h; exact runT_halt h
theorem die_drawn (p : Program) (fr : Frame) (d : Dying) (w : World) : w.drawn ≤ (gw (die p fr d w)).drawn := by
 unfold die
 split
 · exact writeOn_drawn _ _ _ _ _
 · split
   · split
     · exact Nat.le_refl _
     · exact endWith_drawn _ _ _ _
   · simp only []
     split
     · exact Nat.le_refl _
     · split
       · rename_i h; exact run_ok h
       · rename_i h; exact run_halt h
     · rw [gw_after]
       simp only [Sem.runT_fst]
       split
       all_goals first
        | exact Nat.le_refl _
        | (rename_i h; exact run_ok h)
        | (rename_i h; exact run_halt h)
        | (rename_i h; rw [endPrinting_drawn]; exact run_halt h)
     · exact Nat.le_refl _
theorem doReturn_drawn (p : Program) (main : Bool) (fr : Frame) (cs : List Frame) (d : Option Dying) (v : Value) (w : World) : gw (doReturn p main fr cs d v w) = w := by
 unfold doReturn
 repeat' first
  | rfl
  | split
  | simp only []
theorem callDeferred_drawn (p : Program) (fr : Frame) (cs : List Frame) (dy : Option Dying) (d : Deferred) (w : World) : w.drawn ≤ (gw (callDeferred p fr cs dy d w)).drawn := by
 unfold callDeferred
 refine le_ite (Nat.le_refl _) ?_
 · simp only []
   rw [gw_after]
   simp only [Sem.runT_fst]
   split
   all_goals first
    | (rename_i h; exact run_ok h)
    | (rename_i h; exact run_halt h)
    | (rename_i h; exact Nat.le_trans (run_halt h) (endFatal_drawn _ _ _ _ _ _))
    | (rename_i h; rw [endThrow_drawn]; exact run_halt h)
    | (rename_i h; split <;> exact run_ok h)
theorem unwind_drawn (p : Program) (main : Bool) (fr : Frame) (cs : List Frame) (dy : Option Dying) (w : World) : w.drawn ≤ (gw (unwind p main fr cs dy w)).drawn := by
 unfold unwind
 split
 · simp only []
   rw [gw_after]
   simp only [Sem.runT_fst]
   split
   · rename_i h; exact run_ok h
   · rename_i h; exact run_halt h
 · exact callDeferred_drawn _ _ _ _ _ _
 · split
   · exact Nat.le_refl _
   · split
     · exact Nat.le_refl _
     · split
       · exact Nat.le_refl _
       · split
         · split
           · exact Nat.le_refl _
           · split
             all_goals (rename_i h; first | exact run_ok h | exact run_halt h)
         · split
           · rw [endPrinting_drawn]; exact Nat.le_refl _
           · exact Nat.le_refl _
   · split
     · rw [doReturn_drawn]; exact Nat.le_refl _
     · simp only []
       rw [gw_after]
       simp only [Sem.runT_fst]
       split
       · rename_i h; rw [doReturn_drawn]; exact run_ok h
       · rename_i h; exact run_halt h
       · rename_i h; exact run_halt h
theorem early_drawn (p : Program) (fr : Frame) (cs : List Frame) (dy : Option Dying) (g : Nat) (w : World) : w.drawn ≤ (gw (early p fr cs dy g w)).drawn := by
 have key : ∀ w1 : World, w.drawn ≤ w1.drawn → w.drawn ≤ (gw (match w1.heap[g]? with
  | some (.pending c elem) => GStep.go { frame := fr, callers := cs, status := .running, dying := dy } { w1 with heap := w1.heap.setIfInBounds g (.cells c elem) }
  | _ => .ended (.stuck "early: the variable does not wait" (fr.pos p)) w1)).drawn := by
  intro w1 h
  split <;> exact h
 unfold early
 simp only []
 split
 · exact key w (Nat.le_refl _)
 · split
   · exact Nat.le_refl _
   · split
     · exact key w (Nat.le_refl _)
     · split
       · exact key w (Nat.le_refl _)
       · split
         · exact Nat.le_refl _
         · exact Nat.le_refl _
         · exact Nat.le_refl _
         · exact key w (Nat.le_refl _)
         · split
           · exact Nat.le_refl _
           · split
             · exact key w (Nat.le_refl _)
             · split
               · rename_i h; exact key _ (run_ok h)
               · rename_i h; exact run_ok h
               · rename_i h; exact run_halt h
theorem apply_drawn (p : Program) (listen : Bool) (fr : Frame) (cs : List Frame) (dy : Option Dying) (x : Sem Next) (w : World) : w.drawn ≤ (gw (stepG.apply p listen fr cs dy x w)).drawn := by
 unfold stepG.apply
 simp only []
 rw [gw_after]
 have hr : ∀ r es, (if listen = true then x.runT p w #[] else (x.run p w, #[])) = (r, es) → x.run p w = r := by
  intro r es h
  split at h
  · rw [← Sem.runT_fst p x w #[], h]
  · exact congrArg Prod.fst h
 generalize hq : (if listen = true then x.runT p w #[] else (x.run p w, #[])) = q at *
 obtain ⟨r, es⟩ := q
 have h0 := hr r es rfl
 clear hr hq
 simp only []
 split
 all_goals first
  | (subst_vars; exact run_ok ‹_›)
  | (exact run_ok h0)
  | (exact run_halt h0)
  | (exact Nat.le_trans (run_halt h0) (endFatal_drawn _ _ _ _ _ _))
  | (exact Nat.le_trans (run_halt h0) (early_drawn _ _ _ _ _ _))
  | (rw [endThrow_drawn]; exact run_halt h0)
  | (refine le_ite ?_ (run_ok h0); rw [endThrow_drawn]; exact run_ok h0)
  | (split <;> first | exact run_ok h0 | (rw [endThrow_drawn]; exact run_ok h0))
theorem oper_drawn (p : Program) (listen : Bool) (fr : Frame) (cs : List Frame) (dy : Option Dying) (w : World) : w.drawn ≤ (gw (stepG.oper p listen fr cs dy w)).drawn := by
 unfold stepG.oper
 split
 · exact Nat.le_refl _
 · split
   · exact apply_drawn _ _ _ _ _ _ _
   · exact apply_drawn _ _ _ _ _ _ _
theorem exec_drawn (p : Program) (main listen : Bool) (fr : Frame) (cs : List Frame) (dy : Option Dying) (w : World) : w.drawn ≤ (gw (stepG.exec p main listen fr cs dy w)).drawn := by
 unfold stepG.exec
 simp only []
 split
 all_goals first
  | exact Nat.le_refl _
  | exact apply_drawn _ _ _ _ _ _ _
  | (split; exact le_ite (Nat.le_refl _) (Nat.le_refl _); (rw [gw_after]; simp only [Sem.runT_fst]; split; (rename_i h; rw [doReturn_drawn]; exact run_ok h); (rename_i h; exact run_halt h)))
  | (split <;> exact Nat.le_refl _)
  | (generalize exitTo _ _ = o; cases o; (simp only [Option.elim_none]; (split; exact le_ite (Nat.le_refl _) (Nat.le_refl _); (rw [gw_after]; simp only [Sem.runT_fst]; split; (rename_i h; rw [doReturn_drawn]; exact run_ok h); (rename_i h; exact run_halt h)))); exact Nat.le_refl _)
  | (generalize gotoIn _ _ = o; cases o; (simp only [Option.elim_none]; (split; exact le_ite (Nat.le_refl _) (Nat.le_refl _); (rw [gw_after]; simp only [Sem.runT_fst]; split; (rename_i h; rw [doReturn_drawn]; exact run_ok h); (rename_i h; exact run_halt h)))); exact Nat.le_refl _)
  | (generalize Extern.next _ = o; cases o; exact Nat.le_refl _; exact apply_drawn _ _ _ _ _ _ _)
  | (refine le_ite (oper_drawn _ _ _ _ _ _) (Nat.le_refl _))
  | (refine le_ite (Nat.le_refl _) ?_; split; (rename_i h; exact run_ok h); (rename_i h; exact run_halt h))
  | (rw [gw_after]; simp only [Sem.runT_fst]; split; (rename_i h; exact Nat.le_trans (run_ok h) (apply_drawn _ _ _ _ _ _ _)); (rename_i h; exact run_halt h))
  | (rw [gw_after]; simp only [Sem.runT_fst]; split; (rename_i h; exact run_ok h); (rename_i h; exact run_halt h); (rename_i h; exact run_halt h))
theorem stepG_drawn (p : Program) (main : Bool) (g : Goroutine) (w : World) (listen : Bool) : w.drawn ≤ (gw (stepG p main g w listen)).drawn := by
 unfold stepG
 simp only []
 split
 · exact die_drawn _ _ _ _
 · exact exec_drawn _ _ _ _ _ _ _
 · exact unwind_drawn _ _ _ _ _ _
theorem communicate_drawn (p : Program) (rest : Rest) (gs : Array Goroutine) (i : Nat) (g : Goroutine) (cases : Array CommCase) (blocking : Bool)
 (shape : CommShape) (w : World) (m' : Machine) (h : (communicate p rest gs i g cases blocking shape w).1 = .next m') : w.drawn ≤ m'.world.drawn := by
 have wa : ∀ w1, waitingAt rest cases w = some w1 → w1.drawn = w.drawn := by
  intro w1 hw
  unfold waitingAt at hw
  split at hw
  · split at hw
    · cases hw; rfl
    · cases hw
  · cases hw; rfl
 unfold communicate at h
 simp only [] at h
 split at h
 · simp at h
 · split at h
   · split at h
     · split at h
       · simp only [Stepped.next.injEq] at h; subst h; exact Nat.le_of_eq (wa _ ‹_›).symm
       · simp at h
     · simp only [Stepped.next.injEq] at h; subst h; exact Nat.le_refl _
   · generalize hq : Sem.run p _ w = q at h
     cases q with
     | halt a w1 => simp at h
     | ok a w1 =>
      obtain ⟨k, c, way⟩ := a
      have h1 := run_ok hq
      clear hq
      simp only [] at h
      repeat' first
       | (simp at h; done)
       | (simp only [Stepped.next.injEq] at h; subst h; exact h1)
       | (simp only [Stepped.next.injEq] at h; subst h; exact Nat.le_trans h1 (run_ok ‹_›))
       | (simp only [Stepped.next.injEq] at h; subst h; exact Nat.le_trans h1 (run_halt ‹_›))
       | (generalize hq : Sem.run p (choose _) _ = q at h; cases q; (have h2 := Nat.le_trans h1 (run_ok hq); clear hq; simp only [Stepped.next.injEq] at h; subst h; exact h2); (simp at h; done))
       | split at h
theorem look_drawn (p : Program) (gs : Array Goroutine) (rest : Rest) (w : World) (m' : Machine) (h : look p gs rest w = .next m') : w.drawn ≤ m'.world.drawn := by
 unfold look at h
 simp only [] at h
 split at h
 · split at h
   · simp at h
   · split at h
     · simp at h
     · generalize hq : Sem.run p _ w = q at h
       cases q with
       | halt a w1 =>
        clear hq
        cases a <;> simp at h
       | ok a w1 =>
        obtain ⟨f, c⟩ := a
        have h1 := run_ok hq
        clear hq
        simp only [Stepped.next.injEq] at h
        subst h
        exact h1
 · simp at h
theorem timerOp_drawn (m m' : Machine) (op : TimerOp) (v : Value) (h : timerOp m op = .ok (v, m')) : m'.world.drawn = m.world.drawn := by
 have op_ : ∀ var m1, timerOp.opened m var = some m1 → m1.world.drawn = m.world.drawn := by
  intro var m1 ho
  unfold timerOp.opened at ho
  split at ho
  · split at ho
    · cases ho; rfl
    · cases ho
  · cases ho; rfl
 have rt : ∀ (m1 : Machine) k t a b, (retime m1 k t a b).2.world.drawn = m1.world.drawn := by
  intro m1 k t a b
  unfold retime
  simp only []
  split
  · unfold drain
    split <;> rfl
  · rfl
 have nm : ∀ (m1 : Machine) var f (r : Value × Machine), (∀ k t, (f k t).2.world.drawn = m1.world.drawn) → timerOp.named m1 var f = .ok r → r.2.world.drawn = m1.world.drawn := by
  intro m1 var f r hf hr
  unfold timerOp.named at hr
  split at hr
  · cases hr; exact hf _ _
  · cases hr
 unfold timerOp at h
 repeat' first
  | (simp at h; done)
  | (simp only [Except.ok.injEq, Prod.mk.injEq] at h; obtain ⟨_, rfl⟩ := h; rfl)
  | (exact nm _ _ _ (v, m') (fun _ _ => rt _ _ _ _ _) h)
  | (rename_i ho; exact nm _ _ _ (v, m') (fun _ _ => (rt _ _ _ _ _).trans (op_ _ _ ho)) h)
  | split at h
theorem runT_drawn (p : Program) (m m' : Machine) (i : Nat) (b : Bool) (h : (runT p m i b).1 = .next m') : m.world.drawn ≤ m'.world.drawn := by
 simp only [runT] at h
 have hs := stepG_drawn p (i == 0) (m.gs.swapAt! i { (default : Goroutine) with status := .finished }).1 m.world b
 revert hs h
 generalize m.gs.swapAt! _ _ = gg
 generalize stepG p _ gg.1 m.world b = s
 intro h hs
 cases s <;> simp only [gw] at h hs
 all_goals first
  | (simp at h; done)
  | (exact Nat.le_trans hs (communicate_drawn _ _ _ _ _ _ _ _ _ _ h))
  | (exact Nat.le_trans hs (look_drawn _ _ _ _ _ h))
  | (simp only [Stepped.next.injEq] at h; subst h; exact hs)
  | (repeat' first
      | (simp at h; done)
      | (simp only [Stepped.next.injEq] at h; subst h; exact hs)
      | (simp only [Stepped.next.injEq] at h; subst h; exact Nat.le_trans hs (Nat.le_of_eq (timerOp_drawn _ _ _ _ ‹_›).symm))
      | (rename_i he; unfold endThrow dieOf at he; simp only [GStep.go.injEq] at he; obtain ⟨_, rfl, _⟩ := he; simp only [Stepped.next.injEq] at h; subst h; exact hs)
      | split at h)
theorem serve_drawn (p : Program) (m m' : Machine) (k : Nat) (h : serve p m k = .next m') : m'.world.drawn = m.world.drawn := by
 unfold serve at h
 simp only [] at h
 repeat' first
  | (simp at h; done)
  | (simp only [Stepped.next.injEq] at h; subst h; rfl)
  | split at h
def mvW : Move → Option World
 | .goroutine m _ => some m.world
 | .machine (.next m) _ => some m.world
 | .machine (.ended _ _) _ => none
theorem askOn_drawn (p : Program) (m : Machine) (w' : World) (h : mvW (askOn p m) = some w') : m.world.drawn ≤ w'.drawn := by
 unfold askOn at h
 simp only [] at h
 generalize hq : Sem.run p _ m.world = q at h
 cases q with
 | halt a w1 => simp [mvW] at h
 | ok k w1 =>
  have h1 : m.world.drawn ≤ w1.drawn := run_ok hq
  clear hq
  have pick : ∀ (m1 : Machine) (rs : List Nat) (w2 : World), m.world.drawn ≤ m1.world.drawn → mvW (match (choose (.sched rs.length)).run p m1.world with
   | .halt _ w => Move.machine (.ended (.stuck "sched" "") w)
   | .ok k world =>
    if rs.length ≤ 1 then .goroutine { m1 with world } (rs.getD k 0) else
    match (choose (.extern "sched.slice" 65536)).run p world with
    | .halt _ w => .machine (.ended (.stuck "sched.slice" "") w)
    | .ok n world => .goroutine { m1 with world, rest := { m1.rest with slice := if n = 0 then none else some (rs.getD k 0, n) } } (rs.getD k 0)) = some w2 → m.world.drawn ≤ w2.drawn := by
   intro m1 rs w2 h0 hm
   generalize hr : Sem.run p (choose (.sched rs.length)) m1.world = r at hm
   cases r with
   | halt a w3 => simp [mvW] at hm
   | ok k w3 =>
    have h2 := run_ok hr
    simp only [] at hm
    split at hm
    · simp only [mvW, Option.some.injEq] at hm; subst hm; exact Nat.le_trans h0 h2
    · generalize hs : Sem.run p (choose (.extern "sched.slice" 65536)) w3 = r at hm
      cases r with
      | halt a w4 => simp [mvW] at hm
      | ok n w4 =>
       have h3 := run_ok hs
       simp only [mvW, Option.some.injEq] at hm
       subst hm
       exact Nat.le_trans h0 (Nat.le_trans h2 h3)
  dsimp only at h
  split at h
  · generalize hs : serve p _ _ = s at h
    cases s with
    | next m2 =>
     simp only [mvW, Option.some.injEq] at h
     subst h
     rw [serve_drawn _ _ _ _ hs]
     exact h1
    | ended o w2 => simp [mvW] at h
  · split at h
    · split at h
      · simp only [mvW, Option.some.injEq] at h; subst h; exact h1
      · split at h
        · simp only [mvW, Option.some.injEq] at h; subst h; exact h1
        · split at h <;> simp [mvW] at h
    · split at h
      · exact pick { m with world := w1 } (runnable m.gs m.world.os.mono) _ h1 h
      · generalize hs : Sem.run p (choose (.extern "clock.wait" _)) w1 = s at h
        cases s with
        | halt a w2 => simp [mvW] at h
        | ok k w2 =>
         have h2 := run_ok hs
         rcases k with _ | _ | k
         · exact pick { m with world := w2 } _ _ (Nat.le_trans h1 h2) h
         · simp only [mvW, Option.some.injEq] at h; subst h; exact Nat.le_trans h1 h2
         · exact pick (Machine.advanceTo { m with world := w2 } _) _ _ (Nat.le_trans h1 h2) h
theorem ask_drawn' (p : Program) (m : Machine) (w' : World) (h : mvW (ask p m) = some w') : m.world.drawn ≤ w'.drawn := by
 unfold ask at h
 split at h
 · generalize hs : Sem.run p (choose (.extern "collector.look" 2)) m.world = s at h
   cases s with
   | halt a w2 => simp [mvW] at h
   | ok k w2 =>
    have h2 := run_ok hs
    rcases k with _ | _ | k
    · exact Nat.le_trans h2 (askOn_drawn p { m with world := w2 } w' h)
    · simp only [] at h
      generalize hl : look p m.gs m.rest w2 = l at h
      cases l with
      | next m2 => exact Nat.le_trans h2 (Nat.le_trans (look_drawn _ _ _ _ _ hl) (askOn_drawn p m2 w' h))
      | ended o w3 => simp [mvW] at h
    · exact Nat.le_trans h2 (askOn_drawn p { m with world := w2 } w' h)
 · exact askOn_drawn p m w' h
theorem move_drawn (p : Program) (m : Machine) (w' : World) (h : mvW (move p m) = some w') : m.world.drawn ≤ w'.drawn := by
 unfold move at h
 split at h
 · split at h
   · simp only [mvW, Option.some.injEq] at h; subst h; exact Nat.le_refl _
   · simp [mvW] at h
 · split at h
   · split at h
     · simp only [mvW, Option.some.injEq] at h; subst h; exact Nat.le_refl _
     · exact ask_drawn' p { m with rest := { m.rest with slice := none } } w' h
   · exact ask_drawn' p m w' h
theorem step_drawn (p : Program) (m m' : Machine) (h : step p m = .next m') : m.world.drawn ≤ m'.world.drawn := by
 unfold step stepT at h
 split at h
 · rename_i m1 i hm
   exact Nat.le_trans (move_drawn p m m1.world (by rw [hm]; rfl)) (runT_drawn _ _ _ _ _ h)
 · rename_i s ops hm
   simp only [] at h
   subst h
   exact move_drawn p m m'.world (by rw [hm]; rfl)
theorem steps_drawn {p : Program} {m m' : Machine} (h : Steps p m m') : m.world.drawn ≤ m'.world.drawn := by
 obtain ⟨n, hn⟩ := h
 induction n generalizing m with
 | zero => simp [runN] at hn; rw [hn]; exact Nat.le_refl _
 | succ n ih =>
  rw [runN] at hn
  split at hn
  · rename_i m1 h1
    exact Nat.le_trans (step_drawn p m m1 h1) (ih hn)
  · rename_i hno
    exact (hno _ hn).elim
theorem calls_drawn {p : Program} {f : FuncId} {args : Array Value} {w : World} {R : Ending → World → Prop} (h : Calls p f args w R) (ho : ∀ w', ¬ R .outgrown w') : Calls p f args w fun e w' => R e w' ∧ w.drawn ≤ w'.drawn := by
 intro cs
 obtain ⟨e, w', fr, r, c, x⟩ := h cs
 refine ⟨e, w', fr, ⟨r, ?_⟩, c, x⟩
 cases e with
 | returned v => exact steps_drawn c
 | panicked ch => exact steps_drawn c
 | outgrown => exact absurd r (ho w')
end Go.Proofs.YtpebabaigakagaaGreatDoor
end
section
namespace Go.Proofs.YtpebabaigakagaaGreatDoor.Path
open Go.RowKit
open Go.Sort (grow)
open Go.Lib (compareBytes)
theorem ext_grow {w w' : World} (h : Ext w w') (hd : w.drawn ≤ w'.drawn) : ∃ q os', w' = grow (w.drewN q) os' := by
 obtain ⟨p, hp⟩ := regrown_of_below h
 refine ⟨p.d - w.drawn, p.os, ?_⟩
 have e : w'.drawn = p.d := by rw [hp]; rfl
 rw [hp]
 congr 1
 unfold World.drewN redrawn
 congr 1
 omega
theorem calls_grow {P : Program} {f : FuncId} {args : Array Value} {w : World} {v : Value} (h : Calls P f args w fun e w' => e = .returned v ∧ Ext w w') : Calls P f args w fun e w' => e = .returned v ∧ ∃ q os', w' = grow (w.drewN q) os' :=
 (calls_drawn h (fun w' hr => by cases hr.1)).mono fun e w' ⟨⟨he, hx⟩, hd⟩ => ⟨he, ext_grow hx hd⟩
theorem str_compare (p q : ByteArray) (w : World) : Calls Tryz.prog 61 #[.string p, .string q] w fun e w' => e = .returned (.int .i64 (compareBytes (bl p) (bl q))) ∧ w = w' :=
 (Tryz.strings_Compare p q w).mono fun _ _ ⟨he, hw⟩ => ⟨he, hw.symm⟩
theorem compareP_any (p q : ByteArray) (w : World) (hp : p.size ≤ 1000) (hq : q.size ≤ 1000) : Calls Tryz.prog 35 #[.string p, .string q] w fun e w' => e = .returned (.int .i64 (cmpP (bl p) (bl q))) ∧ Ext w w' := by
 have hA := At.start (w0 := w) (L0 := []) trivial
 have hF := hA.facts
 go_enter Tryz.func35, Tryz.ntmps35
 go_wp2_with fail
 refine (parts_any p w (by omega)).mono ?_
 rintro e w1 ⟨v, ws, rfl, hw1, hT⟩
 have hB := hA.call0 hT
 clear hF hA hT; have hA := hB; clear hB
 simp only [List.append_nil] at hA
 obtain ⟨ax, kn, cap, hv0, hkn⟩ := hA.row_hid (v := v) (xs := flatS ws) sR
 subst hv0
 have hF := hA.facts; (try simp only [uZ] at hA hF)
 go_wp2_with fail
 refine (parts_any q w1 (by omega)).mono ?_
 rintro e w2 ⟨u, us, rfl, hw2, hT⟩
 have hB := hA.call0 hT
 clear hF hA hT; have hA := hB; clear hB
 simp only [uA] at hA
 obtain ⟨bx, km, cbp, hu0, hkm⟩ := hA.row_hid (v := u) (xs := flatS us) sR
 subst hu0
 have hF := hA.facts; (try simp only [uZ] at hA hF)
 have ek := hkn.out
 have em := hkm.out
 have hx : Ext w w2 := hA.toExt
 have hl1 : ws.length = (partsL (bl p)).length := by rw [← hw1]; simp
 have hl2 : us.length = (partsL (bl q)).length := by rw [← hw2]; simp
 by_cases hr : rightB (bl p) = true ∧ rightB (bl q) = true
 · have e1 : partsL (bl p) = splits (bl p) := by simp [partsL, hr.1]
   have e2 : partsL (bl q) = splits (bl q) := by simp [partsL, hr.2]
   have hc : cmpP (bl p) (bl q) = cmpL (ws.map bl) (us.map bl) := by rw [hw1, hw2, e1, e2]; simp [cmpP, hr]
   have n1 := splits_len (bl p)
   have n2 := splits_len (bl q)
   have m1 := splits_len_le (bl p)
   have m2 := splits_len_le (bl q)
   have z1 : (bl p).length = p.size := by simp
   have z2 : (bl q).length = q.size := by simp
   rw [e1] at hl1
   rw [e2] at hl2
   obtain rfl : kn = ws.length := ek
   obtain rfl : km = us.length := em
   obtain ⟨g1, c1, rfl, _, _, hcl1, hct1, hB⟩ := hA.row_open (ax := ax) (cap := cap) (n := ws.length) (xs := flatS ws) sR (by omega)
   obtain ⟨g2, c2, rfl, _, _, hcl2, hct2, hB2⟩ := hB.row_open (ax := bx) (cap := cbp) (n := us.length) (xs := flatS us) sR (by omega)
   have x1 : ∀ (j : Nat) x, ws[j]? = some x → w2.cell? ⟨g1, j, none⟩ = some (.string x) := fun j x hx => ((hB2.get (A := Part.cells g1 c1 9) sR : BlockIs w2 g1 c1 _).cell j).trans (flatS_at hct1 hx)
   have x2 : ∀ (j : Nat) x, us[j]? = some x → w2.cell? ⟨g2, j, none⟩ = some (.string x) := fun j x hx => ((hB2.get (A := Part.cells g2 c2 9) sR : BlockIs w2 g2 c2 _).cell j).trans (flatS_at hct2 hx)
   have hcs := compareS_any (c1 := cap) (c2 := cbp) x1 x2 (by omega) (by omega)
   have l1 : 0 < ws.length := by omega
   have l2 : 0 < us.length := by omega
   have n1' : ((ws.length : Int) == 0) = false := beq_eq_false_iff_ne.2 (by omega)
   have n2' : ((us.length : Int) == 0) = false := beq_eq_false_iff_ne.2 (by omega)
   have hc' := Lib.hid hc
   clear hc hA hB hB2 hF x1 x2 hct1 hct2 hcl1 hcl2 hw1 hw2 hl1 hl2 n1 n2 m1 m2 z1 z2 e1 e2 hr hkn hkm
   go_wp2_with fail
   refine hcs.mono ?_
   clear hcs
   rintro e _ ⟨rfl, rfl⟩
   go_wp2_with fail
   go_ret
   exact ⟨by rw [hc'.out]; rfl, hx⟩
 · have hc : cmpP (bl p) (bl q) = compareBytes (bl p) (bl q) := by simp [cmpP, hr]
   have hc' := Lib.hid hc
   have hst := str_compare p q w2
   clear hc hA hF hw1 hw2
   by_cases h1 : ws.length = 0
   · obtain rfl : kn = 0 := ek.trans h1
     clear ek em hl1 hl2 h1 hkn hkm
     go_wp2_with fail
     refine hst.mono ?_
     clear hst
     rintro e _ ⟨rfl, rfl⟩
     go_wp2_with fail
     go_ret
     exact ⟨by rw [hc'.out]; rfl, hx⟩
   · have h2 : us.length = 0 := by
      cases r1 : rightB (bl p)
      · have : partsL (bl p) = [] := by simp [partsL, r1]
        rw [this] at hl1
        exact absurd hl1 h1
      · cases r2 : rightB (bl q)
        · have : partsL (bl q) = [] := by simp [partsL, r2]
          rw [this] at hl2
          exact hl2
        · exact absurd ⟨r1, r2⟩ hr
     obtain rfl : km = 0 := em.trans h2
     have n1' : ((kn : Int) == 0) = false := beq_eq_false_iff_ne.2 (by omega)
     clear ek em hl1 hl2 h1 h2 hkn hkm hr
     go_wp2_with fail
     refine hst.mono ?_
     clear hst
     rintro e _ ⟨rfl, rfl⟩
     go_wp2_with fail
     go_ret
     exact ⟨by rw [hc'.out]; rfl, hx⟩
end Go.Proofs.YtpebabaigakagaaGreatDoor.Path
end
section
namespace Go.Proofs.YtpebabaigakagaaGreatDoor.Lock
open _root_.Go.Proofs.YtpebabaigakagaaGreatDoor.Mark (holdsK_of own_sorted grownBy_sortedK orI or2 new_cell)
open Go.RowKit Go.Shelf Go.Sort
open Go.Maps (Keyed)
open Path (bl rightB overB cmpP)
theorem list1_any (x y : Ent) (w : World) (hx : x.path.size ≤ 1000) (hy : y.path.size ≤ 1000) : Calls Tryz.prog 33 #[x.val, y.val] w fun e w' => e = .returned (.int .i64 (cmpE x y)) ∧ Ext w w' := by
 have hA : At [] w [] w := At.start (L0 := []) trivial
 have hF := hA.facts
 have hcp := fun (w1 : World) => Path.compareP_any x.path y.path w1 (by omega) (by omega)
 unfold cmpE
 generalize cmpP (bl x.path) (bl y.path) = cp at *
 have hcc := fun (w1 : World) => Tryz.cmp_Compare_int x.stamp y.stamp w1
 generalize hcs : Lib.compareInt x.stamp y.stamp = cs at *
 obtain ⟨p1, n1, f1, m1, k1, s1⟩ := x
 obtain ⟨p2, n2, f2, m2, k2, s2⟩ := y
 simp only [Ent.val] at *
 go_enter Tryz.func33, Tryz.ntmps33
 go_wp2_with ((with_reducible refine gbx ?_); refine wC (E := 51) hA ?_; clear hF hA; intro bX w1 hA hbX hF; (try simp only [uY] at hA hF))
 try go_frame
 (refine wp_region_head 10 (Cl _ _ _) (by kernel_rfl) (by kernel_rfl) (Cl.drew hA) ?_); (simp only [List.take_succ_cons, List.take_zero, List.drop_succ_cons, List.drop_zero]); (have hn1 := Cl.none hA); (have hn2 := Cl.none2 hA); (repeat (first | go_big_quiet_skip | (go_big_quiet_want; (first | (refine qL ?_; go_frame; go_big_quiet_on) | (go_big_quiet_op; (first | go_big_quiet_on | ((apply Exists.intro); (refine ⟨fun w1 hw => ?_, ?_⟩); (focus ((have hw := Cl.out hw); (first | exact through0 hw (hcp _) | exact (hcc _).mono fun _ _ ⟨he, hq⟩ => ⟨he, hq ▸ hw⟩))); (go_big_quiet_on))))))))
 (refine wpQuiet_nil ?_); (intro w1 hB); (clear hF hA hn1 hn2); (have hA := Cl.out hB); (clear hB); have hF := hA.facts; (try simp only [uY] at hA hF)
 clear hcp hcc
 have hB := hA.alloc [.int .i64 cp, .int .i64 cs] 3
 have hx1 := hA.toExt
 go_wp2_with fail
 refine (or2 cp cs _ _ ?h0 ?h1).mono ?_
 case h0 => exact new_cell _ _ (by simp) _ _ _ _ rfl
 case h1 => exact new_cell _ _ (by simp) _ _ _ _ rfl
 rintro e _ ⟨rfl, rfl⟩
 go_wp2_with fail
 go_ret
 exact ⟨rfl, hx1.alloc _⟩
section
variable {es : List Ent} (H : Sortable es)
theorem encI_len (x : EntI es) : (encI es x).length = 6 := rfl
theorem encI_one (x : EntI es) : ∀ v ∈ encI es x, v.oneCell' = true := by
 intro u hu
 simp only [encI, Ent.cells, List.mem_cons, List.not_mem_nil, or_false] at hu
 rcases hu with rfl | rfl | rfl | rfl | rfl | rfl <;> rfl
theorem cmpLaysI [Inhabited (EntI es)] (hs : ∀ e ∈ es, e.path.size ≤ 1000) (blk off size : Nat) (w : World) : CmpLays Tryz.prog 33 #[] (encI es) 6 (cmpI es) blk off size w :=
 fun _ _ _ _ x y => Path.calls_grow (list1_any x.1 y.1 _ (hs _ x.2) (hs _ y.2))
end
abbrev rowL (v : Value) (l : List Ent) : Part := .row 51 6 v l.length (l.flatMap Ent.cells)
def ListPost (w : World) (b : Bk) (e : Ending) (w' : World) : Prop := ∃ (v : Value) (l : List Ent), e = .returned v ∧ l.Perm b.es ∧ l.Pairwise ltE ∧ At [BookP b] w [rowL v l, BookP b] w'
theorem nodup_es {es : List Ent} (h : es.Pairwise (fun a b => a.key ≠ b.key)) : es.Nodup := h.imp (fun h e => h (by rw [e]))
theorem list_any {w : World} {b : Bk} (h : Sep [BookP b] w) (H : Sortable b.es) (hmax : b.es.length ≤ 1000000) (hs : ∀ e ∈ b.es, e.path.size ≤ 1000) :
 Calls Tryz.prog 16 #[.pointer (some ⟨b.p, 0, none⟩)] w (ListPost w b) := by
 have hA := begin0 h
 have hkeys := keys_of (MapAt.keys (hA.get (A := mapC b.m (ents b.es)) sR))
 have hnd := nodup_es hkeys
 have hF := hA.facts; (try simp only [uY] at hA hF)
 clear h hkeys
 go_enter Tryz.func16, Tryz.ntmps16
 go_wp2_with fail
 refine (callsIn_wide.1 (vals_in Fence.wide 1 trivial rfl (some b.m) w)).mono ?_
 rintro e _ ⟨rfl, rfl⟩
 have hB := hA.alloc [.map (some b.m)] 88
 go_wp2_with fail
 refine (collect_vals w.heap.size b.m (ents b.es) b.es (by simp [ents, ent]) _ (by simp) ((BlockIs.alloc w [.map (some b.m)] 88).cell 0) (hB.get (A := mapC b.m (ents b.es)) sR) (by omega)).mono ?_
 rintro e w1 ⟨v, ss, rfl, hp, hrow, hnil, hb⟩
 have hC := hB.row_new hb hrow
 have hB2 := fold0 b hC sR sR sR
 have hC2 := hB2.only2 (A := rowL v ss) (B := BookP b) sZ sZ
 have hll := hp.length_eq
 clear hF hA hB hC hB2
 rcases hrow.2 with ⟨rfl, hz⟩ | ⟨gb, cap, cur, rfl, hbase, hgb, r1, r2, r3, r4⟩
 · have hss : ss = [] := List.eq_nil_of_length_eq_zero hz
   subst hss
   have hS : Calls Tryz.prog 32 #[.slice none 0 0, .func (.func 33) #[] #[]] w1 fun e w' => e = .returned (.tuple #[]) ∧ w' = w1 := AnyF.slices_SortFunc_none Tryz.sort32 none 0 _ w1
   go_wp2_with fail
   refine hS.mono ?_
   rintro e _ ⟨rfl, rfl⟩
   go_wp2_with fail
   go_ret
   exact ⟨_, [], rfl, hp, .nil, hC2⟩
 · have hsub : ∀ x ∈ ss, x ∈ b.es := fun x hx => hp.mem_iff.1 hx
   have htm := toI_map ss hsub
   obtain ⟨ti, hti⟩ : ∃ ti, toI ss hsub = ti := ⟨_, rfl⟩
   rw [hti] at htm
   have htl : ti.length = ss.length := by rw [← htm]; simp
   have hflat : ti.flatMap (encI b.es) = ss.flatMap Ent.cells := by rw [encI_flat, htm]
   have htn : ti.Nodup := by
    have : (ti.map (·.1)).Nodup := by rw [htm]; exact hp.nodup_iff.2 hnd
    exact (List.pairwise_map.1 this).imp (fun q e => q (by rw [e]))
   have hne : ss ≠ [] := fun e => by have := hnil.2 e; cases this
   have hpos : 0 < ss.length := List.length_pos_iff.2 hne
   haveI : Inhabited (EntI b.es) := ⟨⟨ss[0]'hpos, hsub _ (List.getElem_mem _)⟩⟩
   have hH : HoldsK (encI b.es) 6 w1 gb 0 ti.toArray := holdsK_of (encI b.es) 6 encI_len hgb (by rw [htl, hflat]; exact r4)
   have hgl : gb < w1.heap.size := (Array.getElem?_eq_some_iff.1 hgb).1
   have hsz : ti.toArray.size < 4611686018427387904 := by simp; omega
   have hS : Calls Tryz.prog 32 #[.slice (some ⟨gb, 0, none⟩) ti.length cap, .func (.func 33) #[] #[]] w1 fun e w' => e = .returned (.tuple #[]) ∧ ∃ n os, w' = sortWorldK (encI b.es) 6 w1 gb 0 n (sortI H ti).toArray os :=
    AnyQ.slices_SortFunc_total Tryz.sort32 6 Tryz.isAgg51 Tryz.sizeOf51 (encI b.es) encI_len encI_one (cmpI b.es) (swoI H) 33 #[] gb 0 cap ti.toArray w1 (enters_of Tryz.func33 (by kernel_rfl) rfl) (cmpLaysI hs _ _ _ _) hH hgl hsz (totI H)
   rw [htl] at hS
   have htl' := Lib.hid htl
   clear hll hmax htl
   go_wp2_with fail
   refine hS.mono ?_
   rintro e _ ⟨rfl, nn, os, rfl⟩
   go_wp2_with fail
   go_ret
   have hown := own_sorted (encI b.es) 6 encI_len (w := w1) (base := 0) (cap := cap) (n := nn) (os := os) (sortI_len H ti) (Nat.zero_le _) hgb (by rw [htl'.out]; exact r1) r2 r3
   have hlt := sortI_lt H ti htn
   have hlp : ((sortI H ti).map (fun x : EntI b.es => x.1)).Perm ss := by
    have := (sortI_perm H ti).map (fun x : EntI b.es => x.1)
    rwa [htm] at this
   rw [encI_flat, htl'.out, ← hlp.length_eq] at hown
   generalize (sortI H ti).map (fun x : EntI b.es => x.1) = l at *
   have hD := hC2.turn (A := rowL (.slice (some ⟨gb, 0, none⟩) ss.length cap) ss) .here (rowL (.slice (some ⟨gb, 0, none⟩) l.length cap) l) hown (fun b hb => .inl hb) (exc_grown (grownBy_sortedK _))
   refine ⟨_, l, ?_, hlp.trans hp, hlt, hD⟩
   rw [hlp.length_eq]
   rfl
end Go.Proofs.YtpebabaigakagaaGreatDoor.Lock
end
section
namespace Go.Proofs.YtpebabaigakagaaGreatDoor.Lock
open Go.RowKit
open Go.Maps (Keyed)
open Path (bl rightB overB)
theorem old_cell {W w : World} (h : (Part.old W).holds w) {b off : Nat} {u : Value} (hc : W.cell? ⟨b, off, none⟩ = some u) : w.cell? ⟨b, off, none⟩ = some u := by
 have hb : b < W.heap.size := by
  rcases Nat.lt_or_ge b W.heap.size with q | q
  · exact q
  · simp [World.cell?, Array.getElem?_eq_none q] at hc
 have := h b hb
 rw [← hc]
 simp [World.cell?, this]
theorem below_old {w w' : World} {L F : List Part} (h : At [Part.old w] w L w') (s : Sel (Part.old w) L F) : Below w.heap.size w w' := by
 have ho : (Part.old w).holds w' := h.get s
 exact ⟨h.exc.os, h.exc.tape, h.exc.output, h.exc.size, fun b hb => ho b hb⟩
def pAB : ByteArray := ⟨#[97, 47, 98]⟩
def pA : ByteArray := ⟨#[97]⟩
def pAC : ByteArray := ⟨#[97, 47, 99]⟩
def e1 : Ent := ⟨pAB, 1, pA, 2, 1, 1⟩
def e2 : Ent := ⟨pA, 1, pA, 2, 1, 2⟩
def e3 : Ent := ⟨pAC, 1, pA, 1, 1, 3⟩
def s0 : S3 := ⟨0, [], []⟩
def s1 : S3 := ⟨0, [e1], [(pAB, 1)]⟩
def s2 : S3 := ⟨0, [e1, e2], [(pAB, 1), (pA, 1)]⟩
def s3 : S3 := ⟨0, [e1, e2, e3], [(pAB, 1), (pA, 1), (pAC, 1)]⟩
def s4 : S3 := ⟨0, [e2, e3], [(pAB, 1), (pA, 1), (pAC, 1)]⟩
end Go.Proofs.YtpebabaigakagaaGreatDoor.Lock
end
section
namespace Go.Proofs.YtpebabaigakagaaGreatDoor.Lock
open Go.RowKit
open Go.Maps (Keyed)
open Path (bl rightB overB)
theorem Ent.cells_len (s : Ent) : s.cells.length = 6 := rfl
structure Pl where
 p : Nat
 m : Nat
 c : Nat
def Pl.at (a : Pl) (s : S3) : Bk := ⟨a.p, a.m, a.c, s.first, s.es, s.cs⟩
abbrev bookS (a : Pl) (s : S3) : Part := BookP (a.at s)
theorem Inv.len' {s : S3} {k : Nat} (h : Inv s k) (hk : k ≤ 1000) : s.es.length ≤ 1000000 := by have := h.len; omega
section
variable {a : Pl} {s : S3} {k : Nat} {w : World} {p f : ByteArray} {n mode : Int}
def ListPostS (w : World) (a : Pl) (s : S3) (e : Ending) (w' : World) : Prop := ∃ (v : Value) (l : List Ent), e = .returned v ∧ l.Perm s.es ∧ l.Pairwise ltE ∧ At [bookS a s] w [rowL v l, bookS a s] w'
theorem list_at (h : Sep [bookS a s] w) (hI : Inv s k) (hk : k ≤ 1000) : Calls Tryz.prog 16 #[.pointer (some ⟨a.p, 0, none⟩)] w (ListPostS w a s) :=
 list_any (b := a.at s) h hI.sortable (hI.len' hk) (fun x hx => by have := hI.path x hx; omega)
end
end Go.Proofs.YtpebabaigakagaaGreatDoor.Lock
end
section
namespace Go.Proofs.YtpebabaigakagaaGreatDoor.Enc
open _root_.Go.Proofs.YtpebabaigakagaaGreatDoor.Wire
end Go.Proofs.YtpebabaigakagaaGreatDoor.Enc
end
section
namespace Go.Proofs.YtpebabaigakagaaGreatDoor.Lock
open _root_.Go.Proofs.YtpebabaigakagaaGreatDoor.Wire
open _root_.Go.Proofs.YtpebabaigakagaaGreatDoor.Enc
def encE (e : Ent) : List Int := textB e.path ++ fixL e.num.toNat ++ textB e.foot ++ [e.mode] ++ fixL e.n.toNat ++ shortN e.stamp.toNat
def encC (c : ByteArray × Int) : List Int := textB c.1 ++ fixL c.2.toNat
def encB (es : List Ent) (cs : List (ByteArray × Int)) : List Int := shortN es.length ++ es.flatMap encE ++ shortN cs.length ++ cs.flatMap encC
structure okE (e : Ent) : Prop where
 n0 : 0 ≤ e.num
 n1 : e.num < 18446744073709551616
 k0 : 0 ≤ e.n
 k1 : e.n < 18446744073709551616
 s0 : 0 ≤ e.stamp
def okC (c : ByteArray × Int) : Prop := 0 ≤ c.2 ∧ c.2 < 18446744073709551616
end Go.Proofs.YtpebabaigakagaaGreatDoor.Lock
end
section
namespace Go.Proofs.YtpebabaigakagaaGreatDoor.Lock
end Go.Proofs.YtpebabaigakagaaGreatDoor.Lock
end
section
namespace Go.Proofs.YtpebabaigakagaaGreatDoor.Lock
open _root_.Go.Proofs.YtpebabaigakagaaGreatDoor.Wire
open _root_.Go.Proofs.YtpebabaigakagaaGreatDoor.Enc
theorem textB_le (s : ByteArray) (h : s.size ≤ 20000000000000) : (textB s).length ≤ 10 + s.size := by
 have h1 := short_len 9 s.size (by omega)
 unfold textB
 rw [List.length_append, textL_len]
 omega
theorem flatX_le {α : Type} {f : α → List Int} {P : α → Prop} {k : Nat} (hf : ∀ a, P a → (f a).length ≤ k) : ∀ l : List α, (∀ a ∈ l, P a) → (l.flatMap f).length ≤ l.length * k
 | [], _ => by simp
 | x :: l, h => by
  have q1 := hf x (h x (by simp))
  have q2 := flatX_le hf l (fun a ha => h a (by simp [ha]))
  rw [List.flatMap_cons, List.length_append, List.length_cons, Nat.add_mul]
  omega
structure okW (e : Ent) : Prop where
 ok : okE e
 pb : e.path.size ≤ 100
 fb : e.foot.size ≤ 2000000
 sb : e.stamp ≤ 1000
 m : e.mode = 1 ∨ e.mode = 2
 nb : e.n ≤ lastN
structure okV (c : ByteArray × Int) : Prop where
 ok : okC c
 pb : c.1.size ≤ 100
theorem encE_len {e : Ent} (h : okW e) : (encE e).length ≤ 2100000 := by
 have q1 := textB_le e.path (by have := h.pb; omega)
 have q2 := textB_le e.foot (by have := h.fb; omega)
 have q3 : (fixL e.num.toNat).length = 8 := by simp [fixL]
 have q4 : (fixL e.n.toNat).length = 8 := by simp [fixL]
 have q5 := short_len 9 e.stamp.toNat (by have := h.sb; omega)
 have q6 := h.pb
 have q7 := h.fb
 unfold encE
 simp only [List.length_append, List.length_cons, List.length_nil]
 omega
theorem encC_len {c : ByteArray × Int} (h : okV c) : (encC c).length ≤ 200 := by
 have q1 := textB_le c.1 (by have := h.pb; omega)
 have q3 : (fixL c.2.toNat).length = 8 := by simp [fixL]
 have q6 := h.pb
 unfold encC
 simp only [List.length_append]
 omega
theorem encB_len {es : List Ent} {cs : List (ByteArray × Int)} (h : ∀ e ∈ es, okW e) (k : ∀ c ∈ cs, okV c) (hl : es.length ≤ 1000) (hm : cs.length ≤ 1000) : (encB es cs).length ≤ 3000000000 := by
 have q1 := short_len 9 es.length (by omega)
 have q2 := flatX_le (f := encE) (P := okW) (k := 2100000) (fun a ha => encE_len ha) es h
 have q3 := short_len 9 cs.length (by omega)
 have q4 := flatX_le (f := encC) (P := okV) (k := 200) (fun a ha => encC_len ha) cs k
 unfold encB
 simp only [List.length_append]
 omega
def Feet (s : S3) : Prop := ∀ e ∈ s.es, e.foot.size ≤ 2000000
theorem Inv.okW {s : S3} {k : Nat} (h : Inv s k) (hf : Feet s) (hk : k ≤ 1000) : ∀ e ∈ s.es, okW e := fun e he =>
 { ok := { n0 := h.num0 e he, n1 := h.num1 e he, k0 := h.n0 e he, k1 := by have := h.n1 e he; unfold lastN at this; omega, s0 := by have := h.stamp0 e he; omega }
   pb := h.path e he, fb := hf e he, sb := by have := h.stamp1 e he; omega, m := h.mode e he, nb := h.n1 e he }
theorem Inv.okV {s : S3} {k : Nat} (h : Inv s k) : ∀ c ∈ s.cs, okV c := fun c hc =>
 { ok := ⟨by have := h.c0 c hc; have := h.first0; omega, by have := h.c1 c hc; unfold lastN at this; omega⟩, pb := h.cpath c hc }
end Go.Proofs.YtpebabaigakagaaGreatDoor.Lock
end
