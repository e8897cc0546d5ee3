/- Drawn, PathO, RegB, joined. -/
import Derived.Lone
import Derived.RunT
import Derived.Calls
import Derived.Test.YtkdjkngfnapjcaaGreatDoorQ14
import Derived.Lib.QuietBelow
import Derived.Sort.Grow
import Derived.Test.YtkdjkngfnapjcaaGreatDoorQ3
set_option linter.unusedSimpArgs false
set_option linter.unusedVariables false
set_option maxRecDepth 100000
set_option maxHeartbeats 16000000
namespace Go.Proofs.YtkdjkngfnapjcaaGreatDoor
section
section
def resW {α:Type}:Result α→World
 |.ok _ w=>w
 |.halt _ w=>w
theorem Zey {α:Type}:∀(x:Ask α) (w:World),w.drawn≤(w.ask x).2.drawn
 |.done a,w=>Nat.le_refl _
 |.ask what range k,w=>by
  unfold World.ask;simp only[]
  split
  · exact Zey _ _
  exact Nat.le_trans (Nat.le_succ _) (Zey _ {w with drawn:=w.drawn + 1})
theorem Zgk (w:World) (c:Sys):w.drawn≤(w.sys c).2.drawn:=by
 unfold World.sys;have h:=Zey (Kernel.perform c w.os) w
 split
 · exact Nat.le_refl _
 rename_i he
 rw[he] at h;exact h
theorem ZdW {p:Program} {w:World} {at_:Addr} {u:TypeId} {k:Addr} {v:Value} {atomic:Bool} {r:World × List Addr} (h:w.viewStore p at_ u k v atomic=.ok r):r.1.drawn=w.drawn:=by
 unfold World.viewStore at h;simp only[bind,Except.bind,pure,Except.pure,throw,throwThe,MonadExceptOf.throw] at h
 repeat' first
  |(cases h;done)
  |(cases h;rfl)
  |(simp at h;done)
  |split at h
theorem ZeG {p:Program} {w:World} {a:Addr} {v:Value} {atomic:Bool} {r:World × List Addr} (h:w.farStore p a v atomic=.ok r):r.1.drawn=w.drawn:=by
 unfold World.farStore at h
 split at h
 · split at h
   · rename_i hv
     cases h;exact ZdW hv
   exact nomatch h
 exact nomatch h
theorem Zgt {α:Type} (p:Program) (x:Sem α):∀w:World,w.drawn≤(resW (x.run p w)).drawn:=by
 induction x with
 |pure a=>exact fun w=>Nat.le_refl _
 |load m a k ih=>
  intro w;simp only[Sem.run]
  split
  · exact ih _ _
  split
  · exact ih _ _
  exact Nat.le_refl _
 |store m a v k ih=>
  intro w;cases v
  all_goals
   simp only[Sem.run]
   try exact Nat.le_refl _
  all_goals
   split
   · split
     · exact Nat.le_refl _
     exact ih (w.setCell a _)
   split
   · rename_i hf
     exact Nat.le_trans (Nat.le_of_eq (ZeG hf).symm) (ih _)
   exact Nat.le_refl _
 |new o k ih=>intro w;exact ih _ {w with heap:=w.heap.push o}
 |shape r k ih=>intro w;exact ih _ _
 |freeze a n k ih=>
  intro w;refine Nat.le_trans (Nat.le_of_eq ?_) (ih (w.freeze a n));unfold World.freeze
  split<;>rfl
 |frozen a k ih=>intro w;exact ih _ _
 |getObj r k ih=>
  intro w;simp only[Sem.run]
  split
  · exact Nat.le_refl _
  · exact ih _ _
  exact Nat.le_refl _
 |setObj r o k ih=>
  intro w;simp only[Sem.run]
  split
  · exact Nat.le_refl _
  · exact ih {w with heap:=w.heap.setIfInBounds r o}
  exact Nat.le_refl _
 |choose q k ih=>
  intro w;simp only[Sem.run]
  split
  · exact ih _ _
  exact Nat.le_trans (Nat.le_succ _) (ih _ {w with drawn:=w.drawn + 1})
 |sys c k ih=>intro w;exact Nat.le_trans (Zgk w c) (ih _ _)
 |program k ih=>intro w;exact ih _ _
 |mark m k ih=>intro w;exact ih _
 |halt h=>exact fun w=>Nat.le_refl _
theorem ZaD {α:Type} {p:Program} {x:Sem α} {w w':World} {a:α} (h:x.run p w=.ok a w'):w.drawn≤w'.drawn:=by
 have:=Zgt p x w;rw[h] at this;exact this
theorem Zar {α:Type} {p:Program} {x:Sem α} {w w':World} {a:Halt} (h:x.run p w=.halt a w'):w.drawn≤w'.drawn:=by
 have:=Zgt p x w;rw[h] at this;exact this
theorem Znk {α:Type} {p:Program} {x:Sem α} {w w':World} {a:α} {es es':Array Event} (h:x.runT p w es=(.ok a w',es')):w.drawn≤w'.drawn:=
 ZaD (p:=p) (x:=x) (by rw[←Sem.runT_fst p x w es,h])
theorem Zec {α:Type} {p:Program} {x:Sem α} {w w':World} {a:Halt} {es es':Array Event} (h:x.runT p w es=(.halt a w',es')):w.drawn≤w'.drawn:=
 Zar (p:=p) (x:=x) (by rw[←Sem.runT_fst p x w es,h])
def gw:GStep→World
 |.go _ w _=>w
 |.comm _ _ _ _ w _=>w
 |.spawn _ _ w _=>w
 |.count _ w _=>w
 |.timer _ _ w _=>w
 |.alone _ _ w _=>w
 |.newcoro _ _ _ w _=>w
 |.coroswitch _ _ _ w _=>w
 |.collect _ w _=>w
 |.watch _ w _=>w
 |.ended _ w _=>w
theorem Zbh (es:Array Event) (s:GStep):gw (GStep.after es s)=gw s:=by cases s<;>rfl
theorem Zej {c:Prop} [Decidable c] {a b:GStep} {n:Nat} (h1:n≤(gw a).drawn) (h2:n≤(gw b).drawn):n≤(gw (if c then a else b)).drawn:=by split<;>assumption
theorem Zf1 (w:World) (fd:Nat) (text:ByteArray) (o:Outcome):w.drawn≤(gw (endWith w fd text o)).drawn:=by
 unfold endWith;have h:=Zgk w (.write fd text);simp only[]
 split
 · rename_i he
   rw[he] at h
   split<;>exact h
 · rename_i he
   rw[he] at h;exact h
 rename_i he
 rw[he] at h;exact h
theorem ZhP (fr:Frame) (a:List ByteArray) (m:String) (wh:Bool) (w:World):gw (dieOf fr a m wh w)=w:=rfl
theorem ZaY (fr:Frame) (m:String) (w:World):gw (endThrow fr m w)=w:=rfl
theorem ZbV (p:Program) (fr:Frame) (v:Value) (w:World):gw (endPrinting p fr v w)=w:=by
 unfold endPrinting;simp only[]
 split
 · exact ZaY _ _ _
 rfl
theorem Zcz (p:Program) (fr:Frame) (cs:List Frame) (d:Option Dying) (m:String) (w:World):w.drawn≤(gw (endFatal p fr cs d m w)).drawn:=by
 unfold endFatal;simp only[]
 split
 · rename_i h;rw[ZhP];exact ZaD h
 · rename_i h;exact Zar h
 rename_i h;exact Zar h
theorem Zfc (p:Program) (fr:Frame) (d:Dying) (f:Fatal) (w:World):w.drawn≤(gw (writeOn p fr d f w)).drawn:=by
 unfold writeOn;simp only[]
 split
 · exact Nat.le_refl _
 split
 · rename_i h;exact Znk h
 · rename_i h;exact Zec h
 · rename_i h;exact Zec h
 rename_i h;exact Zec h
theorem ZkO (p:Program) (fr:Frame) (d:Dying) (w:World):w.drawn≤(gw (die p fr d w)).drawn:=by
 unfold die
 split
 · exact Zfc _ _ _ _ _
 split
 · split
   · exact Nat.le_refl _
   exact Zf1 _ _ _ _
 simp only[]
 split
 · exact Nat.le_refl _
 · split
   · rename_i h;exact ZaD h
   rename_i h;exact Zar h
 · rw[Zbh]
   simp only[Sem.runT_fst]
   split
   all_goals first
    |exact Nat.le_refl _
    |(rename_i h;exact ZaD h)
    |(rename_i h;exact Zar h)
    |(rename_i h;rw[ZbV];exact Zar h)
 exact Nat.le_refl _
theorem ZaZ (p:Program) (main:Bool) (fr:Frame) (cs:List Frame) (d:Option Dying) (v:Value) (w:World):gw (doReturn p main fr cs d v w)=w:=by
 unfold doReturn
 repeat' first
  |rfl
  |split
  |simp only[]
theorem Zc4 (p:Program) (fr:Frame) (cs:List Frame) (dy:Option Dying) (d:Deferred) (w:World):w.drawn≤(gw (callDeferred p fr cs dy d w)).drawn:=by
 unfold callDeferred;refine Zej (Nat.le_refl _) ?_;simp only[];rw[Zbh];simp only[Sem.runT_fst]
 split
 all_goals first
  |(rename_i h;exact ZaD h)
  |(rename_i h;exact Zar h)
  |(rename_i h;exact Nat.le_trans (Zar h) (Zcz _ _ _ _ _ _))
  |(rename_i h;rw[ZaY];exact Zar h)
  |(rename_i h;split<;>exact ZaD h)
theorem Zgd (p:Program) (main:Bool) (fr:Frame) (cs:List Frame) (dy:Option Dying) (w:World):w.drawn≤(gw (unwind p main fr cs dy w)).drawn:=by
 unfold unwind
 split
 · simp only[]
   rw[Zbh];simp only[Sem.runT_fst]
   split
   · rename_i h;exact ZaD h
   rename_i h;exact Zar h
 · exact Zc4 _ _ _ _ _ _
 split
 · exact Nat.le_refl _
 · split
   · exact Nat.le_refl _
   split
   · exact Nat.le_refl _
   split
   · split
     · exact Nat.le_refl _
     split
     all_goals(rename_i h;first|exact ZaD h|exact Zar h)
   split
   · rw[ZbV];exact Nat.le_refl _
   exact Nat.le_refl _
 split
 · rw[ZaZ];exact Nat.le_refl _
 simp only[];rw[Zbh];simp only[Sem.runT_fst]
 split
 · rename_i h;rw[ZaZ];exact ZaD h
 · rename_i h;exact Zar h
 rename_i h;exact Zar h
theorem ZhO (p:Program) (fr:Frame) (cs:List Frame) (dy:Option Dying) (g:Nat) (w:World):w.drawn≤(gw (early p fr cs dy g w)).drawn:=by
 have key:∀w1:World,w.drawn≤w1.drawn→w.drawn≤(gw (match w1.heap[g]? with
  |some (.pending c elem)=>GStep.go {frame:=fr,callers:=cs,status:=.running,dying:=dy} {w1 with heap:=w1.heap.setIfInBounds g (.cells c elem)}
  |_=>.ended (.stuck "early: the variable does not wait" (fr.pos p)) w1)).drawn:=by
  intro w1 h
  split<;>exact h
 unfold early;simp only[]
 split
 · exact key w (Nat.le_refl _)
 split
 · exact Nat.le_refl _
 split
 · exact key w (Nat.le_refl _)
 split
 · exact key w (Nat.le_refl _)
 split
 · exact Nat.le_refl _
 · exact Nat.le_refl _
 · exact Nat.le_refl _
 · exact key w (Nat.le_refl _)
 split
 · exact Nat.le_refl _
 split
 · exact key w (Nat.le_refl _)
 split
 · rename_i h;exact key _ (ZaD h)
 · rename_i h;exact ZaD h
 rename_i h;exact Zar h
theorem ZbF (p:Program) (listen:Bool) (fr:Frame) (cs:List Frame) (dy:Option Dying) (x:Sem Next) (w:World):w.drawn≤(gw (stepG.apply p listen fr cs dy x w)).drawn:=by
 unfold stepG.apply;simp only[];rw[Zbh]
 have hr:∀r es,(if listen=true then x.runT p w #[] else(x.run p w,#[]))=(r,es)→x.run p w=r:=by
  intro r es h
  split at h
  · rw[←Sem.runT_fst p x w #[],h]
  exact congrArg Prod.fst h
 generalize hq:(if listen=true then x.runT p w #[] else(x.run p w,#[]))=q at *
 obtain⟨r,es⟩:=q;have h0:=hr r es rfl;clear hr hq;simp only[]
 split
 all_goals first
  |(subst_vars;exact ZaD ‹_›)
  |(exact ZaD h0)
  |(exact Zar h0)
  |(exact Nat.le_trans (Zar h0) (Zcz _ _ _ _ _ _))
  |(exact Nat.le_trans (Zar h0) (ZhO _ _ _ _ _ _))
  |(rw[ZaY];exact Zar h0)
  |(refine Zej ?_ (ZaD h0);rw[ZaY];exact ZaD h0)
  |(split<;>first|exact ZaD h0|(rw[ZaY];exact ZaD h0))
theorem Zjn (p:Program) (listen:Bool) (fr:Frame) (cs:List Frame) (dy:Option Dying) (w:World):w.drawn≤(gw (stepG.oper p listen fr cs dy w)).drawn:=by
 unfold stepG.oper
 split
 · exact Nat.le_refl _
 split
 · exact ZbF _ _ _ _ _ _ _
 exact ZbF _ _ _ _ _ _ _
theorem ZjA (p:Program) (main listen:Bool) (fr:Frame) (cs:List Frame) (dy:Option Dying) (w:World):w.drawn≤(gw (stepG.exec p main listen fr cs dy w)).drawn:=by
 unfold stepG.exec;simp only[]
 split
 all_goals first
  |exact Nat.le_refl _
  |exact ZbF _ _ _ _ _ _ _
  |(split;exact Zej (Nat.le_refl _) (Nat.le_refl _);(rw[Zbh];simp only[Sem.runT_fst];split;(rename_i h;rw[ZaZ];exact ZaD h);(rename_i h;exact Zar h)))
  |(split<;>exact Nat.le_refl _)
  |(generalize exitTo _ _=o;cases o;(simp only[Option.elim_none];(split;exact Zej (Nat.le_refl _) (Nat.le_refl _);(rw[Zbh];simp only[Sem.runT_fst];split;(rename_i h;rw[ZaZ];exact ZaD h);(rename_i h;exact Zar h))));exact Nat.le_refl _)
  |(generalize gotoIn _ _=o;cases o;(simp only[Option.elim_none];(split;exact Zej (Nat.le_refl _) (Nat.le_refl _);(rw[Zbh];simp only[Sem.runT_fst];split;(rename_i h;rw[ZaZ];exact ZaD h);(rename_i h;exact Zar h))));exact Nat.le_refl _)
  |(generalize Extern.next _=o;cases o;exact Nat.le_refl _;exact ZbF _ _ _ _ _ _ _)
  |(refine Zej (Zjn _ _ _ _ _ _) (Nat.le_refl _))
  |(refine Zej (Nat.le_refl _) ?_;split;(rename_i h;exact ZaD h);(rename_i h;exact Zar h))
  |(rw[Zbh];simp only[Sem.runT_fst];split;(rename_i h;exact Nat.le_trans (ZaD h) (ZbF _ _ _ _ _ _ _));(rename_i h;exact Zar h))
  |(rw[Zbh];simp only[Sem.runT_fst];split;(rename_i h;exact ZaD h);(rename_i h;exact Zar h);(rename_i h;exact Zar h))
theorem Zhr (p:Program) (main:Bool) (g:Goroutine) (w:World) (listen:Bool):w.drawn≤(gw (stepG p main g w listen)).drawn:=by
 unfold stepG;simp only[]
 split
 · exact ZkO _ _ _ _
 · exact ZjA _ _ _ _ _ _ _
 exact Zgd _ _ _ _ _ _
theorem Zdm (p:Program) (rest:Rest) (gs:Array Goroutine) (i:Nat) (g:Goroutine) (cases:Array CommCase) (blocking:Bool)
 (shape:CommShape) (w:World) (m':Machine) (h:(communicate p rest gs i g cases blocking shape w).1=.next m'):w.drawn≤m'.world.drawn:=by
 have wa:∀w1,waitingAt rest cases w=some w1→w1.drawn=w.drawn:=by
  intro w1 hw;unfold waitingAt at hw
  split at hw
  · split at hw
    · cases hw;rfl
    cases hw
  cases hw;rfl
 unfold communicate at h;simp only[] at h
 split at h
 · simp at h
 split at h
 · split at h
   · split at h
     · simp only[Stepped.next.injEq] at h;subst h;exact Nat.le_of_eq (wa _ ‹_›).symm
     simp at h
   simp only[Stepped.next.injEq] at h;subst h;exact Nat.le_refl _
 generalize hq:Sem.run p _ w=q at h
 cases q with
 |halt a w1=>simp at h
 |ok a w1=>
  obtain⟨k,c,way⟩:=a;have h1:=ZaD hq;clear hq;simp only[] at h
  repeat' first
   |(simp at h;done)
   |(simp only[Stepped.next.injEq] at h;subst h;exact h1)
   |(simp only[Stepped.next.injEq] at h;subst h;exact Nat.le_trans h1 (ZaD ‹_›))
   |(simp only[Stepped.next.injEq] at h;subst h;exact Nat.le_trans h1 (Zar ‹_›))
   |(generalize hq:Sem.run p (choose _) _=q at h;cases q;(have h2:=Nat.le_trans h1 (ZaD hq);clear hq;simp only[Stepped.next.injEq] at h;subst h;exact h2);(simp at h;done))
   |split at h
theorem ZeV (p:Program) (gs:Array Goroutine) (rest:Rest) (w:World) (m':Machine) (h:look p gs rest w=.next m'):w.drawn≤m'.world.drawn:=by
 unfold look at h;simp only[] at h
 split at h
 · split at h
   · simp at h
   split at h
   · simp at h
   generalize hq:Sem.run p _ w=q at h
   cases q with
   |halt a w1=>
    clear hq
    cases a<;>simp at h
   |ok a w1=>
    obtain⟨f,c⟩:=a;have h1:=ZaD hq;clear hq;simp only[Stepped.next.injEq] at h;subst h;exact h1
 simp at h
theorem Zfp (m m':Machine) (op:TimerOp) (v:Value) (h:timerOp m op=.ok (v,m')):m'.world.drawn=m.world.drawn:=by
 have op_:∀var m1,timerOp.opened m var=some m1→m1.world.drawn=m.world.drawn:=by
  intro var m1 ho;unfold timerOp.opened at ho
  split at ho
  · split at ho
    · cases ho;rfl
    cases ho
  cases ho;rfl
 have rt:∀(m1:Machine) k t a b,(retime m1 k t a b).2.world.drawn=m1.world.drawn:=by
  intro m1 k t a b;unfold retime;simp only[]
  split
  · unfold drain
    split<;>rfl
  rfl
 have nm:∀(m1:Machine) var f (r:Value × Machine),(∀k t,(f k t).2.world.drawn=m1.world.drawn)→timerOp.named m1 var f=.ok r→r.2.world.drawn=m1.world.drawn:=by
  intro m1 var f r hf hr;unfold timerOp.named at hr
  split at hr
  · cases hr;exact hf _ _
  cases hr
 unfold timerOp at h
 repeat' first
  |(simp at h;done)
  |(simp only[Except.ok.injEq,Prod.mk.injEq] at h;obtain⟨_,rfl⟩:=h;rfl)
  |(exact nm _ _ _ (v,m') (fun _ _=>rt _ _ _ _ _) h)
  |(rename_i ho;exact nm _ _ _ (v,m') (fun _ _=>(rt _ _ _ _ _).trans (op_ _ _ ho)) h)
  |split at h
theorem Zjg (p:Program) (m m':Machine) (i:Nat) (b:Bool) (h:(runT p m i b).1=.next m'):m.world.drawn≤m'.world.drawn:=by
 simp only[runT] at h;have hs:=Zhr p (i==0) (m.gs.swapAt! i {(default:Goroutine) with status:=.finished}).1 m.world b
 revert hs h
 generalize m.gs.swapAt! _ _=gg;generalize stepG p _ gg.1 m.world b=s;intro h hs
 cases s<;>simp only[gw] at h hs
 all_goals first
  |(simp at h;done)
  |(exact Nat.le_trans hs (Zdm _ _ _ _ _ _ _ _ _ _ h))
  |(exact Nat.le_trans hs (ZeV _ _ _ _ _ h))
  |(simp only[Stepped.next.injEq] at h;subst h;exact hs)
  |(repeat' first
     |(simp at h;done)
     |(simp only[Stepped.next.injEq] at h;subst h;exact hs)
     |(simp only[Stepped.next.injEq] at h;subst h;exact Nat.le_trans hs (Nat.le_of_eq (Zfp _ _ _ _ ‹_›).symm))
     |(rename_i he;unfold endThrow dieOf at he;simp only[GStep.go.injEq] at he;obtain⟨_,rfl,_⟩:=he;simp only[Stepped.next.injEq] at h;subst h;exact hs)
     |split at h)
theorem Zhu (p:Program) (m m':Machine) (k:Nat) (h:serve p m k=.next m'):m'.world.drawn=m.world.drawn:=by
 unfold serve at h;simp only[] at h
 repeat' first
  |(simp at h;done)
  |(simp only[Stepped.next.injEq] at h;subst h;rfl)
  |split at h
def mvW:Move→Option World
 |.goroutine m _=>some m.world
 |.machine (.next m) _=>some m.world
 |.machine (.ended _ _) _=>none
theorem Zb4 (p:Program) (m:Machine) (w':World) (h:mvW (askOn p m)=some w'):m.world.drawn≤w'.drawn:=by
 unfold askOn at h;simp only[] at h;generalize hq:Sem.run p _ m.world=q at h
 cases q with
 |halt a w1=>simp[mvW] at h
 |ok k w1=>
  have h1:m.world.drawn≤w1.drawn:=ZaD hq;clear hq
  have pick:∀(m1:Machine) (rs:List Nat) (w2:World),m.world.drawn≤m1.world.drawn→mvW (match(choose (.sched rs.length)).run p m1.world with
   |.halt _ w=>Move.machine (.ended (.stuck "sched" "") w)
   |.ok k world=>
    if rs.length≤1 then .goroutine {m1 with world} (rs.getD k 0) else
    match(choose (.extern "sched.slice" 65536)).run p world with
    |.halt _ w=>.machine (.ended (.stuck "sched.slice" "") w)
    |.ok n world=>.goroutine {m1 with world,rest:={m1.rest with slice:=if n=0 then none else some (rs.getD k 0,n)}} (rs.getD k 0))=some w2→m.world.drawn≤w2.drawn:=by
   intro m1 rs w2 h0 hm;generalize hr:Sem.run p (choose (.sched rs.length)) m1.world=r at hm
   cases r with
   |halt a w3=>simp[mvW] at hm
   |ok k w3=>
    have h2:=ZaD hr;simp only[] at hm
    split at hm
    · simp only[mvW,Option.some.injEq] at hm;subst hm;exact Nat.le_trans h0 h2
    generalize hs:Sem.run p (choose (.extern "sched.slice" 65536)) w3=r at hm
    cases r with
    |halt a w4=>simp[mvW] at hm
    |ok n w4=>
     have h3:=ZaD hs;simp only[mvW,Option.some.injEq] at hm;subst hm;exact Nat.le_trans h0 (Nat.le_trans h2 h3)
  dsimp only at h
  split at h
  · generalize hs:serve p _ _=s at h
    cases s with
    |next m2=>
     simp only[mvW,Option.some.injEq] at h;subst h;rw[Zhu _ _ _ _ hs];exact h1
    |ended o w2=>simp[mvW] at h
  split at h
  · split at h
    · simp only[mvW,Option.some.injEq] at h;subst h;exact h1
    split at h
    · simp only[mvW,Option.some.injEq] at h;subst h;exact h1
    split at h<;>simp[mvW] at h
  split at h
  · exact pick {m with world:=w1} (runnable m.gs m.world.os.mono) _ h1 h
  generalize hs:Sem.run p (choose (.extern "clock.wait" _)) w1=s at h
  cases s with
  |halt a w2=>simp[mvW] at h
  |ok k w2=>
   have h2:=ZaD hs
   rcases k with _|_|k
   · exact pick {m with world:=w2} _ _ (Nat.le_trans h1 h2) h
   · simp only[mvW,Option.some.injEq] at h;subst h;exact Nat.le_trans h1 h2
   exact pick (Machine.advanceTo {m with world:=w2} _) _ _ (Nat.le_trans h1 h2) h
theorem Zfa (p:Program) (m:Machine) (w':World) (h:mvW (ask p m)=some w'):m.world.drawn≤w'.drawn:=by
 unfold ask at h
 split at h
 · generalize hs:Sem.run p (choose (.extern "collector.look" 2)) m.world=s at h
   cases s with
   |halt a w2=>simp[mvW] at h
   |ok k w2=>
    have h2:=ZaD hs
    rcases k with _|_|k
    · exact Nat.le_trans h2 (Zb4 p {m with world:=w2} w' h)
    · simp only[] at h
      generalize hl:look p m.gs m.rest w2=l at h
      cases l with
      |next m2=>exact Nat.le_trans h2 (Nat.le_trans (ZeV _ _ _ _ _ hl) (Zb4 p m2 w' h))
      |ended o w3=>simp[mvW] at h
    exact Nat.le_trans h2 (Zb4 p {m with world:=w2} w' h)
 exact Zb4 p m w' h
theorem ZeT (p:Program) (m:Machine) (w':World) (h:mvW (move p m)=some w'):m.world.drawn≤w'.drawn:=by
 unfold move at h
 split at h
 · split at h
   · simp only[mvW,Option.some.injEq] at h;subst h;exact Nat.le_refl _
   simp[mvW] at h
 split at h
 · split at h
   · simp only[mvW,Option.some.injEq] at h;subst h;exact Nat.le_refl _
   exact Zfa p {m with rest:={m.rest with slice:=none}} w' h
 exact Zfa p m w' h
theorem Zjc (p:Program) (m m':Machine) (h:step p m=.next m'):m.world.drawn≤m'.world.drawn:=by
 unfold step stepT at h
 split at h
 · rename_i m1 i hm
   exact Nat.le_trans (ZeT p m m1.world (by rw[hm];rfl)) (Zjg _ _ _ _ _ h)
 rename_i s ops hm
 simp only[] at h;subst h;exact ZeT p m m'.world (by rw[hm];rfl)
theorem Zd1 {p:Program} {m m':Machine} (h:Steps p m m'):m.world.drawn≤m'.world.drawn:=by
 obtain⟨n,hn⟩:=h
 induction n generalizing m with
 |zero=>simp[runN] at hn;rw[hn];exact Nat.le_refl _
 |succ n ih=>
  rw[runN] at hn
  split at hn
  · rename_i m1 h1
    exact Nat.le_trans (Zjc p m m1 h1) (ih hn)
  rename_i hno
  exact(hno _ hn).elim
theorem ZhZ {p:Program} {f:FuncId} {args:Array Value} {w:World} {R:Ending→World→Prop} (h:Calls p f args w R) (ho:∀w',¬R .outgrown w'):Calls p f args w fun e w'=>R e w'∧w.drawn≤w'.drawn:=by
 intro cs;obtain⟨e,w',fr,r,c,x⟩:=h cs;refine⟨e,w',fr,⟨r,?_⟩,c,x⟩
 cases e with
 |returned v=>exact Zd1 c
 |panicked ch=>exact Zd1 c
 |outgrown=>exact absurd r (ho w')
end
end
section
namespace Path
open Go.RowKit
open Go.Sort (grow)
open Go.Lib (compareBytes)
theorem Zmi {w w':World} (h:Ext w w') (hd:w.drawn≤w'.drawn):∃q os',w'=grow (w.drewN q) os':=by
 obtain⟨p,hp⟩:=regrown_of_below h;refine⟨p.d - w.drawn,p.os,?_⟩
 have e:w'.drawn=p.d:=by rw[hp];rfl
 rw[hp]
 congr 1
 unfold World.drewN redrawn
 congr 1
 omega
theorem Ze6 {P:Program} {f:FuncId} {args:Array Value} {w:World} {v:Value} (h:Calls P f args w fun e w'=>e=.returned v∧Ext w w'):Calls P f args w fun e w'=>e=.returned v∧∃q os',w'=grow (w.drewN q) os':=
 (ZhZ h (fun w' hr=>by cases hr.1)).mono fun e w' ⟨⟨he,hx⟩,hd⟩=>⟨he,Zmi hx hd⟩
theorem Zhq (p q:ByteArray) (w:World):Calls Tryz.prog 68 #[.string p,.string q] w fun e w'=>e=.returned (.int .i64 (compareBytes (bl p) (bl q)))∧w=w':=
 (Tryz.strings_Compare p q w).mono fun _ _ ⟨he,hw⟩=>⟨he,hw.symm⟩
theorem ZbJ (p q:ByteArray) (w:World) (hp:p.size≤1000) (hq:q.size≤1000):Calls Tryz.prog 124 #[.string p,.string q] w fun e w'=>e=.returned (.int .i64 (cmpP (bl p) (bl q)))∧Ext w w':=by
 have hA:=At.start (w0:=w) (L0:=[]) trivial;have hF:=hA.facts
 go_enter Tryz.func124,Tryz.ntmps124
 go_wp2_with fail
 refine(Zgz p w (by omega)).mono ?_;rintro e w1 ⟨v,ws,rfl,hw1,hT⟩;replace hA:=hA.call0 hT;clear hF hT;simp only[List.append_nil] at hA;obtain⟨ax,kn,cap,hv0,hkn⟩:=hA.row_hid (v:=v) (xs:=flatS ws) sR;subst hv0;obtain⟨hA,hF⟩:=fZ hA
 go_wp2_with fail
 refine(Zgz q w1 (by omega)).mono ?_;rintro e w2 ⟨u,us,rfl,hw2,hT⟩;replace hA:=hA.call0 hT;clear hF hT;simp only[uA] at hA;obtain⟨bx,km,cbp,hu0,hkm⟩:=hA.row_hid (v:=u) (xs:=flatS us) sR;subst hu0;obtain⟨hA,hF⟩:=fZ hA;have ek:=hkn.out;have em:=hkm.out;have hx:Ext w w2:=hA.toExt
 have hl1:ws.length=(ZbC (bl p)).length:=by rw[←hw1];simp
 have hl2:us.length=(ZbC (bl q)).length:=by rw[←hw2];simp
 by_cases hr:Zad (bl p)=true∧Zad (bl q)=true
 · have e1:ZbC (bl p)=Zae (bl p):=by simp[ZbC,hr.1]
   have e2:ZbC (bl q)=Zae (bl q):=by simp[ZbC,hr.2]
   have hc:cmpP (bl p) (bl q)=cmpL (ws.map bl) (us.map bl):=by rw[hw1,hw2,e1,e2];simp[cmpP,hr]
   have n1:=ZbO (bl p);have n2:=ZbO (bl q);have m1:=Za5 (bl p);have m2:=Za5 (bl q)
   have z1:(bl p).length=p.size:=by simp
   have z2:(bl q).length=q.size:=by simp
   rw[e1] at hl1;rw[e2] at hl2;obtain rfl:kn=ws.length:=ek;obtain rfl:km=us.length:=em;obtain⟨g1,c1,rfl,_,_,hcl1,hct1,hB⟩:=hA.row_open (ax:=ax) (cap:=cap) (n:=ws.length) (xs:=flatS ws) sR (by omega);obtain⟨g2,c2,rfl,_,_,hcl2,hct2,hB2⟩:=hB.row_open (ax:=bx) (cap:=cbp) (n:=us.length) (xs:=flatS us) sR (by omega)
   have x1:∀(j:Nat) x,ws[j]? =some x→w2.cell? ⟨g1,j,none⟩=some (.string x):=fun j x hx=>((hB2.get (A:=Part.cells g1 c1 9) sR:Zaa w2 g1 c1 _).cell j).trans (ZfY hct1 hx)
   have x2:∀(j:Nat) x,us[j]? =some x→w2.cell? ⟨g2,j,none⟩=some (.string x):=fun j x hx=>((hB2.get (A:=Part.cells g2 c2 9) sR:Zaa w2 g2 c2 _).cell j).trans (ZfY hct2 hx)
   have hcs:=Zg4 (c1:=cap) (c2:=cbp) x1 x2 (by omega) (by omega)
   have l1:0 < ws.length:=by omega
   have l2:0 < us.length:=by omega
   have n1':((ws.length:Int)==0)=false:=beq_eq_false_iff_ne.2 (by omega);have n2':((us.length:Int)==0)=false:=beq_eq_false_iff_ne.2 (by omega);have hc':=Hd hc;clear hc hA hB hB2 hF x1 x2 hct1 hct2 hcl1 hcl2 hw1 hw2 hl1 hl2 n1 n2 m1 m2 z1 z2 e1 e2 hr hkn hkm
   go_wp2_with fail
   refine hcs.mono ?_;clear hcs;rintro e _ ⟨rfl,rfl⟩
   go_wp2_with fail
   go_ret;exact⟨by rw[hc'.out];rfl,hx⟩
 have hc:cmpP (bl p) (bl q)=compareBytes (bl p) (bl q):=by simp[cmpP,hr]
 have hc':=Hd hc;have hst:=Zhq p q w2;clear hc hA hF hw1 hw2
 by_cases h1:ws.length=0
 · obtain rfl:kn=0:=ek.trans h1
   clear ek em hl1 hl2 h1 hkn hkm
   go_wp2_with fail
   refine hst.mono ?_;clear hst;rintro e _ ⟨rfl,rfl⟩
   go_wp2_with fail
   go_ret;exact⟨by rw[hc'.out];rfl,hx⟩
 have h2:us.length=0:=by
  cases r1:Zad (bl p)
  · have:ZbC (bl p)=[]:=by simp[ZbC,r1]
    rw[this] at hl1;exact absurd hl1 h1
  cases r2:Zad (bl q)
  · have:ZbC (bl q)=[]:=by simp[ZbC,r2]
    rw[this] at hl2;exact hl2
  exact absurd ⟨r1,r2⟩ hr
 obtain rfl:km=0:=em.trans h2;have n1':((kn:Int)==0)=false:=beq_eq_false_iff_ne.2 (by omega);clear ek em hl1 hl2 h1 h2 hkn hkm hr
 go_wp2_with fail
 refine hst.mono ?_;clear hst;rintro e _ ⟨rfl,rfl⟩
 go_wp2_with fail
 go_ret;exact⟨by rw[hc'.out];rfl,hx⟩
end Path
end
end Go.Proofs.YtkdjkngfnapjcaaGreatDoor
section
namespace Go
section
variable {P:Program} {ops:Array Oper} {md:Region.Mode} {ι:Type} {C:ι→World→Prop}
def Oper.quietF (P:Program) (o:Oper) (a:Act) (C:ι→World→Prop) (next:Act→Prop):Prop:=∃v,(∀i w,C i w→o.quietAt P a (C i) w v)∧next (a.put o.dst v)
def ZbW (P:Program) (ops:Array Oper) (C:ι→World→Prop) (Q:Act→Prop):List Oper→Act→Prop
 |[],a=>Q a
 |o::rest,a=>if Region.wanted o (yielded ops a.tmps) then o.quietF P a C (ZbW P ops C Q rest) else ZbW P ops C Q rest (a.put o.dst undef)
def qOpF (P:Program) (ops:Array Oper) (C:ι→World→Prop) (i:Nat) (K:Act→Prop) (a:Act):Prop:=
 match ops[i]? with
 |none=>K a
 |some o=>if Region.wanted o (yielded ops a.tmps) then o.quietF P a C K else K (a.put o.dst undef)
theorem Oper.quietF_mono {o:Oper} {a:Act} {K K':Act→Prop} (h:∀a,K a→K' a) (hh:o.quietF P a C K):o.quietF P a C K':=
 let ⟨v,h1,h2⟩:=hh
 ⟨v,h1,h _ h2⟩
theorem Zkf {i:Nat} {a:Act} {K K':Act→Prop} (h:∀a,K a→K' a) (hh:qOpF P ops C i K a):qOpF P ops C i K' a:=by
 unfold qOpF at *
 split
 · exact h _ (by simpa [*] using hh)
 rename_i o ho
 simp only[ho] at hh
 split
 · rename_i hw;simp only[hw,if_true] at hh;exact Oper.quietF_mono h hh
 rename_i hw;simp only[hw] at hh;exact h _ hh
def Zbp (P:Program) (ops:Array Oper) (C:ι→World→Prop) (o:Oper) (v:Value) (a:Act):Prop:=
 (Region.wanted o (yielded ops a.tmps)=true∧∀i w,C i w→o.quietAt P a (C i) w v)∨
 (Region.wanted o (yielded ops a.tmps)=false∧v=undef)
theorem Zbp.qOp {i:Nat} {o:Oper} {v:Value} {a:Act} (hi:ops[i]? =some o) (hy:Zbp P ops C o v a) {K:Act→Prop} (h:K (a.put o.dst v)):qOpF P ops C i K a:=by
 unfold qOpF;simp only[hi]
 rcases hy with⟨hw,hv⟩|⟨hw,rfl⟩
 · simp only[hw,if_true];exact⟨v,hv,h⟩
 simp only[hw,Bool.false_eq_true,if_false];exact h
theorem Zbp.of_same {o:Oper} {v:Value} {a a':Act} (hy:Zbp P ops C o v a) (he:execOp a'.eval o=execOp a.eval o)
 (hw:Region.wanted o (yielded ops a'.tmps)=Region.wanted o (yielded ops a.tmps)):Zbp P ops C o v a':=by
 unfold Zbp Oper.quietAt at *
 rw[he,hw];exact hy
theorem ZeC {i:Nat} {o:Oper} {a:Act} {K:Act→Prop} (hi:ops[i]? =some o) (h:qOpF P ops C i K a):∃v,Zbp P ops C o v a∧K (a.put o.dst v):=by
 unfold qOpF at h;simp only[hi] at h
 by_cases hw:Region.wanted o (yielded ops a.tmps)=true
 · simp only[hw,if_true] at h
   obtain⟨v,h1,h2⟩:=h;exact⟨v,.inl ⟨hw,h1⟩,h2⟩
 simp only[hw] at h
 exact⟨undef,.inr ⟨by simpa using hw,rfl⟩,h⟩
theorem ZlP {j:Nat} {oi oj:Oper} {v:Value} (hj:ops[j]? =some oj) (hap:oi.apart ops oj=true)
 (hsi:∀cs b,oi.op≠.select cs b) (hsj:∀cs b,oj.op≠.select cs b) {K:Act→Prop} {a:Act}
 (hy:Zbp P ops C oi v a) (h:qOpF P ops C j K (a.put oi.dst v)):
 qOpF P ops C j (fun a'=>Zbp P ops C oi v a'∧K (a'.put oi.dst v)) a:=by
 obtain⟨h1,h2,h3⟩:=Oper.apart_spec hap
 have keep:∀(a:Act),Zbp P ops C oi v a→∀u,Zbp P ops C oi v (a.put oj.dst u):=fun a hy u=>
  hy.of_same (execOp_put oi hsi a oj.dst u h3) (wanted_put oi a oj.dst u h3)
 unfold qOpF at *
 simp only[hj] at *
 rw[wanted_put oj a oi.dst v h1] at h
 split
 · rename_i hw
   simp only[hw,if_true] at h;obtain⟨u,hu,hn⟩:=h;refine⟨u,fun i w hw'=> ?_,keep a hy u,by rw[←Act.put_comm a v u h2];exact hn⟩;have:=hu i w hw'
   unfold Oper.quietAt at *
   rwa [execOp_put oj hsj a oi.dst v h1] at this
 rename_i hw
 simp only[hw] at h;exact⟨keep a hy _,by rw[←Act.put_comm a v undef h2];exact h⟩
def ZbK (P:Program) (md:Region.Mode) (ops:Array Oper) (C:ι→World→Prop) (n:Nat) (L:Array Bool→Act→Prop):Nat→Array Bool→Act→Prop
 |0,listed,a=>L listed a
 |f + 1,listed,a=>(∃i ∈ Region.ready md ops listed,i < n)∧∀i ∈ Region.ready md ops listed,i≠n→i < n∧qOpF P ops C i (ZbK P md ops C n L f (listed.setIfInBounds i true)) a
def tailX (md:Region.Mode) (ops:Array Oper) (n:Nat):Bool:=
 (List.range ops.size).all fun t=>decide (t≤n) || (List.range (n + 1)).all fun i=>Region.waitsFor md ops t i
theorem Zd0 {n:Nat} {listed:Array Bool} (hx:tailX md ops n=true) {i:Nat} (hi:i≤n) (hun:listed.getD i false=false) {t:Nat} (ht:n < t):t ∉ Region.ready md ops listed:=by
 intro hr;obtain⟨_,ot,hot,hall⟩:=mem_ready.1 hr;have htlt:t < ops.size:=(Array.getElem?_eq_some_iff.1 hot).1;have h1:=List.all_eq_true.1 hx t (List.mem_range.2 htlt);simp only[Bool.or_eq_true,decide_eq_true_eq] at h1
 rcases h1 with h1|h1
 · omega
 obtain⟨oj,hoj,e,he,hb,hon⟩:=Region.waitsFor_spec (List.all_eq_true.1 h1 i (List.mem_range.2 (by omega)))
 have:oj=ot:=Option.some.inj (hoj.symm.trans hot);subst this;have:=hall e he hb;rw[hon,hun] at this;cases this
theorem Zgx {n:Nat} {listed:Array Bool} (hx:tailX md ops (n + 1)=true) (hw:Region.waitsFor md ops (n + 1) n=true) (hun:listed.getD n false=false):∀i ∈ Region.ready md ops listed,i≤n:=fun i hi=>by
 rcases Nat.lt_or_ge n i with q|q
 · exfalso
   by_cases e:i=n + 1
   · subst e
     obtain⟨_,ot,hot,hall⟩:=mem_ready.1 hi;obtain⟨oj,hoj,e,he,hb,hon⟩:=Region.waitsFor_spec hw;have:oj=ot:=Option.some.inj (hoj.symm.trans hot);subst this;have:=hall e he hb;rw[hon,hun] at this;cases this
   exact absurd hi (Zd0 hx (i:=n) (by omega) hun (by omega))
 exact q
theorem Zfi {n i:Nat} {oi:Oper} {v:Value} {L:Array Bool→Act→Prop} (hi:ops[i]? =some oi) (hsel:∀(j:Nat) (o:Oper) cs b,ops[j]? =some o→o.op≠.select cs b)
 (hfar:∀listed:Array Bool,listed.getD n false=false→∀i ∈ Region.ready md ops listed,i≤n) (hns:n < ops.size) (hin:i < n) (hdone:∀listed a,L listed a→∀j ∈ Region.ready md ops listed,n≤j):
 ∀(f:Nat) (listed:Array Bool) (a:Act),HeadInv md ops n listed→
  (∀j oj,ops[j]? =some oj→j≠i→listed.getD j true=false→(∀e ∈ oj.after,Region.binds md e=true→e.on≠i)→oi.apart ops oj=true)→
  i ∈ Region.ready md ops listed→Zbp P ops C oi v a→
  ZbK P md ops C n L f (listed.setIfInBounds i true) (a.put oi.dst v)→ZbK P md ops C n L (f + 1) listed a:=by
 intro f
 induction f with
 |zero=>
  intro listed a inv _ hr hy H;have hun:=(mem_ready.1 hr).1;refine⟨⟨i,hr,hin⟩,fun j hj hjx=> ?_⟩
  have hjn:j < n:=by
   have:=hfar _ (getD_both (inv.tail n (Nat.le_refl _) hns)) j hj
   omega
  refine⟨hjn,?_⟩
  by_cases hji:j=i
  · subst hji;exact hy.qOp hi H
  have:=hdone _ _ H j (ready_mono hj hji)
  omega
 |succ f ih=>
  intro listed a inv hfree hr hy H;have hun:=(mem_ready.1 hr).1;refine⟨⟨i,hr,hin⟩,fun j hj hjx=> ?_⟩
  have hjn:j < n:=by
   have:=hfar _ (getD_both (inv.tail n (Nat.le_refl _) hns)) j hj
   omega
  refine⟨hjn,?_⟩
  by_cases hji:j=i
  · subst hji;exact hy.qOp hi H
  have h1:=(H.2 j (ready_mono hj hji) hjx).2
  obtain⟨hjun,oj,hoj,hall⟩:=mem_ready.1 hj
  have hnot:∀e ∈ oj.after,Region.binds md e=true→e.on≠i:=fun e he hb heq=>by
   have h1:=hall e he hb;rw[heq,getD_both hun] at h1;cases h1
  have h2:=ZlP hoj (hfree j oj hoj hji hjun hnot) (fun cs b=>hsel i oi cs b hi) (fun cs b=>hsel j oj cs b hoj) hy h1
  have hfree':∀k ok,ops[k]? =some ok→k≠i→(listed.setIfInBounds j true).getD k true=false→
   (∀e ∈ ok.after,Region.binds md e=true→e.on≠i)→oi.apart ops ok=true:=fun k ok hk hki hun hno=>by
   refine hfree k ok hk hki ?_ hno
   by_cases hjk:j=k
   · subst hjk;exact hjun
   rw[getD_set_ne true hjk] at hun;exact hun
  refine Zkf (fun a' h3=>ih (listed.setIfInBounds j true) a' (inv.set hj hjn) hfree' (ready_mono hr (Ne.symm hji)) h3.1 ?_) h2;rw[Array.setIfInBounds_comm _ _ hji];exact h3.2
theorem ZdV {n:Nat} {Lq:Act→Prop} (hsel:Region.noSelect ops=true) (hfar:∀listed:Array Bool,listed.getD n false=false→∀i ∈ Region.ready md ops listed,i≤n) (hn:n < ops.size):
 ∀(l:List Oper) (k:Nat) (listed:Array Bool) (a:Act),(∀j,j < l.length→l[j]? =ops[k + j]?)→k + l.length=n→HeadInv md ops n listed→(∀j,j < k→listed.getD j false=true)→
 headB md ops l.length k listed=true→ZbW P ops C Lq l a→
 ZbK P md ops C n (fun listed' a'=>listed'=Za3 ops.size n∧Lq a') l.length listed a
 |[],k,listed,a,_,hk,inv,hd,_,h=>by
  have:k=n:=by simpa using hk
  subst this;exact⟨ZkF inv.size hd inv.tail,h⟩
 |o::l,k,listed,a,hl,hk,inv,hd,hB,h=>by
  have h0:ops[k]? =some o:=by simpa using(hl 0 (by simp)).symm
  simp only[List.length_cons,headB,Bool.and_eq_true] at hB;obtain⟨⟨hr,hf⟩,hB'⟩:=hB
  have hkn:k < n:=by simp only[List.length_cons] at hk;omega
  have hr':k ∈ Region.ready md ops listed:=by simpa using hr
  have hst:qOpF P ops C k (ZbW P ops C Lq l) a:=by unfold qOpF;simp only[h0];exact h
  obtain⟨v,hy,hK⟩:=ZeC h0 hst
  have hks:k < listed.size:=by rw[inv.size];omega
  exact Zfi h0 (Region.noSelect_spec hsel) hfar hn hkn (fun listed' a' hL=>by rw[hL.1];exact Zdu) l.length listed a inv (Region.free_spec h0 hf) hr' hy
   (ZdV hsel hfar hn l (k + 1) _ _ (fun j hj=>by have:=hl (j + 1) (by simp;omega);simpa [Nat.add_assoc,Nat.add_comm 1 j] using this) (by simp only[List.length_cons] at hk;omega) (inv.set hr' hkn)
     (fun j hj=>by
       by_cases hjk:j=k
       · subst hjk;simp[hks]
       rw[getD_set_ne false (Ne.symm hjk)];exact hd j (by omega)) hB' hK)
theorem Zdo {i:Nat} {o:Oper} {a:Act} {K:Act→Prop} {K':Act→World→Prop} {Q':Exit→Act→World→Prop} {w:World} {R:ι} {on:Oper} {p:Value} (ho:ops[i]? =some o) (hap:on.apart ops o=true) (hsel:∀cs b,o.op≠.select cs b)
 (hC:C R w) (h:∀a w',C R w'→K a→K' (a.put on.dst p) w') (hh:qOpF P ops C i K a):wpOp P ops Q' i K' (a.put on.dst p) w:=by
 obtain⟨h1,h2,_⟩:=Oper.apart_spec hap;unfold qOpF at hh;unfold wpOp;simp only[ho] at hh ⊢;rw[wanted_put o a on.dst p h1]
 split
 · rename_i hw
   simp only[hw,if_true] at hh;obtain⟨v,hv,hn⟩:=hh;have h3:=hv R w hC
   left
   unfold Oper.quietAt at h3;unfold Oper.wp;rw[execOp_put o hsel a on.dst p h1]
   generalize (execOp a.eval o).run P w=r at *
   cases r with
   |ok n w'=>
    cases n<;>simp only[Oper.quietUpon] at h3<;>simp only[Oper.upon]
    case value u=>
     obtain⟨e1,e2⟩:=h3;rw[e1,e2,Act.put_comm a p v h2];exact h _ _ hC hn
    case skip=>
     obtain⟨e1,e2⟩:=h3;rw[e1,←e2,Act.put_comm a p v h2];exact h _ _ hC hn
    case enter f args=>
     obtain⟨e1,hc⟩:=h3;rw[e1]
     refine hc.mono fun e w'' ⟨he,hw''⟩=> ?_
     subst he;show K' ((a.put on.dst p).put o.dst v) w'';rw[Act.put_comm a p v h2];exact h _ _ hw'' hn
   |halt x w'=>simp only[Oper.quietUpon] at h3
 rename_i hw
 simp only[hw] at hh;rw[Act.put_comm a p undef h2];exact h _ _ hC hh
theorem Zfd {i:Nat} {a:Act} {K:Act→Prop} {K':Act→World→Prop} {Q':Exit→Act→World→Prop} {w:World} {R:ι} (hC:C R w) (h:∀a w',C R w'→K a→K' a w') (hh:qOpF P ops C i K a):wpOp P ops Q' i K' a w:=
 wpOp_of_qOp (C:=C R) hC h (by
  unfold qOpF at hh;unfold qOp
  split
  · rename_i ho;simpa only[ho] using hh
  rename_i o ho
  simp only[ho] at hh
  split
  · rename_i hw
    simp only[hw,if_true] at hh;obtain⟨v,hv,hn⟩:=hh;exact⟨v,fun w hw=>hv R w hw,hn⟩
  rename_i hw
  rw[if_neg hw] at hh
  exact hh)
def freeX (md:Region.Mode) (ops:Array Oper) (n:Nat):Bool:=
 match ops[n]?,ops[n + 1]? with
 |some on,some os=>on.after.isEmpty&&on.guard.isNone&&os.guard.isNone&&os.dst.isNone&&os.after.all (fun e=> !Region.binds md e || decide (e.on≤n))&&Region.waitsFor md ops (n + 1) n&&(List.range n).all fun i=> !Region.waitsFor md ops i n&& !Region.waitsFor md ops i (n + 1)&&(match ops[i]? with
  |some o=>on.apart ops o&&(Region.waitsFor md ops (n + 1) i || (match o.dst with|some d=> !(os.looksAt ops).contains d|none=>true))
  |none=>true)
 |_,_=>false
structure FreeX (md:Region.Mode) (ops:Array Oper) (n:Nat) (on os:Oper):Prop where
 hon:ops[n]? =some on
 hos:ops[n + 1]? =some os
 after:on.after= #[]
 guard:on.guard=none
 guards:os.guard=none
 dst:os.dst=none
 waits:Region.waitsFor md ops (n + 1) n=true
 apart:∀i o,i < n→ops[i]? =some o→on.apart ops o=true
 no:∀i o,i < n→ops[i]? =some o→∀e ∈ o.after,Region.binds md e=true→e.on≠n∧e.on≠n + 1
 reads:∀i o,i < n→ops[i]? =some o→Region.waitsFor md ops (n + 1) i=true∨∀d,o.dst=some d→d ∉ os.looksAt ops
 back:∀e ∈ os.after,Region.binds md e=true→e.on≤n
theorem Zjx {n:Nat} (h:freeX md ops n=true):∃on os,FreeX md ops n on os:=by
 unfold freeX at h
 split at h
 · rename_i on os ho hs
   simp only[Bool.and_eq_true,List.all_eq_true,Array.isEmpty_iff,Option.isNone_iff_eq_none] at h;obtain⟨⟨⟨⟨⟨⟨h1,h2⟩,h3⟩,h4⟩,h9⟩,h5⟩,h6⟩:=h
   have no:∀i o m,ops[i]? =some o→(!Region.waitsFor md ops i m)=true→∀e ∈ o.after,Region.binds md e=true→e.on≠m:=fun i o m hio hw e he hb heq=>by
    have h3:Region.waitsFor md ops i m=false:=by simpa using hw
    unfold Region.waitsFor at h3;rw[hio] at h3;simp only[Array.any_eq_false'] at h3;exact h3 e he (by simp[hb,heq])
   refine⟨on,os,ho,hs,h1,h2,h3,h4,h5,fun i o hi hio=> ?_,fun i o hi hio e he hb=> ?_,fun i o hi hio=> ?_,fun e he hb=> ?_⟩
   · have h7:=h6 i (List.mem_range.2 hi)
     rw[hio] at h7;simp only[Bool.and_eq_true] at h7;exact h7.2.1
   · have h7:=h6 i (List.mem_range.2 hi)
     exact⟨no i o n hio h7.1.1 e he hb,no i o (n + 1) hio h7.1.2 e he hb⟩
   · have h7:=h6 i (List.mem_range.2 hi)
     rw[hio] at h7;simp only[Bool.and_eq_true,Bool.or_eq_true] at h7
     rcases h7.2.2 with h8|h8
     · exact .inl h8
     right
     intro d hd;rw[hd] at h8
     simpa using h8
   have:=Array.all_eq_true'.1 h9 e he
   simpa [hb] using this
 cases h
theorem Zd5 {n:Nat} {a1:Act} {d:Tmp} (i0:ι) (hst:∀i o,i < n→ops[i]? =some o→o.dst=none→True):∀(f:Nat) (listed:Array Bool) (a:Act),
 (∀i o,i < n→ops[i]? =some o→listed.getD i false=false→o.dst≠some d)→ZbK P md ops C n (fun listed' a'=>listed'=Za3 ops.size n∧a'=a1) f listed a→a.tmps[d]? =a1.tmps[d]?
 |0,listed,a,_,h=>by rw[h.2]
 |f + 1,listed,a,hd,h=>by
  obtain⟨⟨i,hi,hin⟩,h⟩:=h;obtain⟨hun,o,ho,_⟩:=mem_ready.1 hi;have h1:=(h i hi (by omega)).2;have hne:=hd i o hin ho (getD_both hun)
  have key:∀v,(a.put o.dst v).tmps[d]? =a.tmps[d]? :=fun v=>by
   cases hq:o.dst with
   |none=>rfl
   |some t=>
    have:t≠d:=fun e=>hne (by rw[hq,e])
    simp[Act.put,Array.getElem?_setIfInBounds_ne this]
  have hd':∀j o',j < n→ops[j]? =some o'→(listed.setIfInBounds i true).getD j false=false→o'.dst≠some d:=fun j o' hj hjo hl=>by
   by_cases hij:i=j
   · subst hij
     rw[hjo] at ho;cases ho;exact hne
   rw[getD_set_ne false hij] at hl;exact hd j o' hj hjo hl
  unfold qOpF at h1;simp only[ho] at h1
  split at h1
  · obtain⟨v,_,h2⟩:=h1
    rw[←Zd5 i0 hst f _ _ hd' h2,key]
  rw[←Zd5 i0 hst f _ _ hd' h1,key]
section
variable {n g:Nat} {on os:Oper} {p:Value} {a1:Act} {Q':Exit→Act→World→Prop}
theorem Zhe {R:ι} (hX:FreeX md ops n on os) (hsel:∀(j:Nat) (o:Oper) cs b,ops[j]? =some o→o.op≠.select cs b) (hx:tailX md ops (n + 1)=true)
 (hfin:∀w',C R w'→wpAny P md ops Q' g (((Za3 ops.size n).setIfInBounds n true).setIfInBounds (n + 1) true) (a1.put on.dst p) w'):
 ∀(f:Nat) (listed:Array Bool) (a:Act) (w:World),C R w→ZbK P md ops C n (fun listed' a'=>listed'=Za3 ops.size n∧a'=a1) f listed a→wpAny P md ops Q' (f + g) ((listed.setIfInBounds n true).setIfInBounds (n + 1) true) (a.put on.dst p) w
 |0,listed,a,w,hC,h=>by
  obtain⟨rfl,h⟩:=h;rw[Nat.zero_add,h];exact hfin _ hC
 |f + 1,listed,a,w,hC,h=>by
  rw[show f + 1 + g=(f + g) + 1 by omega];obtain⟨⟨i0,hi0,hi0n⟩,h⟩:=h;have hun:=(mem_ready.1 hi0).1;refine⟨fun h0=> ?_,fun i hi=> ?_⟩
  · have:=ready_mono (i:=n + 1) (ready_mono (i:=n) hi0 (by omega)) (by omega)
    rw[h0] at this;cases this
  obtain⟨hiun,o,ho,hall⟩:=mem_ready.1 hi
  have nots:∀(l:Array Bool) (m:Nat),(l.setIfInBounds m true).getD m true=true:=fun l m=>by
   rcases Nat.lt_or_ge m l.size with q|q
   · simp[q]
   rw[Array.getD_eq_getD_getElem?,Array.getElem?_eq_none (by simpa using q)];rfl
  have hin1:i≠n + 1:=by
   rintro rfl;rw[nots] at hiun;cases hiun
  rw[getD_set_ne true (Ne.symm hin1)] at hiun
  have hin:i≠n:=by
   rintro rfl;rw[nots] at hiun;cases hiun
  rw[getD_set_ne true (Ne.symm hin)] at hiun
  have hlt:i < n:=by
   rcases Nat.lt_or_ge i n with q|q
   · exact q
   refine absurd hi (Zd0 hx (i:=i0) (by omega) ?_ (by omega));rw[getD_set_ne false (by omega),getD_set_ne false (by omega)];exact getD_both hun
  have hi':i ∈ Region.ready md ops listed:=by
   rw[mem_ready];refine⟨hiun,o,ho,fun e he hb=> ?_⟩;have:=hall e he hb;obtain⟨q1,q2⟩:=hX.no i o hlt ho e he hb
   rwa [getD_set_ne false (Ne.symm q2),getD_set_ne false (Ne.symm q1)] at this
  refine Zdo ho (hX.apart i o hlt ho) (fun cs b=>hsel i o cs b ho) hC (fun a' w' hC' h'=> ?_) (h i hi' hin).2;rw[Array.setIfInBounds_comm _ _ (Ne.symm hin1),Array.setIfInBounds_comm _ _ (Ne.symm hin)];exact Zhe hX hsel hx hfin f _ a' w' hC' h'
theorem ZmH {R:ι} (hX:FreeX md ops n on os) (hsel:∀(j:Nat) (o:Oper) cs b,ops[j]? =some o→o.op≠.select cs b) (hx:tailX md ops (n + 1)=true)
 (hst:∀w,C R w→∃(R2:ι) (w':World),(execOp (Act.eval (a1.put on.dst p)) os).run P w=.ok .skip w'∧C R2 w'∧
   ∀w'',C R2 w''→wpAny P md ops Q' g (((Za3 ops.size n).setIfInBounds n true).setIfInBounds (n + 1) true) (a1.put on.dst p) w''):
 ∀(f:Nat) (listed:Array Bool) (a:Act) (w:World),HeadInv md ops n listed→C R w→ZbK P md ops C n (fun listed' a'=>listed'=Za3 ops.size n∧a'=a1) f listed a→wpAny P md ops Q' (f + 1 + g) (listed.setIfInBounds n true) (a.put on.dst p) w:=by
 intro f
 induction f with
 |zero=> ?_
 |succ f ih=> ?_
 all_goals
  intro listed a w inv hC h;have hss:n + 1 < ops.size:=(Array.getElem?_eq_some_iff.1 hX.hos).1
  have hnl:n < listed.size:=by rw[inv.size];omega
  have h1un:(listed.setIfInBounds n true).getD (n + 1) false=false:=by
   rw[getD_set_ne false (by omega)];exact getD_both (inv.tail (n + 1) (by omega) hss)
  have store:∀f',ZbK P md ops C n (fun listed' a'=>listed'=Za3 ops.size n∧a'=a1) f' listed a→n + 1 ∈ Region.ready md ops (listed.setIfInBounds n true)→
   wpOp P ops Q' (n + 1) (wpAny P md ops Q' (f' + g) ((listed.setIfInBounds n true).setIfInBounds (n + 1) true)) (a.put on.dst p) w:=fun f' h hr=>by
   obtain⟨R2,w',hrun,hR2,hfin⟩:=hst w hC;obtain⟨_,os',hos',hall⟩:=mem_ready.1 hr;have hoe:os'=os:=Option.some.inj (hos'.symm.trans hX.hos);subst hoe
   have hev:execOp (Act.eval (a.put on.dst p)) os'=execOp (Act.eval (a1.put on.dst p)) os':=execOp_congr os' (fun cs b=>hsel _ _ cs b hos') fun x hxm=>by
    cases x with
    |tmp t=>
     have hlook:t ∈ os'.looksAt ops:=List.mem_append_left _ (List.mem_filterMap.2 ⟨.tmp t,by simpa using hxm,rfl⟩)
     have hk:a.tmps[t]? =a1.tmps[t]? :=Zd5 R (fun _ _ _ _ _=>trivial) f' listed a (fun i o hi ho hl hd=>by
      rcases hX.reads i o hi ho with q|q
      · obtain⟨oj,hoj,e,he,hb,hon⟩:=Region.waitsFor_spec q
        have:oj=os':=Option.some.inj (hoj.symm.trans hos');subst this;have:=hall e he hb;rw[hon,getD_set_ne false (by omega),hl] at this;cases this
      exact q t hd hlook) h
     have hps:∀(c:Act),(c.put on.dst p).tmps[t]? =if on.dst=some t∧t < c.tmps.size then some p else c.tmps[t]? :=fun c=>by
      cases hd:on.dst with
      |none=>simp[Act.put]
      |some u=>
       by_cases hu:u=t
       · subst hu
         by_cases hz:u < c.tmps.size<;>simp[Act.put,hz]
       simp[Act.put,Array.getElem?_setIfInBounds_ne hu,hu]
     have hsz:t < a.tmps.size↔t < a1.tmps.size:=by
      constructor
      · intro q
        rw[Array.getElem?_eq_getElem q] at hk;exact(Array.getElem?_eq_some_iff.1 hk.symm).1
      intro q;rw[Array.getElem?_eq_getElem q] at hk;exact(Array.getElem?_eq_some_iff.1 hk).1
     show(a.put on.dst p).tmps.getD t undef=(a1.put on.dst p).tmps.getD t undef;rw[Array.getD_eq_getD_getElem?,Array.getD_eq_getD_getElem?,hps,hps,hk];simp only[hsz]
    |_=>rfl
   refine Zga hos' (by unfold Region.wanted;rw[hX.guards]) (by rw[hev];exact hrun) ?_;rw[hX.dst];exact Zhe hX hsel hx hfin f' listed a w' hR2 h
  have far:∀i,i ∈ Region.ready md ops (listed.setIfInBounds n true)→i≠n∧¬n + 1 < i:=fun i hi=>by
   refine⟨?_,fun q=>absurd hi (Zd0 hx (Nat.le_refl _) h1un q)⟩;rintro rfl;have:=(mem_ready.1 hi).1;simp[hnl] at this
 · rw[show 0 + 1 + g=(0 + g) + 1 by omega]
   have hlast:∀i,i ∈ Region.ready md ops (listed.setIfInBounds n true)→i=n + 1:=fun i hi=>by
    have:=far i hi
    rcases Nat.lt_or_ge i n with q|q
    · have hun:=(mem_ready.1 hi).1
      rw[getD_set_ne true (by omega),h.1] at hun;simp[Za3,show i < ops.size by omega,q] at hun
    omega
   have hrs:n + 1 ∈ Region.ready md ops (listed.setIfInBounds n true):=by
    rw[mem_ready];refine⟨by rw[getD_set_ne true (by omega)];exact inv.tail (n + 1) (by omega) hss,os,hX.hos,fun e he hb=> ?_⟩;have:=hX.back e he hb
    by_cases q:e.on=n
    · rw[q];simp[hnl]
    rw[getD_set_ne false (Ne.symm q),h.1];simp[Za3,show e.on < ops.size by omega,show e.on < n by omega]
   refine⟨fun h0=>by rw[h0] at hrs;(cases hrs),fun i hi=> ?_⟩;have e:=hlast i hi;subst e;exact store 0 h hi
 rw[show f + 1 + 1 + g=(f + 1 + g) + 1 by omega]
 obtain⟨⟨i0,hi0,hi0n⟩,h'⟩:=id h;refine⟨fun h0=> ?_,fun i hi=> ?_⟩
 · have:=ready_mono (i:=n) hi0 (by omega)
   rw[h0] at this;cases this
 have hfar:=far i hi
 by_cases hs:i=n + 1
 · subst hs
   exact store (f + 1) h hi
 have hlt:i < n:=by omega
 obtain⟨hiun,o,ho,hall⟩:=mem_ready.1 hi;rw[getD_set_ne true (by omega)] at hiun
 have hi':i ∈ Region.ready md ops listed:=by
  rw[mem_ready];refine⟨hiun,o,ho,fun e he hb=> ?_⟩;have:=hall e he hb
  rwa [getD_set_ne false (Ne.symm (hX.no i o hlt ho e he hb).1)] at this
 refine Zdo ho (hX.apart i o hlt ho) (fun cs b=>hsel i o cs b ho) hC (fun a' w' hC' hh=> ?_) (h' i hi' (by omega)).2;rw[Array.setIfInBounds_comm _ _ (show n≠i by omega)];exact ih _ a' w' (inv.set hi' hlt) hC' hh
theorem Zh3 {R0:ι} (hX:FreeX md ops n on os) (hsel:∀(j:Nat) (o:Oper) cs b,ops[j]? =some o→o.op≠.select cs b) (hx:tailX md ops (n + 1)=true)
 (hal:∀a w,C R0 w→∃(p:Value) (R:ι) (w':World),(execOp (Act.eval a) on).run P w=.ok (.value p) w'∧C R w'∧
   ∀w,C R w→∃(R2:ι) (w':World),(execOp (Act.eval (a1.put on.dst p)) os).run P w=.ok .skip w'∧C R2 w'∧
   ∀w'',C R2 w''→wpAny P md ops Q' g (((Za3 ops.size n).setIfInBounds n true).setIfInBounds (n + 1) true) (a1.put on.dst p) w''):
 ∀(f:Nat) (listed:Array Bool) (a:Act) (w:World),HeadInv md ops n listed→C R0 w→ZbK P md ops C n (fun listed' a'=>listed'=Za3 ops.size n∧a'=a1) f listed a→wpAny P md ops Q' (f + 2 + g) listed a w:=by
 intro f
 induction f with
 |zero=> ?_
 |succ f ih=> ?_
 all_goals
  intro listed a w inv hC h;have hns:n < ops.size:=(Array.getElem?_eq_some_iff.1 hX.hon).1;have hnr:n ∈ Region.ready md ops listed:=mem_ready.2 ⟨inv.tail n (Nat.le_refl _) hns,on,hX.hon,fun e he=>by rw[hX.after] at he;simp at he⟩;have hnun:listed.getD n false=false:=getD_both (inv.tail n (Nat.le_refl _) hns);have far:=Zgx hx hX.waits hnun
  have alloc:∀f',ZbK P md ops C n (fun listed' a'=>listed'=Za3 ops.size n∧a'=a1) f' listed a→wpOp P ops Q' n (wpAny P md ops Q' (f' + 1 + g) (listed.setIfInBounds n true)) a w:=fun f' h=>by
   obtain⟨p,R,w',hrun,hR,hfin⟩:=hal a w hC;refine Zcl hX.hon (by unfold Region.wanted;rw[hX.guard]) hrun ?_;exact ZmH hX hsel hx hfin f' listed a w' inv hR h
 · rw[show 0 + 2 + g=(0 + 1 + g) + 1 by omega]
   refine⟨fun h0=>by rw[h0] at hnr;(cases hnr),fun i hi=> ?_⟩;have hle:=far i hi
   by_cases hin:i=n
   · subst hin;exact alloc 0 h
   exact absurd (Zdu i (by rw[←h.1];exact hi)) (by omega)
 rw[show f + 1 + 2 + g=(f + 1 + 1 + g) + 1 by omega]
 refine⟨fun h0=>by rw[h0] at hnr;(cases hnr),fun i hi=> ?_⟩;have hle:=far i hi
 by_cases hin:i=n
 · subst hin;exact alloc (f + 1) h
 have hlt:i < n:=by omega
 refine Zfd hC (fun a' w' hC' h'=> ?_) (h.2 i hi hin).2;have:=ih _ a' w' (inv.set hi hlt) hC' h'
 rwa [show f + 2 + g=f + 1 + 1 + g by omega] at this
end
structure FreeS (md:Region.Mode) (ops:Array Oper) (n:Nat) (os:Oper):Prop where
 hos:ops[n]? =some os
 guards:os.guard=none
 dst:os.dst=none
 no:∀i o,i < n→ops[i]? =some o→∀e ∈ o.after,Region.binds md e=true→e.on≠n
 reads:∀i o,i < n→ops[i]? =some o→Region.waitsFor md ops n i=true∨∀d,o.dst=some d→d ∉ os.looksAt ops
 back:∀e ∈ os.after,Region.binds md e=true→e.on < n
section
variable {n g:Nat} {os:Oper} {a1:Act} {Q':Exit→Act→World→Prop}
end
def dstB (m:Nat):List Oper→Bool
 |[]=>true
 |o::l=>(match o.dst with|some d=>decide (d < m)&&l.all (fun p=>p.dst != some d)|none=>false)&&dstB m l
theorem Ziu (a:Act) (x:Option Tmp) (v:Value):(a.put x v).tmps.size=a.tmps.size:=by cases x<;>simp[Act.put]
theorem Zb7 {D:World→Prop} {a1:Act} {d:Tmp}:∀(l:List Oper) (a:Act),l.all (fun p=>p.dst != some d)=true→wpQuiet P ops D (fun a'=>a'=a1) l a→a1.tmps[d]? =a.tmps[d]?
 |[],a,_,h=>by rw[show a=a1 from h]
 |o::l,a,hd,h=>by
  simp only[List.all_cons,Bool.and_eq_true,bne_iff_ne,ne_eq] at hd
  have key:∀v,(a.put o.dst v).tmps[d]? =a.tmps[d]? :=fun v=>by
   cases ho:o.dst with
   |none=>rfl
   |some t=>
    have:t≠d:=fun e=>hd.1 (by rw[ho,e])
    simp[Act.put,Array.getElem?_setIfInBounds_ne this]
  unfold wpQuiet at h
  split at h
  · obtain⟨v,_,h⟩:=h
    rw[Zb7 l _ hd.2 h,key]
  rw[Zb7 l _ hd.2 h,key]
theorem ZcB {a1:Act} (i0:ι):∀(l:List Oper) (a:Act),(∀i,wpQuiet P ops (C i) (fun a'=>a'=a1) l a)→dstB a.tmps.size l=true→ZbW P ops C (fun a'=>a'=a1) l a
 |[],a,h,_=>h i0
 |o::l,a,h,hd=>by
  unfold dstB at hd;simp only[Bool.and_eq_true] at hd;obtain⟨hd1,hd2⟩:=hd;unfold ZbW;unfold wpQuiet at h
  split
  · rename_i hw
    simp only[hw,if_true] at h
    cases ho:o.dst with
    |none=>rw[ho] at hd1;cases hd1
    |some d=>
     rw[ho] at hd1;simp only[Bool.and_eq_true,decide_eq_true_eq] at hd1
     have hv:∀i v,wpQuiet P ops (C i) (fun a'=>a'=a1) l (a.put o.dst v)→a1.tmps[d]? =some v:=fun i v hq=>by
      rw[Zb7 l _ hd1.2 hq,ho];simp[Act.put,hd1.1]
     obtain⟨v0,_,hr0⟩:=h i0;have e0:=hv i0 v0 hr0
     have hall:∀i,(∀w,C i w→o.quietAt P a (C i) w v0)∧wpQuiet P ops (C i) (fun a'=>a'=a1) l (a.put o.dst v0):=fun i=>by
      obtain⟨v,hq,hr⟩:=h i;have e:=hv i v hr;rw[e0] at e;cases e;exact⟨hq,hr⟩
     refine⟨v0,fun i=>(hall i).1,ZcB i0 l _ (fun i=>(hall i).2) (by rw[Ziu];exact hd2)⟩
  rename_i hw
  simp only[hw] at h;exact ZcB i0 l _ h (by rw[Ziu];exact hd2)
end
end Go
namespace Go.Proofs.YtkdjkngfnapjcaaGreatDoor
section
variable {P:Program} {L0 L:List Part} {w0:World}
abbrev Zm6 (L0:List Part) (w0:World) (L:List Part):Type:={R:Part // ∃w,At L0 w0 (R::L) w}
theorem ZlF (vs us:List Value) (h:us.length=vs.length):setL vs 0 us=us:=by
 apply List.ext_getElem?
 intro j
 by_cases hj:j < us.length
 · have:=Zj3 us vs 0 j (by omega) hj
   rwa [Nat.zero_add] at this
 rw[List.getElem?_eq_none (by rw[Zd8];omega),List.getElem?_eq_none (by omega)]
theorem Za4 {id:Nat} {Q:Exit→Act→World→Prop} {a a1:Act} {w:World} {l:List Oper} (n:Nat) (d:Tmp) (E:TypeId) (y:Operand) (z:Value) (vs us:List Value) (hm:P.follows .mixedOrders=true)
 (hB:(Region.noSelect l.toArray&&tailX .any l.toArray (n + 1)&&freeX .any l.toArray n&&headB .any l.toArray n 0 (Array.replicate l.toArray.size false)&&dstB a.tmps.size (l.take n)&&Region.seqB .any l.toArray (l.length - (n + 2)) (n + 2) (((Za3 l.toArray.size n).setIfInBounds n true).setIfInBounds (n + 1) true))=true)
 (ho:(l[n]?).map (fun o=>(o.dst,o.op))=some (some d,.alloc E)) (hs:(l[n + 1]?).map (fun o=>o.op)=some (.store E (.tmp d) y)) (hyd:(match y with|.tmp t=>t != d|_=>true)=true) (hz:(P.info? E).map (·.zero)=some (some z)) (hv:z.cells=vs.toArray)
 (hA:At L0 w0 L w)
 (h1:∀(R:Part) (wR:World),At L0 w0 (R::L) wR→wpQuiet P l.toArray (Cl L0 w0 (R::L)) (fun a'=>a'=a1) (l.take n) a)
 (hd:d < a1.tmps.size) {v:Value} (hy:a1.eval y=v) (hu:v.cells=us.toArray) (hsz:(P.info? E).map (·.size)=some us.length) (hus:us.all (·.oneCell')=true) (hl:us.length=vs.length)
 (h2:∀b w',At L0 w0 (Part.cells b us E::L) w'→w0.heap.size≤b→wpList P l.toArray Q (l.drop (n + 2)) (a1.put (some d) (.pointer (some ⟨b,0,none⟩))) w'):(Code.region id l.toArray true).wp P Q a w:=by
 simp only[Bool.and_eq_true] at hB;obtain⟨⟨⟨⟨⟨hsel,hx⟩,hfx⟩,hhead⟩,hdst⟩,hseq⟩:=hB;obtain⟨on,os,hX⟩:=Zjx hfx
 have hss:n + 1 < l.length:=by simpa using(Array.getElem?_eq_some_iff.1 hX.hos).1
 have hon':l[n]? =some on:=by simpa using hX.hon
 have hos':l[n + 1]? =some os:=by simpa using hX.hos
 rw[hon'] at ho;rw[hos'] at hs;simp only[Option.map_some,Option.some.injEq,Prod.mk.injEq] at ho hs;obtain⟨hod,hop⟩:=ho
 have htl:(l.take n).length=n:=by simp;omega
 have hA0:At L0 w0 (Part.fact True::L) w.drew:=hA.drew.new (Ext.refl _) (Part.fact True) trivial (fun _ e=>e.elim)
 let C:Zm6 L0 w0 L→World→Prop:=fun R w=>At L0 w0 (R.1::L) w
 let R0:Zm6 L0 w0 L:=⟨Part.fact True,w.drew,hA0⟩
 have inv0:HeadInv .any l.toArray n (Array.replicate l.toArray.size false):=
  ⟨by simp,fun j oj _ hl=>(by rw[getD_replicate_false] at hl;cases hl),fun t _ ht=>getD_in (by simpa using ht) (getD_replicate_false _ _)⟩
 have hq:ZbW P l.toArray C (fun a'=>a'=a1) (l.take n) a:=ZcB R0 _ _ (fun R=>by
  obtain⟨R,wR,hR⟩:=R
  exact h1 R wR hR) hdst
 have H:=ZdV (C:=C) (md:=.any) hsel (fun _ hun=>Zgx hx hX.waits hun) (by simp;omega) (l.take n) 0 _ a (fun j hj=>by
  have hj':j < n:=by rw[htl] at hj;exact hj
  simp[hj']) (by simpa using htl) inv0 (fun j hj=>by omega) (by rw[htl];exact hhead) hq
 refine wp_region_any hm ?_
 have hdl:(l.drop (n + 2)).length=l.length - (n + 2):=by simp
 have key:=Zh3 (C:=C) (Q':=Q) (R0:=R0) (g:=l.length - (n + 2)) hX (Region.noSelect_spec hsel) hx (fun a w hC=>by
  have hC':At L0 w0 L w:=At.sub hC (List.sublist_cons_self _ _);have hnew:=hC'.alloc vs E;refine⟨.pointer (some ⟨w.heap.size,0,none⟩),⟨Part.cells w.heap.size vs E,_,hnew⟩,_,?_,hnew,fun w1 hw1=> ?_⟩
  · cases hq:P.info? E with
    |none=>simp[hq] at hz
    |some i=>
     have hi:i.zero=some z:=by simpa [hq] using hz
     simp[execOp,hop,Instr.alloc,zeroValue,typeInfo,hq,hi,newVar,newRow,hv,Result.andThen]
  have hb:Zaa w1 w.heap.size vs E:=At.get (A:=Part.cells w.heap.size vs E) hw1 .here;have hsto:=At.stores hw1 (b:=w.heap.size) (c:=vs) (T:=E) .here 0 us;have hset:setL vs 0 us=us:=ZlF vs us hl;rw[hset] at hsto
  have hvs:v.cells.size=us.length:=by rw[hu];simp
  have hrun:=ZaU (P:=P) w1 w.heap.size 0 E v (hb.there 0 _ (by omega)) (by rw[hvs];exact hsz) (by
   rw[hu,Array.all_eq_true_iff_forall_mem];intro u hu'
   exact List.all_eq_true.1 hus u (by simpa using hu'))
  rw[show v.cells.toList=us from by rw[hu]] at hrun
  have ed:(a1.put on.dst (.pointer (some ⟨w.heap.size,0,none⟩))).eval (.tmp d)=.pointer (some ⟨w.heap.size,0,none⟩):=by
   rw[hod];simp[Act.put,Act.eval,hd]
  have ey:(a1.put on.dst (.pointer (some ⟨w.heap.size,0,none⟩))).eval y=v:=by
   rw[←hy]
   refine Act.eval_put fun t ht e=> ?_
   rw[hod] at ht;cases ht;subst e
   simp at hyd
  refine⟨⟨Part.cells w.heap.size us E,_,hsto⟩,_,?_,hsto,fun w'' hw''=> ?_⟩
  · simp[execOp,hs,ed,ey,hrun,Result.andThen]
  have:=wpAny_of_seq (P:=P) (ops:=l.toArray) (md:=.any) (Q':=Q) (l.drop (n + 2)) (n + 2) (((Za3 l.toArray.size n).setIfInBounds n true).setIfInBounds (n + 1) true) (a1.put on.dst (.pointer (some ⟨w.heap.size,0,none⟩))) w'' (fun j=>by simp[List.getElem?_drop]) (by rw[hdl];exact hseq) (by
   rw[hod]
   exact h2 _ _ hw'' hC'.size)
  rwa [hdl] at this) _ _ _ _ inv0 hA0 H
 rw[htl,show n + 2 + (l.length - (n + 2))=l.toArray.size by simp;omega] at key;exact key
end
section
open Go.Maps (Keyed)
variable {P:Program} {k:TypeId} {b:Nat} {es:List (Value × Value)} {o:Oper} {a:Act} {L0 L F:List Part} {w0:World} {K:Act→Prop}
theorem ZbH {t:TypeId} {m x:Operand} (hop:o.op=.lookup t m x true) (hm:a.eval m=.map (some b)) {key:Value} (hx:a.eval x=key)
 (s:Sel (Part.map P k b es) L F) {e:TypeId} (Kd:Keyed P k) (ht:P.underlying t=some (.map k e)) {kl:Lit} (hk:keyOf P k key=some kl) (hn:∀p ∈ es,p.1≠key) {z:Value} (hz:∀w,(zeroValue e).run P w=.ok z w)
 (hK:K (a.put o.dst (.tuple #[z,.bool false]))):o.quiet P a (Cl L0 w0 L) K:=by
 refine ZcN _ (fun w' hw=> ?_) hK;have hM:MapAt P k w' b es:=hw.get s;simp[execOp,hop,hm,hx,hM.look_none Kd ht hk hn (hz w') true,Result.andThen]
theorem ZbG {t:TypeId} {m x:Operand} (hop:o.op=.lookup t m x true) (hm:a.eval m=.map (some b)) {key:Value} (hx:a.eval x=key)
 (s:Sel (Part.map P k b es) L F) {e:TypeId} (Kd:Keyed P k) (ht:P.underlying t=some (.map k e)) {kl:Lit} (hk:keyOf P k key=some kl) {v:Value} (hn:(key,v) ∈ es)
 (hK:K (a.put o.dst (.tuple #[v,.bool true]))):o.quiet P a (Cl L0 w0 L) K:=by
 refine ZcN _ (fun w' hw=> ?_) hK;have hM:MapAt P k w' b es:=hw.get s;simp[execOp,hop,hm,hx,hM.look_some Kd ht hk hn true,Result.andThen]
end
end Go.Proofs.YtkdjkngfnapjcaaGreatDoor
end
