import Derived.Test.YtknoefbcmomalaaGreatDoorP2
set_option linter.unusedSimpArgs false
set_option linter.unusedVariables false
set_option maxRecDepth 100000
set_option maxHeartbeats 16000000
namespace Go.Proofs.YtknoefbcmomalaaGreatDoor
section
section
def resW {α:Type}:Result α→World
 |.ok _ w=>w
 |.halt _ w=>w
theorem Zem {α:Type}:∀(x:Ask α) (w:World),w.drawn≤(w.ask x).2.drawn
 |.done a,w=>Nat.le_refl _
 |.ask what range k,w=>by
  unfold World.ask;simp only[];split
  · exact Zem _ _
  exact Nat.le_trans (Nat.le_succ _) (Zem _ {w with drawn:=w.drawn + 1})
theorem Zf8 (w:World) (c:Sys):w.drawn≤(w.sys c).2.drawn:=by
 unfold World.sys;have h:=Zem (Kernel.perform c w.os) w;split
 · exact Nat.le_refl _
 rename_i he;rw[he] at h;exact h
theorem ZdT {p:Program} {w:World} {at_:Addr} {u:TypeId} {k:Addr} {v:Value} {atomic:Bool} {r:World × List Addr} (h:w.viewStore p at_ u k v atomic=.ok r):r.1.drawn=w.drawn:=by
 unfold World.viewStore at h;simp only[bind,Except.bind,pure,Except.pure,throw,throwThe,MonadExceptOf.throw] at h
 repeat' first
  |(cases h;done)
  |(cases h;rfl)
  |(simp at h;done)
  |split at h
theorem Zey {p:Program} {w:World} {a:Addr} {v:Value} {atomic:Bool} {r:World × List Addr} (h:w.farStore p a v atomic=.ok r):r.1.drawn=w.drawn:=by
 unfold World.farStore at h;split at h
 · split at h
   · rename_i hv;cases h;exact ZdT hv
   exact nomatch h
 exact nomatch h
theorem Zgf {α:Type} (p:Program) (x:Sem α):∀w:World,w.drawn≤(resW (x.run p w)).drawn:=by
 induction x with
 |pure a=>exact fun w=>Nat.le_refl _
 |load m a k ih=>
  intro w;simp only[Sem.run];split
  · exact ih _ _
  split
  · exact ih _ _
  exact Nat.le_refl _
 |store m a v k ih=>
  intro w;cases v
  all_goals
   simp only[Sem.run];try exact Nat.le_refl _
  all_goals
   split
   · split
     · exact Nat.le_refl _
     exact ih (w.setCell a _)
   split
   · rename_i hf;exact Nat.le_trans (Nat.le_of_eq (Zey hf).symm) (ih _)
   exact Nat.le_refl _
 |new o k ih=>intro w;exact ih _ {w with heap:=w.heap.push o}
 |shape r k ih=>intro w;exact ih _ _
 |freeze a n k ih=>
  intro w;refine Nat.le_trans (Nat.le_of_eq ?_) (ih (w.freeze a n));unfold World.freeze;split<;>rfl
 |frozen a k ih=>intro w;exact ih _ _
 |getObj r k ih=>
  intro w;simp only[Sem.run];split
  · exact Nat.le_refl _
  · exact ih _ _
  exact Nat.le_refl _
 |setObj r o k ih=>
  intro w;simp only[Sem.run];split
  · exact Nat.le_refl _
  · exact ih {w with heap:=w.heap.setIfInBounds r o}
  exact Nat.le_refl _
 |choose q k ih=>
  intro w;simp only[Sem.run];split
  · exact ih _ _
  exact Nat.le_trans (Nat.le_succ _) (ih _ {w with drawn:=w.drawn + 1})
 |sys c k ih=>intro w;exact Nat.le_trans (Zf8 w c) (ih _ _)
 |program k ih=>intro w;exact ih _ _
 |mark m k ih=>intro w;exact ih _
 |halt h=>exact fun w=>Nat.le_refl _
theorem ZaG {α:Type} {p:Program} {x:Sem α} {w w':World} {a:α} (h:x.run p w=.ok a w'):w.drawn≤w'.drawn:=by
 have:=Zgf p x w;rw[h] at this;exact this
theorem Zau {α:Type} {p:Program} {x:Sem α} {w w':World} {a:Halt} (h:x.run p w=.halt a w'):w.drawn≤w'.drawn:=by
 have:=Zgf p x w;rw[h] at this;exact this
theorem Znz {α:Type} {p:Program} {x:Sem α} {w w':World} {a:α} {es es':Array Event} (h:x.runT p w es=(.ok a w',es')):w.drawn≤w'.drawn:=
 ZaG (p:=p) (x:=x) (by rw[←Sem.runT_fst p x w es,h])
theorem Zd1 {α:Type} {p:Program} {x:Sem α} {w w':World} {a:Halt} {es es':Array Event} (h:x.runT p w es=(.halt a w',es')):w.drawn≤w'.drawn:=
 Zau (p:=p) (x:=x) (by rw[←Sem.runT_fst p x w es,h])
def gw:GStep→World
 |.go _ w _=>w
 |.comm _ _ _ _ w _=>w
 |.spawn _ _ w _=>w
 |.count _ w _=>w
 |.timer _ _ w _=>w
 |.alone _ _ w _=>w
 |.newcoro _ _ _ w _=>w
 |.coroswitch _ _ _ w _=>w
 |.collect _ w _=>w
 |.watch _ w _=>w
 |.ended _ w _=>w
theorem Zbp (es:Array Event) (s:GStep):gw (GStep.after es s)=gw s:=by cases s<;>rfl
theorem Zd7 {c:Prop} [Decidable c] {a b:GStep} {n:Nat} (h1:n≤(gw a).drawn) (h2:n≤(gw b).drawn):n≤(gw (if c then a else b)).drawn:=by split<;>assumption
theorem ZfQ (w:World) (fd:Nat) (text:ByteArray) (o:Outcome):w.drawn≤(gw (endWith w fd text o)).drawn:=by
 unfold endWith;have h:=Zf8 w (.write fd text);simp only[];split
 · rename_i he;rw[he] at h;split<;>exact h
 · rename_i he;rw[he] at h;exact h
 rename_i he;rw[he] at h;exact h
theorem ZhC (fr:Frame) (a:List ByteArray) (m:String) (wh:Bool) (w:World):gw (dieOf fr a m wh w)=w:=rfl
theorem Za4 (fr:Frame) (m:String) (w:World):gw (endThrow fr m w)=w:=rfl
theorem ZbW (p:Program) (fr:Frame) (v:Value) (w:World):gw (endPrinting p fr v w)=w:=by
 unfold endPrinting;simp only[];split
 · exact Za4 _ _ _
 rfl
theorem ZcA (p:Program) (fr:Frame) (cs:List Frame) (d:Option Dying) (m:String) (w:World):w.drawn≤(gw (endFatal p fr cs d m w)).drawn:=by
 unfold endFatal;simp only[];split
 · rename_i h;rw[ZhC];exact ZaG h
 · rename_i h;exact Zau h
 rename_i h;exact Zau h
theorem Ze3 (p:Program) (fr:Frame) (d:Dying) (f:Fatal) (w:World):w.drawn≤(gw (writeOn p fr d f w)).drawn:=by
 unfold writeOn;simp only[];split
 · exact Nat.le_refl _
 split
 · rename_i h;exact Znz h
 · rename_i h;exact Zd1 h
 · rename_i h;exact Zd1 h
 rename_i h;exact Zd1 h
theorem ZkV (p:Program) (fr:Frame) (d:Dying) (w:World):w.drawn≤(gw (die p fr d w)).drawn:=by
 unfold die;split
 · exact Ze3 _ _ _ _ _
 split
 · split
   · exact Nat.le_refl _
   exact ZfQ _ _ _ _
 simp only[];split
 · exact Nat.le_refl _
 · split
   · rename_i h;exact ZaG h
   rename_i h;exact Zau h
 · rw[Zbp];simp only[Sem.runT_fst];split
   all_goals first
    |exact Nat.le_refl _
    |(rename_i h;exact ZaG h)
    |(rename_i h;exact Zau h)
    |(rename_i h;rw[ZbW];exact Zau h)
 exact Nat.le_refl _
theorem Za5 (p:Program) (main:Bool) (fr:Frame) (cs:List Frame) (d:Option Dying) (v:Value) (w:World):gw (doReturn p main fr cs d v w)=w:=by
 unfold doReturn
 repeat' first
  |rfl
  |split
  |simp only[]
theorem Zc6 (p:Program) (fr:Frame) (cs:List Frame) (dy:Option Dying) (d:Deferred) (w:World):w.drawn≤(gw (callDeferred p fr cs dy d w)).drawn:=by
 unfold callDeferred;refine Zd7 (Nat.le_refl _) ?_;simp only[];rw[Zbp];simp only[Sem.runT_fst];split
 all_goals first
  |(rename_i h;exact ZaG h)
  |(rename_i h;exact Zau h)
  |(rename_i h;exact Nat.le_trans (Zau h) (ZcA _ _ _ _ _ _))
  |(rename_i h;rw[Za4];exact Zau h)
  |(rename_i h;split<;>exact ZaG h)
theorem Zf2 (p:Program) (main:Bool) (fr:Frame) (cs:List Frame) (dy:Option Dying) (w:World):w.drawn≤(gw (unwind p main fr cs dy w)).drawn:=by
 unfold unwind;split
 · simp only[];rw[Zbp];simp only[Sem.runT_fst];split
   · rename_i h;exact ZaG h
   rename_i h;exact Zau h
 · exact Zc6 _ _ _ _ _ _
 split
 · exact Nat.le_refl _
 · split
   · exact Nat.le_refl _
   split
   · exact Nat.le_refl _
   split
   · split
     · exact Nat.le_refl _
     split;all_goals(rename_i h;first|exact ZaG h|exact Zau h)
   split
   · rw[ZbW];exact Nat.le_refl _
   exact Nat.le_refl _
 split
 · rw[Za5];exact Nat.le_refl _
 simp only[];rw[Zbp];simp only[Sem.runT_fst];split
 · rename_i h;rw[Za5];exact ZaG h
 · rename_i h;exact Zau h
 rename_i h;exact Zau h
theorem ZhB (p:Program) (fr:Frame) (cs:List Frame) (dy:Option Dying) (g:Nat) (w:World):w.drawn≤(gw (early p fr cs dy g w)).drawn:=by
 have key:∀w1:World,w.drawn≤w1.drawn→w.drawn≤(gw (match w1.heap[g]? with
  |some (.pending c elem)=>GStep.go {frame:=fr,callers:=cs,status:=.running,dying:=dy} {w1 with heap:=w1.heap.setIfInBounds g (.cells c elem)}
  |_=>.ended (.stuck "early: the variable does not wait" (fr.pos p)) w1)).drawn:=by
  intro w1 h;split<;>exact h
 unfold early;simp only[];split
 · exact key w (Nat.le_refl _)
 split
 · exact Nat.le_refl _
 split
 · exact key w (Nat.le_refl _)
 split
 · exact key w (Nat.le_refl _)
 split
 · exact Nat.le_refl _
 · exact Nat.le_refl _
 · exact Nat.le_refl _
 · exact key w (Nat.le_refl _)
 split
 · exact Nat.le_refl _
 split
 · exact key w (Nat.le_refl _)
 split
 · rename_i h;exact key _ (ZaG h)
 · rename_i h;exact ZaG h
 rename_i h;exact Zau h
theorem ZbJ (p:Program) (listen:Bool) (fr:Frame) (cs:List Frame) (dy:Option Dying) (x:Sem Next) (w:World):w.drawn≤(gw (stepG.apply p listen fr cs dy x w)).drawn:=by
 unfold stepG.apply;simp only[];rw[Zbp]
 have hr:∀r es,(if listen=true then x.runT p w #[] else(x.run p w,#[]))=(r,es)→x.run p w=r:=by
  intro r es h;split at h
  · rw[←Sem.runT_fst p x w #[],h]
  exact congrArg Prod.fst h
 generalize hq:(if listen=true then x.runT p w #[] else(x.run p w,#[]))=q at *
 obtain⟨r,es⟩:=q;have h0:=hr r es rfl;clear hr hq;simp only[];split
 all_goals first
  |(subst_vars;exact ZaG ‹_›)
  |(exact ZaG h0)
  |(exact Zau h0)
  |(exact Nat.le_trans (Zau h0) (ZcA _ _ _ _ _ _))
  |(exact Nat.le_trans (Zau h0) (ZhB _ _ _ _ _ _))
  |(rw[Za4];exact Zau h0)
  |(refine Zd7 ?_ (ZaG h0);rw[Za4];exact ZaG h0)
  |(split<;>first|exact ZaG h0|(rw[Za4];exact ZaG h0))
theorem ZiU (p:Program) (listen:Bool) (fr:Frame) (cs:List Frame) (dy:Option Dying) (w:World):w.drawn≤(gw (stepG.oper p listen fr cs dy w)).drawn:=by
 unfold stepG.oper;split
 · exact Nat.le_refl _
 split
 · exact ZbJ _ _ _ _ _ _ _
 exact ZbJ _ _ _ _ _ _ _
theorem Zja (p:Program) (main listen:Bool) (fr:Frame) (cs:List Frame) (dy:Option Dying) (w:World):w.drawn≤(gw (stepG.exec p main listen fr cs dy w)).drawn:=by
 unfold stepG.exec;simp only[];split
 all_goals first
  |exact Nat.le_refl _
  |exact ZbJ _ _ _ _ _ _ _
  |(split;exact Zd7 (Nat.le_refl _) (Nat.le_refl _);(rw[Zbp];simp only[Sem.runT_fst];split;(rename_i h;rw[Za5];exact ZaG h);(rename_i h;exact Zau h)))
  |(split<;>exact Nat.le_refl _)
  |(generalize exitTo _ _=o;cases o;(simp only[Option.elim_none];(split;exact Zd7 (Nat.le_refl _) (Nat.le_refl _);(rw[Zbp];simp only[Sem.runT_fst];split;(rename_i h;rw[Za5];exact ZaG h);(rename_i h;exact Zau h))));exact Nat.le_refl _)
  |(generalize gotoIn _ _=o;cases o;(simp only[Option.elim_none];(split;exact Zd7 (Nat.le_refl _) (Nat.le_refl _);(rw[Zbp];simp only[Sem.runT_fst];split;(rename_i h;rw[Za5];exact ZaG h);(rename_i h;exact Zau h))));exact Nat.le_refl _)
  |(generalize Extern.next _=o;cases o;exact Nat.le_refl _;exact ZbJ _ _ _ _ _ _ _)
  |(refine Zd7 (ZiU _ _ _ _ _ _) (Nat.le_refl _))
  |(refine Zd7 (Nat.le_refl _) ?_;split;(rename_i h;exact ZaG h);(rename_i h;exact Zau h))
  |(rw[Zbp];simp only[Sem.runT_fst];split;(rename_i h;exact Nat.le_trans (ZaG h) (ZbJ _ _ _ _ _ _ _));(rename_i h;exact Zau h))
  |(rw[Zbp];simp only[Sem.runT_fst];split;(rename_i h;exact ZaG h);(rename_i h;exact Zau h);(rename_i h;exact Zau h))
theorem Zhc (p:Program) (main:Bool) (g:Goroutine) (w:World) (listen:Bool):w.drawn≤(gw (stepG p main g w listen)).drawn:=by
 unfold stepG;simp only[];split
 · exact ZkV _ _ _ _
 · exact Zja _ _ _ _ _ _ _
 exact Zf2 _ _ _ _ _ _
theorem Zdm (p:Program) (rest:Rest) (gs:Array Goroutine) (i:Nat) (g:Goroutine) (cases:Array CommCase) (blocking:Bool)
 (shape:CommShape) (w:World) (m':Machine) (h:(communicate p rest gs i g cases blocking shape w).1=.next m'):w.drawn≤m'.world.drawn:=by
 have wa:∀w1,waitingAt rest cases w=some w1→w1.drawn=w.drawn:=by
  intro w1 hw;unfold waitingAt at hw;split at hw
  · split at hw
    · cases hw;rfl
    cases hw
  cases hw;rfl
 unfold communicate at h;simp only[] at h;split at h
 · simp at h
 split at h
 · split at h
   · split at h
     · simp only[Stepped.next.injEq] at h;subst h;exact Nat.le_of_eq (wa _ ‹_›).symm
     simp at h
   simp only[Stepped.next.injEq] at h;subst h;exact Nat.le_refl _
 generalize hq:Sem.run p _ w=q at h
 cases q with
 |halt a w1=>simp at h
 |ok a w1=>
  obtain⟨k,c,way⟩:=a;have h1:=ZaG hq;clear hq;simp only[] at h
  repeat' first
   |(simp at h;done)
   |(simp only[Stepped.next.injEq] at h;subst h;exact h1)
   |(simp only[Stepped.next.injEq] at h;subst h;exact Nat.le_trans h1 (ZaG ‹_›))
   |(simp only[Stepped.next.injEq] at h;subst h;exact Nat.le_trans h1 (Zau ‹_›))
   |(generalize hq:Sem.run p (choose _) _=q at h;cases q;(have h2:=Nat.le_trans h1 (ZaG hq);clear hq;simp only[Stepped.next.injEq] at h;subst h;exact h2);(simp at h;done))
   |split at h
theorem ZeL (p:Program) (gs:Array Goroutine) (rest:Rest) (w:World) (m':Machine) (h:look p gs rest w=.next m'):w.drawn≤m'.world.drawn:=by
 unfold look at h;simp only[] at h;split at h
 · split at h
   · simp at h
   split at h
   · simp at h
   generalize hq:Sem.run p _ w=q at h
   cases q with
   |halt a w1=>
    clear hq;cases a<;>simp at h
   |ok a w1=>
    obtain⟨f,c⟩:=a;have h1:=ZaG hq;clear hq;simp only[Stepped.next.injEq] at h;subst h;exact h1
 simp at h
theorem Zfj (m m':Machine) (op:TimerOp) (v:Value) (h:timerOp m op=.ok (v,m')):m'.world.drawn=m.world.drawn:=by
 have op_:∀var m1,timerOp.opened m var=some m1→m1.world.drawn=m.world.drawn:=by
  intro var m1 ho;unfold timerOp.opened at ho;split at ho
  · split at ho
    · cases ho;rfl
    cases ho
  cases ho;rfl
 have rt:∀(m1:Machine) k t a b,(retime m1 k t a b).2.world.drawn=m1.world.drawn:=by
  intro m1 k t a b;unfold retime;simp only[];split
  · unfold drain;split<;>rfl
  rfl
 have nm:∀(m1:Machine) var f (r:Value × Machine),(∀k t,(f k t).2.world.drawn=m1.world.drawn)→timerOp.named m1 var f=.ok r→r.2.world.drawn=m1.world.drawn:=by
  intro m1 var f r hf hr;unfold timerOp.named at hr;split at hr
  · cases hr;exact hf _ _
  cases hr
 unfold timerOp at h
 repeat' first
  |(simp at h;done)
  |(simp only[Except.ok.injEq,Prod.mk.injEq] at h;obtain⟨_,rfl⟩:=h;rfl)
  |(exact nm _ _ _ (v,m') (fun _ _=>rt _ _ _ _ _) h)
  |(rename_i ho;exact nm _ _ _ (v,m') (fun _ _=>(rt _ _ _ _ _).trans (op_ _ _ ho)) h)
  |split at h
theorem ZiN (p:Program) (m m':Machine) (i:Nat) (b:Bool) (h:(runT p m i b).1=.next m'):m.world.drawn≤m'.world.drawn:=by
 simp only[runT] at h;have hs:=Zhc p (i==0) (m.gs.swapAt! i {(default:Goroutine) with status:=.finished}).1 m.world b;revert hs h
 generalize m.gs.swapAt! _ _=gg;generalize stepG p _ gg.1 m.world b=s;intro h hs;cases s<;>simp only[gw] at h hs
 all_goals first
  |(simp at h;done)
  |(exact Nat.le_trans hs (Zdm _ _ _ _ _ _ _ _ _ _ h))
  |(exact Nat.le_trans hs (ZeL _ _ _ _ _ h))
  |(simp only[Stepped.next.injEq] at h;subst h;exact hs)
  |(repeat' first
     |(simp at h;done)
     |(simp only[Stepped.next.injEq] at h;subst h;exact hs)
     |(simp only[Stepped.next.injEq] at h;subst h;exact Nat.le_trans hs (Nat.le_of_eq (Zfj _ _ _ _ ‹_›).symm))
     |(rename_i he;unfold endThrow dieOf at he;simp only[GStep.go.injEq] at he;obtain⟨_,rfl,_⟩:=he;simp only[Stepped.next.injEq] at h;subst h;exact hs)
     |split at h)
theorem Zhe (p:Program) (m m':Machine) (k:Nat) (h:serve p m k=.next m'):m'.world.drawn=m.world.drawn:=by
 unfold serve at h;simp only[] at h
 repeat' first
  |(simp at h;done)
  |(simp only[Stepped.next.injEq] at h;subst h;rfl)
  |split at h
def mvW:Move→Option World
 |.goroutine m _=>some m.world
 |.machine (.next m) _=>some m.world
 |.machine (.ended _ _) _=>none
theorem Zb5 (p:Program) (m:Machine) (w':World) (h:mvW (askOn p m)=some w'):m.world.drawn≤w'.drawn:=by
 unfold askOn at h;simp only[] at h;generalize hq:Sem.run p _ m.world=q at h
 cases q with
 |halt a w1=>simp[mvW] at h
 |ok k w1=>
  have h1:m.world.drawn≤w1.drawn:=ZaG hq;clear hq
  have pick:∀(m1:Machine) (rs:List Nat) (w2:World),m.world.drawn≤m1.world.drawn→mvW (match(choose (.sched rs.length)).run p m1.world with
   |.halt _ w=>Move.machine (.ended (.stuck "sched" "") w)
   |.ok k world=>
    if rs.length≤1 then .goroutine {m1 with world} (rs.getD k 0) else
    match(choose (.extern "sched.slice" 65536)).run p world with
    |.halt _ w=>.machine (.ended (.stuck "sched.slice" "") w)
    |.ok n world=>.goroutine {m1 with world,rest:={m1.rest with slice:=if n=0 then none else some (rs.getD k 0,n)}} (rs.getD k 0))=some w2→m.world.drawn≤w2.drawn:=by
   intro m1 rs w2 h0 hm;generalize hr:Sem.run p (choose (.sched rs.length)) m1.world=r at hm
   cases r with
   |halt a w3=>simp[mvW] at hm
   |ok k w3=>
    have h2:=ZaG hr;simp only[] at hm;split at hm
    · simp only[mvW,Option.some.injEq] at hm;subst hm;exact Nat.le_trans h0 h2
    generalize hs:Sem.run p (choose (.extern "sched.slice" 65536)) w3=r at hm
    cases r with
    |halt a w4=>simp[mvW] at hm
    |ok n w4=>
     have h3:=ZaG hs;simp only[mvW,Option.some.injEq] at hm;subst hm;exact Nat.le_trans h0 (Nat.le_trans h2 h3)
  dsimp only at h
  split at h
  · generalize hs:serve p _ _=s at h
    cases s with
    |next m2=>
     simp only[mvW,Option.some.injEq] at h;subst h;rw[Zhe _ _ _ _ hs];exact h1
    |ended o w2=>simp[mvW] at h
  split at h
  · split at h
    · simp only[mvW,Option.some.injEq] at h;subst h;exact h1
    split at h
    · simp only[mvW,Option.some.injEq] at h;subst h;exact h1
    split at h<;>simp[mvW] at h
  split at h
  · exact pick {m with world:=w1} (runnable m.gs m.world.os.mono) _ h1 h
  generalize hs:Sem.run p (choose (.extern "clock.wait" _)) w1=s at h
  cases s with
  |halt a w2=>simp[mvW] at h
  |ok k w2=>
   have h2:=ZaG hs;rcases k with _|_|k
   · exact pick {m with world:=w2} _ _ (Nat.le_trans h1 h2) h
   · simp only[mvW,Option.some.injEq] at h;subst h;exact Nat.le_trans h1 h2
   exact pick (Machine.advanceTo {m with world:=w2} _) _ _ (Nat.le_trans h1 h2) h
theorem Ze0 (p:Program) (m:Machine) (w':World) (h:mvW (ask p m)=some w'):m.world.drawn≤w'.drawn:=by
 unfold ask at h;split at h
 · generalize hs:Sem.run p (choose (.extern "collector.look" 2)) m.world=s at h
   cases s with
   |halt a w2=>simp[mvW] at h
   |ok k w2=>
    have h2:=ZaG hs;rcases k with _|_|k
    · exact Nat.le_trans h2 (Zb5 p {m with world:=w2} w' h)
    · simp only[] at h;generalize hl:look p m.gs m.rest w2=l at h
      cases l with
      |next m2=>exact Nat.le_trans h2 (Nat.le_trans (ZeL _ _ _ _ _ hl) (Zb5 p m2 w' h))
      |ended o w3=>simp[mvW] at h
    exact Nat.le_trans h2 (Zb5 p {m with world:=w2} w' h)
 exact Zb5 p m w' h
theorem ZeJ (p:Program) (m:Machine) (w':World) (h:mvW (move p m)=some w'):m.world.drawn≤w'.drawn:=by
 unfold move at h;split at h
 · split at h
   · simp only[mvW,Option.some.injEq] at h;subst h;exact Nat.le_refl _
   simp[mvW] at h
 split at h
 · split at h
   · simp only[mvW,Option.some.injEq] at h;subst h;exact Nat.le_refl _
   exact Ze0 p {m with rest:={m.rest with slice:=none}} w' h
 exact Ze0 p m w' h
theorem ZiK (p:Program) (m m':Machine) (h:step p m=.next m'):m.world.drawn≤m'.world.drawn:=by
 unfold step stepT at h;split at h
 · rename_i m1 i hm;exact Nat.le_trans (ZeJ p m m1.world (by rw[hm];rfl)) (ZiN _ _ _ _ _ h)
 rename_i s ops hm;simp only[] at h;subst h;exact ZeJ p m m'.world (by rw[hm];rfl)
theorem ZdU {p:Program} {m m':Machine} (h:Steps p m m'):m.world.drawn≤m'.world.drawn:=by
 obtain⟨n,hn⟩:=h
 induction n generalizing m with
 |zero=>simp[runN] at hn;rw[hn];exact Nat.le_refl _
 |succ n ih=>
  rw[runN] at hn;split at hn
  · rename_i m1 h1;exact Nat.le_trans (ZiK p m m1 h1) (ih hn)
  rename_i hno;exact(hno _ hn).elim
theorem ZhK {p:Program} {f:FuncId} {args:Array Value} {w:World} {R:Ending→World→Prop} (h:Calls p f args w R) (ho:∀w',¬R .outgrown w'):Calls p f args w fun e w'=>R e w'∧w.drawn≤w'.drawn:=by
 intro cs;obtain⟨e,w',fr,r,c,x⟩:=h cs;refine⟨e,w',fr,⟨r,?_⟩,c,x⟩
 cases e with
 |returned v=>exact ZdU c
 |panicked ch=>exact ZdU c
 |outgrown=>exact absurd r (ho w')
end
end
section
section
open Go.RowKit
theorem Zh0:∀(vs p q r:List Value),q.length=vs.length→setL (p++(q++r)) p.length vs=p++(vs++r)
 |[],p,q,r,h=>by
  have:q=[]:=List.eq_nil_of_length_eq_zero (by simpa using h);subst this
  rfl
 |v::vs,p,[],r,h=>by simp at h
 |v::vs,p,y::q,r,h=>by
  rw[setL]
  have e:(p++(y::q++r)).set p.length v=(p++[v])++(q++r):=by
   rw[List.set_append_right _ _ (Nat.le_refl _)];simp
  have:=Zh0 vs (p++[v]) q r (by simpa using h);rw[List.length_append] at this;rw[e];simp only[List.length_cons,List.length_nil,Nat.zero_add] at this;rw[this]
  simp
theorem Zmy {α:Type} (enc:α→List Value) (size:Nat) (hs:∀x,(enc x).length=size) (l:List α) (i:Nat) (hi:i < l.length) (x:α):setL (l.flatMap enc) (i * size) (enc x)=(l.set i x).flatMap enc:=by
 have e1:l=l.take i++l[i]::l.drop (i + 1):=by rw[←List.drop_eq_getElem_cons hi,List.take_append_drop]
 have hl:(l.take i).length=i:=by rw[List.length_take];omega
 have e2:l.set i x=l.take i++x::l.drop (i + 1):=by
  rw[List.set_eq_take_append_cons_drop,if_pos hi]
 have e3:l.flatMap enc=(l.take i).flatMap enc++(enc l[i]++(l.drop (i + 1)).flatMap enc):=by
  have:=congrArg (fun m=>m.flatMap enc) e1;simp only[List.flatMap_append,List.flatMap_cons] at this;exact this
 have hf:((l.take i).flatMap enc).length=i * size:=by rw[ZaB enc size hs,hl]
 rw[e2,e3,←hf,Zh0 _ _ _ _ (by rw[hs,hs])];simp
theorem Zf7:∀(vs c:List Value) (o m:Nat),(setL c o vs).take m=setL (c.take m) o vs
 |[],_,_,_=>rfl
 |v::vs,c,o,m=>by rw[setL,setL,Zf7 vs,List.take_set]
theorem ZcQ:∀(vs c:List Value) (o m:Nat),m≤o→(setL c o vs).take m=c.take m
 |[],_,_,_,_=>rfl
 |v::vs,c,o,m,h=>by rw[setL,ZcQ vs _ _ _ (by omega),List.take_set_of_le h]
theorem ZcL {α:Type} {enc:α→List Value} {size:Nat} (hs:∀x,(enc x).length=size) {c:List Value} {l:List α} (ht:c.take (l.length * size)=l.flatMap enc) {i:Nat} (hi:i < l.length) (x:α):
 (setL c (i * size) (enc x)).take ((l.set i x).length * size)=(l.set i x).flatMap enc:=by
 rw[List.length_set,Zf7,ht,Zmy enc size hs l i hi]
section
variable {P:Program} {ops:Array Oper} {rest:List Oper} {o:Oper} {a:Act} {Q:Exit→Act→World→Prop} {L0 L F:List Part} {w0 w:World} {e:TypeId}
theorem Zew (w:World) (t e ty:TypeId) (z:Value) (ht:P.underlying t=some (.slice e)) (hv:∀w,(zeroValue e).run P w=.ok z w) (m:Nat) (hm:0 < m) (h1:∀v ∈ (Builtin.zeroCells z.cells m).toList,v.oneCell'=true) (b o c:Nat)
 (hc:∀j,j < m * z.cells.size→(w.cell? ⟨b,o + j,none⟩).isSome=true) (hf:∀j,j < m * z.cells.size→w.frozen? ⟨b,o + j,none⟩=false):
 (Builtin.clear_ #[t] ty #[.slice (some ⟨b,o,none⟩) m c]).run P w=.ok (.tuple #[]) (w.setCells b o (Builtin.zeroCells z.cells m).toList):=by
 have hl:(Builtin.zeroCells z.cells m).toList.length=m * z.cells.size:=by simp[Builtin.zeroCells]
 have hst:=run_storeCells_cells (P:=P) b o (Builtin.zeroCells z.cells m).toList 0 w (by intro j hj;first|(simp;done)|simpa using hc j (by omega)) (by intro j hj;first|(simp;done)|simpa using hf j (by omega)) h1;simp only[Nat.add_zero] at hst
 obtain⟨m,rfl⟩:∃m',m=m' + 1:=⟨m - 1,by omega⟩
 simp[Builtin.clear_,run_underlying ht,hv,hst]
theorem Zjp (z:Value) (h:∀u ∈ z.cells.toList,u.oneCell'=true) (h0:0 < z.cells.size) (m:Nat):∀v ∈ (Builtin.zeroCells z.cells m).toList,v.oneCell'=true:=by
 intro v hv;simp only[Builtin.zeroCells,Array.toList_map,List.mem_map] at hv;obtain⟨j,_,rfl⟩:=hv;have hj:j % z.cells.size < z.cells.size:=Nat.mod_lt _ h0;rw[getElem!_pos z.cells (j % z.cells.size) hj];exact h _ (by rw[Array.mem_toList_iff];exact Array.getElem_mem hj)
theorem ZdL {t:TypeId} {x:Operand} {z:Value} {b off m cp:Nat} {c:List Value} {T:TypeId} (hg:o.guard=none) (hop:o.op=.call {callee:=.builtin .clear,args:= #[x],argTypes:= #[t]}) (ht:P.underlying t=some (.slice e)) (hv:∀w,(zeroValue e).run P w=.ok z w)
 (h1:∀u ∈ z.cells.toList,u.oneCell'=true) (h0:0 < z.cells.size) (hx:a.eval x=.slice (some ⟨b,off,none⟩) m cp) (hm:0 < m) (h:At L0 w0 L w) (s:Sel (Part.cells b c T) L F) (hl:off + m * z.cells.size≤c.length)
 (hK:∀c' w',c'.length=c.length→c'.take off=c.take off→At L0 w0 (Part.cells b c' T::F) w'→wpList P ops Q rest (a.put o.dst (.tuple #[])) w'):wpList P ops Q (o::rest) a w:=by
 have hb:Zaa w b c T:=h.get s;have hrun:=Zew (P:=P) w t e o.type z ht hv m hm (Zjp z h1 h0 m) b off cp (fun j hj=>by rw[hb.cell,List.getElem?_eq_getElem (by omega)];rfl) (fun j hj=>hb.free _);refine Zal hg ?_ (hK _ _ (Zaj _ _ _) (ZcQ _ _ _ _ (Nat.le_refl _)) (h.stores s off (Builtin.zeroCells z.cells m).toList));simp[execOp,hop,resolve,invoke,builtin,hx,hrun,Result.andThen]
end
end
end
section
section
open Go.RowKit
section
variable {P:Program} {ops:Array Oper} {rest:List Oper} {o:Oper} {a:Act} {Q:Exit→Act→World→Prop} {L0 L F:List Part} {w0 w:World}
theorem Zad {ty:TypeId} {x:Operand} (hg:o.guard=none) (hop:o.op=.load ty x) {b j:Nat} (hx:a.eval x=.pointer (some ⟨b,j,none⟩)) {vs:List Value} (hr:∀(k:Nat) u,vs[k]? =some u→w.cell? ⟨b,j + k,none⟩=some u)
 (hu:(P.underlying ty).map (·.isRow)=some true) (hi:(P.info? ty).map (·.size)=some vs.length)
 (hK:wpList P ops Q rest (a.put o.dst (.agg vs.toArray)) w):wpList P ops Q (o::rest) a w:=by
 obtain⟨d,hu,hd⟩:=Option.map_eq_some_iff.1 hu;refine Zal hg ?_ hK;simp[execOp,hop,hx,run_loadAt_mid w b j ty vs d (fun k v hk=>hr k v hk) hu hd hi,Result.andThen]
end
end
end
section
section
open Go.RowKit
section
variable {P:Program} {ops:Array Oper} {rest:List Oper} {o:Oper} {a:Act} {Q:Exit→Act→World→Prop} {L0 L F:List Part} {w0 w:World}
end
end
end
section
namespace Lease
open Go.RowKit
structure Ans where
 e:Int
 n:Int
 g:Bool
def Ans.val (a:Ans):Value:=.agg #[.int .i64 a.e,.int .u64 a.n,.bool a.g]
structure Ses where
 num:Int
 foot:ByteArray
 op:Bool
 dead:Bool
 dl:Int
 ttl:Int
 told:List (Int × Ans)
 blk:Nat
 tm:Nat
def Ses.is (s:Ses) (n:Int) (f:ByteArray):Bool:=decide (s.num=n∧s.foot=f)
def keyV (n:Int) (f:ByteArray):Value:=.agg #[.int .u64 n,.string f]
def Ses.key (s:Ses):Value:=keyV s.num s.foot
def Ses.ptr (s:Ses):Value:=.pointer (some ⟨s.blk,0,none⟩)
def Ses.cells (s:Ses):List Value:=[.bool s.op,.bool s.dead,.int .i64 s.dl,.int .i64 s.ttl,.int .i64 0,.map (some s.tm)]
def ent (s:Ses):Value × Value:=(s.key,s.ptr)
def saidE (p:Int × Ans):Value × Value:=(.int .u64 p.1,p.2.val)
def ents (ss:List Ses):List (Value × Value):=ss.map ent
def saids (l:List (Int × Ans)):List (Value × Value):=l.map saidE
def sesL (s:Ses):List Part:=[Part.cells s.blk s.cells 162,Part.map Tryz.prog 22 s.tm (saids s.told)]
def sesP (s:Ses):Part:=Part.all (sesL s)
def headP (p m:Nat):Part:=Part.cells p [.map (some m)] 149
def mapP (m:Nat) (ss:List Ses):Part:=Part.map Tryz.prog 25 m (ents ss)
def restP (ss:List Ses):Part:=Part.all (ss.map sesP)
def BookP (p m:Nat) (ss:List Ses):Part:=Part.all [headP p m,mapP m ss,restP ss]
abbrev headC (p m:Nat):Part:=Part.cells p [.map (some m)] 149
abbrev mapC (m:Nat) (es:List (Value × Value)):Part:=Part.map Tryz.prog 25 m es
abbrev toldC (m:Nat) (es:List (Value × Value)):Part:=Part.map Tryz.prog 22 m es
abbrev sesC (b:Nat) (c:List Value):Part:=Part.cells b c 162
theorem eqv0 (p m:Nat) (ss:List Ses) (F:List Part):Eqv (BookP p m ss::F) (headC p m::mapC m (ents ss)::restP ss::F):=Eqv.all [headC p m,mapC m (ents ss),restP ss] F
theorem eqvR (l1 l2:List Ses) (s:Ses) (F:List Part):Eqv (restP (l1++s::l2)::F) (sesC s.blk s.cells::toldC s.tm (saids s.told)::restP (l1++l2)::F):=by
 refine(Eqv.all _ F).trans ?_
 have p1:((l1++s::l2).map sesP++F).Perm (sesP s::((l1++l2).map sesP++F)):=by
  simp only[List.map_append,List.map_cons,List.append_assoc,List.cons_append];exact List.perm_middle
 refine(Eqv.perm p1).trans ((Eqv.all (sesL s) _).trans ?_);exact(Eqv.all ((l1++l2).map sesP) F).symm.prepend (sesL s)
theorem eqvR' {ss l1 l2:List Ses} {s:Ses} (e:ss=l1++s::l2) (F:List Part):Eqv (restP ss::F) (sesC s.blk s.cells::toldC s.tm (saids s.told)::restP (l1++l2)::F):=by rw[e];exact eqvR l1 l2 s F
theorem out' {L0 L F:List Part} {w0 w:World} {ss l1 l2:List Ses} {s:Ses} (e:ss=l1++s::l2) (h:At L0 w0 L w) (q:Sel (restP ss) L F):At L0 w0 (sesC s.blk s.cells::toldC s.tm (saids s.told)::restP (l1++l2)::F) w:=(h.take q).to (eqvR' e F)
theorem in' {L0 L F G H:List Part} {w0 w:World} {ss l1 l2:List Ses} {s:Ses} (e:ss=l1++s::l2) (h:At L0 w0 L w) (q1:Sel (sesC s.blk s.cells) L F) (q2:Sel (toldC s.tm (saids s.told)) F G) (q3:Sel (restP (l1++l2)) G H):At L0 w0 (restP ss::H) w:=
 (h.perm (q1.perm.trans ((q2.perm.trans (q3.perm.cons _)).cons _))).to (eqvR' e H).symm
theorem eqv1 (p m:Nat) (l1 l2:List Ses) (s:Ses) (F:List Part):Eqv (BookP p m (l1++s::l2)::F) (sesC s.blk s.cells::toldC s.tm (saids s.told)::restP (l1++l2)::headC p m::mapC m (ents (l1++s::l2))::F):=
 (eqv0 p m _ F).trans ((Eqv.perm ((List.Perm.cons _ (List.Perm.swap _ _ _)).trans (List.Perm.swap _ _ _))).trans (eqvR l1 l2 s _))
theorem begin0 {w:World} {p m:Nat} {ss:List Ses} (h:Sep [BookP p m ss] w):At [BookP p m ss] w [headC p m,mapC m (ents ss),restP ss] w:=(At.start h).to (eqv0 p m ss [])
theorem Zla {w:World} {p m:Nat} {l1 l2:List Ses} {s:Ses} (h:Sep [BookP p m (l1++s::l2)] w):
 At [BookP p m (l1++s::l2)] w [sesC s.blk s.cells,toldC s.tm (saids s.told),restP (l1++l2),headC p m,mapC m (ents (l1++s::l2))] w:=
 (At.start h).to (eqv1 p m l1 l2 s [])
theorem open1 {L0 L F:List Part} {w0 w:World} {p m:Nat} {l1 l2:List Ses} {s:Ses} (h:At L0 w0 L w) (q:Sel (BookP p m (l1++s::l2)) L F):
 At L0 w0 (sesC s.blk s.cells::toldC s.tm (saids s.told)::restP (l1++l2)::headC p m::mapC m (ents (l1++s::l2))::F) w:=(h.take q).to (eqv1 p m l1 l2 s F)
theorem fold0 {L0 L F G H:List Part} {w0 w:World} {p m:Nat} {ss:List Ses} (h:At L0 w0 L w) (s1:Sel (headC p m) L F) (s2:Sel (mapC m (ents ss)) F G) (s3:Sel (restP ss) G H):At L0 w0 (BookP p m ss::H) w:=
 (h.perm (s1.perm.trans ((s2.perm.trans (s3.perm.cons _)).cons _))).to (eqv0 p m ss H).symm
theorem perm1 {L F G H I J:List Part} {A B C D E:Part} (s1:Sel A L F) (s2:Sel B F G) (s3:Sel C G H) (s4:Sel D H I) (s5:Sel E I J):L.Perm (C::D::E::A::B::J):=
 (s1.perm.trans ((s2.perm.trans ((s3.perm.trans ((s4.perm.trans (s5.perm.cons D)).cons C)).cons B)).cons A)).trans (List.perm_append_comm (l₁:=[A,B]) (l₂:=[C,D,E]) |>.append_right J)
theorem fold1 {L0 L F G H I J:List Part} {w0 w:World} {p m:Nat} {l1 l2:List Ses} {s:Ses} (h:At L0 w0 L w) (s1:Sel (headC p m) L F) (s2:Sel (mapC m (ents (l1++s::l2))) F G)
 (s3:Sel (sesC s.blk s.cells) G H) (s4:Sel (toldC s.tm (saids s.told)) H I) (s5:Sel (restP (l1++l2)) I J):At L0 w0 (BookP p m (l1++s::l2)::J) w:=
 (h.perm (perm1 s1 s2 s3 s4 s5)).to (eqv1 p m l1 l2 s J).symm
theorem Zmx {L0 L F G H I J:List Part} {w0 w:World} {p m:Nat} {ss:List Ses} (s:Ses) (h:At L0 w0 L w) (s1:Sel (headC p m) L F) (s2:Sel (mapC m (ents ss++[(s.key,s.ptr)])) F G)
 (s3:Sel (sesC s.blk s.cells) G H) (s4:Sel (toldC s.tm (saids s.told)) H I) (s5:Sel (restP ss) I J):At L0 w0 (BookP p m (ss++[s])::J) w:=by
 have e:ents ss++[(s.key,s.ptr)]=ents (ss++s::[]):=by simp[ents,ent]
 rw[e] at s2;exact fold1 (l1:=ss) (l2:=[]) h s1 s2 s3 s4 (by rw[List.append_nil];exact s5)
theorem close0 {L0 L F G H:List Part} {w0 w:World} {p m:Nat} {ss:List Ses} (h:At L0 w0 L w) (s1:Sel (headC p m) L F) (s2:Sel (mapC m (ents ss)) F G) (s3:Sel (restP ss) G H):At L0 w0 [BookP p m ss] w:=(fold0 h s1 s2 s3).only1 .here
theorem ZcB {L0 L F G H I J:List Part} {w0 w:World} {p m:Nat} {l1 l2:List Ses} {s:Ses} (h:At L0 w0 L w) (s1:Sel (headC p m) L F) (s2:Sel (mapC m (ents (l1++s::l2))) F G)
 (s3:Sel (sesC s.blk s.cells) G H) (s4:Sel (toldC s.tm (saids s.told)) H I) (s5:Sel (restP (l1++l2)) I J):At L0 w0 [BookP p m (l1++s::l2)] w:=(fold1 h s1 s2 s3 s4 s5).only1 .here
theorem ZgU {L0 L F G H I J:List Part} {w0 w:World} {p m:Nat} {ss:List Ses} (s:Ses) (h:At L0 w0 L w) (s1:Sel (headC p m) L F) (s2:Sel (mapC m (ents ss++[(s.key,s.ptr)])) F G)
 (s3:Sel (sesC s.blk s.cells) G H) (s4:Sel (toldC s.tm (saids s.told)) H I) (s5:Sel (restP ss) I J):At L0 w0 [BookP p m (ss++[s])] w:=(Zmx s h s1 s2 s3 s4 s5).only1 .here
theorem opened {L0 L F G H I J:List Part} {w0 w:World} {p m:Nat} {l1 l2:List Ses} {s:Ses} {f:FuncId} {args:Array Value} {v:Value} (h:At L0 w0 L w) (s1:Sel (headC p m) L F) (s2:Sel (mapC m (ents (l1++s::l2))) F G)
 (s3:Sel (sesC s.blk s.cells) G H) (s4:Sel (toldC s.tm (saids s.told)) H I) (s5:Sel (restP (l1++l2)) I J)
 (hc:Sep [BookP p m (l1++s::l2)] w→Calls Tryz.prog f args w fun e w'=>e=.returned v∧At [BookP p m (l1++s::l2)] w [BookP p m (l1++s::l2)] w'):
 Calls Tryz.prog f args w fun e w'=>e=.returned v∧At L0 w0 L w':=
 At.through h ((Eqv.perm (perm1 s1 s2 s3 s4 s5)).trans (eqv1 p m l1 l2 s J).symm) hc
def find (ss:List Ses) (n:Int) (f:ByteArray):Option Ses:=ss.find? (·.is n f)
theorem find_split {ss:List Ses} {n:Int} {f:ByteArray} {s:Ses} (h:find ss n f=some s):∃l1 l2,ss=l1++s::l2∧s.num=n∧s.foot=f∧∀x ∈ l1,x.is n f=false:=by
 obtain⟨h1,l1,l2,h2,h3⟩:=List.find?_eq_some_iff_append.1 h;have h4:s.num=n∧s.foot=f:=by simpa [Ses.is] using h1
 exact⟨l1,l2,h2,h4.1,h4.2,fun x hx=>by simpa using h3 x hx⟩
theorem find_none {ss:List Ses} {n:Int} {f:ByteArray} (h:find ss n f=none):∀p ∈ ents ss,p.1≠keyV n f:=by
 intro p hp;obtain⟨s,hs,rfl⟩:=List.mem_map.1 hp;have h1:¬s.is n f=true:=List.find?_eq_none.1 h s hs;intro e;apply h1;simp[ent,Ses.key,keyV] at e;simp[Ses.is,e]
theorem find_mem {ss:List Ses} {n:Int} {f:ByteArray} {s:Ses} (h:find ss n f=some s):(keyV n f,s.ptr) ∈ ents ss:=by
 obtain⟨l1,l2,rfl,rfl,rfl,_⟩:=find_split h;simp[ents,ent,Ses.key]
def said (told:List (Int × Ans)) (r:Int):Option Ans:=(told.find? (·.1=r)).map (·.2)
theorem said_none {told:List (Int × Ans)} {r:Int} (h:said told r=none):∀p ∈ saids told,p.1≠.int .u64 r:=by
 intro p hp;obtain⟨s,hs,rfl⟩:=List.mem_map.1 hp;unfold said at h;simp at h
 intro e;simp[saidE] at e;exact h s.1 s.2 hs e
theorem ZlF {told:List (Int × Ans)} {r:Int} {a:Ans} (h:said told r=some a):(.int .u64 r,a.val) ∈ saids told:=by
 unfold said at h;simp only[Option.map_eq_some_iff] at h;obtain⟨q,h1,h2⟩:=h;have h3:=List.find?_some h1;have h4:=List.mem_of_find?_eq_some h1;refine List.mem_map.2 ⟨q,h4,?_⟩;simp at h3
 simp[saidE,h3,h2]
end Lease
end
section
namespace Lease
open Go.RowKit
open Go.Maps (Keyed)
theorem laidOut:laidOutB Tryz.prog=true:=by kernel_rfl
theorem wideS:(match Tryz.prog.underlying 25 with|some (.array _ _)|some (.struct _)=>true|_=>false)=true:=by kernel_rfl
theorem rowS:(25:TypeId) < Tryz.prog.types.size:=of_decide_eq_true (by kernel_rfl)
theorem lawS:Keyed Tryz.prog 25:=Keyed.of_law (deep_law_laid laidOut (m:=2) (by omega) rowS (by kernel_rfl) wideS)
theorem lawU:Keyed Tryz.prog 22:=Go.Maps.int_keyed Tryz.underlying22
theorem Zml:Tryz.prog.keyType 25=true:=by kernel_rfl
theorem cellsS:Tryz.prog.cellsOf 25=2:=by kernel_rfl
theorem cellsU:Tryz.prog.cellsOf 22=1:=by kernel_rfl
theorem cellsStr:Tryz.prog.cellsOf 9=1:=by kernel_rfl
theorem Zn9 (c0 c1:Value):(Value.agg #[c0,c1]).formed Tryz.prog 25=true:=by simp[Value.formed,Tryz.underlying25,cellsS]
def big64:Int:=18446744073709551616
theorem keyS {n:Int} {f:ByteArray} (h0:0≤n) (h1:n < big64) (hf:f.size≤maxLen):∃l,keyOf Tryz.prog 25 (keyV n f)=some l:=by
 have hw:(Lit.int .u64 n).wf=true:=by simp[Lit.wf,IntKind.min,IntKind.max,IntKind.signed,IntKind.bits];unfold big64 at h1;omega
 obtain⟨d,hd⟩:∃d,Tryz.prog.types.size=d + 1:=Nat.exists_eq_succ_of_ne_zero (Nat.ne_of_gt (Nat.lt_of_le_of_lt (Nat.zero_le _) rowS))
 have hl:Tryz.prog.keyLits (Tryz.prog.types.size + 1) 25 [.int .u64 n,.string f]=some [.int .u64 n,.string f.data.toList]:=by
  rw[hd];simp[Program.keyLits,Tryz.underlying25,Tryz.underlying22,Tryz.underlying9,cellsS,cellsU,cellsStr,hw,hf]
 exact⟨.string (keyBytes [.int .u64 n,.string f.data.toList]),by
  unfold keyOf;rw[Tryz.underlying25];simp only[Zml,keyV,Zn9,Bool.and_self,if_true];rw[show(Value.agg #[.int .u64 n,.string f]).cells.toList=[.int .u64 n,.string f] from rfl,hl]
  rfl⟩
theorem keyU {n:Int} (h0:0≤n) (h1:n < big64):∃l,keyOf Tryz.prog 22 (.int .u64 n)=some l:=
 ⟨_,Go.Maps.keyOf_int_mk Tryz.underlying22 (by simp[Lit.wf,IntKind.min,IntKind.max,IntKind.signed,IntKind.bits];unfold big64 at h1;omega)⟩
end Lease
end
section
namespace Lease
open Go.RowKit
open Go.Maps (Keyed)
def ZeR (o:Option Ses):Value:=
 match o with
 |none=>.agg #[.bool false,.bool false,.int .i64 0,.int .i64 0,.int .i64 0]
 |some s=>.agg #[.bool s.op,.bool s.dead,.int .i64 s.dl,.int .i64 s.ttl,.int .i64 s.told.length]
theorem Zkw {w:World} {p m:Nat} {ss:List Ses} (h:Sep [BookP p m ss] w) {n:Int} {f:ByteArray} (h0:0≤n) (h1:n < big64) (hf:f.size≤maxLen) (hn:find ss n f=none):
 Calls Tryz.prog 81 #[.pointer (some ⟨p,0,none⟩),keyV n f] w fun e w'=>e=.returned (ZeR none)∧At [BookP p m ss] w [BookP p m ss] w':=by
 obtain⟨kl,hk⟩:=keyS h0 h1 hf;have hmiss:=Hd (find_none hn);have hA:=begin0 h;have hF:=hA.facts;clear h;unfold keyV at *
 go_enter Tryz.func81,Tryz.ntmps81
 go_wp2_with (first|((with_reducible refine gbx ?_);refine wCy hA ?_;clear hF hA;intro b1 w1 hA hb1 hF)|((with_reducible refine gal ?_);refine g8 hA ?_;clear hF hA;intro b1 w1 hA hb1 hF))
 have hl:∀q,(Instr.lookup 147 (.map (some m)) (.agg #[.int .u64 n,.string f]) true).run Tryz.prog (w1.drewN q)=.ok (.tuple #[.pointer none,.bool false]) (w1.drewN q):=fun q=>
  MapAt.look_none (w:=w1.drewN q) ((hA.drewN q).get (A:=Part.map Tryz.prog 25 m (ents ss)) sR) lawS Tryz.underlying147 hk hmiss.out (by kernel_rfl) true
 go_quiet (fail)
 have hA:=hA.drewN nq;generalize World.drewN _ nq=w1 at *;clear hF;obtain⟨hA,hF⟩:=fY hA
 go_wp2_with ((with_reducible refine gst ?_);refine wTy hA ?_;clear hF hA;intro w1 hA hF)
 refine bodyPost_ret (v:=ZeR none) (by simp[ZeR,results,Tryz.results81,go_sem,hF]) rfl ⟨rfl,?_⟩;exact close0 (m:=m) (ss:=ss) hA sR sR sR
theorem Zkv {w:World} {p m:Nat} {ss:List Ses} (h:Sep [BookP p m ss] w) {n:Int} {f:ByteArray} (h0:0≤n) (h1:n < big64) (hf:f.size≤maxLen) {s:Ses} (hn:find ss n f=some s):
 Calls Tryz.prog 81 #[.pointer (some ⟨p,0,none⟩),keyV n f] w fun e w'=>e=.returned (ZeR (some s))∧At [BookP p m ss] w [BookP p m ss] w':=by
 obtain⟨kl,hk⟩:=keyS h0 h1 hf;have hmem:=Hd (find_mem hn);obtain⟨l1,l2,rfl,_,_,_⟩:=find_split hn;have hA:=Zla h;simp only[Ses.cells] at hA;obtain⟨hA,hF⟩:=fY hA;clear h hn;unfold keyV at *
 go_enter Tryz.func81,Tryz.ntmps81
 go_wp2_with (first|((with_reducible refine gbx ?_);refine wCy hA ?_;clear hF hA;intro b1 w1 hA hb1 hF)|((with_reducible refine gal ?_);refine g8 hA ?_;clear hF hA;intro b1 w1 hA hb1 hF))
 have hl:∀q,(Instr.lookup 147 (.map (some m)) (.agg #[.int .u64 n,.string f]) true).run Tryz.prog (w1.drewN q)=.ok (.tuple #[s.ptr,.bool true]) (w1.drewN q):=fun q=>
  MapAt.look_some (w:=w1.drewN q) ((hA.drewN q).get (A:=Part.map Tryz.prog 25 m (ents (l1++s::l2))) sR) lawS Tryz.underlying147 hk hmem.out true
 unfold Ses.ptr at hl;go_quiet (fail)
 have hA:=hA.drewN nq;generalize World.drewN _ nq=w1 at *;clear hF;obtain⟨hA,hF⟩:=fY hA
 go_wp2_with (first|((with_reducible refine gst ?_);refine wTy hA ?_;clear hF hA;intro w1 hA hF)|((with_reducible refine gal ?_);refine g8 hA ?_;clear hF hA;intro b1 w1 hA hb1 hF)|(refine Za2 rfl rfl rfl hA sR Tryz.underlying160 ?_))
 refine bodyPost_ret (v:=ZeR (some s)) (by simp[ZeR,saids,results,Tryz.results81,go_sem,hF]) rfl ⟨rfl,?_⟩;exact ZcB (m:=m) (s:=s) hA sR sR sZ sR sR
end Lease
end
section
namespace Lease
open Go.RowKit
open Go.Maps (Keyed)
def fresh (n:Int) (f:ByteArray) (b t:Nat):Ses:=⟨n,f,false,false,0,0,[],b,t⟩
def look (ss:List Ses) (n:Int) (f:ByteArray):Ses:=(find ss n f).getD (fresh n f 0 0)
def Ses.info (s:Ses):Value:=.agg #[.bool s.op,.bool s.dead,.int .i64 s.dl,.int .i64 s.ttl,.int .i64 s.told.length]
theorem ZaN {w:World} {p m:Nat} {ss:List Ses} (h:Sep [BookP p m ss] w) {n:Int} {f:ByteArray} (h0:0≤n) (h1:n < big64) (hf:f.size≤maxLen):
 Calls Tryz.prog 81 #[.pointer (some ⟨p,0,none⟩),.agg #[.int .u64 n,.string f]] w fun e w'=>e=.returned ((look ss n f).info)∧At [BookP p m ss] w [BookP p m ss] w':=by
 cases hn:find ss n f with
 |none=>have:=Zkw h h0 h1 hf hn;unfold look;rw[hn];exact this
 |some s=>have:=Zkv h h0 h1 hf hn;unfold look;rw[hn];exact this
def Zln (p m:Nat) (ss:List Ses) (n:Int) (f:ByteArray) (w:World) (e:Ending) (w':World):Prop:=
 ∃b t,e=.returned (.pointer (some ⟨b,0,none⟩))∧At [BookP p m ss] w [BookP p m (ss++[fresh n f b t])] w'
theorem Zi1 {w:World} {p m:Nat} {ss:List Ses} (h:Sep [BookP p m ss] w) {n:Int} {f:ByteArray} (h0:0≤n) (h1:n < big64) (hf:f.size≤maxLen) (hn:find ss n f=none):
 Calls Tryz.prog 98 #[.pointer (some ⟨p,0,none⟩),.agg #[.int .u64 n,.string f]] w (Zln p m ss n f w):=by
 obtain⟨kl,hk⟩:=keyS h0 h1 hf;have hmiss:=Hd (find_none hn);have hA:=begin0 h;have hF:=hA.facts;clear h;unfold keyV at *
 go_enter Tryz.func98,Tryz.ntmps98
 go_wp2_with ((with_reducible refine gbx ?_);refine wCy hA ?_;clear hF hA;intro b1 w1 hA hb1 hF)
 have hl:∀q,(Instr.lookup 147 (.map (some m)) (.agg #[.int .u64 n,.string f]) true).run Tryz.prog (w1.drewN q)=.ok (.tuple #[.pointer none,.bool false]) (w1.drewN q):=fun q=>
  MapAt.look_none (w:=w1.drewN q) ((hA.drewN q).get (A:=mapC m (ents ss)) sR) lawS Tryz.underlying147 hk hmiss.out (by kernel_rfl) true
 go_quiet (fail)
 have hA:=hA.drewN nq;generalize World.drewN _ nq=w1 at *;clear hF;obtain⟨hA,hF⟩:=fY hA
 go_wp2_with (first|((with_reducible refine gbx ?_);refine wCy hA ?_;clear hF hA;intro b1 w1 hA hb1 hF)|(refine ZaR Tryz.prog 22 rfl rfl hA ?_;intro b2 w1 hB hb2;replace hA:=hB;clear hF hB;obtain⟨hA,hF⟩:=fY hA))
 (refine Zar 6 (fun w'=>∃n,w'=World.drewN _ n) (by kernel_rfl) (by kernel_rfl) ⟨1,rfl⟩ ?_);(simp only[List.take_succ_cons,List.take_zero,List.drop_succ_cons,List.drop_zero]);(repeat(first|go_big_quiet_step (fail)|quiet_step (fail)));(refine wpQuiet_nil ?_);(rintro _ ⟨nq,rfl⟩)
 have hA:=hA.drewN nq;generalize World.drewN _ nq=w1 at *;clear hF;obtain⟨hA,hF⟩:=fY hA
 refine Zaz rfl rfl rfl (by(try simp only[Act.eval,eV])<;>exact rfl) (by(try simp only[Act.eval,eV])<;>exact rfl) hA sR lawS Tryz.underlying147 hk hmiss.out ?_;intro w1 hB;replace hA:=hB;clear hF hB;obtain⟨hA,hF⟩:=fY hA;go_wp2_with fail;go_ret;exact⟨_,_,rfl,ZgU (fresh n f _ _) hA sR sZ sZ sZ sR⟩
theorem ZeN {w:World} {p m:Nat} {ss:List Ses} (h:Sep [BookP p m ss] w) {n:Int} {f:ByteArray} (h0:0≤n) (h1:n < big64) (hf:f.size≤maxLen) {s:Ses} (hn:find ss n f=some s):
 Calls Tryz.prog 98 #[.pointer (some ⟨p,0,none⟩),.agg #[.int .u64 n,.string f]] w fun e w'=>e=.returned (.pointer (some ⟨s.blk,0,none⟩))∧At [BookP p m ss] w [BookP p m ss] w':=by
 obtain⟨kl,hk⟩:=keyS h0 h1 hf;have hmem:=Hd (find_mem hn);have hA:=begin0 h;have hF:=hA.facts;clear h;unfold keyV at *
 go_enter Tryz.func98,Tryz.ntmps98
 go_wp2_with ((with_reducible refine gbx ?_);refine wCy hA ?_;clear hF hA;intro b1 w1 hA hb1 hF)
 have hl:∀q,(Instr.lookup 147 (.map (some m)) (.agg #[.int .u64 n,.string f]) true).run Tryz.prog (w1.drewN q)=.ok (.tuple #[s.ptr,.bool true]) (w1.drewN q):=fun q=>
  MapAt.look_some (w:=w1.drewN q) ((hA.drewN q).get (A:=mapC m (ents ss)) sR) lawS Tryz.underlying147 hk hmem.out true
 unfold Ses.ptr at hl;go_quiet (fail)
 have hA:=hA.drewN nq;generalize World.drewN _ nq=w1 at *;clear hF;obtain⟨hA,hF⟩:=fY hA
 go_wp2_with fail;go_ret;exact⟨rfl,close0 (m:=m) (ss:=ss) hA sR sR sR⟩
theorem Zf5 {w:World} {p m:Nat} {ss:List Ses} (h:Sep [BookP p m ss] w) {n r:Int} {f:ByteArray} (h0:0≤n) (h1:n < big64) (hf:f.size≤maxLen) (hn:find ss n f=none):
 Calls Tryz.prog 56 #[.pointer (some ⟨p,0,none⟩),.agg #[.int .u64 n,.string f],.int .u64 r] w fun e w'=>e=.returned (.tuple #[.agg #[.int .i64 0,.int .u64 0,.bool false],.bool false])∧At [BookP p m ss] w [BookP p m ss] w':=by
 obtain⟨kl,hk⟩:=keyS h0 h1 hf;have hmiss:=Hd (find_none hn);have hA:=begin0 h;have hF:=hA.facts;clear h;unfold keyV at *
 go_enter Tryz.func56,Tryz.ntmps56
 go_wp2_with (first|((with_reducible refine gbx ?_);refine wCy hA ?_;clear hF hA;intro b1 w1 hA hb1 hF)|((with_reducible refine gal ?_);refine g1 hA ?_;clear hF hA;intro b1 w1 hA hb1 hF))
 have hl:∀q,(Instr.lookup 147 (.map (some m)) (.agg #[.int .u64 n,.string f]) true).run Tryz.prog (w1.drewN q)=.ok (.tuple #[.pointer none,.bool false]) (w1.drewN q):=fun q=>
  MapAt.look_none (w:=w1.drewN q) ((hA.drewN q).get (A:=mapC m (ents ss)) sR) lawS Tryz.underlying147 hk hmiss.out (by kernel_rfl) true
 go_quiet (fail)
 have hA:=hA.drewN nq;generalize World.drewN _ nq=w1 at *;clear hF;obtain⟨hA,hF⟩:=fY hA
 go_wp2_with ((with_reducible refine gst ?_);refine wTy hA ?_;clear hF hA;intro w1 hA hF)
 refine bodyPost_ret (v:=.tuple #[.agg #[.int .i64 0,.int .u64 0,.bool false],.bool false]) (by simp[results,Tryz.results56,go_sem,hF]) rfl ⟨rfl,?_⟩;exact close0 (m:=m) (ss:=ss) hA sR sR sR
theorem Zfi {w:World} {p m:Nat} {ss:List Ses} (h:Sep [BookP p m ss] w) {n r:Int} {f:ByteArray} (h0:0≤n) (h1:n < big64) (hf:f.size≤maxLen) {s:Ses} (hn:find ss n f=some s) (r0:0≤r) (r1:r < big64) (hr:said s.told r=none):
 Calls Tryz.prog 56 #[.pointer (some ⟨p,0,none⟩),.agg #[.int .u64 n,.string f],.int .u64 r] w fun e w'=>e=.returned (.tuple #[.agg #[.int .i64 0,.int .u64 0,.bool false],.bool false])∧At [BookP p m ss] w [BookP p m ss] w':=by
 obtain⟨kl,hk⟩:=keyS h0 h1 hf;obtain⟨ku,hu⟩:=keyU r0 r1;have hmem:=Hd (find_mem hn);have hmiss:=Hd (said_none hr);obtain⟨l1,l2,rfl,_,_,_⟩:=find_split hn;have hA:=Zla h;simp only[Ses.cells] at hA;obtain⟨hA,hF⟩:=fY hA;clear h hn;unfold keyV at *
 go_enter Tryz.func56,Tryz.ntmps56
 go_wp2_with (first|((with_reducible refine gbx ?_);refine wCy hA ?_;clear hF hA;intro b1 w1 hA hb1 hF)|((with_reducible refine gal ?_);refine g1 hA ?_;clear hF hA;intro b1 w1 hA hb1 hF))
 have hl:∀q,(Instr.lookup 147 (.map (some m)) (.agg #[.int .u64 n,.string f]) true).run Tryz.prog (w1.drewN q)=.ok (.tuple #[s.ptr,.bool true]) (w1.drewN q):=fun q=>
  MapAt.look_some (w:=w1.drewN q) ((hA.drewN q).get (A:=mapC m (ents (l1++s::l2))) sR) lawS Tryz.underlying147 hk hmem.out true
 unfold Ses.ptr at hl;go_quiet (fail)
 have hA:=hA.drewN nq;generalize World.drewN _ nq=w1 at *;clear hF;obtain⟨hA,hF⟩:=fY hA
 go_wp2_with (first|((with_reducible refine gst ?_);refine wTy hA ?_;clear hF hA;intro w1 hA hF)|((with_reducible refine gal ?_);refine g1 hA ?_;clear hF hA;intro b1 w1 hA hb1 hF)|(refine ZbA rfl rfl rfl (by(try simp only[Act.eval,eV])<;>exact rfl) hA (k:=22) (es:=saids s.told) sR lawU Tryz.underlying160 hu hmiss.out (z:=.agg #[.int .i64 0,.int .u64 0,.bool false]) (fun _=>by kernel_rfl) ?_))
 refine bodyPost_ret (v:=.tuple #[.agg #[.int .i64 0,.int .u64 0,.bool false],.bool false]) (by simp[results,Tryz.results56,go_sem,hF]) rfl ⟨rfl,?_⟩;exact ZcB (m:=m) (s:=s) hA sR sR sZ sR sR
theorem ZhR {w:World} {p m:Nat} {ss:List Ses} (h:Sep [BookP p m ss] w) {n r:Int} {f:ByteArray} (h0:0≤n) (h1:n < big64) (hf:f.size≤maxLen) {s:Ses} (hn:find ss n f=some s) (r0:0≤r) (r1:r < big64) {a:Ans} (hr:said s.told r=some a):
 Calls Tryz.prog 56 #[.pointer (some ⟨p,0,none⟩),.agg #[.int .u64 n,.string f],.int .u64 r] w fun e w'=>e=.returned (.tuple #[.agg #[.int .i64 a.e,.int .u64 a.n,.bool a.g],.bool true])∧At [BookP p m ss] w [BookP p m ss] w':=by
 obtain⟨kl,hk⟩:=keyS h0 h1 hf;obtain⟨ku,hu⟩:=keyU r0 r1;have hmem:=Hd (find_mem hn);have hthere:=Hd (ZlF hr);obtain⟨l1,l2,rfl,_,_,_⟩:=find_split hn;have hA:=Zla h;simp only[Ses.cells] at hA;obtain⟨hA,hF⟩:=fY hA;clear h hn;unfold keyV Ans.val at *
 go_enter Tryz.func56,Tryz.ntmps56
 go_wp2_with (first|((with_reducible refine gbx ?_);refine wCy hA ?_;clear hF hA;intro b1 w1 hA hb1 hF)|((with_reducible refine gal ?_);refine g1 hA ?_;clear hF hA;intro b1 w1 hA hb1 hF))
 have hl:∀q,(Instr.lookup 147 (.map (some m)) (.agg #[.int .u64 n,.string f]) true).run Tryz.prog (w1.drewN q)=.ok (.tuple #[s.ptr,.bool true]) (w1.drewN q):=fun q=>
  MapAt.look_some (w:=w1.drewN q) ((hA.drewN q).get (A:=mapC m (ents (l1++s::l2))) sR) lawS Tryz.underlying147 hk hmem.out true
 unfold Ses.ptr at hl;go_quiet (fail)
 have hA:=hA.drewN nq;generalize World.drewN _ nq=w1 at *;clear hF;obtain⟨hA,hF⟩:=fY hA
 go_wp2_with (first|((with_reducible refine gst ?_);refine wTy hA ?_;clear hF hA;intro w1 hA hF)|((with_reducible refine gal ?_);refine g1 hA ?_;clear hF hA;intro b1 w1 hA hb1 hF)|(refine Zba rfl rfl rfl (by(try simp only[Act.eval,eV])<;>exact rfl) hA (k:=22) (es:=saids s.told) sR lawU Tryz.underlying160 hu hthere.out ?_))
 refine bodyPost_ret (v:=.tuple #[.agg #[.int .i64 a.e,.int .u64 a.n,.bool a.g],.bool true]) (by simp[results,Tryz.results56,go_sem,hF]) rfl ⟨rfl,?_⟩;exact ZcB (m:=m) (s:=s) hA sR sR sZ sR sR
end Lease
end
section
namespace Lease
open Go.RowKit
open Go.Maps (Keyed)
theorem Zfu {w:World} {p m:Nat} {ss:List Ses} (h:Sep [BookP p m ss] w) {n:Int} {f:ByteArray} (h0:0≤n) (h1:n < big64) (hf:f.size≤maxLen) (hr:(look ss n f).told.length < 256):
 Calls Tryz.prog 57 #[.pointer (some ⟨p,0,none⟩),.agg #[.int .u64 n,.string f]] w fun e w'=>e=.returned (.bool true)∧At [BookP p m ss] w [BookP p m ss] w':=by
 have hA:=At.start h;have hF:=hA.facts;have hlt:((look ss n f).told.length:Int) < 256:=by omega
 clear h;have hfd:∀a b c d e w,(Instr.field 137 (.agg #[a,b,c,d,e]) 4).run Tryz.prog w=.ok e w:=fun _ _ _ _ _ _=>by kernel_rfl
 go_enter Tryz.func57,Tryz.ntmps57
 go_wp2_with ((with_reducible refine gbx ?_);refine wCy hA ?_;clear hF hA;intro b1 w1 hA hb1 hF)
 refine(ZaN (hA.sep1 sR) h0 h1 hf).mono ?_;unfold Ses.info;rintro e w1 ⟨rfl,hT⟩;replace hA:=hA.call1 sR hT;clear hF hT;obtain⟨hA,hF⟩:=fY hA;go_wp2_with fail;go_ret;exact⟨rfl,hA.only1 sR⟩
theorem ZjQ {w:World} {p m:Nat} {ss:List Ses} (h:Sep [BookP p m ss] w) {n:Int} {f:ByteArray} (h0:0≤n) (h1:n < big64) (hf:f.size≤maxLen) (hr:¬(look ss n f).told.length < 256):
 Calls Tryz.prog 57 #[.pointer (some ⟨p,0,none⟩),.agg #[.int .u64 n,.string f]] w fun e w'=>e=.returned (.bool false)∧At [BookP p m ss] w [BookP p m ss] w':=by
 have hA:=At.start h;have hF:=hA.facts;have hlt:decide (((look ss n f).told.length:Int) < 256)=false:=by simp;omega
 clear h;have hfd:∀a b c d e w,(Instr.field 137 (.agg #[a,b,c,d,e]) 4).run Tryz.prog w=.ok e w:=fun _ _ _ _ _ _=>by kernel_rfl
 go_enter Tryz.func57,Tryz.ntmps57
 go_wp2_with ((with_reducible refine gbx ?_);refine wCy hA ?_;clear hF hA;intro b1 w1 hA hb1 hF)
 refine(ZaN (hA.sep1 sR) h0 h1 hf).mono ?_;unfold Ses.info;rintro e w1 ⟨rfl,hT⟩;replace hA:=hA.call1 sR hT;clear hF hT;obtain⟨hA,hF⟩:=fY hA;go_wp2_with fail;go_ret;exact⟨rfl,hA.only1 sR⟩
theorem Zlu {w:World} {p m:Nat} {ss:List Ses} (h:Sep [BookP p m ss] w) {n r:Int} {f:ByteArray} (h0:0≤n) (h1:n < big64) (hf:f.size≤maxLen) {s:Ses} (hn:find ss n f=some s) (r0:0≤r) (r1:r < big64) {a:Ans} (hr:said s.told r=some a) (c:Ans):
 Calls Tryz.prog 60 #[.pointer (some ⟨p,0,none⟩),.agg #[.int .u64 n,.string f],.int .u64 r,.agg #[.int .i64 c.e,.int .u64 c.n,.bool c.g]] w fun e w'=>e=.returned (.tuple #[])∧At [BookP p m ss] w [BookP p m ss] w':=by
 have hA:=At.start h;have hF:=hA.facts;clear h;go_enter Tryz.func60,Tryz.ntmps60
 go_wp2_with ((with_reducible refine gbx ?_);refine wCy hA ?_;clear hF hA;intro b1 w1 hA hb1 hF)
 refine(ZhR (hA.sep1 sR) h0 h1 hf hn r0 r1 hr).mono ?_;rintro e w1 ⟨rfl,hT⟩;replace hA:=hA.call1 sR hT;clear hF hT;obtain⟨hA,hF⟩:=fY hA
 go_wp2_with (first|((with_reducible refine gst ?_);refine wTy hA ?_;clear hF hA;intro w1 hA hF)|((with_reducible refine gal ?_);refine g1 hA ?_;clear hF hA;intro b1 w1 hA hb1 hF))
 refine bodyPost_ret (results_none rfl _ _ _) rfl ?_;exact⟨rfl,hA.only1 sR⟩
theorem Zjx {w:World} {p m:Nat} {ss:List Ses} (h:Sep [BookP p m ss] w) {n r:Int} {f:ByteArray} (h0:0≤n) (h1:n < big64) (hf:f.size≤maxLen) {s:Ses} (hn:find ss n f=some s) (r0:0≤r) (r1:r < big64) (hr:said s.told r=none) (hl:¬s.told.length < 256) (c:Ans):
 Calls Tryz.prog 60 #[.pointer (some ⟨p,0,none⟩),.agg #[.int .u64 n,.string f],.int .u64 r,.agg #[.int .i64 c.e,.int .u64 c.n,.bool c.g]] w fun e w'=>e=.returned (.tuple #[])∧At [BookP p m ss] w [BookP p m ss] w':=by
 have hA:=At.start h;have hF:=hA.facts;have hl':¬(look ss n f).told.length < 256:=by unfold look;rw[hn];exact hl
 clear h;go_enter Tryz.func60,Tryz.ntmps60
 go_wp2_with ((with_reducible refine gbx ?_);refine wCy hA ?_;clear hF hA;intro b1 w1 hA hb1 hF)
 refine(Zfi (hA.sep1 sR) h0 h1 hf hn r0 r1 hr).mono ?_;rintro e w1 ⟨rfl,hT⟩;replace hA:=hA.call1 sR hT;clear hF hT;obtain⟨hA,hF⟩:=fY hA
 go_wp2_with (first|((with_reducible refine gst ?_);refine wTy hA ?_;clear hF hA;intro w1 hA hF)|((with_reducible refine gal ?_);refine g1 hA ?_;clear hF hA;intro b1 w1 hA hb1 hF))
 refine(ZjQ (hA.sep1 sR) h0 h1 hf hl').mono ?_;rintro e w1 ⟨rfl,hT⟩;replace hA:=hA.call1 sR hT;clear hF hT;obtain⟨hA,hF⟩:=fY hA;go_wp2_with fail;refine bodyPost_ret (results_none rfl _ _ _) rfl ?_;exact⟨rfl,hA.only1 sR⟩
theorem Zlv {w:World} {p m:Nat} {l1 l2:List Ses} {s:Ses} (h:Sep [BookP p m (l1++s::l2)] w) {n r:Int} {f:ByteArray} (h0:0≤n) (h1:n < big64) (hf:f.size≤maxLen) (hn:find (l1++s::l2) n f=some s) (r0:0≤r) (r1:r < big64) (hr:said s.told r=none) (hl:s.told.length < 256) (c:Ans):
 Calls Tryz.prog 60 #[.pointer (some ⟨p,0,none⟩),.agg #[.int .u64 n,.string f],.int .u64 r,.agg #[.int .i64 c.e,.int .u64 c.n,.bool c.g]] w
  fun e w'=>e=.returned (.tuple #[])∧At [BookP p m (l1++s::l2)] w [BookP p m (l1++{s with told:=s.told++[(r,c)]}::l2)] w':=by
 obtain⟨ku,hu⟩:=keyU r0 r1;have hmiss:=Hd (said_none hr);have hA:=At.start h;have hF:=hA.facts;have hl':(look (l1++s::l2) n f).told.length < 256:=by unfold look;rw[hn];exact hl
 clear h;go_enter Tryz.func60,Tryz.ntmps60
 go_wp2_with ((with_reducible refine gbx ?_);refine wCy hA ?_;clear hF hA;intro b1 w1 hA hb1 hF)
 refine(Zfi (hA.sep1 sR) h0 h1 hf hn r0 r1 hr).mono ?_;rintro e w1 ⟨rfl,hT⟩;replace hA:=hA.call1 sR hT;clear hF hT;obtain⟨hA,hF⟩:=fY hA
 go_wp2_with (first|((with_reducible refine gst ?_);refine wTy hA ?_;clear hF hA;intro w1 hA hF)|((with_reducible refine gal ?_);refine g1 hA ?_;clear hF hA;intro b1 w1 hA hb1 hF))
 refine(Zfu (hA.sep1 sR) h0 h1 hf hl').mono ?_;rintro e w1 ⟨rfl,hT⟩;replace hA:=hA.call1 sR hT;clear hF hT;obtain⟨hA,hF⟩:=fY hA;go_wp2_with fail;have hA:=open1 hA sR;simp only[Ses.cells] at hA;obtain⟨hA,hF⟩:=fY hA;(refine Zar 8 (Cl _ _ _) (by kernel_rfl) (by kernel_rfl) (Cl.drew hA) ?_);(simp only[List.take_succ_cons,List.take_zero,List.drop_succ_cons,List.drop_zero]);(have hn1:=Cl.none hA);(have hn2:=Cl.none2 hA);(repeat(first|go_big_quiet_skip|(go_big_quiet_want;(first|(refine qM 65 3 ?_;go_frame;go_big_quiet_on)|(refine qM 25 2 ?_;go_frame;go_big_quiet_on)|(refine qL ?_;go_frame;go_big_quiet_on)|(go_big_quiet_op;(first|go_big_quiet_on|((apply Exists.intro);(refine⟨fun w1 hw=> ?_,?_⟩);(focus((have hw:=Cl.out hw);(exact opened hw sR sR sZ sR sR (fun q=>ZeN q h0 h1 hf hn))));(go_big_quiet_on))))))))
 (refine wpQuiet_nil ?_);(intro w1 hB);(clear hF hA hn1 hn2);(have hA:=Cl.out hB);(clear hB);obtain⟨hA,hF⟩:=fY hA
 refine Zaz rfl rfl rfl (by(try simp only[Act.eval,eV])<;>exact rfl) (by(try simp only[Act.eval,eV])<;>exact rfl) hA (k:=22) (es:=saids s.told) sR lawU Tryz.underlying160 hu hmiss.out ?_;intro w1 hB;replace hA:=hB;clear hF hB;obtain⟨hA,hF⟩:=fY hA;go_wp2_with fail;go_end0
 refine⟨rfl,?_⟩
 have e1:saids s.told++[(Value.int .u64 r,Value.agg #[.int .i64 c.e,.int .u64 c.n,.bool c.g])]=saids (s.told++[(r,c)]):=by simp[saids,saidE,Ans.val]
 have e2:ents (l1++s::l2)=ents (l1++{s with told:=s.told++[(r,c)]}::l2):=by simp[ents,ent,Ses.key,Ses.ptr]
 rw[e1,e2] at hA;exact ZcB (m:=m) (s:={s with told:=s.told++[(r,c)]}) hA sR sR sZ sR sR
end Lease
end
section
namespace Lease
open Go.RowKit
open Go.Maps (Keyed)
def cutI (t:Int):Int:=if t < 0 then 0 else if 2199023255552 < t then 2199023255552 else t
theorem Zci (t:Int):0≤cutI t∧cutI t≤2199023255552:=by unfold cutI;split<;>(try split)<;>omega
theorem Zeg (t:Int) (w:World):Calls Tryz.prog 132 #[.int .i64 t] w fun e w'=>e=.returned (.int .i64 (cutI t))∧w=w':=by
 by_cases h0:t < 0
 · have e:cutI t=0:=by simp[cutI,h0]
   rw[e];go_enter Tryz.func132,Tryz.ntmps132;go_wp2
   go_ret;exact⟨by first|rfl|(show Ending.returned (Value.int .i64 (min (max t 0) 2199023255552))=_;rw[show min (max t 0) 2199023255552=0 by omega]),rfl⟩
 by_cases h1:2199023255552 < t
 · have e:cutI t=2199023255552:=by simp[cutI,h0,h1]
   rw[e];go_enter Tryz.func132,Tryz.ntmps132;go_wp2
   go_ret;exact⟨by first|rfl|(show Ending.returned (Value.int .i64 (min (max t 0) 2199023255552))=_;rw[show min (max t 0) 2199023255552=2199023255552 by omega]),rfl⟩
 have e:cutI t=t:=by simp[cutI,h0,h1]
 rw[e];go_enter Tryz.func132,Tryz.ntmps132;go_wp2
 go_ret;exact⟨by first|rfl|(show Ending.returned (Value.int .i64 (min (max t 0) 2199023255552))=_;rw[show min (max t 0) 2199023255552=t by omega]),rfl⟩
def endI (time ttl:Int):Int:=cutI (cutI time + cutI ttl)
theorem Zdl (time ttl:Int) (w:World):Calls Tryz.prog 131 #[.int .i64 time,.int .i64 ttl] w fun e w'=>e=.returned (.int .i64 (endI time ttl))∧w=w':=by
 have b1:=Zci time;have b2:=Zci ttl;go_enter Tryz.func131,Tryz.ntmps131;go_wp2_with fail;refine(Zeg _ _).mono ?_;rintro e _ ⟨rfl,rfl⟩;go_wp2_with fail;refine(Zeg _ _).mono ?_;rintro e _ ⟨rfl,rfl⟩;go_wp2_with fail;refine(Zeg _ _).mono ?_;rintro e _ ⟨rfl,rfl⟩;go_wp2_with fail;go_ret;exact⟨rfl,rfl⟩
def NewPost (w:World) (e:Ending) (w':World):Prop:=∃p m,e=.returned (.pointer (some ⟨p,0,none⟩))∧At [] w [BookP p m []] w'
theorem new_any (w:World):Calls Tryz.prog 51 #[] w (NewPost w):=by
 have hA:=At.start (w0:=w) (L0:=[]) trivial;have hF:=hA.facts;go_enter Tryz.func51,Tryz.ntmps51
 go_wp2_with (first|((with_reducible refine gbx ?_);refine wCy hA ?_;clear hF hA;intro b1 w1 hA hb1 hF)|(refine ZaR Tryz.prog 25 rfl rfl hA ?_;intro b2 w1 hB hb2;replace hA:=hB;clear hF hB;obtain⟨hA,hF⟩:=fY hA))
 go_ret;have hB:At [] w [headC b1 b2,mapC b2 (ents [])] w1:=hA;have hC:=hB.new (Ext.refl w1) (restP []) trivial (fun b hb=>by obtain⟨A,hA,_⟩:=hb;cases hA);exact⟨_,_,rfl,close0 (m:=b2) (ss:=[]) hC sZ sZ sZ⟩
end Lease
end
end Go.Proofs.YtknoefbcmomalaaGreatDoor
