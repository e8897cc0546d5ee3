/- PathW, SeqB, PathI, RowI, PathJ, PathK, joined. -/
import Derived.Test.YtkdjkngfnapjcaaGreatDoorQ10
import Derived.Test.YtkdjkngfnapjcaaGreatDoorQ1
import Derived.Test.YtkdjkngfnapjcaaGreatDoorQ3
import Derived.Test.YtkdjkngfnapjcaaGreatDoorChecked
import Derived.Laws.RangeAny
import Derived.Lib.OthersKept
import Derived.Deep.QuietTactic
import Derived.BigQuiet
import Derived.Deep.LoopGhost
import Derived.WalkLawsBesides
import Derived.RangeFuncNested
import Derived.RangeFuncBound
import Derived.RangeFuncCalls
import Derived.RangeFuncLeaves
import Derived.Shelf.Abstract
import Derived.WalkKit
import Derived.OwnWalkIn
import Derived.TacticsInMore
import Derived.LoopNIn
import Derived.LoopIn
import Derived.Test.YtkdjkngfnapjcaaGreatDoorShelft
import Derived.RangeFuncBox
import Derived.Outline
import Derived.IntWalk
set_option linter.unusedSimpArgs false
set_option linter.unusedVariables false
set_option maxRecDepth 100000
set_option maxHeartbeats 16000000
namespace Go.Proofs.YtkdjkngfnapjcaaGreatDoor
section
namespace Path
open Go.RowKit
def letR (r:Int):Bool:=(decide (97≤r)&&decide (r≤122)) || (decide (48≤r)&&decide (r≤57)) || decide (r=45) || decide (r=95)
theorem Zkv (c:UInt8):letR (c.toNat:Int)=letB c:=by
 unfold letR letB;rw[Bool.eq_iff_iff];simp only[Bool.or_eq_true,Bool.and_eq_true,decide_eq_true_eq]
 omega
theorem Zku {r:Int} (h:128≤r):letR r=false:=by
 unfold letR
 have h1:¬r≤122:=by omega
 have h2:¬r≤57:=by omega
 have h3:¬r=45:=by omega
 have h4:¬r=95:=by omega
 simp[h1,h2,h3,h4]
theorem ZeW (r:Int) (w:World):Calls Tryz.prog 284 #[.int .i32 r] w fun e w'=>e=.returned (.bool (letR r))∧w=w':=by
 have key:∀(b1 b2 b3 b4 b5 b6:Bool),decide (97≤r)=b1→decide (r≤122)=b2→decide (48≤r)=b3→decide (r≤57)=b4→decide (r=45)=b5→decide (r=95)=b6→
  Calls Tryz.prog 284 #[.int .i32 r] w fun e w'=>e=.returned (.bool ((b1&&b2) || (b3&&b4) || b5 || b6))∧w=w':=by
  intro b1 b2 b3 b4 b5 b6 h1 h2 h3 h4 h5 h6
  have h5':(r==45)=b5:=by rw[←h5];rfl
  have h6':(r==95)=b6:=by rw[←h6];rfl
  clear h5 h6
  cases b1<;>cases b2<;>cases b3<;>cases b4<;>cases b5<;>cases b6
  all_goals first
   |(exfalso;simp at h1 h2 h3 h4 h5' h6';omega)
   |(go_enter Tryz.func284,Tryz.ntmps284
     go_wp2
     go_ret
     exact⟨rfl,rfl⟩)
 exact key _ _ _ _ _ _ rfl rfl rfl rfl rfl rfl
section
variable {P:Program} {ops:Array Oper} {rest:List Oper} {o:Oper} {a:Act} {Q:Exit→Act→World→Prop} {L0 L F:List Part} {w0 w:World}
theorem Zdw {t:TypeId} {x:Operand} {s:ByteArray} (hg:o.guard=none) (hop:o.op=.range t x) (hx:a.eval x=.string s) (ht:P.underlying t=some .string) (h:At L0 w0 L w)
 (hK:∀r w',At L0 w0 (Part.obj r (.stringIter s 0)::L) w'→w0.heap.size≤r→wpList P ops Q rest (a.put o.dst (.pointer (some ⟨r,0,none⟩))) w'):wpList P ops Q (o::rest) a w:=by
 refine Zak hg ?_ (hK _ _ (h.allocObj (.stringIter s 0)) h.size);simp[execOp,hop,hx,run_range_string w t s ht,World.iter,Result.andThen]
theorem ZdN {r pos:Nat} {s:ByteArray} {it:Operand} (hg:o.guard=none) (hop:o.op=.next it true) (hi:a.eval it=.pointer (some ⟨r,0,none⟩)) (h:At L0 w0 L w) (sl:Sel (Part.obj r (.stringIter s pos)) L F)
 (hEnd:¬pos < s.size→wpList P ops Q rest (a.put o.dst (.tuple #[.bool false])) w)
 (hK:∀w',pos < s.size→At L0 w0 (Part.obj r (.stringIter s (pos + (Utf8.decode s pos).2))::F) w'→wpList P ops Q rest (a.put o.dst (.tuple #[.bool true,.int .i64 pos,.int .i32 (Utf8.decode s pos).1])) w'):wpList P ops Q (o::rest) a w:=by
 have hI:w.heap[r]? =some (.stringIter s pos):=h.get sl
 by_cases hp:pos < s.size
 · have h1:=Lib.run_next_any_at (P:=P) w r s pos o.type hI hp
   refine Zak hg ?_ (hK _ hp (h.turn sl (Part.obj r (.stringIter s (pos + (Utf8.decode s pos).2))) (Lib.iterAt_heap w r s pos _ hI) (fun _ e=>.inl e) ?_))
   · simp[execOp,hop,hi,h1,Result.andThen]
   exact⟨rfl,rfl,rfl,by rw[Lib.iterAt_size];exact Nat.le_refl _,fun i _ hn=>Lib.iterAt_other w r i s _ hn⟩
 have h1:=Lib.run_next_end_at (P:=P) w r s pos o.type hI hp;refine Zak hg ?_ (hEnd hp);simp[execOp,hop,hi,h1,Result.andThen]
end
theorem ZmJ {s:ByteArray} {pos:Nat} (h:¬pos < s.size) (ha:(s.data.toList.take pos).all letB=true):s.data.toList.all letB=true:=by
 rwa [List.take_of_length_le (by simpa using Nat.le_of_not_lt h)] at ha
theorem ZmK {s:ByteArray} {pos:Nat} (h:pos < s.size) (ha:(s.data.toList.take pos).all letB=true) (hc:letB s[pos]=true):(s.data.toList.take (pos + 1)).all letB=true:=by
 rw[List.take_succ_eq_append_getElem (by simpa using h),List.all_append,ha]
 simpa using(show letB (s.data[pos]'(by simpa using h))=true from hc)
theorem all_no {s:ByteArray} {pos:Nat} (h:pos < s.size) (hc:letB s[pos]=false):partB s.data.toList=false:=by
 unfold partB;rw[Bool.and_eq_false_iff]
 right
 cases q:s.data.toList.all letB
 · rfl
 have:=List.all_eq_true.1 q s[pos] (by show s.data[pos]'(by simpa using h) ∈ s.data.toList;exact Array.mem_toList_iff.2 (Array.getElem_mem _))
 rw[hc] at this;cases this
theorem Zjs {c:UInt8} (h:letB c=true):c.toNat < 128:=by
 unfold letB at h;simp only[Bool.or_eq_true,Bool.and_eq_true,decide_eq_true_eq] at h
 omega
theorem ZnY {s:ByteArray} {pos:Nat} (h:pos < s.size) (hc:letB s[pos]=true):Utf8.decode s pos=(s[pos].toNat,1):=decode_ascii s pos h (Zjs hc)
theorem dec_no {s:ByteArray} {pos:Nat} (h:pos < s.size) (hc:letB s[pos]=false):letR ((Utf8.decode s pos).1:Int)=false:=by
 by_cases ha:s[pos].toNat < 128
 · rw[decode_ascii s pos h ha]
   simp only;rw[Zkv,hc]
 have:=(decode_high s pos h (by omega)).1
 exact Zku (by omega)
def PartRel (w:World) (r:Nat) (s:ByteArray) (k:Nat) (wr:World):Prop:=
 ∃pos:Nat,At [] w [Part.obj r (.stringIter s pos)] wr∧pos + k=s.size∧(s.data.toList.take pos).all letB=true
theorem Ziy (s:ByteArray) (w:World):Calls Tryz.prog 252 #[.string s] w fun e w'=>e=.returned (.bool (partB s.data.toList))∧Ext w w':=by
 have hA:=At.start (w0:=w) (L0:=[]) trivial;have hF:=hA.facts
 go_enter Tryz.func252,Tryz.ntmps252
 go_wp2_with (refine Zdw rfl rfl rfl Tryz.underlying9 hA ?_;intro r w1 hB hr;clear hF hA;have hA:=hB;clear hB;obtain⟨hA,hF⟩:=fY hA)
 try go_frame
 go_loopg [] s.size (PartRel w r s)
 case atStart=>exact⟨0,hA,by simp,by simp⟩
 case round=>
  obtain⟨pos,hB,hk,hal⟩:=hrel;clear hF hA;have hA:=hB;clear hB
  go_step
  go_step
  refine ZdN rfl rfl rfl hA sR (fun hp=> ?_) (fun w1 hp hB=> ?_)
  · have hall:=ZmJ hp hal
    have e:partB s.data.toList= !s.data.toList.isEmpty:=by unfold partB;rw[hall,Bool.and_true]
    have e':=Hd e;clear e hall hal
    go_wp2_with fail
    go_ret;exact⟨by rw[e'.out,←Lib.toList_data];rfl,hA.toExt⟩
  cases hc:letB s[pos]
  · have hd:=dec_no hp hc
    have hno:=Hd (all_no hp hc);clear hc hal hk
    generalize Utf8.decode s pos=d at *
    obtain⟨d1,d2⟩:=d;simp only at hd;clear hA;have hA:=hB;clear hB;obtain⟨hA,hF⟩:=fY hA
    go_wp2_with (refine(ZeW _ _).mono ?_;rintro e _ ⟨rfl,rfl⟩)
    go_ret;exact⟨by rw[hno.out];rfl,hA.toExt⟩
  have hd:=ZnY hp hc;have hal':=Hd (ZmK hp hal hc)
  have hy:letR (s[pos].toNat:Int)=true:=by rw[Zkv,hc]
  rw[hd] at hB;rw[hd];clear hd hal
  generalize s[pos]=c at *
  clear hA;have hA:=hB;clear hB;obtain⟨hA,hF⟩:=fY hA
  go_wp2_with (refine(ZeW _ _).mono ?_;rintro e _ ⟨rfl,rfl⟩)
  go_roundg (gk - 1)
  case measure=>omega
  case rel=>exact⟨pos + 1,hA,by omega,hal'.out⟩
end Path
end
section
section
open Go.RowKit
def Zh5 {β:Type} (Bs:Nat) (J:β→World→Prop):Prop:=
 ∀s W W' row,J s W→W.grownBy W' row→(∀r,row=some r→r=Bs∧∃o:Obj,W'.heap[r]? =some o∧o.isCells=true)→J s W'
def OwnB {β:Type} (Bs B:Nat) (I:β→World→Prop):Prop:=
 ∀s W W' row,I s W→W.grownBy W' row→(∀r,row=some r→(r=Bs∧∃o:Obj,W'.heap[r]? =some o∧o.isCells=true)∨(B≤r∧∃o:Obj,W.heap[r]? =some o∧o.isCells=false))→I s W'
section
variable {β:Type} {Bs B:Nat} {I:β→World→Prop} {s:β} {W:World}
theorem OwnB.abides (h:OwnB Bs B I):Zh5 Bs I:=fun s W W' row hs hg hr=>h s W W' row hs hg (fun r e=>.inl (hr r e))
theorem OwnB.put (h:OwnB Bs B I) {l:Nat} {o:Obj} (o':Obj) (hs:I s W) (hB:B≤l) (hl:W.heap[l]? =some o) (ho:o.isCells=false):I s (W.putObj l o'):=
 h s W _ (some l) hs (grownBy_putObj' W l o') (fun r e=>by cases e;exact .inr ⟨hB,o,hl,ho⟩)
theorem OwnB.alloc (h:OwnB Bs B I) (o:Obj) (hs:I s W):I s (W.alloc o):=h s W _ none hs (World.grownBy_alloc W o none) (fun r e=>by cases e)
end
def SeqB {α:Type} (F:Fence) (n:Nat) (P:Program) (g:Nat) (lb:Array Value) (encs:α→Array Value) (Bs:Nat) (Kp:World→World→Prop) (S Sp:List α→Prop) (N:Nat) (w:World):Prop:=
 ∀(l:Nat) (J Jx:List α→World→Prop) (W:World),Below w.heap.size w W→Zh5 Bs J→
  (∀pre x W1,J pre W1→pre.length < N→YieldAt F (n - 1) P l (encs x) W1 fun e W'=>
    (e=.returned (.bool true)∧J (pre++[x]) W'∧Kp W1 W')∨(e=.returned (.bool false)∧Jx (pre++[x]) W'))→
  J [] W→
  CallsIn F n P g (#[.func (.yield l) #[] #[]]++lb) W fun e W'=>(∃v,e=.returned v)∧((∃xs,S xs∧J xs W')∨(∃pre,Sp pre∧Jx pre W'))
theorem Zdt {Bs:Nat} {W W':World} {row:Option Nat} (hg:W.grownBy W' row) (hr:∀r,row=some r→r=Bs∧∃o:Obj,W'.heap[r]? =some o∧o.isCells=true) {k:Nat} {o:Obj} (hk:W.heap[k]? =some o) (hne:k≠Bs):W'.heap[k]? =some o:=
 (hg.block k (Array.getElem?_eq_some_iff.1 hk).1 (fun e=>hne (hr k e.symm).1)).trans hk
variable {F:Fence} {n:Nat} {P:Program}
theorem Zdx {α:Type} {g:Operand} {ps:Array Tmp} {assign body:Code} {Q:Exit→Act→World→Prop} {a:Act} {w:World}
 (hro:F.round=none) (h1:1≤n) {gf:Nat} {lb:Array Value} (hg:a.eval g=.func (.func gf) #[] lb) (hFg:F.fn gf) (eg:∀args w,(callFunc gf args).run P w=.ok (.enter gf args) w)
 {encs:α→Array Value} {Bs:Nat} {Kp:World→World→Prop} {S Sp:List α→Prop} {N:Nat} (hseq:SeqB F (n - 1) P gf lb encs Bs Kp S Sp N w) (hBs:Bs < w.heap.size)
 (hKt:∀{A B C:World},Kp A B→Kp B C→Kp A C) (hKb:∀(W:World) (l:Nat) (o':Obj),w.heap.size≤l→Kp W (W.putObj l o')) (hps:∀x,(encs x).size=ps.size)
 (I:List α→World→Prop) (Ix:Code→List α→World→Prop) (hI:OwnB Bs w.heap.size I) (hIx:∀c,OwnB Bs w.heap.size (Ix c)) (h0:I [] w) (a₁:α→Act)
 (hassign:∀(l:Nat) (x:α) (W:World) (K:Act→World→Prop),K (a₁ x) W→
   assign.wpIn (F.inRound l) (n - 1 - 1) P (Exit.then K (fun _ _ _=>False)) {tmps:=(ps.zip (encs x)).foldl (fun t (p,v)=>t.setIfInBounds p v) a.tmps,defers:=[]} W)
 (hbody:∀(l:Nat) (pre:List α) (x:α) (W:World),I pre W→pre.length < N→body.wpIn (F.inRound l) (n - 1 - 1) P (ownPostG w.heap.size Kp I Ix (pre++[x]) W) (a₁ x) W)
 (hdone:∀(D:Nat) (xs:List α) (W:World),w.heap.size≤D→S xs→I xs W→W.heap[D]? =some (.deferred (some []))→Q .normal {a with defers:={target:=.collected D,args:= #[]}::a.defers} W)
 (hstop:∀(D:Nat) (c:Code) (pre:List α) (W:World),w.heap.size≤D→Sp pre→Ix c pre W→W.heap[D]? =some (.deferred (some []))→c.wpIn F n P Q {a with defers:={target:=.collected D,args:= #[]}::a.defers} W):
 (Code.rangeFunc g ps assign body).wpIn F n P Q a w:=by
 refine wpIn_rangeFunc ?_;intro fn hfn;rw[hro]
 obtain⟨K0,hK0⟩:∃k,k=w.heap.size:=⟨_,rfl⟩
 obtain⟨rc,hrc⟩:∃rc:LoopState→Option Code→Loop,rc=fun st pe=>{state:=st,pending:=pe,fn,tmps:=a.tmps,params:=ps,assign,body,defers:=K0}:=⟨_,rfl⟩
 obtain⟨W1,hW1⟩:∃W1,(w.alloc (.deferred (some []))).alloc (.loop (rc .ready none))=W1:=⟨_,rfl⟩
 have hR:W1.heap[K0 + 1]? =some (.loop (rc .ready none)):=by
  have:=World.alloc_heap_new (w.alloc (.deferred (some []))) (.loop (rc .ready none));rw[←hW1,hK0]
  rwa [World.size_alloc] at this
 have hD:W1.heap[K0]? =some (.deferred (some [])):=by
  rw[←hW1,hK0];exact(Below.heap_alloc _ _ _ (by simp)).trans (World.alloc_heap_new w _)
 have hI1:I [] W1:=by rw[←hW1];exact hI.alloc _ (hI.alloc _ h0)
 have hb1:Below w.heap.size w W1:=by
  rw[←hW1];exact((Below.refl _ w).alloc (Nat.le_refl _) _).alloc (by simp) _
 have hl0:(Instr.enterLoop fn a.tmps ps assign body none).run P w=.ok (K0 + 1,[{target:=.collected K0,args:= #[]}]) W1:=by
  rw[←hW1,hrc,hK0];exact run_enterLoop_outer _ _ _ _ _
 refine⟨K0 + 1,[{target:=.collected K0,args:= #[]}],W1,{target:=.fn (.func gf) lb,args:= #[.func (.yield (K0 + 1)) #[] #[]]},W1,gf,#[.func (.yield (K0 + 1)) #[] #[]]++lb,W1,hl0,?_,?_,?_,fun _=>h1,?_⟩
 · simp only[resolve,hg]
   simp[go_sem]
 · intro f' hf'
   simp[Target.leads] at hf';subst hf';exact hFg
 · simp[invoke,go_sem,eg]
 have ne0:K0≠Bs:=by omega
 have ne1:K0 + 1≠Bs:=by omega
 refine(hseq (K0 + 1)
  (fun pre W=>I pre W∧W.heap[K0 + 1]? =some (.loop (rc .ready none))∧W.heap[K0]? =some (.deferred (some [])))
  (fun pre W=>∃c,Ix c pre W∧W.heap[K0 + 1]? =some (.loop (rc .done (some c)))∧W.heap[K0]? =some (.deferred (some [])))
  W1 hb1 (fun s A B row hs hg' hr=>⟨hI.abides s A B row hs.1 hg' hr,Zdt hg' hr hs.2.1 ne1,Zdt hg' hr hs.2.2 ne0⟩) ?_ ⟨hI1,hR,hD⟩).mono ?_
 · rintro pre x W ⟨hi,hl,hk⟩ hlen
   have hlt:K0 + 1 < W.heap.size:=(Array.getElem?_eq_some_iff.1 hl).1;have hy:=run_yield (P:=P) (args:=encs x) hl (by rw[hrc];exact hps x);rw[hrc] at hy;refine⟨fn,_,assign,body,hy,roundIn_of_wpIn hfn (hassign _ x W _ ?_)⟩;clear hy;refine⟨_,run_beginRound hl (by rw[hrc]),?_⟩;have hl2:(W.putObj (K0 + 1) (.loop {rc .ready none with state:=.busy})).heap[K0 + 1]? =some (.loop {rc .ready none with state:=.busy}):=World.putObj_heap_same hlt;have hk2:(W.putObj (K0 + 1) (.loop {rc .ready none with state:=.busy})).heap[K0]? =some (.deferred (some [])):=(World.putObj_heap_other (by omega)).trans hk;have hw2:Kp W (W.putObj (K0 + 1) (.loop {rc .ready none with state:=.busy})):=hKb _ _ _ (by omega);refine wpIn_mono (hbody _ pre x _ (hI.put _ hi (by omega) hl rfl) hlen) ?_
   have fin:∀(jump:Option Code) (W3:World),KeepsFrom w.heap.size (W.putObj (K0 + 1) (.loop {rc .ready none with state:=.busy})) W3→
    (Instr.endRound (K0 + 1) jump).run P W3=.ok (.bool jump.isNone) (W3.putObj (K0 + 1) (.loop (rc (if jump.isNone then .ready else .done) jump)))∧
    W3.heap[K0 + 1]? =some (.loop {rc .ready none with state:=.busy})∧
    (W3.putObj (K0 + 1) (.loop (rc (if jump.isNone then .ready else .done) jump))).heap[K0 + 1]? =some (.loop (rc (if jump.isNone then .ready else .done) jump))∧
    (W3.putObj (K0 + 1) (.loop (rc (if jump.isNone then .ready else .done) jump))).heap[K0]? =some (.deferred (some [])):=fun jump W3 hk3=>by
    have hl3:=hk3.same _ _ (by omega) hl2 rfl;have he:=run_endRound (P:=P) jump hl3;rw[hrc] at he ⊢;exact⟨he,by rw[hrc] at hl3;exact hl3,World.putObj_heap_same (Array.getElem?_eq_some_iff.1 hl3).1,(World.putObj_heap_other (by omega)).trans (hk3.same _ _ (by omega) hk2 rfl)⟩
   rintro e a3 W3 hp
   cases e with
   |normal=>
    obtain⟨hk3,hkp3,hi3⟩:=hp;obtain⟨hr,hl3,hl4,hk4⟩:=fin none W3 hk3;exact⟨_,_,hr,.inl ⟨rfl,⟨hI.put _ hi3 (by omega) hl3 rfl,hl4,hk4⟩,hKt (hKt hw2 hkp3) (hKb _ _ _ (by omega))⟩⟩
   |ret=>
    obtain⟨hk3,hi3⟩:=hp;obtain⟨hr,hl3,hl4,hk4⟩:=fin (some .ret) W3 hk3;exact⟨_,_,hr,.inr ⟨rfl,.ret,(hIx _).put _ hi3 (by omega) hl3 rfl,hl4,hk4⟩⟩
   |exit id=>
    obtain⟨hk3,hi3⟩:=hp;obtain⟨hr,hl3,hl4,hk4⟩:=fin (some (.exit id)) W3 hk3;exact⟨_,_,hr,.inr ⟨rfl,.exit id,(hIx _).put _ hi3 (by omega) hl3 rfl,hl4,hk4⟩⟩
   |goto t=>
    obtain⟨hk3,hi3⟩:=hp;obtain⟨hr,hl3,hl4,hk4⟩:=fin (some (.goto t)) W3 hk3;exact⟨_,_,hr,.inr ⟨rfl,.goto t,(hIx _).put _ hi3 (by omega) hl3 rfl,hl4,hk4⟩⟩
   |panic ch=>exact hp.elim
   |outgrown=>exact hp.elim
 rintro e W2 ⟨⟨v,rfl⟩,(⟨xs,hS,hi,hl,hk⟩|⟨pre,hSp,c,hi,hl,hk⟩)⟩
 · have he:=run_endLoop (P:=P) hl (by rw[hrc];simp)
   rw[hrc] at he;exact⟨none,_,he,hdone _ xs _ (by omega) hS (hI.put _ hi (by omega) hl rfl) ((World.putObj_heap_other (by omega)).trans hk)⟩
 have he:=run_endLoop (P:=P) hl (by rw[hrc];simp);rw[hrc] at he;exact⟨some c,_,he,hstop _ c pre _ (by omega) hSp ((hIx c).put _ hi (by omega) hl rfl) ((World.putObj_heap_other (by omega)).trans hk)⟩
end
end
section
namespace Path
open Go.RowKit Go.Shelf
attribute [local go_sem] Oper.semAt_some
abbrev bl (x:ByteArray):Bs:=x.data.toList
def ZmU:ByteArray:=⟨#[47]⟩
def keep3 (b1 b2 b3:Nat) (W W':World):Prop:=∀b,b=b1∨b=b2∨b=b3→W'.heap[b]? =W.heap[b]?
def lenAt (w:World) (b:Nat):Nat:=match w.heap[b]? with|some (.cells #[.string r] _ _)=>r.size|_=>0
theorem ZiE {w:World} {b:Nat} {r:ByteArray} {t:TypeId} (h:Boxed w b t (.string r)):lenAt w b=r.size:=by
 unfold lenAt;rw[show w.heap[b]? =_ from h];rfl
theorem ZiI {l:Bs} (h:Lib.indexByte l 47 < 0):Zae l=[l]:=by
 refine ZbL l (fun c hc e=> ?_);subst e
 have h1:Lib.indexByte l 47= -1:=by have:=Lib.indexByte_ge l 47;omega
 obtain⟨k,hk⟩:=List.mem_iff_getElem?.1 hc;exact Lib.indexByte_none h1 k hk
theorem ZiH {l:Bs} {i:Nat} (h:Lib.indexByte l 47=i):i < l.length∧Zae l=l.take i::Zae (l.drop (i + 1)):=by
 obtain⟨h1,h2⟩:=Lib.indexByte_some h;have hi:=(List.getElem?_eq_some_iff.1 h1).1;refine⟨hi,?_⟩
 have e:l=l.take i++47::l.drop (i + 1):=by
  have:=(List.getElem?_eq_some_iff.1 h1).2;rw[←this,←List.drop_eq_getElem_cons hi,List.take_append_drop]
 conv=>lhs;rw[e]
 rw[Zc9 _ _ (fun c hc ec=> ?_)];subst ec;obtain⟨k,hk⟩:=List.mem_iff_getElem?.1 hc;rw[List.getElem?_take] at hk
 split at hk
 · rename_i hki;exact h2 k hki hk
 cases hk
theorem ZgL (n:Nat) (r:ByteArray) (w:World):CallsIn Fence.wide n Tryz.prog 294 #[.string r,.string ⟨#[47]⟩] w fun e w'=>e=.returned (.int .i64 (Lib.indexByte r.data.toList 47))∧w=w':=
 callsIn_wide.2 ((Tryz.strings_Index_one _ _ _).mono fun _ _ ⟨he,hw⟩=>⟨he,hw.symm⟩)
theorem ZjY (n:Nat) (hn:3≤n) (l Bs Bp Bv:Nat) (h12:Bs≠Bp) (h13:Bs≠Bv) (s:ByteArray) (hs:s.size≤2000000) (J Jx:List ByteArray→World→Prop) (W:World) (hJ:Zh5 Bs J)
 (hY:∀pre x W1,J pre W1→pre.length < 2000001→YieldAt Fence.wide (n - 1) Tryz.prog l #[.string x] W1 fun e W'=>(e=.returned (.bool true)∧J (pre++[x]) W'∧keep3 Bs Bp Bv W1 W')∨(e=.returned (.bool false)∧Jx (pre++[x]) W'))
 (h1:Boxed W Bs 9 (.string s)) (h2:Boxed W Bp 9 (.string ZmU)) (h3:Boxed W Bv 3 (.int .i64 0)) (h0:J [] W):
 CallsIn Fence.wide n Tryz.prog 308 #[.func (.yield l) #[] #[],.pointer (some ⟨Bp,0,none⟩),.pointer (some ⟨Bs,0,none⟩),.pointer (some ⟨Bv,0,none⟩)] W fun e W'=>
  (∃v,e=.returned v)∧((∃ys:List ByteArray,ys.map bl=Zae (bl s)∧J ys W')∨(∃pre:List ByteArray,pre.map bl <+:Zae (bl s)∧Jx pre W')):=by
 have hn1:1≤n:=by omega
 have c1:=h1.cell;have c2:=h2.cell;have c3:=h3.cell;refine callsIn_of_wp Tryz.func308 rfl trivial ?_ rfl;simp only[Tryz.ntmps308,List.size_toArray,List.length_cons,List.length_nil,Nat.reduceAdd,Nat.reduceSub,Array.replicate_succ,Array.replicate_zero,List.push_toArray,List.append_toArray,List.nil_append,List.cons_append];unfold ZmU at c2
 gi_wp2
 gi_loopw [7] (fun _ wr=>∃(pre:List ByteArray) (r:ByteArray),Zae (bl s)=pre.map bl++Zae (bl r)∧pre.length + r.size≤s.size∧J pre wr∧Boxed wr Bs 9 (.string r)∧Boxed wr Bp 9 (.string ⟨#[47]⟩)∧Boxed wr Bv 3 (.int .i64 0))
  (fun _ wr=>lenAt wr Bs)
 case atStart=>exact⟨[],s,rfl,by simp,h0,h1,h2,h3⟩
 case round=>
  obtain⟨pre,r,hsp,hlen,hJs,b1,b2,b3⟩:=hrel;clear c1 c2 c3;have c1:=b1.cell;have c2:=b2.cell;have c3:=b3.cell
  rcases Int.lt_or_le (Lib.indexByte (bl r) 47) 0 with hi|hi
  · have hsr:=ZiI hi
    have hi':decide (Lib.indexByte r.data.toList 47 < 0)=true:=by simpa using hi
    gi_wp2_with fail
    refine⟨trivial,(ZgL _ _ _).mono ?_⟩;rintro e _ ⟨rfl,rfl⟩;obtain⟨fn,tmps,assign,body,hy,hR⟩:=hY pre r wr hJs (by omega);have hsp':=Hd hsp;have hsr':=Hd hsr;clear hsp hsr
    gi_wp2
    refine hR.mono ?_;rintro e W3 (⟨rfl,hJ3,hk3⟩|⟨rfl,hJx3⟩)
    · gi_wp2
      go_end0
      exact⟨⟨_,rfl⟩,.inl ⟨pre++[r],by rw[hsp'.out,hsr'.out];simp,hJ3⟩⟩
    gi_wp2
    go_end0
    exact⟨⟨_,rfl⟩,.inr ⟨pre++[r],by rw[hsp'.out,hsr'.out];simp,hJx3⟩⟩
  obtain⟨i,hi2⟩:=Int.eq_ofNat_of_zero_le hi
  obtain⟨hilt,hsr⟩:=ZiH hi2
  have hi':decide (Lib.indexByte r.data.toList 47 < 0)=false:=by simpa using hi
  have hi3:=Hd hi2
  have hrl:(bl r).length=r.size:=by simp
  have hil:i + 1≤r.size:=by omega
  have hsp':=Hd hsp;have hsr':=Hd hsr;clear hsp hsr hi2
  gi_wp2_with fail
  refine⟨trivial,(ZgL _ _ _).mono ?_⟩;rintro e _ ⟨rfl,rfl⟩;rw[show Lib.indexByte r.data.toList 47=(i:Int) from hi3.out];clear hi hi' hi3 hilt hrl
  have hi':decide ((i:Int) < 0)=false:=by simp
  obtain⟨fn,tmps,assign,body,hy,hR⟩:=hY pre (r.extract 0 i) wr hJs (by omega)
  gi_wp2
  refine hR.mono ?_
  have e1:bl (r.extract 0 i)=(bl r).take i:=by simp[bl]
  have e2:bl (r.extract (i + 1) r.size)=(bl r).drop (i + 1):=by simp only[bl];simp;rw[List.take_of_length_le (by simp)]
  have e1':=Hd e1;have e2':=Hd e2;clear e1 e2;rintro e W3 (⟨rfl,hJ3,hk3⟩|⟨rfl,hJx3⟩)
  · have d1:Boxed W3 Bs 9 (.string r):=(hk3 Bs (.inl rfl)).trans b1
    have d2:Boxed W3 Bp 9 (.string ⟨#[47]⟩):=(hk3 Bp (.inr (.inl rfl))).trans b2;have d3:Boxed W3 Bv 3 (.int .i64 0):=(hk3 Bv (.inr (.inr rfl))).trans b3;have x1:=d1.cell;have x2:=d2.cell;have x3:=d3.cell;have f1:=d1.frozen;clear hR hy hk3
    gi_wp2
    have g1:=d1.set (.string (r.extract (i + 1) r.size))
    go_roundw
    case rel=>
     refine⟨pre++[r.extract 0 i],r.extract (i + 1) r.size,?_,?_,?_,g1,d2.other (Ne.symm h12) _,d3.other (Ne.symm h13) _⟩
     · rw[hsp'.out,hsr'.out,e2'.out];simp[e1'.out]
     · simp;omega
     exact hJ _ _ _ (some Bs) hJ3 (grownBy_setCell' W3 Bs _) (fun q e=>by cases e;exact⟨rfl,_,g1,rfl⟩)
    case measure=>
     rw[ZiE g1,ZiE b1]
     simp
     omega
  gi_wp2
  refine bodyPost_ret (results_none rfl _ _ _) rfl ?_;exact⟨⟨_,rfl⟩,.inr ⟨pre++[r.extract 0 i],⟨Zae ((bl r).drop (i + 1)),by rw[hsp'.out,hsr'.out,List.map_append,List.append_assoc];simp[e1'.out]⟩,hJx3⟩⟩
theorem Zgo (s:ByteArray) (w:World):Calls Tryz.prog 251 #[.string s,.string ⟨#[47]⟩] w fun e w'=>
 e=.returned (.func (.func 308) #[] #[.pointer (some ⟨w.heap.size + 1,0,none⟩),.pointer (some ⟨w.heap.size,0,none⟩),.pointer (some ⟨w.heap.size + 2,0,none⟩)])∧
  w'=((w.alloc (.cells #[.string s] 9)).alloc (.cells #[.string ⟨#[47]⟩] 9)).alloc (.cells #[.int .i64 0] 3):=by
 have h1:Calls Tryz.prog 283 #[.string s,.string ⟨#[47]⟩,.int .i64 0] w fun e w'=>
  e=.returned (.func (.func 308) #[] #[.pointer (some ⟨w.heap.size + 1,0,none⟩),.pointer (some ⟨w.heap.size,0,none⟩),.pointer (some ⟨w.heap.size + 2,0,none⟩)])∧
   w'=((w.alloc (.cells #[.string s] 9)).alloc (.cells #[.string ⟨#[47]⟩] 9)).alloc (.cells #[.int .i64 0] 3):=by
  go_enter Tryz.func283,Tryz.ntmps283
  go_wp2
  go_ret;exact⟨rfl,rfl⟩
 go_enter Tryz.func251,Tryz.ntmps251
 go_wp2_with fail
 refine h1.mono ?_;rintro e _ ⟨rfl,rfl⟩
 go_wp2_with fail
 go_ret;exact⟨rfl,rfl⟩
end Path
end
section
section
open Go.RowKit
section
variable {F:Fence} {n:Nat} {P:Program} {ops:Array Oper} {rest:List Oper} {o:Oper} {a:Act} {Q:Exit→Act→World→Prop} {L0 L G:List Part} {w0 w:World}
theorem Zca (hfn:∀f,F.fn f) (hg:o.guard=none) (hd:∀c,o.op≠.defer c) {v:Value} {w':World} (hrun:(execOp a.eval o).run P w=.ok (.value v) w') (hK:wpListIn F n P ops Q rest (a.put o.dst v) w'):wpListIn F n P ops Q (o::rest) a w:=
 wpListIn_plain hg fun K hK'=>⟨fun f _=>hfn f,by rw[Oper.semAt_eq _ _ _ hd,hrun,Oper.uponIn_value];exact hK' _ _ hK⟩
theorem Zff (hfn:∀f,F.fn f) (hg:o.guard=none) (hd:∀c,o.op≠.defer c) {w':World} (hrun:(execOp a.eval o).run P w=.ok .skip w') (hK:wpListIn F n P ops Q rest (a.put o.dst undef) w'):wpListIn F n P ops Q (o::rest) a w:=
 wpListIn_plain hg fun K hK'=>⟨fun f _=>hfn f,by rw[Oper.semAt_eq _ _ _ hd,hrun,Oper.uponIn_skip];exact hK' _ _ hK⟩
theorem ZaK {ty:TypeId} {x y:Operand} (hfn:∀f,F.fn f) (hg:o.guard=none) (hop:o.op=.store ty x y) {b j:Nat} (hx:a.eval x=.pointer (some ⟨b,j,none⟩)) {v:Value} (hy:a.eval y=v) {vs:List Value} (hv:v.cells=vs.toArray)
 (h:At L0 w0 L w) {c:List Value} {T:TypeId} (s:Sel (Part.cells b c T) L G) (hi:(P.info? ty).map (·.size)=some vs.length) (h1:vs.all (·.oneCell')=true) (hj:j + vs.length≤c.length)
 (hK:∀w',At L0 w0 (Part.cells b (setL c j vs) T::G) w'→wpListIn F n P ops Q rest (a.put o.dst undef) w'):wpListIn F n P ops Q (o::rest) a w:=by
 have hb:Zaa w b c T:=h.get s
 have hs:v.cells.size=vs.length:=by rw[hv];simp
 have h1':v.cells.all (·.oneCell')=true:=by
  rw[hv,Array.all_eq_true_iff_forall_mem];intro u hu;exact List.all_eq_true.1 h1 u (by simpa using hu)
 have hrun:=ZaU (P:=P) w b j ty v (hb.there j _ (by omega)) (by rw[hs];exact hi) h1';rw[show v.cells.toList=vs from by rw[hv]] at hrun;refine Zff hfn hg (by rw[hop];nofun) ?_ (hK _ (h.stores s j vs));simp[execOp,hop,hx,hy,hrun,Result.andThen]
theorem ZdP {t e:TypeId} {x:Operand} (hfn:∀f,F.fn f) (hg:o.guard=none) (hop:o.op=.buildSlice t 1 #[(0,x)]) {xv:Value} (hx:a.eval x=xv) {vs:List Value}
 (hrun:∀w,(Instr.buildSlice t 1 #[(0,xv)]).run P w=.ok (.slice (some ⟨w.heap.size,0,none⟩) 1 1) (w.alloc (.cells vs.toArray e)))
 (h:At L0 w0 L w)
 (hK:∀b w',At L0 w0 (Part.cells b vs e::L) w'→w0.heap.size≤b→wpListIn F n P ops Q rest (a.put o.dst (.slice (some ⟨b,0,none⟩) 1 1)) w'):wpListIn F n P ops Q (o::rest) a w:=by
 refine Zca hfn hg (by rw[hop];nofun) ?_ (hK _ _ (h.alloc vs e) h.size);simp[execOp,hop,hx,hrun,Result.andThen]
theorem ZcJ {e:TypeId} {size m0:Nat} {v:Value} {xs:List Value} {i:TypeInfo} {z:Value} {bytes:Nat} (hfn:∀f,F.fn f) (hg:o.guard=none) (s' x:Operand) (t:TypeId) (ho:o.op=.call {callee:=.builtin .append,args:= #[s',x],argTypes:= #[t,t]})
 (ht:P.underlying t=some (.slice e)) (hi:P.info? e=some i) (hz:i.zero=some z) (hsize:i.size=size) (hby:i.bytes=bytes) (hzs:z.cells.size=size) (hsz:0 < size)
 (h:At L0 w0 L w) (s:Sel (Part.row e size v m0 xs) L G) (hs:a.eval s'=v) {xv:Value} {m:Nat} {news:List Value} (hxv:a.eval x=xv) (hl:news.length=m * size) (hx:Reads w xv m news) (h1:∀u ∈ news,u.oneCell'=true)
 (h63:m0 + m≤maxLen) (hbytes:(m0 + m) * bytes≤140737488355328)
 (hK:∀v' w',At L0 w0 (Part.row e size v' (m0 + m) (xs++news)::G) w'→wpListIn F n P ops Q rest (a.put o.dst v') w'):wpListIn F n P ops Q (o::rest) a w:=by
 obtain⟨v',w',hr,h2,h3,h4⟩:=Zcy (P:=P) w 0 t o.type e i z size bytes ht hi hz hsize hby hzs hsz v m0 xs (h.get s) xv m news hl hx h1 h63 hbytes (Nat.zero_le _);refine Zca hfn hg (by rw[ho];nofun) (v:=v') (w':=w') ?_ (hK v' w' (h.turn s _ h2 (fun b hb=> ?_) (Zbk h3)))
 · simp[execOp,ho,resolve,invoke,builtin,hs,hxv,hr,Result.andThen]
 rcases h4 with h4|h4
 · exact .inl (show v.ownBlock=some b from by rw[←h4];exact hb)
 right
 have hb':v'.ownBlock=some b:=hb;rw[h4] at hb';cases hb';exact Nat.le_refl _
end
theorem Zhw {P:Program} {w:World} {t e:TypeId} {i:TypeInfo} {size n:Nat} {v:Value} {xs:List Value} (ht:P.underlying t=some (.slice e)) (hi:P.info? e=some i) (hsize:i.size=size) (hr:w.ownsRow 0 e size v n xs) (k:Nat) (hk:k≤n):
 ∃v',(Instr.sliceAt t v none (some (.int .i64 k)) none).run P w=.ok v' w∧w.ownsRow 0 e size v' k (xs.take (k * size))∧v'.ownBlock=v.ownBlock:=by
 have hz:∀w,(sizeOf e).run P w=.ok size w:=fun w=>by simp[sizeOf,typeInfo,hi,hsize]
 rcases hr.2 with⟨rfl,rfl⟩|⟨g,cap,cur,rfl,hg,hh,hc,hm,hs,htk⟩
 · obtain rfl:k=0:=by omega
   refine⟨.slice none 0 0,?_,⟨by simp,.inl ⟨rfl,rfl⟩⟩,rfl⟩;simp[Instr.sliceAt,Instr.slice,run_underlying ht,Instr.sliceBounds,run_sliceBound,hz,Result.andThen]
 refine⟨.slice (some ⟨g,0,none⟩) k cap,?_,⟨?_,.inr ⟨g,cap,cur,rfl,hg,hh,by omega,hm,hs,?_⟩⟩,rfl⟩
 · by_cases h0:cap=0
   · subst h0
     obtain rfl:k=0:=by omega
     simp[Instr.sliceAt,Instr.slice,run_underlying ht,Instr.sliceBounds,run_sliceBound,hz,Result.andThen]
   simp[Instr.sliceAt,Instr.slice,run_underlying ht,Instr.sliceBounds,run_sliceBound,hz,Result.andThen,show(k:Int)≤cap by omega,h0,Addr.add]
 · rw[List.length_take,hr.1]
   have:k * size≤n * size:=Nat.mul_le_mul_right _ hk
   omega
 rw[←htk,List.take_take]
 have:k * size≤n * size:=Nat.mul_le_mul_right _ hk;rw[Nat.min_eq_left this]
theorem ZdQ {F:Fence} {n:Nat} {P:Program} {ops:Array Oper} {rest:List Oper} {o:Oper} {a:Act} {Q:Exit→Act→World→Prop} {L0 L G:List Part} {w0 w:World} {t e:TypeId} {i:TypeInfo} {size m0 k:Nat} {v:Value} {xs:List Value} {x hi':Operand}
 (hfn:∀f,F.fn f) (hg:o.guard=none) (hop:o.op=.slice t x none (some hi') none) (ht:P.underlying t=some (.slice e)) (hi:P.info? e=some i) (hsize:i.size=size) (hx:a.eval x=v) (hh:a.eval hi'=.int .i64 k)
 (h:At L0 w0 L w) (s:Sel (Part.row e size v m0 xs) L G) (hk:k≤m0) (hK:∀v',At L0 w0 (Part.row e size v' k (xs.take (k * size))::G) w→wpListIn F n P ops Q rest (a.put o.dst v') w):wpListIn F n P ops Q (o::rest) a w:=by
 obtain⟨v',hr,h1,h2⟩:=Zhw (P:=P) ht hi hsize (h.get s:w.ownsRow 0 e size v m0 xs) k hk;refine Zca hfn hg (by rw[hop];nofun) ?_ (hK v' (h.turn s (Part.row e size v' k (xs.take (k * size))) h1 (fun b hb=>.inl (by simpa [Part.row,h2] using hb)) (Exc.refl _ _)));simp[execOp,hop,hx,hh,hr,Result.andThen]
def Part.hole (b:Nat):Part where
 holds w:=∃o:Obj,w.heap[b]? =some o∧o.isCells=true
 foot k:=k=b
 lt:=fun w ⟨o,h,_⟩ _ e=>by subst e;exact ZaE h
 stay:=fun _ _ ⟨o,h,ho⟩ e=>⟨o,(e b rfl).trans h,ho⟩
def Part.Cl (A:Part):Prop:=∀w,A.holds w→∀b,A.foot b→∃o:Obj,w.heap[b]? =some o∧o.isCells=true
theorem Part.cl_cells (b:Nat) (c:List Value) (T:TypeId):(Part.cells b c T).Cl:=fun w h k e=>by subst e;exact⟨_,h,rfl⟩
theorem Part.cl_hole (b:Nat):(Part.hole b).Cl:=fun w h k e=>by subst e;exact h
theorem Part.cl_row (e:TypeId) (size:Nat) (v:Value) (n:Nat) (xs:List Value):(Part.row e size v n xs).Cl:=fun w h k hk=>by
 rcases h.2 with⟨rfl,_⟩|⟨g,cap,cur,rfl,_,hh,_⟩
 · exact nomatch hk
 cases hk;exact⟨_,hh,rfl⟩
theorem At.grown {L0 L:List Part} {w0 W W':World} {row:Option Nat} (h:At L0 w0 L W) (hg:W.grownBy W' row) (hr:∀r,row=some r→w0.heap.size≤r∧¬footL L r):At L0 w0 L W':=
 ⟨h.sep.same (fun b ⟨A,hA,hb⟩=>hg.block b (h.sep.lt hA hb) (fun e=>(hr b e.symm).2 ⟨A,hA,hb⟩)),h.foot,
   h.exc.trans' (T:=fun k=>row=some k) (Zbk hg) (fun b _ hb=>.inr (hr b hb).1)⟩
theorem At.ownB {L0 L G:List Part} {w0 W W':World} {row:Option Nat} {Bs B:Nat} (h:At L0 w0 L W) (s:Sel (Part.hole Bs) L G) (hc:∀A ∈ L,A.Cl) (hB:w0.heap.size≤B) (hg:W.grownBy W' row)
 (hr:∀r,row=some r→(r=Bs∧∃o:Obj,W'.heap[r]? =some o∧o.isCells=true)∨(B≤r∧∃o:Obj,W.heap[r]? =some o∧o.isCells=false)):At L0 w0 (Part.hole Bs::G) W':=by
 cases row with
 |none=>exact(h.grown hg (fun r e=>by cases e)).take s
 |some r=>
  rcases hr r rfl with⟨rfl,ho⟩|⟨h1,o,ho,hoc⟩
  · exact h.turn s (Part.hole r) ho (fun _ e=>.inl e) ((Zbk hg).mono (fun b _ e=>by cases e;rfl))
  refine(h.grown hg (fun q e=> ?_)).take s
  cases e;refine⟨by omega,fun⟨A,hA,hb⟩=> ?_⟩;obtain⟨o',ho',hoc'⟩:=hc A hA W (h.sep.get hA) r hb;rw[ho] at ho';cases ho';rw[hoc] at hoc';cases hoc'
theorem At.keepsFrom {L0 L:List Part} {W W':World} (h:At L0 W L W') (hs:Sep L0 W) (hc:∀A ∈ L0,A.Cl) (B:Nat):KeepsFrom B W W':=
 ⟨h.size,fun k o _ hk ho=>(h.exc.block k (ZaE hk) (fun⟨A,hA,hb⟩=>by
   obtain⟨o',ho',hoc'⟩:=hc A hA W (hs.get hA) k hb;rw[hk] at ho';cases ho';rw[ho] at hoc'
   cases hoc')).trans hk⟩
end
end
section
namespace Path
open Go.RowKit Go.Shelf
attribute [local go_sem] Oper.semAt_some
def strC (x:ByteArray):List Value:=[.string x]
theorem Zie (x:ByteArray):(strC x).length=1:=rfl
theorem Zlx (x:ByteArray):∀u ∈ strC x,u.oneCell'=true:=by intro u hu;simp[strC] at hu;subst hu;rfl
def flatS (ws:List ByteArray):List Value:=ws.flatMap strC
abbrev rowS (v:Value) (ws:List ByteArray):Part:=Part.row 9 1 v ws.length (flatS ws)
theorem ZkB:(Tryz.prog.info? 9).map (fun i=>(i.zero,i.size,i.bytes))=some (some (.string .empty),1,16):=by kernel_rfl
def WI (w:World) (N:Nat) (pre:List ByteArray) (W:World):Prop:=
 ∃(v:Value) (ws:List ByteArray),At [] w [Part.hole (N + 3),Part.cells (N + 2) [v] 260,rowS v ws,Part.cells N [.slice none 0 0] 260,Part.cells (N + 1) [.int .i64 0] 69,Part.hole (N + 4),Part.hole (N + 5)] W∧
  walkL [] (pre.map bl)=some (ws.map bl)∧ws.length≤pre.length
def WIx (w:World) (N:Nat) (c:Code) (pre:List ByteArray) (W:World):Prop:=
 c=.ret∧At [] w [Part.hole (N + 3),Part.cells N [.slice none 0 0] 260,Part.cells (N + 1) [.int .i64 30] 69] W∧walkL [] (pre.map bl)=none
theorem wi_own (w:World) (N B:Nat) (hB:w.heap.size≤B):OwnB (N + 3) B (WI w N):=by
 rintro pre W W' row ⟨v,ws,hA,h1,h2⟩ hg hr;refine⟨v,ws,hA.ownB sR ?_ hB hg hr,h1,h2⟩;intro A hA;simp only[List.mem_cons,List.not_mem_nil,or_false] at hA
 rcases hA with rfl|rfl|rfl|rfl|rfl|rfl|rfl
 all_goals first|exact Part.cl_hole _|exact Part.cl_cells _ _ _|exact Part.cl_row _ _ _ _ _
theorem Zm8 (w:World) (N B:Nat) (hB:w.heap.size≤B) (c:Code):OwnB (N + 3) B (WIx w N c):=by
 rintro pre W W' row ⟨hc,hA,h1⟩ hg hr;refine⟨hc,hA.ownB sR ?_ hB hg hr,h1⟩;intro A hA;simp only[List.mem_cons,List.not_mem_nil,or_false] at hA
 rcases hA with rfl|rfl|rfl
 all_goals first|exact Part.cl_hole _|exact Part.cl_cells _ _ _
def Zhk:Option (List Bs)→Int
 |none=>30
 |some _=>0
def ZmM (s:ByteArray) (w:World) (e:Ending) (w':World):Prop:=
 ∃(v:Value) (ws:List ByteArray),e=.returned (.tuple #[v,.int .i64 (Zhk (walkL [] (Zae (bl s))))])∧At [] w [rowS v ws] w'∧(walkL [] (Zae (bl s))=some (ws.map bl)∨walkL [] (Zae (bl s))=none∧ws=[])∧ws.length≤s.size + 1
theorem Za5:∀l:Bs,(Zae l).length≤l.length + 1
 |[]=>by simp[Zae]
 |c::r=>by
  have ih:=Za5 r;rw[Za2]
  split
  · simpa using ih
  simp;omega
theorem Zh9 (l m acc:List Bs):walkL acc (l++m)=(walkL acc l).bind fun a=>walkL a m:=by
 induction l generalizing acc with
 |nil=>rfl
 |cons p l ih=>
  rw[List.cons_append,walkL,walkL]
  cases stepW acc p with
  |none=>rfl
  |some a=>exact ih a
theorem Zhs (n:Nat) (s:ByteArray) (w:World):CallsIn Fence.wide n Tryz.prog 251 #[.string s,.string ⟨#[47]⟩] w fun e w'=>
 e=.returned (.func (.func 308) #[] #[.pointer (some ⟨w.heap.size + 1,0,none⟩),.pointer (some ⟨w.heap.size,0,none⟩),.pointer (some ⟨w.heap.size + 2,0,none⟩)])∧
  ((w.alloc (.cells #[.string s] 9)).alloc (.cells #[.string ⟨#[47]⟩] 9)).alloc (.cells #[.int .i64 0] 3)=w':=
 callsIn_wide.2 ((Zgo s w).mono fun _ _ ⟨he,hw⟩=>⟨he,hw.symm⟩)
theorem _root_.Go.Proofs.YtkdjkngfnapjcaaGreatDoor.At.toHole {L0 L G:List Part} {w0 w:World} {b:Nat} {c:List Value} {T:TypeId} (h:At L0 w0 L w) (s:Sel (Part.cells b c T) L G):At L0 w0 (Part.hole b::G) w:=
 h.turn s (Part.hole b) ⟨_,(h.get s:Zaa w b c T),rfl⟩ (fun _ e=>.inl e) (Exc.refl _ _)
def Zcc (s:ByteArray) (w:World):World:=(((((w.alloc (.cells #[.slice none 0 0] 260)).alloc (.cells #[.int .i64 0] 69)).alloc (.cells #[.slice none 0 0] 260)).alloc (.cells #[.string s] 9)).alloc (.cells #[.string ⟨#[47]⟩] 9)).alloc (.cells #[.int .i64 0] 3)
theorem ZjV (s:ByteArray) (w:World):At [] w [rowS (.slice none 0 0) [],Part.hole (w.heap.size + 5),Part.hole (w.heap.size + 4),Part.hole (w.heap.size + 3),Part.cells (w.heap.size + 2) [.slice none 0 0] 260,Part.cells (w.heap.size + 1) [.int .i64 0] 69,Part.cells w.heap.size [.slice none 0 0] 260] (Zcc s w)∧
 Boxed (Zcc s w) (w.heap.size + 3) 9 (.string s)∧Boxed (Zcc s w) (w.heap.size + 4) 9 (.string ⟨#[47]⟩)∧Boxed (Zcc s w) (w.heap.size + 5) 3 (.int .i64 0)∧(Zcc s w).heap.size=w.heap.size + 6:=by
 have q:=(At.start (w0:=w) (L0:=[]) trivial).alloc [.slice none 0 0] 260;have q:=q.alloc [.int .i64 0] 69;have q:=q.alloc [.slice none 0 0] 260;have q:=q.alloc [.string s] 9;have q:=q.alloc [.string ⟨#[47]⟩] 9;have q:=q.alloc [.int .i64 0] 3;simp only[World.size_alloc,Nat.add_assoc,Nat.reduceAdd] at q;change At [] w _ (Zcc s w) at q;have b1:Boxed (Zcc s w) (w.heap.size + 3) 9 (.string s):=q.get (A:=Part.cells (w.heap.size + 3) [.string s] 9) sR;have b2:Boxed (Zcc s w) (w.heap.size + 4) 9 (.string ⟨#[47]⟩):=q.get (A:=Part.cells (w.heap.size + 4) [.string ⟨#[47]⟩] 9) sR;have b3:Boxed (Zcc s w) (w.heap.size + 5) 3 (.int .i64 0):=q.get (A:=Part.cells (w.heap.size + 5) [.int .i64 0] 3) sR;have q:=q.toHole (b:=w.heap.size + 3) sR;have q:=q.toHole (b:=w.heap.size + 4) sR;have q:=q.toHole (b:=w.heap.size + 5) sR;have q:=q.row_nil 9 1;exact⟨q,b1,b2,b3,by simp[Zcc]⟩
theorem ZmE {w W W':World} {N B:Nat} {K K':List Part} (h:At [] w (K++[Part.hole (N + 3),Part.hole (N + 4),Part.hole (N + 5)]) W) (hc:∀A ∈ K,A.Cl) (t:At K W K' W'):
 KeepsFrom B W W'∧keep3 (N + 3) (N + 4) (N + 5) W W'∧At [] w (K'++[Part.hole (N + 3),Part.hole (N + 4),Part.hole (N + 5)]) W':=by
 obtain⟨s1,s2,s3⟩:=h.sep.apart2;refine⟨t.keepsFrom s1 hc B,fun b hb=> ?_,h.frame t⟩
 have key:∀H:Part,H ∈ [Part.hole (N + 3),Part.hole (N + 4),Part.hole (N + 5)]→H.foot b→W'.heap[b]? =W.heap[b]? :=fun H hH hf=>
  t.exc.block b (s2.lt hH hf) (fun⟨A,hA,ha⟩=>s3 A hA H hH b ha hf)
 rcases hb with rfl|rfl|rfl
 · exact key (Part.hole (N + 3)) (by simp) rfl
 · exact key (Part.hole (N + 4)) (by simp) rfl
 exact key (Part.hole (N + 5)) (by simp) rfl
theorem Zlz {acc:List Bs}:stepW acc []=some acc:=by simp[stepW]
theorem ZlA {acc:List Bs}:stepW acc [46]=some acc:=by simp[stepW]
theorem Zly:stepW [] [46,46]=none:=by simp[stepW]
theorem Znd {acc:List Bs} (h:acc≠[]):stepW acc [46,46]=some acc.dropLast:=by simp[stepW,h]
theorem Zne {acc:List Bs} {p:Bs} (h0:p≠[]) (h1:p≠[46]) (h2:p≠[46,46]) (h:partB p=false):stepW acc p=none:=by
 have h3:¬p.all letB=true:=fun q=>by rw[ZcQ.2 ⟨h0,q⟩] at h;cases h
 simp[stepW,h0,h1,h2,h3]
theorem Zev {x y:ByteArray} (h:bl x=bl y):x=y:=Go.WideShapes.bytes_inj h
theorem ZjI {pre:List ByteArray} {x:ByteArray} {acc:List Bs} (h:walkL [] (pre.map bl)=some acc):walkL [] ((pre++[x]).map bl)=stepW acc (bl x):=by
 rw[List.map_append,Zh9,h];simp only[List.map_cons,List.map_nil,Option.bind_some,walkL]
 cases stepW acc (bl x)<;>rfl
theorem _root_.Go.Proofs.YtkdjkngfnapjcaaGreatDoor.At.trans {L0 L L':List Part} {w0 w w':World} (h:At L0 w0 L w) (t:At L w L' w'):At L0 w0 L' w':=by
 have:=At.frame (F:=[]) (K:=L) (by simpa using h) t
 simpa using this
def WAct (s:ByteArray) (w:World) (x:ByteArray):Act:=
 {tmps:= #[.string s,undef,.pointer (some ⟨w.heap.size,0,none⟩),.pointer (some ⟨w.heap.size + 1,0,none⟩),.pointer (some ⟨w.heap.size + 2,0,none⟩),.string x,.string s,.func (.func 308) #[] #[.pointer (some ⟨w.heap.size + 4,0,none⟩),.pointer (some ⟨w.heap.size + 3,0,none⟩),.pointer (some ⟨w.heap.size + 5,0,none⟩)],.string x,
  undef,undef,undef,undef,undef,undef,undef,undef,undef,undef,undef,undef,undef,undef,undef,undef,undef,undef,undef,undef,undef,undef,undef,undef,undef,undef,undef,undef,undef,undef,undef,undef],defers:=[]}
theorem Zlp (s:ByteArray) (w:World) (hs:s.size≤2000000):Calls Tryz.prog 203 #[.string s] w (ZmM s w):=by
 obtain⟨i0,hi0,hz0,hz1,hz2⟩:=info_parts ZkB;refine(callsIn_wide (n:=9)).1 ?_;refine callsIn_of_wp_marks Tryz.func203 rfl trivial ?_ rfl;simp only[Tryz.ntmps203,List.size_toArray,List.length_cons,List.length_nil,Nat.reduceAdd,Nat.reduceSub,Array.replicate_succ,Array.replicate_zero,List.push_toArray,List.append_toArray,List.nil_append,List.cons_append]
 gi_wp2
 refine⟨trivial,(Zhs 8 s _).mono ?_⟩;rintro e _ ⟨rfl,rfl⟩
 gi_wp2
 obtain⟨W5,hW5⟩:∃W5,Zcc s w=W5:=⟨_,rfl⟩
 obtain⟨q,b1,b2,b3,hsz⟩:=ZjV s w;simp only[World.size_alloc,Nat.add_assoc,Nat.reduceAdd];rw[show((((((w.alloc (.cells #[.slice none 0 0] 260)).alloc (.cells #[.int .i64 0] 69)).alloc (.cells #[.slice none 0 0] 260)).alloc (.cells #[.string s] 9)).alloc (.cells #[.string ⟨#[47]⟩] 9)).alloc (.cells #[.int .i64 0] 3))=W5 from hW5];rw[hW5] at q b1 b2 b3 hsz;clear hW5
 refine Zdx rfl (by omega) (gf:=308) (lb:= #[.pointer (some ⟨w.heap.size + 4,0,none⟩),.pointer (some ⟨w.heap.size + 3,0,none⟩),.pointer (some ⟨w.heap.size + 5,0,none⟩)]) rfl trivial (enters_of Tryz.func308 (by kernel_rfl) rfl)
  (encs:=fun x:ByteArray=> #[.string x]) (Bs:=w.heap.size + 3) (Kp:=keep3 (w.heap.size + 3) (w.heap.size + 4) (w.heap.size + 5)) (S:=fun xs=>xs.map bl=Zae (bl s)) (Sp:=fun pre=>pre.map bl <+:Zae (bl s)) (N:=2000001)
  (fun l J Jx W hW hJ hY h0=>ZjY _ (by omega) l _ _ _ (by omega) (by omega) s hs J Jx W hJ hY ((hW.block _ b1.lt).trans b1) ((hW.block _ b2.lt).trans b2) ((hW.block _ b3.lt).trans b3) h0)
  (by omega) (fun h k b hb=>(k b hb).trans (h b hb)) (fun W l o' hl b hb=>World.putObj_heap_other (by omega)) (fun _=>rfl)
  (WI w w.heap.size) (WIx w w.heap.size) (wi_own _ _ _ (by omega)) (Zm8 _ _ _ (by omega)) ⟨_,[],q.pick pR,rfl,by simp⟩ (WAct s w) ?assign ?body ?done ?stop
 case assign=>
  intro l x W K hK
  gi_wp2
  exact hK
 case body=>
  rintro l pre x W ⟨v,ws,hA,hwk,hle⟩ hlen;have h0:=hA.pick (K:=[Part.cells (w.heap.size + 2) [v] 260,rowS v ws,Part.cells w.heap.size [.slice none 0 0] 260,Part.cells (w.heap.size + 1) [.int .i64 0] 69,Part.hole (w.heap.size + 3),Part.hole (w.heap.size + 4),Part.hole (w.heap.size + 5)]) pR;have h1:At [] w ([Part.cells (w.heap.size + 2) [v] 260,rowS v ws,Part.cells w.heap.size [.slice none 0 0] 260,Part.cells (w.heap.size + 1) [.int .i64 0] 69]++[Part.hole (w.heap.size + 3),Part.hole (w.heap.size + 4),Part.hole (w.heap.size + 5)]) W:=h0
  have hcl:∀A ∈ [Part.cells (w.heap.size + 2) [v] 260,rowS v ws,Part.cells w.heap.size [.slice none 0 0] 260,Part.cells (w.heap.size + 1) [.int .i64 0] 69],A.Cl:=by
   intro A hA;simp only[List.mem_cons,List.not_mem_nil,or_false] at hA
   rcases hA with rfl|rfl|rfl|rfl
   all_goals first|exact Part.cl_cells _ _ _|exact Part.cl_row _ _ _ _ _
  have hfin:=fun(B:Nat) (K':List Part) (W':World) (t:At _ W K' W')=>ZmE (B:=B) h1 hcl t
  have hA2:=At.start h1.sep.apart2.1
  have hsn:=fun x=>Hd (ZjI (x:=x) hwk)
  clear hA h0 h1 hcl hwk hsz q b1 b2 b3;have hA:=hA2;clear hA2;obtain⟨hA,hF⟩:=fZ hA;unfold WAct
  by_cases e0:bl x=[]∨bl x=[46]
  · have hk:stepW (ws.map bl) (bl x)=some (ws.map bl):=by rcases e0 with e|e<;>rw[e]<;>first|exact Zlz|exact ZlA
    have hk':=Hd hk;clear hk
    rcases e0 with e0|e0
    · obtain rfl:x=⟨#[]⟩:=Zev e0
      gi_wp2
      obtain⟨k1,k2,k3⟩:=hfin _ _ _ hA;simp only[List.cons_append,List.nil_append] at k3;exact⟨k1,k2,v,ws,k3.pick pR,by rw[(hsn _).out,hk'.out],by simp;omega⟩
    obtain rfl:x=⟨#[46]⟩:=Zev e0
    gi_wp2
    obtain⟨k1,k2,k3⟩:=hfin _ _ _ hA;simp only[List.cons_append,List.nil_append] at k3;exact⟨k1,k2,v,ws,k3.pick pR,by rw[(hsn _).out,hk'.out],by simp;omega⟩
  by_cases e1:bl x=[46,46]
  · obtain rfl:x=⟨#[46,46]⟩:=Zev e1
    clear e0;obtain⟨ax,cap,rfl,hax,hcap,_⟩:=hA.row_form (v:=v) (xs:=flatS ws) sR
    by_cases e2:ws=[]
    · subst e2
      gi_wp2_with (refine ZaK (by exact fun _=>trivial) rfl rfl rfl (by(try simp only[Act.eval,eV])<;>exact rfl) (by exact rfl) hA sR (by kernel_rfl) rfl (by first|decide|(simp;done)|omega) ?_;intro w1 hB;clear hF hA;have hA:=hB;clear hB;obtain⟨hA,hF⟩:=fZ hA)
      obtain⟨k1,k2,k3⟩:=hfin _ _ _ hA;simp only[List.cons_append,List.nil_append] at k3;exact⟨k1,rfl,k3.pick pR,by rw[(hsn _).out];exact Zly⟩
    have hl:0 < ws.length:=List.length_pos_iff.2 e2
    have hl1:((ws.length:Int)==0)=false:=by simpa using e2
    have hl2:=Hd (show((ws.length:Int) - 1)=((ws.length - 1:Nat):Int) by omega);have e2':=Hd e2;clear e2
    gi_wp2_with (first|(refine ZaK (by exact fun _=>trivial) rfl rfl rfl (by(try simp only[Act.eval,eV])<;>exact rfl) (by exact rfl) hA sR (by kernel_rfl) rfl (by first|decide|(simp;done)|omega) ?_;intro w1 hB;clear hF hA;have hA:=hB;clear hB;obtain⟨hA,hF⟩:=fZ hA)|(refine ZdQ (k:=ws.length - 1) (by exact fun _=>trivial) rfl rfl Tryz.underlying260 hi0 hz1 (by(try simp only[Act.eval,eV])<;>exact rfl) (by exact congrArg (Value.int .i64) hl2.out) hA sR (by omega) ?_;intro v1 hB;obtain⟨ax3,n3,cap3,hv3,hn3⟩:=hB.row_hid .here;subst hv3;clear hF hA;have hA:=hB;clear hB;obtain⟨hA,hF⟩:=fZ hA))
    have e3:(flatS ws).take ((ws.length - 1) * 1)=flatS ws.dropLast:=by
     unfold flatS;rw[ZgQ Zie,List.dropLast_eq_take]
    have e4:ws.length - 1=ws.dropLast.length:=by simp
    rw[e3] at hA;have hA2:At _ W _ w1:=hA;rw[e4] at hA2;obtain⟨k1,k2,k3⟩:=hfin _ _ _ hA2;simp only[List.cons_append,List.nil_append] at k3;exact⟨k1,k2,_,ws.dropLast,k3.pick pZ,by rw[(hsn _).out];exact(Znd (by simpa using e2'.out)).trans (by rw[List.map_dropLast]),by simp;omega⟩
  have n0:x.toList.isEmpty=false:=by
   rw[Lib.toList_data];cases q:x.data.toList
   · exact absurd (Or.inl q) e0
   rfl
  have n1:(x.toList==[46])=false:=by rw[Lib.toList_data];simpa using fun q=>e0 (Or.inr q)
  have n2:(x.toList==[46,46])=false:=by rw[Lib.toList_data];simpa using e1
  have hne:bl x≠[]:=fun q=>e0 (Or.inl q)
  cases hp:partB (bl x)
  · have hk:=Hd (Zne (acc:=ws.map bl) hne (fun q=>e0 (Or.inr q)) e1 hp)
    clear e0 e1 hne;obtain⟨ax,cap,rfl,hax,hcap,_⟩:=hA.row_form (v:=v) (xs:=flatS ws) sR
    gi_wp2_with fail
    refine⟨trivial,(CallsIn.inRound l (callsIn_wide.2 (Ziy x W))).mono ?_⟩;rw[show partB x.data.toList=false from hp];rintro e w1 ⟨rfl,hT⟩;replace hA:=hA.ext hT;clear hF hT;obtain⟨hA,hF⟩:=fZ hA
    gi_wp2_with (refine ZaK (by exact fun _=>trivial) rfl rfl rfl (by(try simp only[Act.eval,eV])<;>exact rfl) (by exact rfl) hA sR (by kernel_rfl) rfl (by first|decide|(simp;done)|omega) ?_;intro w1 hB;clear hF hA;have hA:=hB;clear hB;obtain⟨hA,hF⟩:=fZ hA)
    obtain⟨k1,k2,k3⟩:=hfin _ _ _ hA;simp only[List.cons_append,List.nil_append] at k3;exact⟨k1,rfl,k3.pick pR,by rw[(hsn _).out];exact hk.out⟩
  have hk:=Hd (Zgl (acc:=ws.map bl) hp);clear e0 e1 hne;obtain⟨ax,kn,cap,hv0,hkn⟩:=hA.row_hid (v:=v) (xs:=flatS ws) sR;subst hv0
  gi_wp2_with fail
  refine⟨trivial,(CallsIn.inRound l (callsIn_wide.2 (Ziy x W))).mono ?_⟩;rw[show partB x.data.toList=true from hp];rintro e w1 ⟨rfl,hT⟩;replace hA:=hA.ext hT;clear hF hT;obtain⟨hA,hF⟩:=fZ hA
  gi_wp2_with (first|(refine ZaK (by exact fun _=>trivial) rfl rfl rfl (by(try simp only[Act.eval,eV])<;>exact rfl) (by exact rfl) hA sR (by kernel_rfl) rfl (by first|decide|(simp;done)|omega) ?_;intro w1 hB;clear hF hA;have hA:=hB;clear hB;obtain⟨hA,hF⟩:=fZ hA;try go_frame)|(refine ZdP (e:=9) (vs:=strC x) (by exact fun _=>trivial) rfl rfl (by(try simp only[Act.eval,eV])<;>exact rfl) (fun _=>by kernel_rfl) hA ?_;intro b2 w1 hB hb2;clear hF hA;have hA:=hB;clear hB;obtain⟨hA,hF⟩:=fZ hA;try go_frame)|(refine ZcJ (e:=9) (size:=1) (v:=.slice ax kn cap) (xs:=flatS ws) (m0:=ws.length) (m:=1) (news:=strC x) (by exact fun _=>trivial) rfl _ _ 260 rfl Tryz.underlying260 hi0 hz0 hz1 hz2 rfl (by omega) hA sR (by(try simp only[Act.eval,eV])<;>exact rfl) (by(try simp only[Act.eval,eV])<;>exact rfl) rfl (hA.cells_reads sR _ _) (Zlx x) (by unfold maxLen;omega) (by omega) ?_;intro v1 w1 hB;obtain⟨ax3,n3,cap3,hv3,hn3⟩:=hB.row_hid .here;subst hv3;clear hF hA;have hA:=hB;clear hB;obtain⟨hA,hF⟩:=fZ hA;try go_frame))
  rw[show flatS ws++strC x=flatS (ws++[x]) by simp[flatS,List.flatMap_append],show ws.length + 1=(ws++[x]).length by simp] at hA;obtain⟨k1,k2,k3⟩:=hfin _ _ _ hA;simp only[List.cons_append,List.nil_append] at k3;exact⟨k1,k2,_,ws++[x],k3.pick pZ,by rw[(hsn _).out];exact hk.out.trans (by simp),by simp;omega⟩
 case done=>
  rintro D xs W hD hS ⟨v,ws,hA,hwk,hle⟩ hK;rw[hS] at hwk;obtain⟨ax,kn,cap,hv0,hkn⟩:=hA.row_hid (v:=v) (xs:=flatS ws) sR;subst hv0;have hwk':=Hd hwk
  have hSl:xs.length=(Zae (bl s)).length:=by rw[←hS];simp
  have hS':=Hd hSl;have hK':=Hd hK;clear hS hwk hSl hK
  have hcl:∀A ∈ [Part.hole (w.heap.size + 3),Part.cells (w.heap.size + 2) [.slice ax kn cap] 260,rowS (.slice ax kn cap) ws,Part.cells w.heap.size [.slice none 0 0] 260,Part.cells (w.heap.size + 1) [.int .i64 0] 69,Part.hole (w.heap.size + 4),Part.hole (w.heap.size + 5)],A.Cl:=by
   intro A hA;simp only[List.mem_cons,List.not_mem_nil,or_false] at hA
   rcases hA with rfl|rfl|rfl|rfl|rfl|rfl|rfl
   all_goals first|exact Part.cl_hole _|exact Part.cl_cells _ _ _|exact Part.cl_row _ _ _ _ _
  have hcl2:∀A ∈ [Part.cells (w.heap.size + 1) [.int .i64 0] 69,Part.cells w.heap.size [.slice ax kn cap] 260,Part.hole (w.heap.size + 3),Part.cells (w.heap.size + 2) [.slice ax kn cap] 260,rowS (.slice ax kn cap) ws,Part.hole (w.heap.size + 4),Part.hole (w.heap.size + 5)],A.Cl:=by
   intro A hA;simp only[List.mem_cons,List.not_mem_nil,or_false] at hA
   rcases hA with rfl|rfl|rfl|rfl|rfl|rfl|rfl
   all_goals first|exact Part.cl_hole _|exact Part.cl_cells _ _ _|exact Part.cl_row _ _ _ _ _
  have hbk:=fun(L':List Part) (W':World) (t:At _ W L' W')=>(⟨hA.trans t,(t.keepsFrom hA.sep hcl 0).same D _ (Nat.zero_le _) hK'.out rfl⟩:At [] w L' W'∧W'.heap[D]? =some (.deferred (some [])))
  have hA2:=At.start hA.sep;clear hA hcl;have hA:=hA2;clear hA2;obtain⟨hA,hF⟩:=fZ hA
  gi_wp2_with (refine ZaK (by exact fun _=>trivial) rfl rfl rfl (by(try simp only[Act.eval,eV])<;>exact rfl) (by exact rfl) hA sR (by kernel_rfl) rfl (by first|decide|(simp;done)|omega) ?_;intro w1 hB;clear hF hA;have hA:=hB;clear hB;obtain⟨hA,hF⟩:=fZ hA;try go_frame)
  obtain⟨g1,g2⟩:=hbk _ _ hA;have g3:=g1.ownB (Bs:=w.heap.size + 3) sR hcl2 (B:=W5.heap.size) (by omega) (grownBy_putObj' w1 D (.deferred none)) (fun r e=>by cases e;exact .inr ⟨hD,_,g2,rfl⟩);have hF3:=g3.facts
  (try simp only[Ze3,ZgV,Zep,ZgT,Ze2,ZgU,ZgW,Ze1,Zc0,and_true,true_and] at hF3)
  clear hF hA hbk hcl2 g1;refine⟨by simp,.inl ⟨_,_,rfl,run_takeDeferred g2,?_⟩⟩;refine⟨.tuple #[.slice ax kn cap,.int .i64 0],by simp[results,Tryz.results203,go_sem,hF3],?_⟩;have hl:=Za5 (bl s);have hl2:=hS'.out
  have hl3:(bl s).length=s.size:=by simp
  exact⟨_,ws,by rw[hwk'.out];rfl,g3.pick pR,.inl hwk'.out,by omega⟩
 case stop=>
  rintro D c pre W hD hS ⟨rfl,hA,hwk⟩ hK
  have hnone:walkL [] (Zae (bl s))=none:=by
   obtain⟨r,hr⟩:=hS;rw[←hr,Zh9,hwk]
   rfl
  have hn':=Hd hnone;clear hS hwk hnone
  have hcl:∀A ∈ [Part.hole (w.heap.size + 3),Part.cells w.heap.size [.slice none 0 0] 260,Part.cells (w.heap.size + 1) [.int .i64 30] 69],A.Cl:=by
   intro A hA;simp only[List.mem_cons,List.not_mem_nil,or_false] at hA
   rcases hA with rfl|rfl|rfl
   all_goals first|exact Part.cl_hole _|exact Part.cl_cells _ _ _
  have g3:=hA.ownB (Bs:=w.heap.size + 3) sR hcl (B:=W5.heap.size) (by omega) (grownBy_putObj' W D (.deferred none)) (fun r e=>by cases e;exact .inr ⟨hD,_,hK,rfl⟩);have hF3:=g3.facts
  (try simp only[Ze3,ZgV,Zep,ZgT,Ze2,ZgU,ZgW,Ze1,Zc0,and_true,true_and] at hF3)
  have g4:=g3.row_nil 9 1;clear hA hcl
  gi_wp2
  refine⟨by simp,.inl ⟨_,_,rfl,run_takeDeferred hK,?_⟩⟩;refine⟨.tuple #[.slice none 0 0,.int .i64 30],by simp[results,Tryz.results203,go_sem,hF3],?_⟩;exact⟨_,[],by rw[hn'.out];rfl,g4.pick pZ,.inr ⟨hn'.out,rfl⟩,by simp⟩
end Path
end
section
namespace Path
open Go.RowKit
theorem Zh8:∀{l acc a:List Bs},walkL acc l=some a→∀q ∈ a,q ∈ acc∨q ∈ l
 |[],acc,a,h,q,hq=>by simp[walkL] at h;subst h;exact .inl hq
 |p::r,acc,a,h,q,hq=>by
  rw[walkL] at h
  cases hs:stepW acc p with
  |none=>simp[hs] at h
  |some b=>
   simp only[hs] at h
   rcases Zh8 h q hq with h1|h1
   · unfold stepW at hs
     split at hs
     · cases hs;exact .inl h1
     split at hs
     · split at hs
       · cases hs
       cases hs;exact .inl (List.dropLast_subset _ h1)
     split at hs
     · cases hs
       rcases List.mem_append.1 h1 with h1|h1
       · exact .inl h1
       rw[List.mem_singleton.1 h1];exact .inr (by simp)
     cases hs
   exact .inr (by simp[h1])
theorem Zcw:∀(s:Bs),∀q ∈ Zae s,q.length≤s.length
 |[],q,hq=>by simp[Zae] at hq;subst hq;simp
 |c::r,q,hq=>by
  have ih:=Zcw r;rw[Za2] at hq
  split at hq
  · rcases List.mem_cons.1 hq with rfl|hq
    · simp
    have:=ih q hq;simp;omega
  cases hs:Zae r with
  |nil=>exact absurd hs (ZbN r)
  |cons a b=>
   rw[hs] at hq ih;simp only[List.headD_cons,List.tail_cons] at hq
   rcases List.mem_cons.1 hq with rfl|hq
   · have:=ih a (by simp);simp;omega
   have:=ih q (by simp[hq]);simp;omega
theorem ZiG:∀(l:List Bs) (m:Nat),(∀q ∈ l,q.length≤m)→(joinS l).length≤l.length * (m + 1)
 |[],m,_=>by simp[joinS,Lib.join]
 |[p],m,h=>by rw[join_one];have:=h p (by simp);simp;omega
 |p::q::r,m,h=>by
  rw[ZcU _ _ (by simp)];have ih:=ZiG (q::r) m (fun x hx=>h x (by simp[hx]));have:=h p (by simp);simp only[List.length_append,List.length_cons] at ih ⊢
  have e:(r.length + 1 + 1) * (m + 1)=(r.length + 1) * (m + 1) + (m + 1):=by rw[Nat.add_mul (r.length + 1)];omega
  omega
theorem ZfR {s:Bs} {l:List Bs} (h:walkL [] (Zae s)=some l):(joinS l).length≤l.length * (s.length + 1):=
 ZiG l s.length (fun q hq=>by
  rcases Zh8 h q hq with h1|h1
  · simp at h1
  exact Zcw s q h1)
theorem ZfY {c:List Value} {ws:List ByteArray} (ht:c.take (ws.length * 1)=flatS ws) {j:Nat} {x:ByteArray} (hx:ws[j]? =some x):c[j]? =some (.string x):=by
 have:=Za7 Zie (enc:=strC) ht hx 0 (by omega)
 simpa [strC] using this
def ZmO (s:ByteArray) (w:World) (e:Ending) (w':World):Prop:=
 ∃q:ByteArray,e=.returned (.tuple #[.string q,.int .i64 (normL (bl s)).2])∧bl q=(normL (bl s)).1∧Ext w w'
theorem Zjp (s:ByteArray) (w:World) (hs:s.size≤2000000):Calls Tryz.prog 144 #[.string s] w (ZmO s w):=by
 have hA:=At.start (w0:=w) (L0:=[]) trivial;have hF:=hA.facts
 go_enter Tryz.func144,Tryz.ntmps144
 go_wp2_with fail
 refine(Zlp s w hs).mono ?_;rintro e w1 ⟨v,ws,rfl,hT,hres,hlen⟩;replace hA:=hA.call0 hT;clear hF hT;simp only[List.append_nil] at hA;obtain⟨ax,cap,hv,hax0,hcap0,_⟩:=hA.row_form (v:=v) (n:=ws.length) (xs:=flatS ws) sR;subst hv;have hcap:=Hd hcap0;clear hax0 hcap0
 have hn:normL (bl s)=(match walkL [] (Zae (bl s)) with
  |none=>([],30)
  |some l=>if l=[] then([],13) else if 8 < l.length then([],31) else if 64 < (joinS l).length then([],11) else(joinS l,0)):=rfl
 rcases hres with hre|⟨hre,hw0⟩
 · rw[hre] at hn
   simp only at hn;have hjl:=ZfR hre;rw[hre];simp only[Zhk];simp only[List.length_map] at hjl hn
   by_cases e1:ws=[]
   · subst e1
     simp only[List.map_nil,if_pos] at hn;have hn':=Hd hn;clear hn hre hjl hlen hcap;obtain⟨hA,hF⟩:=fZ hA
     go_wp2_with fail
     go_ret2;exact⟨⟨#[]⟩,by rw[hn'.out];rfl,by rw[hn'.out],hA.toExt⟩
   rw[if_neg (by simpa using e1)] at hn
   have hl0:((ws.length:Int)==0)=false:=by simpa using e1
   by_cases e2:8 < ws.length
   · rw[if_pos e2] at hn
     have hn':=Hd hn;clear hn hre hjl hlen hcap e1;obtain⟨hA,hF⟩:=fZ hA
     go_wp2_with fail
     go_ret2;exact⟨⟨#[]⟩,by rw[hn'.out];rfl,by rw[hn'.out],hA.toExt⟩
   rw[if_neg e2] at hn;have hl1:0 < ws.length:=List.length_pos_iff.2 e1;obtain⟨g,c,hax,_,hcm,hcl,hct,hB⟩:=hA.row_open (ax:=ax) (cap:=cap) (n:=ws.length) (xs:=flatS ws) sR hl1;subst hax
   have hj:(Lib.join (ws.map (·.data.toList)) [47]).length≤140737488355328:=by
    have h1:(joinS (ws.map bl)).length≤ws.length * (s.size + 1):=by simpa using hjl
    have h2:ws.length * (s.size + 1)≤8 * 2000001:=Nat.mul_le_mul (by omega) (by omega);have h3:(Lib.join (ws.map (·.data.toList)) [47]).length=(joinS (ws.map bl)).length:=rfl
    omega
   have hcl':g < w1.heap.size:=(hB.get (A:=Part.cells g c 9) sR:Zaa w1 g c _).lt
   have hjoin:=Tryz.strings_Join g 0 cap ws ⟨#[47]⟩ w1 (fun j x hx=>by
    rw[Nat.zero_add]
    exact((hB.get (A:=Part.cells g c 9) sR:Zaa w1 g c _).cell j).trans (ZfY hct hx)) hcl' (by omega) hcap.out hj
   clear hA;have hA:=hB;have hext:Ext w w1:=hA.toExt;clear hB hre hlen e1;have hn':=Hd hn;have hct':=Hd hct;have hcl2:=Hd hcl;clear hn hct hcl hjl hj
   go_wp2_with fail
   refine hjoin.mono ?_;clear hjoin;rintro e w2 ⟨rfl,hb⟩;have hext2:=hext.trans hb;clear hb hext hA
   obtain⟨jn,hjn⟩:∃q:ByteArray,(⟨(Lib.join (ws.map (·.data.toList)) [47]).toArray⟩:ByteArray)=q:=⟨_,rfl⟩
   have hjb:joinS (ws.map bl)=bl jn:=by rw[←hjn];rfl
   have hjs:(joinS (ws.map bl)).length=jn.size:=by rw[hjb];simp
   have hjb':=Hd hjb;have hn2:=hn'.out;rw[hjs] at hn2;rw[hjn];clear hjn hjb hjs hn' hct' hcl2
   by_cases e3:64 < jn.size
   · rw[if_pos e3] at hn2
     have hn3:=Hd hn2;clear hn2
     go_wp2_with fail
     go_ret2;exact⟨⟨#[]⟩,by rw[hn3.out];rfl,by rw[hn3.out],hext2⟩
   rw[if_neg e3] at hn2;have hn3:=Hd hn2;clear hn2
   go_wp2_with fail
   go_ret2;exact⟨jn,by rw[hn3.out];rfl,by rw[hn3.out];exact hjb'.out.symm,hext2⟩
 rw[hre] at hn;simp only at hn;subst hw0;rw[hre];simp only[Zhk];have hn':=Hd hn;clear hn hre hlen hcap;obtain⟨hA,hF⟩:=fZ hA
 go_wp2_with fail
 go_ret2;exact⟨⟨#[]⟩,by rw[hn'.out];rfl,by rw[hn'.out],hA.toExt⟩
end Path
end
end Go.Proofs.YtkdjkngfnapjcaaGreatDoor
