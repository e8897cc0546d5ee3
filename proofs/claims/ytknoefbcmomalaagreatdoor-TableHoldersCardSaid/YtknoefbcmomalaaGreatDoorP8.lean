import Derived.Test.YtknoefbcmomalaaGreatDoorP6
import Derived.Test.YtknoefbcmomalaaGreatDoorP4
set_option linter.unusedSimpArgs false
set_option linter.unusedVariables false
set_option maxRecDepth 100000
set_option maxHeartbeats 16000000
namespace Go.Proofs.YtknoefbcmomalaaGreatDoor
section
namespace Sess
open Go.RowKit Go.Shelf
open Go.Maps (Keyed)
attribute [local go_sem] Oper.semAt_some
def seV (p:Int × ByteArray):Value:=.agg #[.int .u64 p.1,.string p.2]
def seL (p:Int × ByteArray):List Value:=[.int .u64 p.1,.string p.2]
def unS:Value→Int × ByteArray
 |.agg #[.int _ a,.string b]=>(a,b)
 |_=>(0,.empty)
theorem Zg8 (p:Int × ByteArray):unS (seV p)=p:=rfl
theorem seV_inj {p q:Int × ByteArray} (h:seV p=seV q):p=q:=by rw[←Zg8 p,h,Zg8]
theorem Zhm {l m:List (Int × ByteArray)} (h:(l.map seV).Perm (m.map seV)):l.Perm m:=by
 have:=h.map unS
 simpa [List.map_map,Function.comp_def,Zg8] using this
def seenOf (w:World) (r:Nat):Nat:=match w.heap[r]? with|some (.mapIter _ _ seen _)=>seen.size|_=>0
theorem seenOf_eq {P:Program} {k:TypeId} {w:World} {r b:Nat} {es done:List (Value × Value)} (h:Zax P k w r b es done):seenOf w r=done.length:=by
 obtain⟨_,_,ents,clock,c0,vs,hb,hr,hc,hd,_⟩:=h;unfold seenOf;rw[hr,←hd];simp
theorem iter_walk {P:Program} {k:TypeId} {w:World} {r b:Nat} {es done:List (Value × Value)} (h:Zax P k w r b es done):∃o:Obj,w.heap[r]? =some o∧o.isWalk=true:=by
 obtain⟨_,_,ents,clock,c0,vs,hb,hr,_⟩:=h;exact⟨_,hr,rfl⟩
theorem iter_keeps {P:Program} {k:TypeId} {w w':World} {r b:Nat} {es done:List (Value × Value)} (h:Zax P k w r b es done) (hk:KeepsWalks w w'):Zax P k w' r b es done:=by
 have h0:=h;obtain⟨_,_,ents,clock,c0,vs,hb,hr,_⟩:=h0;exact h.same ((hk.same b _ hb rfl).trans hb.symm) ((hk.same r _ hr rfl).trans hr.symm)
theorem grown_of_exc {w w':World} {r:Nat} (h:Exc (fun q=>q=r) w w'):w.grownBy w' (some r):=⟨h.os,h.tape,h.output,h.size,fun k hk hn=>h.block k hk (fun e=>hn (by rw[e]))⟩
theorem grown_of_ext {w w':World} (h:Ext w w'):w.grownBy w' none:=⟨Below.os h,Below.tape h,Below.output h,Below.size h,fun k hk _=>Below.block h k hk⟩
theorem Zmk (F:Fence) (n:Nat) (h1:F.fn 148) (hro:F.round=none) (hn:1≤n) (l Bm b:Nat) (es:List (Value × Value)) (ks:List (Int × ByteArray)) (hes:es.map (·.1)=ks.map seV) (J Jx:List (Int × ByteArray)→World→Prop)
 (W:World) (hJ:AbidesFrom W.heap.size J)
 (hY:∀pre x W1,J pre W1→pre.length < ks.length→YieldAt F (n - 1) Tryz.prog l #[seV x] W1 fun e W'=>(e=.returned (.bool true)∧J (pre++[x]) W'∧KeepsWalks W1 W')∨(e=.returned (.bool false)∧Jx (pre++[x]) W'))
 (hm:W.cell? ⟨Bm,0,none⟩=some (.map (some b))) (hM:MapAt Tryz.prog 25 W b es) (h0:J [] W):
 CallsIn F n Tryz.prog 148 #[.func (.yield l) #[] #[],.pointer (some ⟨Bm,0,none⟩)] W fun e W'=>(∃v,e=.returned v)∧((∃ys,ys.Perm ks∧J ys W')∨(∃pre,True∧Jx pre W')):=by
 obtain⟨W0,hrun,hext,hI⟩:=Zax.start hM Tryz.underlying147;have hJ0:J [] W0:=hJ _ W W0 none h0 (grown_of_ext hext) (fun r e=>by cases e);refine callsIn_of_wp Tryz.func148 rfl h1 ?_ hro;simp only[Tryz.ntmps148,List.size_toArray,List.length_cons,List.length_nil,Nat.reduceAdd,Nat.reduceSub,Array.replicate_succ,Array.replicate_zero,List.push_toArray,List.append_toArray,List.nil_append,List.cons_append];gi_wp2
 clear hrun;(try go_frame)
 gi_loopw [3] (fun _ wr=>∃(done:List (Value × Value)) (ds:List (Int × ByteArray)),Zax Tryz.prog 25 wr W.heap.size b es done∧done.map (·.1)=ds.map seV∧J ds wr)
  (fun _ wr=>es.length - seenOf wr W.heap.size)
 case atStart=>exact⟨[],[],hI,rfl,hJ0⟩
 case round=>
  obtain⟨done,ds,hI1,hd,hJs⟩:=hrel;rcases hI1.next 0 with⟨hp,hrun⟩|⟨p,w',hp,hne,hrun,hI2,hx⟩
  · have hpp:ds.Perm ks:=(Zhm (by rw[←hes,←hd];exact hp.map _)).symm;clear hes hd;gi_wp2
    go_end0
    exact⟨⟨_,rfl⟩,.inl ⟨ds,hpp,hJs⟩⟩
  obtain⟨pk,pv⟩:=p;have hpk:pk ∈ es.map (·.1):=List.mem_map.2 ⟨_,hp,rfl⟩;rw[hes] at hpk;obtain⟨x,_,rfl⟩:=List.mem_map.1 hpk
  have hlen:ds.length < ks.length:=by
   have e1:=congrArg List.length hes;have e2:=congrArg List.length hd;have e3:=hI2.len;simp at e1 e2 e3
   omega
  have hJ1:J ds w':=hJ ds wr w' (some W.heap.size) hJs (grown_of_exc hx) (fun r e=>by cases e;exact⟨Nat.le_refl _,iter_walk hI1⟩);have hJ2:J ds (w'.alloc (.cells #[.int .u64 x.1,.string x.2] 25)):=hJ _ _ _ none hJ1 (World.grownBy_alloc _ _ none) (fun r e=>by cases e);have hI3:Zax Tryz.prog 25 (w'.alloc (.cells #[.int .u64 x.1,.string x.2] 25)) W.heap.size b es (done++[(seV x,pv)]):=(Part.iter _ _ _ _ _ _).stay _ _ hI2 (fun q hq=>Below.heap_alloc _ _ _ ((Part.iter _ _ _ _ _ _).lt _ hI2 q hq));obtain⟨fn,tmps,assign,body,hy,hR⟩:=hY ds x _ hJ2 hlen;have hen:=hI2.entry;have hs0:=seenOf_eq hI1;have hes':=Hd hes;have hd':=Hd hd;have hs':=Hd hs0;have hle:=hI2.len;clear hes hd hs0 hpk hp hne hx;unfold seV at hrun hen hy;gi_wp2
  refine hR.mono ?_;rintro e W3 (⟨rfl,hJ3,hk3⟩|⟨rfl,hJx3⟩)
  · gi_wp2
    go_roundw
    case rel=>exact⟨done++[(seV x,pv)],ds++[x],iter_keeps hI3 hk3,by simp[hd'.out],hJ3⟩
    case measure=>
     have e1:=seenOf_eq (iter_keeps hI3 hk3);have e2:=hs'.out;rw[e1,e2];simp at hle ⊢
     omega
  gi_wp2
  refine bodyPost_ret (results_none rfl _ _ _) rfl ?_;exact⟨⟨_,rfl⟩,.inr ⟨_,trivial,hJx3⟩⟩
theorem ZnZ (F:Fence) (n:Nat) (h1:F.fn 114) (hro:F.round=none) (mb:Option Nat) (w:World):
 CallsIn F n Tryz.prog 114 #[.map mb] w fun e w'=>e=.returned (.func (.func 148) #[] #[.pointer (some ⟨w.heap.size,0,none⟩)])∧w'=w.alloc (.cells #[.map mb] 147):=by
 refine callsIn_of_wp Tryz.func114 rfl h1 ?_ hro;simp only[Tryz.ntmps114,List.size_toArray,List.length_cons,List.length_nil,Nat.reduceAdd,Nat.reduceSub,Array.replicate_succ,Array.replicate_zero,List.push_toArray,List.append_toArray,List.nil_append,List.cons_append];gi_wp2
 go_ret;exact⟨rfl,rfl⟩
theorem Zi2 (F:Fence) (n:Nat) (h1:F.fn 148) (hro:F.round=none) (hn:1≤n) (Bm b:Nat) (es:List (Value × Value)) (ks:List (Int × ByteArray)) (hes:es.map (·.1)=ks.map seV) (w:World) (hBm:Bm < w.heap.size)
 (hm:w.cell? ⟨Bm,0,none⟩=some (.map (some b))) (hM:MapAt Tryz.prog 25 w b es):
 SeqStopsK F n Tryz.prog 148 #[.pointer (some ⟨Bm,0,none⟩)] (fun x:Int × ByteArray=> #[seV x]) KeepsWalks (fun ys=>ys.Perm ks) (fun _=>True) ks.length w:=fun l J Jx W hW hJ _ hY h0=>
 Zmk F n h1 hro hn l Bm b es ks hes J Jx W hJ hY ((hW.cell (p:=⟨Bm,0,none⟩) hBm).trans hm) (hM.same (hW.block b hM.lt)) h0
theorem infoID:(Tryz.prog.info? 25).map (fun i=>(i.zero,i.size,i.bytes))=some (some (.agg #[.int .u64 0,.string .empty]),2,24):=by kernel_rfl
def Box (W:World) (B:Nat) (t:TypeId) (c:Array Value):Prop:=W.heap[B]? =some (.cells c t (0,0))
theorem Box.own {β:Type} (B:Nat) (t:TypeId) (c:Array Value):Own (fun(_:β) W=>Box W B t c):=fun s X Y row hs hg hrow=>
 (hg.block B (ZaJ hs) (fun e=>by obtain⟨o,ho,hc⟩:=hrow B e.symm;rw[show X.heap[B]? =_ from hs] at ho;cases ho;cases hc)).trans hs
theorem two_new (W:World) (x y:Value) (t:TypeId):∀(j:Nat) (u:Value),[x,y][j]? =some u→(W.alloc (.cells #[x,y] t)).cell? ((⟨W.heap.size,0,none⟩:Addr).add j)=some u:=by
 intro j u h
 match j,h with
 |0,h=>simp at h;subst h;simp[Addr.add]
 |1,h=>simp at h;subst h;simp[Addr.add]
 |j + 2,h=>simp at h
def MidI (w:World) (pre:List (Int × ByteArray)) (W:World):Prop:=
 (∃v,Boxed W w.heap.size 134 v∧W.ownsRow w.heap.size 25 2 v pre.length (pre.flatMap seL)∧(v=.slice none 0 0↔pre=[]))∧Below w.heap.size w W
theorem midI_own (w:World) (B:Nat) (hB:w.heap.size≤B):OwnFrom B (MidI w):=
 OwnFrom.and (Own.from (holdsRow_own w.heap.size w.heap.size 134 25 2 (fun pre=>pre.length) (fun pre=>pre.flatMap seL) (fun pre v=>v=.slice none 0 0↔pre=[])) _) (ownFrom_below (Nat.le_refl _) hB)
def MidAx (w:World) (sv:Value) (x:Int × ByteArray) (a':Act) (W:World):Prop:=
 ∃Bx,w.heap.size < Bx∧Box W Bx 25 #[.int .u64 x.1,.string x.2]∧a'={tmps:= #[.slice none 0 0,sv,.pointer (some ⟨w.heap.size,0,none⟩),undef,.slice none 0 0,.pointer (some ⟨Bx,0,none⟩),sv,seV x,undef,undef,undef,undef,undef],defers:=[]}
theorem midAx_own (w:World) (sv:Value) (B:Nat) (x:Int × ByteArray) (a':Act):OwnFrom B (fun(_:Unit) W=>MidAx w sv x a' W):=by
 rintro s X Y row ⟨Bx,h1,h2,h3⟩ hg hr;exact⟨Bx,h1,(Box.own (β:=Unit) Bx _ _).from B () X Y row h2 hg hr,h3⟩
theorem appendSeq_in (F:Fence) (n:Nat) (hF:F.fn 147) (hro:F.round=none) (hn:3≤n) (gf:Nat) (lb:Array Value) (hFg:F.fn gf) (eg:∀args w,(callFunc gf args).run Tryz.prog w=.ok (.enter gf args) w)
 (S Sp:List (Int × ByteArray)→Prop) (N:Nat) (hN:N≤100000000) (w:World) (hseq:SeqStopsK F (n - 1) Tryz.prog gf lb (fun x:Int × ByteArray=> #[seV x]) KeepsWalks S Sp N w):
 CallsIn F n Tryz.prog 147 #[.slice none 0 0,.func (.func gf) #[] lb] w fun e w'=>∃(v:Value) (ss:List (Int × ByteArray)),e=.returned v∧S ss∧w'.ownsRow w.heap.size 25 2 v ss.length (ss.flatMap seL)∧(v=.slice none 0 0↔ss=[])∧Below w.heap.size w w':=by
 have h1:1≤n:=by omega
 obtain⟨i0,hi,hz0,hz1,hz2⟩:=info_parts infoID;refine callsIn_of_wp_marks Tryz.func147 rfl hF ?_ hro;simp only[Tryz.ntmps147,List.size_toArray,List.length_cons,List.length_nil,Nat.reduceAdd,Nat.reduceSub,Array.replicate_succ,Array.replicate_zero,List.push_toArray,List.append_toArray,List.nil_append,List.cons_append];gi_wp2
 have bO:=Boxed.new w 134 (.slice none 0 0);have hB0:Below w.heap.size w (w.alloc (.cells #[.slice none 0 0] 134)):=(Below.refl _ w).alloc (Nat.le_refl _) _
 refine wpIn_rangeFunc_ownH hro h1 (gf:=gf) (lb:=lb) rfl hFg eg hseq walksK_t walksK_b hB0 (fun _=>rfl)
  (MidI w) (fun _ _ _=>False) (midI_own w _ (by simp)) (fun _ _ _ _ _ hs _ _=>hs)
  ⟨⟨_,bO,World.ownsRow_nil _ _ _ _,by simp⟩,hB0⟩
  (MidAx w (.func (.func gf) #[] lb)) (fun x a'=>midAx_own w _ _ x a') ?assign ?body ?done ?stop
 case assign=>
  rintro l pre x W K ⟨⟨v,hv,hrow,hnil⟩,hB⟩ hK;have hsz:=hB.size;unfold seV;gi_wp2
  refine hK _ _ ((KeepsOthers.alloc _ _).from _) (KeepsWalks.alloc _ _) ⟨⟨v,hv.alloc _,hrow.alloc _,hnil⟩,hB.alloc hB.size _⟩ ⟨W.heap.size,hv.lt,World.alloc_heap_new W _,rfl⟩
 case body=>
  rintro l pre x a' W hl ⟨r,hr⟩ ⟨⟨v,hv,hrow,hnil⟩,hB⟩ ⟨Bx,hBx,bX,rfl⟩ hlt;have hc:=hv.cell;have c0:W.cell? ⟨Bx,0,none⟩=some (.int .u64 x.1):=by unfold Box at bX;simp[World.cell?,bX]
  have c1:W.cell? ⟨Bx,1,none⟩=some (.string x.2):=by unfold Box at bX;simp[World.cell?,bX]
  have hsz:=hB.size
  gi_wp2_with (gi_at_builtin;refine wpListIn_append_own _ rfl _ _ 134 rfl w.heap.size 25 i0 (.agg #[.int .u64 0,.string .empty]) 2 24 Tryz.underlying134 hi hz0 hz1 hz2 rfl (by decide) _ _ _ rfl (hrow.alloc _) ⟨W.heap.size,0,none⟩ 1 1 [.int .u64 x.1,.string x.2] rfl rfl (two_new _ _ _ _) (by simp[Value.oneCell']) (by unfold maxLen;omega) (by omega) (by simp;omega) ?_;intro v' w1 hown' hgrow _;obtain⟨g',cap',rfl⟩:=ownsRow_succ hown';obtain⟨hv1,hv2,hr2,hk2,hb2⟩:=hv.appended (by decide) hrow hB.size (Nat.le_refl _) hown' hgrow;have hc1:=hv1.cell;have hf1:=hv1.frozen)
  exact⟨hk2.from _,hk2.walks,⟨_,hv2,by simpa [seL] using hr2,by simp⟩,hB.trans hb2⟩
 case done=>
  rintro D ys W hD hS ⟨⟨v,hv,hrow,hnil⟩,hB⟩ hK;have hc:=hv.cell;gi_wp2
  refine⟨by simp,.inl ⟨_,_,rfl,run_takeDeferred hK,?_⟩⟩;exact⟨_,results_tmp rfl _ _ _,v,ys,rfl,hS,ownsRow_putObj hrow _ hK rfl,hnil,hB.trans (belowK_b (w:=w) (Nat.le_refl _) W D _ _ (by simp at hD;omega) hK rfl rfl)⟩
 case stop=>
  rintro D c pre W _ _ h _;exact h.elim
end Sess
end
section
namespace Lease
open Go.RowKit
def ZaE (ss:List Ses) (n:Int) (f:ByteArray) (g:Ses→Ses) (ss':List Ses):Prop:=
 (∃l1 s l2,find ss n f=some s∧ss=l1++s::l2∧ss'=l1++g s::l2)∨(find ss n f=none∧∃b t,ss'=ss++[g (fresh n f b t)])
def Zg2 (w:World) (p m:Nat) (ss:List Ses) (n:Int) (f:ByteArray) (g:Ses→Ses) (ret:Value) (code:Int) (e:Ending) (w':World):Prop:=
 ∃ss',e=.returned ret∧At [BookP p m ss] w [BookP p m ss'] w'∧(code≠0∧ss'=ss∨code=0∧ZaE ss n f g ss')
section
variable {w:World} {p m:Nat} {ss:List Ses} {n:Int} {f:ByteArray}
theorem Zk8 (h:Sep [BookP p m ss] w) (h0:0≤n) (h1:n < big64) (hf:f.size≤maxLen) (hl:ss.length≤1000000) (ttl time:Int):
 Calls Tryz.prog 95 #[.pointer (some ⟨p,0,none⟩),.agg #[.int .u64 n,.string f],.int .i64 ttl,.int .i64 time] w (Zg2 w p m ss n f (fun s=>s.opened ttl time) (.int .i64 (openE (look ss n f) (cnt ss f))) (openE (look ss n f) (cnt ss f))):=by
 by_cases he:openE (look ss n f) (cnt ss f)=0
 · rw[he]
   have hd:(look ss n f).dead=false:=by
    cases q:(look ss n f).dead
    · rfl
    simp[openE,q] at he
   have ho:(look ss n f).op=false:=by
    cases q:(look ss n f).op
    · rfl
    simp[openE,hd,q] at he
   have hc:cnt ss f < 32:=by
    rcases Nat.lt_or_ge (cnt ss f) 32 with q|q
    · exact q
    simp[openE,hd,ho,q] at he
   cases hn:find ss n f with
   |none=>
    refine(Zl6 h h0 h1 hf (by omega) ttl time hn hc).mono ?_;rintro e w' ⟨b,t,rfl,hT⟩;exact⟨_,rfl,hT,.inr ⟨rfl,.inr ⟨hn,b,t,rfl⟩⟩⟩
   |some s=>
    have hk:look ss n f=s:=by unfold look;rw[hn];rfl
    rw[hk] at hd ho;obtain⟨l1,l2,rfl,_,_,_⟩:=find_split hn;refine(Zl5 h h0 h1 hf (by omega) ttl time hn hc hd ho).mono ?_;rintro e w' ⟨rfl,hT⟩;exact⟨_,rfl,hT,.inr ⟨rfl,.inl ⟨l1,s,l2,hn,rfl,rfl⟩⟩⟩
 refine(ZnP h h0 h1 hf (by omega) ttl time he).mono ?_;rintro e w' ⟨rfl,hT⟩;exact⟨_,rfl,hT,.inl ⟨he,rfl⟩⟩
theorem Zdi {b:Bool} (φ:Ses→Bool) (h0:φ (fresh n f 0 0)≠b) (h:φ (look ss n f)=b):∃s l1 l2,find ss n f=some s∧ss=l1++s::l2∧φ s=b∧look ss n f=s:=by
 cases hn:find ss n f with
 |none=>
  unfold look at h;rw[hn] at h;exact absurd h h0
 |some s=>
  obtain⟨l1,l2,e,_,_,_⟩:=find_split hn;have hk:look ss n f=s:=by unfold look;rw[hn];rfl
  exact⟨s,l1,l2,rfl,e,by rw[←hk];exact h,hk⟩
theorem Zk9 (h:Sep [BookP p m ss] w) (h0:0≤n) (h1:n < big64) (hf:f.size≤maxLen) (time:Int):
 Calls Tryz.prog 96 #[.pointer (some ⟨p,0,none⟩),.agg #[.int .u64 n,.string f],.int .i64 time] w (Zg2 w p m ss n f (fun s=>s.kept time) (.int .i64 (if(look ss n f).op then 0 else 50)) (if(look ss n f).op then 0 else 50)):=by
 cases ho:(look ss n f).op
 · refine(Zn2 h h0 h1 hf time ho).mono ?_;rintro e w' ⟨rfl,hT⟩;exact⟨_,rfl,hT,.inl ⟨by simp,rfl⟩⟩
 obtain⟨s,l1,l2,hn,rfl,hs,_⟩:=Zdi (fun s=>s.op) (by simp[fresh]) ho;refine(Zmn h h0 h1 hf time hn hs).mono ?_;rintro e w' ⟨rfl,hT⟩;exact⟨_,rfl,hT,.inr ⟨rfl,.inl ⟨l1,s,l2,hn,rfl,rfl⟩⟩⟩
theorem ZmT (h:Sep [BookP p m ss] w) (h0:0≤n) (h1:n < big64) (hf:f.size≤maxLen):
 Calls Tryz.prog 94 #[.pointer (some ⟨p,0,none⟩),.agg #[.int .u64 n,.string f]] w (Zg2 w p m ss n f Ses.ended (.int .i64 (if(look ss n f).op then 0 else 50)) (if(look ss n f).op then 0 else 50)):=by
 cases ho:(look ss n f).op
 · refine(Znh h h0 h1 hf ho).mono ?_;rintro e w' ⟨rfl,hT⟩;exact⟨_,rfl,hT,.inl ⟨by simp,rfl⟩⟩
 obtain⟨s,l1,l2,hn,rfl,hs,_⟩:=Zdi (fun s=>s.op) (by simp[fresh]) ho;refine(ZkO h h0 h1 hf hn hs).mono ?_;rintro e w' ⟨rfl,hT⟩;exact⟨_,rfl,hT,.inr ⟨rfl,.inl ⟨l1,s,l2,hn,rfl,rfl⟩⟩⟩
def expB (s:Ses) (time:Int):Int:=if s.op then(if time < s.dl then 54 else 0) else 50
theorem ZhL (h:Sep [BookP p m ss] w) (h0:0≤n) (h1:n < big64) (hf:f.size≤maxLen) (time:Int):
 Calls Tryz.prog 55 #[.pointer (some ⟨p,0,none⟩),.agg #[.int .u64 n,.string f],.int .i64 time] w (Zg2 w p m ss n f Ses.ended (.int .i64 (expB (look ss n f) time)) (expB (look ss n f) time)):=by
 cases ho:(look ss n f).op
 · refine(ZkK h h0 h1 hf time ho).mono ?_;rintro e w' ⟨rfl,hT⟩;have he:expB (look ss n f) time=50:=by simp[expB,ho]
   rw[he];exact⟨_,rfl,hT,.inl ⟨by simp,rfl⟩⟩
 by_cases ht:time < (look ss n f).dl
 · refine(ZgH h h0 h1 hf time ho ht).mono ?_;rintro e w' ⟨rfl,hT⟩;have he:expB (look ss n f) time=54:=by simp[expB,ho,ht]
   rw[he];exact⟨_,rfl,hT,.inl ⟨by simp,rfl⟩⟩
 have he:expB (look ss n f) time=0:=by simp[expB,ho,ht]
 rw[he];obtain⟨s,l1,l2,hn,rfl,hs,hk⟩:=Zdi (fun s=>s.op) (by simp[fresh]) ho;rw[hk] at ht;refine(Zi9 h h0 h1 hf time hn hs (by omega)).mono ?_;rintro e w' ⟨rfl,hT⟩;exact⟨_,rfl,hT,.inr ⟨rfl,.inl ⟨l1,s,l2,hn,rfl,rfl⟩⟩⟩
def Ses.tell (s:Ses) (r:Int) (c:Ans):Ses:={s with told:=s.told++[(r,c)]}
def tellE (s:Ses) (r:Int):Int:=if(said s.told r).isSome then 1 else if 256≤s.told.length then 1 else 0
theorem Zk7 (h:Sep [BookP p m ss] w) (h0:0≤n) (h1:n < big64) (hf:f.size≤maxLen) {r:Int} (r0:0≤r) (r1:r < big64) (c:Ans):
 Calls Tryz.prog 60 #[.pointer (some ⟨p,0,none⟩),.agg #[.int .u64 n,.string f],.int .u64 r,.agg #[.int .i64 c.e,.int .u64 c.n,.bool c.g]] w (Zg2 w p m ss n f (fun s=>s.tell r c) (.tuple #[]) (tellE (look ss n f) r)):=by
 cases hn:find ss n f with
 |none=>
  have hk:look ss n f=fresh n f 0 0:=by unfold look;rw[hn];rfl
  refine(Zf6 h h0 h1 hf hn r0 r1 c).mono ?_;rintro e w' ⟨b,t,rfl,hT⟩;exact⟨_,rfl,hT,.inr ⟨by rw[hk];simp[tellE,fresh,said],.inr ⟨hn,b,t,rfl⟩⟩⟩
 |some s=>
  have hk:look ss n f=s:=by unfold look;rw[hn];rfl
  rw[hk]
  cases hs:said s.told r with
  |some a=>
   refine(Zlu h h0 h1 hf hn r0 r1 hs c).mono ?_;rintro e w' ⟨rfl,hT⟩;exact⟨_,rfl,hT,.inl ⟨by simp[tellE,hs],rfl⟩⟩
  |none=>
   by_cases hl:s.told.length < 256
   · obtain⟨l1,l2,rfl,_,_,_⟩:=find_split hn;refine(Zlv h h0 h1 hf hn r0 r1 hs hl c).mono ?_;rintro e w' ⟨rfl,hT⟩;exact⟨_,rfl,hT,.inr ⟨by simp[tellE,hs,Nat.not_le.2 hl],.inl ⟨l1,s,l2,hn,rfl,rfl⟩⟩⟩
   refine(Zjx h h0 h1 hf hn r0 r1 hs hl c).mono ?_;rintro e w' ⟨rfl,hT⟩;exact⟨_,rfl,hT,.inl ⟨by simp[tellE,hs,Nat.le_of_not_lt hl],rfl⟩⟩
end
end Lease
end
end Go.Proofs.YtknoefbcmomalaaGreatDoor
section
namespace Go
open _root_.Go.Proofs.YtknoefbcmomalaaGreatDoor
open Go.RowKit
theorem csZ {P:Program} {L0 L F:List Part} {w0 w:World} {id:Nat} {Q:Exit→Act→World→Prop} {a a1:Act} {l:List Oper} (n:Nat) (T:TypeId) (b j:Nat) (us:List Value) {x y:Operand} {c:List Value} {E:TypeId} {v:Value} (hA:At L0 w0 L w)
 (h2:∀w',At L0 w0 (Part.cells b (setL c j us) E::F) w'→wpList P l.toArray Q (l.drop (n + 1)) a1 w') (hm:P.follows .mixedOrders=true:=by kernel_rfl)
 (hB:(Region.noSelect l.toArray&&tailX .any l.toArray n&&freeS .any l.toArray n&&headB .any l.toArray n 0 (Array.replicate l.toArray.size false)&&dstB a.tmps.size (l.take n)&&Region.seqB .any l.toArray (l.length - (n + 1)) (n + 1) ((ZaK l.toArray.size n).setIfInBounds n true))=true:=by kernel_rfl)
 (hs:(l[n]?).map (fun o=>o.op)=some (.store T x y):=by exact rfl) (s:Sel (Part.cells b c E) L F:=by with_reducible repeat(first|exact Sel.here|apply Sel.there))
 (h1:∀(R:Part) (wR:World),At L0 w0 (R::F) wR→wpQuiet P l.toArray (Cl L0 w0 (R::F)) (fun a'=>a'=a1) (l.take n) a:=by intro R wR hR;(try clear hF);(simp only[List.take_succ_cons,List.take_zero,List.drop_succ_cons,List.drop_zero]);(have hn1:=Cl.none hR);(have hn2:=Cl.none2 hR);(repeat(first|go_big_quiet_skip|(go_big_quiet_want;(first|(refine qM 40 4 ?_;go_frame;go_big_quiet_on)|(refine qM 45 4 ?_;go_frame;go_big_quiet_on)|(refine qL ?_;go_frame;go_big_quiet_on)|(go_big_quiet_op;go_big_quiet_on)))));(refine wpQuiet_nil ?_);exact rfl)
 (hx:a1.eval x=.pointer (some ⟨b,j,none⟩):=by first|exact rfl|((try simp only[Act.eval,Array.getD_eq_getD_getElem?,List.getElem?_toArray,List.getElem?_cons_succ,List.getElem?_cons_zero,Option.getD_some]);exact rfl)) (hy:a1.eval y=v:=by first|exact rfl|((try simp only[Act.eval,Array.getD_eq_getD_getElem?,List.getElem?_toArray,List.getElem?_cons_succ,List.getElem?_cons_zero,Option.getD_some]);exact rfl)) (hu:v.cells=us.toArray:=by exact rfl) (hsz:(P.info? T).map (·.size)=some us.length:=by kernel_rfl) (hus:us.all (·.oneCell')=true:=by rfl) (hl:j + us.length≤c.length:=by first|decide|(simp;done)|(simp;omega)):
 (Code.region id l.toArray true).wp P Q a w:=Zb7 n T x y hm hB hs hA s h1 hx hy hu hsz hus hl h2
end Go
end
section
namespace Go
open _root_.Go.Proofs.YtknoefbcmomalaaGreatDoor
open Go.RowKit
section
variable {P:Program} {ops:Array Oper} {Q:Exit→Act→World→Prop} {md:Region.Mode} {S:World→Prop} {L0 L F:List Part} {w0 w:World}
theorem Zab {i fuel:Nat} {listed:Array Bool} {a:Act} (hr:Region.ready md ops listed=[i]) (h:wpOp P ops Q i (fun a' w'=>S w'∧wpAnyH P md ops Q S fuel (listed.setIfInBounds i true) a' w') a w):wpAnyH P md ops Q S (fuel + 1) listed a w:=
 wpAnyH_all hr (by simp) (fun k hk=>by rw[List.mem_singleton.1 hk];exact h)
theorem ZaY {i j fuel:Nat} {listed:Array Bool} {a:Act} (hr:Region.ready md ops listed=[i,j]) (h1:wpOp P ops Q i (fun a' w'=>S w'∧wpAnyH P md ops Q S fuel (listed.setIfInBounds i true) a' w') a w)
 (h2:wpOp P ops Q j (fun a' w'=>S w'∧wpAnyH P md ops Q S fuel (listed.setIfInBounds j true) a' w') a w):wpAnyH P md ops Q S (fuel + 1) listed a w:=
 wpAnyH_all hr (by simp) (fun k hk=>by
  rcases List.mem_cons.1 hk with rfl|hk
  · exact h1
  rw[List.mem_singleton.1 hk];exact h2)
theorem Zdp {i:Nat} {oi:Oper} {v:Value} {d:Option Tmp} {fuel:Nat} {listed:Array Bool} {a:Act} (hi:ops[i]? =some oi) (hd:oi.dst=d)
 (hs:Region.noSelect ops=true) (hf:Region.free md ops listed i=true) (hr:(Region.ready md ops listed).contains i=true)
 (hQ:∀c a w,Q (.panic c) (a.put oi.dst v) w→Q (.panic c) a w) (hw:Region.wanted oi (yielded ops a.tmps)=true) (hrun:∀w,S w→(execOp a.eval oi).run P w=.ok (.value v) w) (hS:S w)
 (h:wpAnyH P md ops Q S fuel (listed.setIfInBounds i true) (a.put d v) w):wpAnyH P md ops Q S (fuel + 1) listed a w:=by
 subst hd;exact wpAnyH_take hi hs hf hr hQ (.inl ⟨hw,hrun⟩) hS h
theorem Zd3 {i:Nat} {d:Option Tmp} {o:Oper} {a:Act} {K:Act→World→Prop} (ho:ops[i]? =some o) (hd:o.dst=d) (hw:Region.wanted o (yielded ops a.tmps)=true) {fn:FuncId} {args:Array Value} (hrun:(execOp a.eval o).run P w=.ok (.enter fn args) w)
 {R:Value→World→Prop} (hc:Calls P fn args w fun e w'=>∃u,e=.returned u∧R u w') (hK:∀u w',R u w'→K (a.put d u) w'):wpOp P ops Q i K a w:=by
 subst hd;exact Zjq ho hw hrun hc (fun e w' ⟨u,he,hr⟩=>⟨u,he,hK u w' hr⟩)
theorem Zaw {i:Nat} {o:Oper} {a:Act} {K:Act→World→Prop} (ho:ops[i]? =some o) (hd:o.dst=none) (hw:Region.wanted o (yielded ops a.tmps)=true) {ty:TypeId} {x y:Operand} (hop:o.op=.store ty x y) {b j:Nat} (hx:a.eval x=.pointer (some ⟨b,j,none⟩)) {v:Value} (hy:a.eval y=v) {vs:List Value} (hv:v.cells=vs.toArray)
 (h:At L0 w0 L w) {c:List Value} {T:TypeId} (s:Sel (Part.cells b c T) L F) (hi:(P.info? ty).map (·.size)=some vs.length) (h1:vs.all (·.oneCell')=true) (hj:j + vs.length≤c.length)
 (hK:∀w',At L0 w0 (Part.cells b (setL c j vs) T::F) w'→K (a.put none undef) w'):wpOp P ops Q i K a w:=by
 have hb:Zaa w b c T:=h.get s;have hs:v.cells.size=vs.length:=by rw[hv];simp
 have h1':v.cells.all (·.oneCell')=true:=by
  rw[hv,Array.all_eq_true_iff_forall_mem];intro u hu;exact List.all_eq_true.1 h1 u (by simpa using hu)
 have hrun:=ZaT (P:=P) w b j ty v (hb.there j _ (by omega)) (by rw[hs];exact hi) h1';rw[show v.cells.toList=vs from by rw[hv]] at hrun;refine ZdI ho hw (w':=_) ?_ (by rw[hd];exact hK _ (h.stores s j vs));simp[execOp,hop,hx,hy,hrun,Result.andThen]
end
end Go
end
section
namespace Go
open _root_.Go.Proofs.YtknoefbcmomalaaGreatDoor
open Go.RowKit
theorem tZ {P:Program} {ops:Array Oper} {Q:Exit→Act→World→Prop} {md:Region.Mode} {S:World→Prop} {w:World} {fuel:Nat} {listed:Array Bool} {a:Act} {oi:Oper} (i d:Nat) (v:Value) (hi:ops[i]? =some oi:=by exact rfl) (hd:oi.dst=some d:=by exact rfl) (hs:Region.noSelect ops=true:=by kernel_rfl) (hf:Region.free md ops listed i=true:=by kernel_rfl) (hr:(Region.ready md ops listed).contains i=true:=by kernel_rfl) (hQ:∀c a w,Q (.panic c) (a.put oi.dst v) w→Q (.panic c) a w:=by exact fun _ _ _ h=>h) (hw:Region.wanted oi (yielded ops a.tmps)=true:=by exact rfl) (r:∀w,S w→(execOp a.eval oi).run P w=.ok (.value v) w) (s:S w) (h:wpAnyH P md ops Q S fuel (listed.setIfInBounds i true) (a.put (some d) v) w):wpAnyH P md ops Q S (fuel + 1) listed a w:=Zdp hi hd hs hf hr hQ hw r s h
theorem tP {P:Program} {ops:Array Oper} {Q:Exit→Act→World→Prop} {md:Region.Mode} {S:World→Prop} {w:World} {fuel:Nat} {listed:Array Bool} {a:Act} {oi:Oper} (i d:Nat) (v:Value) (hi:ops[i]? =some oi:=by exact rfl) (hd:oi.dst=some d:=by exact rfl) (hs:Region.noSelect ops=true:=by kernel_rfl) (hf:Region.free md ops listed i=true:=by kernel_rfl) (hr:(Region.ready md ops listed).contains i=true:=by kernel_rfl) (hQ:∀c a w,Q (.panic c) (a.put oi.dst v) w→Q (.panic c) a w:=by exact fun _ _ _ h=>h) (hw:Region.wanted oi (yielded ops a.tmps)=true:=by exact rfl) (r:∀w,S w→(execOp a.eval oi).run P w=.ok (.value v) w:=by intro _ _;first|(simp[execOp,go_sem,Act.eval,Act.put];done)|kernel_rfl) (s:S w) (h:wpAnyH P md ops Q S fuel (listed.setIfInBounds i true) (a.put (some d) v) w):wpAnyH P md ops Q S (fuel + 1) listed a w:=Zdp hi hd hs hf hr hQ hw r s h
end Go
end
section
namespace Go
open _root_.Go.Proofs.YtknoefbcmomalaaGreatDoor
open Go.RowKit
theorem cZ {P:Program} {ops:Array Oper} {Q:Exit→Act→World→Prop} {w:World} {o:Oper} {a:Act} {K:Act→World→Prop} {R:Value→World→Prop} {fn:FuncId} {args:Array Value} (i d:Nat) (hc:Calls P fn args w fun e w'=>∃u,e=.returned u∧R u w') (hK:∀u w',R u w'→K (a.put (some d) u) w') (ho:ops[i]? =some o:=by exact rfl) (hd:o.dst=some d:=by exact rfl) (hw:Region.wanted o (yielded ops a.tmps)=true:=by kernel_rfl) (hrun:(execOp a.eval o).run P w=.ok (.enter fn args) w:=by simp[execOp,go_sem,Act.eval,Act.put]):wpOp P ops Q i K a w:=Zd3 ho hd hw hrun hc hK
theorem cY {P:Program} {ops:Array Oper} {Q:Exit→Act→World→Prop} {w:World} {o:Oper} {a:Act} {K:Act→World→Prop} {args:Array Value} (i d:Nat) (fn:FuncId) (R:Value→World→Prop) (hc:Calls P fn args w fun e w'=>∃u,e=.returned u∧R u w') (hK:∀u w',R u w'→K (a.put (some d) u) w') (ho:ops[i]? =some o:=by exact rfl) (hd:o.dst=some d:=by exact rfl) (hw:Region.wanted o (yielded ops a.tmps)=true:=by kernel_rfl) (hrun:(execOp a.eval o).run P w=.ok (.enter fn args) w:=by simp[execOp,go_sem,Act.eval,Act.put]):wpOp P ops Q i K a w:=Zd3 ho hd hw hrun hc hK
theorem stZ {P:Program} {ops:Array Oper} {Q:Exit→Act→World→Prop} {L0 L F:List Part} {w0 w:World} {o:Oper} {a:Act} {K:Act→World→Prop} {ty:TypeId} {x y:Operand} {v:Value} {c:List Value} {T:TypeId} (i b j:Nat) (vs:List Value) (h:At L0 w0 L w) (hK:∀w',At L0 w0 (Part.cells b (setL c j vs) T::F) w'→K (a.put none undef) w') (ho:ops[i]? =some o:=by exact rfl) (hd:o.dst=none:=by exact rfl) (hw:Region.wanted o (yielded ops a.tmps)=true:=by kernel_rfl) (hop:o.op=.store ty x y:=by exact rfl) (hx:a.eval x=.pointer (some ⟨b,j,none⟩):=by exact rfl) (hy:a.eval y=v:=by exact rfl) (hv:v.cells=vs.toArray:=by exact rfl) (s:Sel (Part.cells b c T) L F:=by repeat(first|exact Sel.here|apply Sel.there)) (hi:(P.info? ty).map (·.size)=some vs.length:=by kernel_rfl) (h1:vs.all (·.oneCell')=true:=by exact rfl) (hj:j + vs.length≤c.length:=by simp):wpOp P ops Q i K a w:=Zaw ho hd hw hop hx hy hv h s hi h1 hj hK
end Go
end
section
namespace Go
open _root_.Go.Proofs.YtknoefbcmomalaaGreatDoor
open Go.RowKit
section
variable {P:Program} {ops:Array Oper} {Q:Exit→Act→World→Prop} {md:Region.Mode} {S:World→Prop} {L0 L F:List Part} {w0 w:World}
theorem ZiV {i:Nat} {d:Option Tmp} {o:Oper} {a:Act} {K:Act→World→Prop} {E:TypeId} (ho:ops[i]? =some o) (hd:o.dst=d) (hw:Region.wanted o (yielded ops a.tmps)=true) (hop:o.op=.alloc E) {z:Value} (hz:(P.info? E).map (·.zero)=some (some z)) {vs:List Value} (hv:z.cells=vs.toArray) (h:At L0 w0 L w)
 (hK:∀b w',At L0 w0 (Part.cells b vs E::L) w'→K (a.put d (.pointer (some ⟨b,0,none⟩))) w'):wpOp P ops Q i K a w:=by
 subst hd;refine Ze5 ho hw (v:=.pointer (some ⟨w.heap.size,0,none⟩)) (w':=w.alloc (.cells vs.toArray E)) ?_ (hK _ _ (h.alloc vs E))
 cases hq:P.info? E with
 |none=>simp[hq] at hz
 |some i=>
  have hi:i.zero=some z:=by simpa [hq] using hz
  simp[execOp,hop,Instr.alloc,zeroValue,typeInfo,hq,hi,newVar,newRow,hv,Result.andThen]
end
end Go
section
namespace Go
open _root_.Go.Proofs.YtknoefbcmomalaaGreatDoor
open Go.RowKit
theorem aZ {P:Program} {ops:Array Oper} {Q:Exit→Act→World→Prop} {L0 L:List Part} {w0 w:World} {o:Oper} {a:Act} {K:Act→World→Prop} (i d:Nat) (E:TypeId) (vs:List Value) (h:At L0 w0 L w) (hK:∀b w',At L0 w0 (Part.cells b vs E::L) w'→K (a.put (some d) (.pointer (some ⟨b,0,none⟩))) w') (ho:ops[i]? =some o:=by exact rfl) (hd:o.dst=some d:=by exact rfl) (hw:Region.wanted o (yielded ops a.tmps)=true:=by kernel_rfl) (hop:o.op=.alloc E:=by exact rfl) (hz:(P.info? E).map (·.zero)=some (some (.agg vs.toArray)):=by kernel_rfl):wpOp P ops Q i K a w:=ZiV ho hd hw hop hz rfl h hK
end Go
end
end
section
namespace Go
open _root_.Go.Proofs.YtknoefbcmomalaaGreatDoor
open Go.RowKit
section
variable {P:Program} {ops:Array Oper} {rest:List Oper} {o:Oper} {a:Act} {Q:Exit→Act→World→Prop} {L0 L F:List Part} {w0 w:World}
theorem wpList_zero_at {t:TypeId} {e:TypeId} (size:Nat) (hg:o.guard=none) (hop:o.op=.buildSlice t 0 #[])
 (hrun:∀w,(Instr.buildSlice t 0 #[]).run P w=.ok (.slice (some ⟨w.heap.size,0,none⟩) 0 0) (w.alloc (.cells #[] e))) (h:At L0 w0 L w)
 (hK:∀b w',At L0 w0 (Part.row e size (.slice (some ⟨b,0,none⟩) 0 0) 0 []::L) w'→wpList P ops Q rest (a.put o.dst (.slice (some ⟨b,0,none⟩) 0 0)) w'):wpList P ops Q (o::rest) a w:=by
 refine Zal hg (v:=.slice (some ⟨w.heap.size,0,none⟩) 0 0) (w':=w.alloc (.cells #[] e)) (by simp[execOp,hop,hrun,Result.andThen]) (hK _ _ ?_);refine h.new ((Ext.refl w).alloc _) _ ⟨by simp,.inr ⟨w.heap.size,0,#[],rfl,Nat.zero_le _,heap_alloc_new w _,Nat.le_refl _,Nat.zero_le _,by simp,by simp⟩⟩ (fun b hb=> ?_);have hb2:(Value.slice (some ⟨w.heap.size,0,none⟩) 0 0).ownBlock=some b:=hb;cases hb2;exact Nat.le_refl _
theorem Zak {i:Nat} {d:Option Tmp} {o:Oper} {a:Act} {K:Act→World→Prop} (ho:ops[i]? =some o) (hd:o.dst=d) (hw:Region.wanted o (yielded ops a.tmps)=true) {ty:TypeId} {x:Operand} (hop:o.op=.load ty x) {b j:Nat} (hx:a.eval x=.pointer (some ⟨b,j,none⟩)) {c:List Value} {T:TypeId} (h:At L0 w0 L w) (s:Sel (Part.cells b c T) L F)
 (hu:(P.underlying ty).map (·.isRow)=some true) {n:Nat} (hi:(P.info? ty).map (·.size)=some n) {vs:List Value} (hv:(c.drop j).take n=vs) (hl:vs.length=n)
 (hK:K (a.put d (.agg vs.toArray)) w):wpOp P ops Q i K a w:=by
 subst hd;have hr:=Zah (P:=P) (o:=o) (a:=a) hop hx (h.get s) hu hi hv hl;exact Ze5 ho hw (v:=.agg vs.toArray) (w':=w) hr hK
end
end Go
namespace Go.Proofs.YtknoefbcmomalaaGreatDoor
open Go.RowKit
theorem through1 {L0 L F:List Part} {w0 w:World} {A:Part} {P:Program} {f:FuncId} {args:Array Value} {v:Value} (s:Sel A L F) (h:At L0 w0 L w) (hc:∀w1,Sep [A] w1→Calls P f args w1 fun e w'=>e=.returned v∧At [A] w1 [A] w'):
 Calls P f args w fun e w'=>e=.returned v∧At L0 w0 L w':=h.through (Eqv.perm s.perm) (hc w)
end Go.Proofs.YtknoefbcmomalaaGreatDoor
end
namespace Go.Proofs.YtknoefbcmomalaaGreatDoor
section
namespace Sta
variable {α:Type}
def Srt (k:α→Int) (l:List α):Prop:=l.Pairwise fun x y=>k x≤k y
theorem ZjF (k:α→Int):Srt k []:=List.Pairwise.nil
theorem Znv (k:α→Int) (x:α):Srt k [x]:=List.pairwise_singleton _ _
theorem ZaZ {k:α→Int} {l m:List α}:Srt k (l++m)↔Srt k l∧Srt k m∧∀x ∈ l,∀y ∈ m,k x≤k y:=List.pairwise_append
theorem ZdX {k:α→Int} {X1 X2 Y1 Y2 Z1 Z2:List α} (hx:Srt k (X1++X2)) (hy:Srt k (Y1++Y2)) (c1:∀x ∈ X1,∀y ∈ Y2,k x≤k y) (c2:∀y ∈ Y1,∀x ∈ X2,k y≤k x)
 (p1:Z1.Perm (X1++Y1)) (p2:Z2.Perm (X2++Y2)) (s1:Srt k Z1) (s2:Srt k Z2):Srt k (Z1++Z2)∧(Z1++Z2).Perm ((X1++X2)++(Y1++Y2)):=by
 obtain⟨_,_,hx3⟩:=ZaZ.1 hx;obtain⟨_,_,hy3⟩:=ZaZ.1 hy;refine⟨ZaZ.2 ⟨s1,s2,fun x h1 y h2=> ?_⟩,?_⟩
 · rcases List.mem_append.1 (p1.mem_iff.1 h1) with h1|h1<;>rcases List.mem_append.1 (p2.mem_iff.1 h2) with h2|h2
   · exact hx3 x h1 y h2
   · exact c1 x h1 y h2
   · exact c2 x h1 y h2
   exact hy3 x h1 y h2
 refine(p1.append p2).trans ?_;rw[List.append_assoc,List.append_assoc];refine List.Perm.append_left X1 ?_;rw[←List.append_assoc,←List.append_assoc];exact List.Perm.append_right Y2 List.perm_append_comm
theorem Zlz {k:α→Int} {l:List α} (h:Srt k l) (i:Nat):Srt k (l.take i):=List.Pairwise.sublist (List.take_sublist i l) h
theorem ZlA {k:α→Int} {l:List α} (h:Srt k l) (i:Nat):Srt k (l.drop i):=List.Pairwise.sublist (List.drop_sublist i l) h
theorem Zhj {k:α→Int} {A B:List α} {x:α} (ha:Srt k A) (hb:Srt k B) (h1:∀y ∈ A,k y≤k x) (h2:∀y ∈ B,k x≤k y):Srt k (A++x::B):=by
 refine ZaZ.2 ⟨ha,List.pairwise_cons.2 ⟨h2,hb⟩,fun a h3 b h4=> ?_⟩;rcases List.mem_cons.1 h4 with rfl|h4
 · exact h1 a h3
 have:=h1 a h3;have:=h2 b h4;omega
def swp (l:List α) (i j:Nat):List α:=match l[i]?,l[j]? with
 |some x,some y=>(l.set i y).set j x
 |_,_=>l
theorem ZcH (l:List α) (i j:Nat):(swp l i j).length=l.length:=by unfold swp;split<;>simp
theorem Zfk (P M S:List α) (x y:α) {a b:Nat} (hp:P.length=a) (hb:a + 1 + M.length=b):swp (P++x::(M++y::S)) a b=P++y::(M++x::S):=by
 subst hp hb;unfold swp;have e1:(P++x::(M++y::S))[P.length]? =some x:=by simp
 have e2:(P++x::(M++y::S))[P.length + 1 + M.length]? =some y:=by
  rw[List.getElem?_append_right (by omega),show P.length + 1 + M.length - P.length=M.length + 1 by omega];simp
 rw[e1,e2];simp only[];rw[List.set_append_right _ _ (by omega),Nat.sub_self,List.set_cons_zero,List.set_append_right _ _ (by omega),show P.length + 1 + M.length - P.length=M.length + 1 by omega,List.set_cons_succ,List.set_append_right _ _ (by omega),Nat.sub_self,List.set_cons_zero]
end Sta
end
end Go.Proofs.YtknoefbcmomalaaGreatDoor
