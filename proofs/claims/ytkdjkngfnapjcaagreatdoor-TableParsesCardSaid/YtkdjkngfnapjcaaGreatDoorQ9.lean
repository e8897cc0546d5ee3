/- CollS, CollM, MarkC, SessC, MarkS, SessS, LeaseS, LeaseP, LeaseXa, WireC, joined. -/
import Derived.RangeFuncNested
import Derived.RangeFuncBound
import Derived.RangeFuncCalls
import Derived.RangeFuncLeaves
import Derived.Shelf.Abstract
import Derived.WalkKit
import Derived.OwnWalkIn
import Derived.TacticsInMore
import Derived.LoopNIn
import Derived.LoopIn
import Derived.Maps.AppendAt
import Derived.Test.YtkdjkngfnapjcaaGreatDoorQ3
import Derived.Test.YtkdjkngfnapjcaaGreatDoorChecked
import Derived.Test.YtkdjkngfnapjcaaGreatDoorShelft
import Derived.Test.YtkdjkngfnapjcaaGreatDoorSortt
import Derived.Deep.QuietTactic
import Derived.BigQuiet
import Derived.Deep.Cut
import Derived.WalkLawsBesides
import Derived.Test.YtkdjkngfnapjcaaGreatDoorQ1
import Derived.Sort.OwnSorted
import Derived.Test.YtkdjkngfnapjcaaGreatDoorQ5
import Derived.Test.YtkdjkngfnapjcaaGreatDoorQ6
import Derived.Test.YtkdjkngfnapjcaaGreatDoorQ8
import Derived.Test.YtkdjkngfnapjcaaGreatDoorQ4
set_option linter.unusedSimpArgs false
set_option linter.unusedVariables false
set_option maxRecDepth 100000
set_option maxHeartbeats 16000000
namespace Go.Proofs.YtkdjkngfnapjcaaGreatDoor
section
namespace Sess
open Go.RowKit Go.Shelf
open Go.Maps (Keyed)
attribute [local go_sem] Oper.semAt_some
def seV (p:Int × ByteArray):Value:=.agg #[.int .u64 p.1,.string p.2]
def seL (p:Int × ByteArray):List Value:=[.int .u64 p.1,.string p.2]
def unS:Value→Int × ByteArray
 |.agg #[.int _ a,.string b]=>(a,b)
 |_=>(0,.empty)
theorem unS_seV (p:Int × ByteArray):unS (seV p)=p:=rfl
theorem perm_of_seV {l m:List (Int × ByteArray)} (h:(l.map seV).Perm (m.map seV)):l.Perm m:=by
 have:=h.map unS
 simpa [List.map_map,Function.comp_def,unS_seV] using this
def seenOf (w:World) (r:Nat):Nat:=match w.heap[r]? with|some (.mapIter _ _ seen _)=>seen.size|_=>0
theorem seenOf_eq {P:Program} {k:TypeId} {w:World} {r b:Nat} {es done:List (Value × Value)} (h:Zam P k w r b es done):seenOf w r=done.length:=by
 obtain⟨_,_,ents,clock,c0,vs,hb,hr,hc,hd,_⟩:=h;unfold seenOf;rw[hr,←hd]
 simp
theorem iter_walk {P:Program} {k:TypeId} {w:World} {r b:Nat} {es done:List (Value × Value)} (h:Zam P k w r b es done):∃o:Obj,w.heap[r]? =some o∧o.isWalk=true:=by
 obtain⟨_,_,ents,clock,c0,vs,hb,hr,_⟩:=h;exact⟨_,hr,rfl⟩
theorem iter_keeps {P:Program} {k:TypeId} {w w':World} {r b:Nat} {es done:List (Value × Value)} (h:Zam P k w r b es done) (hk:KeepsWalks w w'):Zam P k w' r b es done:=by
 have h0:=h;obtain⟨_,_,ents,clock,c0,vs,hb,hr,_⟩:=h0;exact h.same ((hk.same b _ hb rfl).trans hb.symm) ((hk.same r _ hr rfl).trans hr.symm)
theorem grown_of_exc {w w':World} {r:Nat} (h:Exc (fun q=>q=r) w w'):w.grownBy w' (some r):=⟨h.os,h.tape,h.output,h.size,fun k hk hn=>h.block k hk (fun e=>hn (by rw[e]))⟩
theorem grown_of_ext {w w':World} (h:Ext w w'):w.grownBy w' none:=⟨Below.os h,Below.tape h,Below.output h,Below.size h,fun k hk _=>Below.block h k hk⟩
theorem keys1_in (F:Fence) (n:Nat) (h1:F.fn 179) (hro:F.round=none) (hn:1≤n) (l Bm b:Nat) (es:List (Value × Value)) (ks:List (Int × ByteArray)) (hes:es.map (·.1)=ks.map seV) (J Jx:List (Int × ByteArray)→World→Prop)
 (W:World) (hJ:AbidesFrom W.heap.size J)
 (hY:∀pre x W1,J pre W1→pre.length < ks.length→YieldAt F (n - 1) Tryz.prog l #[seV x] W1 fun e W'=>(e=.returned (.bool true)∧J (pre++[x]) W'∧KeepsWalks W1 W')∨(e=.returned (.bool false)∧Jx (pre++[x]) W'))
 (hm:W.cell? ⟨Bm,0,none⟩=some (.map (some b))) (hM:MapAt Tryz.prog 25 W b es) (h0:J [] W):
 CallsIn F n Tryz.prog 179 #[.func (.yield l) #[] #[],.pointer (some ⟨Bm,0,none⟩)] W fun e W'=>(∃v,e=.returned v)∧((∃ys,ys.Perm ks∧J ys W')∨(∃pre,True∧Jx pre W')):=by
 obtain⟨W0,hrun,hext,hI⟩:=Zam.start hM Tryz.underlying212;have hJ0:J [] W0:=hJ _ W W0 none h0 (grown_of_ext hext) (fun r e=>by cases e);refine callsIn_of_wp Tryz.func179 rfl h1 ?_ hro;simp only[Tryz.ntmps179,List.size_toArray,List.length_cons,List.length_nil,Nat.reduceAdd,Nat.reduceSub,Array.replicate_succ,Array.replicate_zero,List.push_toArray,List.append_toArray,List.nil_append,List.cons_append]
 gi_wp2
 clear hrun
 try go_frame
 gi_loopw [3] (fun _ wr=>∃(done:List (Value × Value)) (ds:List (Int × ByteArray)),Zam Tryz.prog 25 wr W.heap.size b es done∧done.map (·.1)=ds.map seV∧J ds wr)
  (fun _ wr=>es.length - seenOf wr W.heap.size)
 case atStart=>exact⟨[],[],hI,rfl,hJ0⟩
 case round=>
  obtain⟨done,ds,hI1,hd,hJs⟩:=hrel
  rcases hI1.next 0 with⟨hp,hrun⟩|⟨p,w',hp,hne,hrun,hI2,hx⟩
  · have hpp:ds.Perm ks:=(perm_of_seV (by rw[←hes,←hd];exact hp.map _)).symm
    clear hes hd
    gi_wp2
    go_end0
    exact⟨⟨_,rfl⟩,.inl ⟨ds,hpp,hJs⟩⟩
  obtain⟨pk,pv⟩:=p
  have hpk:pk ∈ es.map (·.1):=List.mem_map.2 ⟨_,hp,rfl⟩;rw[hes] at hpk;obtain⟨x,_,rfl⟩:=List.mem_map.1 hpk
  have hlen:ds.length < ks.length:=by
   have e1:=congrArg List.length hes;have e2:=congrArg List.length hd;have e3:=hI2.len
   simp at e1 e2 e3
   omega
  have hJ1:J ds w':=hJ ds wr w' (some W.heap.size) hJs (grown_of_exc hx) (fun r e=>by cases e;exact⟨Nat.le_refl _,iter_walk hI1⟩);have hJ2:J ds (w'.alloc (.cells #[.int .u64 x.1,.string x.2] 25)):=hJ _ _ _ none hJ1 (World.grownBy_alloc _ _ none) (fun r e=>by cases e);have hI3:Zam Tryz.prog 25 (w'.alloc (.cells #[.int .u64 x.1,.string x.2] 25)) W.heap.size b es (done++[(seV x,pv)]):=(Part.iter _ _ _ _ _ _).stay _ _ hI2 (fun q hq=>Below.heap_alloc _ _ _ ((Part.iter _ _ _ _ _ _).lt _ hI2 q hq));obtain⟨fn,tmps,assign,body,hy,hR⟩:=hY ds x _ hJ2 hlen;have hen:=hI2.entry;have hs0:=seenOf_eq hI1;have hes':=Hd hes;have hd':=Hd hd;have hs':=Hd hs0;have hle:=hI2.len;clear hes hd hs0 hpk hp hne hx;unfold seV at hrun hen hy
  gi_wp2
  refine hR.mono ?_;rintro e W3 (⟨rfl,hJ3,hk3⟩|⟨rfl,hJx3⟩)
  · gi_wp2
    go_roundw
    case rel=>exact⟨done++[(seV x,pv)],ds++[x],iter_keeps hI3 hk3,by simp[hd'.out],hJ3⟩
    case measure=>
     have e1:=seenOf_eq (iter_keeps hI3 hk3);have e2:=hs'.out;rw[e1,e2]
     simp at hle ⊢
     omega
  gi_wp2
  refine bodyPost_ret (results_none rfl _ _ _) rfl ?_;exact⟨⟨_,rfl⟩,.inr ⟨_,trivial,hJx3⟩⟩
theorem keys_in (F:Fence) (n:Nat) (h1:F.fn 127) (hro:F.round=none) (mb:Option Nat) (w:World):
 CallsIn F n Tryz.prog 127 #[.map mb] w fun e w'=>e=.returned (.func (.func 179) #[] #[.pointer (some ⟨w.heap.size,0,none⟩)])∧w'=w.alloc (.cells #[.map mb] 212):=by
 refine callsIn_of_wp Tryz.func127 rfl h1 ?_ hro;simp only[Tryz.ntmps127,List.size_toArray,List.length_cons,List.length_nil,Nat.reduceAdd,Nat.reduceSub,Array.replicate_succ,Array.replicate_zero,List.push_toArray,List.append_toArray,List.nil_append,List.cons_append]
 gi_wp2
 go_ret;exact⟨rfl,rfl⟩
theorem keys_stops (F:Fence) (n:Nat) (h1:F.fn 179) (hro:F.round=none) (hn:1≤n) (Bm b:Nat) (es:List (Value × Value)) (ks:List (Int × ByteArray)) (hes:es.map (·.1)=ks.map seV) (w:World) (hBm:Bm < w.heap.size)
 (hm:w.cell? ⟨Bm,0,none⟩=some (.map (some b))) (hM:MapAt Tryz.prog 25 w b es):
 SeqStopsK F n Tryz.prog 179 #[.pointer (some ⟨Bm,0,none⟩)] (fun x:Int × ByteArray=> #[seV x]) KeepsWalks (fun ys=>ys.Perm ks) (fun _=>True) ks.length w:=fun l J Jx W hW hJ _ hY h0=>
 keys1_in F n h1 hro hn l Bm b es ks hes J Jx W hJ hY ((hW.cell (p:=⟨Bm,0,none⟩) hBm).trans hm) (hM.same (hW.block b hM.lt)) h0
theorem infoID:(Tryz.prog.info? 25).map (fun i=>(i.zero,i.size,i.bytes))=some (some (.agg #[.int .u64 0,.string .empty]),2,24):=by kernel_rfl
def Box (W:World) (B:Nat) (t:TypeId) (c:Array Value):Prop:=W.heap[B]? =some (.cells c t (0,0))
theorem Box.own {β:Type} (B:Nat) (t:TypeId) (c:Array Value):Own (fun(_:β) W=>Box W B t c):=fun s X Y row hs hg hrow=>
 (hg.block B (ZaE hs) (fun e=>by obtain⟨o,ho,hc⟩:=hrow B e.symm;rw[show X.heap[B]? =_ from hs] at ho;cases ho;cases hc)).trans hs
theorem two_new (W:World) (x y:Value) (t:TypeId):∀(j:Nat) (u:Value),[x,y][j]? =some u→(W.alloc (.cells #[x,y] t)).cell? ((⟨W.heap.size,0,none⟩:Addr).add j)=some u:=by
 intro j u h
 match j,h with
 |0,h=>simp at h;subst h;simp[Addr.add]
 |1,h=>simp at h;subst h;simp[Addr.add]
 |j + 2,h=>simp at h
def MidI (w:World) (pre:List (Int × ByteArray)) (W:World):Prop:=
 (∃v,Boxed W w.heap.size 113 v∧W.ownsRow w.heap.size 25 2 v pre.length (pre.flatMap seL)∧(v=.slice none 0 0↔pre=[]))∧Below w.heap.size w W
theorem midI_own (w:World) (B:Nat) (hB:w.heap.size≤B):OwnFrom B (MidI w):=
 OwnFrom.and (Own.from (holdsRow_own w.heap.size w.heap.size 113 25 2 (fun pre=>pre.length) (fun pre=>pre.flatMap seL) (fun pre v=>v=.slice none 0 0↔pre=[])) _) (ownFrom_below (Nat.le_refl _) hB)
def MidAx (w:World) (sv:Value) (x:Int × ByteArray) (a':Act) (W:World):Prop:=
 ∃Bx,w.heap.size < Bx∧Box W Bx 25 #[.int .u64 x.1,.string x.2]∧a'={tmps:= #[.slice none 0 0,sv,.pointer (some ⟨w.heap.size,0,none⟩),undef,.slice none 0 0,.pointer (some ⟨Bx,0,none⟩),sv,seV x,undef,undef,undef,undef,undef],defers:=[]}
theorem midAx_own (w:World) (sv:Value) (B:Nat) (x:Int × ByteArray) (a':Act):OwnFrom B (fun(_:Unit) W=>MidAx w sv x a' W):=by
 rintro s X Y row ⟨Bx,h1,h2,h3⟩ hg hr;exact⟨Bx,h1,(Box.own (β:=Unit) Bx _ _).from B () X Y row h2 hg hr,h3⟩
theorem appendSeq_in (F:Fence) (n:Nat) (hF:F.fn 178) (hro:F.round=none) (hn:3≤n) (gf:Nat) (lb:Array Value) (hFg:F.fn gf) (eg:∀args w,(callFunc gf args).run Tryz.prog w=.ok (.enter gf args) w)
 (S Sp:List (Int × ByteArray)→Prop) (N:Nat) (hN:N≤100000000) (w:World) (hseq:SeqStopsK F (n - 1) Tryz.prog gf lb (fun x:Int × ByteArray=> #[seV x]) KeepsWalks S Sp N w):
 CallsIn F n Tryz.prog 178 #[.slice none 0 0,.func (.func gf) #[] lb] w fun e w'=>∃(v:Value) (ss:List (Int × ByteArray)),e=.returned v∧S ss∧w'.ownsRow w.heap.size 25 2 v ss.length (ss.flatMap seL)∧(v=.slice none 0 0↔ss=[])∧Below w.heap.size w w':=by
 have h1:1≤n:=by omega
 obtain⟨i0,hi,hz0,hz1,hz2⟩:=info_parts infoID;refine callsIn_of_wp_marks Tryz.func178 rfl hF ?_ hro;simp only[Tryz.ntmps178,List.size_toArray,List.length_cons,List.length_nil,Nat.reduceAdd,Nat.reduceSub,Array.replicate_succ,Array.replicate_zero,List.push_toArray,List.append_toArray,List.nil_append,List.cons_append]
 gi_wp2
 have bO:=Boxed.new w 113 (.slice none 0 0);have hB0:Below w.heap.size w (w.alloc (.cells #[.slice none 0 0] 113)):=(Below.refl _ w).alloc (Nat.le_refl _) _
 refine wpIn_rangeFunc_ownH hro h1 (gf:=gf) (lb:=lb) rfl hFg eg hseq walksK_t walksK_b hB0 (fun _=>rfl)
  (MidI w) (fun _ _ _=>False) (midI_own w _ (by simp)) (fun _ _ _ _ _ hs _ _=>hs)
  ⟨⟨_,bO,World.ownsRow_nil _ _ _ _,by simp⟩,hB0⟩
  (MidAx w (.func (.func gf) #[] lb)) (fun x a'=>midAx_own w _ _ x a') ?assign ?body ?done ?stop
 case assign=>
  rintro l pre x W K ⟨⟨v,hv,hrow,hnil⟩,hB⟩ hK;have hsz:=hB.size;unfold seV
  gi_wp2
  refine hK _ _ ((KeepsOthers.alloc _ _).from _) (KeepsWalks.alloc _ _) ⟨⟨v,hv.alloc _,hrow.alloc _,hnil⟩,hB.alloc hB.size _⟩ ⟨W.heap.size,hv.lt,World.alloc_heap_new W _,rfl⟩
 case body=>
  rintro l pre x a' W hl ⟨r,hr⟩ ⟨⟨v,hv,hrow,hnil⟩,hB⟩ ⟨Bx,hBx,bX,rfl⟩ hlt;have hc:=hv.cell
  have c0:W.cell? ⟨Bx,0,none⟩=some (.int .u64 x.1):=by unfold Box at bX;simp[World.cell?,bX]
  have c1:W.cell? ⟨Bx,1,none⟩=some (.string x.2):=by unfold Box at bX;simp[World.cell?,bX]
  have hsz:=hB.size
  gi_wp2_with (gi_at_builtin;refine wpListIn_append_own _ rfl _ _ 113 rfl w.heap.size 25 i0 (.agg #[.int .u64 0,.string .empty]) 2 24 Tryz.underlying113 hi hz0 hz1 hz2 rfl (by decide) _ _ _ rfl (hrow.alloc _) ⟨W.heap.size,0,none⟩ 1 1 [.int .u64 x.1,.string x.2] rfl rfl (two_new _ _ _ _) (by simp[Value.oneCell']) (by unfold maxLen;omega) (by omega) (by simp;omega) ?_;intro v' w1 hown' hgrow _;obtain⟨g',cap',rfl⟩:=ownsRow_succ hown';obtain⟨hv1,hv2,hr2,hk2,hb2⟩:=hv.appended (by decide) hrow hB.size (Nat.le_refl _) hown' hgrow;have hc1:=hv1.cell;have hf1:=hv1.frozen)
  exact⟨hk2.from _,hk2.walks,⟨_,hv2,by simpa [seL] using hr2,by simp⟩,hB.trans hb2⟩
 case done=>
  rintro D ys W hD hS ⟨⟨v,hv,hrow,hnil⟩,hB⟩ hK;have hc:=hv.cell
  gi_wp2
  refine⟨by simp,.inl ⟨_,_,rfl,run_takeDeferred hK,?_⟩⟩;exact⟨_,results_tmp rfl _ _ _,v,ys,rfl,hS,ownsRow_putObj hrow _ hK rfl,hnil,hB.trans (belowK_b (w:=w) (Nat.le_refl _) W D _ _ (by simp at hD;omega) hK rfl rfl)⟩
 case stop=>
  rintro D c pre W _ _ h _;exact h.elim
end Sess
end
section
namespace Mark
open Go.RowKit Go.Shelf
open Go.Maps (Keyed)
attribute [local go_sem] Oper.semAt_some
def seenOf (w:World) (r:Nat):Nat:=match w.heap[r]? with|some (.mapIter _ _ seen _)=>seen.size|_=>0
theorem seenOf_eq {P:Program} {k:TypeId} {w:World} {r b:Nat} {es done:List (Value × Value)} (h:Zam P k w r b es done):seenOf w r=done.length:=by
 obtain⟨_,_,ents,clock,c0,vs,hb,hr,hc,hd,_⟩:=h;unfold seenOf;rw[hr,←hd]
 simp
theorem iter_walk {P:Program} {k:TypeId} {w:World} {r b:Nat} {es done:List (Value × Value)} (h:Zam P k w r b es done):∃o:Obj,w.heap[r]? =some o∧o.isWalk=true:=by
 obtain⟨_,_,ents,clock,c0,vs,hb,hr,_⟩:=h;exact⟨_,hr,rfl⟩
theorem iter_keeps {P:Program} {k:TypeId} {w w':World} {r b:Nat} {es done:List (Value × Value)} (h:Zam P k w r b es done) (hk:KeepsWalks w w'):Zam P k w' r b es done:=by
 have h0:=h;obtain⟨_,_,ents,clock,c0,vs,hb,hr,_⟩:=h0;exact h.same ((hk.same b _ hb rfl).trans hb.symm) ((hk.same r _ hr rfl).trans hr.symm)
theorem grown_of_exc {w w':World} {r:Nat} (h:Exc (fun q=>q=r) w w'):w.grownBy w' (some r):=⟨h.os,h.tape,h.output,h.size,fun k hk hn=>h.block k hk (fun e=>hn (by rw[e]))⟩
theorem grown_of_ext {w w':World} (h:Ext w w'):w.grownBy w' none:=⟨Below.os h,Below.tape h,Below.output h,Below.size h,fun k hk _=>Below.block h k hk⟩
def Box (W:World) (B:Nat) (t:TypeId) (c:Array Value):Prop:=W.heap[B]? =some (.cells c t (0,0))
theorem Box.own {β:Type} (B:Nat) (t:TypeId) (c:Array Value):Own (fun(_:β) W=>Box W B t c):=fun s X Y row hs hg hrow=>
 (hg.block B (ZaE hs) (fun e=>by obtain⟨o,ho,hc⟩:=hrow B e.symm;rw[show X.heap[B]? =_ from hs] at ho;cases ho;cases hc)).trans hs
theorem two_new (W:World) (x y:Value) (t:TypeId):∀(j:Nat) (u:Value),[x,y][j]? =some u→(W.alloc (.cells #[x,y] t)).cell? ((⟨W.heap.size,0,none⟩:Addr).add j)=some u:=by
 intro j u h
 match j,h with
 |0,h=>simp at h;subst h;simp[Addr.add]
 |1,h=>simp at h;subst h;simp[Addr.add]
 |j + 2,h=>simp at h
end Mark
end
section
namespace Mark
open Go.RowKit
open Go.Sort Go.Shelf
def orI (a b:Int):Int:=if a=0 then b else a
theorem or2 (a b:Int) (g:Nat) (w:World) (h0:w.cell? ⟨g,0,none⟩=some (.int .i64 a)) (h1:w.cell? ⟨g,1,none⟩=some (.int .i64 b)):
 Calls Tryz.prog 67 #[.slice (some ⟨g,0,none⟩) 2 2] w fun e w'=>e=.returned (.int .i64 (orI a b))∧w=w':=by
 by_cases ha:a=0
 · subst ha
   by_cases hb:b=0
   · subst hb
     go_enter Tryz.func67,Tryz.ntmps67
     go_wp2
     refine wp_loop_rounds 3 ?_;rw[rounds_succ]
     go_wp2
     rw[rounds_succ]
     go_wp2
     rw[rounds_succ]
     go_wp2
     go_ret;exact⟨rfl,rfl⟩
   have hb':(b==0)=false:=by simpa using hb
   go_enter Tryz.func67,Tryz.ntmps67
   go_wp2
   refine wp_loop_rounds 2 ?_;rw[rounds_succ]
   go_wp2
   rw[rounds_succ]
   go_wp2
   refine bodyPost_ret (results_tmp rfl _ _ _) rfl ?_;exact⟨rfl,rfl⟩
 have ha':(a==0)=false:=by simpa using ha
 have e:orI a b=a:=by simp[orI,ha]
 rw[e]
 go_enter Tryz.func67,Tryz.ntmps67
 go_wp2
 refine wp_loop_rounds 1 ?_;rw[rounds_succ]
 go_wp2
 refine bodyPost_ret (results_tmp rfl _ _ _) rfl ?_;exact⟨rfl,rfl⟩
def cmpID (x y:Int × Int):Int:=orI (Lib.compareInt x.1 y.1) (Lib.compareInt x.2 y.2)
theorem ZeL (W:World) (A B C:Obj) (n:Nat):(((W.alloc A).alloc B).drewN n).alloc C=grow (W.drewN n) #[A,B,C]:=by
 rw[alloc_eq_grow W,alloc_eq_grow _ B,alloc_eq_grow _ C,grow_grow];show grow (grow (W.drewN n) _) _=_;rw[grow_grow]
 rfl
theorem Zco (X:World) (n:Nat) (h:X.heap.size=n) (cs:Array Value) (t:TypeId) (j:Nat) (v:Value) (hv:cs[j]? =some v):(X.alloc (.cells cs t)).cell? ⟨n,j,none⟩=some v:=by
 subst h;rw[World.cell?,World.alloc_heap_new];exact hv
def ltID (x y:Int × Int):Prop:=x.1 < y.1∨(x.1=y.1∧x.2 < y.2)
instance (x y:Int × Int):Decidable (ltID x y):=by unfold ltID;infer_instance
theorem ZdJ (x y:Int × Int):ltOf cmpID x y=decide (ltID x y):=by
 unfold ltOf cmpID orI Lib.compareInt ltID
 by_cases h1:x.1 < y.1
 · simp[h1]
 by_cases h2:y.1 < x.1
 · have:x.1≠y.1:=by omega
   simp[h1,h2,this]
 have:x.1=y.1:=by omega
 by_cases h3:x.2 < y.2
 · simp[this,h3]
 by_cases h4:y.2 < x.2<;>simp[this,h3,h4]
theorem totID (x y:Int × Int) (h1:ltOf cmpID x y=false) (h2:ltOf cmpID y x=false):x=y:=by
 rw[ZdJ] at *
 simp only[decide_eq_true_eq,decide_eq_false_iff_not] at *
 obtain⟨a,b⟩:=x;obtain⟨c,d⟩:=y
 unfold ltID at *
 simp only[Prod.mk.injEq];simp only at h1 h2
 omega
def Zgp (l:List (Int × Int)):List (Int × Int):=l.mergeSort fun x y=> !ltOf cmpID y x
end Mark
end
section
namespace Sess
open Go.RowKit
open Go.Sort Go.Shelf
open Go.Lib (compareBytes compareInt)
open _root_.Go.Proofs.YtkdjkngfnapjcaaGreatDoor.Mark (orI or2 ZeL Zco)
theorem cb_three:∀(a b:List UInt8),compareBytes a b= -1∨compareBytes a b=0∨compareBytes a b=1
 |[],[]=>by simp[compareBytes]
 |[],_::_=>by simp[compareBytes]
 |_::_,[]=>by simp[compareBytes]
 |a::x,b::y=>by
  have:=cb_three x y;unfold compareBytes
  split
  · simp
  split
  · simp
  exact this
theorem ZhX:∀(a b:List UInt8),compareBytes b a= - compareBytes a b
 |[],[]=>by simp[compareBytes]
 |[],_::_=>by simp[compareBytes]
 |_::_,[]=>by simp[compareBytes]
 |a::x,b::y=>by
  have:=ZhX x y;simp only[compareBytes]
  rcases Nat.lt_trichotomy a.toNat b.toNat with h|h|h
  · have h1:a < b:=UInt8.lt_iff_toNat_lt.2 h
    have h2:¬b < a:=fun q=>by have:=UInt8.lt_iff_toNat_lt.1 q;omega
    simp[h1,h2]
  · have e:a=b:=UInt8.toNat_inj.1 h
    subst e
    have h1:¬a < a:=fun q=>by have:=UInt8.lt_iff_toNat_lt.1 q;omega
    simp[h1,this]
  have h1:b < a:=UInt8.lt_iff_toNat_lt.2 h
  have h2:¬a < b:=fun q=>by have:=UInt8.lt_iff_toNat_lt.1 q;omega
  simp[h1,h2]
theorem ZkW:∀(a b:List UInt8),compareBytes a b=0→a=b
 |[],[],_=>rfl
 |[],_::_,h=>by simp[compareBytes] at h
 |_::_,[],h=>by simp[compareBytes] at h
 |a::x,b::y,h=>by
  simp only[compareBytes] at h
  rcases Nat.lt_trichotomy a.toNat b.toNat with q|q|q
  · have h1:a < b:=UInt8.lt_iff_toNat_lt.2 q
    simp[h1] at h
  · have e:a=b:=UInt8.toNat_inj.1 q
    subst e
    have h1:¬a < a:=fun q=>by have:=UInt8.lt_iff_toNat_lt.1 q;omega
    simp[h1] at h;rw[ZkW x y h]
  have h1:b < a:=UInt8.lt_iff_toNat_lt.2 q
  have h2:¬a < b:=fun q=>by have:=UInt8.lt_iff_toNat_lt.1 q;omega
  simp[h1,h2] at h
theorem cb_trans:∀(a b c:List UInt8),compareBytes a b < 0→compareBytes b c < 0→compareBytes a c < 0
 |[],_,[],h1,h2=>by
  rename_i b
  have:=ZhX [] b
  omega
 |[],_,_::_,_,_=>by simp[compareBytes]
 |_::_,[],_,h1,_=>by simp[compareBytes] at h1
 |_::_,_::_,[],_,h2=>by simp[compareBytes] at h2
 |a::x,b::y,c::z,h1,h2=>by
  have ih:=cb_trans x y z
  simp only[compareBytes] at *
  simp only[UInt8.lt_iff_toNat_lt] at *
  split at h1
  · split at h2
    · rw[if_pos (by omega)];omega
    split at h2
    · simp at h2
    rw[if_pos (by omega)];omega
  split at h1
  · simp at h1
  split at h2
  · rw[if_pos (by omega)];omega
  split at h2
  · simp at h2
  rw[if_neg (by omega),if_neg (by omega)];exact ih h1 h2
theorem Zel (x:Int) (w:World):Calls Tryz.prog 138 #[.int .u64 x] w fun e w'=>e=.returned (.bool false)∧w'=w:=by
 go_enter Tryz.func138,Tryz.ntmps138
 go_wp2
 go_ret;exact⟨by simp,rfl⟩
theorem Zeu (x y:Int) (w:World):Calls Tryz.prog 69 #[.int .u64 x,.int .u64 y] w fun e w'=>e=.returned (.int .i64 (compareInt x y))∧w'=w:=by
 unfold compareInt
 by_cases h1:x < y
 · go_enter Tryz.func69,Tryz.ntmps69
   go_wp2_with (go_at_call 138;refine(Zel _ _).mono ?_;rintro e w' ⟨rfl,rfl⟩)
   refine bodyPost_ret (results_tmp rfl _ _ _) rfl ?_;exact⟨by simp[h1],rfl⟩
 by_cases h2:y < x
 · go_enter Tryz.func69,Tryz.ntmps69
   go_wp2_with (go_at_call 138;refine(Zel _ _).mono ?_;rintro e w' ⟨rfl,rfl⟩)
   refine bodyPost_ret (results_tmp rfl _ _ _) rfl ?_;exact⟨by simp[h1,h2],rfl⟩
 go_enter Tryz.func69,Tryz.ntmps69
 go_wp2_with (go_at_call 138;refine(Zel _ _).mono ?_;rintro e w' ⟨rfl,rfl⟩)
 go_ret;exact⟨by simp[h1,h2],rfl⟩
def cbS (a b:ByteArray):Int:=compareBytes a.data.toList b.data.toList
def cmpS (x y:Int × ByteArray):Int:=orI (compareInt x.1 y.1) (cbS x.2 y.2)
theorem Zbf (x y:Int × ByteArray) (W:World):Calls Tryz.prog 177 #[.agg #[.int .u64 x.1,.string x.2],.agg #[.int .u64 y.1,.string y.2]] W fun e w'=>e=.returned (.int .i64 (cmpS x y))∧∃q os',w'=grow (W.drewN q) os':=by
 unfold cmpS cbS
 go_enter Tryz.func177,Tryz.ntmps177
 go_wp2_with fail
 (refine Zaj 10 (fun w'=>∃n,w'=World.drewN _ n) (by kernel_rfl) (by kernel_rfl) ⟨1,rfl⟩ ?_);(simp only[List.take_succ_cons,List.take_zero,List.drop_succ_cons,List.drop_zero]);(repeat(first|go_big_quiet_step (first|exact(Zeu _ _ _).mono fun _ _ ⟨he,hw⟩=>⟨he,_,hw⟩|exact(Tryz.strings_Compare _ _ _).mono fun _ _ ⟨he,hw⟩=>⟨he,_,hw⟩)|quiet_step (first|exact(Zeu _ _ _).mono fun _ _ ⟨he,hw⟩=>⟨he,_,hw⟩|exact(Tryz.strings_Compare _ _ _).mono fun _ _ ⟨he,hw⟩=>⟨he,_,hw⟩)));(refine wpQuiet_nil ?_);(rintro _ ⟨nq,rfl⟩)
 go_wp2_with fail
 refine(or2 (compareInt x.1 y.1) (compareBytes x.2.data.toList y.2.data.toList) _ _ ?h0 ?h1).mono ?_
 case h0=>exact Zco _ _ (by simp) _ _ _ _ rfl
 case h1=>exact Zco _ _ (by simp) _ _ _ _ rfl
 rintro e _ ⟨rfl,rfl⟩
 go_wp2_with fail
 go_ret;exact⟨rfl,nq,_,ZeL _ _ _ _ _⟩
def ltS (x y:Int × ByteArray):Prop:=x.1 < y.1∨(x.1=y.1∧cbS x.2 y.2 < 0)
instance (x y:Int × ByteArray):Decidable (ltS x y):=by unfold ltS;infer_instance
theorem Zbn (x y:Int × ByteArray):ltOf cmpS x y=decide (ltS x y):=by
 unfold ltOf cmpS orI compareInt ltS
 by_cases h1:x.1 < y.1
 · simp[h1]
 by_cases h2:y.1 < x.1
 · have:x.1≠y.1:=by omega
   simp[h1,h2,this]
 have:x.1=y.1:=by omega
 simp[this]
theorem Zf7 (a b:ByteArray):cbS b a= - cbS a b:=ZhX _ _
theorem ZkX {a b c:ByteArray} (h1:cbS a b < 0) (h2:cbS b c < 0):cbS a c < 0:=cb_trans _ _ _ h1 h2
theorem ZmA {a b:ByteArray} (h:cbS a b=0):a=b:=by
 have:=ZkW _ _ h;obtain⟨⟨x⟩⟩:=a;obtain⟨⟨y⟩⟩:=b
 simp at this
 rw[this]
theorem ZaW {x y z:Int × ByteArray} (h1:ltS x y) (h2:ltS y z):ltS x z:=by
 unfold ltS at *
 rcases h1 with h1|⟨h1,h1'⟩
 · rcases h2 with h2|⟨h2,_⟩<;>left<;>omega
 rcases h2 with h2|⟨h2,h2'⟩
 · left;omega
 exact .inr ⟨by omega,ZkX h1' h2'⟩
theorem Zbb (x:Int × ByteArray):¬ltS x x:=by
 unfold ltS;have:=Zf7 x.2 x.2
 omega
theorem ZfK (x y:Int × ByteArray):ltS x y∨x=y∨ltS y x:=by
 unfold ltS;have h:=Zf7 x.2 y.2
 by_cases h0:cbS x.2 y.2=0
 · have e:=ZmA h0
   rcases Int.lt_trichotomy x.1 y.1 with q|q|q
   · exact .inl (.inl q)
   · exact .inr (.inl (Prod.ext q e))
   exact .inr (.inr (.inl q))
 rcases Int.lt_trichotomy x.1 y.1 with q|q|q
 · exact .inl (.inl q)
 · by_cases hl:cbS x.2 y.2 < 0
   · exact .inl (.inr ⟨q,hl⟩)
   exact .inr (.inr (.inr ⟨q.symm,by omega⟩))
 exact .inr (.inr (.inl q))
theorem swoS:SWO (ltOf cmpS) where
 irrefl x:=by rw[Zbn];exact decide_eq_false (Zbb x)
 trans x y z h1 h2:=by rw[Zbn] at *;exact decide_eq_true (ZaW (of_decide_eq_true h1) (of_decide_eq_true h2))
 ntrans x y z h1 h2:=by
  rw[Zbn] at *
  refine decide_eq_false fun h=> ?_
  have n1:=of_decide_eq_false h1;have n2:=of_decide_eq_false h2
  rcases ZfK x y with q|q|q
  · exact n1 q
  · subst q;exact n2 h
  exact n2 (ZaW q h)
theorem totS (x y:Int × ByteArray) (h1:ltOf cmpS x y=false) (h2:ltOf cmpS y x=false):x=y:=by
 rw[Zbn] at *
 rcases ZfK x y with q|q|q
 · exact absurd q (of_decide_eq_false h1)
 · exact q
 exact absurd q (of_decide_eq_false h2)
def sortS (l:List (Int × ByteArray)):List (Int × ByteArray):=l.mergeSort fun x y=> !ltOf cmpS y x
theorem Zn0 (blk off size:Nat) (w:World):CmpLays Tryz.prog 177 #[] seL 2 cmpS blk off size w:=fun _ _ _ _ x y=>Zbf x y _
end Sess
end
section
namespace Mark
open Go.RowKit Go.Shelf Go.Sort
open Go.Maps (Keyed)
section
variable {α:Type} [Inhabited α]
theorem Ze0 (enc:α→List Value) (k:Nat) (hk:∀x,(enc x).length=k) (l:List α):(flatK enc k l.toArray).toList=l.flatMap enc:=by
 apply List.ext_getElem?
 intro t
 by_cases ht:t < l.length * k
 · have hk0:0 < k:=by
    rcases Nat.eq_zero_or_pos k with h|h
    · subst h;omega
    exact h
   have hq:t / k < l.length:=Nat.div_lt_of_lt_mul (by rw[Nat.mul_comm];exact ht);have e:=Zb1 enc k hk l (t / k) l[t / k] (List.getElem?_eq_getElem hq) (t % k) (Nat.mod_lt _ hk0);rw[Nat.mul_comm,Nat.div_add_mod] at e;rw[e,Array.getElem?_toList]
   have hm:t % k < (enc l[t / k]).length:=by rw[hk];exact Nat.mod_lt _ hk0
   simp[flatK,ht,hq,hm]
 rw[List.getElem?_eq_none (by simp;omega),List.getElem?_eq_none (by rw[Zbi enc k hk];omega)]
theorem ZgM {w:World} {g n:Nat} {os:Array Obj} {cur:Array Value} {e:TypeId} {fr:Nat × Nat} (F:Array Value) (hb:w.heap[g]? =some (.cells cur e fr)):
 (grow (putRow id (Sort.ahead w n) g 0 F) os).heap[g]? =some (.cells (putCells id 0 F cur) e fr):=by
 have hg:g < w.heap.size:=(Array.getElem?_eq_some_iff.1 hb).1;rw[heap_grow_old _ _ (by simpa using hg)];simp[putRow,mapBlock,Sort.ahead,Array.getElem?_modify,hb,onCells]
theorem ZaS {w:World} {g n:Nat} {os:Array Obj} (F:Array Value):w.grownBy (grow (putRow id (Sort.ahead w n) g 0 F) os) (some g):=by
 refine⟨rfl,rfl,rfl,by simp,fun k hk hne=> ?_⟩;rw[heap_grow_old _ _ (by simpa using hk)]
 have:g≠k:=fun e=>hne (by rw[e])
 simp[putRow,mapBlock,Sort.ahead,Array.getElem?_modify,this]
theorem ZjQ (cur F:Array Value) (h:F.size≤cur.size):(putCells id 0 F cur).toList.take F.size=F.toList:=by
 apply List.ext_getElem?
 intro j
 by_cases hj:j < F.size
 · rw[List.getElem?_take_of_lt hj,Array.getElem?_toList]
   simp[putCells,hj,show j < cur.size by omega]
 rw[List.getElem?_take_eq_none (by omega),List.getElem?_eq_none (by simp;omega)]
theorem ZbR (enc:α→List Value) (k:Nat) (hk:∀x,(enc x).length=k) {w:World} {base g cap n:Nat} {e:TypeId} {os:Array Obj} {cur:Array Value} {ss ts:List α} (hl:ts.length=ss.length) (hbase:base≤g) (hb:w.heap[g]? =some (.cells cur e (0,0)))
 (h1:ss.length≤cap) (h2:cap≤maxLen) (h3:cur.size=cap * k):
 (sortWorldK enc k w g 0 n ts.toArray os).ownsRow base e k (.slice (some ⟨g,0,none⟩) ss.length cap) ss.length (ts.flatMap enc):=by
 have hsz:(flatK enc k ts.toArray).size=ss.length * k:=by simp[hl]
 refine⟨by rw[Zbi enc k hk,hl],.inr ⟨g,cap,_,rfl,hbase,ZgM (flatK enc k ts.toArray) hb,h1,h2,by simp[putCells,h3],?_⟩⟩;have:=ZjQ cur (flatK enc k ts.toArray) (by rw[hsz,h3];exact Nat.mul_le_mul_right _ h1);rw[hsz,Ze0 enc k hk] at this;exact this
theorem Zci (enc:α→List Value) (k:Nat) (hk:∀x,(enc x).length=k) {w:World} {g:Nat} {cur:Array Value} {e:TypeId} {ss:List α} (hb:w.heap[g]? =some (.cells cur e (0,0))) (ht:cur.toList.take (ss.length * k)=ss.flatMap enc):HoldsK enc k w g 0 ss.toArray:=by
 intro j hj
 have hj':j < ss.length * k:=by simpa using hj
 refine⟨?_,by simp[World.frozen?,hb]⟩
 have h1:(cur.toList.take (ss.length * k))[j]? =(flatK enc k ss.toArray).toList[j]? :=by rw[ht,Ze0 enc k hk]
 rw[List.getElem?_take_of_lt hj',Array.getElem?_toList,Array.getElem?_toList,Array.getElem?_eq_getElem hj] at h1;simp only[World.cell?,hb,Nat.zero_add];simp only[Option.isSome_none,Bool.false_eq_true,if_false];rw[h1,getElem!_pos _ j hj]
 rfl
end
theorem sort_len (l:List (Int × Int)):(Zgp l).length=l.length:=List.length_mergeSort l
theorem sort_perm {l m:List (Int × Int)} (h:l.Perm m):Zgp l=Zgp m:=by
 have hp:(Zgp l).Perm (Zgp m):=(List.mergeSort_perm l _).trans (h.trans (List.mergeSort_perm m _).symm)
 have tr:∀a b c:Int × Int,(!ltOf cmpID b a)=true→(!ltOf cmpID c b)=true→(!ltOf cmpID c a)=true:=by
  intro a b c h1 h2
  rw[ZdJ] at *
  simp only[Bool.not_eq_true',decide_eq_false_iff_not] at *
  unfold ltID at *
  omega
 have tot:∀a b:Int × Int,((!ltOf cmpID b a) || !ltOf cmpID a b)=true:=by
  intro a b;rw[ZdJ,ZdJ];simp only[Bool.or_eq_true,Bool.not_eq_true',decide_eq_false_iff_not];unfold ltID
  omega
 refine List.Perm.eq_of_pairwise (le:=fun a b=>(!ltOf cmpID b a)=true) ?_ (List.pairwise_mergeSort tr tot l) (List.pairwise_mergeSort tr tot m) hp;intro a b _ _ h1 h2;exact totID a b (by simpa using h2) (by simpa using h1)
end Mark
end
section
namespace Sess
open _root_.Go.Proofs.YtkdjkngfnapjcaaGreatDoor.Mark (Zci ZbR ZaS)
open Go.RowKit Go.Shelf Go.Sort
open Go.Maps (Keyed)
theorem collect_in (F:Fence) (n:Nat) (hF:F.fn 126) (hF2:F.fn 178) (hro:F.round=none) (hn:4≤n) (gf:Nat) (lb:Array Value) (hFg:F.fn gf) (eg:∀args w,(callFunc gf args).run Tryz.prog w=.ok (.enter gf args) w)
 (S Sp:List (Int × ByteArray)→Prop) (N:Nat) (hN:N≤100000000) (w:World) (hseq:SeqStopsK F (n - 1 - 1) Tryz.prog gf lb (fun x:Int × ByteArray=> #[seV x]) KeepsWalks S Sp N w):
 CallsIn F n Tryz.prog 126 #[.func (.func gf) #[] lb] w fun e w'=>∃(v:Value) (ss:List (Int × ByteArray)),e=.returned v∧S ss∧w'.ownsRow w.heap.size 25 2 v ss.length (ss.flatMap seL)∧(v=.slice none 0 0↔ss=[])∧Below w.heap.size w w':=by
 have h1:1≤n:=by omega
 refine callsIn_of_wp Tryz.func126 rfl hF ?_ hro;simp only[Tryz.ntmps126,List.size_toArray,List.length_cons,List.length_nil,Nat.reduceAdd,Nat.reduceSub,Array.replicate_succ,Array.replicate_zero,List.push_toArray,List.append_toArray,List.nil_append,List.cons_append]
 gi_wp2_with (gi_at_call 178;refine(appendSeq_in F (n - 1) hF2 hro (by omega) gf lb hFg eg S Sp N hN _ hseq).mono ?_;rintro e W ⟨v,ss,rfl,hS,hrow,hnil,hb⟩)
 go_ret;exact⟨v,ss,rfl,hS,hrow,hnil,hb⟩
theorem seL_len (x:Int × ByteArray):(seL x).length=2:=rfl
theorem Znj (x:Int × ByteArray):∀v ∈ seL x,v.oneCell'=true:=by
 intro u hu;simp only[seL,List.mem_cons,List.not_mem_nil,or_false] at hu
 rcases hu with rfl|rfl<;>rfl
theorem collect_keys (Bm b:Nat) (es:List (Value × Value)) (ks:List (Int × ByteArray)) (hes:es.map (·.1)=ks.map seV) (w:World) (hBm:Bm < w.heap.size) (hm:w.cell? ⟨Bm,0,none⟩=some (.map (some b))) (hM:MapAt Tryz.prog 25 w b es) (hN:ks.length≤100000000):
 Calls Tryz.prog 126 #[.func (.func 179) #[] #[.pointer (some ⟨Bm,0,none⟩)]] w fun e w'=>∃(v:Value) (ss:List (Int × ByteArray)),e=.returned v∧ss.Perm ks∧w'.ownsRow w.heap.size 25 2 v ss.length (ss.flatMap seL)∧(v=.slice none 0 0↔ss=[])∧Below w.heap.size w w':=
 callsIn_wide.1 (collect_in Fence.wide 5 trivial trivial rfl (by omega) _ _ trivial (enters_of Tryz.func179 (by kernel_rfl) rfl) _ _ ks.length hN w
  (keys_stops Fence.wide _ trivial rfl (by omega) Bm b es ks hes w hBm hm hM))
theorem sort_len (l:List (Int × ByteArray)):(sortS l).length=l.length:=List.length_mergeSort l
theorem ZjZ (a b c:Int × ByteArray) (h1:(!ltOf cmpS b a)=true) (h2:(!ltOf cmpS c b)=true):(!ltOf cmpS c a)=true:=by
 rw[Zbn] at *
 simp only[Bool.not_eq_true',decide_eq_false_iff_not] at *
 intro h
 rcases ZfK b a with q|q|q
 · exact h1 q
 · subst q;exact h2 h
 exact h2 (ZaW h q)
theorem Zj0 (a b:Int × ByteArray):((!ltOf cmpS b a) || !ltOf cmpS a b)=true:=by
 rw[Zbn,Zbn];simp only[Bool.or_eq_true,Bool.not_eq_true',decide_eq_false_iff_not]
 by_cases h:ltS b a
 · right
   intro h';exact Zbb _ (ZaW h h')
 exact .inl h
theorem sort_perm {l m:List (Int × ByteArray)} (h:l.Perm m):sortS l=sortS m:=by
 have hp:(sortS l).Perm (sortS m):=(List.mergeSort_perm l _).trans (h.trans (List.mergeSort_perm m _).symm);refine List.Perm.eq_of_pairwise (le:=fun a b=>(!ltOf cmpS b a)=true) ?_ (List.pairwise_mergeSort ZjZ Zj0 l) (List.pairwise_mergeSort ZjZ Zj0 m) hp;intro a b _ _ h1 h2;exact totS a b (by simpa using h2) (by simpa using h1)
theorem sorted_any {w:World} {base:Nat} {v:Value} {ss:List (Int × ByteArray)} (hrow:w.ownsRow base 25 2 v ss.length (ss.flatMap seL)) (hmax:ss.length≤100000000):
 Calls Tryz.prog 125 #[v] w fun e w'=>e=.returned v∧w'.ownsRow base 25 2 v (sortS ss).length ((sortS ss).flatMap seL)∧w.grownBy w' v.ownBlock:=by
 rcases hrow.2 with⟨rfl,hz⟩|⟨gb,cap,cur,rfl,hbase,hgb,r1,r2,r3,r4⟩
 · have hss:ss=[]:=List.eq_nil_of_length_eq_zero hz
   subst hss
   have hS:Calls Tryz.prog 176 #[.slice none 0 0,.func (.func 177) #[] #[]] w fun e w'=>e=.returned (.tuple #[])∧w'=w:=AnyF.slices_SortFunc_none Tryz.sort176 none 0 _ w
   go_enter Tryz.func125,Tryz.ntmps125
   go_wp2_with fail
   refine hS.mono ?_;rintro e _ ⟨rfl,rfl⟩
   go_wp2_with fail
   go_ret;exact⟨rfl,by simpa [sortS] using hrow,⟨rfl,rfl,rfl,Nat.le_refl _,fun _ _ _=>rfl⟩⟩
 have hH:HoldsK seL 2 w gb 0 ss.toArray:=Zci seL 2 seL_len hgb r4;have hgl:gb < w.heap.size:=(Array.getElem?_eq_some_iff.1 hgb).1
 have hsz:ss.toArray.size < 4611686018427387904:=by simp;omega
 have hS:Calls Tryz.prog 176 #[.slice (some ⟨gb,0,none⟩) ss.length cap,.func (.func 177) #[] #[]] w fun e w'=>e=.returned (.tuple #[])∧∃n os,w'=sortWorldK seL 2 w gb 0 n (sortS ss).toArray os:=
  AnyQ.slices_SortFunc_total Tryz.sort176 2 Tryz.isAgg25 Tryz.sizeOf25 seL seL_len Znj cmpS swoS 177 #[] gb 0 cap ss.toArray w (enters_of Tryz.func177 (by kernel_rfl) rfl) (Zn0 _ _ _ _) hH hgl hsz totS
 go_enter Tryz.func125,Tryz.ntmps125
 go_wp2_with fail
 refine hS.mono ?_;rintro e _ ⟨rfl,nn,os,rfl⟩
 go_wp2_with fail
 go_ret;refine⟨rfl,?_,ZaS _⟩;rw[sort_len];exact ZbR seL 2 seL_len (sort_len ss) hbase hgb r1 r2 r3
end Sess
end
section
namespace Lease
open Go.RowKit
open Go.Maps (Keyed)
open _root_.Go.Proofs.YtkdjkngfnapjcaaGreatDoor.Sess (seV seL sortS seL_len)
abbrev rowSe (v:Value) (l:List (Int × ByteArray)):Part:=.row 25 2 v l.length (l.flatMap seL)
def Zek (ss:List Ses):List (Int × ByteArray):=ss.map (fun s=>(s.num,s.foot))
theorem ZkK (ss:List Ses):(ents ss).map (·.1)=(Zek ss).map seV:=by simp[ents,ent,Zek,seV,Ses.key,keyV]
def Zhg (w:World) (p m:Nat) (ss:List Ses) (e:Ending) (w':World):Prop:=∃v,e=.returned v∧At [BookP p m ss] w [rowSe v (sortS (Zek ss)),BookP p m ss] w'
theorem Zgs {w:World} {p m:Nat} {ss:List Ses} (h:Sep [BookP p m ss] w) (hmax:ss.length≤1000000):
 Calls Tryz.prog 48 #[.pointer (some ⟨p,0,none⟩)] w (Zhg w p m ss):=by
 have hA:=begin0 h;obtain⟨hA,hF⟩:=fY hA;clear h
 go_enter Tryz.func48,Tryz.ntmps48
 go_wp2_with fail
 refine(callsIn_wide.1 (Sess.keys_in Fence.wide 1 trivial rfl (some m) w)).mono ?_;rintro e _ ⟨rfl,rfl⟩;have hB:=hA.alloc [.map (some m)] 212
 go_wp2_with fail
 refine(Sess.collect_keys w.heap.size m (ents ss) (Zek ss) (ZkK ss) _ (by simp) ((Zaa.alloc w [.map (some m)] 212).cell 0) (hB.get (A:=mapC m (ents ss)) sR) (by simp[Zek];omega)).mono ?_;rintro e w1 ⟨v,ls,rfl,hp,hrow,_,hb⟩;have hC:=hB.row_new hb hrow;have hso:=Hd (Sess.sort_perm hp);have hll:=hp.length_eq
 have hlk:ls.length≤100000000:=by rw[hll];simp[Zek];omega
 clear hF hA hB
 go_wp2_with fail
 refine(Sess.sorted_any (hC.get (A:=Part.row 25 2 v ls.length (ls.flatMap seL)) sR) hlk).mono ?_;rintro e w2 ⟨rfl,hrow2,hgr⟩;have hD:=hC.turn (A:=Part.row 25 2 v ls.length (ls.flatMap seL)) sR (Part.row 25 2 v (sortS ls).length ((sortS ls).flatMap seL)) hrow2 (fun b hb=>.inl hb) (Zbk hgr);rw[hso.out] at hD
 go_wp2_with fail
 go_ret;exact⟨v,rfl,(fold0 (m:=m) (ss:=ss) hD sR sR sR).only2 sZ sR⟩
end Lease
end
section
namespace Lease
open Go.RowKit
open Go.Lib (compareBytes)
open _root_.Go.Proofs.YtkdjkngfnapjcaaGreatDoor.Sess (ltS sortS cbS)
section
variable {α:Type} {lt:α→α→Prop} {p:α→Bool} {a:α} {l:List α}
theorem Zf3 (tr:∀x y z,lt x y→lt y z→lt x z) (hp:∀x,p x=true↔lt x a):∀{l:List α},l.Pairwise lt→∀z ∈ l.dropWhile p,¬lt z a
 |[],_,z,hz=>by simp at hz
 |y::l,hs,z,hz=>by
  by_cases hy:p y=true
  · rw[List.dropWhile_cons_of_pos hy] at hz
    exact Zf3 tr hp (List.pairwise_cons.1 hs).2 z hz
  rw[List.dropWhile_cons_of_neg hy] at hz
  rcases List.mem_cons.1 hz with rfl|hz
  · exact fun h=>hy ((hp _).2 h)
  exact fun h=>hy ((hp _).2 (tr _ _ _ ((List.pairwise_cons.1 hs).1 z hz) h))
theorem ZjT (hp:∀x,p x=true↔lt x a):∀x ∈ l.takeWhile p,lt x a:=fun x hx=>(hp x).1 (by
 induction l with
 |nil=>simp at hx
 |cons y l ih=>
  rw[List.takeWhile_cons] at hx
  split at hx
  · rename_i hy
    rcases List.mem_cons.1 hx with rfl|hx
    · exact hy
    exact ih hx
  simp at hx)
theorem ZeZ (tr:∀x y z,lt x y→lt y z→lt x z) (hp:∀x,p x=true↔lt x a) (hs:l.Pairwise lt) {r:List α} (hr:r.Sublist (l.dropWhile p)) (hr2:∀x ∈ r,lt a x):(l.takeWhile p++a::r).Pairwise lt:=by
 refine List.pairwise_append.2 ⟨hs.sublist (List.takeWhile_sublist p),List.pairwise_cons.2 ⟨hr2,(hs.sublist (List.dropWhile_sublist p)).sublist hr⟩,fun x hx y hy=> ?_⟩;have h1:=ZjT hp x hx
 rcases List.mem_cons.1 hy with rfl|hy
 · exact h1
 exact tr _ _ _ h1 (hr2 y hy)
end
def arP (a:AR):Int × Ans:=(a.r,⟨a.e,a.n,a.g⟩)
def okA (a:AR):Prop:=(-9223372036854775808≤a.e∧a.e≤9223372036854775807)∧0≤a.n∧a.n < big64
structure RelT (told:List (Int × Ans)) (l:List AR):Prop where
 perm:told.Perm (l.map arP)
 srt:l.Pairwise (fun a b=>a.r < b.r)
 bd:∀x ∈ l,0≤x.r∧x.r < big64
 len:l.length≤256
 an:∀x ∈ l,okA x
theorem RelT.nil:RelT [] []:=⟨by simp,List.Pairwise.nil,nofun,by simp,nofun⟩
theorem RelT.size {told:List (Int × Ans)} {l:List AR} (h:RelT told l):told.length=l.length:=by simpa using h.perm.length_eq
theorem RelT.uniq {told:List (Int × Ans)} {l:List AR} (h:RelT told l) {x y:AR} (hx:x ∈ l) (hy:y ∈ l) (e:x.r=y.r):x=y:=by
 obtain⟨i,hi⟩:=List.mem_iff_getElem?.1 hx;obtain⟨j,hj⟩:=List.mem_iff_getElem?.1 hy
 by_cases hij:i=j
 · subst hij;rw[hi] at hj;exact Option.some.inj hj
 exfalso
 obtain⟨hi1,hi2⟩:=List.getElem?_eq_some_iff.1 hi;obtain⟨hj1,hj2⟩:=List.getElem?_eq_some_iff.1 hj;have hp:=List.pairwise_iff_getElem.1 h.srt
 rcases Nat.lt_or_gt_of_ne hij with q|q
 · have:=hp i j hi1 hj1 q;rw[hi2,hj2] at this;omega
 have:=hp j i hj1 hi1 q;rw[hi2,hj2] at this;omega
theorem RelT.said {told:List (Int × Ans)} {l:List AR} (h:RelT told l) (r:Int):Lease.said told r=(saidA l r).map (fun a=>(arP a).2):=by
 cases hs:saidA l r with
 |none=>
  unfold saidA at hs;have hn:=List.find?_eq_none.1 hs;unfold Lease.said;rw[List.find?_eq_none.2 (fun q hq hr=> ?_)]
  · rfl
  obtain⟨a,ha,rfl⟩:=List.mem_map.1 (h.perm.mem_iff.1 hq)
  exact hn a ha (by simpa [arP] using of_decide_eq_true hr)
 |some a=>
  unfold saidA at hs;have h1:=List.find?_some hs;have h2:=List.mem_of_find?_eq_some hs
  have h1':a.r=r:=by simpa using h1
  have h3:(r,(arP a).2) ∈ told:=h.perm.mem_iff.2 (List.mem_map.2 ⟨a,h2,by simp[arP,h1']⟩);unfold Lease.said
  cases hq:told.find? (fun q=>decide (q.1=r)) with
  |none=>
   exfalso
   have h4:=List.find?_eq_none.1 hq _ h3
   simp at h4
  |some q=>
   have q1:=List.find?_some hq;obtain⟨b,hb,rfl⟩:=List.mem_map.1 (h.perm.mem_iff.1 (List.mem_of_find?_eq_some hq));have hb2:b.r=r:=of_decide_eq_true q1;rw[h.uniq hb h2 (hb2.trans h1'.symm)]
   rfl
theorem ZcW (l:List AR) (a:AR):(insA l a).Perm (a::l):=by
 unfold insA;refine List.perm_middle.trans (List.Perm.cons _ ?_);rw[List.takeWhile_append_dropWhile]
theorem RelT.tell {told:List (Int × Ans)} {l:List AR} (h:RelT told l) {a:AR} (hn:saidA l a.r=none) (hl:l.length < 256) (hb:0≤a.r∧a.r < big64) (ha:okA a):RelT (told++[arP a]) (insA l a):=by
 have hno:∀x ∈ l,x.r≠a.r:=fun x hx e=>by
  unfold saidA at hn;exact List.find?_eq_none.1 hn x hx (by simpa using e)
 have hp:∀x,Zi4 a x=true↔x.r < a.r:=fun x=>by simp[Zi4]
 refine⟨?_,?_,fun x hx=> ?_,?_,fun x hx=> ?_⟩
 · have e:((insA l a).map arP).Perm (arP a::l.map arP):=(ZcW l a).map arP
   exact(List.perm_append_comm.trans (by simpa using h.perm.cons (arP a))).trans e.symm
 · refine ZeZ (lt:=fun x y:AR=>x.r < y.r) (fun _ _ _ h1 h2=>Int.lt_trans h1 h2) hp h.srt (List.Sublist.refl _) fun x hx=> ?_
   have h1:=Zf3 (lt:=fun x y:AR=>x.r < y.r) (fun _ _ _ h1 h2=>Int.lt_trans h1 h2) hp h.srt x hx;have h2:=hno x ((List.dropWhile_sublist _).subset hx)
   omega
 · rcases List.mem_cons.1 ((ZcW l a).mem_iff.1 hx) with rfl|hx
   · exact hb
   exact h.bd x hx
 · have:=(ZcW l a).length_eq
   simp at this
   omega
 rcases List.mem_cons.1 ((ZcW l a).mem_iff.1 hx) with rfl|hx
 · exact ha
 exact h.an x hx
structure RelS (s:Ses) (a:SR):Prop where
 num:s.num=a.num
 foot:s.foot=a.foot
 op:s.op=a.op
 dead:s.dead=a.dead
 dl:s.dl=a.dl
 ttl:s.ttl=a.ttl
 told:RelT s.told a.told
 tb:0≤a.ttl∧a.ttl≤2199023255552
 db:0≤a.dl∧a.dl≤2199023255552
def keyR (a:SR):Int × ByteArray:=(a.num,a.foot)
def keyE (s:Ses):Int × ByteArray:=(s.num,s.foot)
def ltR (a b:SR):Prop:=ltS (keyR a) (keyR b)
theorem less_cb:∀(x y:List UInt8),Op.bytesLess x y=decide (compareBytes x y < 0)
 |[],[]=>by simp[Op.bytesLess,compareBytes]
 |[],_::_=>by simp[Op.bytesLess,compareBytes]
 |_::_,[]=>by simp[Op.bytesLess,compareBytes]
 |a::x,b::y=>by
  rw[Op.bytesLess,less_cb x y];simp only[compareBytes]
  rcases Nat.lt_trichotomy a.toNat b.toNat with h|h|h
  · have h1:a < b:=UInt8.lt_iff_toNat_lt.2 h
    simp[h1]
  · have e:a=b:=UInt8.toNat_inj.1 h
    subst e
    have h1:¬a < a:=fun q=>by have:=UInt8.lt_iff_toNat_lt.1 q;omega
    simp[h1]
  have h1:b < a:=UInt8.lt_iff_toNat_lt.2 h
  have h2:¬a < b:=fun q=>by have:=UInt8.lt_iff_toNat_lt.1 q;omega
  have h3:a≠b:=fun e=>by subst e;omega
  simp[h1,h2,h3]
theorem Zla (s x:SR):Zb6 s x=true↔ltR x s:=by
 unfold Zb6 ltR ltS keyR cbS;rw[Lib.toList_data,Lib.toList_data,less_cb]
 simp
theorem ZgI {n:Int} {f:ByteArray} {a:SR}:SR.is n f a=true↔keyR a=(n,f):=by
 unfold SR.is keyR;rw[Lib.toList_data,Lib.toList_data];simp only[Bool.and_eq_true,beq_iff_eq,Prod.mk.injEq]
 constructor
 · rintro⟨h1,h2⟩;exact⟨h1,Go.WideShapes.bytes_inj h2⟩
 rintro⟨h1,h2⟩;exact⟨h1,by rw[h2]⟩
theorem ZgD:∀x y z:SR,ltR x y→ltR y z→ltR x z:=fun _ _ _ h1 h2=>Sess.ZaW h1 h2
theorem Zks {x y:SR} (h:ltR x y):keyR x≠keyR y:=fun e=>by unfold ltR at h;rw[e] at h;exact Sess.Zbb _ h
structure Rel (ss:List Ses) (L:List SR):Prop where
 keys:(ss.map keyE).Perm (L.map keyR)
 srt:L.Pairwise ltR
 each:∀s ∈ ss,∀a ∈ L,keyE s=keyR a→RelS s a
theorem Rel.nil:Rel [] []:=⟨by simp,List.Pairwise.nil,nofun⟩
theorem Rel.len {ss:List Ses} {L:List SR} (h:Rel ss L):ss.length=L.length:=by simpa using h.keys.length_eq
theorem Zdd {L:List SR} (h:L.Pairwise ltR):(L.map keyR).Nodup:=List.pairwise_map.2 (h.imp Zks)
theorem Rel.nodupL {ss:List Ses} {L:List SR} (h:Rel ss L):(L.map keyR).Nodup:=Zdd h.srt
theorem Rel.nodupS {ss:List Ses} {L:List SR} (h:Rel ss L):(ss.map keyE).Nodup:=h.keys.nodup_iff.2 h.nodupL
theorem Zkw {α β:Type} {f:α→β} {l:List α} (h:(l.map f).Nodup) {x y:α} (hx:x ∈ l) (hy:y ∈ l) (e:f x=f y):x=y:=by
 obtain⟨i,hi⟩:=List.mem_iff_getElem?.1 hx;obtain⟨j,hj⟩:=List.mem_iff_getElem?.1 hy
 by_cases hij:i=j
 · subst hij;rw[hi] at hj;exact Option.some.inj hj
 exfalso
 obtain⟨hi1,hi2⟩:=List.getElem?_eq_some_iff.1 hi;obtain⟨hj1,hj2⟩:=List.getElem?_eq_some_iff.1 hj;have hp:=List.pairwise_iff_getElem.1 (List.pairwise_map.1 h)
 rcases Nat.lt_or_gt_of_ne hij with q|q
 · exact hp i j hi1 hj1 q (by rw[hi2,hj2,e])
 exact hp j i hj1 hi1 q (by rw[hi2,hj2,e])
theorem is_key {s:Ses} {n:Int} {f:ByteArray}:s.is n f=true↔keyE s=(n,f):=by simp[Ses.is,keyE]
theorem RelS.none (n:Int) (f:ByteArray) (b t:Nat):RelS (fresh n f b t) (noSR n f):=⟨rfl,rfl,rfl,rfl,rfl,rfl,RelT.nil,by simp[noSR],by simp[noSR]⟩
theorem Rel.both {ss:List Ses} {L:List SR} (h:Rel ss L) (n:Int) (f:ByteArray):
 (find ss n f=none∧(∀a ∈ L,SR.is n f a=false)∧findR L n f=noSR n f)∨(∃s a,find ss n f=some s∧a ∈ L∧keyR a=(n,f)∧findR L n f=a∧RelS s a):=by
 cases hf:find ss n f with
 |none=>
  refine .inl ⟨rfl,?_⟩
  have hno:∀a ∈ L,SR.is n f a=false:=fun a ha=>by
   cases hq:SR.is n f a
   · rfl
   exfalso
   have hk:=ZgI.1 hq;have:(n,f) ∈ ss.map keyE:=h.keys.mem_iff.2 (hk ▸ List.mem_map.2 ⟨a,ha,rfl⟩);obtain⟨s,hs,hs2⟩:=List.mem_map.1 this;exact List.find?_eq_none.1 hf s hs (is_key.2 hs2)
  exact⟨hno,Zjy hno⟩
 |some s=>
  right
  have h1:=List.find?_some hf;have h2:=List.mem_of_find?_eq_some hf;have hk:=is_key.1 h1;have:(n,f) ∈ L.map keyR:=h.keys.mem_iff.1 (hk ▸ List.mem_map.2 ⟨s,h2,rfl⟩);obtain⟨a,ha,hak⟩:=List.mem_map.1 this;refine⟨s,a,rfl,ha,hak,?_,h.each s h2 a ha (hk.trans hak.symm)⟩;unfold findR
  cases hq:L.find? (SR.is n f) with
  |none=>exact absurd (ZgI.2 hak) (by simpa using List.find?_eq_none.1 hq a ha)
  |some b=>
   have hb:=ZgI.1 (List.find?_some hq);exact Zkw h.nodupL (List.mem_of_find?_eq_some hq) ha (hb.trans hak.symm)
theorem Rel.look {ss:List Ses} {L:List SR} (h:Rel ss L) (n:Int) (f:ByteArray):RelS (Lease.look ss n f) (findR L n f):=by
 unfold Lease.look
 rcases h.both n f with⟨h1,_,h3⟩|⟨s,a,h1,_,_,h4,h5⟩
 · rw[h1,h3];exact RelS.none _ _ _ _
 rw[h1,h4];exact h5
theorem Rel.map_perm {ss:List Ses} {L:List SR} (h:Rel ss L) {β:Type} (φ:Ses→β) (ψ:SR→β) (e:∀s a,RelS s a→φ s=ψ a):(ss.map fun s=>(keyE s,φ s)).Perm (L.map fun a=>(keyR a,ψ a)):=by
 have n1:(ss.map fun s=>(keyE s,φ s)).Nodup:=List.pairwise_map.2 ((List.pairwise_map.1 h.nodupS).imp fun q e=>q (congrArg Prod.fst e));have n2:(L.map fun a=>(keyR a,ψ a)).Nodup:=List.pairwise_map.2 ((List.pairwise_map.1 h.nodupL).imp fun q e=>q (congrArg Prod.fst e))
 refine(List.perm_ext_iff_of_nodup n1 n2).2 fun x=> ?_
 constructor
 · intro hx
   obtain⟨s,hs,rfl⟩:=List.mem_map.1 hx;obtain⟨a,ha,hk⟩:=List.mem_map.1 (h.keys.mem_iff.1 (List.mem_map.2 ⟨s,hs,rfl⟩));exact List.mem_map.2 ⟨a,ha,by rw[hk,e s a (h.each s hs a ha hk.symm)]⟩
 intro hx
 obtain⟨a,ha,rfl⟩:=List.mem_map.1 hx;obtain⟨s,hs,hk⟩:=List.mem_map.1 (h.keys.mem_iff.2 (List.mem_map.2 ⟨a,ha,rfl⟩));exact List.mem_map.2 ⟨s,hs,by rw[hk,e s a (h.each s hs a ha hk)]⟩
theorem Rel.cnt {ss:List Ses} {L:List SR} (h:Rel ss L) (f:ByteArray):Lease.cnt ss f=cntR L f:=by
 have hp:=(h.map_perm (fun s=>s.op) (fun a=>a.op) (fun s a r=>r.op)).filter (fun x:(Int × ByteArray) × Bool=>(x.1.2.toList==f.toList)&&x.2);have hl:=hp.length_eq;rw[List.filter_map,List.filter_map,List.length_map,List.length_map] at hl;exact hl
theorem Zje {L:List SR} (h:L.Pairwise ltR):sortS (L.map keyR)=L.map keyR:=by
 unfold sortS;refine List.mergeSort_of_pairwise ?_;rw[List.pairwise_map]
 refine h.imp fun {x y} hxy=> ?_
 rw[Sess.Zbn];simp only[Bool.not_eq_true',decide_eq_false_iff_not]
 exact fun hyx=>Sess.Zbb _ (Sess.ZaW hxy hyx)
theorem Rel.sessions {ss:List Ses} {L:List SR} (h:Rel ss L):sortS (Zek ss)=L.map keyR:=(Sess.sort_perm h.keys).trans (Zje h.srt)
theorem Zgy (s y:SR) (r:List SR):Zda s (y::r)=if SR.is s.num s.foot y=true then r else y::r:=rfl
theorem ZnC {L:List SR} (hs:L.Pairwise ltR) (a:SR):(putR L a).Pairwise ltR∧∀x,x ∈ putR L a↔x=a∨(x ∈ L∧keyR x≠keyR a):=by
 have hp:∀x,Zb6 a x=true↔ltR x a:=Zla a
 have hd:=Zf3 (lt:=ltR) ZgD hp hs;have hds:(L.dropWhile (Zb6 a)).Pairwise ltR:=hs.sublist (List.dropWhile_sublist _)
 have key:(Zda a (L.dropWhile (Zb6 a))).Sublist (L.dropWhile (Zb6 a))∧∀x,x ∈ Zda a (L.dropWhile (Zb6 a))↔x ∈ L.dropWhile (Zb6 a)∧keyR x≠keyR a:=by
  generalize L.dropWhile (Zb6 a)=r at hd hds
  cases r with
  |nil=>exact⟨by simp[Zda],fun x=>by simp[Zda]⟩
  |cons y r=>
   have hy:=List.pairwise_cons.1 hds;rw[Zgy]
   rcases Bool.eq_false_or_eq_true (SR.is a.num a.foot y) with hq|hq
   rotate_left
   · rw[if_neg (by rw[hq];simp)]
     refine⟨List.Sublist.refl _,fun x=>⟨fun hx=>⟨hx,fun e=> ?_⟩,fun hx=>hx.1⟩⟩
     have hyk:keyR y≠keyR a:=fun e2=>by
      have:SR.is a.num a.foot y=true:=ZgI.2 e2;rw[hq] at this;cases this
     rcases List.mem_cons.1 hx with rfl|hx
     · exact hyk e
     have h1:ltR y x:=hy.1 x hx
     have h2:¬ltR y a:=hd y (by simp)
     apply h2
     unfold ltR at h1 ⊢;rw[←e];exact h1
   rw[if_pos hq];have hyk:keyR y=keyR a:=ZgI.1 hq;refine⟨List.sublist_cons_self _ _,fun x=>⟨fun hx=>⟨by simp[hx],fun e=> ?_⟩,fun hx=> ?_⟩⟩
   · exact Zks (hy.1 x hx) (hyk.trans e.symm)
   rcases List.mem_cons.1 hx.1 with rfl|h
   · exact absurd hyk hx.2
   exact h
 refine⟨ZeZ ZgD hp hs key.1 fun x hx=> ?_,fun x=> ?_⟩
 · have h1:=(key.2 x).1 hx
   have h2:=hd x h1.1;unfold ltR at h2 ⊢
   rcases Sess.ZfK (keyR a) (keyR x) with q|q|q
   · exact q
   · exact absurd q.symm h1.2
   exact absurd q h2
 unfold putR;rw[List.mem_append,List.mem_cons,key.2]
 constructor
 · rintro(h|h|h)
   · exact .inr ⟨(List.takeWhile_sublist _).subset h,fun e=>Zks (ZjT hp x h) e⟩
   · exact .inl h
   exact .inr ⟨(List.dropWhile_sublist _).subset h.1,h.2⟩
 rintro(h|⟨h1,h2⟩)
 · exact .inr (.inl h)
 rw[←List.takeWhile_append_dropWhile (p:=Zb6 a) (l:=L)] at h1
 rcases List.mem_append.1 h1 with h|h
 · exact .inl h
 exact .inr (.inr ⟨h,h2⟩)
theorem Rel.put {ss ss':List Ses} {L:List SR} {s':Ses} {a':SR} (h:Rel ss L) (hr:RelS s' a') (hn:(ss'.map keyE).Nodup) (hm:∀x,x ∈ ss'↔x=s'∨(x ∈ ss∧keyE x≠keyE s')):Rel ss' (putR L a'):=by
 obtain⟨hsrt,hmem⟩:=ZnC h.srt a'
 have hk:keyE s'=keyR a':=by unfold keyE keyR;rw[hr.num,hr.foot]
 refine⟨(List.perm_ext_iff_of_nodup hn (Zdd hsrt)).2 fun q=> ?_,hsrt,fun s hs a ha e=> ?_⟩
 · constructor
   · intro hq
     obtain⟨x,hx,rfl⟩:=List.mem_map.1 hq
     rcases(hm x).1 hx with rfl|⟨hx1,hx2⟩
     · exact List.mem_map.2 ⟨a',(hmem a').2 (.inl rfl),hk.symm⟩
     obtain⟨a,ha,hak⟩:=List.mem_map.1 (h.keys.mem_iff.1 (List.mem_map.2 ⟨x,hx1,rfl⟩))
     exact List.mem_map.2 ⟨a,(hmem a).2 (.inr ⟨ha,by rw[hak,←hk];exact hx2⟩),hak⟩
   intro hq
   obtain⟨a,ha,rfl⟩:=List.mem_map.1 hq
   rcases(hmem a).1 ha with rfl|⟨ha1,ha2⟩
   · exact List.mem_map.2 ⟨s',(hm s').2 (.inl rfl),hk⟩
   obtain⟨x,hx,hxk⟩:=List.mem_map.1 (h.keys.mem_iff.2 (List.mem_map.2 ⟨a,ha1,rfl⟩))
   exact List.mem_map.2 ⟨x,(hm x).2 (.inr ⟨hx,by rw[hxk,hk];exact ha2⟩),hxk⟩
 rcases(hm s).1 hs with rfl|⟨hs1,hs2⟩
 · rcases(hmem a).1 ha with rfl|⟨_,ha2⟩
   · exact hr
   exact absurd (e.symm.trans hk) ha2
 rcases(hmem a).1 ha with rfl|⟨ha1,_⟩
 · exact absurd (e.trans hk.symm) hs2
 exact h.each s hs1 a ha1 e
theorem Rel.put_old {l1 l2:List Ses} {s s':Ses} {L:List SR} {a':SR} (h:Rel (l1++s::l2) L) (hk:keyE s'=keyE s) (hr:RelS s' a'):Rel (l1++s'::l2) (putR L a'):=by
 have hn:=h.nodupS
 have e:(l1++s'::l2).map keyE=(l1++s::l2).map keyE:=by simp[hk]
 refine h.put hr (by rw[e];exact hn) fun x=> ?_
 have hp:=List.pairwise_append.1 (List.pairwise_map.1 hn);have hc:=List.pairwise_cons.1 hp.2.1;rw[hk]
 constructor
 · intro hx
   rcases List.mem_append.1 hx with hx|hx
   · exact .inr ⟨by simp[hx],hp.2.2 x hx s (by simp)⟩
   rcases List.mem_cons.1 hx with rfl|hx
   · exact .inl rfl
   exact .inr ⟨by simp[hx],fun e=>hc.1 x hx e.symm⟩
 rintro(rfl|⟨hx,hx2⟩)
 · simp
 rcases List.mem_append.1 hx with hx|hx
 · simp[hx]
 rcases List.mem_cons.1 hx with rfl|hx
 · exact absurd rfl hx2
 simp[hx]
theorem Rel.put_new {ss:List Ses} {s':Ses} {L:List SR} {a':SR} (h:Rel ss L) (hf:find ss s'.num s'.foot=none) (hr:RelS s' a'):Rel (ss++[s']) (putR L a'):=by
 have hno:∀x ∈ ss,keyE x≠keyE s':=fun x hx e=>List.find?_eq_none.1 hf x hx (is_key.2 e)
 refine h.put hr ?_ fun x=> ?_
 · rw[List.map_append]
   refine List.pairwise_append.2 ⟨h.nodupS,by simp,fun p hp q hq=> ?_⟩;obtain⟨x,hx,rfl⟩:=List.mem_map.1 hp
   have:q=keyE s':=by simpa using hq
   rw[this];exact hno x hx
 constructor
 · intro hx
   rcases List.mem_append.1 hx with hx|hx
   · exact .inr ⟨hx,hno x hx⟩
   exact .inl (by simpa using hx)
 rintro(rfl|⟨hx,_⟩)<;>simp[*]
end Lease
end
section
namespace Lease
open Go.RowKit
open _root_.Go.Proofs.YtkdjkngfnapjcaaGreatDoor.SortU (rowI sortI sortI_perm)
theorem Rel.mine {ss:List Ses} {L:List SR} (h:Rel ss L) {x:SR} (hx:x ∈ L):RelS (Lease.look ss x.num x.foot) x:=by
 rcases h.both x.num x.foot with⟨_,h2,_⟩|⟨s,a,h1,_⟩
 · have:=h2 x hx
   simp[SR.is] at this
 obtain⟨l1,l2,e,en,ef,_⟩:=find_split h1
 have e2:Lease.look ss x.num x.foot=s:=by unfold Lease.look;rw[h1];rfl
 rw[e2];exact h.each s (by rw[e];simp) x hx (by simp[keyE,keyR,en,ef])
theorem ZkA {w:World} {p m:Nat} {ss:List Ses} (h:Sep [BookP p m ss] w) {n:Int} {f:ByteArray} (h0:0≤n) (h1:n < big64) (hf:f.size≤maxLen) {s:SR} (hrs:RelS (look ss n f) s):
 Calls Tryz.prog 49 #[.pointer (some ⟨p,0,none⟩),.agg #[.int .u64 n,.string f]] w fun e w'=>e=.returned (.agg #[.bool s.op,.bool s.dead,.int .i64 s.dl,.int .i64 s.ttl,.int .i64 s.told.length])∧At [BookP p m ss] w [BookP p m ss] w':=by
 cases hn:find ss n f with
 |none=>
  have hlk:look ss n f=fresh n f 0 0:=by unfold look;rw[hn];rfl
  rw[hlk] at hrs;have e:=ZgK h h0 h1 hf hn;simp only[Zds] at e;rw[←hrs.op,←hrs.dead,←hrs.dl,←hrs.ttl,←hrs.told.size];exact e
 |some t=>
  have hlk:look ss n f=t:=by unfold look;rw[hn];rfl
  rw[hlk] at hrs;have e:=ZgJ h h0 h1 hf hn;simp only[Zds] at e;rw[←hrs.op,←hrs.dead,←hrs.dl,←hrs.ttl,←hrs.told.size];exact e
theorem RelT.reqs {told:List (Int × Ans)} {l:List AR} (h:RelT told l):sortI (told.map (·.1))=l.map (·.r):=by
 have h1:(told.map (·.1)).Perm (l.map (·.r)):=by
  have:=h.perm.map (·.1);rw[List.map_map] at this;exact this
 rw[sortI_perm h1];unfold sortI;refine List.mergeSort_of_pairwise ?_;rw[List.pairwise_map]
 exact h.srt.imp fun h=>by simp;omega
theorem Zfx {w:World} {p m:Nat} {ss:List Ses} (h:Sep [BookP p m ss] w) {n:Int} {f:ByteArray} (h0:0≤n) (h1:n < big64) (hf:f.size≤maxLen) {s:SR} (hrs:RelS (look ss n f) s):
 Calls Tryz.prog 182 #[.pointer (some ⟨p,0,none⟩),.agg #[.int .u64 n,.string f]] w fun e w'=>∃v,e=.returned v∧At [BookP p m ss] w [rowI v (s.told.map (·.r)),BookP p m ss] w':=by
 have hl:=hrs.told.size;have hb:=hrs.told.len;have e:=Zgv h h0 h1 hf (by omega);unfold Zle at e;rw[show Lease.reqs (look ss n f)=(look ss n f).told.map (·.1) from rfl,hrs.told.reqs] at e;exact e
theorem ZjN {w:World} {p m:Nat} {ss:List Ses} (h:Sep [BookP p m ss] w) {n:Int} {f:ByteArray} (h0:0≤n) (h1:n < big64) (hf:f.size≤maxLen) {s:SR} (hrs:RelS (look ss n f) s) {x:AR} (hx:x ∈ s.told):
 Calls Tryz.prog 115 #[.pointer (some ⟨p,0,none⟩),.agg #[.int .u64 n,.string f],.int .u64 x.r] w fun e w'=>e=.returned (.tuple #[.agg #[.int .i64 x.e,.int .u64 x.n,.bool x.g],.bool true])∧At [BookP p m ss] w [BookP p m ss] w':=by
 have e:=Zid h (n:=n) (f:=f) h0 h1 hf (hrs.told.bd x hx).1 (hrs.told.bd x hx).2;rw[hrs.told.said,show saidA s.told x.r=some x from ?_] at e
 · exact e
 unfold saidA
 cases hq:s.told.find? (fun y=>y.r==x.r) with
 |none=>exact absurd (List.find?_eq_none.1 hq x hx) (by simp)
 |some y=>
  have h2:=List.find?_some hq;rw[hrs.told.uniq (List.mem_of_find?_eq_some hq) hx (by simpa using h2)]
end Lease
end
section
namespace Wire
open Go.RowKit
theorem ZcX (l:List Int):flatY l=l.map (Value.int .u8):=by
 induction l with
 |nil=>rfl
 |cons x l ih=>show encY x++flatY l=_;rw[ih];rfl
theorem ZbE (l:List Int) (i:Nat) (hi:i < l.length):(flatY l)[i]? =some (.int .u8 l[i]):=by
 rw[ZcX,List.getElem?_map,List.getElem?_eq_getElem hi];rfl
theorem ZkU {L0 L F:List Part} {w0 w:World} {v:Value} {l:List Int} (hA:At L0 w0 L w) (s:Sel (rowY v l) L F) (hl:l.length≤140000000000000):
 Calls Tryz.prog 83 #[v] w fun e w'=>∃v',e=.returned v'∧At L0 w0 (rowY v' l::L) w':=by
 obtain⟨ax,cap,rfl,hax,hcap,_⟩:=hA.row_form (v:=v) (n:=l.length) (xs:=flatY l) s;have hr:=hA.row_reads (v:=.slice ax l.length cap) (n:=l.length) (xs:=flatY l) s
 cases ax with
 |none=>
  have h0:l=[]:=List.eq_nil_of_length_eq_zero (hax rfl);subst h0
  refine(Tryz.bytes_Clone_nil _ cap w).mono fun e w' h=> ?_
  obtain⟨he,hw⟩:=h;subst he;subst hw;exact⟨_,rfl,ZdB hA⟩
 |some a=>
  refine(Tryz.bytes_Clone_at a l.length cap l w rfl (by omega) ?_).mono fun e w' h=> ?_
  · intro i hi
    obtain⟨ax',c',hv',_,hc⟩:=hr;cases hv';obtain⟨b,off,h,hx⟩:=hc i _ (ZbE l i hi);cases h;rw[List.getD_eq_getElem?_getD,List.getElem?_eq_getElem hi]
    by_cases q:i=0
    · subst q;simpa [Addr.add] using hx
    simpa [Addr.add,q] using hx
  obtain⟨v',rfl,hown,_,hb⟩:=h
  refine⟨v',rfl,?_⟩;have:=hA.row_new (e:=5) (size:=1) (n:=l.length) (xs:=flatY l) (v:=v') hb (by rw[ZcX];exact hown);exact this
theorem ZlX {w:World} {b:Nat} {u:Value} {l:List Int} (h:Sep [outC b u,rowY u l] w) (hl:l.length≤140000000000000):
 Calls Tryz.prog 23 #[.pointer (some ⟨b,0,none⟩)] w fun e w'=>∃v,e=.returned v∧At [outC b u,rowY u l] w [rowY v l,outC b u,rowY u l] w':=by
 have hA:=At.start h;have hF:=hA.facts;clear h;obtain⟨ax,cap,rfl,hax,hcap,_⟩:=hA.row_form (v:=u) (n:=l.length) (xs:=flatY l) sR;obtain⟨hA,hF⟩:=fZ hA
 go_enter Tryz.func23,Tryz.ntmps23
 go_wp2_with fail
 refine(ZkU (v:=.slice ax l.length cap) (l:=l) hA sR hl).mono ?_;rintro e w1 ⟨v,rfl,hB⟩
 go_wp2_with fail
 go_ret;exact⟨v,rfl,hB⟩
def SmRel (w:World) (u v:Value) (a c:List Int) (k:Nat) (x:Value) (wr:World):Prop:=
 ∃i:Nat,x=.int .i64 i∧i + k=a.length∧a.take i=c.take i∧At [rowY u a,rowY v c] w [rowY u a,rowY v c] wr
theorem Zfu {w:World} {u v:Value} {a c:List Int} (h:Sep [rowY u a,rowY v c] w) (hl:a.length≤140000000000000):
 Calls Tryz.prog 53 #[u,v] w fun e w'=>e=.returned (.bool (decide (a=c)))∧At [rowY u a,rowY v c] w [rowY u a,rowY v c] w':=by
 have hA:=At.start h;have hF:=hA.facts;clear h;obtain⟨ax,acap,rfl,hax,hacap,_⟩:=hA.row_form (v:=u) (n:=a.length) (xs:=flatY a) sR;obtain⟨cx,ccap,rfl,hcx,hccap,_⟩:=hA.row_form (v:=v) (n:=c.length) (xs:=flatY c) sR;obtain⟨hA,hF⟩:=fZ hA
 go_enter Tryz.func53,Tryz.ntmps53
 by_cases hn:a.length=c.length
 · have hn':((a.length:Int) != (c.length:Int))=false:=by simp[hn]
   go_wp2_with fail
   try go_frame
   clear hn'
   go_loopg [5] a.length (SmRel w (.slice ax a.length acap) (.slice cx c.length ccap) a c)
   case atStart=>exact⟨0,rfl,by simp,by simp,hA⟩
   case round=>
    obtain⟨i,rfl,hik,htk,hB⟩:=hrel;have htk':=Hd htk;clear hF hA htk;have hA:=hB;clear hB;have hnx:=Hd hn
    by_cases hi:i < a.length
    · have hic:i < c.length:=by omega
      have hy:=ZbE a i hi;have hz:=ZbE c i hic;obtain⟨ga,ca,rfl,ap1,am,al,atk,hB⟩:=hA.row_open (ax:=ax) (cap:=acap) (n:=a.length) (xs:=flatY a) sR (by omega)
      replace hA:=hB
      clear hB;obtain⟨gc,cc,rfl,cp1,cm,cl,ct,hB⟩:=hA.row_open (ax:=cx) (cap:=ccap) (n:=c.length) (xs:=flatY c) sR (by omega)
      replace hA:=hB
      clear hB
      have f1:ca[i]? =some (.int .u8 a[i]):=by
       rw[←hy,←atk,List.getElem?_take_of_lt (by omega)]
      have f2:cc[i]? =some (.int .u8 c[i]):=by
       rw[←hz,←ct,List.getElem?_take_of_lt (by omega)]
      have hstep:=Hd (show a[i]=c[i]→a.take (i + 1)=c.take (i + 1) from fun q=>by
       rw[List.take_succ_eq_append_getElem hi,List.take_succ_eq_append_getElem hic,htk'.out,q])
      have hne:=Hd (show a[i]≠c[i]→a≠c from fun q e=>q (by subst e;rfl))
      obtain⟨y,hyy⟩:∃y,a[i]=y:=⟨_,rfl⟩
      obtain⟨z,hzz⟩:∃z,c[i]=z:=⟨_,rfl⟩
      rw[hyy] at f1 hstep hne;rw[hzz] at f2 hstep hne;clear hy hz hyy hzz hn;obtain⟨hA,hF⟩:=fZ hA
      by_cases hq:y=z
      · subst hq
        have hs2:=Hd (hstep.out rfl);clear hstep hne
        go_wp2_with fail
        try go_frame
        refine cl2 hA ?_;clear hF hA;intro w1 hA hF;(try simp only[uZ] at hA hF)
        go_wp2_with fail
        go_roundg (gk - 1)
        case measure=>omega
        case rel=>
         have hS1:=hA.row_shut (e:=5) (size:=1) (n:=a.length) (cap:=acap) (xs:=flatY a) (g:=ga) (c:=ca) sR al ap1 am atk;have hS2:=hS1.row_shut (e:=5) (size:=1) (n:=c.length) (cap:=ccap) (xs:=flatY c) (g:=gc) (c:=cc) sR cl cp1 cm ct;exact⟨i + 1,by simp,by omega,hs2.out,hS2.pick pZ⟩
      have hq':(y != z)=true:=by simp[hq]
      have hf:decide (a=c)=false:=decide_eq_false (hne.out hq);clear hstep hne
      go_wp2_with fail
      try go_frame
      refine cl2 hA ?_;clear hF hA;intro w1 hA hF;(try simp only[uZ] at hA hF)
      go_wp2_with fail
      go_ret;have hS1:=hA.row_shut (e:=5) (size:=1) (n:=a.length) (cap:=acap) (xs:=flatY a) (g:=ga) (c:=ca) sR al ap1 am atk;have hS2:=hS1.row_shut (e:=5) (size:=1) (n:=c.length) (cap:=ccap) (xs:=flatY c) (g:=gc) (c:=cc) sR cl cp1 cm ct;exact⟨by rw[hf];rfl,hS2.pick pZ⟩
    have hac:a=c:=by
     have:=htk'.out
     rwa [List.take_of_length_le (by omega),List.take_of_length_le (by omega)] at this
    have hf:decide (a=c)=true:=decide_eq_true hac;have hf':=Hd hf;clear hf hac hn;obtain⟨hA,hF⟩:=fZ hA
    go_wp2_with fail
    go_ret;exact⟨by rw[hf'.out];rfl,hA⟩
 have hn':((a.length:Int) != (c.length:Int))=true:=by simp;omega
 have hf:decide (a=c)=false:=decide_eq_false (fun e=>hn (by rw[e]))
 go_wp2_with fail
 go_ret;exact⟨by rw[hf];rfl,hA⟩
end Wire
end
end Go.Proofs.YtkdjkngfnapjcaaGreatDoor
