/- CollU, SortU8, LeaseQ, LeaseR, LeaseR2, LeaseR3, joined. -/
import Derived.RangeFuncNested
import Derived.RangeFuncBound
import Derived.RangeFuncCalls
import Derived.RangeFuncLeaves
import Derived.Shelf.Abstract
import Derived.WalkKit
import Derived.OwnWalkIn
import Derived.TacticsInMore
import Derived.LoopNIn
import Derived.LoopIn
import Derived.Maps.AppendAt
import Derived.Test.YtkdjkngfnapjcaaGreatDoorP2
import Derived.Test.YtkdjkngfnapjcaaGreatDoorChecked
import Derived.Test.YtkdjkngfnapjcaaGreatDoorP11
import Derived.Test.YtkdjkngfnapjcaaGreatDoorP9
import Derived.Deep.Cut
import Derived.BigQuiet
set_option linter.unusedSimpArgs false
set_option linter.unusedVariables false
set_option maxRecDepth 100000
set_option maxHeartbeats 16000000
namespace Go.Proofs.YtkdjkngfnapjcaaGreatDoor
section
namespace Unt
open Go.RowKit Go.Shelf
open Go.Maps (Keyed)
attribute [local go_sem] Oper.semAt_some
def seV (p:Int):Value:=.int .u64 p
def seL (p:Int):List Value:=[.int .u64 p]
def unS:Value→Int
 |.int _ a=>a
 |_=>0
theorem unS_seV (p:Int):unS (seV p)=p:=rfl
theorem perm_of_seV {l m:List (Int)} (h:(l.map seV).Perm (m.map seV)):l.Perm m:=by
 have:=h.map unS
 simpa [List.map_map,Function.comp_def,unS_seV] using this
def seenOf (w:World) (r:Nat):Nat:=match w.heap[r]? with|some (.mapIter _ _ seen _)=>seen.size|_=>0
theorem seenOf_eq {P:Program} {k:TypeId} {w:World} {r b:Nat} {es done:List (Value × Value)} (h:Zas P k w r b es done):seenOf w r=done.length:=by
 obtain⟨_,_,ents,clock,c0,vs,hb,hr,hc,hd,_⟩:=h;unfold seenOf;rw[hr,←hd]
 simp
theorem iter_walk {P:Program} {k:TypeId} {w:World} {r b:Nat} {es done:List (Value × Value)} (h:Zas P k w r b es done):∃o:Obj,w.heap[r]? =some o∧o.isWalk=true:=by
 obtain⟨_,_,ents,clock,c0,vs,hb,hr,_⟩:=h;exact⟨_,hr,rfl⟩
theorem iter_keeps {P:Program} {k:TypeId} {w w':World} {r b:Nat} {es done:List (Value × Value)} (h:Zas P k w r b es done) (hk:KeepsWalks w w'):Zas P k w' r b es done:=by
 have h0:=h;obtain⟨_,_,ents,clock,c0,vs,hb,hr,_⟩:=h0;exact h.same ((hk.same b _ hb rfl).trans hb.symm) ((hk.same r _ hr rfl).trans hr.symm)
theorem grown_of_exc {w w':World} {r:Nat} (h:Exc (fun q=>q=r) w w'):w.grownBy w' (some r):=⟨h.os,h.tape,h.output,h.size,fun k hk hn=>h.block k hk (fun e=>hn (by rw[e]))⟩
theorem grown_of_ext {w w':World} (h:Ext w w'):w.grownBy w' none:=⟨Below.os h,Below.tape h,Below.output h,Below.size h,fun k hk _=>Below.block h k hk⟩
theorem keys1_in (F:Fence) (n:Nat) (h1:F.fn 278) (hro:F.round=none) (hn:1≤n) (l Bm b:Nat) (es:List (Value × Value)) (ks:List (Int)) (hes:es.map (·.1)=ks.map seV) (J Jx:List (Int)→World→Prop)
 (W:World) (hJ:AbidesFrom W.heap.size J)
 (hY:∀pre x W1,J pre W1→pre.length < ks.length→YieldAt F (n - 1) Tryz.prog l #[seV x] W1 fun e W'=>(e=.returned (.bool true)∧J (pre++[x]) W'∧KeepsWalks W1 W')∨(e=.returned (.bool false)∧Jx (pre++[x]) W'))
 (hm:W.cell? ⟨Bm,0,none⟩=some (.map (some b))) (hM:MapAt Tryz.prog 23 W b es) (h0:J [] W):
 CallsIn F n Tryz.prog 278 #[.func (.yield l) #[] #[],.pointer (some ⟨Bm,0,none⟩)] W fun e W'=>(∃v,e=.returned v)∧((∃ys,ys.Perm ks∧J ys W')∨(∃pre,True∧Jx pre W')):=by
 obtain⟨W0,hrun,hext,hI⟩:=Zas.start hM Tryz.underlying217;have hJ0:J [] W0:=hJ _ W W0 none h0 (grown_of_ext hext) (fun r e=>by cases e);refine callsIn_of_wp Tryz.func278 rfl h1 ?_ hro;simp only[Tryz.ntmps278,List.size_toArray,List.length_cons,List.length_nil,Nat.reduceAdd,Nat.reduceSub,Array.replicate_succ,Array.replicate_zero,List.push_toArray,List.append_toArray,List.nil_append,List.cons_append]
 gi_wp2
 clear hrun
 try go_frame
 gi_loopw [3] (fun _ wr=>∃(done:List (Value × Value)) (ds:List (Int)),Zas Tryz.prog 23 wr W.heap.size b es done∧done.map (·.1)=ds.map seV∧J ds wr)
  (fun _ wr=>es.length - seenOf wr W.heap.size)
 case atStart=>exact⟨[],[],hI,rfl,hJ0⟩
 case round=>
  obtain⟨done,ds,hI1,hd,hJs⟩:=hrel
  rcases hI1.next 0 with⟨hp,hrun⟩|⟨p,w',hp,hne,hrun,hI2,hx⟩
  · have hpp:ds.Perm ks:=(perm_of_seV (by rw[←hes,←hd];exact hp.map _)).symm
    clear hes hd
    gi_wp2
    go_end0
    exact⟨⟨_,rfl⟩,.inl ⟨ds,hpp,hJs⟩⟩
  obtain⟨pk,pv⟩:=p
  have hpk:pk ∈ es.map (·.1):=List.mem_map.2 ⟨_,hp,rfl⟩;rw[hes] at hpk;obtain⟨x,_,rfl⟩:=List.mem_map.1 hpk
  have hlen:ds.length < ks.length:=by
   have e1:=congrArg List.length hes;have e2:=congrArg List.length hd;have e3:=hI2.len
   simp at e1 e2 e3
   omega
  have hJ1:J ds w':=hJ ds wr w' (some W.heap.size) hJs (grown_of_exc hx) (fun r e=>by cases e;exact⟨Nat.le_refl _,iter_walk hI1⟩);have hI3:=hI2;obtain⟨fn,tmps,assign,body,hy,hR⟩:=hY ds x _ hJ1 hlen;have hen:=hI2.entry;have hs0:=seenOf_eq hI1;have hes':=Hd hes;have hd':=Hd hd;have hs':=Hd hs0;have hle:=hI2.len;clear hes hd hs0 hpk hp hne hx;unfold seV at hrun hen hy
  gi_wp2
  refine hR.mono ?_;rintro e W3 (⟨rfl,hJ3,hk3⟩|⟨rfl,hJx3⟩)
  · gi_wp2
    go_roundw
    case rel=>exact⟨done++[(seV x,pv)],ds++[x],iter_keeps hI3 hk3,by simp[hd'.out],hJ3⟩
    case measure=>
     have e1:=seenOf_eq (iter_keeps hI3 hk3);have e2:=hs'.out;rw[e1,e2]
     simp at hle ⊢
     omega
  gi_wp2
  refine bodyPost_ret (results_none rfl _ _ _) rfl ?_;exact⟨⟨_,rfl⟩,.inr ⟨_,trivial,hJx3⟩⟩
theorem keys_in (F:Fence) (n:Nat) (h1:F.fn 236) (hro:F.round=none) (mb:Option Nat) (w:World):
 CallsIn F n Tryz.prog 236 #[.map mb] w fun e w'=>e=.returned (.func (.func 278) #[] #[.pointer (some ⟨w.heap.size,0,none⟩)])∧w'=w.alloc (.cells #[.map mb] 217):=by
 refine callsIn_of_wp Tryz.func236 rfl h1 ?_ hro;simp only[Tryz.ntmps236,List.size_toArray,List.length_cons,List.length_nil,Nat.reduceAdd,Nat.reduceSub,Array.replicate_succ,Array.replicate_zero,List.push_toArray,List.append_toArray,List.nil_append,List.cons_append]
 gi_wp2
 go_ret;exact⟨rfl,rfl⟩
theorem keys_stops (F:Fence) (n:Nat) (h1:F.fn 278) (hro:F.round=none) (hn:1≤n) (Bm b:Nat) (es:List (Value × Value)) (ks:List (Int)) (hes:es.map (·.1)=ks.map seV) (w:World) (hBm:Bm < w.heap.size)
 (hm:w.cell? ⟨Bm,0,none⟩=some (.map (some b))) (hM:MapAt Tryz.prog 23 w b es):
 SeqStopsK F n Tryz.prog 278 #[.pointer (some ⟨Bm,0,none⟩)] (fun x:Int=> #[seV x]) KeepsWalks (fun ys=>ys.Perm ks) (fun _=>True) ks.length w:=fun l J Jx W hW hJ _ hY h0=>
 keys1_in F n h1 hro hn l Bm b es ks hes J Jx W hJ hY ((hW.cell (p:=⟨Bm,0,none⟩) hBm).trans hm) (hM.same (hW.block b hM.lt)) h0
theorem infoID:(Tryz.prog.info? 23).map (fun i=>(i.zero,i.size,i.bytes))=some (some (.int .u64 0),1,8):=by kernel_rfl
theorem one_new (W:World) (x:Value) (t:TypeId):∀(j:Nat) (u:Value),[x][j]? =some u→(W.alloc (.cells #[x] t)).cell? ((⟨W.heap.size,0,none⟩:Addr).add j)=some u:=by
 intro j u h
 match j,h with
 |0,h=>simp at h;subst h;simp[Addr.add]
 |j + 1,h=>simp at h
def MidI (w:World) (pre:List (Int)) (W:World):Prop:=
 (∃v,Boxed W w.heap.size 268 v∧W.ownsRow w.heap.size 23 1 v pre.length (pre.flatMap seL)∧(v=.slice none 0 0↔pre=[]))∧Below w.heap.size w W
theorem midI_own (w:World) (B:Nat) (hB:w.heap.size≤B):OwnFrom B (MidI w):=
 OwnFrom.and (Own.from (holdsRow_own w.heap.size w.heap.size 268 23 1 (fun pre=>pre.length) (fun pre=>pre.flatMap seL) (fun pre v=>v=.slice none 0 0↔pre=[])) _) (ownFrom_below (Nat.le_refl _) hB)
def MidAx (w:World) (sv:Value) (x:Int) (a':Act) (W:World):Prop:=
 a'={tmps:= #[.slice none 0 0,sv,.pointer (some ⟨w.heap.size,0,none⟩),undef,.slice none 0 0,seV x,sv,seV x,undef,undef,undef,undef,undef],defers:=[]}
theorem midAx_own (w:World) (sv:Value) (B:Nat) (x:Int) (a':Act):OwnFrom B (fun(_:Unit) W=>MidAx w sv x a' W):=by
 rintro s X Y row h3 hg hr;exact h3
theorem appendSeq_in (F:Fence) (n:Nat) (hF:F.fn 298) (hro:F.round=none) (hn:3≤n) (gf:Nat) (lb:Array Value) (hFg:F.fn gf) (eg:∀args w,(callFunc gf args).run Tryz.prog w=.ok (.enter gf args) w)
 (S Sp:List (Int)→Prop) (N:Nat) (hN:N≤100000000) (w:World) (hseq:SeqStopsK F (n - 1) Tryz.prog gf lb (fun x:Int=> #[seV x]) KeepsWalks S Sp N w):
 CallsIn F n Tryz.prog 298 #[.slice none 0 0,.func (.func gf) #[] lb] w fun e w'=>∃(v:Value) (ss:List (Int)),e=.returned v∧S ss∧w'.ownsRow w.heap.size 23 1 v ss.length (ss.flatMap seL)∧(v=.slice none 0 0↔ss=[])∧Below w.heap.size w w':=by
 have h1:1≤n:=by omega
 obtain⟨i0,hi,hz0,hz1,hz2⟩:=info_parts infoID;refine callsIn_of_wp_marks Tryz.func298 rfl hF ?_ hro;simp only[Tryz.ntmps298,List.size_toArray,List.length_cons,List.length_nil,Nat.reduceAdd,Nat.reduceSub,Array.replicate_succ,Array.replicate_zero,List.push_toArray,List.append_toArray,List.nil_append,List.cons_append]
 gi_wp2
 have bO:=Boxed.new w 268 (.slice none 0 0);have hB0:Below w.heap.size w (w.alloc (.cells #[.slice none 0 0] 268)):=(Below.refl _ w).alloc (Nat.le_refl _) _
 refine wpIn_rangeFunc_ownH hro h1 (gf:=gf) (lb:=lb) rfl hFg eg hseq walksK_t walksK_b hB0 (fun _=>rfl)
  (MidI w) (fun _ _ _=>False) (midI_own w _ (by simp)) (fun _ _ _ _ _ hs _ _=>hs)
  ⟨⟨_,bO,World.ownsRow_nil _ _ _ _,by simp⟩,hB0⟩
  (MidAx w (.func (.func gf) #[] lb)) (fun x a'=>midAx_own w _ _ x a') ?assign ?body ?done ?stop
 case assign=>
  rintro l pre x W K ⟨⟨v,hv,hrow,hnil⟩,hB⟩ hK;have hsz:=hB.size;unfold seV
  gi_wp2
  refine hK _ _ ((KeepsOthers.refl _).from _) (KeepsWalks.refl _) ⟨⟨v,hv,hrow,hnil⟩,hB⟩ rfl
 case body=>
  rintro l pre x a' W hl ⟨r,hr⟩ ⟨⟨v,hv,hrow,hnil⟩,hB⟩ rfl hlt;have hc:=hv.cell;have hsz:=hB.size;unfold seV
  gi_wp2_with (gi_at_builtin;refine wpListIn_append_own _ rfl _ _ 268 rfl w.heap.size 23 i0 (.int .u64 0) 1 8 Tryz.underlying268 hi hz0 hz1 hz2 rfl (by decide) _ _ _ rfl (hrow.alloc _) ⟨W.heap.size,0,none⟩ 1 1 [.int .u64 x] rfl rfl (one_new _ _ _) (by simp[Value.oneCell']) (by unfold maxLen;omega) (by omega) (by simp;omega) ?_;intro v' w1 hown' hgrow _;obtain⟨g',cap',rfl⟩:=ownsRow_succ hown';obtain⟨hv1,hv2,hr2,hk2,hb2⟩:=hv.appended (by decide) hrow hB.size (Nat.le_refl _) hown' hgrow;have hc1:=hv1.cell;have hf1:=hv1.frozen)
  exact⟨hk2.from _,hk2.walks,⟨_,hv2,by simpa [seL] using hr2,by simp⟩,hB.trans hb2⟩
 case done=>
  rintro D ys W hD hS ⟨⟨v,hv,hrow,hnil⟩,hB⟩ hK;have hc:=hv.cell
  gi_wp2
  refine⟨by simp,.inl ⟨_,_,rfl,run_takeDeferred hK,?_⟩⟩;exact⟨_,results_tmp rfl _ _ _,v,ys,rfl,hS,ownsRow_putObj hrow _ hK rfl,hnil,hB.trans (belowK_b (w:=w) (Nat.le_refl _) W D _ _ (by simp at hD;omega) hK rfl rfl)⟩
 case stop=>
  rintro D c pre W _ _ h _;exact h.elim
end Unt
end
section
namespace SortU
open Go.RowKit Go.Shelf
open Go.Sort (ltInt PermIn SortedIn)
open Go.Maps (Keyed)
open _root_.Go.Proofs.YtkdjkngfnapjcaaGreatDoor.Unt (seV seL)
def sortI (l:List Int):List Int:=l.mergeSort fun x y=>decide (x≤y)
theorem ZlW {zs:List Int} {R:Array Int} (hP:PermIn 0 zs.length zs.toArray R) (hS:SortedIn ltInt 0 zs.length R):R.toList=sortI zs:=by
 have h:=Sort.sorted_unique_holds Sort.swo_ltInt (fun x y h1 h2=>by simp only[ltInt,decide_eq_false_iff_not] at h1 h2;omega) zs.toArray R (by simpa using hP) (by simpa using hS);rw[h];unfold sortI;simp only[]
 congr 1
 funext x y
 show(!decide (y < x))=decide (x≤y)
 by_cases h:x≤y
 · have h':¬y < x:=by omega
   simp[h,h']
 have h':y < x:=by omega
 simp[h,h']
theorem sortI_perm {l m:List Int} (h:l.Perm m):sortI l=sortI m:=by
 have hp:(sortI l).Perm (sortI m):=(List.mergeSort_perm l _).trans (h.trans (List.mergeSort_perm m _).symm)
 have tr:∀a b c:Int,decide (a≤b)=true→decide (b≤c)=true→decide (a≤c)=true:=by intro a b c h1 h2;simp at *;omega
 have tt:∀a b:Int,(decide (a≤b) || decide (b≤a))=true:=by intro a b;simp;omega
 refine List.Perm.eq_of_pairwise (le:=fun a b=>decide (a≤b)=true) ?_ (List.pairwise_mergeSort tr tt l) (List.pairwise_mergeSort tr tt m) hp;intro a b _ _ h1 h2
 simp at h1 h2
 omega
theorem sortI_len (l:List Int):(sortI l).length=l.length:=List.length_mergeSort l
theorem ZiR (l:List Int):l.flatMap seL=l.map (Value.int .u64):=by
 induction l with
 |nil=>rfl
 |cons x l ih=>rw[List.flatMap_cons,ih];rfl
abbrev rowI (v:Value) (l:List Int):Part:=.row 23 1 v l.length (l.flatMap seL)
theorem ZmP (ax:Option Addr) (cap:Nat) (w:World):Calls Tryz.prog 318 #[.slice ax 0 cap,.int .i64 0,.int .i64 0] w fun e w'=>e=.returned (.tuple #[])∧w'=w:=by
 go_enter Tryz.func318,Tryz.ntmps318
 go_wp2_with fail
 go_loopg [6] 0 (fun(k:Nat) u wr=>u=.int .i64 1∧wr=w)
 case atStart=>exact⟨rfl,rfl⟩
 case round=>
  obtain⟨rfl,rfl⟩:=hrel
  go_wp2_with fail
  go_end0
  exact⟨rfl,rfl⟩
theorem Zmt (ax:Option Addr) (cap:Nat) (w:World):Calls Tryz.prog 299 #[.slice ax 0 cap,.int .i64 0,.int .i64 0,.int .i64 0] w fun e w'=>e=.returned (.tuple #[])∧w'=w:=by
 go_enter Tryz.func299,Tryz.ntmps299
 go_wp2_with fail
 go_loopg [1,2,3] 0 (fun(k:Nat) u1 u2 u3 wr=>u1=.int .i64 0∧u2=.int .i64 0∧u3=.int .i64 0∧wr=w)
 case atStart=>exact⟨rfl,rfl,rfl,rfl⟩
 case round=>
  obtain⟨rfl,rfl,rfl,rfl⟩:=hrel
  go_wp2_with fail
  refine(ZmP _ _ _).mono ?_;rintro e w' ⟨rfl,rfl⟩
  go_wp2_with fail
  refine bodyPost_ret (results_none rfl _ _ _) rfl ?_;exact⟨rfl,rfl⟩
theorem ZlV {w:World} {v:Value} {l:List Int} (h:Sep [rowI v l] w) (hmax:l.length < 4611686018427387904):
 Calls Tryz.prog 277 #[v] w fun e w'=>e=.returned (.tuple #[])∧At [rowI v l] w [rowI v (sortI l)] w':=by
 have hA:=At.start h;clear h;obtain⟨ax,cap,rfl,hax,hcap,_⟩:=hA.row_form (v:=v) (xs:=l.flatMap seL) .here
 have hLen:∀w,Calls Tryz.prog 136 #[.int .u64 (l.length:Int)] w fun e w'=>e=.returned (.int .i64 (Lib.bitLen l.length:Nat))∧w'=w:=fun w=>by
  have h:=Tryz.bits_Len (l.length:Int) w (by omega) (by omega)
  rwa [Int.toNat_natCast] at h
 have hk:=(ZeN l.length (by omega)).2 hmax
 have hlw:IntKind.u64.wrap (l.length:Int)=(l.length:Int):=by rw[IntKind.wrap_u64];omega
 by_cases hl:0 < l.length
 · obtain⟨g,c,rfl,_,hcm,hcl,hct,hB⟩:=hA.row_open (ax:=ax) (cap:=cap) (n:=l.length) (xs:=l.flatMap seL) .here hl
   have hc:c=rowC l.toArray (c.drop l.length):=by
    unfold rowC;rw[List.toList_toArray,←ZiR,←hct,Nat.mul_one,List.take_append_drop]
   obtain⟨r,hr⟩:∃r,c.drop l.length=r:=⟨_,rfl⟩
   rw[hr] at hc
   have hrl:r.length=cap - l.length:=by rw[←hr,List.length_drop,hcl];omega
   subst hc;have hrl':=Hd hrl;clear hr hct hcl hrl hA;have hA:=hB;clear hB
   go_enter Tryz.func277,Tryz.ntmps277
   go_wp2_with (go_at_call 136;refine(hLen _).mono ?_;rintro e w' ⟨rfl,rfl⟩)
   refine(Zn4 (l.length + 1) (g:=g) (d:=l.toArray) (r:=r) (a:=0) (b:=l.length) (limit:=Lib.bitLen l.length) (hA.sep1 .here) (by simp) (by omega) (by omega) (by simp) (by omega) (by simpa using hmax) (.inl rfl)).mono ?_;rintro e w1 ⟨R,rfl,hp,hs,hT⟩;have hB:=hA.call1 .here hT;clear hA hT;have hR:=Hd (ZlW hp hs)
   have hsz:R.size=l.length:=by have:=hp.1;simpa using this
   clear hp hs
   go_wp2_with fail
   go_end0
   refine⟨rfl,?_⟩
   have hC:=hB.row_shut (size:=1) (n:=l.length) (xs:=(sortI l).flatMap seL) .here (cap:=cap) (by rw[Zl5,hrl'.out,hsz];omega) hcap hcm (by
    unfold rowC
    rw[hR.out,←ZiR,Nat.mul_one,List.take_append_of_le_length (by rw[Zaz seL 1 (fun _=>rfl),sortI_len];omega),List.take_of_length_le (by rw[Zaz seL 1 (fun _=>rfl),sortI_len];omega)])
   unfold rowI;rw[sortI_len];exact hC.pick pR
 have h0:l=[]:=List.eq_nil_of_length_eq_zero (by omega);subst h0;have hz:(([]:List Int).length:Int)=0:=rfl;have hbl:Lib.bitLen 0=0:=rfl
 simp only[List.length_nil] at *
 go_enter Tryz.func277,Tryz.ntmps277
 go_wp2_with (go_at_call 136;refine(hLen _).mono ?_;rintro e w' ⟨rfl,rfl⟩)
 refine(Zmt _ _ _).mono ?_;rintro e w1 ⟨rfl,rfl⟩
 go_wp2_with fail
 go_end0
 exact⟨rfl,by simpa [sortI] using hA⟩
theorem collect_in (F:Fence) (n:Nat) (hF:F.fn 276) (hF2:F.fn 298) (hro:F.round=none) (hn:4≤n) (gf:Nat) (lb:Array Value) (hFg:F.fn gf) (eg:∀args w,(callFunc gf args).run Tryz.prog w=.ok (.enter gf args) w)
 (S Sp:List Int→Prop) (N:Nat) (hN:N≤100000000) (w:World) (hseq:SeqStopsK F (n - 1 - 1) Tryz.prog gf lb (fun x:Int=> #[seV x]) KeepsWalks S Sp N w):
 CallsIn F n Tryz.prog 276 #[.func (.func gf) #[] lb] w fun e w'=>∃(v:Value) (ss:List Int),e=.returned v∧S ss∧w'.ownsRow w.heap.size 23 1 v ss.length (ss.flatMap seL)∧(v=.slice none 0 0↔ss=[])∧Below w.heap.size w w':=by
 have h1:1≤n:=by omega
 refine callsIn_of_wp Tryz.func276 rfl hF ?_ hro;simp only[Tryz.ntmps276,List.size_toArray,List.length_cons,List.length_nil,Nat.reduceAdd,Nat.reduceSub,Array.replicate_succ,Array.replicate_zero,List.push_toArray,List.append_toArray,List.nil_append,List.cons_append]
 gi_wp2_with (gi_at_call 298;refine(Unt.appendSeq_in F (n - 1) hF2 hro (by omega) gf lb hFg eg S Sp N hN _ hseq).mono ?_;rintro e W ⟨v,ss,rfl,hS,hrow,hnil,hb⟩)
 go_ret;exact⟨v,ss,rfl,hS,hrow,hnil,hb⟩
theorem collect_keys (Bm b:Nat) (es:List (Value × Value)) (ks:List Int) (hes:es.map (·.1)=ks.map seV) (w:World) (hBm:Bm < w.heap.size) (hm:w.cell? ⟨Bm,0,none⟩=some (.map (some b))) (hM:MapAt Tryz.prog 23 w b es) (hN:ks.length≤100000000):
 Calls Tryz.prog 276 #[.func (.func 278) #[] #[.pointer (some ⟨Bm,0,none⟩)]] w fun e w'=>∃(v:Value) (ss:List Int),e=.returned v∧ss.Perm ks∧w'.ownsRow w.heap.size 23 1 v ss.length (ss.flatMap seL)∧(v=.slice none 0 0↔ss=[])∧Below w.heap.size w w':=
 callsIn_wide.1 (collect_in Fence.wide 5 trivial trivial rfl (by omega) _ _ trivial (enters_of Tryz.func278 (by kernel_rfl) rfl) _ _ ks.length hN w
  (Unt.keys_stops Fence.wide _ trivial rfl (by omega) Bm b es ks hes w hBm hm hM))
def ZjO (L0:List Part) (w:World) (L:List Part) (ks:List Int) (e:Ending) (w':World):Prop:=∃v,e=.returned v∧At L0 w (rowI v (sortI ks)::L) w'
theorem sorted_any {L0 L F G:List Part} {w0 w:World} {Bm b:Nat} {es:List (Value × Value)} {T:TypeId} (hA:At L0 w0 L w) (s1:Sel (Part.cells Bm [.map (some b)] T) L F) (s2:Sel (Part.map Tryz.prog 23 b es) L G) (ks:List Int) (hes:es.map (·.1)=ks.map seV) (hN:ks.length≤100000000):
 Calls Tryz.prog 235 #[.func (.func 278) #[] #[.pointer (some ⟨Bm,0,none⟩)]] w (ZjO L0 w0 L ks):=by
 have hb:Zab w Bm [.map (some b)] T:=hA.get s1;have hC:=collect_keys Bm b es ks hes w hb.lt (hb.cell 0) (hA.get s2) hN;clear hes
 go_enter Tryz.func235,Tryz.ntmps235
 go_wp2_with fail
 refine hC.mono ?_;rintro e w1 ⟨v,ss,rfl,hp,hrow,_,hbl⟩;have hB:=hA.row_new hbl hrow;have hss:=Hd (sortI_perm hp);have hll:=hp.length_eq;clear hA hC hrow hbl hb
 go_wp2_with fail
 refine(ZlV (l:=ss) (hB.sep1 .here) (by omega)).mono ?_;rintro e w2 ⟨rfl,hT⟩;have hD:=hB.call1 .here hT;clear hB hT
 go_wp2_with fail
 go_ret;rw[hss.out] at hD;exact⟨v,rfl,hD⟩
theorem ZmG (mb:Option Nat) (w:World):
 Calls Tryz.prog 236 #[.map mb] w fun e w'=>e=.returned (.func (.func 278) #[] #[.pointer (some ⟨w.heap.size,0,none⟩)])∧w'=w.alloc (.cells #[.map mb] 217):=
 callsIn_wide.1 (Unt.keys_in Fence.wide 1 trivial rfl mb w)
end SortU
end
section
namespace Lease
open Go.RowKit
open Go.Maps (Keyed)
open _root_.Go.Proofs.YtkdjkngfnapjcaaGreatDoor.SortU (rowI sortI)
def reqs (s:Ses):List Int:=s.told.map (·.1)
theorem Zjj (l:List (Int × Ans)):(saids l).map (·.1)=(l.map (·.1)).map Unt.seV:=by simp[saids,saidE,Unt.seV]
def Zlz (w:World) (p m:Nat) (ss:List Ses) (n:Int) (f:ByteArray) (e:Ending) (w':World):Prop:=∃v,e=.returned v∧At [BookP p m ss] w [rowI v (sortI (reqs (look ss n f))),BookP p m ss] w'
theorem ZgK {w:World} {p m:Nat} {ss:List Ses} (h:Sep [BookP p m ss] w) {n:Int} {f:ByteArray} (h0:0≤n) (h1:n < big64) (hf:f.size≤maxLen) (hmax:(look ss n f).told.length≤1000000):
 Calls Tryz.prog 182 #[.pointer (some ⟨p,0,none⟩),.agg #[.int .u64 n,.string f]] w (Zlz w p m ss n f):=by
 obtain⟨kl,hk⟩:=keyS h0 h1 hf
 cases hn:find ss n f with
 |none=>
  have hmiss:=Hd (find_none hn);have hr:=Hd (show sortI (reqs (look ss n f))=[] by unfold look;rw[hn];simp[fresh,reqs,sortI]);have hA:=begin0 h;obtain⟨hA,hF⟩:=fY hA;clear h hmax
  unfold keyV at *
  go_enter Tryz.func182,Tryz.ntmps182
  go_wp2_with ((with_reducible refine gbx ?_);refine wCy hA ?_;clear hF hA;intro b1 w1 hA hb1 hF)
  have hl:∀q,(Instr.lookup 212 (.map (some m)) (.agg #[.int .u64 n,.string f]) true).run Tryz.prog (w1.drewN q)=.ok (.tuple #[.pointer none,.bool false]) (w1.drewN q):=fun q=>
   MapAt.look_none (w:=w1.drewN q) ((hA.drewN q).get (A:=mapC m (ents ss)) sR) lawS Tryz.underlying212 hk hmiss.out (by kernel_rfl) true
  go_quiet (fail)
  have hA:=hA.drewN nq;generalize World.drewN _ nq=w1 at *;clear hF;obtain⟨hA,hF⟩:=fY hA
  go_wp2_with fail
  refine bodyPost_ret (v:=.slice none 0 0) (by simp[results,Tryz.results182,go_sem,hF]) rfl ⟨_,rfl,?_⟩;rw[hr.out];have hN:At _ _ (rowI (.slice none 0 0) []::_) _:=(fold0 (m:=m) (ss:=ss) hA sR sR sR).row_nil 23 1;exact hN.pick pR
 |some s=>
  have hmem:=Hd (find_mem hn)
  have hlk:look ss n f=s:=by unfold look;rw[hn];rfl
  rw[hlk] at hmax;have hlk':=Hd hlk;clear hlk;obtain⟨l1,l2,e,_,_,_⟩:=find_split hn;have e':=Hd e;subst e;have hA:=Zi3 h;simp only[Ses.cells] at hA;obtain⟨hA,hF⟩:=fY hA;clear h hn
  unfold keyV at *
  go_enter Tryz.func182,Tryz.ntmps182
  go_wp2_with ((with_reducible refine gbx ?_);refine wCy hA ?_;clear hF hA;intro b1 w1 hA hb1 hF)
  have hl:∀q,(Instr.lookup 212 (.map (some m)) (.agg #[.int .u64 n,.string f]) true).run Tryz.prog (w1.drewN q)=.ok (.tuple #[s.ptr,.bool true]) (w1.drewN q):=fun q=>
   MapAt.look_some (w:=w1.drewN q) ((hA.drewN q).get (A:=mapC m (ents (l1++s::l2))) sR) lawS Tryz.underlying212 hk hmem.out true
  unfold Ses.ptr at hl
  go_quiet (fail)
  have hA:=hA.drewN nq;generalize World.drewN _ nq=w1 at *;clear hF;obtain⟨hA,hF⟩:=fY hA
  go_wp2_with fail
  refine(SortU.ZmG (some s.tm) _).mono ?_;rintro e _ ⟨rfl,rfl⟩;have hB:=hA.alloc [.map (some s.tm)] 217;clear hF hA
  go_wp2_with fail
  refine(SortU.sorted_any hB .here sZ (reqs s) (Zjj s.told) (by simp[reqs];omega)).mono ?_;rintro e w2 ⟨v,rfl,hD⟩;clear hB
  go_wp2_with fail
  go_ret;refine⟨v,rfl,?_⟩;rw[hlk'.out];exact(fold1 (m:=m) (s:=s) hD sR sR sZ sR sR).pick pR
end Lease
end
section
namespace Lease
open Go.RowKit
structure AR where
 r:Int
 e:Int
 n:Int
 g:Bool
structure SR where
 num:Int
 foot:ByteArray
 op:Bool
 dead:Bool
 dl:Int
 ttl:Int
 ax:Option Addr
 cap:Nat
 told:List AR
def SR.tv (s:SR):Value:=.slice s.ax s.told.length s.cap
def AR.cells (a:AR):List Value:=[.int .u64 a.r,.int .i64 a.e,.int .u64 a.n,.bool a.g]
def SR.cells (s:SR):List Value:=[.int .u64 s.num,.string s.foot,.bool s.op,.bool s.dead,.int .i64 s.dl,.int .i64 s.ttl,s.tv]
theorem SR.cells_len (s:SR):s.cells.length=7:=rfl
theorem SR.ones (s:SR):s.cells.all (·.oneCell')=true:=rfl
theorem SR.one (s:SR):∀u ∈ s.cells,u.oneCell'=true:=List.all_eq_true.1 s.ones
def flatR (L:List SR):List Value:=L.flatMap SR.cells
abbrev rowR (v:Value) (L:List SR):Part:=.row 119 7 v L.length (flatR L)
def SR.is (n:Int) (f:ByteArray) (s:SR):Bool:=s.num==n&&(s.foot.toList==f.toList)
def noSR (n:Int) (f:ByteArray):SR:=⟨n,f,false,false,0,0,none,0,[]⟩
def findR (L:List SR) (n:Int) (f:ByteArray):SR:=(L.find? (SR.is n f)).getD (noSR n f)
theorem Zdr {α:Type} {p:α→Bool}:∀{l:List α} {i:Nat} {y:α},l[i]? =some y→(∀x ∈ l.take i,p x=false)→p y=true→l.find? p=some y
 |z::l,0,y,h,_,hy=>by simp at h;subst h;simp[hy]
 |z::l,i + 1,y,h,hn,hy=>by
  rw[List.find?_cons_of_neg (by rw[hn z (by simp)];simp)];exact Zdr (by simpa using h) (fun x hx=>hn x (by simp[hx])) hy
 |[],i,y,h,_,_=>by simp at h
theorem ZmY {L:List SR} {n:Int} {f:ByteArray} {i:Nat} (h:i < L.length) (hn:∀x ∈ L.take i,SR.is n f x=false) (hy:SR.is n f L[i]=true):findR L n f=L[i]:=by
 unfold findR;rw[Zdr (List.getElem?_eq_getElem h) hn hy]
 rfl
theorem Zfi {L:List SR} {n:Int} {f:ByteArray} (hn:∀x ∈ L,SR.is n f x=false):findR L n f=noSR n f:=by
 unfold findR;rw[List.find?_eq_none.2 (fun x hx=>by rw[hn x hx];simp)]
 rfl
theorem ZbK {L0 K F:List Part} {w0 w:World} {g cap:Nat} {c:List Value} {L:List SR} (hA:At L0 w0 K w) (s:Sel (Part.cells g c 119) K F) (hcl:c.length=cap * 7) (hcap:L.length≤cap) (hcm:cap≤maxLen) (hct:c.take (L.length * 7)=flatR L):
 At L0 w0 (rowR (.slice (some ⟨g,0,none⟩) L.length cap) L::F) w:=hA.row_shut s hcl hcap hcm hct
abbrev zeroS (b:Nat):Part:=.cells b [.int .u64 0,.string .empty,.bool false,.bool false,.int .i64 0,.int .i64 0,.slice none 0 0] 119
def Znu (w:World) (v:Value) (L:List SR) (n:Int) (f:ByteArray) (b1 b2:Nat) (k:Nat) (u:Value) (wr:World):Prop:=
 ∃i:Nat,u=.int .i64 i∧i + k=L.length∧At [rowR v L] w [zeroS b2,Part.cells b1 [v] 81,rowR v L] wr∧∀x ∈ L.take i,SR.is n f x=false
theorem findR_any {w:World} {v:Value} {L:List SR} (h:Sep [rowR v L] w) (n:Int) (f:ByteArray) (hmax:L.length≤1000000):
 Calls Tryz.prog 93 #[.agg #[v],.int .u64 n,.string f] w fun e w'=>e=.returned (.agg (findR L n f).cells.toArray)∧At [rowR v L] w [rowR v L] w':=by
 have hA:=At.start h;have hF:=hA.facts;clear h;obtain⟨ax,cap,rfl,hax,hcap,_⟩:=hA.row_form (v:=v) (xs:=flatR L) sR
 go_enter Tryz.func93,Tryz.ntmps93
 go_wp2_with (first
  |(refine Za7 (E:=81) rfl rfl (by(try simp only[Act.eval,eV])<;>exact rfl) (by exact rfl) hA ?_;intro bB w1 hB hbB;clear hF hA;have hA:=hB;clear hB;obtain⟨hA,hF⟩:=fY hA)
  |((with_reducible refine gst ?_);refine wTy hA ?_;clear hF hA;intro w1 hA hF)|((with_reducible refine gbx ?_);refine wCy hA ?_;clear hF hA;intro b1 w1 hA hb1 hF)|((with_reducible refine gal ?_);refine wGy 119 [.int .u64 0,.string .empty,.bool false,.bool false,.int .i64 0,.int .i64 0,.slice none 0 0] hA ?_;clear hF hA;intro b1 w1 hA hb1 hF))
 try go_frame
 go_loopg [7] L.length (Znu w (.slice ax L.length cap) L n f bB b1)
 case atStart=>exact⟨0,rfl,by simp,hA,by simp⟩
 case round=>
  obtain⟨i,rfl,hik,hB,hno⟩:=hrel;have hno':=Hd hno;clear hF hA hno;have hA:=hB;clear hB
  by_cases hi:i < L.length
  · obtain⟨g,c,rfl,_,hcm,hcl,hct,hB⟩:=hA.row_open (ax:=ax) (cap:=cap) (n:=L.length) (xs:=flatR L) sR (by omega)
    have hx:L[i]? =some L[i]:=List.getElem?_eq_getElem hi;have c0:c[i * 7]? =some (.int .u64 L[i].num):=Zaf SR.cells_len hct hx 0 (by omega);have c1:c[i * 7 + 1]? =some (.string L[i].foot):=Zaf SR.cells_len hct hx 1 (by omega);have c2:c[i * 7 + 2]? =some (.bool L[i].op):=Zaf SR.cells_len hct hx 2 (by omega);have c3:c[i * 7 + 3]? =some (.bool L[i].dead):=Zaf SR.cells_len hct hx 3 (by omega);have c4:c[i * 7 + 4]? =some (.int .i64 L[i].dl):=Zaf SR.cells_len hct hx 4 (by omega);have c5:c[i * 7 + 5]? =some (.int .i64 L[i].ttl):=Zaf SR.cells_len hct hx 5 (by omega);have c6:c[i * 7 + 6]? =some L[i].tv:=Zaf SR.cells_len hct hx 6 (by omega);clear hA;have hA:=hB;clear hB;obtain⟨hA,hF⟩:=fY hA
    have more:∀{b:Bool},SR.is n f L[i]=b→b=false→∀x ∈ L.take (i + 1),SR.is n f x=false:=fun e e2 x hx=>by
     rw[List.take_succ_eq_append_getElem hi] at hx
     rcases List.mem_append.1 hx with hx|hx
     · exact hno'.out x hx
     rw[List.mem_singleton.1 hx,e,e2]
    by_cases h1:L[i].num=n
    · have h1':(L[i].num==n)=true:=by simpa using h1
      cases h2:(L[i].foot.toList==f.toList)
      · have hm:=Hd (more (b:=false) (by simp[SR.is,h1',h2]) rfl)
        clear more
        go_wp2_with fail
        go_roundg (gk - 1)
        case measure=>omega
        case rel=>exact⟨i + 1,by simp,by omega,(ZbK hA sR hcl hcap hcm hct).only3 sR sR sR,hm.out⟩
      have hfi:=ZmY hi hno'.out (show SR.is n f L[i]=true by simp[SR.is,h1',h2]);have hfi':=Hd hfi;clear hfi more
      go_wp2_with (refine Zal (b:=b1) (j:=0) (vs:=SR.cells L[i]) rfl rfl rfl (by(try simp only[Act.eval,eV])<;>exact rfl) (by first|exact rfl|(rw[←h1];rfl)|simp[SR.cells,h1,Value.cells]) hA sR (by kernel_rfl) (SR.ones _) (by show 0 + 7≤7;omega) ?_;intro w1 hB;clear hF hA;have hA:=hB;clear hB;simp only[SR.cells] at hA;obtain⟨hA,hF⟩:=fY hA)
      refine bodyPost_ret (v:=.agg (SR.cells L[i]).toArray) (by simp[SR.cells,results,Tryz.results93,go_sem,hF]) rfl ⟨by rw[hfi'.out],(ZbK hA sR hcl hcap hcm hct).only1 sR⟩
    have h1':(L[i].num==n)=false:=by simpa using h1
    have hm:=Hd (more (b:=false) (by simp[SR.is,h1']) rfl);clear more
    go_wp2_with fail
    go_roundg (gk - 1)
    case measure=>omega
    case rel=>exact⟨i + 1,by simp,by omega,(ZbK hA sR hcl hcap hcm hct).only3 sR sR sR,hm.out⟩
  have hfi:=Zfi (fun x hx=>hno'.out x (by rw[List.take_of_length_le (by omega)];exact hx));have hfi':=Hd hfi;clear hfi;obtain⟨hA,hF⟩:=fY hA
  go_wp2_with ((with_reducible refine gst ?_);refine wTy hA ?_;clear hF hA;intro w1 hA hF)
  refine bodyPost_ret (v:=.agg (SR.cells (noSR n f)).toArray) (by simp[SR.cells,SR.tv,noSR,results,Tryz.results93,go_sem,hF]) rfl ⟨by rw[hfi'.out],hA.only1 sR⟩
end Lease
end
section
namespace Lease
open Go.RowKit
theorem AR.cells_len (s:AR):s.cells.length=4:=rfl
theorem AR.ones (s:AR):s.cells.all (·.oneCell')=true:=rfl
def flatA (l:List AR):List Value:=l.flatMap AR.cells
abbrev rowA (v:Value) (l:List AR):Part:=.row 90 4 v l.length (flatA l)
def noAR:AR:=⟨0,0,0,false⟩
def saidA (l:List AR) (r:Int):Option AR:=l.find? (fun a=>a.r==r)
theorem Ziv {L0 K F:List Part} {w0 w:World} {g cap:Nat} {c:List Value} {l:List AR} (hA:At L0 w0 K w) (s:Sel (Part.cells g c 90) K F) (hcl:c.length=cap * 4) (hcap:l.length≤cap) (hcm:cap≤maxLen) (hct:c.take (l.length * 4)=flatA l):
 At L0 w0 (rowA (.slice (some ⟨g,0,none⟩) l.length cap) l::F) w:=hA.row_shut s hcl hcap hcm hct
abbrev zeroA (b:Nat):Part:=.cells b [.int .u64 0,.int .i64 0,.int .u64 0,.bool false] 90
def ZoI (w:World) (s:SR) (r:Int) (b1 b2:Nat) (k:Nat) (u:Value) (wr:World):Prop:=
 ∃i:Nat,u=.int .i64 i∧i + k=s.told.length∧At [rowA s.tv s.told] w [zeroA b2,Part.cells b1 s.cells 119,rowA s.tv s.told] wr∧∀x ∈ s.told.take i,(x.r==r)=false
theorem ZcY {w:World} {s:SR} (h:Sep [rowA s.tv s.told] w) (r:Int) (hmax:s.told.length≤1000000):
 Calls Tryz.prog 96 #[.agg s.cells.toArray,.int .u64 r] w fun e w'=>e=.returned (.tuple #[.agg ((saidA s.told r).getD noAR).cells.toArray,.bool (saidA s.told r).isSome])∧At [rowA s.tv s.told] w [rowA s.tv s.told] w':=by
 obtain⟨num,foot,op,dead,dl,ttl,ax,cap,told⟩:=s;have hA:=At.start h;have hF:=hA.facts;clear h
 simp only[SR.tv] at *
 obtain⟨ax',cap',he0,hax,hcap,_⟩:=hA.row_form (v:=.slice ax told.length cap) (xs:=flatA told) sR;cases he0;unfold SR.cells
 go_enter Tryz.func96,Tryz.ntmps96
 go_wp2_with (first
  |(refine Za7 (E:=119) rfl rfl (by(try simp only[Act.eval,eV])<;>exact rfl) (by exact rfl) hA ?_;intro bB w1 hB hbB;clear hF hA;have hA:=hB;clear hB;obtain⟨hA,hF⟩:=fY hA)
  |((with_reducible refine gst ?_);refine wTy hA ?_;clear hF hA;intro w1 hA hF)|((with_reducible refine gbx ?_);refine wCy hA ?_;clear hF hA;intro b1 w1 hA hb1 hF)|((with_reducible refine gal ?_);refine g12 hA ?_;clear hF hA;intro b1 w1 hA hb1 hF))
 try go_frame
 go_loopg [6] told.length (ZoI w ⟨num,foot,op,dead,dl,ttl,ax,cap,told⟩ r bB b1)
 case atStart=>exact⟨0,rfl,by simp,hA,by simp⟩
 case round=>
  obtain⟨i,rfl,hik,hB,hno⟩:=hrel;have hno':=Hd hno;clear hF hA hno;have hA:=hB;clear hB;simp only[SR.cells,SR.tv] at hA hik hno'
  by_cases hi:i < told.length
  · obtain⟨g,c,rfl,_,hcm,hcl,hct,hB⟩:=hA.row_open (ax:=ax) (cap:=cap) (n:=told.length) (xs:=flatA told) sR (by omega)
    have hx:told[i]? =some told[i]:=List.getElem?_eq_getElem hi;have c0:c[i * 4]? =some (.int .u64 told[i].r):=Zaf AR.cells_len hct hx 0 (by omega);have c1:c[i * 4 + 1]? =some (.int .i64 told[i].e):=Zaf AR.cells_len hct hx 1 (by omega);have c2:c[i * 4 + 2]? =some (.int .u64 told[i].n):=Zaf AR.cells_len hct hx 2 (by omega);have c3:c[i * 4 + 3]? =some (.bool told[i].g):=Zaf AR.cells_len hct hx 3 (by omega);clear hA;have hA:=hB;clear hB;obtain⟨hA,hF⟩:=fY hA;cases h1:(told[i].r==r)
    · have hm:∀x ∈ told.take (i + 1),(x.r==r)=false:=fun x hx=>by
       rw[List.take_succ_eq_append_getElem hi] at hx
       rcases List.mem_append.1 hx with hx|hx
       · exact hno'.out x hx
       rw[List.mem_singleton.1 hx,h1]
      have hm':=Hd hm;clear hm
      go_wp2_with fail
      go_roundg (gk - 1)
      case measure=>omega
      case rel=>exact⟨i + 1,by simp,by simp only;omega,(Ziv hA sR hcl hcap hcm hct).only3 sR sZ sZ,hm'.out⟩
    have hfi:saidA told r=some told[i]:=Zdr hx hno'.out h1;have hfi':=Hd hfi;clear hfi
    go_wp2_with (refine Zal (b:=b1) (j:=0) (vs:=AR.cells told[i]) rfl rfl rfl (by(try simp only[Act.eval,eV])<;>exact rfl) (by first|exact rfl|(rw[←(show told[i].r=r by simpa using h1)];rfl)) hA sR (by kernel_rfl) (AR.ones _) (by show 0 + 4≤4;omega) ?_;intro w1 hB;clear hF hA;have hA:=hB;clear hB;simp only[AR.cells] at hA;obtain⟨hA,hF⟩:=fY hA)
    refine bodyPost_ret (v:=.tuple #[.agg (AR.cells told[i]).toArray,.bool true]) (by simp[AR.cells,results,Tryz.results96,go_sem,hF]) rfl ⟨by rw[hfi'.out];rfl,(Ziv hA sR hcl hcap hcm hct).only1 sR⟩
  have hfi:saidA told r=none:=List.find?_eq_none.2 (fun x hx=>by rw[hno'.out x (by rw[List.take_of_length_le (by omega)];exact hx)];simp);have hfi':=Hd hfi;clear hfi;obtain⟨hA,hF⟩:=fY hA
  go_wp2_with ((with_reducible refine gst ?_);refine wTy hA ?_;clear hF hA;intro w1 hA hF)
  refine bodyPost_ret (v:=.tuple #[.agg (AR.cells noAR).toArray,.bool false]) (by simp[AR.cells,noAR,results,Tryz.results96,go_sem,hF]) rfl ⟨by rw[hfi'.out];rfl,hA.only1 sR⟩
theorem ZiY (t:Int) (w:World):Calls Tryz.prog 206 #[.int .i64 t] w fun e w'=>e=.returned (.int .i64 (cutI t))∧w=w':=by
 unfold cutI
 by_cases h0:t < 0
 · go_enter Tryz.func206,Tryz.ntmps206
   go_wp2_with fail
   refine bodyPost_ret (results_tmp rfl _ _ _) rfl ?_;exact⟨by simp,rfl⟩
 by_cases h1:2199023255552 < t
 · go_enter Tryz.func206,Tryz.ntmps206
   go_wp2_with fail
   refine bodyPost_ret (results_tmp rfl _ _ _) rfl ?_;exact⟨by simp,rfl⟩
 go_enter Tryz.func206,Tryz.ntmps206
 go_wp2_with fail
 go_ret;exact⟨by simp,rfl⟩
end Lease
end
section
namespace Lease
open Go.RowKit
def Za5 (s x:SR):Bool:=decide (x.num < s.num) || (decide (x.num=s.num)&&Op.bytesLess x.foot.toList s.foot.toList)
def ZbC (s:SR) (r:List SR):List SR:=if(r.head?.map (SR.is s.num s.foot)).getD false then r.tail else r
def putR (L:List SR) (s:SR):List SR:=L.takeWhile (Za5 s)++s::ZbC s (L.dropWhile (Za5 s))
theorem ZfY {L:List SR} {s:SR} {i j:Nat} (hi:i≤L.length) (h1:∀x ∈ L.take i,Za5 s x=true) (h2:∀h:i < L.length,Za5 s L[i]=false) (hj:ZbC s (L.drop i)=L.drop j):putR L s=L.take i++s::L.drop j:=by
 obtain⟨e1,e2⟩:=Zfz hi h1 h2;unfold putR;rw[e1,e2,hj]
theorem ZhJ {L:List SR} {s:SR} {i:Nat} (h:i < L.length) (hs:SR.is s.num s.foot L[i]=true):ZbC s (L.drop i)=L.drop (i + 1):=by
 unfold ZbC;rw[List.head?_drop,List.getElem?_eq_getElem h,Option.map_some,Option.getD_some,hs,if_pos rfl,List.tail_drop]
theorem Zdj {L:List SR} {s:SR} {i:Nat} (hs:∀h:i < L.length,SR.is s.num s.foot L[i]=false):ZbC s (L.drop i)=L.drop i:=by
 unfold ZbC;rw[List.head?_drop]
 by_cases h:i < L.length
 · rw[List.getElem?_eq_getElem h,Option.map_some,Option.getD_some,hs h,if_neg (by simp)]
 rw[List.getElem?_eq_none (by omega)];rfl
abbrev zeroB (b:Nat):Part:=.cells b [.slice none 0 0] 81
theorem infoSR:(Tryz.prog.info? 119).map (fun i=>(i.zero,i.size,i.bytes))=some (some (.agg #[.int .u64 0,.string .empty,.bool false,.bool false,.int .i64 0,.int .i64 0,.slice none 0 0]),7,72):=by kernel_rfl
theorem ZbL (v:Value) (l1 l2:List SR):Part.row 119 7 v (l1.length + l2.length) (flatR l1++flatR l2)=rowR v (l1++l2):=by simp[flatR,rowR]
theorem Zc1 (v:Value) (l:List SR) (x:SR):Part.row 119 7 v (l.length + 1) (flatR l++SR.cells x)=rowR v (l++[x]):=by simp[flatR,rowR]
theorem ZcZ {L0 L:List Part} {w0 w:World} (h:At L0 w0 L w):At L0 w0 (rowR (.slice none 0 0) []::L) w:=h.row_nil 119 7
def ZoD (w:World) (v:Value) (L:List SR) (s:SR) (b2 b3 b4:Nat) (k:Nat) (u:Value) (wr:World):Prop:=
 ∃i:Nat,u=.int .i64 i∧i + k=L.length∧At [rowR v L] w [zeroB b4,Part.cells b3 s.cells 119,Part.cells b2 [v] 81,rowR v L] wr∧∀x ∈ L.take i,Za5 s x=true
def Zde (w:World) (v:Value) (L:List SR) (s:SR) (e:Ending) (w':World):Prop:=∃v',e=.returned (.agg #[v'])∧At [rowR v L] w [rowR v' (putR L s)] w'
theorem Zcv {w:World} {v:Value} {L:List SR} (h:Sep [rowR v L] w) (s:SR) (hmax:L.length≤1000000):
 Calls Tryz.prog 153 #[.agg #[v],.agg s.cells.toArray] w (Zde w v L s):=by
 obtain⟨i0,hi0,hz0,hz1,hz2⟩:=info_parts infoSR;have hA:=At.start h;have hF:=hA.facts;clear h;obtain⟨ax,cap,rfl,hax,hcap,_⟩:=hA.row_form (v:=v) (xs:=flatR L) sR;unfold SR.cells
 go_enter Tryz.func153,Tryz.ntmps153
 go_wp2_with (first
  |(refine Za7 (E:=81) rfl rfl (by(try simp only[Act.eval,eV])<;>exact rfl) (by exact rfl) hA ?_;intro bB w1 hB hbB;clear hF hA;have hA:=hB;clear hB;obtain⟨hA,hF⟩:=fY hA)
  |(refine Za7 (E:=119) rfl rfl (by(try simp only[Act.eval,eV])<;>exact rfl) (by exact rfl) hA ?_;intro bS w1 hB hbS;clear hF hA;have hA:=hB;clear hB;obtain⟨hA,hF⟩:=fY hA)
  |((with_reducible refine gst ?_);refine wTy hA ?_;clear hF hA;intro w1 hA hF)|((with_reducible refine gbx ?_);refine wCy hA ?_;clear hF hA;intro b1 w1 hA hb1 hF)|((with_reducible refine gal ?_);refine g6 hA ?_;clear hF hA;intro b1 w1 hA hb1 hF))
 try go_frame
 go_loopg [5] L.length (ZoD w (.slice ax L.length cap) L s bB bS b1)
 case atStart=>exact⟨0,rfl,by simp,hA,by simp⟩
 case round=>
  obtain⟨i,rfl,hik,hB,hah⟩:=hrel;have hah':=Hd hah;clear hF hA hah;have hA:=hB;clear hB;simp only[SR.cells] at hA
  by_cases hst:∃h:i < L.length,Za5 s L[i]=true
  · obtain⟨hi,hai⟩:=hst
    obtain⟨g,c,rfl,_,hcm,hcl,hct,hB⟩:=hA.row_open (ax:=ax) (cap:=cap) (n:=L.length) (xs:=flatR L) sR (by omega);have hx:L[i]? =some L[i]:=List.getElem?_eq_getElem hi;have c0:c[i * 7]? =some (.int .u64 L[i].num):=Zaf SR.cells_len hct hx 0 (by omega);have c1:c[i * 7 + 1]? =some (.string L[i].foot):=Zaf SR.cells_len hct hx 1 (by omega);clear hA;have hA:=hB;clear hB;obtain⟨hA,hF⟩:=fY hA
    have hn:=Hd (show ∀x ∈ L.take (i + 1),Za5 s x=true from fun x hx=>by
     rw[List.take_succ_eq_append_getElem hi] at hx
     rcases List.mem_append.1 hx with hx|hx
     · exact hah'.out x hx
     rw[List.mem_singleton.1 hx];exact hai)
    by_cases h1:L[i].num < s.num
    · clear hai
      go_wp2_with fail
      refine cl1 hA ?_;clear hF hA;intro w1 hA hF;(try simp only[uY] at hA hF)
      go_wp2_with fail
      go_roundg (gk - 1)
      case measure=>omega
      case rel=>exact⟨i + 1,by simp,by omega,(ZbK hA sR hcl hcap hcm hct).only4 sR sZ sR sR,hn.out⟩
    have h2:L[i].num=s.num:=by simp[Za5,h1] at hai;exact hai.1
    have h3:Op.bytesLess L[i].foot.toList s.foot.toList=true:=by simp[Za5,h1] at hai;exact hai.2
    clear hai;rw[h2] at c0
    go_wp2_with fail
    refine cl1 hA ?_;clear hF hA;intro w1 hA hF;(try simp only[uY] at hA hF)
    go_wp2_with fail
    go_roundg (gk - 1)
    case measure=>omega
    case rel=>exact⟨i + 1,by simp,by omega,(ZbK hA sR hcl hcap hcm hct).only4 sR sZ sR sR,hn.out⟩
  have hnot:∀h:i < L.length,Za5 s L[i]=false:=fun h=>by
   cases e:Za5 s L[i]
   · rfl
   exact absurd ⟨h,e⟩ hst
  clear hst
  by_cases hi:i < L.length
  · have hx:L[i]? =some L[i]:=List.getElem?_eq_getElem hi
    have hni:=hnot hi;have hnot:=Hd hnot;obtain⟨g,c,rfl,_,hcm,hcl,hct,hB⟩:=hA.row_open (ax:=ax) (cap:=cap) (n:=L.length) (xs:=flatR L) sR (by omega);have c0:c[i * 7]? =some (.int .u64 L[i].num):=Zaf SR.cells_len hct hx 0 (by omega);have c1:c[i * 7 + 1]? =some (.string L[i].foot):=Zaf SR.cells_len hct hx 1 (by omega);clear hA;have hA:=hB;clear hB;obtain⟨hA,hF⟩:=fY hA
    by_cases h1:L[i].num=s.num
    · have h3:Op.bytesLess L[i].foot.toList s.foot.toList=false:=by simp[Za5,h1] at hni;exact hni
      clear hni;cases h4:(L[i].foot.toList==s.foot.toList)
      · have hj:=Hd (Zdj (L:=L) (s:=s) (i:=i) (fun h=>by simp only[SR.is,h4,Bool.and_false]))
        rw[h1] at c0
        go_wp2_with fail
        refine cl1 hA ?_;clear hF hA;intro w1 hA hF;(try simp only[uY] at hA hF);have hB:=ZbK hA sR hcl hcap hcm hct;clear hF hA;have hA:=hB;clear hB c0 c1;clear hct hcl hcm
        generalize hax':some (⟨g,0,none⟩:Addr)=ax at *
        clear hax';obtain⟨hA,hF⟩:=fY hA
        have hl1:(L.take i).length=i:=by rw[List.length_take];omega
        have hA:=ZcZ hA;obtain⟨hA,hF⟩:=fY hA
        go_wp2_with (first|(refine ZaU (e:=119) (size:=7) (n:=(L).length) (xs:=flatR (L)) (v:=.slice ax (L).length cap) (k:=i) rfl rfl Tryz.underlying79 hi0 hz1 (by(try simp only[Act.eval,eV])<;>exact rfl) (by(try simp only[Act.eval,eV])<;>exact rfl) (hA.get (A:=Part.row 119 7 (.slice ax (L).length cap) (L).length (flatR (L))) sR) (by omega) ?_;intro xv hxv0;have hxv:Reads _ xv ((L).take (i)).length (flatR ((L).take (i))):=(by rw[hl1];unfold flatR at hxv0 ⊢;rw[Zbh SR.cells_len] at hxv0;exact hxv0);clear hxv0)|(refine Zae (e:=119) (size:=7) (v:=.slice none 0 0) (xs:=flatR []) (n:=([]:List SR).length) (m:=((L).take (i)).length) (news:=flatR ((L).take (i))) rfl _ _ 79 rfl Tryz.underlying79 hi0 hz0 hz1 hz2 rfl (by omega) hA sR (by(try simp only[Act.eval,eV])<;>exact rfl) (by(try simp only[Act.eval,eV])<;>exact rfl) (Zaz _ _ SR.cells_len _) hxv (ZaK SR.one _) (by unfold maxLen;simp;omega) (by simp;omega) ?_;intro v1 w1 hB;rw[ZbL] at hB;simp only[List.nil_append] at hB;clear hF hA;have hA:=hB;clear hB;obtain⟨hA,hF⟩:=fY hA)|(refine Zat (e:=119) (vs:=SR.cells s) rfl rfl (by(try simp only[Act.eval,eV])<;>exact rfl) (fun _=>by kernel_rfl) hA ?_;intro b2 w1 hB hb2;clear hF hA;have hA:=hB;clear hB;obtain⟨hA,hF⟩:=fY hA)|(refine Zae (e:=119) (size:=7) (v:=v1) (xs:=flatR ((L).take (i))) (n:=((L).take (i)).length) (m:=1) (news:=SR.cells s) rfl _ _ 79 rfl Tryz.underlying79 hi0 hz0 hz1 hz2 rfl (by omega) hA sR (by(try simp only[Act.eval,eV])<;>exact rfl) (by(try simp only[Act.eval,eV])<;>exact rfl) (rfl) (hA.cells_reads sR _ _) (SR.one _) (by unfold maxLen;simp;omega) (by simp;omega) ?_;intro v2 w1 hB;rw[Zc1] at hB;clear hF hA;have hA:=hB;clear hB;obtain⟨hA,hF⟩:=fY hA))
        obtain⟨g,c,rfl,_,hcm,hcl,hct,hB⟩:=hA.row_open (ax:=ax) (cap:=cap) (n:=L.length) (xs:=flatR L) sR (by omega);have c0:c[i * 7]? =some (.int .u64 L[i].num):=Zaf SR.cells_len hct hx 0 (by omega);have c1:c[i * 7 + 1]? =some (.string L[i].foot):=Zaf SR.cells_len hct hx 1 (by omega);clear hF hA;have hA:=hB;clear hB;rw[h1] at c0;obtain⟨hA,hF⟩:=fY hA;refine cl1 hA ?_;clear hF hA;intro w1 hA hF;(try simp only[uY] at hA hF);have hB:=ZbK hA sR hcl hcap hcm hct;clear hF hA;have hA:=hB;clear hB c0 c1;clear hct hcl hcm
        generalize hax':some (⟨g,0,none⟩:Addr)=ax at *
        clear hax';obtain⟨hA,hF⟩:=fY hA;have hput:=Hd (ZfY (j:=i) (by omega) hah'.out hnot.out hj.out);have hl2:(L.drop (i)).length=L.length - (i):=List.length_drop
        go_wp2_with (first|((with_reducible refine gst ?_);refine wTy hA ?_;clear hF hA;intro w1 hA hF)|(refine ZaM (e:=119) (size:=7) (n:=(L).length) (xs:=flatR (L)) (v:=.slice ax (L).length cap) (k:=i) rfl rfl Tryz.underlying79 hi0 hz1 (by(try simp only[Act.eval,eV])<;>exact rfl) (by(try simp only[Act.eval,eV])<;>exact rfl) (hA.get (A:=Part.row 119 7 (.slice ax (L).length cap) (L).length (flatR (L))) sR) (by omega) ?_;intro yv hxv0;have hyv:Reads _ yv ((L).drop (i)).length (flatR ((L).drop (i))):=(by rw[hl2];unfold flatR at hxv0 ⊢;rw[ZbG SR.cells_len] at hxv0;exact hxv0);clear hxv0)|(refine Zae (e:=119) (size:=7) (v:=v2) (xs:=flatR ((L).take (i)++[s])) (n:=((L).take (i)++[s]).length) (m:=((L).drop (i)).length) (news:=flatR ((L).drop (i))) rfl _ _ 79 rfl Tryz.underlying79 hi0 hz0 hz1 hz2 rfl (by omega) hA sR (by(try simp only[Act.eval,eV])<;>exact rfl) (by(try simp only[Act.eval,eV])<;>exact rfl) (Zaz _ _ SR.cells_len _) hyv (ZaK SR.one _) (by unfold maxLen;simp;omega) (by simp;omega) ?_;intro v3 w1 hB;rw[ZbL] at hB;obtain⟨ax3,n3,cap3,hv3,hn3⟩:=hB.row_hid .here;subst hv3;clear hF hA;have hA:=hB;clear hB;obtain⟨hA,hF⟩:=fY hA))
        refine bodyPost_ret (v:=.agg #[.slice ax3 n3 cap3]) (by simp[results,Tryz.results153,go_sem,hF]) rfl (show Zde _ _ _ _ _ _ from⟨_,rfl,?_⟩);rw[hput.out,show L.take i++s::L.drop (i)=(L.take i++[s])++L.drop (i) by simp];exact hA.only1 sR
      have hj:=Hd (ZhJ (L:=L) (s:=s) hi (by simp only[SR.is,h1,h4,Bool.and_true,beq_self_eq_true]));rw[h1] at c0
      go_wp2_with fail
      refine cl1 hA ?_;clear hF hA;intro w1 hA hF;(try simp only[uY] at hA hF);have hB:=ZbK hA sR hcl hcap hcm hct;clear hF hA;have hA:=hB;clear hB c0 c1;clear hct hcl hcm
      generalize hax':some (⟨g,0,none⟩:Addr)=ax at *
      clear hax';obtain⟨hA,hF⟩:=fY hA
      have hl1:(L.take i).length=i:=by rw[List.length_take];omega
      have hA:=ZcZ hA;obtain⟨hA,hF⟩:=fY hA
      go_wp2_with (first|(refine ZaU (e:=119) (size:=7) (n:=(L).length) (xs:=flatR (L)) (v:=.slice ax (L).length cap) (k:=i) rfl rfl Tryz.underlying79 hi0 hz1 (by(try simp only[Act.eval,eV])<;>exact rfl) (by(try simp only[Act.eval,eV])<;>exact rfl) (hA.get (A:=Part.row 119 7 (.slice ax (L).length cap) (L).length (flatR (L))) sR) (by omega) ?_;intro xv hxv0;have hxv:Reads _ xv ((L).take (i)).length (flatR ((L).take (i))):=(by rw[hl1];unfold flatR at hxv0 ⊢;rw[Zbh SR.cells_len] at hxv0;exact hxv0);clear hxv0)|(refine Zae (e:=119) (size:=7) (v:=.slice none 0 0) (xs:=flatR []) (n:=([]:List SR).length) (m:=((L).take (i)).length) (news:=flatR ((L).take (i))) rfl _ _ 79 rfl Tryz.underlying79 hi0 hz0 hz1 hz2 rfl (by omega) hA sR (by(try simp only[Act.eval,eV])<;>exact rfl) (by(try simp only[Act.eval,eV])<;>exact rfl) (Zaz _ _ SR.cells_len _) hxv (ZaK SR.one _) (by unfold maxLen;simp;omega) (by simp;omega) ?_;intro v1 w1 hB;rw[ZbL] at hB;simp only[List.nil_append] at hB;clear hF hA;have hA:=hB;clear hB;obtain⟨hA,hF⟩:=fY hA)|(refine Zat (e:=119) (vs:=SR.cells s) rfl rfl (by(try simp only[Act.eval,eV])<;>exact rfl) (fun _=>by kernel_rfl) hA ?_;intro b2 w1 hB hb2;clear hF hA;have hA:=hB;clear hB;obtain⟨hA,hF⟩:=fY hA)|(refine Zae (e:=119) (size:=7) (v:=v1) (xs:=flatR ((L).take (i))) (n:=((L).take (i)).length) (m:=1) (news:=SR.cells s) rfl _ _ 79 rfl Tryz.underlying79 hi0 hz0 hz1 hz2 rfl (by omega) hA sR (by(try simp only[Act.eval,eV])<;>exact rfl) (by(try simp only[Act.eval,eV])<;>exact rfl) (rfl) (hA.cells_reads sR _ _) (SR.one _) (by unfold maxLen;simp;omega) (by simp;omega) ?_;intro v2 w1 hB;rw[Zc1] at hB;clear hF hA;have hA:=hB;clear hB;obtain⟨hA,hF⟩:=fY hA))
      obtain⟨g,c,rfl,_,hcm,hcl,hct,hB⟩:=hA.row_open (ax:=ax) (cap:=cap) (n:=L.length) (xs:=flatR L) sR (by omega);have c0:c[i * 7]? =some (.int .u64 L[i].num):=Zaf SR.cells_len hct hx 0 (by omega);have c1:c[i * 7 + 1]? =some (.string L[i].foot):=Zaf SR.cells_len hct hx 1 (by omega);clear hF hA;have hA:=hB;clear hB;rw[h1] at c0;obtain⟨hA,hF⟩:=fY hA;refine cl1 hA ?_;clear hF hA;intro w1 hA hF;(try simp only[uY] at hA hF);have hB:=ZbK hA sR hcl hcap hcm hct;clear hF hA;have hA:=hB;clear hB c0 c1;clear hct hcl hcm
      generalize hax':some (⟨g,0,none⟩:Addr)=ax at *
      clear hax';obtain⟨hA,hF⟩:=fY hA;have hput:=Hd (ZfY (j:=i + 1) (by omega) hah'.out hnot.out hj.out);have hl2:(L.drop (i + 1)).length=L.length - (i + 1):=List.length_drop
      go_wp2_with (first|((with_reducible refine gst ?_);refine wTy hA ?_;clear hF hA;intro w1 hA hF)|(refine ZaM (e:=119) (size:=7) (n:=(L).length) (xs:=flatR (L)) (v:=.slice ax (L).length cap) (k:=i + 1) rfl rfl Tryz.underlying79 hi0 hz1 (by(try simp only[Act.eval,eV])<;>exact rfl) (by(try simp only[Act.eval,eV])<;>exact rfl) (hA.get (A:=Part.row 119 7 (.slice ax (L).length cap) (L).length (flatR (L))) sR) (by omega) ?_;intro yv hxv0;have hyv:Reads _ yv ((L).drop (i + 1)).length (flatR ((L).drop (i + 1))):=(by rw[hl2];unfold flatR at hxv0 ⊢;rw[ZbG SR.cells_len] at hxv0;exact hxv0);clear hxv0)|(refine Zae (e:=119) (size:=7) (v:=v2) (xs:=flatR ((L).take (i)++[s])) (n:=((L).take (i)++[s]).length) (m:=((L).drop (i + 1)).length) (news:=flatR ((L).drop (i + 1))) rfl _ _ 79 rfl Tryz.underlying79 hi0 hz0 hz1 hz2 rfl (by omega) hA sR (by(try simp only[Act.eval,eV])<;>exact rfl) (by(try simp only[Act.eval,eV])<;>exact rfl) (Zaz _ _ SR.cells_len _) hyv (ZaK SR.one _) (by unfold maxLen;simp;omega) (by simp;omega) ?_;intro v3 w1 hB;rw[ZbL] at hB;obtain⟨ax3,n3,cap3,hv3,hn3⟩:=hB.row_hid .here;subst hv3;clear hF hA;have hA:=hB;clear hB;obtain⟨hA,hF⟩:=fY hA))
      refine bodyPost_ret (v:=.agg #[.slice ax3 n3 cap3]) (by simp[results,Tryz.results153,go_sem,hF]) rfl (show Zde _ _ _ _ _ _ from⟨_,rfl,?_⟩);rw[hput.out,show L.take i++s::L.drop (i + 1)=(L.take i++[s])++L.drop (i + 1) by simp];exact hA.only1 sR
    have h2:decide (L[i].num < s.num)=false:=by simp[Za5,h1] at hni;simpa using hni
    clear hni
    have h1':decide (L[i].num=s.num)=false:=by simpa using h1
    have h1'':(L[i].num==s.num)=false:=by simpa using h1
    have hj:=Hd (Zdj (L:=L) (s:=s) (i:=i) (fun h=>by simp only[SR.is,Bool.and_eq_false_iff];exact .inl (by simpa using h1)))
    go_wp2_with fail
    refine cl1 hA ?_;clear hF hA;intro w1 hA hF;(try simp only[uY] at hA hF);have hB:=ZbK hA sR hcl hcap hcm hct;clear hF hA;have hA:=hB;clear hB c0 c1;clear hct hcl hcm
    generalize hax':some (⟨g,0,none⟩:Addr)=ax at *
    clear hax';obtain⟨hA,hF⟩:=fY hA
    have hl1:(L.take i).length=i:=by rw[List.length_take];omega
    have hA:=ZcZ hA;obtain⟨hA,hF⟩:=fY hA
    go_wp2_with (first|(refine ZaU (e:=119) (size:=7) (n:=(L).length) (xs:=flatR (L)) (v:=.slice ax (L).length cap) (k:=i) rfl rfl Tryz.underlying79 hi0 hz1 (by(try simp only[Act.eval,eV])<;>exact rfl) (by(try simp only[Act.eval,eV])<;>exact rfl) (hA.get (A:=Part.row 119 7 (.slice ax (L).length cap) (L).length (flatR (L))) sR) (by omega) ?_;intro xv hxv0;have hxv:Reads _ xv ((L).take (i)).length (flatR ((L).take (i))):=(by rw[hl1];unfold flatR at hxv0 ⊢;rw[Zbh SR.cells_len] at hxv0;exact hxv0);clear hxv0)|(refine Zae (e:=119) (size:=7) (v:=.slice none 0 0) (xs:=flatR []) (n:=([]:List SR).length) (m:=((L).take (i)).length) (news:=flatR ((L).take (i))) rfl _ _ 79 rfl Tryz.underlying79 hi0 hz0 hz1 hz2 rfl (by omega) hA sR (by(try simp only[Act.eval,eV])<;>exact rfl) (by(try simp only[Act.eval,eV])<;>exact rfl) (Zaz _ _ SR.cells_len _) hxv (ZaK SR.one _) (by unfold maxLen;simp;omega) (by simp;omega) ?_;intro v1 w1 hB;rw[ZbL] at hB;simp only[List.nil_append] at hB;clear hF hA;have hA:=hB;clear hB;obtain⟨hA,hF⟩:=fY hA)|(refine Zat (e:=119) (vs:=SR.cells s) rfl rfl (by(try simp only[Act.eval,eV])<;>exact rfl) (fun _=>by kernel_rfl) hA ?_;intro b2 w1 hB hb2;clear hF hA;have hA:=hB;clear hB;obtain⟨hA,hF⟩:=fY hA)|(refine Zae (e:=119) (size:=7) (v:=v1) (xs:=flatR ((L).take (i))) (n:=((L).take (i)).length) (m:=1) (news:=SR.cells s) rfl _ _ 79 rfl Tryz.underlying79 hi0 hz0 hz1 hz2 rfl (by omega) hA sR (by(try simp only[Act.eval,eV])<;>exact rfl) (by(try simp only[Act.eval,eV])<;>exact rfl) (rfl) (hA.cells_reads sR _ _) (SR.one _) (by unfold maxLen;simp;omega) (by simp;omega) ?_;intro v2 w1 hB;rw[Zc1] at hB;clear hF hA;have hA:=hB;clear hB;obtain⟨hA,hF⟩:=fY hA))
    obtain⟨g,c,rfl,_,hcm,hcl,hct,hB⟩:=hA.row_open (ax:=ax) (cap:=cap) (n:=L.length) (xs:=flatR L) sR (by omega);have c0:c[i * 7]? =some (.int .u64 L[i].num):=Zaf SR.cells_len hct hx 0 (by omega);have c1:c[i * 7 + 1]? =some (.string L[i].foot):=Zaf SR.cells_len hct hx 1 (by omega);clear hF hA;have hA:=hB;clear hB;obtain⟨hA,hF⟩:=fY hA;refine cl1 hA ?_;clear hF hA;intro w1 hA hF;(try simp only[uY] at hA hF);have hB:=ZbK hA sR hcl hcap hcm hct;clear hF hA;have hA:=hB;clear hB c0 c1;clear hct hcl hcm
    generalize hax':some (⟨g,0,none⟩:Addr)=ax at *
    clear hax';obtain⟨hA,hF⟩:=fY hA;have hput:=Hd (ZfY (j:=i) (by omega) hah'.out hnot.out hj.out);have hl2:(L.drop (i)).length=L.length - (i):=List.length_drop
    go_wp2_with (first|((with_reducible refine gst ?_);refine wTy hA ?_;clear hF hA;intro w1 hA hF)|(refine ZaM (e:=119) (size:=7) (n:=(L).length) (xs:=flatR (L)) (v:=.slice ax (L).length cap) (k:=i) rfl rfl Tryz.underlying79 hi0 hz1 (by(try simp only[Act.eval,eV])<;>exact rfl) (by(try simp only[Act.eval,eV])<;>exact rfl) (hA.get (A:=Part.row 119 7 (.slice ax (L).length cap) (L).length (flatR (L))) sR) (by omega) ?_;intro yv hxv0;have hyv:Reads _ yv ((L).drop (i)).length (flatR ((L).drop (i))):=(by rw[hl2];unfold flatR at hxv0 ⊢;rw[ZbG SR.cells_len] at hxv0;exact hxv0);clear hxv0)|(refine Zae (e:=119) (size:=7) (v:=v2) (xs:=flatR ((L).take (i)++[s])) (n:=((L).take (i)++[s]).length) (m:=((L).drop (i)).length) (news:=flatR ((L).drop (i))) rfl _ _ 79 rfl Tryz.underlying79 hi0 hz0 hz1 hz2 rfl (by omega) hA sR (by(try simp only[Act.eval,eV])<;>exact rfl) (by(try simp only[Act.eval,eV])<;>exact rfl) (Zaz _ _ SR.cells_len _) hyv (ZaK SR.one _) (by unfold maxLen;simp;omega) (by simp;omega) ?_;intro v3 w1 hB;rw[ZbL] at hB;obtain⟨ax3,n3,cap3,hv3,hn3⟩:=hB.row_hid .here;subst hv3;clear hF hA;have hA:=hB;clear hB;obtain⟨hA,hF⟩:=fY hA))
    refine bodyPost_ret (v:=.agg #[.slice ax3 n3 cap3]) (by simp[results,Tryz.results153,go_sem,hF]) rfl (show Zde _ _ _ _ _ _ from⟨_,rfl,?_⟩);rw[hput.out,show L.take i++s::L.drop (i)=(L.take i++[s])++L.drop (i) by simp];exact hA.only1 sR
  have hnot:=Hd hnot;have hj:=Hd (Zdj (L:=L) (s:=s) (i:=i) (fun h=>absurd h hi));obtain⟨hA,hF⟩:=fY hA
  go_wp2_with fail
  refine cl1 hA ?_;clear hF hA;intro w1 hA hF;(try simp only[uY] at hA hF)
  have hl1:(L.take i).length=i:=by rw[List.length_take];omega
  have hA:=ZcZ hA;obtain⟨hA,hF⟩:=fY hA
  go_wp2_with (first|(refine ZaU (e:=119) (size:=7) (n:=(L).length) (xs:=flatR (L)) (v:=.slice ax (L).length cap) (k:=i) rfl rfl Tryz.underlying79 hi0 hz1 (by(try simp only[Act.eval,eV])<;>exact rfl) (by(try simp only[Act.eval,eV])<;>exact rfl) (hA.get (A:=Part.row 119 7 (.slice ax (L).length cap) (L).length (flatR (L))) sR) (by omega) ?_;intro xv hxv0;have hxv:Reads _ xv ((L).take (i)).length (flatR ((L).take (i))):=(by rw[hl1];unfold flatR at hxv0 ⊢;rw[Zbh SR.cells_len] at hxv0;exact hxv0);clear hxv0)|(refine Zae (e:=119) (size:=7) (v:=.slice none 0 0) (xs:=flatR []) (n:=([]:List SR).length) (m:=((L).take (i)).length) (news:=flatR ((L).take (i))) rfl _ _ 79 rfl Tryz.underlying79 hi0 hz0 hz1 hz2 rfl (by omega) hA sR (by(try simp only[Act.eval,eV])<;>exact rfl) (by(try simp only[Act.eval,eV])<;>exact rfl) (Zaz _ _ SR.cells_len _) hxv (ZaK SR.one _) (by unfold maxLen;simp;omega) (by simp;omega) ?_;intro v1 w1 hB;rw[ZbL] at hB;simp only[List.nil_append] at hB;clear hF hA;have hA:=hB;clear hB;obtain⟨hA,hF⟩:=fY hA)|(refine Zat (e:=119) (vs:=SR.cells s) rfl rfl (by(try simp only[Act.eval,eV])<;>exact rfl) (fun _=>by kernel_rfl) hA ?_;intro b2 w1 hB hb2;clear hF hA;have hA:=hB;clear hB;obtain⟨hA,hF⟩:=fY hA)|(refine Zae (e:=119) (size:=7) (v:=v1) (xs:=flatR ((L).take (i))) (n:=((L).take (i)).length) (m:=1) (news:=SR.cells s) rfl _ _ 79 rfl Tryz.underlying79 hi0 hz0 hz1 hz2 rfl (by omega) hA sR (by(try simp only[Act.eval,eV])<;>exact rfl) (by(try simp only[Act.eval,eV])<;>exact rfl) (rfl) (hA.cells_reads sR _ _) (SR.one _) (by unfold maxLen;simp;omega) (by simp;omega) ?_;intro v2 w1 hB;rw[Zc1] at hB;clear hF hA;have hA:=hB;clear hB;obtain⟨hA,hF⟩:=fY hA))
  refine cl1 hA ?_;clear hF hA;intro w1 hA hF;(try simp only[uY] at hA hF);have hput:=Hd (ZfY (j:=i) (by omega) hah'.out hnot.out hj.out);have hl2:(L.drop (i)).length=L.length - (i):=List.length_drop
  go_wp2_with (first|((with_reducible refine gst ?_);refine wTy hA ?_;clear hF hA;intro w1 hA hF)|(refine ZaM (e:=119) (size:=7) (n:=(L).length) (xs:=flatR (L)) (v:=.slice ax (L).length cap) (k:=i) rfl rfl Tryz.underlying79 hi0 hz1 (by(try simp only[Act.eval,eV])<;>exact rfl) (by(try simp only[Act.eval,eV])<;>exact rfl) (hA.get (A:=Part.row 119 7 (.slice ax (L).length cap) (L).length (flatR (L))) sR) (by omega) ?_;intro yv hxv0;have hyv:Reads _ yv ((L).drop (i)).length (flatR ((L).drop (i))):=(by rw[hl2];unfold flatR at hxv0 ⊢;rw[ZbG SR.cells_len] at hxv0;exact hxv0);clear hxv0)|(refine Zae (e:=119) (size:=7) (v:=v2) (xs:=flatR ((L).take (i)++[s])) (n:=((L).take (i)++[s]).length) (m:=((L).drop (i)).length) (news:=flatR ((L).drop (i))) rfl _ _ 79 rfl Tryz.underlying79 hi0 hz0 hz1 hz2 rfl (by omega) hA sR (by(try simp only[Act.eval,eV])<;>exact rfl) (by(try simp only[Act.eval,eV])<;>exact rfl) (Zaz _ _ SR.cells_len _) hyv (ZaK SR.one _) (by unfold maxLen;simp;omega) (by simp;omega) ?_;intro v3 w1 hB;rw[ZbL] at hB;obtain⟨ax3,n3,cap3,hv3,hn3⟩:=hB.row_hid .here;subst hv3;clear hF hA;have hA:=hB;clear hB;obtain⟨hA,hF⟩:=fY hA))
  refine bodyPost_ret (v:=.agg #[.slice ax3 n3 cap3]) (by simp[results,Tryz.results153,go_sem,hF]) rfl (show Zde _ _ _ _ _ _ from⟨_,rfl,?_⟩);rw[hput.out,show L.take i++s::L.drop (i)=(L.take i++[s])++L.drop (i) by simp];exact hA.only1 sR
end Lease
end
end Go.Proofs.YtkdjkngfnapjcaaGreatDoor
