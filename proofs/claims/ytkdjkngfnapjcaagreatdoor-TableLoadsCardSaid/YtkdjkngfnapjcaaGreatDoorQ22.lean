/- TabG, LockT, LockL, LockLa, LockLb, TakC, TakD, CollP, PathZ, joined. -/
import Derived.Test.YtkdjkngfnapjcaaGreatDoorQ21
import Derived.Test.YtkdjkngfnapjcaaGreatDoorQ1
import Derived.RangeFuncNested
import Derived.RangeFuncBound
import Derived.RangeFuncCalls
import Derived.RangeFuncLeaves
import Derived.Shelf.Abstract
import Derived.WalkKit
import Derived.OwnWalkIn
import Derived.TacticsInMore
import Derived.LoopNIn
import Derived.LoopIn
import Derived.Maps.AppendAt
import Derived.Test.YtkdjkngfnapjcaaGreatDoorQ3
import Derived.Test.YtkdjkngfnapjcaaGreatDoorQ9
import Derived.Test.YtkdjkngfnapjcaaGreatDoorQ12
import Derived.Test.YtkdjkngfnapjcaaGreatDoorChecked
import Derived.Test.YtkdjkngfnapjcaaGreatDoorQ18
import Derived.Test.YtkdjkngfnapjcaaGreatDoorQ13
import Derived.Test.YtkdjkngfnapjcaaGreatDoorQ15
import Derived.Test.YtkdjkngfnapjcaaGreatDoorQ17
set_option linter.unusedSimpArgs false
set_option linter.unusedVariables false
set_option maxRecDepth 100000
set_option maxHeartbeats 16000000
namespace Go.Proofs.YtkdjkngfnapjcaaGreatDoor
section
namespace Tab
open Go.RowKit
open Path (bl Zad overB Zaw)
open Lease (Ses Ans fresh ZaQ)
open Lock (S3 Ent)
open Cmd (Cm ZaA)
attribute [-go_sem] run_eql_struct run_neq_struct run_eqGuard_agg
def NewP (first:Int) (R:Part) (w:World) (e:Ending) (w':World):Prop:=∃t p m b,e=.returned (.pointer (some ⟨t,0,none⟩))∧TRel [] b ⟨[],⟨first,[],[]⟩⟩∧At [R] w [TabP t p m [] b,R] w'
theorem new_any {w:World} {R:Part} (h:Sep [R] w) (first:Int):Calls Tryz.prog 42 #[.int .u64 first] w (NewP first R w):=by
 have hA:=At.start h;clear h;obtain⟨hA,hF⟩:=fZ hA
 go_enter Tryz.func42,Tryz.ntmps42
 go_wp2_with fail
 refine(Lease.new_any _).mono ?_;rintro e w1 ⟨p,m,rfl,hT⟩;replace hA:=hA.call0 hT;clear hT hF
 try simp only[uA] at hA
 obtain⟨hA,hF⟩:=fZ hA
 go_wp2_with fail
 refine(Lock.new_any _ first).mono ?_;rintro e w1 ⟨b,rfl,e1,e2,e3,hT⟩;replace hA:=hA.call0 hT;clear hT hF
 try simp only[uA] at hA
 obtain⟨hA,hF⟩:=fZ hA
 go_wp2_with ((with_reducible refine gbx ?_);refine wHz 180 [.pointer (some ⟨p,0,none⟩),.pointer (some ⟨b.p,0,none⟩)] hA ?_;clear hF hA;intro bt w1 hA hbt hF)
 go_ret;refine⟨bt,p,m,b,rfl,⟨rfl,?_⟩,(Zcb (ss:=[]) hA sZ sZ sZ).pick pZ⟩;unfold Lock.Bk.st;rw[e1,e2,e3]
def ansL (a:Ans):List Value:=[.int .i64 a.e,.int .u64 a.n,.bool a.g]
theorem ZmI (a:Ans):∀u ∈ ansL a,u.oneCell'=true:=by
 intro u hu;simp only[ansL,List.mem_cons,List.not_mem_nil,or_false] at hu
 rcases hu with rfl|rfl|rfl<;>rfl
abbrev rowAn (v:Value) (l:List Ans):Part:=Part.row 107 3 v l.length (l.flatMap ansL)
theorem Zjh (v:Value) (l:List Ans) (a:Ans):Part.row 107 3 v (l.length + 1) (l.flatMap ansL++ansL a)=rowAn v (l++[a]):=by
 unfold rowAn;rw[List.length_append]
 simp
theorem infoAn:(Tryz.prog.info? 107).map (fun i=>(i.zero,i.size,i.bytes))=some (some (.agg #[.int .i64 0,.int .u64 0,.bool false]),3,24):=by kernel_rfl
structure CmIn (c:Cm):Prop where
 ok:CmOk c
 r0:0≤c.req
 r1:c.req < Lease.big64
 n0:0≤c.n
abbrev ZeA (R:Part) (v:Value) (l:List Cm):Prop:=∀w,R.holds w→Reads w v l.length (l.flatMap Cm.cells)
theorem Zfz {R:Part} {b0 off0 cap i:Nat} {l:List Cm} {x:Cm} (h:ZeA R (.slice (some ⟨b0,off0,none⟩) l.length cap) l) (hx:l[i]? =some x):∀w,R.holds w→∀(k:Nat) u,(Cm.cells x)[k]? =some u→w.cell? ⟨b0,off0 + i * 8 + k,none⟩=some u:=by
 intro w hw k u hu;obtain⟨ax,c,e,_,hr⟩:=h w hw;cases e;have hk:k < 8:=(List.getElem?_eq_some_iff.1 hu).1;have hf:=Zb1 Cm.cells 8 (fun _=>rfl) l i x hx k hk;rw[hu] at hf;obtain⟨b,off,e2,hc⟩:=hr (i * 8 + k) u hf;cases e2;rw[Nat.add_assoc];exact hc
def PyRel (w:World) (R:Part) (t p m:Nat) (T0:TS) (l:List Cm) (k:Nat) (u1 u2:Value) (wr:World):Prop:=
 ∃(i:Nat) (ss:List Ses) (b:Lock.Bk),u1=.int .i64 i∧i + k=l.length∧TRel ss b (playT T0 (l.take i))∧At [R] w [rowAn u2 (toldT T0 (l.take i)),TabP t p m ss b,R] wr
def PlayP (first:Int) (l:List Cm) (R:Part) (w:World) (e:Ending) (w':World):Prop:=
 ∃t p m ss b av,e=.returned (.tuple #[.pointer (some ⟨t,0,none⟩),av])∧TRel ss b (playT ⟨[],⟨first,[],[]⟩⟩ l)∧At [R] w [rowAn av (toldT ⟨[],⟨first,[],[]⟩⟩ l),TabP t p m ss b,R] w'
theorem Zic:∀(l:List Cm) (t:TS),(toldT t l).length=l.length
 |[],_=>rfl
 |c::l,t=>by simp[toldT,Zic l]
theorem Ziw {w:World} {R:Part} (h:Sep [R] w) {first:Int} (f0:0≤first) (f1:first < Lock.big64) {v:Value} {l:List Cm} (hr:ZeA R v l) (hl:l.length≤1000) (hok:∀c ∈ l,CmIn c):
 Calls Tryz.prog 29 #[.int .u64 first,v] w (PlayP first l R w):=by
 obtain⟨i0,hi0,hz0,hz1,hz2⟩:=info_parts infoAn;have hA:=At.start h;obtain⟨ax,cap,rfl,_,_⟩:=hr w (hA.get .here);have hr':=Hd hr;have hok':=Hd hok;have hi0':=Hd (ZhF f0 f1);clear h hr hok;obtain⟨hA,hF⟩:=fZ hA
 go_enter Tryz.func29,Tryz.ntmps29
 go_wp2_with fail
 refine(new_any (hA.sep1 (A:=R) sZ) first).mono ?_;rintro e w1 ⟨t,p,m,b,rfl,hR0,hT⟩;replace hA:=hA.call1 (A:=R) sZ hT;clear hT hF
 try simp only[uA] at hA
 obtain⟨hA,hF⟩:=fZ hA
 obtain⟨T0,hT0⟩:∃z:TS,⟨[],⟨first,[],[]⟩⟩=z:=⟨_,rfl⟩
 rw[hT0] at hR0 hi0';have hT0':=Hd hT0;have hR0':=Hd hR0;clear hT0 hR0
 go_wp2_with fail
 try go_frame
 have hB:=hA.row_nil 107 3;clear hF hA
 go_loopg [14,7] l.length (PyRel w R t p m T0 l)
 case atStart=>exact⟨0,[],b,rfl,by omega,hR0'.out,hB.pick pZ⟩
 case round=>
  obtain⟨i,ss,b,rfl,hik,hRi,hA⟩:=hrel;clear hB;have hRi':=Hd hRi;clear hRi
  by_cases hi:i < l.length
  · skip
    obtain⟨c,hc⟩:∃c,l[i]? =some c:=⟨_,List.getElem?_eq_getElem hi⟩
    have hci:=hok'.out c (List.mem_of_getElem? hc);have hti:TInv (playT T0 (l.take i)) (0 + (l.take i).length):=Ziv (fun x hx=>(hok'.out x (List.take_subset _ _ hx)).ok) hi0'.out
    have htk:l.take (i + 1)=l.take i++[c]:=by rw[List.take_add_one,hc];rfl
    have hp1:=Hd (show playT T0 (l.take (i + 1))=(Zat (playT T0 (l.take i)) c).1 by rw[htk,Zdb]);have hp2:=Hd (show toldT T0 (l.take (i + 1))=toldT T0 (l.take i)++[(Zat (playT T0 (l.take i)) c).2] by rw[htk,ZeK]);have htl:=Zic (l.take i) T0
    have hlt:(l.take i).length≤1000:=by rw[List.length_take];omega
    obtain⟨bl0,ofl,hax⟩:∃b0 o0,ax=some ⟨b0,o0,none⟩:=by
     obtain⟨ax2,c2,e2,_,hr2⟩:=hr'.out _ (hA.get (A:=R) sZ);cases e2;have hf:=Zb1 Cm.cells 8 (fun _=>rfl) l i c hc 0 (by omega);obtain⟨b0,o0,e3,_⟩:=hr2 (i * 8 + 0) _ hf;exact⟨b0,o0,e3⟩
    subst hax;have hrc:=Zfz hr'.out hc _ (hA.get (A:=R) sZ)
    have hap:=fun(w1:World) (q:Sep [TabP t p m ss b] w1)=>Zk7 q c.kind c.num c.foot c.req c.path c.mode c.n c.time hRi'.out hti (by omega) hci.ok hci.r0 hci.r1 hci.n0
    obtain⟨T1,hT1⟩:∃z,Zat (playT T0 (l.take i)) c=z:=⟨_,rfl⟩
    have hcc:(⟨c.kind,c.num,c.foot,c.req,c.path,c.mode,c.n,c.time⟩:Cm)=c:=rfl;simp only[hcc,hT1] at hap;rw[hT1] at hp1 hp2;clear hT1 hcc hc htk hci hti;obtain⟨T1,⟨le,ln,lg⟩⟩:=T1;obtain⟨kind,num,foot,req,path,mode,n,time⟩:=c;simp only at hap;have hap':=Hd hap;have hrc':=Hd (show ∀(k:Nat) u,([.int .i64 kind,.int .u64 num,.string foot,.int .u64 req,.string path,.int .i64 mode,.int .u64 n,.int .i64 time]:List Value)[k]? =some u→wr.cell? ⟨bl0,ofl + i * 8 + k,none⟩=some u from hrc);clear hap hrc
    generalize toldT T0 (l.take i)=TL at *
    generalize l.take i=li at *
    obtain⟨axa,capa,hva,_,hcpa,_⟩:=hA.row_form (e:=107) (size:=3) (n:=TL.length) (xs:=TL.flatMap ansL) .here;subst hva
    have hTL:TL.length≤1000:=by omega
    clear htl;obtain⟨hA,hF⟩:=fZ hA
    go_wp2_with (first|((with_reducible refine gal ?_);refine g6 hA ?_;clear hF hA;intro b9 w1 hA hb9 hF)|((with_reducible show wpList _ _ _ ({dst:=some 17,op:=Op.load _ _,type:=_,pos:=_,after:=_,guard:=_}::_) _ _);refine Zav (vs:=[.int .i64 kind,.int .u64 num,.string foot,.int .u64 req,.string path,.int .i64 mode,.int .u64 n,.int .i64 time]) rfl rfl (by(try simp only[Act.eval,eV])<;>exact rfl) hrc'.out (by kernel_rfl) (by kernel_rfl) ?_)|((with_reducible refine gst ?_);refine wTz hA ?_;clear hF hA;intro w1 hA hF))
    refine(hap'.out _ (hA.sep1 (A:=TabP t p m ss b) sZ)).mono ?_;rintro e w2 ⟨ss2,b2,rfl,hR2,hT⟩;replace hA:=hA.call1 (A:=TabP t p m ss b) sZ hT;clear hT hF
    try simp only[uA] at hA
    obtain⟨hA,hF⟩:=fZ hA;have hR2':=Hd hR2;clear hR2 hap';simp only[Lease.Ans.val]
    go_wp2_with (first|((with_reducible show wpList _ _ _ ({dst:=_,op:=Op.buildSlice _ _ _,type:=_,pos:=_,after:=_,guard:=_}::_) _ _);refine Zbr (e:=107) (vs:=ansL ⟨le,ln,lg⟩) rfl rfl (by(try simp only[Act.eval,eV])<;>exact rfl) (fun _=>by kernel_rfl) hA ?_;intro b22 w1 hB hb22;clear hF hA;have hA:=hB;clear hB;obtain⟨hA,hF⟩:=fZ hA)|((with_reducible show wpList _ _ _ ({dst:=_,op:=Op.call {callee:=Callee.builtin Builtin.append,args:=_,argTypes:=_},type:=_,pos:=_,after:=_,guard:=_}::_) _ _);refine Za1 (e:=107) (size:=3) (v:=.slice axa TL.length capa) (xs:=TL.flatMap ansL) (n:=TL.length) (m:=1) (news:=ansL ⟨le,ln,lg⟩) rfl _ _ 76 rfl Tryz.underlying76 hi0 hz0 hz1 hz2 rfl (by omega) hA sZ (by(try simp only[Act.eval,eV])<;>exact rfl) (by(try simp only[Act.eval,eV])<;>exact rfl) rfl (hA.cells_reads sZ _ _) (ZmI _) (by unfold maxLen;omega) (by omega) ?_;intro v23 w1 hB;rw[Zjh] at hB;clear hF hA;have hA:=hB;clear hB;obtain⟨hA,hF⟩:=fZ hA))
    go_roundg (gk - 1)
    case measure=>omega
    case rel=>exact⟨i + 1,ss2,b2,by simp,by omega,by rw[hp1.out];exact hR2'.out,by rw[hp2.out];exact hA.pick pZ⟩
  have hi2:i=l.length:=by omega
  subst hi2;rw[List.take_of_length_le (Nat.le_refl _)] at hA hRi';obtain⟨hA,hF⟩:=fZ hA
  go_wp2_with fail
  refine bodyPost_ret (v:=.tuple #[.pointer (some ⟨t,0,none⟩),u7]) (by simp[results,Tryz.results29,go_sem,hF]) rfl ?_;exact⟨t,p,m,ss,b,_,rfl,by rw[hT0'.out];exact hRi'.out,by rw[hT0'.out];exact hA.pick pZ⟩
end Tab
end
section
namespace Lock
open _root_.Go.Proofs.YtkdjkngfnapjcaaGreatDoor.Mark (seenOf seenOf_eq iter_walk iter_keeps grown_of_exc grown_of_ext Box Box.own)
open Go.RowKit Go.Shelf
open Go.Maps (Keyed)
attribute [local go_sem] Oper.semAt_some
def unE2:Value→Ent
 |.agg #[.string p,.int _ n,.string f,.int _ m,.int _ k,.int _ s]=>⟨p,n,f,m,k,s⟩
 |_=>nullE
theorem ZhA {l m:List Ent} (h:(l.map Ent.val).Perm (m.map Ent.val)):l.Perm m:=by
 have:=h.map unE2
 have e:∀x:Ent,unE2 x.val=x:=fun _=>rfl
 simpa [List.map_map,Function.comp_def,e] using this
theorem Zlq (F:Fence) (n:Nat) (h1:F.fn 172) (hro:F.round=none) (hn:1≤n) (l Bm b:Nat) (es:List (Value × Value)) (ks:List (Ent)) (hes:es.map (·.2)=ks.map Ent.val) (J Jx:List (Ent)→World→Prop)
 (W:World) (hJ:AbidesFrom W.heap.size J)
 (hY:∀pre x W1,J pre W1→pre.length < ks.length→YieldAt F (n - 1) Tryz.prog l #[x.val] W1 fun e W'=>(e=.returned (.bool true)∧J (pre++[x]) W'∧KeepsWalks W1 W')∨(e=.returned (.bool false)∧Jx (pre++[x]) W'))
 (hm:W.cell? ⟨Bm,0,none⟩=some (.map (some b))) (hM:MapAt Tryz.prog 203 W b es) (h0:J [] W):
 CallsIn F n Tryz.prog 172 #[.func (.yield l) #[] #[],.pointer (some ⟨Bm,0,none⟩)] W fun e W'=>(∃v,e=.returned v)∧((∃ys,ys.Perm ks∧J ys W')∨(∃pre,True∧Jx pre W')):=by
 obtain⟨W0,hrun,hext,hI⟩:=Zam.start hM Tryz.underlying201;have hJ0:J [] W0:=hJ _ W W0 none h0 (grown_of_ext hext) (fun r e=>by cases e);refine callsIn_of_wp Tryz.func172 rfl h1 ?_ hro;simp only[Tryz.ntmps172,List.size_toArray,List.length_cons,List.length_nil,Nat.reduceAdd,Nat.reduceSub,Array.replicate_succ,Array.replicate_zero,List.push_toArray,List.append_toArray,List.nil_append,List.cons_append]
 gi_wp2
 clear hrun
 try go_frame
 gi_loopw [4] (fun _ wr=>∃(done:List (Value × Value)) (ds:List (Ent)),Zam Tryz.prog 203 wr W.heap.size b es done∧done.map (·.2)=ds.map Ent.val∧J ds wr)
  (fun _ wr=>es.length - seenOf wr W.heap.size)
 case atStart=>exact⟨[],[],hI,rfl,hJ0⟩
 case round=>
  obtain⟨done,ds,hI1,hd,hJs⟩:=hrel
  rcases hI1.next 0 with⟨hp,hrun⟩|⟨p,w',hp,hne,hrun,hI2,hx⟩
  · have hpp:ds.Perm ks:=(ZhA (by rw[←hes,←hd];exact hp.map _)).symm
    clear hes hd
    gi_wp2
    go_end0
    exact⟨⟨_,rfl⟩,.inl ⟨ds,hpp,hJs⟩⟩
  obtain⟨pk,pv⟩:=p
  have hpk:pv ∈ es.map (·.2):=List.mem_map.2 ⟨_,hp,rfl⟩;rw[hes] at hpk;obtain⟨x,_,rfl⟩:=List.mem_map.1 hpk
  have hlen:ds.length < ks.length:=by
   have e1:=congrArg List.length hes;have e2:=congrArg List.length hd;have e3:=hI2.len
   simp at e1 e2 e3
   omega
  have hJ1:J ds w':=hJ ds wr w' (some W.heap.size) hJs (grown_of_exc hx) (fun r e=>by cases e;exact⟨Nat.le_refl _,iter_walk hI1⟩);have hJ2:J ds (w'.alloc (.cells #[.string x.path,.int .u64 x.num,.string x.foot,.int .i64 x.mode,.int .u64 x.n,.int .i64 x.stamp] 97)):=hJ _ _ _ none hJ1 (World.grownBy_alloc _ _ none) (fun r e=>by cases e);have hI3:Zam Tryz.prog 203 (w'.alloc (.cells #[.string x.path,.int .u64 x.num,.string x.foot,.int .i64 x.mode,.int .u64 x.n,.int .i64 x.stamp] 97)) W.heap.size b es (done++[(pk,x.val)]):=(Part.iter _ _ _ _ _ _).stay _ _ hI2 (fun q hq=>Below.heap_alloc _ _ _ ((Part.iter _ _ _ _ _ _).lt _ hI2 q hq));obtain⟨fn,tmps,assign,body,hy,hR⟩:=hY ds x _ hJ2 hlen;have hen:=hI2.entry;have hs0:=seenOf_eq hI1;have hes':=Hd hes;have hd':=Hd hd;have hs':=Hd hs0;have hle:=hI2.len;clear hes hd hs0 hpk hp hne hx;unfold Ent.val at hrun hen hy
  gi_wp2
  refine hR.mono ?_;rintro e W3 (⟨rfl,hJ3,hk3⟩|⟨rfl,hJx3⟩)
  · gi_wp2
    go_roundw
    case rel=>exact⟨done++[(pk,x.val)],ds++[x],iter_keeps hI3 hk3,by simp[hd'.out],hJ3⟩
    case measure=>
     have e1:=seenOf_eq (iter_keeps hI3 hk3);have e2:=hs'.out;rw[e1,e2]
     simp at hle ⊢
     omega
  gi_wp2
  refine bodyPost_ret (results_none rfl _ _ _) rfl ?_;exact⟨⟨_,rfl⟩,.inr ⟨_,trivial,hJx3⟩⟩
theorem Zna (F:Fence) (n:Nat) (h1:F.fn 121) (hro:F.round=none) (mb:Option Nat) (w:World):
 CallsIn F n Tryz.prog 121 #[.map mb] w fun e w'=>e=.returned (.func (.func 172) #[] #[.pointer (some ⟨w.heap.size,0,none⟩)])∧w'=w.alloc (.cells #[.map mb] 201):=by
 refine callsIn_of_wp Tryz.func121 rfl h1 ?_ hro;simp only[Tryz.ntmps121,List.size_toArray,List.length_cons,List.length_nil,Nat.reduceAdd,Nat.reduceSub,Array.replicate_succ,Array.replicate_zero,List.push_toArray,List.append_toArray,List.nil_append,List.cons_append]
 gi_wp2
 go_ret;exact⟨rfl,rfl⟩
theorem Zi9 (F:Fence) (n:Nat) (h1:F.fn 172) (hro:F.round=none) (hn:1≤n) (Bm b:Nat) (es:List (Value × Value)) (ks:List (Ent)) (hes:es.map (·.2)=ks.map Ent.val) (w:World) (hBm:Bm < w.heap.size)
 (hm:w.cell? ⟨Bm,0,none⟩=some (.map (some b))) (hM:MapAt Tryz.prog 203 w b es):
 SeqStopsK F n Tryz.prog 172 #[.pointer (some ⟨Bm,0,none⟩)] (fun x:Ent=> #[x.val]) KeepsWalks (fun ys=>ys.Perm ks) (fun _=>True) ks.length w:=fun l J Jx W hW hJ _ hY h0=>
 Zlq F n h1 hro hn l Bm b es ks hes J Jx W hJ hY ((hW.cell (p:=⟨Bm,0,none⟩) hBm).trans hm) (hM.same (hW.block b hM.lt)) h0
theorem infoID:(Tryz.prog.info? 97).map (fun i=>(i.zero,i.size,i.bytes))=some (some (.agg #[.string .empty,.int .u64 0,.string .empty,.int .i64 0,.int .u64 0,.int .i64 0]),6,64):=by kernel_rfl
theorem Znh (W:World) (a b c d e f:Value) (t:TypeId):∀(j:Nat) (u:Value),[a,b,c,d,e,f][j]? =some u→(W.alloc (.cells #[a,b,c,d,e,f] t)).cell? ((⟨W.heap.size,0,none⟩:Addr).add j)=some u:=by
 intro j u h
 match j,h with
 |0,h=>simp at h;subst h;simp[Addr.add]
 |1,h=>simp at h;subst h;simp[Addr.add]
 |2,h=>simp at h;subst h;simp[Addr.add]
 |3,h=>simp at h;subst h;simp[Addr.add]
 |4,h=>simp at h;subst h;simp[Addr.add]
 |5,h=>simp at h;subst h;simp[Addr.add]
 |j + 6,h=>simp at h
def MidI (w:World) (pre:List (Ent)) (W:World):Prop:=
 (∃v,Boxed W w.heap.size 94 v∧W.ownsRow w.heap.size 97 6 v pre.length (pre.flatMap Ent.cells)∧(v=.slice none 0 0↔pre=[]))∧Below w.heap.size w W
theorem midI_own (w:World) (B:Nat) (hB:w.heap.size≤B):OwnFrom B (MidI w):=
 OwnFrom.and (Own.from (holdsRow_own w.heap.size w.heap.size 94 97 6 (fun pre=>pre.length) (fun pre=>pre.flatMap Ent.cells) (fun pre v=>v=.slice none 0 0↔pre=[])) _) (ownFrom_below (Nat.le_refl _) hB)
def MidAx (w:World) (sv:Value) (x:Ent) (a':Act) (W:World):Prop:=
 ∃Bx,w.heap.size < Bx∧Box W Bx 97 #[.string x.path,.int .u64 x.num,.string x.foot,.int .i64 x.mode,.int .u64 x.n,.int .i64 x.stamp]∧a'={tmps:= #[.slice none 0 0,sv,.pointer (some ⟨w.heap.size,0,none⟩),undef,.slice none 0 0,.pointer (some ⟨Bx,0,none⟩),sv,x.val,undef,undef,undef,undef,undef],defers:=[]}
theorem midAx_own (w:World) (sv:Value) (B:Nat) (x:Ent) (a':Act):OwnFrom B (fun(_:Unit) W=>MidAx w sv x a' W):=by
 rintro s X Y row ⟨Bx,h1,h2,h3⟩ hg hr;exact⟨Bx,h1,(Box.own (β:=Unit) Bx _ _).from B () X Y row h2 hg hr,h3⟩
theorem appendSeq_in (F:Fence) (n:Nat) (hF:F.fn 171) (hro:F.round=none) (hn:3≤n) (gf:Nat) (lb:Array Value) (hFg:F.fn gf) (eg:∀args w,(callFunc gf args).run Tryz.prog w=.ok (.enter gf args) w)
 (S Sp:List (Ent)→Prop) (N:Nat) (hN:N≤100000000) (w:World) (hseq:SeqStopsK F (n - 1) Tryz.prog gf lb (fun x:Ent=> #[x.val]) KeepsWalks S Sp N w):
 CallsIn F n Tryz.prog 171 #[.slice none 0 0,.func (.func gf) #[] lb] w fun e w'=>∃(v:Value) (ss:List (Ent)),e=.returned v∧S ss∧w'.ownsRow w.heap.size 97 6 v ss.length (ss.flatMap Ent.cells)∧(v=.slice none 0 0↔ss=[])∧Below w.heap.size w w':=by
 have h1:1≤n:=by omega
 obtain⟨i0,hi,hz0,hz1,hz2⟩:=info_parts infoID;refine callsIn_of_wp_marks Tryz.func171 rfl hF ?_ hro;simp only[Tryz.ntmps171,List.size_toArray,List.length_cons,List.length_nil,Nat.reduceAdd,Nat.reduceSub,Array.replicate_succ,Array.replicate_zero,List.push_toArray,List.append_toArray,List.nil_append,List.cons_append]
 gi_wp2
 have bO:=Boxed.new w 94 (.slice none 0 0);have hB0:Below w.heap.size w (w.alloc (.cells #[.slice none 0 0] 94)):=(Below.refl _ w).alloc (Nat.le_refl _) _
 refine wpIn_rangeFunc_ownH hro h1 (gf:=gf) (lb:=lb) rfl hFg eg hseq walksK_t walksK_b hB0 (fun _=>rfl)
  (MidI w) (fun _ _ _=>False) (midI_own w _ (by simp)) (fun _ _ _ _ _ hs _ _=>hs)
  ⟨⟨_,bO,World.ownsRow_nil _ _ _ _,by simp⟩,hB0⟩
  (MidAx w (.func (.func gf) #[] lb)) (fun x a'=>midAx_own w _ _ x a') ?assign ?body ?done ?stop
 case assign=>
  rintro l pre x W K ⟨⟨v,hv,hrow,hnil⟩,hB⟩ hK;have hsz:=hB.size;unfold Ent.val
  gi_wp2
  refine hK _ _ ((KeepsOthers.alloc _ _).from _) (KeepsWalks.alloc _ _) ⟨⟨v,hv.alloc _,hrow.alloc _,hnil⟩,hB.alloc hB.size _⟩ ⟨W.heap.size,hv.lt,World.alloc_heap_new W _,rfl⟩
 case body=>
  rintro l pre x a' W hl ⟨r,hr⟩ ⟨⟨v,hv,hrow,hnil⟩,hB⟩ ⟨Bx,hBx,bX,rfl⟩ hlt;have hc:=hv.cell
  have c0:W.cell? ⟨Bx,0,none⟩=some (.string x.path):=by unfold Box at bX;simp[World.cell?,bX]
  have c1:W.cell? ⟨Bx,1,none⟩=some (.int .u64 x.num):=by unfold Box at bX;simp[World.cell?,bX]
  have c2:W.cell? ⟨Bx,2,none⟩=some (.string x.foot):=by unfold Box at bX;simp[World.cell?,bX]
  have c3:W.cell? ⟨Bx,3,none⟩=some (.int .i64 x.mode):=by unfold Box at bX;simp[World.cell?,bX]
  have c4:W.cell? ⟨Bx,4,none⟩=some (.int .u64 x.n):=by unfold Box at bX;simp[World.cell?,bX]
  have c5:W.cell? ⟨Bx,5,none⟩=some (.int .i64 x.stamp):=by unfold Box at bX;simp[World.cell?,bX]
  have hsz:=hB.size
  gi_wp2_with (gi_at_builtin;refine wpListIn_append_own _ rfl _ _ 94 rfl w.heap.size 97 i0 (.agg #[.string .empty,.int .u64 0,.string .empty,.int .i64 0,.int .u64 0,.int .i64 0]) 6 64 Tryz.underlying94 hi hz0 hz1 hz2 rfl (by decide) _ _ _ rfl (hrow.alloc _) ⟨W.heap.size,0,none⟩ 1 1 [.string x.path,.int .u64 x.num,.string x.foot,.int .i64 x.mode,.int .u64 x.n,.int .i64 x.stamp] rfl rfl (Znh _ _ _ _ _ _ _ _) (by simp[Value.oneCell']) (by unfold maxLen;omega) (by omega) (by simp;omega) ?_;intro v' w1 hown' hgrow _;obtain⟨g',cap',rfl⟩:=ownsRow_succ hown';obtain⟨hv1,hv2,hr2,hk2,hb2⟩:=hv.appended (by decide) hrow hB.size (Nat.le_refl _) hown' hgrow;have hc1:=hv1.cell;have hf1:=hv1.frozen)
  exact⟨hk2.from _,hk2.walks,⟨_,hv2,by simpa [Ent.cells] using hr2,by simp⟩,hB.trans hb2⟩
 case done=>
  rintro D ys W hD hS ⟨⟨v,hv,hrow,hnil⟩,hB⟩ hK;have hc:=hv.cell
  gi_wp2
  refine⟨by simp,.inl ⟨_,_,rfl,run_takeDeferred hK,?_⟩⟩;exact⟨_,results_tmp rfl _ _ _,v,ys,rfl,hS,ownsRow_putObj hrow _ hK rfl,hnil,hB.trans (belowK_b (w:=w) (Nat.le_refl _) W D _ _ (by simp at hD;omega) hK rfl rfl)⟩
 case stop=>
  rintro D c pre W _ _ h _;exact h.elim
theorem collect_in (F:Fence) (n:Nat) (hF:F.fn 120) (hF2:F.fn 171) (hro:F.round=none) (hn:4≤n) (gf:Nat) (lb:Array Value) (hFg:F.fn gf) (eg:∀args w,(callFunc gf args).run Tryz.prog w=.ok (.enter gf args) w)
 (S Sp:List (Ent)→Prop) (N:Nat) (hN:N≤100000000) (w:World) (hseq:SeqStopsK F (n - 1 - 1) Tryz.prog gf lb (fun x:Ent=> #[x.val]) KeepsWalks S Sp N w):
 CallsIn F n Tryz.prog 120 #[.func (.func gf) #[] lb] w fun e w'=>∃(v:Value) (ss:List (Ent)),e=.returned v∧S ss∧w'.ownsRow w.heap.size 97 6 v ss.length (ss.flatMap Ent.cells)∧(v=.slice none 0 0↔ss=[])∧Below w.heap.size w w':=by
 have h1:1≤n:=by omega
 refine callsIn_of_wp Tryz.func120 rfl hF ?_ hro;simp only[Tryz.ntmps120,List.size_toArray,List.length_cons,List.length_nil,Nat.reduceAdd,Nat.reduceSub,Array.replicate_succ,Array.replicate_zero,List.push_toArray,List.append_toArray,List.nil_append,List.cons_append]
 gi_wp2_with (gi_at_call 171;refine(appendSeq_in F (n - 1) hF2 hro (by omega) gf lb hFg eg S Sp N hN _ hseq).mono ?_;rintro e W ⟨v,ss,rfl,hS,hrow,hnil,hb⟩)
 go_ret;exact⟨v,ss,rfl,hS,hrow,hnil,hb⟩
theorem Zg5 (Bm b:Nat) (es:List (Value × Value)) (ks:List (Ent)) (hes:es.map (·.2)=ks.map Ent.val) (w:World) (hBm:Bm < w.heap.size) (hm:w.cell? ⟨Bm,0,none⟩=some (.map (some b))) (hM:MapAt Tryz.prog 203 w b es) (hN:ks.length≤100000000):
 Calls Tryz.prog 120 #[.func (.func 172) #[] #[.pointer (some ⟨Bm,0,none⟩)]] w fun e w'=>∃(v:Value) (ss:List (Ent)),e=.returned v∧ss.Perm ks∧w'.ownsRow w.heap.size 97 6 v ss.length (ss.flatMap Ent.cells)∧(v=.slice none 0 0↔ss=[])∧Below w.heap.size w w':=
 callsIn_wide.1 (collect_in Fence.wide 5 trivial trivial rfl (by omega) _ _ trivial (enters_of Tryz.func172 (by kernel_rfl) rfl) _ _ ks.length hN w
  (Zi9 Fence.wide _ trivial rfl (by omega) Bm b es ks hes w hBm hm hM))
end Lock
end
section
namespace Lock
open _root_.Go.Proofs.YtkdjkngfnapjcaaGreatDoor.Mark (Zci ZbR ZaS orI or2 Zco)
open Go.RowKit Go.Shelf Go.Sort
open Go.Maps (Keyed)
open Path (bl Zad overB cmpP)
theorem Zkt (x y:Ent) (w:World) (hx:x.path.size≤1000) (hy:y.path.size≤1000):Calls Tryz.prog 123 #[x.val,y.val] w fun e w'=>e=.returned (.int .i64 (cmpE x y))∧Ext w w':=by
 have hA:At [] w [] w:=At.start (L0:=[]) trivial;have hF:=hA.facts
 have hcp:=fun(w1:World)=>Path.ZbJ x.path y.path w1 (by omega) (by omega)
 unfold cmpE
 generalize cmpP (bl x.path) (bl y.path)=cp at *
 have hcc:=fun(w1:World)=>Tryz.cmp_Compare_int x.stamp y.stamp w1
 generalize hcs:Lib.compareInt x.stamp y.stamp=cs at *
 obtain⟨p1,n1,f1,m1,k1,s1⟩:=x;obtain⟨p2,n2,f2,m2,k2,s2⟩:=y
 simp only[Ent.val] at *
 go_enter Tryz.func123,Tryz.ntmps123
 go_wp2_with ((with_reducible refine gbx ?_);refine wCy (E:=97) hA ?_;clear hF hA;intro bX w1 hA hbX hF)
 try go_frame
 (refine Zaj 10 (Cl _ _ _) (by kernel_rfl) (by kernel_rfl) (Cl.drew hA) ?_);(simp only[List.take_succ_cons,List.take_zero,List.drop_succ_cons,List.drop_zero]);(have hn1:=Cl.none hA);(have hn2:=Cl.none2 hA);(repeat(first|go_big_quiet_skip|(go_big_quiet_want;(first|(refine qL ?_;go_frame;go_big_quiet_on)|(go_big_quiet_op;(first|go_big_quiet_on|((apply Exists.intro);(refine⟨fun w1 hw=> ?_,?_⟩);(focus((have hw:=Cl.out hw);(first|exact through0 hw (hcp _)|exact(hcc _).mono fun _ _ ⟨he,hq⟩=>⟨he,hq ▸ hw⟩)));(go_big_quiet_on))))))))
 (refine wpQuiet_nil ?_);(intro w1 hB);(clear hF hA hn1 hn2);(have hA:=Cl.out hB);(clear hB);obtain⟨hA,hF⟩:=fY hA
 clear hcp hcc;have hB:=hA.alloc [.int .i64 cp,.int .i64 cs] 3;have hx1:=hA.toExt
 go_wp2_with fail
 refine(or2 cp cs _ _ ?h0 ?h1).mono ?_
 case h0=>exact Zco _ _ (by simp) _ _ _ _ rfl
 case h1=>exact Zco _ _ (by simp) _ _ _ _ rfl
 rintro e _ ⟨rfl,rfl⟩
 go_wp2_with fail
 go_ret;exact⟨rfl,hx1.alloc _⟩
section
variable {es:List Ent} (H:Sortable es)
theorem Zf2 (x:EntI es):(encI es x).length=6:=rfl
theorem encI_one (x:EntI es):∀v ∈ encI es x,v.oneCell'=true:=by
 intro u hu;simp only[encI,Ent.cells,List.mem_cons,List.not_mem_nil,or_false] at hu
 rcases hu with rfl|rfl|rfl|rfl|rfl|rfl<;>rfl
theorem cmpLaysI [Inhabited (EntI es)] (hs:∀e ∈ es,e.path.size≤1000) (blk off size:Nat) (w:World):CmpLays Tryz.prog 123 #[] (encI es) 6 (cmpI es) blk off size w:=
 fun _ _ _ _ x y=>Path.Ze6 (Zkt x.1 y.1 _ (hs _ x.2) (hs _ y.2))
end
abbrev rowL (v:Value) (l:List Ent):Part:=.row 97 6 v l.length (l.flatMap Ent.cells)
def ZmQ (w:World) (b:Bk) (e:Ending) (w':World):Prop:=∃(v:Value) (l:List Ent),e=.returned v∧l.Perm b.es∧l.Pairwise ltE∧At [BookP b] w [rowL v l,BookP b] w'
theorem Zl2 {es:List Ent} (h:es.Pairwise (fun a b=>a.key≠b.key)):es.Nodup:=h.imp (fun h e=>h (by rw[e]))
theorem ZiD {w:World} {b:Bk} (h:Sep [BookP b] w) (H:Sortable b.es) (hmax:b.es.length≤1000000) (hs:∀e ∈ b.es,e.path.size≤1000):
 Calls Tryz.prog 46 #[.pointer (some ⟨b.p,0,none⟩)] w (ZmQ w b):=by
 have hA:=begin0 h;have hkeys:=ZhK (MapAt.keys (hA.get (A:=mapC b.m (ents b.es)) sR));have hnd:=Zl2 hkeys;obtain⟨hA,hF⟩:=fY hA;clear h hkeys
 go_enter Tryz.func46,Tryz.ntmps46
 go_wp2_with fail
 refine(callsIn_wide.1 (Zna Fence.wide 1 trivial rfl (some b.m) w)).mono ?_;rintro e _ ⟨rfl,rfl⟩;have hB:=hA.alloc [.map (some b.m)] 201
 go_wp2_with fail
 refine(Zg5 w.heap.size b.m (ents b.es) b.es (by simp[ents,ent]) _ (by simp) ((Zaa.alloc w [.map (some b.m)] 201).cell 0) (hB.get (A:=mapC b.m (ents b.es)) sR) (by omega)).mono ?_;rintro e w1 ⟨v,ss,rfl,hp,hrow,hnil,hb⟩;have hC:=hB.row_new hb hrow;have hB2:=fold0 b hC sR sR sR;have hC2:=hB2.only2 (A:=rowL v ss) (B:=BookP b) sZ sZ;have hll:=hp.length_eq;clear hF hA hB hC hB2
 rcases hrow.2 with⟨rfl,hz⟩|⟨gb,cap,cur,rfl,hbase,hgb,r1,r2,r3,r4⟩
 · have hss:ss=[]:=List.eq_nil_of_length_eq_zero hz
   subst hss
   have hS:Calls Tryz.prog 122 #[.slice none 0 0,.func (.func 123) #[] #[]] w1 fun e w'=>e=.returned (.tuple #[])∧w'=w1:=AnyF.slices_SortFunc_none Tryz.sort122 none 0 _ w1
   go_wp2_with fail
   refine hS.mono ?_;rintro e _ ⟨rfl,rfl⟩
   go_wp2_with fail
   go_ret;exact⟨_,[],rfl,hp,.nil,hC2⟩
 have hsub:∀x ∈ ss,x ∈ b.es:=fun x hx=>hp.mem_iff.1 hx
 have htm:=toI_map ss hsub
 obtain⟨ti,hti⟩:∃ti,toI ss hsub=ti:=⟨_,rfl⟩
 rw[hti] at htm
 have htl:ti.length=ss.length:=by rw[←htm];simp
 have hflat:ti.flatMap (encI b.es)=ss.flatMap Ent.cells:=by rw[encI_flat,htm]
 have htn:ti.Nodup:=by
  have:(ti.map (·.1)).Nodup:=by rw[htm];exact hp.nodup_iff.2 hnd
  exact(List.pairwise_map.1 this).imp (fun q e=>q (by rw[e]))
 have hne:ss≠[]:=fun e=>by have:=hnil.2 e;cases this
 have hpos:0 < ss.length:=List.length_pos_iff.2 hne
 haveI:Inhabited (EntI b.es):=⟨⟨ss[0]'hpos,hsub _ (List.getElem_mem _)⟩⟩
 have hH:HoldsK (encI b.es) 6 w1 gb 0 ti.toArray:=Zci (encI b.es) 6 Zf2 hgb (by rw[htl,hflat];exact r4);have hgl:gb < w1.heap.size:=(Array.getElem?_eq_some_iff.1 hgb).1
 have hsz:ti.toArray.size < 4611686018427387904:=by simp;omega
 have hS:Calls Tryz.prog 122 #[.slice (some ⟨gb,0,none⟩) ti.length cap,.func (.func 123) #[] #[]] w1 fun e w'=>e=.returned (.tuple #[])∧∃n os,w'=sortWorldK (encI b.es) 6 w1 gb 0 n (sortI H ti).toArray os:=
  AnyQ.slices_SortFunc_total Tryz.sort122 6 Tryz.isAgg97 Tryz.sizeOf97 (encI b.es) Zf2 encI_one (cmpI b.es) (swoI H) 123 #[] gb 0 cap ti.toArray w1 (enters_of Tryz.func123 (by kernel_rfl) rfl) (cmpLaysI hs _ _ _ _) hH hgl hsz (totI H)
 rw[htl] at hS;have htl':=Hd htl;clear hll hmax htl
 go_wp2_with fail
 refine hS.mono ?_;rintro e _ ⟨rfl,nn,os,rfl⟩
 go_wp2_with fail
 go_ret;have hown:=ZbR (encI b.es) 6 Zf2 (w:=w1) (base:=0) (cap:=cap) (n:=nn) (os:=os) (sortI_len H ti) (Nat.zero_le _) hgb (by rw[htl'.out];exact r1) r2 r3;have hlt:=sortI_lt H ti htn
 have hlp:((sortI H ti).map (fun x:EntI b.es=>x.1)).Perm ss:=by
  have:=(sortI_perm H ti).map (fun x:EntI b.es=>x.1)
  rwa [htm] at this
 rw[encI_flat,htl'.out,←hlp.length_eq] at hown
 generalize (sortI H ti).map (fun x:EntI b.es=>x.1)=l at *
 have hD:=hC2.turn (A:=rowL (.slice (some ⟨gb,0,none⟩) ss.length cap) ss) .here (rowL (.slice (some ⟨gb,0,none⟩) l.length cap) l) hown (fun b hb=>.inl hb) (Zbk (ZaS _));refine⟨_,l,?_,hlp.trans hp,hlt,hD⟩;rw[hlp.length_eq]
 rfl
end Lock
end
section
namespace Lock
open Go.RowKit
open Go.Maps (Keyed)
open Path (bl Zad overB)
theorem old_cell {W w:World} (h:(Part.old W).holds w) {b off:Nat} {u:Value} (hc:W.cell? ⟨b,off,none⟩=some u):w.cell? ⟨b,off,none⟩=some u:=by
 have hb:b < W.heap.size:=by
  rcases Nat.lt_or_ge b W.heap.size with q|q
  · exact q
  simp[World.cell?,Array.getElem?_eq_none q] at hc
 have:=h b hb;rw[←hc];simp[World.cell?,this]
theorem below_old {w w':World} {L F:List Part} (h:At [Part.old w] w L w') (s:Sel (Part.old w) L F):Below w.heap.size w w':=by
 have ho:(Part.old w).holds w':=h.get s;exact⟨h.exc.os,h.exc.tape,h.exc.output,h.exc.size,fun b hb=>ho b hb⟩
def pAB:ByteArray:=⟨#[97,47,98]⟩
def pA:ByteArray:=⟨#[97]⟩
def pAC:ByteArray:=⟨#[97,47,99]⟩
def e1:Ent:=⟨pAB,1,pA,2,1,1⟩
def e2:Ent:=⟨pA,1,pA,2,1,2⟩
def e3:Ent:=⟨pAC,1,pA,1,1,3⟩
def s0:S3:=⟨0,[],[]⟩
def s1:S3:=⟨0,[e1],[(pAB,1)]⟩
def s2:S3:=⟨0,[e1,e2],[(pAB,1),(pA,1)]⟩
def s3:S3:=⟨0,[e1,e2,e3],[(pAB,1),(pA,1),(pAC,1)]⟩
def s4:S3:=⟨0,[e2,e3],[(pAB,1),(pA,1),(pAC,1)]⟩
end Lock
end
section
namespace Lock
open Go.RowKit
open Go.Maps (Keyed)
open Path (bl Zad overB)
theorem Ent.cells_len (s:Ent):s.cells.length=6:=rfl
structure Pl where
 p:Nat
 m:Nat
 c:Nat
def Pl.at (a:Pl) (s:S3):Bk:=⟨a.p,a.m,a.c,s.first,s.es,s.cs⟩
abbrev bookS (a:Pl) (s:S3):Part:=BookP (a.at s)
section
variable {a:Pl} {s:S3} {k:Nat} {w:World} {p f:ByteArray} {n mode:Int}
def Zlj (w:World) (a:Pl) (s:S3) (e:Ending) (w':World):Prop:=∃(v:Value) (l:List Ent),e=.returned v∧l.Perm s.es∧l.Pairwise ltE∧At [bookS a s] w [rowL v l,bookS a s] w'
end
end Lock
end
section
namespace Lock
end Lock
end
section
namespace Lock
open _root_.Go.Proofs.YtkdjkngfnapjcaaGreatDoor.Wire
open _root_.Go.Proofs.YtkdjkngfnapjcaaGreatDoor.Enc
theorem Zbs (s:ByteArray) (h:s.size≤20000000000000):(textB s).length≤10 + s.size:=by
 have h1:=Zal 9 s.size (by omega);unfold textB;rw[List.length_append,ZcL]
 omega
theorem ZfX {α:Type} {f:α→List Int} {P:α→Prop} {k:Nat} (hf:∀a,P a→(f a).length≤k):∀l:List α,(∀a ∈ l,P a)→(l.flatMap f).length≤l.length * k
 |[],_=>by simp
 |x::l,h=>by
  have q1:=hf x (h x (by simp));have q2:=ZfX hf l (fun a ha=>h a (by simp[ha]));rw[List.flatMap_cons,List.length_append,List.length_cons,Nat.add_mul]
  omega
structure okW (e:Ent):Prop where
 ok:okE e
 pb:e.path.size≤100
 fb:e.foot.size≤2000000
 sb:e.stamp≤4611686018427387904
 m:e.mode=1∨e.mode=2
structure okV (c:ByteArray × Int):Prop where
 ok:okC c
 pb:c.1.size≤100
theorem encE_len {e:Ent} (h:okW e):(encE e).length≤2100000:=by
 have q1:=Zbs e.path (by have:=h.pb;omega);have q2:=Zbs e.foot (by have:=h.fb;omega)
 have q3:(fixL e.num.toNat).length=8:=by simp[fixL]
 have q4:(fixL e.n.toNat).length=8:=by simp[fixL]
 have q5:=Zal 9 e.stamp.toNat (by have:=h.sb;omega);have q6:=h.pb;have q7:=h.fb;unfold encE;simp only[List.length_append,List.length_cons,List.length_nil]
 omega
theorem encC_len {c:ByteArray × Int} (h:okV c):(encC c).length≤200:=by
 have q1:=Zbs c.1 (by have:=h.pb;omega)
 have q3:(fixL c.2.toNat).length=8:=by simp[fixL]
 have q6:=h.pb;unfold encC;simp only[List.length_append]
 omega
theorem encB_len {es:List Ent} {cs:List (ByteArray × Int)} (h:∀e ∈ es,okW e) (k:∀c ∈ cs,okV c) (hl:es.length≤1000) (hm:cs.length≤1000):(encB es cs).length≤3000000000:=by
 have q1:=Zal 9 es.length (by omega);have q2:=ZfX (f:=encE) (P:=okW) (k:=2100000) (fun a ha=>encE_len ha) es h;have q3:=Zal 9 cs.length (by omega);have q4:=ZfX (f:=encC) (P:=okV) (k:=200) (fun a ha=>encC_len ha) cs k;unfold encB;simp only[List.length_append]
 omega
def Feet (s:S3):Prop:=∀e ∈ s.es,e.foot.size≤2000000
theorem Inv.okW {s:S3} {k:Nat} (h:Inv s k) (hf:Feet s) (hk:k≤1000):∀e ∈ s.es,okW e:=fun e he=>
 {ok:={n0:=h.num0 e he,n1:=h.num1 e he,k0:=h.n0 e he,k1:=by have:=h.n1 e he;unfold lastN at this;omega,s0:=by have:=h.stamp0 e he;omega}
  pb:=h.path e he,fb:=hf e he,sb:=by have:=h.stamp1 e he;omega,m:=h.mode e he}
theorem Inv.okV {s:S3} {k:Nat} (h:Inv s k):∀c ∈ s.cs,okV c:=fun c hc=>
 {ok:=⟨by have:=h.c0 c hc;have:=h.first0;omega,by have:=h.c1 c hc;unfold lastN at this;omega⟩,pb:=h.cpath c hc}
end Lock
end
section
namespace Txt
open Go.RowKit Go.Shelf
open Go.Maps (Keyed)
attribute [local go_sem] Oper.semAt_some
def seV (p:ByteArray):Value:=.string p
def seL (p:ByteArray):List Value:=[.string p]
def unS:Value→ByteArray
 |.string a=>a
 |_=>.empty
theorem unS_seV (p:ByteArray):unS (seV p)=p:=rfl
theorem perm_of_seV {l m:List (ByteArray)} (h:(l.map seV).Perm (m.map seV)):l.Perm m:=by
 have:=h.map unS
 simpa [List.map_map,Function.comp_def,unS_seV] using this
def seenOf (w:World) (r:Nat):Nat:=match w.heap[r]? with|some (.mapIter _ _ seen _)=>seen.size|_=>0
theorem seenOf_eq {P:Program} {k:TypeId} {w:World} {r b:Nat} {es done:List (Value × Value)} (h:Zam P k w r b es done):seenOf w r=done.length:=by
 obtain⟨_,_,ents,clock,c0,vs,hb,hr,hc,hd,_⟩:=h;unfold seenOf;rw[hr,←hd]
 simp
theorem iter_walk {P:Program} {k:TypeId} {w:World} {r b:Nat} {es done:List (Value × Value)} (h:Zam P k w r b es done):∃o:Obj,w.heap[r]? =some o∧o.isWalk=true:=by
 obtain⟨_,_,ents,clock,c0,vs,hb,hr,_⟩:=h;exact⟨_,hr,rfl⟩
theorem iter_keeps {P:Program} {k:TypeId} {w w':World} {r b:Nat} {es done:List (Value × Value)} (h:Zam P k w r b es done) (hk:KeepsWalks w w'):Zam P k w' r b es done:=by
 have h0:=h;obtain⟨_,_,ents,clock,c0,vs,hb,hr,_⟩:=h0;exact h.same ((hk.same b _ hb rfl).trans hb.symm) ((hk.same r _ hr rfl).trans hr.symm)
theorem grown_of_exc {w w':World} {r:Nat} (h:Exc (fun q=>q=r) w w'):w.grownBy w' (some r):=⟨h.os,h.tape,h.output,h.size,fun k hk hn=>h.block k hk (fun e=>hn (by rw[e]))⟩
theorem grown_of_ext {w w':World} (h:Ext w w'):w.grownBy w' none:=⟨Below.os h,Below.tape h,Below.output h,Below.size h,fun k hk _=>Below.block h k hk⟩
theorem keys1_in (F:Fence) (n:Nat) (h1:F.fn 239) (hro:F.round=none) (hn:1≤n) (l Bm b:Nat) (es:List (Value × Value)) (ks:List (ByteArray)) (hes:es.map (·.1)=ks.map seV) (J Jx:List (ByteArray)→World→Prop)
 (W:World) (hJ:AbidesFrom W.heap.size J)
 (hY:∀pre x W1,J pre W1→pre.length < ks.length→YieldAt F (n - 1) Tryz.prog l #[seV x] W1 fun e W'=>(e=.returned (.bool true)∧J (pre++[x]) W'∧KeepsWalks W1 W')∨(e=.returned (.bool false)∧Jx (pre++[x]) W'))
 (hm:W.cell? ⟨Bm,0,none⟩=some (.map (some b))) (hM:MapAt Tryz.prog 9 W b es) (h0:J [] W):
 CallsIn F n Tryz.prog 239 #[.func (.yield l) #[] #[],.pointer (some ⟨Bm,0,none⟩)] W fun e W'=>(∃v,e=.returned v)∧((∃ys,ys.Perm ks∧J ys W')∨(∃pre,True∧Jx pre W')):=by
 obtain⟨W0,hrun,hext,hI⟩:=Zam.start hM Tryz.underlying204;have hJ0:J [] W0:=hJ _ W W0 none h0 (grown_of_ext hext) (fun r e=>by cases e);refine callsIn_of_wp Tryz.func239 rfl h1 ?_ hro;simp only[Tryz.ntmps239,List.size_toArray,List.length_cons,List.length_nil,Nat.reduceAdd,Nat.reduceSub,Array.replicate_succ,Array.replicate_zero,List.push_toArray,List.append_toArray,List.nil_append,List.cons_append]
 gi_wp2
 clear hrun
 try go_frame
 gi_loopw [3] (fun _ wr=>∃(done:List (Value × Value)) (ds:List (ByteArray)),Zam Tryz.prog 9 wr W.heap.size b es done∧done.map (·.1)=ds.map seV∧J ds wr)
  (fun _ wr=>es.length - seenOf wr W.heap.size)
 case atStart=>exact⟨[],[],hI,rfl,hJ0⟩
 case round=>
  obtain⟨done,ds,hI1,hd,hJs⟩:=hrel
  rcases hI1.next 0 with⟨hp,hrun⟩|⟨p,w',hp,hne,hrun,hI2,hx⟩
  · have hpp:ds.Perm ks:=(perm_of_seV (by rw[←hes,←hd];exact hp.map _)).symm
    clear hes hd
    gi_wp2
    go_end0
    exact⟨⟨_,rfl⟩,.inl ⟨ds,hpp,hJs⟩⟩
  obtain⟨pk,pv⟩:=p
  have hpk:pk ∈ es.map (·.1):=List.mem_map.2 ⟨_,hp,rfl⟩;rw[hes] at hpk;obtain⟨x,_,rfl⟩:=List.mem_map.1 hpk
  have hlen:ds.length < ks.length:=by
   have e1:=congrArg List.length hes;have e2:=congrArg List.length hd;have e3:=hI2.len
   simp at e1 e2 e3
   omega
  have hJ1:J ds w':=hJ ds wr w' (some W.heap.size) hJs (grown_of_exc hx) (fun r e=>by cases e;exact⟨Nat.le_refl _,iter_walk hI1⟩);have hI3:=hI2;obtain⟨fn,tmps,assign,body,hy,hR⟩:=hY ds x _ hJ1 hlen;have hen:=hI2.entry;have hs0:=seenOf_eq hI1;have hes':=Hd hes;have hd':=Hd hd;have hs':=Hd hs0;have hle:=hI2.len;clear hes hd hs0 hpk hp hne hx;unfold seV at hrun hen hy
  gi_wp2
  refine hR.mono ?_;rintro e W3 (⟨rfl,hJ3,hk3⟩|⟨rfl,hJx3⟩)
  · gi_wp2
    go_roundw
    case rel=>exact⟨done++[(seV x,pv)],ds++[x],iter_keeps hI3 hk3,by simp[hd'.out],hJ3⟩
    case measure=>
     have e1:=seenOf_eq (iter_keeps hI3 hk3);have e2:=hs'.out;rw[e1,e2]
     simp at hle ⊢
     omega
  gi_wp2
  refine bodyPost_ret (results_none rfl _ _ _) rfl ?_;exact⟨⟨_,rfl⟩,.inr ⟨_,trivial,hJx3⟩⟩
theorem keys_in (F:Fence) (n:Nat) (h1:F.fn 185) (hro:F.round=none) (mb:Option Nat) (w:World):
 CallsIn F n Tryz.prog 185 #[.map mb] w fun e w'=>e=.returned (.func (.func 239) #[] #[.pointer (some ⟨w.heap.size,0,none⟩)])∧w'=w.alloc (.cells #[.map mb] 204):=by
 refine callsIn_of_wp Tryz.func185 rfl h1 ?_ hro;simp only[Tryz.ntmps185,List.size_toArray,List.length_cons,List.length_nil,Nat.reduceAdd,Nat.reduceSub,Array.replicate_succ,Array.replicate_zero,List.push_toArray,List.append_toArray,List.nil_append,List.cons_append]
 gi_wp2
 go_ret;exact⟨rfl,rfl⟩
theorem keys_stops (F:Fence) (n:Nat) (h1:F.fn 239) (hro:F.round=none) (hn:1≤n) (Bm b:Nat) (es:List (Value × Value)) (ks:List (ByteArray)) (hes:es.map (·.1)=ks.map seV) (w:World) (hBm:Bm < w.heap.size)
 (hm:w.cell? ⟨Bm,0,none⟩=some (.map (some b))) (hM:MapAt Tryz.prog 9 w b es):
 SeqStopsK F n Tryz.prog 239 #[.pointer (some ⟨Bm,0,none⟩)] (fun x:ByteArray=> #[seV x]) KeepsWalks (fun ys=>ys.Perm ks) (fun _=>True) ks.length w:=fun l J Jx W hW hJ _ hY h0=>
 keys1_in F n h1 hro hn l Bm b es ks hes J Jx W hJ hY ((hW.cell (p:=⟨Bm,0,none⟩) hBm).trans hm) (hM.same (hW.block b hM.lt)) h0
theorem infoID:(Tryz.prog.info? 9).map (fun i=>(i.zero,i.size,i.bytes))=some (some (.string .empty),1,16):=by kernel_rfl
theorem one_new (W:World) (x:Value) (t:TypeId):∀(j:Nat) (u:Value),[x][j]? =some u→(W.alloc (.cells #[x] t)).cell? ((⟨W.heap.size,0,none⟩:Addr).add j)=some u:=by
 intro j u h
 match j,h with
 |0,h=>simp at h;subst h;simp[Addr.add]
 |j + 1,h=>simp at h
def MidI (w:World) (pre:List (ByteArray)) (W:World):Prop:=
 (∃v,Boxed W w.heap.size 260 v∧W.ownsRow w.heap.size 9 1 v pre.length (pre.flatMap seL)∧(v=.slice none 0 0↔pre=[]))∧Below w.heap.size w W
theorem midI_own (w:World) (B:Nat) (hB:w.heap.size≤B):OwnFrom B (MidI w):=
 OwnFrom.and (Own.from (holdsRow_own w.heap.size w.heap.size 260 9 1 (fun pre=>pre.length) (fun pre=>pre.flatMap seL) (fun pre v=>v=.slice none 0 0↔pre=[])) _) (ownFrom_below (Nat.le_refl _) hB)
def MidAx (w:World) (sv:Value) (x:ByteArray) (a':Act) (W:World):Prop:=
 a'={tmps:= #[.slice none 0 0,sv,.pointer (some ⟨w.heap.size,0,none⟩),undef,.slice none 0 0,seV x,sv,seV x,undef,undef,undef,undef,undef],defers:=[]}
theorem midAx_own (w:World) (sv:Value) (B:Nat) (x:ByteArray) (a':Act):OwnFrom B (fun(_:Unit) W=>MidAx w sv x a' W):=by
 rintro s X Y row h3 hg hr;exact h3
theorem appendSeq_in (F:Fence) (n:Nat) (hF:F.fn 279) (hro:F.round=none) (hn:3≤n) (gf:Nat) (lb:Array Value) (hFg:F.fn gf) (eg:∀args w,(callFunc gf args).run Tryz.prog w=.ok (.enter gf args) w)
 (S Sp:List (ByteArray)→Prop) (N:Nat) (hN:N≤100000000) (w:World) (hseq:SeqStopsK F (n - 1) Tryz.prog gf lb (fun x:ByteArray=> #[seV x]) KeepsWalks S Sp N w):
 CallsIn F n Tryz.prog 279 #[.slice none 0 0,.func (.func gf) #[] lb] w fun e w'=>∃(v:Value) (ss:List (ByteArray)),e=.returned v∧S ss∧w'.ownsRow w.heap.size 9 1 v ss.length (ss.flatMap seL)∧(v=.slice none 0 0↔ss=[])∧Below w.heap.size w w':=by
 have h1:1≤n:=by omega
 obtain⟨i0,hi,hz0,hz1,hz2⟩:=info_parts infoID;refine callsIn_of_wp_marks Tryz.func279 rfl hF ?_ hro;simp only[Tryz.ntmps279,List.size_toArray,List.length_cons,List.length_nil,Nat.reduceAdd,Nat.reduceSub,Array.replicate_succ,Array.replicate_zero,List.push_toArray,List.append_toArray,List.nil_append,List.cons_append]
 gi_wp2
 have bO:=Boxed.new w 260 (.slice none 0 0);have hB0:Below w.heap.size w (w.alloc (.cells #[.slice none 0 0] 260)):=(Below.refl _ w).alloc (Nat.le_refl _) _
 refine wpIn_rangeFunc_ownH hro h1 (gf:=gf) (lb:=lb) rfl hFg eg hseq walksK_t walksK_b hB0 (fun _=>rfl)
  (MidI w) (fun _ _ _=>False) (midI_own w _ (by simp)) (fun _ _ _ _ _ hs _ _=>hs)
  ⟨⟨_,bO,World.ownsRow_nil _ _ _ _,by simp⟩,hB0⟩
  (MidAx w (.func (.func gf) #[] lb)) (fun x a'=>midAx_own w _ _ x a') ?assign ?body ?done ?stop
 case assign=>
  rintro l pre x W K ⟨⟨v,hv,hrow,hnil⟩,hB⟩ hK;have hsz:=hB.size;unfold seV
  gi_wp2
  refine hK _ _ ((KeepsOthers.refl _).from _) (KeepsWalks.refl _) ⟨⟨v,hv,hrow,hnil⟩,hB⟩ rfl
 case body=>
  rintro l pre x a' W hl ⟨r,hr⟩ ⟨⟨v,hv,hrow,hnil⟩,hB⟩ rfl hlt;have hc:=hv.cell;have hsz:=hB.size;unfold seV
  gi_wp2_with (gi_at_builtin;refine wpListIn_append_own _ rfl _ _ 260 rfl w.heap.size 9 i0 (.string .empty) 1 16 Tryz.underlying260 hi hz0 hz1 hz2 rfl (by decide) _ _ _ rfl (hrow.alloc _) ⟨W.heap.size,0,none⟩ 1 1 [.string x] rfl rfl (one_new _ _ _) (by simp[Value.oneCell']) (by unfold maxLen;omega) (by omega) (by simp;omega) ?_;intro v' w1 hown' hgrow _;obtain⟨g',cap',rfl⟩:=ownsRow_succ hown';obtain⟨hv1,hv2,hr2,hk2,hb2⟩:=hv.appended (by decide) hrow hB.size (Nat.le_refl _) hown' hgrow;have hc1:=hv1.cell;have hf1:=hv1.frozen)
  exact⟨hk2.from _,hk2.walks,⟨_,hv2,by simpa [seL] using hr2,by simp⟩,hB.trans hb2⟩
 case done=>
  rintro D ys W hD hS ⟨⟨v,hv,hrow,hnil⟩,hB⟩ hK;have hc:=hv.cell
  gi_wp2
  refine⟨by simp,.inl ⟨_,_,rfl,run_takeDeferred hK,?_⟩⟩;exact⟨_,results_tmp rfl _ _ _,v,ys,rfl,hS,ownsRow_putObj hrow _ hK rfl,hnil,hB.trans (belowK_b (w:=w) (Nat.le_refl _) W D _ _ (by simp at hD;omega) hK rfl rfl)⟩
 case stop=>
  rintro D c pre W _ _ h _;exact h.elim
end Txt
end
section
namespace Txt
open Go.RowKit Go.Shelf Go.Sort
open Go.Maps (Keyed)
open _root_.Go.Proofs.YtkdjkngfnapjcaaGreatDoor.Mark (ZbR Zci ZaS)
open Path (bl Zad Zae cmpL cmpP)
def ltP (x y:ByteArray):Prop:=cmpL (Zae (bl x)) (Zae (bl y)) < 0
instance (x y:ByteArray):Decidable (ltP x y):=by unfold ltP;infer_instance
def cmpPP (x y:ByteArray):Int:=cmpP (bl x) (bl y)
theorem bl_inj {a b:ByteArray} (h:bl a=bl b):a=b:=by
 unfold bl at h
 have:a.data=b.data:=by rw[←Array.toList_inj];exact h
 cases a;cases b;simp_all
theorem ZhQ {x y:ByteArray} (hx:Zad (bl x)=true) (hy:Zad (bl y)=true):cmpPP x y=cmpL (Zae (bl x)) (Zae (bl y)):=by simp[cmpPP,cmpP,hx,hy]
theorem Zdf (x:ByteArray):¬ltP x x:=by unfold ltP;rw[Path.Zb3];omega
theorem Zch {x y z:ByteArray} (h1:ltP x y) (h2:ltP y z):ltP x z:=Path.Zc3 h1 h2
theorem ZfL (x y:ByteArray):ltP x y∨x=y∨ltP y x:=by
 unfold ltP;have h:=Path.ZhV (Zae (bl x)) (Zae (bl y))
 by_cases h0:cmpL (Zae (bl x)) (Zae (bl y))=0
 · exact .inr (.inl (bl_inj (Path.ZeM (Path.cl_eq h0))))
 by_cases h1:cmpL (Zae (bl x)) (Zae (bl y)) < 0
 · exact .inl h1
 exact .inr (.inr (by omega))
abbrev TxtI (es:List ByteArray):={e:ByteArray // e ∈ es}
def cmpI (es:List ByteArray) (x y:TxtI es):Int:=cmpPP x.1 y.1
def encI (es:List ByteArray) (x:TxtI es):Value:=.string x.1
section
variable {es:List ByteArray} (H:∀e ∈ es,Zad (bl e)=true)
include H
theorem cmpI_lt (x y:TxtI es):ltOf (cmpI es) x y=decide (ltP x.1 y.1):=by unfold ltOf cmpI;rw[ZhQ (H _ x.2) (H _ y.2)];rfl
theorem totI (x y:TxtI es) (h1:ltOf (cmpI es) x y=false) (h2:ltOf (cmpI es) y x=false):x=y:=by
 rw[cmpI_lt H] at *
 rcases ZfL x.1 y.1 with q|q|q
 · exact absurd q (of_decide_eq_false h1)
 · exact Subtype.ext q
 exact absurd q (of_decide_eq_false h2)
theorem swoI:SWO (ltOf (cmpI es)) where
 irrefl x:=by rw[cmpI_lt H];exact decide_eq_false (Zdf _)
 trans x y z h1 h2:=by rw[cmpI_lt H] at *;exact decide_eq_true (Zch (of_decide_eq_true h1) (of_decide_eq_true h2))
 ntrans x y z h1 h2:=by
  rw[cmpI_lt H] at *
  refine decide_eq_false fun h=> ?_
  have n1:=of_decide_eq_false h1;have n2:=of_decide_eq_false h2
  rcases ZfL x.1 y.1 with q|q|q
  · exact n1 q
  · rw[q] at h;exact n2 h
  exact n2 (Zch q h)
end
def sortI {es:List ByteArray} (l:List (TxtI es)):List (TxtI es):=l.mergeSort fun x y=> !ltOf (cmpI es) y x
theorem sortI_len {es:List ByteArray} (l:List (TxtI es)):(sortI l).length=l.length:=List.length_mergeSort l
theorem sortI_perm {es:List ByteArray} (l:List (TxtI es)):(sortI l).Perm l:=List.mergeSort_perm l _
theorem sortI_lt {es:List ByteArray} (H:∀e ∈ es,Zad (bl e)=true) (l:List (TxtI es)) (hn:l.Nodup):((sortI l).map (·.1)).Pairwise ltP:=by
 have h2:(sortI l).Nodup:=(sortI_perm l).nodup_iff.2 hn
 have h3:(sortI l).Pairwise (fun a b=>(!ltOf (cmpI es) b a)=true):=by
  refine List.pairwise_mergeSort ?_ ?_ l
  · intro a b c h1 h2
    rw[cmpI_lt H] at *
    simp only[Bool.not_eq_true',decide_eq_false_iff_not] at *
    intro h
    rcases ZfL b.1 a.1 with q|q|q
    · exact h1 q
    · rw[←q] at h;exact h2 h
    exact h2 (Zch h q)
  intro a b;rw[cmpI_lt H,cmpI_lt H];simp only[Bool.or_eq_true,Bool.not_eq_true',decide_eq_false_iff_not]
  by_cases h:ltP b.1 a.1
  · right
    intro h';exact Zdf _ (Zch h h')
  exact .inl h
 rw[List.pairwise_map];refine(h3.and h2).imp ?_;rintro a b ⟨h,hne⟩;rw[cmpI_lt H] at h;simp only[Bool.not_eq_true',decide_eq_false_iff_not] at h
 rcases ZfL a.1 b.1 with q|q|q
 · exact q
 · exact absurd (Subtype.ext q) hne
 exact absurd q h
def toI {es:List ByteArray}:(l:List ByteArray)→(∀x ∈ l,x ∈ es)→List (TxtI es)
 |[],_=>[]
 |x::l,h=>⟨x,h x (by simp)⟩::toI l (fun y hy=>h y (by simp[hy]))
theorem toI_map {es:List ByteArray}:∀(l:List ByteArray) (h:∀x ∈ l,x ∈ es),(toI l h).map (·.1)=l
 |[],_=>rfl
 |x::l,h=>by rw[toI,List.map_cons,toI_map l]
theorem encI_flat {es:List ByteArray} (l:List (TxtI es)):l.map (encI es)=(l.map (·.1)).flatMap seL:=by
 induction l with
 |nil=>rfl
 |cons x l ih=>rw[List.map_cons,List.map_cons,List.flatMap_cons,ih];rfl
section
variable {α:Type} [Inhabited α]
theorem ZgN {enc:α→Value} {w:World} {g n:Nat} {os:Array Obj} {cur:Array Value} {e:TypeId} {fr:Nat × Nat} (F:Array α) (hb:w.heap[g]? =some (.cells cur e fr)):
 (sortWorld enc w g 0 n F os).heap[g]? =some (.cells (putCells enc 0 F cur) e fr):=by
 have hg:g < w.heap.size:=(Array.getElem?_eq_some_iff.1 hb).1;unfold sortWorld;rw[heap_grow_old _ _ (by simpa using hg)];simp[putRow,mapBlock,Sort.ahead,Array.getElem?_modify,hb,onCells]
theorem Zem {enc:α→Value} {w:World} {g n:Nat} {os:Array Obj} (F:Array α):w.grownBy (sortWorld enc w g 0 n F os) (some g):=by
 unfold sortWorld;refine⟨rfl,rfl,rfl,by simp,fun k hk hne=> ?_⟩;rw[heap_grow_old _ _ (by simpa using hk)]
 have:g≠k:=fun e=>hne (by rw[e])
 simp[putRow,mapBlock,Sort.ahead,Array.getElem?_modify,this]
theorem ZjR {enc:α→Value} (cur:Array Value) (l:List α) (h:l.length≤cur.size):(putCells enc 0 l.toArray cur).toList.take l.length=l.map enc:=by
 apply List.ext_getElem?
 intro j
 by_cases hj:j < l.length
 · rw[List.getElem?_take_of_lt hj,Array.getElem?_toList,List.getElem?_map]
   simp[putCells,hj,show j < cur.size by omega]
 rw[List.getElem?_take_eq_none (by omega),List.getElem?_eq_none (by simp;omega)]
theorem ZhD (enc:α→Value) {w:World} {base g cap n:Nat} {e:TypeId} {os:Array Obj} {cur:Array Value} {ts:List α} (hbase:base≤g) (hb:w.heap[g]? =some (.cells cur e (0,0)))
 (h1:ts.length≤cap) (h2:cap≤maxLen) (h3:cur.size=cap * 1):
 (sortWorld enc w g 0 n ts.toArray os).ownsRow base e 1 (.slice (some ⟨g,0,none⟩) ts.length cap) ts.length (ts.map enc):=by
 refine⟨by simp,.inr ⟨g,cap,_,rfl,hbase,ZgN ts.toArray hb,h1,h2,by simp[putCells,h3],?_⟩⟩;rw[Nat.mul_one];exact ZjR cur ts (by omega)
theorem ZkC (enc:α→Value) {w:World} {g:Nat} {cur:Array Value} {e:TypeId} {ts:List α} (hb:w.heap[g]? =some (.cells cur e (0,0))) (ht:cur.toList.take (ts.length * 1)=ts.map enc):Holds enc w g 0 ts.toArray:=by
 intro j hj
 have hj':j < ts.length:=by simpa using hj
 refine⟨?_,by simp[World.frozen?,hb]⟩
 have h1:(cur.toList.take (ts.length * 1))[j]? =(ts.map enc)[j]? :=by rw[ht]
 rw[List.getElem?_take_of_lt (by omega),Array.getElem?_toList,List.getElem?_map,List.getElem?_eq_getElem hj'] at h1;simp only[World.cell?,hb,Nat.zero_add];simp only[Option.isSome_none,Bool.false_eq_true,if_false];rw[h1,getElem!_pos _ j hj]
 simp
end
theorem encI_one {es:List ByteArray}:OneCell (encI es):=fun x=>rfl
theorem cmpLaysI {es:List ByteArray} [Inhabited (TxtI es)] (hs:∀e ∈ es,e.size≤1000) (blk off size:Nat) (w:World):CmpLays1 Tryz.prog 124 #[] (encI es) (cmpI es) blk off size w:=
 fun _ _ _ _ x y=>Path.Ze6 (Path.ZbJ x.1 y.1 _ (hs _ x.2) (hs _ y.2))
theorem collect_in (F:Fence) (n:Nat) (hF:F.fn 237) (hF2:F.fn 279) (hro:F.round=none) (hn:4≤n) (gf:Nat) (lb:Array Value) (hFg:F.fn gf) (eg:∀args w,(callFunc gf args).run Tryz.prog w=.ok (.enter gf args) w)
 (S Sp:List (ByteArray)→Prop) (N:Nat) (hN:N≤100000000) (w:World) (hseq:SeqStopsK F (n - 1 - 1) Tryz.prog gf lb (fun x:ByteArray=> #[seV x]) KeepsWalks S Sp N w):
 CallsIn F n Tryz.prog 237 #[.func (.func gf) #[] lb] w fun e w'=>∃(v:Value) (ss:List (ByteArray)),e=.returned v∧S ss∧w'.ownsRow w.heap.size 9 1 v ss.length (ss.flatMap seL)∧(v=.slice none 0 0↔ss=[])∧Below w.heap.size w w':=by
 have h1:1≤n:=by omega
 refine callsIn_of_wp Tryz.func237 rfl hF ?_ hro;simp only[Tryz.ntmps237,List.size_toArray,List.length_cons,List.length_nil,Nat.reduceAdd,Nat.reduceSub,Array.replicate_succ,Array.replicate_zero,List.push_toArray,List.append_toArray,List.nil_append,List.cons_append]
 gi_wp2_with (gi_at_call 279;refine(appendSeq_in F (n - 1) hF2 hro (by omega) gf lb hFg eg S Sp N hN _ hseq).mono ?_;rintro e W ⟨v,ss,rfl,hS,hrow,hnil,hb⟩)
 go_ret;exact⟨v,ss,rfl,hS,hrow,hnil,hb⟩
theorem collect_keys (Bm b:Nat) (es:List (Value × Value)) (ks:List (ByteArray)) (hes:es.map (·.1)=ks.map seV) (w:World) (hBm:Bm < w.heap.size) (hm:w.cell? ⟨Bm,0,none⟩=some (.map (some b))) (hM:MapAt Tryz.prog 9 w b es) (hN:ks.length≤100000000):
 Calls Tryz.prog 237 #[.func (.func 239) #[] #[.pointer (some ⟨Bm,0,none⟩)]] w fun e w'=>∃(v:Value) (ss:List (ByteArray)),e=.returned v∧ss.Perm ks∧w'.ownsRow w.heap.size 9 1 v ss.length (ss.flatMap seL)∧(v=.slice none 0 0↔ss=[])∧Below w.heap.size w w':=
 callsIn_wide.1 (collect_in Fence.wide 5 trivial trivial rfl (by omega) _ _ trivial (enters_of Tryz.func239 (by kernel_rfl) rfl) _ _ ks.length hN w
  (keys_stops Fence.wide _ trivial rfl (by omega) Bm b es ks hes w hBm hm hM))
theorem sorted_any (Bm b:Nat) (es:List (Value × Value)) (ks:List ByteArray) (hes:es.map (·.1)=ks.map seV) (hnd:ks.Nodup) (w:World) (hBm:Bm < w.heap.size) (hm:w.cell? ⟨Bm,0,none⟩=some (.map (some b))) (hM:MapAt Tryz.prog 9 w b es) (hN:ks.length≤100000000) (hr:∀k ∈ ks,Zad (bl k)=true) (hs:∀k ∈ ks,k.size≤1000):
 Calls Tryz.prog 184 #[.func (.func 239) #[] #[.pointer (some ⟨Bm,0,none⟩)],.func (.func 124) #[] #[]] w fun e w'=>
  ∃(v:Value) (l:List ByteArray),e=.returned v∧l.Perm ks∧l.Pairwise ltP∧w'.ownsRow w.heap.size 9 1 v l.length (l.flatMap seL)∧Below w.heap.size w w':=by
 have hC:=collect_keys Bm b es ks hes w hBm hm hM hN;clear hes hM hm
 go_enter Tryz.func184,Tryz.ntmps184
 go_wp2_with fail
 refine hC.mono ?_;rintro e w1 ⟨v,ss,rfl,hp,hrow,hnil,hb⟩
 rcases hrow.2 with⟨rfl,hz⟩|⟨gb,cap,cur,rfl,hbase,hgb,r1,r2,r3,r4⟩
 · have hss:ss=[]:=List.eq_nil_of_length_eq_zero hz
   subst hss
   have hS:Calls Tryz.prog 238 #[.slice none 0 0,.func (.func 124) #[] #[]] w1 fun e w'=>e=.returned (.tuple #[])∧w'=w1:=AnyF.slices_SortFunc_none {Tryz.sort238 with} none 0 _ w1
   go_wp2_with fail
   refine hS.mono ?_;rintro e _ ⟨rfl,rfl⟩
   go_wp2_with fail
   go_ret;exact⟨_,[],rfl,hp,.nil,hrow,hb⟩
 have hsub:∀x ∈ ss,x ∈ ks:=fun x hx=>hp.mem_iff.1 hx
 have htm:=toI_map ss hsub
 obtain⟨ti,hti⟩:∃ti,toI ss hsub=ti:=⟨_,rfl⟩
 rw[hti] at htm
 have htl:ti.length=ss.length:=by rw[←htm];simp
 have hflat:ti.map (encI ks)=ss.flatMap seL:=by rw[encI_flat,htm]
 have htn:ti.Nodup:=by
  have:(ti.map (·.1)).Nodup:=by rw[htm];exact hp.nodup_iff.2 hnd
  exact(List.pairwise_map.1 this).imp (fun q e=>q (by rw[e]))
 have hne:ss≠[]:=fun e=>by have:=hnil.2 e;cases this
 have hpos:0 < ss.length:=List.length_pos_iff.2 hne;have hll:=hp.length_eq
 haveI:Inhabited (TxtI ks):=⟨⟨ss[0]'hpos,hsub _ (List.getElem_mem _)⟩⟩
 have hH:Holds (encI ks) w1 gb 0 ti.toArray:=ZkC (encI ks) hgb (by rw[htl,hflat];exact r4);have hgl:gb < w1.heap.size:=(Array.getElem?_eq_some_iff.1 hgb).1
 have hsz:ti.toArray.size < 4611686018427387904:=by simp;omega
 have hS:Calls Tryz.prog 238 #[.slice (some ⟨gb,0,none⟩) ti.length cap,.func (.func 124) #[] #[]] w1 fun e w'=>e=.returned (.tuple #[])∧∃n os,w'=sortWorld (encI ks) w1 gb 0 n (sortI ti).toArray os:=
  Any.slices_SortFunc_total Tryz.sort238 (encI ks) encI_one (cmpI ks) (swoI hr) 124 #[] gb 0 cap ti.toArray w1 (enters_of Tryz.func124 (by kernel_rfl) rfl) (cmpLaysI hs _ _ _ _) hH hgl hsz (totI hr)
 rw[htl] at hS;have htl':=Hd htl;clear hll htl
 go_wp2_with fail
 refine hS.mono ?_;rintro e _ ⟨rfl,nn,os,rfl⟩
 go_wp2_with fail
 go_ret;have hown:=ZhD (encI ks) (w:=w1) (base:=w.heap.size) (cap:=cap) (n:=nn) (os:=os) (ts:=sortI ti) hbase hgb (by rw[sortI_len,htl'.out];exact r1) r2 r3;have hlt:=sortI_lt hr ti htn
 have hlp:((sortI ti).map (fun x:TxtI ks=>x.1)).Perm ss:=by
  have:=(sortI_perm ti).map (fun x:TxtI ks=>x.1)
  rwa [htm] at this
 rw[encI_flat,sortI_len,htl'.out,←hlp.length_eq] at hown
 generalize (sortI ti).map (fun x:TxtI ks=>x.1)=l at *
 refine⟨_,l,?_,hlp.trans hp,hlt,hown,hb.grown (Zem _) hb.size (fun j hj=>by cases hj;exact hbase)⟩;rw[hlp.length_eq]
 rfl
end Txt
end
end Go.Proofs.YtkdjkngfnapjcaaGreatDoor
