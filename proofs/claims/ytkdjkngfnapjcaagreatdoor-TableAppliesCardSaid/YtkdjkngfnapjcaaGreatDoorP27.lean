/- TabEf, joined. -/
import Derived.Test.YtkdjkngfnapjcaaGreatDoorP26
import Derived.Test.YtkdjkngfnapjcaaGreatDoorP16
set_option linter.unusedSimpArgs false
set_option linter.unusedVariables false
set_option maxRecDepth 100000
set_option maxHeartbeats 16000000
section
namespace Go
open _root_.Go.Proofs.YtkdjkngfnapjcaaGreatDoor
open Go.RowKit
section
variable {P:Program} {ops:Array Oper} {Q:Exit→Act→World→Prop} {md:Region.Mode} {S:World→Prop}
theorem Zdz {i j k fuel:Nat} {listed:Array Bool} {a:Act} {w:World} (hr:Region.ready md ops listed=[i,j,k]) (h1:wpOp P ops Q i (fun a' w'=>S w'∧wpAnyH P md ops Q S fuel (listed.setIfInBounds i true) a' w') a w)
 (h2:wpOp P ops Q j (fun a' w'=>S w'∧wpAnyH P md ops Q S fuel (listed.setIfInBounds j true) a' w') a w) (h3:wpOp P ops Q k (fun a' w'=>S w'∧wpAnyH P md ops Q S fuel (listed.setIfInBounds k true) a' w') a w):wpAnyH P md ops Q S (fuel + 1) listed a w:=
 wpAnyH_all hr (by simp) (fun x hx=>by
  rcases List.mem_cons.1 hx with rfl|hx
  · exact h1
  rcases List.mem_cons.1 hx with rfl|hx
  · exact h2
  rw[List.mem_singleton.1 hx];exact h3)
end
end Go
namespace Go.Proofs.YtkdjkngfnapjcaaGreatDoor.Tab
open Go.RowKit
open Path (bl Zad overB Zam)
open Lease (Ses Ans fresh ZaP SR AR arP rowR poolP Rel RelS findR okA)
open Lock (S3 Ent rowE rowC)
open Cmd (Cm Zao)
attribute [-go_sem] run_eql_struct run_neq_struct run_eqGuard_agg
attribute [local go_sem] Zom eqlAn Zok neqIn
def Ap2 (w:World) (Q:List Part) (n:Nat) (k:Nat) (u:Value) (wr:World):Prop:=∃j:Nat,u=.int .i64 j∧j + k=n∧At [Part.old w] w Q wr
def ApRel (w:World) (t p m:Nat) (T0:TS) (first:Int) (l:List Cm) (b6:Nat) (k:Nat) (u:Value) (wr:World):Prop:=
 ∃(i:Nat) (ss:List Ses) (b:Lock.Bk) (D:DS),u=.int .i64 i∧i + k=l.length∧TRel ss b (playT T0 (l.take i))∧DIn (playT T0 (l.take i)) D∧At [Part.old w] w [TabP t p m ss b,Part.cells b6 [D.vS,.int .u64 first,D.vE,D.vC] 87,rowR D.vS D.L,poolP D.PL,poolE D.QE,poolC D.QC,Part.old w] wr
def CutA (w:World) (t p m:Nat) (ss:List Ses) (b:Lock.Bk) (T1:TS) (first:Int) (b6 b8 b9:Nat) (c6 c8 c9:List Value) (e n:Int) (g:Bool) (u v:Value) (wc:World):Prop:=
 ∃(b10 b11:Nat) (D:DS) (r:Int),u=.pointer (some ⟨b10,0,none⟩)∧v=.pointer (some ⟨b11,0,none⟩)∧DIn T1 D∧At [Part.old w] w [Part.cells b11 [.int .u64 r,.int .i64 e,.int .u64 n,.bool g] 90,Part.cells b10 [D.vS,.int .u64 first,D.vE,D.vC] 87,TabP t p m ss b,Part.cells b9 c9 107,Part.cells b8 c8 27,Part.cells b6 c6 87,rowR D.vS D.L,poolP D.PL,poolE D.QE,poolC D.QC,Part.old w] wc
theorem applies_law {w:World} {v:Value} {l:List Cm} (hr:Zfr (Part.old w) v l) (hl:l.length≤9223372036854775807) (hv:∀c ∈ l,CmV c) {first:Int} (f0:0≤first) (f1:first < Lock.big64):
 Calls Tryz.prog 6 #[.int .u64 first,v] w fun e w'=>e=.returned (.bool true)∧Below w.heap.size w w':=by
 have hm:Tryz.prog.follows .mixedOrders=true:=by kernel_rfl
 have hA:At [Part.old w] w [Part.old w] w:=At.start ⟨fun _ _=>rfl,trivial,nofun⟩
 have hsm:=fun(w1:World) (q:Sep [Part.old w] w1)=>Zkd q hr hl (fun c hc=>⟨(hv c hc).path,(hv c hc).foot⟩) 60
 have hpl:=fun(hs:ZcW l 60=true) (w1:World) (q:Sep [Part.old w] w1)=>ZiF q f0 f1 hr (by have:=(ZfM (k:=60) hs hv).1;omega) (ZfM (k:=60) hs hv).2
 have hin:=fun(hs:ZcW l 60=true)=>ZfM (k:=60) hs hv
 obtain⟨ax,cap,rfl,_,_⟩:=hr w (hA.get .here)
 obtain⟨sb,hsb⟩:∃z,ZcW l 60=z:=⟨_,rfl⟩
 rw[hsb] at hsm hpl hin;have hr':=Hd hr;have hsm':=Hd hsm;have hpl':=Hd hpl;have hin':=Hd hin;clear hsm hpl hin hsb hv hr;obtain⟨hA,hF⟩:=fZ hA
 go_enter Tryz.func6,Tryz.ntmps6
 go_wp2_with fail
 refine(ZjN _).mono ?_;rintro e w1 ⟨rfl,hx⟩;replace hA:=hA.ext hx;clear hx hF
 try simp only[uA] at hA
 obtain⟨hA,hF⟩:=fZ hA
 go_wp2_with fail
 refine(hsm'.out _ (hA.sep1 (A:=Part.old w) sZ)).mono ?_;rintro e w1 ⟨rfl,hT⟩;replace hA:=hA.call1 (A:=Part.old w) sZ hT;clear hT hF
 try simp only[uA] at hA
 obtain⟨hA,hF⟩:=fZ hA;clear hsm';cases sb
 · go_wp2_with fail
   go_ret;exact⟨rfl,below_old hA sZ⟩
 obtain⟨hl60,hok⟩:=hin'.out (by simp);have hok':=Hd hok;clear hin' hok
 go_wp2_with fail
 refine(new_any (hA.sep1 (A:=Part.old w) sZ) first).mono ?_;rintro e w1 ⟨t,p,m,b0,rfl,hR0,hT⟩;have hB:=hA.call1 (A:=Part.old w) sZ hT;have hR0':=Hd hR0;clear hT hR0;clear hF hA;have hA:=hB;clear hB
 try simp only[uA] at hA
 obtain⟨hA,hF⟩:=fZ hA
 go_wp2_with fail
 refine(ZmF (hA.sep1 (A:=Part.old w) sZ) first).mono ?_;rintro e w1 ⟨rfl,hT⟩;replace hA:=hA.call1 (A:=Part.old w) sZ hT;clear hT hF
 try simp only[uA] at hA
 obtain⟨hA,hF⟩:=fZ hA
 go_wp2_with (first|(((with_reducible show wpList _ _ _ ({dst:=some 6,op:=Op.alloc _,type:=_,pos:=_,after:=_,guard:=_}::_) _ _));((with_reducible refine gal ?_);refine g3 hA ?_;clear hF hA;intro b6 w1 hA hb6 hF))|((with_reducible refine gst ?_);refine wTz hA ?_;clear hF hA;intro w1 hA hF))
 try go_frame
 have hB:=d0_at hA;have hg0:=ZmS f0 f1;have hg0':=Hd hg0
 obtain⟨T0,hT0⟩:∃z:TS,⟨[],⟨first,[],[]⟩⟩=z:=⟨_,rfl⟩
 have hs0:SAll T0.S:=by rw[←hT0];intro s hs;cases hs
 have hd0:=d0_in first
 have hf0:T0.L.first=first:=by rw[←hT0]
 rw[hT0] at hd0;have hR0'':=hR0'.out;have hg0'':=hg0'.out;rw[hT0] at hR0'' hg0'';have hT0':=Hd hT0;have hR0:=Hd hR0'';have hg:=Hd hg0'';have hs:=Hd hs0;have hd:=Hd hd0;have hfi:=Hd hf0;clear hT0 hR0' hR0'' hg0 hg0' hg0'' hs0 hd0 hf0 hF hA
 go_loopg [32] l.length (ApRel w t p m T0 first l b6)
 case atStart=>exact⟨0,[],b0,D0,rfl,by omega,hR0.out,hd.out,(show At [Part.old w] w ([rowR nilV [],poolP [(nilV,[])],poolE [(nilV,[])],poolC [(nilV,[])]]++_) _ from hB).pick pZ⟩
 case round=>
  obtain⟨i,ss,b,D,rfl,hik,hRi,hDi,hA⟩:=hrel;clear hB;have hRi':=Hd hRi;have hDi':=Hd hDi;clear hRi hDi;obtain⟨⟨sx,sn,sc,z1⟩,⟨ex,en,ec,z2⟩,⟨cx,cn,cc,z3⟩⟩:=ZbH (hA.pick (K:=[rowR D.vS D.L,poolP D.PL,poolE D.QE,poolC D.QC]) pR) hDi'.out;obtain⟨vS,L,PL,vE,QE,vC,QC⟩:=D;simp only at z1 z2 z3 hA;subst z1 z2 z3;have hgi:=Zn3 hg.out hs.out (l:=l.take i) (fun x hx=>hok'.out x (List.take_subset _ _ hx))
  have hlt:(l.take i).length≤60:=by rw[List.length_take];omega
  have hfr:=Zjp T0 (l.take i);rw[hfi.out] at hfr
  by_cases hi:i < l.length
  · skip
    obtain⟨c,hc⟩:∃c,l[i]? =some c:=⟨_,List.getElem?_eq_getElem hi⟩
    have hci:=hok'.out c (List.mem_of_getElem? hc)
    have htk:l.take (i + 1)=l.take i++[c]:=by rw[List.take_add_one,hc];rfl
    have hp1:=Hd (show playT T0 (l.take (i + 1))=(ZaA (playT T0 (l.take i)) c).1 by rw[htk,Zdk])
    obtain⟨bl0,ofl,hax⟩:∃b0 o0,ax=some ⟨b0,o0,none⟩:=by
     obtain⟨ax2,c2,e2,_,hr2⟩:=hr'.out _ (hA.get (A:=Part.old w) sZ);cases e2;have hf:=Zb8 Cm.cells 8 (fun _=>rfl) l i c hc 0 (by omega);obtain⟨b0,o0,e3,_⟩:=hr2 (i * 8 + 0) _ hf;exact⟨b0,o0,e3⟩
    subst hax;have hrc:=ZfV hr'.out hc _ (hA.get (A:=Part.old w) sZ)
    have hap:=fun(w1:World) (q:Sep [TabP t p m ss b] w1)=>Zhn q c.kind c.num c.foot c.req c.path c.mode c.n c.time hRi'.out hgi.1.inv (by omega) hci.ok hci.r0 hci.r1 hci.n0
    have hda:=fun(w1:World) (q:Sep (DS.mk (.slice sx sn sc) L PL (.slice ex en ec) QE (.slice cx cn cc) QC).parts w1)=>ZjM q hDi'.out c.kind c.num c.foot c.req c.path c.mode c.n c.time hgi.1.inv (by omega) hci.ok ⟨hci.r0,hci.r1⟩ hci.n0 (ok_ar hgi.1.inv.lock hgi.2 c)
    have hg1:=hgi.1.apply hci.ok
    obtain⟨T1,hT1⟩:∃z,ZaA (playT T0 (l.take i)) c=z:=⟨_,rfl⟩
    have hcc:(⟨c.kind,c.num,c.foot,c.req,c.path,c.mode,c.n,c.time⟩:Cm)=c:=rfl
    have hof:=fun w1=>ZmA c w1
    simp only[hcc,hT1] at hap hda;rw[hT1] at hp1 hg1;rw[hfr] at hda;clear hT1 hcc hc htk hci hgi;obtain⟨T1,⟨xe,xn,xg⟩⟩:=T1;obtain⟨kind,num,foot,req,path,mode,n,time⟩:=c;simp only[DS.val,DS.parts,Cm.val] at hap hda hof
    have hap':=Hd fun w1 q=>TPost.q (hap w1 q)
    have hda':=Hd hda;have hof':=Hd hof;have hg1':=Hd hg1;have hrc':=Hd (show ∀(k:Nat) u,([.int .i64 kind,.int .u64 num,.string foot,.int .u64 req,.string path,.int .i64 mode,.int .u64 n,.int .i64 time]:List Value)[k]? =some u→wr.cell? ⟨bl0,ofl + i * 8 + k,none⟩=some u from hrc);clear hap hda hof hg1 hrc hfr
    generalize l.take i=li at *
    obtain⟨hA,hF⟩:=fZ hA
    go_upto_region 10 with(first|(((with_reducible show wpList _ _ _ ({dst:=some 8,op:=Op.alloc _,type:=_,pos:=_,after:=_,guard:=_}::_) _ _));((with_reducible refine gal ?_);refine g11 hA ?_;clear hF hA;intro b8 w1 hA hb8 hF))|((with_reducible show wpList _ _ _ ({dst:=some 35,op:=Op.load _ _,type:=_,pos:=_,after:=_,guard:=_}::_) _ _);refine Zax (vs:=[.int .i64 kind,.int .u64 num,.string foot,.int .u64 req,.string path,.int .i64 mode,.int .u64 n,.int .i64 time]) rfl rfl (by(try simp only[Act.eval,eV])<;>exact rfl) hrc'.out (by kernel_rfl) (by kernel_rfl) ?_)|((with_reducible refine gst ?_);refine wTz hA ?_;clear hF hA;intro w1 hA hF))
    go_upto_region 11 with fail
    refine(hap'.out _ (hA.sep1 (A:=TabP t p m ss b) sZ)).mono ?_;rintro e w2 ⟨u0,rfl,ss2,b2,rfl,hR2,hT⟩;have hB:=hA.call1 (A:=TabP t p m ss b) sZ hT;have hR2':=Hd hR2;clear hT hap' hR2;clear hF hA;have hA:=hB;clear hB
    try simp only[uA] at hA
    obtain⟨hA,hF⟩:=fZ hA
    go_upto_region 11 with(first|(((with_reducible show wpList _ _ _ ({dst:=some 9,op:=Op.alloc _,type:=_,pos:=_,after:=_,guard:=_}::_) _ _));((with_reducible refine gal ?_);refine wGz 107 [.int .i64 0,.int .u64 0,.bool false] hA ?_;clear hF hA;intro b9 w1 hA hb9 hF))|((with_reducible refine gst ?_);refine wTz hA ?_;clear hF hA;intro w1 hA hF))
    try go_frame
    have haq:=Hd fun w1 q=>ZoB (hda'.out w1 q)
    clear hda'
    go_cut [10,11] from 39 to 46 (CutA w t p m ss2 b2 T1 first b6 b8 b9 [.slice sx sn sc,.int .u64 first,.slice ex en ec,.slice cx cn cc] [.int .i64 kind,.int .u64 num,.string foot,.int .u64 req,.string path,.int .i64 mode,.int .u64 n,.int .i64 time] [.int .i64 xe,.int .u64 xn,.bool xg] xe xn xg)
    case first=>
     have haq':=haq;replace hA:=hA.drew;clear hF;refine wp_region_held (S:=fun w'=>Zab w' b6 [.slice sx sn sc,.int .u64 first,.slice ex en ec,.slice cx cn cc] 87∧Zab w' b8 (k8 kind num foot req path mode n time) 27) hm ?_;change wpAnyH _ _ _ _ _ 11 _ _ (World.drew _)
     generalize World.drew _=wd at *
     have hS0:=(⟨hA.get (A:=Part.cells b6 [.slice sx sn sc,.int .u64 first,.slice ex en ec,.slice cx cn cc] 87) sZ,hA.get (A:=Part.cells b8 (k8 kind num foot req path mode n time) 27) sZ⟩:(fun w'=>Zab w' b6 [.slice sx sn sc,.int .u64 first,.slice ex en ec,.slice cx cn cc] 87∧Zab w' b8 (k8 kind num foot req path mode n time) 27) wd)
     refine tZ 0 40 (.agg #[.slice sx sn sc,.int .u64 first,.slice ex en ec,.slice cx cn cc]) (r:=(fun w' hS=>Zah (ty:=87) (n:=4) (b:=b6) (j:=0) rfl (by exact rfl) hS.1 (by kernel_rfl) (by kernel_rfl) rfl rfl)) (s:=hS0) (h:= ?_)
     try go_frame
     refine tZ 1 41 (.agg #[.int .i64 kind,.int .u64 num,.string foot,.int .u64 req,.string path,.int .i64 mode,.int .u64 n,.int .i64 time]) (r:=(fun w' hS=>Zah (ty:=27) (n:=8) (b:=b8) (j:=0) rfl (by exact rfl) hS.2 (by kernel_rfl) (by kernel_rfl) rfl rfl)) (s:=hS0) (h:= ?_)
     try go_frame
     refine Zdz (i:=2) (j:=7) (k:=8) (by kernel_rfl) ?_ ?_ ?_
     · skip
       refine cY 2 42 32 (fun u w'=>u=.agg #[.int .i64 kind,.int .u64 num,.string foot,.int .u64 req,.string path,.int .i64 mode,.int .u64 n,.int .i64 time]∧Ext _ w') ((hof'.out _).mono fun e w' ⟨he,hx⟩=>⟨_,he,rfl,hx⟩) ?_;rintro u w3 ⟨rfl,hx⟩;have hB:=hA.ext hx;clear hx
       refine andH ⟨hB.ci,hB.ci⟩ fun hS0=> ?_
       clear hA;have hA:=hB;clear hB
       try go_frame
       refine Zdz (i:=3) (j:=7) (k:=8) (by kernel_rfl) ?_ ?_ ?_
       · skip
         refine cZ 3 43 (haq'.out _ (hA.seps (K:=[rowR (.slice sx sn sc) L,poolP PL,poolE QE,poolC QC]) pR)) ?_;rintro u w3 ⟨sx2,sc2,ex2,ec2,cx2,cn2,cc2,L2,PL2,QE2,QC2,r2,rfl,hd2,hT⟩;have hd2':=Hd hd2;have hB:=call4 hA (A:=rowR (.slice sx sn sc) L) (B:=poolP PL) (C:=poolE QE) (D:=poolC QC) sZ sZ sZ sZ hT;clear hT hd2;simp only[uA] at hB
         refine andH ⟨hB.ci,hB.ci⟩ fun hS0=> ?_
         clear hA;have hA:=hB;clear hB
         try go_frame
         refine tP 4 39 (.tuple #[.agg #[.slice sx2 L2.length sc2,.int .u64 first,.slice ex2 T1.L.es.length ec2,.slice cx2 cn2 cc2],.agg #[.int .u64 r2,.int .i64 xe,.int .u64 xn,.bool xg]]) (s:=hS0) (h:= ?_)
         try go_frame
         refine tP 5 44 (.agg #[.slice sx2 L2.length sc2,.int .u64 first,.slice ex2 T1.L.es.length ec2,.slice cx2 cn2 cc2]) (s:=hS0) (h:= ?_)
         try go_frame
         refine tP 6 45 (.agg #[.int .u64 r2,.int .i64 xe,.int .u64 xn,.bool xg]) (s:=hS0) (h:= ?_)
         try go_frame
         refine ZaG (i:=7) (j:=8) (by kernel_rfl) ?_ ?_
         · skip
           refine aZ 7 10 87 [.slice none 0 0,.int .u64 0,.slice none 0 0,.slice none 0 0] hA ?_;intro b10 w3 hB
           refine andH ⟨hB.ci,hB.ci⟩ fun hS0=> ?_
           clear hA;have hA:=hB;clear hB
           try go_frame
           refine Zaa (i:=8) (by kernel_rfl) ?_;refine aZ 8 11 90 [.int .u64 0,.int .i64 0,.int .u64 0,.bool false] hA ?_;intro b11 w3 hB
           refine andH ⟨hB.ci,hB.ci⟩ fun hS0=> ?_
           clear hA;have hA:=hB;clear hB
           try go_frame
           refine Zaa (i:=9) (by kernel_rfl) ?_;refine stZ 9 b10 0 [.slice sx2 L2.length sc2,.int .u64 first,.slice ex2 T1.L.es.length ec2,.slice cx2 cn2 cc2] hA ?_;intro w3 hB;simp only[uA] at hB
           refine andH ⟨hB.ci,hB.ci⟩ fun hS0=> ?_
           clear hA;have hA:=hB;clear hB
           try go_frame
           refine Zaa (i:=10) (by kernel_rfl) ?_;refine stZ 10 b11 0 [.int .u64 r2,.int .i64 xe,.int .u64 xn,.bool xg] hA ?_;intro w3 hB;simp only[uA] at hB
           refine andH ⟨hB.ci,hB.ci⟩ fun hS0=> ?_
           clear hA;have hA:=hB;clear hB
           try go_frame
           refine wpAnyH_done (by kernel_rfl) ?_ _
           try go_frame
           clear hS0;obtain⟨hA,hF⟩:=fZ hA
           go_wp2_with fail
           go_meet
           case rel=>exact⟨b10,b11,⟨.slice sx2 L2.length sc2,L2,PL2,.slice ex2 T1.L.es.length ec2,QE2,.slice cx2 cn2 cc2,QC2⟩,r2,rfl,rfl,hd2'.out,hA.pick pZ⟩
         skip;refine aZ 8 11 90 [.int .u64 0,.int .i64 0,.int .u64 0,.bool false] hA ?_;intro b11 w3 hB
         refine andH ⟨hB.ci,hB.ci⟩ fun hS0=> ?_
         clear hA;have hA:=hB;clear hB
         try go_frame
         refine Zaa (i:=7) (by kernel_rfl) ?_;refine aZ 7 10 87 [.slice none 0 0,.int .u64 0,.slice none 0 0,.slice none 0 0] hA ?_;intro b10 w3 hB
         refine andH ⟨hB.ci,hB.ci⟩ fun hS0=> ?_
         clear hA;have hA:=hB;clear hB
         try go_frame
         refine Zaa (i:=9) (by kernel_rfl) ?_;refine stZ 9 b10 0 [.slice sx2 L2.length sc2,.int .u64 first,.slice ex2 T1.L.es.length ec2,.slice cx2 cn2 cc2] hA ?_;intro w3 hB;simp only[uA] at hB
         refine andH ⟨hB.ci,hB.ci⟩ fun hS0=> ?_
         clear hA;have hA:=hB;clear hB
         try go_frame
         refine Zaa (i:=10) (by kernel_rfl) ?_;refine stZ 10 b11 0 [.int .u64 r2,.int .i64 xe,.int .u64 xn,.bool xg] hA ?_;intro w3 hB;simp only[uA] at hB
         refine andH ⟨hB.ci,hB.ci⟩ fun hS0=> ?_
         clear hA;have hA:=hB;clear hB
         try go_frame
         refine wpAnyH_done (by kernel_rfl) ?_ _
         try go_frame
         clear hS0;obtain⟨hA,hF⟩:=fZ hA
         go_wp2_with fail
         go_meet
         case rel=>exact⟨b10,b11,⟨.slice sx2 L2.length sc2,L2,PL2,.slice ex2 T1.L.es.length ec2,QE2,.slice cx2 cn2 cc2,QC2⟩,r2,rfl,rfl,hd2'.out,hA.pick pZ⟩
       · skip
         refine aZ 7 10 87 [.slice none 0 0,.int .u64 0,.slice none 0 0,.slice none 0 0] hA ?_;intro b10 w3 hB
         refine andH ⟨hB.ci,hB.ci⟩ fun hS0=> ?_
         clear hA;have hA:=hB;clear hB
         try go_frame
         refine ZaG (i:=3) (j:=8) (by kernel_rfl) ?_ ?_
         · skip
           refine cZ 3 43 (haq'.out _ (hA.seps (K:=[rowR (.slice sx sn sc) L,poolP PL,poolE QE,poolC QC]) pR)) ?_;rintro u w3 ⟨sx2,sc2,ex2,ec2,cx2,cn2,cc2,L2,PL2,QE2,QC2,r2,rfl,hd2,hT⟩;have hd2':=Hd hd2;have hB:=call4 hA (A:=rowR (.slice sx sn sc) L) (B:=poolP PL) (C:=poolE QE) (D:=poolC QC) sZ sZ sZ sZ hT;clear hT hd2;simp only[uA] at hB
           refine andH ⟨hB.ci,hB.ci⟩ fun hS0=> ?_
           clear hA;have hA:=hB;clear hB
           try go_frame
           refine tP 4 39 (.tuple #[.agg #[.slice sx2 L2.length sc2,.int .u64 first,.slice ex2 T1.L.es.length ec2,.slice cx2 cn2 cc2],.agg #[.int .u64 r2,.int .i64 xe,.int .u64 xn,.bool xg]]) (s:=hS0) (h:= ?_)
           try go_frame
           refine tP 5 44 (.agg #[.slice sx2 L2.length sc2,.int .u64 first,.slice ex2 T1.L.es.length ec2,.slice cx2 cn2 cc2]) (s:=hS0) (h:= ?_)
           try go_frame
           refine tP 6 45 (.agg #[.int .u64 r2,.int .i64 xe,.int .u64 xn,.bool xg]) (s:=hS0) (h:= ?_)
           try go_frame
           refine Zaa (i:=8) (by kernel_rfl) ?_;refine aZ 8 11 90 [.int .u64 0,.int .i64 0,.int .u64 0,.bool false] hA ?_;intro b11 w3 hB
           refine andH ⟨hB.ci,hB.ci⟩ fun hS0=> ?_
           clear hA;have hA:=hB;clear hB
           try go_frame
           refine Zaa (i:=9) (by kernel_rfl) ?_;refine stZ 9 b10 0 [.slice sx2 L2.length sc2,.int .u64 first,.slice ex2 T1.L.es.length ec2,.slice cx2 cn2 cc2] hA ?_;intro w3 hB;simp only[uA] at hB
           refine andH ⟨hB.ci,hB.ci⟩ fun hS0=> ?_
           clear hA;have hA:=hB;clear hB
           try go_frame
           refine Zaa (i:=10) (by kernel_rfl) ?_;refine stZ 10 b11 0 [.int .u64 r2,.int .i64 xe,.int .u64 xn,.bool xg] hA ?_;intro w3 hB;simp only[uA] at hB
           refine andH ⟨hB.ci,hB.ci⟩ fun hS0=> ?_
           clear hA;have hA:=hB;clear hB
           try go_frame
           refine wpAnyH_done (by kernel_rfl) ?_ _
           try go_frame
           clear hS0;obtain⟨hA,hF⟩:=fZ hA
           go_wp2_with fail
           go_meet
           case rel=>exact⟨b10,b11,⟨.slice sx2 L2.length sc2,L2,PL2,.slice ex2 T1.L.es.length ec2,QE2,.slice cx2 cn2 cc2,QC2⟩,r2,rfl,rfl,hd2'.out,hA.pick pZ⟩
         skip;refine aZ 8 11 90 [.int .u64 0,.int .i64 0,.int .u64 0,.bool false] hA ?_;intro b11 w3 hB
         refine andH ⟨hB.ci,hB.ci⟩ fun hS0=> ?_
         clear hA;have hA:=hB;clear hB
         try go_frame
         refine Zaa (i:=3) (by kernel_rfl) ?_;refine cZ 3 43 (haq'.out _ (hA.seps (K:=[rowR (.slice sx sn sc) L,poolP PL,poolE QE,poolC QC]) pR)) ?_;rintro u w3 ⟨sx2,sc2,ex2,ec2,cx2,cn2,cc2,L2,PL2,QE2,QC2,r2,rfl,hd2,hT⟩;have hd2':=Hd hd2;have hB:=call4 hA (A:=rowR (.slice sx sn sc) L) (B:=poolP PL) (C:=poolE QE) (D:=poolC QC) sZ sZ sZ sZ hT;clear hT hd2;simp only[uA] at hB
         refine andH ⟨hB.ci,hB.ci⟩ fun hS0=> ?_
         clear hA;have hA:=hB;clear hB
         try go_frame
         refine tP 4 39 (.tuple #[.agg #[.slice sx2 L2.length sc2,.int .u64 first,.slice ex2 T1.L.es.length ec2,.slice cx2 cn2 cc2],.agg #[.int .u64 r2,.int .i64 xe,.int .u64 xn,.bool xg]]) (s:=hS0) (h:= ?_)
         try go_frame
         refine tP 5 44 (.agg #[.slice sx2 L2.length sc2,.int .u64 first,.slice ex2 T1.L.es.length ec2,.slice cx2 cn2 cc2]) (s:=hS0) (h:= ?_)
         try go_frame
         refine tP 6 45 (.agg #[.int .u64 r2,.int .i64 xe,.int .u64 xn,.bool xg]) (s:=hS0) (h:= ?_)
         try go_frame
         refine Zaa (i:=9) (by kernel_rfl) ?_;refine stZ 9 b10 0 [.slice sx2 L2.length sc2,.int .u64 first,.slice ex2 T1.L.es.length ec2,.slice cx2 cn2 cc2] hA ?_;intro w3 hB;simp only[uA] at hB
         refine andH ⟨hB.ci,hB.ci⟩ fun hS0=> ?_
         clear hA;have hA:=hB;clear hB
         try go_frame
         refine Zaa (i:=10) (by kernel_rfl) ?_;refine stZ 10 b11 0 [.int .u64 r2,.int .i64 xe,.int .u64 xn,.bool xg] hA ?_;intro w3 hB;simp only[uA] at hB
         refine andH ⟨hB.ci,hB.ci⟩ fun hS0=> ?_
         clear hA;have hA:=hB;clear hB
         try go_frame
         refine wpAnyH_done (by kernel_rfl) ?_ _
         try go_frame
         clear hS0;obtain⟨hA,hF⟩:=fZ hA
         go_wp2_with fail
         go_meet
         case rel=>exact⟨b10,b11,⟨.slice sx2 L2.length sc2,L2,PL2,.slice ex2 T1.L.es.length ec2,QE2,.slice cx2 cn2 cc2,QC2⟩,r2,rfl,rfl,hd2'.out,hA.pick pZ⟩
       skip;refine aZ 8 11 90 [.int .u64 0,.int .i64 0,.int .u64 0,.bool false] hA ?_;intro b11 w3 hB
       refine andH ⟨hB.ci,hB.ci⟩ fun hS0=> ?_
       clear hA;have hA:=hB;clear hB
       try go_frame
       refine ZaG (i:=3) (j:=7) (by kernel_rfl) ?_ ?_
       · skip
         refine cZ 3 43 (haq'.out _ (hA.seps (K:=[rowR (.slice sx sn sc) L,poolP PL,poolE QE,poolC QC]) pR)) ?_;rintro u w3 ⟨sx2,sc2,ex2,ec2,cx2,cn2,cc2,L2,PL2,QE2,QC2,r2,rfl,hd2,hT⟩;have hd2':=Hd hd2;have hB:=call4 hA (A:=rowR (.slice sx sn sc) L) (B:=poolP PL) (C:=poolE QE) (D:=poolC QC) sZ sZ sZ sZ hT;clear hT hd2;simp only[uA] at hB
         refine andH ⟨hB.ci,hB.ci⟩ fun hS0=> ?_
         clear hA;have hA:=hB;clear hB
         try go_frame
         refine tP 4 39 (.tuple #[.agg #[.slice sx2 L2.length sc2,.int .u64 first,.slice ex2 T1.L.es.length ec2,.slice cx2 cn2 cc2],.agg #[.int .u64 r2,.int .i64 xe,.int .u64 xn,.bool xg]]) (s:=hS0) (h:= ?_)
         try go_frame
         refine tP 5 44 (.agg #[.slice sx2 L2.length sc2,.int .u64 first,.slice ex2 T1.L.es.length ec2,.slice cx2 cn2 cc2]) (s:=hS0) (h:= ?_)
         try go_frame
         refine tP 6 45 (.agg #[.int .u64 r2,.int .i64 xe,.int .u64 xn,.bool xg]) (s:=hS0) (h:= ?_)
         try go_frame
         refine Zaa (i:=7) (by kernel_rfl) ?_;refine aZ 7 10 87 [.slice none 0 0,.int .u64 0,.slice none 0 0,.slice none 0 0] hA ?_;intro b10 w3 hB
         refine andH ⟨hB.ci,hB.ci⟩ fun hS0=> ?_
         clear hA;have hA:=hB;clear hB
         try go_frame
         refine Zaa (i:=9) (by kernel_rfl) ?_;refine stZ 9 b10 0 [.slice sx2 L2.length sc2,.int .u64 first,.slice ex2 T1.L.es.length ec2,.slice cx2 cn2 cc2] hA ?_;intro w3 hB;simp only[uA] at hB
         refine andH ⟨hB.ci,hB.ci⟩ fun hS0=> ?_
         clear hA;have hA:=hB;clear hB
         try go_frame
         refine Zaa (i:=10) (by kernel_rfl) ?_;refine stZ 10 b11 0 [.int .u64 r2,.int .i64 xe,.int .u64 xn,.bool xg] hA ?_;intro w3 hB;simp only[uA] at hB
         refine andH ⟨hB.ci,hB.ci⟩ fun hS0=> ?_
         clear hA;have hA:=hB;clear hB
         try go_frame
         refine wpAnyH_done (by kernel_rfl) ?_ _
         try go_frame
         clear hS0;obtain⟨hA,hF⟩:=fZ hA
         go_wp2_with fail
         go_meet
         case rel=>exact⟨b10,b11,⟨.slice sx2 L2.length sc2,L2,PL2,.slice ex2 T1.L.es.length ec2,QE2,.slice cx2 cn2 cc2,QC2⟩,r2,rfl,rfl,hd2'.out,hA.pick pZ⟩
       skip;refine aZ 7 10 87 [.slice none 0 0,.int .u64 0,.slice none 0 0,.slice none 0 0] hA ?_;intro b10 w3 hB
       refine andH ⟨hB.ci,hB.ci⟩ fun hS0=> ?_
       clear hA;have hA:=hB;clear hB
       try go_frame
       refine Zaa (i:=3) (by kernel_rfl) ?_;refine cZ 3 43 (haq'.out _ (hA.seps (K:=[rowR (.slice sx sn sc) L,poolP PL,poolE QE,poolC QC]) pR)) ?_;rintro u w3 ⟨sx2,sc2,ex2,ec2,cx2,cn2,cc2,L2,PL2,QE2,QC2,r2,rfl,hd2,hT⟩;have hd2':=Hd hd2;have hB:=call4 hA (A:=rowR (.slice sx sn sc) L) (B:=poolP PL) (C:=poolE QE) (D:=poolC QC) sZ sZ sZ sZ hT;clear hT hd2;simp only[uA] at hB
       refine andH ⟨hB.ci,hB.ci⟩ fun hS0=> ?_
       clear hA;have hA:=hB;clear hB
       try go_frame
       refine tP 4 39 (.tuple #[.agg #[.slice sx2 L2.length sc2,.int .u64 first,.slice ex2 T1.L.es.length ec2,.slice cx2 cn2 cc2],.agg #[.int .u64 r2,.int .i64 xe,.int .u64 xn,.bool xg]]) (s:=hS0) (h:= ?_)
       try go_frame
       refine tP 5 44 (.agg #[.slice sx2 L2.length sc2,.int .u64 first,.slice ex2 T1.L.es.length ec2,.slice cx2 cn2 cc2]) (s:=hS0) (h:= ?_)
       try go_frame
       refine tP 6 45 (.agg #[.int .u64 r2,.int .i64 xe,.int .u64 xn,.bool xg]) (s:=hS0) (h:= ?_)
       try go_frame
       refine Zaa (i:=9) (by kernel_rfl) ?_;refine stZ 9 b10 0 [.slice sx2 L2.length sc2,.int .u64 first,.slice ex2 T1.L.es.length ec2,.slice cx2 cn2 cc2] hA ?_;intro w3 hB;simp only[uA] at hB
       refine andH ⟨hB.ci,hB.ci⟩ fun hS0=> ?_
       clear hA;have hA:=hB;clear hB
       try go_frame
       refine Zaa (i:=10) (by kernel_rfl) ?_;refine stZ 10 b11 0 [.int .u64 r2,.int .i64 xe,.int .u64 xn,.bool xg] hA ?_;intro w3 hB;simp only[uA] at hB
       refine andH ⟨hB.ci,hB.ci⟩ fun hS0=> ?_
       clear hA;have hA:=hB;clear hB
       try go_frame
       refine wpAnyH_done (by kernel_rfl) ?_ _
       try go_frame
       clear hS0;obtain⟨hA,hF⟩:=fZ hA
       go_wp2_with fail
       go_meet
       case rel=>exact⟨b10,b11,⟨.slice sx2 L2.length sc2,L2,PL2,.slice ex2 T1.L.es.length ec2,QE2,.slice cx2 cn2 cc2,QC2⟩,r2,rfl,rfl,hd2'.out,hA.pick pZ⟩
     · skip
       refine aZ 7 10 87 [.slice none 0 0,.int .u64 0,.slice none 0 0,.slice none 0 0] hA ?_;intro b10 w3 hB
       refine andH ⟨hB.ci,hB.ci⟩ fun hS0=> ?_
       clear hA;have hA:=hB;clear hB
       try go_frame
       refine ZaG (i:=2) (j:=8) (by kernel_rfl) ?_ ?_
       · skip
         refine cY 2 42 32 (fun u w'=>u=.agg #[.int .i64 kind,.int .u64 num,.string foot,.int .u64 req,.string path,.int .i64 mode,.int .u64 n,.int .i64 time]∧Ext _ w') ((hof'.out _).mono fun e w' ⟨he,hx⟩=>⟨_,he,rfl,hx⟩) ?_;rintro u w3 ⟨rfl,hx⟩;have hB:=hA.ext hx;clear hx
         refine andH ⟨hB.ci,hB.ci⟩ fun hS0=> ?_
         clear hA;have hA:=hB;clear hB
         try go_frame
         refine ZaG (i:=3) (j:=8) (by kernel_rfl) ?_ ?_
         · skip
           refine cZ 3 43 (haq'.out _ (hA.seps (K:=[rowR (.slice sx sn sc) L,poolP PL,poolE QE,poolC QC]) pR)) ?_;rintro u w3 ⟨sx2,sc2,ex2,ec2,cx2,cn2,cc2,L2,PL2,QE2,QC2,r2,rfl,hd2,hT⟩;have hd2':=Hd hd2;have hB:=call4 hA (A:=rowR (.slice sx sn sc) L) (B:=poolP PL) (C:=poolE QE) (D:=poolC QC) sZ sZ sZ sZ hT;clear hT hd2;simp only[uA] at hB
           refine andH ⟨hB.ci,hB.ci⟩ fun hS0=> ?_
           clear hA;have hA:=hB;clear hB
           try go_frame
           refine tP 4 39 (.tuple #[.agg #[.slice sx2 L2.length sc2,.int .u64 first,.slice ex2 T1.L.es.length ec2,.slice cx2 cn2 cc2],.agg #[.int .u64 r2,.int .i64 xe,.int .u64 xn,.bool xg]]) (s:=hS0) (h:= ?_)
           try go_frame
           refine tP 5 44 (.agg #[.slice sx2 L2.length sc2,.int .u64 first,.slice ex2 T1.L.es.length ec2,.slice cx2 cn2 cc2]) (s:=hS0) (h:= ?_)
           try go_frame
           refine tP 6 45 (.agg #[.int .u64 r2,.int .i64 xe,.int .u64 xn,.bool xg]) (s:=hS0) (h:= ?_)
           try go_frame
           refine Zaa (i:=8) (by kernel_rfl) ?_;refine aZ 8 11 90 [.int .u64 0,.int .i64 0,.int .u64 0,.bool false] hA ?_;intro b11 w3 hB
           refine andH ⟨hB.ci,hB.ci⟩ fun hS0=> ?_
           clear hA;have hA:=hB;clear hB
           try go_frame
           refine Zaa (i:=9) (by kernel_rfl) ?_;refine stZ 9 b10 0 [.slice sx2 L2.length sc2,.int .u64 first,.slice ex2 T1.L.es.length ec2,.slice cx2 cn2 cc2] hA ?_;intro w3 hB;simp only[uA] at hB
           refine andH ⟨hB.ci,hB.ci⟩ fun hS0=> ?_
           clear hA;have hA:=hB;clear hB
           try go_frame
           refine Zaa (i:=10) (by kernel_rfl) ?_;refine stZ 10 b11 0 [.int .u64 r2,.int .i64 xe,.int .u64 xn,.bool xg] hA ?_;intro w3 hB;simp only[uA] at hB
           refine andH ⟨hB.ci,hB.ci⟩ fun hS0=> ?_
           clear hA;have hA:=hB;clear hB
           try go_frame
           refine wpAnyH_done (by kernel_rfl) ?_ _
           try go_frame
           clear hS0;obtain⟨hA,hF⟩:=fZ hA
           go_wp2_with fail
           go_meet
           case rel=>exact⟨b10,b11,⟨.slice sx2 L2.length sc2,L2,PL2,.slice ex2 T1.L.es.length ec2,QE2,.slice cx2 cn2 cc2,QC2⟩,r2,rfl,rfl,hd2'.out,hA.pick pZ⟩
         skip;refine aZ 8 11 90 [.int .u64 0,.int .i64 0,.int .u64 0,.bool false] hA ?_;intro b11 w3 hB
         refine andH ⟨hB.ci,hB.ci⟩ fun hS0=> ?_
         clear hA;have hA:=hB;clear hB
         try go_frame
         refine Zaa (i:=3) (by kernel_rfl) ?_;refine cZ 3 43 (haq'.out _ (hA.seps (K:=[rowR (.slice sx sn sc) L,poolP PL,poolE QE,poolC QC]) pR)) ?_;rintro u w3 ⟨sx2,sc2,ex2,ec2,cx2,cn2,cc2,L2,PL2,QE2,QC2,r2,rfl,hd2,hT⟩;have hd2':=Hd hd2;have hB:=call4 hA (A:=rowR (.slice sx sn sc) L) (B:=poolP PL) (C:=poolE QE) (D:=poolC QC) sZ sZ sZ sZ hT;clear hT hd2;simp only[uA] at hB
         refine andH ⟨hB.ci,hB.ci⟩ fun hS0=> ?_
         clear hA;have hA:=hB;clear hB
         try go_frame
         refine tP 4 39 (.tuple #[.agg #[.slice sx2 L2.length sc2,.int .u64 first,.slice ex2 T1.L.es.length ec2,.slice cx2 cn2 cc2],.agg #[.int .u64 r2,.int .i64 xe,.int .u64 xn,.bool xg]]) (s:=hS0) (h:= ?_)
         try go_frame
         refine tP 5 44 (.agg #[.slice sx2 L2.length sc2,.int .u64 first,.slice ex2 T1.L.es.length ec2,.slice cx2 cn2 cc2]) (s:=hS0) (h:= ?_)
         try go_frame
         refine tP 6 45 (.agg #[.int .u64 r2,.int .i64 xe,.int .u64 xn,.bool xg]) (s:=hS0) (h:= ?_)
         try go_frame
         refine Zaa (i:=9) (by kernel_rfl) ?_;refine stZ 9 b10 0 [.slice sx2 L2.length sc2,.int .u64 first,.slice ex2 T1.L.es.length ec2,.slice cx2 cn2 cc2] hA ?_;intro w3 hB;simp only[uA] at hB
         refine andH ⟨hB.ci,hB.ci⟩ fun hS0=> ?_
         clear hA;have hA:=hB;clear hB
         try go_frame
         refine Zaa (i:=10) (by kernel_rfl) ?_;refine stZ 10 b11 0 [.int .u64 r2,.int .i64 xe,.int .u64 xn,.bool xg] hA ?_;intro w3 hB;simp only[uA] at hB
         refine andH ⟨hB.ci,hB.ci⟩ fun hS0=> ?_
         clear hA;have hA:=hB;clear hB
         try go_frame
         refine wpAnyH_done (by kernel_rfl) ?_ _
         try go_frame
         clear hS0;obtain⟨hA,hF⟩:=fZ hA
         go_wp2_with fail
         go_meet
         case rel=>exact⟨b10,b11,⟨.slice sx2 L2.length sc2,L2,PL2,.slice ex2 T1.L.es.length ec2,QE2,.slice cx2 cn2 cc2,QC2⟩,r2,rfl,rfl,hd2'.out,hA.pick pZ⟩
       skip;refine aZ 8 11 90 [.int .u64 0,.int .i64 0,.int .u64 0,.bool false] hA ?_;intro b11 w3 hB
       refine andH ⟨hB.ci,hB.ci⟩ fun hS0=> ?_
       clear hA;have hA:=hB;clear hB
       try go_frame
       refine Zaa (i:=2) (by kernel_rfl) ?_;refine cY 2 42 32 (fun u w'=>u=.agg #[.int .i64 kind,.int .u64 num,.string foot,.int .u64 req,.string path,.int .i64 mode,.int .u64 n,.int .i64 time]∧Ext _ w') ((hof'.out _).mono fun e w' ⟨he,hx⟩=>⟨_,he,rfl,hx⟩) ?_;rintro u w3 ⟨rfl,hx⟩;have hB:=hA.ext hx;clear hx
       refine andH ⟨hB.ci,hB.ci⟩ fun hS0=> ?_
       clear hA;have hA:=hB;clear hB
       try go_frame
       refine Zaa (i:=3) (by kernel_rfl) ?_;refine cZ 3 43 (haq'.out _ (hA.seps (K:=[rowR (.slice sx sn sc) L,poolP PL,poolE QE,poolC QC]) pR)) ?_;rintro u w3 ⟨sx2,sc2,ex2,ec2,cx2,cn2,cc2,L2,PL2,QE2,QC2,r2,rfl,hd2,hT⟩;have hd2':=Hd hd2;have hB:=call4 hA (A:=rowR (.slice sx sn sc) L) (B:=poolP PL) (C:=poolE QE) (D:=poolC QC) sZ sZ sZ sZ hT;clear hT hd2;simp only[uA] at hB
       refine andH ⟨hB.ci,hB.ci⟩ fun hS0=> ?_
       clear hA;have hA:=hB;clear hB
       try go_frame
       refine tP 4 39 (.tuple #[.agg #[.slice sx2 L2.length sc2,.int .u64 first,.slice ex2 T1.L.es.length ec2,.slice cx2 cn2 cc2],.agg #[.int .u64 r2,.int .i64 xe,.int .u64 xn,.bool xg]]) (s:=hS0) (h:= ?_)
       try go_frame
       refine tP 5 44 (.agg #[.slice sx2 L2.length sc2,.int .u64 first,.slice ex2 T1.L.es.length ec2,.slice cx2 cn2 cc2]) (s:=hS0) (h:= ?_)
       try go_frame
       refine tP 6 45 (.agg #[.int .u64 r2,.int .i64 xe,.int .u64 xn,.bool xg]) (s:=hS0) (h:= ?_)
       try go_frame
       refine Zaa (i:=9) (by kernel_rfl) ?_;refine stZ 9 b10 0 [.slice sx2 L2.length sc2,.int .u64 first,.slice ex2 T1.L.es.length ec2,.slice cx2 cn2 cc2] hA ?_;intro w3 hB;simp only[uA] at hB
       refine andH ⟨hB.ci,hB.ci⟩ fun hS0=> ?_
       clear hA;have hA:=hB;clear hB
       try go_frame
       refine Zaa (i:=10) (by kernel_rfl) ?_;refine stZ 10 b11 0 [.int .u64 r2,.int .i64 xe,.int .u64 xn,.bool xg] hA ?_;intro w3 hB;simp only[uA] at hB
       refine andH ⟨hB.ci,hB.ci⟩ fun hS0=> ?_
       clear hA;have hA:=hB;clear hB
       try go_frame
       refine wpAnyH_done (by kernel_rfl) ?_ _
       try go_frame
       clear hS0;obtain⟨hA,hF⟩:=fZ hA
       go_wp2_with fail
       go_meet
       case rel=>exact⟨b10,b11,⟨.slice sx2 L2.length sc2,L2,PL2,.slice ex2 T1.L.es.length ec2,QE2,.slice cx2 cn2 cc2,QC2⟩,r2,rfl,rfl,hd2'.out,hA.pick pZ⟩
     skip;refine aZ 8 11 90 [.int .u64 0,.int .i64 0,.int .u64 0,.bool false] hA ?_;intro b11 w3 hB
     refine andH ⟨hB.ci,hB.ci⟩ fun hS0=> ?_
     clear hA;have hA:=hB;clear hB
     try go_frame
     refine ZaG (i:=2) (j:=7) (by kernel_rfl) ?_ ?_
     · skip
       refine cY 2 42 32 (fun u w'=>u=.agg #[.int .i64 kind,.int .u64 num,.string foot,.int .u64 req,.string path,.int .i64 mode,.int .u64 n,.int .i64 time]∧Ext _ w') ((hof'.out _).mono fun e w' ⟨he,hx⟩=>⟨_,he,rfl,hx⟩) ?_;rintro u w3 ⟨rfl,hx⟩;have hB:=hA.ext hx;clear hx
       refine andH ⟨hB.ci,hB.ci⟩ fun hS0=> ?_
       clear hA;have hA:=hB;clear hB
       try go_frame
       refine ZaG (i:=3) (j:=7) (by kernel_rfl) ?_ ?_
       · skip
         refine cZ 3 43 (haq'.out _ (hA.seps (K:=[rowR (.slice sx sn sc) L,poolP PL,poolE QE,poolC QC]) pR)) ?_;rintro u w3 ⟨sx2,sc2,ex2,ec2,cx2,cn2,cc2,L2,PL2,QE2,QC2,r2,rfl,hd2,hT⟩;have hd2':=Hd hd2;have hB:=call4 hA (A:=rowR (.slice sx sn sc) L) (B:=poolP PL) (C:=poolE QE) (D:=poolC QC) sZ sZ sZ sZ hT;clear hT hd2;simp only[uA] at hB
         refine andH ⟨hB.ci,hB.ci⟩ fun hS0=> ?_
         clear hA;have hA:=hB;clear hB
         try go_frame
         refine tP 4 39 (.tuple #[.agg #[.slice sx2 L2.length sc2,.int .u64 first,.slice ex2 T1.L.es.length ec2,.slice cx2 cn2 cc2],.agg #[.int .u64 r2,.int .i64 xe,.int .u64 xn,.bool xg]]) (s:=hS0) (h:= ?_)
         try go_frame
         refine tP 5 44 (.agg #[.slice sx2 L2.length sc2,.int .u64 first,.slice ex2 T1.L.es.length ec2,.slice cx2 cn2 cc2]) (s:=hS0) (h:= ?_)
         try go_frame
         refine tP 6 45 (.agg #[.int .u64 r2,.int .i64 xe,.int .u64 xn,.bool xg]) (s:=hS0) (h:= ?_)
         try go_frame
         refine Zaa (i:=7) (by kernel_rfl) ?_;refine aZ 7 10 87 [.slice none 0 0,.int .u64 0,.slice none 0 0,.slice none 0 0] hA ?_;intro b10 w3 hB
         refine andH ⟨hB.ci,hB.ci⟩ fun hS0=> ?_
         clear hA;have hA:=hB;clear hB
         try go_frame
         refine Zaa (i:=9) (by kernel_rfl) ?_;refine stZ 9 b10 0 [.slice sx2 L2.length sc2,.int .u64 first,.slice ex2 T1.L.es.length ec2,.slice cx2 cn2 cc2] hA ?_;intro w3 hB;simp only[uA] at hB
         refine andH ⟨hB.ci,hB.ci⟩ fun hS0=> ?_
         clear hA;have hA:=hB;clear hB
         try go_frame
         refine Zaa (i:=10) (by kernel_rfl) ?_;refine stZ 10 b11 0 [.int .u64 r2,.int .i64 xe,.int .u64 xn,.bool xg] hA ?_;intro w3 hB;simp only[uA] at hB
         refine andH ⟨hB.ci,hB.ci⟩ fun hS0=> ?_
         clear hA;have hA:=hB;clear hB
         try go_frame
         refine wpAnyH_done (by kernel_rfl) ?_ _
         try go_frame
         clear hS0;obtain⟨hA,hF⟩:=fZ hA
         go_wp2_with fail
         go_meet
         case rel=>exact⟨b10,b11,⟨.slice sx2 L2.length sc2,L2,PL2,.slice ex2 T1.L.es.length ec2,QE2,.slice cx2 cn2 cc2,QC2⟩,r2,rfl,rfl,hd2'.out,hA.pick pZ⟩
       skip;refine aZ 7 10 87 [.slice none 0 0,.int .u64 0,.slice none 0 0,.slice none 0 0] hA ?_;intro b10 w3 hB
       refine andH ⟨hB.ci,hB.ci⟩ fun hS0=> ?_
       clear hA;have hA:=hB;clear hB
       try go_frame
       refine Zaa (i:=3) (by kernel_rfl) ?_;refine cZ 3 43 (haq'.out _ (hA.seps (K:=[rowR (.slice sx sn sc) L,poolP PL,poolE QE,poolC QC]) pR)) ?_;rintro u w3 ⟨sx2,sc2,ex2,ec2,cx2,cn2,cc2,L2,PL2,QE2,QC2,r2,rfl,hd2,hT⟩;have hd2':=Hd hd2;have hB:=call4 hA (A:=rowR (.slice sx sn sc) L) (B:=poolP PL) (C:=poolE QE) (D:=poolC QC) sZ sZ sZ sZ hT;clear hT hd2;simp only[uA] at hB
       refine andH ⟨hB.ci,hB.ci⟩ fun hS0=> ?_
       clear hA;have hA:=hB;clear hB
       try go_frame
       refine tP 4 39 (.tuple #[.agg #[.slice sx2 L2.length sc2,.int .u64 first,.slice ex2 T1.L.es.length ec2,.slice cx2 cn2 cc2],.agg #[.int .u64 r2,.int .i64 xe,.int .u64 xn,.bool xg]]) (s:=hS0) (h:= ?_)
       try go_frame
       refine tP 5 44 (.agg #[.slice sx2 L2.length sc2,.int .u64 first,.slice ex2 T1.L.es.length ec2,.slice cx2 cn2 cc2]) (s:=hS0) (h:= ?_)
       try go_frame
       refine tP 6 45 (.agg #[.int .u64 r2,.int .i64 xe,.int .u64 xn,.bool xg]) (s:=hS0) (h:= ?_)
       try go_frame
       refine Zaa (i:=9) (by kernel_rfl) ?_;refine stZ 9 b10 0 [.slice sx2 L2.length sc2,.int .u64 first,.slice ex2 T1.L.es.length ec2,.slice cx2 cn2 cc2] hA ?_;intro w3 hB;simp only[uA] at hB
       refine andH ⟨hB.ci,hB.ci⟩ fun hS0=> ?_
       clear hA;have hA:=hB;clear hB
       try go_frame
       refine Zaa (i:=10) (by kernel_rfl) ?_;refine stZ 10 b11 0 [.int .u64 r2,.int .i64 xe,.int .u64 xn,.bool xg] hA ?_;intro w3 hB;simp only[uA] at hB
       refine andH ⟨hB.ci,hB.ci⟩ fun hS0=> ?_
       clear hA;have hA:=hB;clear hB
       try go_frame
       refine wpAnyH_done (by kernel_rfl) ?_ _
       try go_frame
       clear hS0;obtain⟨hA,hF⟩:=fZ hA
       go_wp2_with fail
       go_meet
       case rel=>exact⟨b10,b11,⟨.slice sx2 L2.length sc2,L2,PL2,.slice ex2 T1.L.es.length ec2,QE2,.slice cx2 cn2 cc2,QC2⟩,r2,rfl,rfl,hd2'.out,hA.pick pZ⟩
     skip;refine aZ 7 10 87 [.slice none 0 0,.int .u64 0,.slice none 0 0,.slice none 0 0] hA ?_;intro b10 w3 hB
     refine andH ⟨hB.ci,hB.ci⟩ fun hS0=> ?_
     clear hA;have hA:=hB;clear hB
     try go_frame
     refine Zaa (i:=2) (by kernel_rfl) ?_;refine cY 2 42 32 (fun u w'=>u=.agg #[.int .i64 kind,.int .u64 num,.string foot,.int .u64 req,.string path,.int .i64 mode,.int .u64 n,.int .i64 time]∧Ext _ w') ((hof'.out _).mono fun e w' ⟨he,hx⟩=>⟨_,he,rfl,hx⟩) ?_;rintro u w3 ⟨rfl,hx⟩;have hB:=hA.ext hx;clear hx
     refine andH ⟨hB.ci,hB.ci⟩ fun hS0=> ?_
     clear hA;have hA:=hB;clear hB
     try go_frame
     refine Zaa (i:=3) (by kernel_rfl) ?_;refine cZ 3 43 (haq'.out _ (hA.seps (K:=[rowR (.slice sx sn sc) L,poolP PL,poolE QE,poolC QC]) pR)) ?_;rintro u w3 ⟨sx2,sc2,ex2,ec2,cx2,cn2,cc2,L2,PL2,QE2,QC2,r2,rfl,hd2,hT⟩;have hd2':=Hd hd2;have hB:=call4 hA (A:=rowR (.slice sx sn sc) L) (B:=poolP PL) (C:=poolE QE) (D:=poolC QC) sZ sZ sZ sZ hT;clear hT hd2;simp only[uA] at hB
     refine andH ⟨hB.ci,hB.ci⟩ fun hS0=> ?_
     clear hA;have hA:=hB;clear hB
     try go_frame
     refine tP 4 39 (.tuple #[.agg #[.slice sx2 L2.length sc2,.int .u64 first,.slice ex2 T1.L.es.length ec2,.slice cx2 cn2 cc2],.agg #[.int .u64 r2,.int .i64 xe,.int .u64 xn,.bool xg]]) (s:=hS0) (h:= ?_)
     try go_frame
     refine tP 5 44 (.agg #[.slice sx2 L2.length sc2,.int .u64 first,.slice ex2 T1.L.es.length ec2,.slice cx2 cn2 cc2]) (s:=hS0) (h:= ?_)
     try go_frame
     refine tP 6 45 (.agg #[.int .u64 r2,.int .i64 xe,.int .u64 xn,.bool xg]) (s:=hS0) (h:= ?_)
     try go_frame
     refine Zaa (i:=9) (by kernel_rfl) ?_;refine stZ 9 b10 0 [.slice sx2 L2.length sc2,.int .u64 first,.slice ex2 T1.L.es.length ec2,.slice cx2 cn2 cc2] hA ?_;intro w3 hB;simp only[uA] at hB
     refine andH ⟨hB.ci,hB.ci⟩ fun hS0=> ?_
     clear hA;have hA:=hB;clear hB
     try go_frame
     refine Zaa (i:=10) (by kernel_rfl) ?_;refine stZ 10 b11 0 [.int .u64 r2,.int .i64 xe,.int .u64 xn,.bool xg] hA ?_;intro w3 hB;simp only[uA] at hB
     refine andH ⟨hB.ci,hB.ci⟩ fun hS0=> ?_
     clear hA;have hA:=hB;clear hB
     try go_frame
     refine wpAnyH_done (by kernel_rfl) ?_ _
     try go_frame
     clear hS0;obtain⟨hA,hF⟩:=fZ hA
     go_wp2_with fail
     go_meet
     case rel=>exact⟨b10,b11,⟨.slice sx2 L2.length sc2,L2,PL2,.slice ex2 T1.L.es.length ec2,QE2,.slice cx2 cn2 cc2,QC2⟩,r2,rfl,rfl,hd2'.out,hA.pick pZ⟩
    case rest=>
     obtain⟨b10,b11,D1,r1,rfl,rfl,hd1,hB⟩:=hcut;clear hF hA haq hof';have hA:=hB;clear hB
     have hl2:D1.L.length=ss2.length:=by rw[←hd1.lease.rel.len,←hR2'.out.S,List.length_map]
     have he2:b2.es=T1.L.es:=by rw[←hR2'.out.L];rfl
     obtain⟨sx2,sc2,z1⟩:=Zb5 (hA.pick (K:=[rowR D1.vS D1.L]) pR) .here;obtain⟨RE,hRE⟩:=outE hd1.le;obtain⟨ex2,ec2,z2⟩:=Zb5 ((hA.pick (K:=[poolE D1.QE]) pR).to (hRE [])) .here;obtain⟨_,_,⟨cx2,cn2,cc2,z3⟩⟩:=ZbH (hA.pick (K:=[rowR D1.vS D1.L,poolP D1.PL,poolE D1.QE,poolC D1.QC]) pR) hd1;have hd1':=Hd hd1;have hRE':=Hd hRE;obtain⟨vS2,L2,PL2,vE2,QE2,vC2,QC2⟩:=D1;simp only at z1 z2 z3 hA hl2;subst z1 z2 z3
     have hlb:ss2.length≤1000000:=by
      have h1:=hg1'.out.inv.s.len;rw[←hR2'.out.S,List.length_map] at h1
      omega
     have hib:Lock.Inv b2.st ((0 + li.length) + 1):=by rw[hR2'.out.L];exact hg1'.out.inv.lock
     obtain⟨N,hN⟩:∃z,T1.L.es.length=z:=⟨_,rfl⟩
     obtain⟨M,hM⟩:∃z,L2.length=z:=⟨_,rfl⟩
     have htl:=fun(w1:World) (q:Sep [TabP t p m ss2 b2] w1)=>ZlP q hib (by omega) (he2.symm ▸ hN:b2.es.length=N)
     have hts:=fun(w1:World) (q:Sep [TabP t p m ss2 b2] w1)=>ZjX q hlb (hl2.symm.trans hM)
     have htl':=Hd htl;have hts':=Hd hts;have hN':=Hd hN;have hM':=Hd hM;clear hd1 hRE hl2 he2 hlb hib htl hts;rw[hN,hM] at hA;clear hN hM;obtain⟨hA,hF⟩:=fZ hA
     go_upto_region 13 with((with_reducible refine gst ?_);refine wTz hA ?_;clear hF hA;intro w1 hA hF)
     try go_frame
     replace hA:=hA.drew;clear hF;refine wp_region_held (S:=fun w'=>Zab w' b6 [.slice sx2 M sc2,.int .u64 first,.slice ex2 N ec2,.slice cx2 cn2 cc2] 87∧Zab w' b9 [.int .i64 xe,.int .u64 xn,.bool xg] 107∧Zab w' b11 [.int .u64 r1,.int .i64 xe,.int .u64 xn,.bool xg] 90) hm ?_;change wpAnyH _ _ _ _ _ 26 _ _ (World.drew _)
     generalize World.drew _=wd at *
     have hS0:=(⟨hA.get (A:=Part.cells b6 [.slice sx2 M sc2,.int .u64 first,.slice ex2 N ec2,.slice cx2 cn2 cc2] 87) sZ,hA.get (A:=Part.cells b9 [.int .i64 xe,.int .u64 xn,.bool xg] 107) sZ,hA.get (A:=Part.cells b11 [.int .u64 r1,.int .i64 xe,.int .u64 xn,.bool xg] 90) sZ⟩:(fun w'=>Zab w' b6 [.slice sx2 M sc2,.int .u64 first,.slice ex2 N ec2,.slice cx2 cn2 cc2] 87∧Zab w' b9 [.int .i64 xe,.int .u64 xn,.bool xg] 107∧Zab w' b11 [.int .u64 r1,.int .i64 xe,.int .u64 xn,.bool xg] 90) wd)
     refine tZ 0 47 (.agg #[.int .i64 xe,.int .u64 xn,.bool xg]) (r:=(fun w' hS=>Zah (ty:=107) (n:=3) (b:=b9) (j:=0) rfl (by exact rfl) hS.2.1 (by kernel_rfl) (by kernel_rfl) rfl rfl)) (s:=hS0) (h:= ?_)
     try go_frame
     refine tZ 1 48 (.agg #[.int .u64 r1,.int .i64 xe,.int .u64 xn,.bool xg]) (r:=(fun w' hS=>Zah (ty:=90) (n:=4) (b:=b11) (j:=0) rfl (by exact rfl) hS.2.2 (by kernel_rfl) (by kernel_rfl) rfl rfl)) (s:=hS0) (h:= ?_)
     try go_frame
     refine Zaa (i:=2) (by kernel_rfl) ?_;refine cY 2 49 44 (fun u w'=>u=.bool true∧At [Part.old w] _ [Part.old w] w') ((told_any (hA.sep1 (A:=Part.old w) sZ) xe xn xg r1).mono fun e w' ⟨he,hT⟩=>⟨_,he,rfl,hT⟩) ?_;rintro u w3 ⟨rfl,hT⟩;have hB:=hA.call1 (A:=Part.old w) sZ hT;clear hT;simp only[uA] at hB
     refine andH ⟨hB.ci,hB.ci,hB.ci⟩ fun hS0=> ?_
     clear hA;have hA:=hB;clear hB
     try go_frame
     refine tP 3 50 (.bool false) (s:=hS0) (h:= ?_)
     try go_frame
     refine tP 4 51 (.bool false) (s:=hS0) (h:= ?_)
     try go_frame
     refine tP 5 52 (.pointer (some ⟨t,0,none⟩)) (s:=hS0) (h:= ?_)
     try go_frame
     refine tP 9 56 (.pointer (some ⟨b6,1,none⟩)) (s:=hS0) (h:= ?_)
     try go_frame
     refine tP 10 57 (.pointer (some ⟨b6,2,none⟩)) (s:=hS0) (h:= ?_)
     try go_frame
     refine tZ 11 58 (.slice ex2 N ec2) (r:=(fun w' hS=>Zac (ty:=82) (b:=b6) (j:=2) rfl (by exact rfl) hS.1 (by kernel_rfl) rfl)) (s:=hS0) (h:= ?_)
     try go_frame
     refine tP 12 59 (.int .i64 ((N:Nat):Int)) (s:=hS0) (h:= ?_)
     try go_frame
     refine Zaa (i:=6) (by kernel_rfl) ?_;refine cY 6 53 45 (fun u w'=>u=.pointer (some ⟨b2.p,0,none⟩)∧At [TabP t p m ss2 b2] _ [TabP t p m ss2 b2] w') ((ZbO (hA.sep1 (A:=TabP t p m ss2 b2) sZ)).mono fun e w' ⟨he,hT⟩=>⟨_,he,rfl,hT⟩) ?_;rintro u w3 ⟨rfl,hT⟩;have hB:=hA.call1 (A:=TabP t p m ss2 b2) sZ hT;clear hT;simp only[uA] at hB
     refine andH ⟨hB.ci,hB.ci,hB.ci⟩ fun hS0=> ?_
     clear hA;have hA:=hB;clear hB
     try go_frame
     refine Zaa (i:=7) (by kernel_rfl) ?_;refine cZ 7 54 (htl'.out _ (hA.sep1 (A:=TabP t p m ss2 b2) sZ)) ?_;rintro u w3 ⟨l1x,l1c,rfl,hT⟩;have hB:=hA.call1 (A:=TabP t p m ss2 b2) sZ hT;clear hT;simp only[uA] at hB
     refine andH ⟨hB.ci,hB.ci,hB.ci⟩ fun hS0=> ?_
     clear hA;have hA:=hB;clear hB
     try go_frame
     refine tP 8 55 (.int .i64 ((N:Nat):Int)) (s:=hS0) (h:= ?_)
     try go_frame
     refine tP 13 60 (.bool false) (s:=hS0) (h:= ?_)
     try go_frame
     refine tP 14 61 (.bool false) (s:=hS0) (h:= ?_)
     try go_frame
     refine tP 15 62 (.bool false) (s:=hS0) (h:= ?_)
     try go_frame
     refine tP 16 63 (.pointer (some ⟨t,0,none⟩)) (s:=hS0) (h:= ?_)
     try go_frame
     refine tP 20 67 (.pointer (some ⟨b6,0,none⟩)) (s:=hS0) (h:= ?_)
     try go_frame
     refine tP 21 68 (.pointer (some ⟨b6,0,none⟩)) (s:=hS0) (h:= ?_)
     try go_frame
     refine tZ 22 69 (.slice sx2 M sc2) (r:=(fun w' hS=>Zac (ty:=79) (b:=b6) (j:=0) rfl (by exact rfl) hS.1 (by kernel_rfl) rfl)) (s:=hS0) (h:= ?_)
     try go_frame
     refine tP 23 70 (.int .i64 ((M:Nat):Int)) (s:=hS0) (h:= ?_)
     try go_frame
     refine Zaa (i:=17) (by kernel_rfl) ?_;refine cY 17 64 47 (fun u w'=>u=.pointer (some ⟨p,0,none⟩)∧At [TabP t p m ss2 b2] _ [TabP t p m ss2 b2] w') ((ZdD (hA.sep1 (A:=TabP t p m ss2 b2) sZ)).mono fun e w' ⟨he,hT⟩=>⟨_,he,rfl,hT⟩) ?_;rintro u w3 ⟨rfl,hT⟩;have hB:=hA.call1 (A:=TabP t p m ss2 b2) sZ hT;clear hT;simp only[uA] at hB
     refine andH ⟨hB.ci,hB.ci,hB.ci⟩ fun hS0=> ?_
     clear hA;have hA:=hB;clear hB
     try go_frame
     refine Zaa (i:=18) (by kernel_rfl) ?_;refine cZ 18 65 (hts'.out _ (hA.sep1 (A:=TabP t p m ss2 b2) sZ)) ?_;rintro u w3 ⟨l2x,l2c,rfl,hT⟩;have hB:=hA.call1 (A:=TabP t p m ss2 b2) sZ hT;clear hT;simp only[uA] at hB
     refine andH ⟨hB.ci,hB.ci,hB.ci⟩ fun hS0=> ?_
     clear hA;have hA:=hB;clear hB
     try go_frame
     refine tP 19 66 (.int .i64 ((M:Nat):Int)) (s:=hS0) (h:= ?_)
     try go_frame
     refine tP 24 71 (.bool false) (s:=hS0) (h:= ?_)
     try go_frame
     refine tP 25 72 (.bool false) (s:=hS0) (h:= ?_)
     try go_frame
     refine wpAnyH_done (by kernel_rfl) ?_ _
     try go_frame
     clear hS0;obtain⟨hA,hF⟩:=fZ hA
     go_wp2_with fail
     go_roundg (gk - 1)
     case measure=>omega
     case rel=>exact⟨i + 1,ss2,b2,⟨.slice sx2 M sc2,L2,PL2,.slice ex2 N ec2,QE2,.slice cx2 cn2 cc2,QC2⟩,by simp,by omega,by rw[hp1.out];exact hR2'.out,by rw[hp1.out,←hN'.out,←hM'.out];exact hd1'.out,hA.pick pZ⟩
  have hli:l.take i=l:=List.take_of_length_le (by omega);rw[hli] at hRi' hDi' hgi hfr hlt
  obtain⟨T,hT⟩:∃z,playT T0 l=z:=⟨_,rfl⟩
  rw[hT] at hRi' hDi' hgi hfr
  have hTe:playT ⟨[],⟨first,[],[]⟩⟩ l=T:=by rw[hT0'.out];exact hT
  have hpl:=fun(w1:World) (q:Sep [Part.old w] w1)=>hpl'.out (by simp) w1 q
  have hTe':=Hd hTe;obtain⟨sx',sc',z1⟩:=Zb5 (hA.pick (K:=[rowR (.slice sx sn sc) L]) pR) .here;obtain⟨RE,hRE⟩:=outE hDi'.out.le;obtain⟨ex',ec',z2⟩:=Zb5 ((hA.pick (K:=[poolE QE]) pR).to (hRE [])) .here;cases z1;cases z2;have hRs:Rel ss L:=Rel.zs (by rw[hRi'.out.S];exact hDi'.out.lease.rel)
  have hes:b.es=T.L.es:=by rw[←hRi'.out.L];rfl
  have hLi:=hgi.1.inv.lock
  have hbi:Lock.Inv b.st (0 + l.length):=by rw[hRi'.out.L];exact hLi
  have hbd:=Rel.bounds hDi'.out.lease.rel hgi.1.inv.s
  have hby:=fun(w1:World) (t' p' m':Nat) (s3:List Ses) (d3:Lock.Bk) (hR3:TRel s3 d3 T) (q:Sep [TabP t' p' m' s3 d3] w1)=>Zln q hR3 hDi'.out.lease.rel hgi.1.inv (Zoq hgi.1.ab) (by omega)
  have hgt:=fun(w1:World) (e:Ent) (he:e ∈ T.L.es) (q:Sep [TabP t p m ss b] w1)=>Zjd q hbi (e:=e) (Nat.le_trans (hLi.path e he) (by omega)) (hLi.num0 e he) (hLi.num1 e he) (hLi.foot e he)
  have hft:=fun(w1:World) (e:Ent) (he:e ∈ T.L.es) (q:Sep [TabP t p m ss b] w1)=>Zj0 q (q:=e.path) (n:=e.num) (f:=e.foot) (Nat.le_trans (hLi.path e he) (by unfold maxLen;omega)) (hLi.num0 e he) (hLi.num1 e he) (hLi.foot e he)
  simp only[hes] at hgt hft
  have hgr:=fun(w1:World) (j:Nat) (hj:j < T.L.es.length) (q:Sep [poolE QE] w1)=>Zlo hRE q (fun q2=>Lock.ZdK q2 first (.slice cx cn cc) ⟨_,_,_,rfl⟩ j hj (Nat.le_trans hLi.len (by omega)) (fun x hx=>Nat.le_trans (hLi.path x hx) (by omega)))
  have hpl2:=Hd hpl;have hRs':=Hd hRs;have hLi':=Hd hLi;have hbd':=Hd hbd
  have hby':=Hd hby
  have hgt':=Hd hgt;have hft':=Hd hft;have hgr':=Hd hgr;have hRE':=Hd hRE;have hle:=hLi.len;have hLn:L.length≤1000:=Nat.le_trans hbd.2 (by omega);clear hT hTe hpl hRE hRs hes hLi hbi hbd hby hgt hft hgr hgi hli;obtain⟨hA,hF⟩:=fZ hA
  go_wp2_with fail
  try go_frame
  clear hik hi
  go_loopg [78] L.length (Ap2 w [TabP t p m ss b,Part.cells b6 [.slice sx L.length sc,.int .u64 first,.slice ex T.L.es.length ec,.slice cx cn cc] 87,rowR (.slice sx L.length sc) L,poolP PL,poolE QE,poolC QC,Part.old w] L.length)
  case atStart=>exact⟨0,rfl,by omega,hA.pick pZ⟩
  case round=>
   obtain⟨j,rfl,hjk,hB⟩:=hrel;clear hF hA;have hA:=hB;clear hB
   by_cases hj:j < L.length
   · obtain⟨x,hx⟩:∃x,L[j]? =some x:=⟨_,List.getElem?_eq_getElem hj⟩
     have hxm:=List.mem_of_getElem? hx;obtain⟨rb,ro,rc,e,hcell⟩:=row_at Lease.SR.cells_len (by omega) (hA.get (A:=rowR (.slice sx L.length sc) L) sR) hx;cases e;obtain⟨x1,x2,x3⟩:=hbd'.out.1 x hxm
     have hinf:=fun(w1:World) (q:Sep [TabP t p m ss b] w1)=>Zjc q hRs'.out hxm x1 x2 (Nat.le_trans x3 (by unfold maxLen;omega))
     clear hx hxm x1 x2 x3;obtain⟨yn,yf,yo,yd,ydl,ytt,yax,ycap,ytold⟩:=x;simp only[SR.cells,SR.tv] at hcell hinf;have hcell':=Hd hcell;have hinf':=Hd hinf;clear hcell hinf;obtain⟨hA,hF⟩:=fZ hA
     go_upto_region 19 with(first|(((with_reducible show wpList _ _ _ ({dst:=some 13,op:=Op.alloc _,type:=_,pos:=_,after:=_,guard:=_}::_) _ _));((with_reducible refine gal ?_);refine g8 hA ?_;clear hF hA;intro b13 w1 hA hb13 hF))|((with_reducible show wpList _ _ _ ({dst:=some 81,op:=Op.load _ _,type:=_,pos:=_,after:=_,guard:=_}::_) _ _);refine Zax (vs:=[.int .u64 yn,.string yf,.bool yo,.bool yd,.int .i64 ydl,.int .i64 ytt,.slice yax ytold.length ycap]) rfl rfl (by(try simp only[Act.eval,eV])<;>exact rfl) hcell'.out (by kernel_rfl) (by kernel_rfl) ?_)|((with_reducible refine gst ?_);refine wTz hA ?_;clear hF hA;intro w1 hA hF))
     try go_frame
     (refine Zap (a1:= ?a1_q1) (v:= ?v_q1) 8 14 121 _ (.agg #[.bool false,.bool false,.int .i64 0,.int .i64 0,.int .i64 0]) [.bool false,.bool false,.int .i64 0,.int .i64 0,.int .i64 0] ([.bool yo,.bool yd,.int .i64 ydl,.int .i64 ytt,.int .i64 (ytold.length:Int)]) (by kernel_rfl) (by kernel_rfl) rfl rfl ?hyd_q1 (by kernel_rfl) rfl hA ?h1_q1 ?hd_q1 ?hy_q1 ?hu_q1 ?hsz_q1 ?hus_q1 ?hl_q1 ?h2_q1);(case h1_q1=>(intro R wR hR;(try clear hF);(simp only[List.take_succ_cons,List.take_zero,List.drop_succ_cons,List.drop_zero]);(have hn1:=Cl.none hR);(have hn2:=Cl.none2 hR);(repeat(first|go_big_quiet_skip|(go_big_quiet_want;(first|(refine qL ?_;go_frame;go_big_quiet_on)|(go_big_quiet_op;(first|go_big_quiet_on|((apply Exists.intro);(refine⟨fun w1 hw=> ?_,?_⟩);(focus((have hw:=Cl.out hw);(first|exact Lock.through1 hw (A:=TabP t p m ss b) sZ (fun q=>ZdD q)|exact Lock.through1 hw (A:=TabP t p m ss b) sZ (hinf'.out _))));(go_big_quiet_on))))))));(refine wpQuiet_nil ?_);exact rfl));(case hyd_q1=>rfl);(case hd_q1=>(first|decide|simp));(case hy_q1=>((try simp only[Act.eval,Array.getD_eq_getD_getElem?,List.getElem?_toArray,List.getElem?_cons_succ,List.getElem?_cons_zero,Option.getD_some]);exact rfl));(case hu_q1=>exact rfl);(case hsz_q1=>kernel_rfl);(case hus_q1=>rfl);(case hl_q1=>rfl);(intro b1 w1 hB hb1;clear hF hA;have hA:=hB;clear hB;(simp only[List.drop_succ_cons,List.drop_zero]);obtain⟨hA,hF⟩:=fZ hA;(try go_frame))
     go_wp2_with fail
     go_roundg (gk - 1)
     case measure=>omega
     case rel=>exact⟨j + 1,by simp,by omega,hA.pick pZ⟩
   have hF:=hA.facts;obtain⟨hA,hF⟩:=fZ hA
   go_wp2_with fail
   try go_frame
   clear hjk hj
   go_loopg [109] T.L.es.length (Ap2 w [TabP t p m ss b,Part.cells b6 [.slice sx L.length sc,.int .u64 first,.slice ex T.L.es.length ec,.slice cx cn cc] 87,rowR (.slice sx L.length sc) L,poolP PL,poolE QE,poolC QC,Part.old w] T.L.es.length)
   case atStart=>exact⟨0,rfl,by omega,hA.pick pZ⟩
   case round=>
    obtain⟨j,rfl,hjk,hB⟩:=hrel;clear hF hA;have hA:=hB;clear hB
    by_cases hj:j < T.L.es.length
    · obtain⟨x,hx⟩:∃x,T.L.es[j]? =some x:=⟨_,List.getElem?_eq_getElem hj⟩
      have hxm:=List.mem_of_getElem? hx;obtain⟨rb,ro,rc,e,hcell⟩:=row_at Lock.Ent.cells_len (by omega) (((hA.pick (K:=[poolE QE]) pR).to (hRE'.out [])).get (A:=rowE (.slice ex T.L.es.length ec) T.L.es) .here) hx;cases e;have hfs:=ZmX hLi'.out.keys hxm
      have hgb:Lock.Zc8 T.L.es x=Lock.ZbX T.L.es j:=by
       unfold Lock.Zc8;rw[hfs,decide_eq_true rfl,Bool.true_and];exact Lock.Zca hLi'.out.order hx
      have hfi2:=fun(w1:World) (q:Sep [TabP t p m ss b] w1)=>hft'.out w1 x hxm q
      have hgp:=fun(w1:World) (q:Sep [TabP t p m ss b] w1)=>hgt'.out w1 x hxm q
      have hgd:=fun(w1:World) (q:Sep [poolE QE] w1)=>hgr'.out w1 j hj q
      simp only[hfs,hgb,Option.getD_some,Option.isSome_some] at hfi2 hgp
      obtain⟨gb,hgg⟩:∃z,Lock.ZbX T.L.es j=z:=⟨_,rfl⟩
      simp only[hgg] at hgp hgd;clear hx hxm hfs hgb hgg;obtain⟨yp,yn,yf,ym,ynn,ys⟩:=x;simp only[Lock.Ent.cells,Lock.Ent.val] at hcell hfi2 hgp;have hcell':=Hd hcell;have hfi2':=Hd hfi2;have hgp':=Hd hgp;have hgd':=Hd hgd;clear hcell hfi2 hgp hgd;obtain⟨hA,hF⟩:=fZ hA
      go_upto_region 26 with(first|(((with_reducible show wpList _ _ _ ({dst:=some 16,op:=Op.alloc _,type:=_,pos:=_,after:=_,guard:=_}::_) _ _));((with_reducible refine gal ?_);refine g10 hA ?_;clear hF hA;intro b16 w1 hA hb16 hF))|((with_reducible show wpList _ _ _ ({dst:=some 113,op:=Op.load _ _,type:=_,pos:=_,after:=_,guard:=_}::_) _ _);refine Zax (vs:=[.string yp,.int .u64 yn,.string yf,.int .i64 ym,.int .u64 ynn,.int .i64 ys]) rfl rfl (by(try simp only[Act.eval,eV])<;>exact rfl) hcell'.out (by kernel_rfl) (by kernel_rfl) ?_)|((with_reducible refine gst ?_);refine wTz hA ?_;clear hF hA;intro w1 hA hF))
      try go_frame
      (refine Zap (a1:= ?a1_q2) (v:= ?v_q2) 13 17 97 _ (.agg #[.string .empty,.int .u64 0,.string .empty,.int .i64 0,.int .u64 0,.int .i64 0]) [.string .empty,.int .u64 0,.string .empty,.int .i64 0,.int .u64 0,.int .i64 0] ([.string yp,.int .u64 yn,.string yf,.int .i64 ym,.int .u64 ynn,.int .i64 ys]) (by kernel_rfl) (by kernel_rfl) rfl rfl ?hyd_q2 (by kernel_rfl) rfl hA ?h1_q2 ?hd_q2 ?hy_q2 ?hu_q2 ?hsz_q2 ?hus_q2 ?hl_q2 ?h2_q2);(case h1_q2=>(intro R wR hR;(try clear hF);(simp only[List.take_succ_cons,List.take_zero,List.drop_succ_cons,List.drop_zero]);(have hn1:=Cl.none hR);(have hn2:=Cl.none2 hR);(repeat(first|go_big_quiet_skip|(go_big_quiet_want;(first|(refine qL ?_;go_frame;go_big_quiet_on)|(go_big_quiet_op;(first|go_big_quiet_on|((apply Exists.intro);(refine⟨fun w1 hw=> ?_,?_⟩);(focus((have hw:=Cl.out hw);(first|exact Lock.through1 hw (A:=TabP t p m ss b) sZ (fun q=>ZbO q)|exact Lock.through1 hw (A:=TabP t p m ss b) sZ (hfi2'.out _))));(go_big_quiet_on))))))));(refine wpQuiet_nil ?_);exact rfl));(case hyd_q2=>rfl);(case hd_q2=>(first|decide|simp));(case hy_q2=>((try simp only[Act.eval,Array.getD_eq_getD_getElem?,List.getElem?_toArray,List.getElem?_cons_succ,List.getElem?_cons_zero,Option.getD_some]);exact rfl));(case hu_q2=>exact rfl);(case hsz_q2=>kernel_rfl);(case hus_q2=>rfl);(case hl_q2=>rfl);(intro b1 w1 hB hb1;clear hF hA;have hA:=hB;clear hB;(simp only[List.drop_succ_cons,List.drop_zero]);obtain⟨hA,hF⟩:=fZ hA;(try go_frame))
      go_upto_region 27 with fail
      try go_frame
      (refine cA hA ?_);(have hn1:=Cl.none hA);(have hn2:=Cl.none2 hA);(repeat(first|go_big_quiet_skip|(go_big_quiet_want;(first|(refine qM 97 6 ?_;go_frame;go_big_quiet_on)|(refine qM 85 3 ?_;go_frame;go_big_quiet_on)|(refine qL ?_;go_frame;go_big_quiet_on)|(go_big_quiet_op;(first|go_big_quiet_on|((apply Exists.intro);(refine⟨fun w1 hw=> ?_,?_⟩);(focus((have hw:=Cl.out hw);(first|exact Lock.through1 hw (A:=TabP t p m ss b) sZ (fun q=>ZbO q)|exact Lock.through1 hw (A:=TabP t p m ss b) sZ (hgp'.out _)|exact Lock.through1 hw (A:=poolE QE) sZ (hgd'.out _))));(go_big_quiet_on))))))))
      (refine wpQuiet_nil ?_);(intro w1 hB);(clear hF hA hn1 hn2);(have hA:=Cl.out hB);(clear hB);obtain⟨hA,hF⟩:=fZ hA
      go_wp2_with fail
      go_roundg (gk - 1)
      case measure=>omega
      case rel=>exact⟨j + 1,by simp,by omega,hA.pick pZ⟩
    have hF:=hA.facts;obtain⟨hA,hF⟩:=fZ hA
    go_wp2_with fail
    refine(hpl2.out _ (hA.sep1 (A:=Part.old w) sZ)).mono ?_;rintro e w3 ⟨t3,p3,m3,ss3,b3,av,rfl,hR3,hT⟩;rw[hTe'.out] at hR3;have hB:=hA.call1 (A:=Part.old w) sZ hT;have hR3':=Hd hR3;obtain⟨avx,avc,hav⟩:=Zb5 hB .here;rw[ZfG] at hav;subst hav;clear hT hR3;clear hF hA;have hA:=hB;clear hB
    try simp only[uA] at hA
    obtain⟨hA,hF⟩:=fZ hA;obtain⟨hA,hF⟩:=fZ hA
    go_wp2_with fail
    refine(hby'.out _ t3 p3 m3 ss3 b3 hR3'.out (hA.sep1 (A:=TabP t3 p3 m3 ss3 b3) sZ)).mono ?_;rintro e w1 ⟨v1,l1,rfl,hb1,hl1,hT⟩;replace hA:=hA.call1 (A:=TabP t3 p3 m3 ss3 b3) sZ hT;clear hT hF
    try simp only[uA] at hA
    obtain⟨hA,hF⟩:=fZ hA
    go_wp2_with fail
    refine(hby'.out _ t p m ss b hRi'.out (hA.sep1 (A:=TabP t p m ss b) sZ)).mono ?_;rintro e w1 ⟨v2,l2,rfl,hb2,hl2,hT⟩;replace hA:=hA.call1 (A:=TabP t p m ss b) sZ hT;clear hT hF
    try simp only[uA] at hA
    obtain⟨hA,hF⟩:=fZ hA;have hll:=ZjL (LEq.refl T.L) hb1 hb2;subst hll;clear hb1 hb2 hl2
    go_wp2_with fail
    refine(Wire.Zl1 (hA.sep2 (A:=Wire.rowY v1 l1) (B:=Wire.rowY v2 l1) sZ sZ) (by omega)).mono ?_;rw[decide_eq_true (rfl:l1=l1)];rintro e w4 ⟨rfl,hT⟩;replace hA:=hA.call2 (A:=Wire.rowY v1 l1) (B:=Wire.rowY v2 l1) sZ sZ hT;clear hT hF
    try simp only[uA] at hA
    obtain⟨hA,hF⟩:=fZ hA
    go_wp2_with fail
    go_ret;exact⟨rfl,below_old hA sZ⟩
end Go.Proofs.YtkdjkngfnapjcaaGreatDoor.Tab
end
