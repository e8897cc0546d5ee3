import Derived.Test.YtknoefbcmomalaaGreatDoorP24
import Derived.Lib.SmallJoins
set_option linter.unusedSimpArgs false
set_option linter.unusedVariables false
set_option maxRecDepth 100000
set_option maxHeartbeats 16000000
namespace Go.Proofs.YtknoefbcmomalaaGreatDoor
section
namespace Tab
open Go.RowKit
open Lease (Ses Ans fresh ZaE)
open Lock (S3 Ent rowL CloE keepE ZbQ ZdH)
open Path (bl overB)
def WtP (t p m:Nat) (ss:List Ses) (b:Lock.Bk) (f:Ent→Bool) (w:World) (e:Ending) (w':World):Prop:=
 ∃v l,e=.returned v∧l.Perm ((lessE b.es (grA b.es)).filter f)∧Sta.Srt Sta.stp l∧At [TabP t p m ss b] w [rowL v l,TabP t p m ss b] w'
theorem Zg5 {w:World} {t p m:Nat} {ss:List Ses} {b:Lock.Bk} {k:Nat} (h:Sep [TabP t p m ss b] w) (hi:Lock.Inv b.st k) (hk:k≤40) (hf:∀e ∈ b.es,e.path.size≤1000∧0≤e.num∧e.num < Lock.big64∧e.foot.size≤maxLen) (q:ByteArray) (hq:q.size≤1000000):
 Calls Tryz.prog 11 #[.pointer (some ⟨t,0,none⟩),.string q] w (WtP t p m ss b (fun e=>overB (bl e.path) (bl q)) w):=by
 have hA:=Zbf h;clear h;have hi':=Hd hi;have hf':=Hd hf;have hen:b.es.length≤40:=Nat.le_trans hi.len hk;clear hi hf;obtain⟨hA,hF⟩:=fZ hA;go_enter Tryz.func11,Tryz.ntmps11
 go_wp2_with ((with_reducible refine gbx ?_);refine wX 9 (.string q) [.string q] hA ?_;clear hF hA;intro b3 w1 hA hb3;obtain⟨hA,hF⟩:=fZ hA)
 refine(Lock.ZdD (hA.sep1 (A:=Lock.BookP b) sZ) hi'.out.sortable (Nat.le_trans hen (by omega)) (fun x hx=>Nat.le_trans (hi'.out.path x hx) (by omega))).mono ?_;rintro e w1 ⟨v1,l1,rfl,hp1,hs1,hT⟩;have hB:=hA.call1 (A:=Lock.BookP b) sZ hT;have hp1':=Hd hp1;have hl1:l1.length≤40:=by rw[hp1.length_eq];exact hen
 clear hF hA hT hp1 hs1;have hA:=(hB.pick (K:=[headT t p b.p,Lease.BookP p m ss,Lock.BookP b,boxO b3 q,rowL v1 l1]) pZ).to (ZcG t p m ss b [boxO b3 q,rowL v1 l1]).symm;clear hB;obtain⟨hA,hF⟩:=fZ hA;go_wp2_with fail;refine(Zca (hA.sep1 (A:=TabP t p m ss b) sZ) hi'.out (by omega) hf'.out).mono ?_;rintro e w2 ⟨v2,l2,rfl,hp2,hs2,hT⟩;have hB:=hA.call1 (A:=TabP t p m ss b) sZ hT;have hp2':=Hd hp2;have hl2:l2.length≤40:=by rw[hp2.length_eq];exact Nat.le_trans (List.length_filter_le _ _) hen
 clear hF hA hT hp2 hs2;have hA:=hB;clear hB;simp only[uA] at hA;obtain⟨hA,hF⟩:=fZ hA;go_wp2_with fail;refine(Zg3 (hA.sep2 (A:=rowL v1 l1) (B:=rowL v2 l2) sZ sZ) (Nat.le_trans hl1 (by omega)) (Nat.le_trans hl2 (by omega))).mono ?_;rintro e w3 ⟨v3,rfl,hT⟩;have hB:=hA.call2 (A:=rowL v1 l1) (B:=rowL v2 l2) sZ sZ hT;clear hF hA hT;simp only[uA] at hB
 obtain⟨l3,hl3⟩:∃l,l1.filter (fun e=> !decide (e ∈ l2))=l:=⟨_,rfl⟩
 rw[hl3] at hB;have hp3:l3.Perm (lessE b.es (grA b.es)):=by rw[←hl3];exact Zkm hp1'.out hp2'.out
 have hl3':l3.length≤40:=by rw[hp3.length_eq];exact Nat.le_trans (List.length_filter_le _ _) hen
 have hpt:∀x ∈ l3,x.path.size≤1000000:=fun x hx=>Nat.le_trans (hf'.out x (List.mem_filter.1 (hp3.mem_iff.1 hx)).1).1 (by omega);have hp3':=Hd hp3;have hpt':=Hd hpt;clear hl3 hp3 hpt;have hA:=hB.pick (K:=[rowL v3 l3,boxO b3 q,TabP t p m ss b]) pZ;clear hB;obtain⟨hA,hF⟩:=fZ hA;go_wp2_with fail;refine(ZbQ (hA.sep2 (A:=rowL v3 l3) (B:=boxO b3 q) sZ sZ) (enters_of Tryz.func34 (by kernel_rfl) rfl) (cloWt hq hpt'.out) (Nat.le_trans hl3' (by omega))).mono ?_;rintro e w4 ⟨v4,rfl,hT⟩;replace hA:=hA.call2 (A:=rowL v3 l3) (B:=boxO b3 q) sZ sZ hT;clear hF hT;simp only[uA] at hA;rw[ZfJ (fun e=>overB (bl e.path) (bl q))] at hA
 obtain⟨l4,hl4⟩:∃l,l3.filter (fun e=>overB (bl e.path) (bl q))=l:=⟨_,rfl⟩
 rw[hl4] at hA;have hp4':=Hd (show l4.Perm ((lessE b.es (grA b.es)).filter (fun e=>overB (bl e.path) (bl q))) by rw[←hl4];exact hp3'.out.filter _);have hl4':l4.length≤40:=by rw[←hl4];exact Nat.le_trans (List.length_filter_le _ _) hl3'
 clear hl4;obtain⟨hA,hF⟩:=fZ hA;go_wp2_with fail;refine(Sta.Zet (hA.sep1 (A:=rowL v4 l4) sZ) hl4').mono ?_;rintro e w5 ⟨rfl,Z,hp5,hs5,hT⟩;have hB:=hA.call1 (A:=rowL v4 l4) sZ hT;have hp5':=Hd hp5;have hs5':=Hd hs5;clear hF hA hT hp5 hs5;have hA:=hB;clear hB;simp only[uA] at hA;obtain⟨hA,hF⟩:=fZ hA;go_wp2_with fail;go_ret;exact⟨v4,Z,rfl,hp5'.out.trans hp4'.out,hs5'.out,hA.pick pZ⟩
end Tab
end
section
namespace Tab
open Go.RowKit
open Path (bl Zaf overB Zan)
open Lease (Ses Ans fresh ZaE SR AR rowR poolP Rel)
open Lock (S3 Ent rowE rowL rowC flatE grantedB Za7)
open Cmd (Cm Zao)
attribute [-go_sem] run_eql_struct run_neq_struct run_eqGuard_agg
section
variable {P:Program} {ops:Array Oper} {o:Oper} {a:Act} {L0 L F:List Part} {w0 w:World} {K:Act→Prop}
theorem Zfs {ty:TypeId} {x:Operand} (hop:o.op=.load ty x) {b j:Nat} (hx:a.eval x=.pointer (some ⟨b,j,none⟩)) {v:Value} (hc:w.cell? ⟨b,j,none⟩=some v) (hu:(P.underlying ty).map (·.isRow)=some false):
 (execOp a.eval o).run P w=.ok (.value v) w:=by
 obtain⟨d,hu,hd⟩:=Option.map_eq_some_iff.1 hu
 have hagg:(isAgg ty).run P w=.ok false w:=by
  unfold isAgg;rw[Sem.run_bind,run_underlying hu w];cases d<;>simp_all
 simp[execOp,hop,hx,Instr.loadAt,Instr.sureAddr,loadVar,Sem.run_bind,hagg,Result.andThen,run_load,hc]
theorem Zfz {ty:TypeId} {x:Operand} (hop:o.op=.load ty x) {b j:Nat} (hx:a.eval x=.pointer (some ⟨b,j,none⟩)) {v:Value} (hc:∀w',At L0 w0 L w'→w'.cell? ⟨b,j,none⟩=some v) (hu:(P.underlying ty).map (·.isRow)=some false)
 (hk:K (a.put o.dst v)):o.quiet P a (Cl L0 w0 L) K:=Zb3 v (fun w' hw=>Zfs hop hx (hc w' hw) hu) hk
end
def ownE (l:List Ent) (n:Int) (f:ByteArray):List Ent:=l.filter (fun e=>e.of n f)
def HlRel (w:World) (R:List Part) (T0:TS) (first:Int) (l:List Cm) (b11:Nat) (k:Nat) (u:Value) (wr:World):Prop:=
 ∃(i:Nat) (D:DS),u=.int .i64 i∧i + k=l.length∧DIn (playT T0 (l.take i)) D∧At [Part.old w] w (Part.cells b11 [D.vS,.int .u64 first,D.vE,D.vC] 40::rowR D.vS D.L::poolP D.PL::poolE D.QE::poolC D.QC::R) wr
def HwRel (w:World) (K:List Part) (N:Nat) (k:Nat) (u:Value) (wr:World):Prop:=∃i:Nat,u=.int .i64 i∧i + k=N∧At [Part.old w] w K wr
theorem holders_law {w:World} {v:Value} {l:List Cm} (hr:Ze1 (Part.old w) v l) (hl:l.length≤9223372036854775807) (hv:∀c ∈ l,CmV c) {first:Int} (f0:0≤first) (f1:first < Lock.big64) (q:ByteArray) (nn:Int) (ff:ByteArray):
 Calls Tryz.prog 3 #[.int .u64 first,v,.string q,.agg #[.int .u64 nn,.string ff]] w fun e w'=>e=.returned (.bool true)∧Below w.heap.size w w':=by
 have hm:Tryz.prog.follows .mixedOrders=true:=by kernel_rfl
 have hA:At [Part.old w] w [Part.old w] w:=At.start ⟨fun _ _=>rfl,trivial,nofun⟩;have hsm:=fun(w1:World) (q:Sep [Part.old w] w1)=>ZjL q hr hl (fun c hc=>⟨(hv c hc).path,(hv c hc).foot⟩) 40;have hin:=fun(hs:ZcS l 40=true)=>Zfq (k:=40) hs hv;have hpl:=fun(hs:ZcS l 40=true) (w1:World) (q:Sep [Part.old w] w1)=>Zh7 q f0 f1 hr (by have:=(Zfq (k:=40) hs hv).1;omega) (Zfq (k:=40) hs hv).2;obtain⟨ax,cap,rfl,_,_⟩:=hr w (hA.get .here)
 obtain⟨sb,hsb⟩:∃z,ZcS l 40=z:=⟨_,rfl⟩
 rw[hsb] at hsm hin hpl;have hr':=Hd hr;have hsm':=Hd hsm;have hin':=Hd hin;have hpl':=Hd hpl;clear hsm hin hpl hsb hv hr;obtain⟨hA,hF⟩:=fZ hA;go_enter Tryz.func3,Tryz.ntmps3
 go_wp2_with ((with_reducible refine gbx ?_);refine wHz 25 [.int .u64 nn,.string ff] hA ?_;clear hF hA;intro b7 w1 hA hb7 hF)
 refine(Zjn _).mono ?_;rintro e w1 ⟨rfl,hx⟩;replace hA:=hA.ext hx;clear hx hF;obtain⟨hA,hF⟩:=fZ hA;go_wp2_with fail;refine(hsm'.out _ (hA.sep1 (A:=Part.old w) sZ)).mono ?_;rintro e w1 ⟨rfl,hT⟩;replace hA:=hA.call1 (A:=Part.old w) sZ hT;clear hT hF;obtain⟨hA,hF⟩:=fZ hA;clear hsm';cases sb
 · go_wp2_with fail;go_ret;exact⟨rfl,Zc7 hA sZ⟩
 have hc7:w1.cell? ⟨b7,1,none⟩=some (.string ff):=(hA.get (A:=Part.cells b7 [.int .u64 nn,.string ff] 25) sZ:Zaa _ _ _ _).cell 1;clear hF;by_cases hql:(100:Int) < q.size
 · go_wp2_with fail;go_ret;exact⟨rfl,Zc7 hA sZ⟩
 by_cases hfl:(100:Int) < ff.size
 · go_wp2_with fail;go_ret;exact⟨rfl,Zc7 hA sZ⟩
 obtain⟨hl40,hok⟩:=hin'.out (by simp);have hok':=Hd hok;have hq100:q.size≤1000000:=by omega
 clear hin' hok;have hF:=hA.facts;go_wp2_with fail;refine(hpl'.out (by simp) _ (hA.sep1 (A:=Part.old w) sZ)).mono ?_;rintro e w1 ⟨t,p,m,ss,d,av,rfl,hR1,hT⟩;have hB:=hA.call1 (A:=Part.old w) sZ hT;have hR1':=Hd hR1;clear hT hR1 hpl' hc7 hql hfl;replace hA:=hB;clear hF hB;obtain⟨hA,hF⟩:=fZ hA;go_wp2_with fail;refine(Zmd (hA.sep1 (A:=Part.old w) sZ) first).mono ?_;rintro e w1 ⟨rfl,hT⟩;replace hA:=hA.call1 (A:=Part.old w) sZ hT;clear hT hF;obtain⟨hA,hF⟩:=fZ hA
 go_wp2_with (first|(((with_reducible refine galD 11 ?_);refine g4 hA ?_;clear hF hA;intro b11 w1 hA hb11 hF))|((with_reducible refine gst ?_);refine wTz hA ?_;clear hF hA;intro w1 hA hF))
 (try go_frame);have hB:=Za7 (d0_at hA);have hg0:=Zmu f0 f1
 obtain⟨T0,hT0⟩:∃z:TS,⟨[],⟨first,[],[]⟩⟩=z:=⟨_,rfl⟩
 have hs0:SAll T0.S:=by rw[←hT0];intro s hs;cases hs
 have hd0:=d0_in first
 have hf0:T0.L.first=first:=by rw[←hT0]
 have hop0:OpIn T0:=by rw[←hT0];intro e he;cases he
 have hR3:=hR1'.out;rw[hT0] at hd0 hR3 hg0;have hR1:=Hd hR3;have hg:=Hd hg0;have hs:=Hd hs0;have hd:=Hd hd0;have hfi:=Hd hf0;have hopn:=Hd (ZnQ l hop0);clear hT0 hR1' hR3 hg0 hs0 hd0 hf0 hop0 hF hA;go_loopg [44] l.length (HlRel w [Part.cells b7 [.int .u64 nn,.string ff] 25,TabP t p m ss d,Part.old w] T0 first l b11)
 case atStart=>exact⟨0,D0,rfl,by omega,hd.out,(show At [Part.old w] w (rowE nilV []::([rowR nilV [],poolP [(nilV,[])],poolE [(nilV,[])],poolC [(nilV,[])]]++_)) _ from hB).pick pZ⟩
 case round=>
  clear hB;obtain⟨i,D,rfl,hik,hDi,hA⟩:=hrel;have hDi':=Hd hDi;clear hDi;obtain⟨⟨sx,sn,sc,z1⟩,⟨ex,en,ec,z2⟩,⟨cx,cn,cc,z3⟩⟩:=ZbX (hA.pick (K:=[rowR D.vS D.L,poolP D.PL,poolE D.QE,poolC D.QC]) pR) hDi'.out;obtain⟨vS,L,PL,vE,QE,vC,QC⟩:=D;simp only at z1 z2 z3 hA;subst z1 z2 z3;by_cases hi:i < l.length
  · have hgi:=Zj2 hg.out hs.out (l:=l.take i) (fun x hx=>hok'.out x (List.take_subset _ _ hx));have hlt:(l.take i).length≤40:=by rw[List.length_take];omega
    have hfr:=ZiT T0 (l.take i);rw[hfi.out] at hfr
    obtain⟨c,hc⟩:∃c,l[i]? =some c:=⟨_,List.getElem?_eq_getElem hi⟩
    have hci:=hok'.out c (List.mem_of_getElem? hc);have htk:l.take (i + 1)=l.take i++[c]:=by rw[List.take_add_one,hc];rfl
    have hp1:=Hd (show playT T0 (l.take (i + 1))=(Zav (playT T0 (l.take i)) c).1 by rw[htk,Zdf])
    obtain⟨bl0,ofl,hax⟩:∃b0 o0,ax=some ⟨b0,o0,none⟩:=by
     obtain⟨ax2,c2,e2,_,hr2⟩:=hr'.out _ (hA.get (A:=Part.old w) sZ);cases e2;have hf:=Zbs Cm.cells 8 (fun _=>rfl) l i c hc 0 (by omega);obtain⟨b0,o0,e3,_⟩:=hr2 (i * 8 + 0) _ hf;exact⟨b0,o0,e3⟩
    subst hax;have hrc:=Zfw hr'.out hc _ (hA.get (A:=Part.old w) sZ);have hda:=fun(w1:World) (q:Sep (DS.mk (.slice sx sn sc) L PL (.slice ex en ec) QE (.slice cx cn cc) QC).parts w1)=>Zjm q hDi'.out c.kind c.num c.foot c.req c.path c.mode c.n c.time hgi.1.inv (by omega) hci.ok ⟨hci.r0,hci.r1⟩ hci.n0 (ok_ar hgi.1.inv.lock hgi.2 c)
    obtain⟨T1,hT1⟩:∃z,Zav (playT T0 (l.take i)) c=z:=⟨_,rfl⟩
    have hcc:(⟨c.kind,c.num,c.foot,c.req,c.path,c.mode,c.n,c.time⟩:Cm)=c:=rfl;have hof:=fun w1=>Zma c w1;simp only[hcc,hT1] at hda;rw[hT1] at hp1;rw[hfr] at hda;clear hT1 hcc hc htk hci hgi;obtain⟨T1,⟨xe,xn,xg⟩⟩:=T1;obtain⟨kind,num,foot,req,path,mode,n,time⟩:=c;simp only[DS.val,DS.parts,Cm.val] at hda hof hp1;have haq':=Hd fun w1 q=>Zop (hda w1 q);have hof':=Hd hof;have hrc':=Hd (show ∀(k:Nat) u,([.int .i64 kind,.int .u64 num,.string foot,.int .u64 req,.string path,.int .i64 mode,.int .u64 n,.int .i64 time]:List Value)[k]? =some u→wr.cell? ⟨bl0,ofl + i * 8 + k,none⟩=some u from hrc);clear hda hof hrc hfr;generalize l.take i=li at *
    obtain⟨hA,hF⟩:=fZ hA
    go_upto_region 10 with(first|(((with_reducible refine galD 13 ?_);refine g12 hA ?_;clear hF hA;intro b13 w1 hA hb13 hF))|((with_reducible show wpList _ _ _ ({dst:=some 47,op:=Op.load _ _,type:=_,pos:=_,after:=_,guard:=_}::_) _ _);refine Zad (vs:=[.int .i64 kind,.int .u64 num,.string foot,.int .u64 req,.string path,.int .i64 mode,.int .u64 n,.int .i64 time]) rfl rfl (by(try simp only[Act.eval,eV])<;>exact rfl) hrc'.out (by kernel_rfl) (by kernel_rfl) ?_)|((with_reducible refine gst ?_);refine wTz hA ?_;clear hF hA;intro w1 hA hF))
    (try go_frame);replace hA:=hA.drew;clear hF;refine wp_region_held (S:=fun w'=>Zaa w' b13 (k8 kind num foot req path mode n time) 43) hm ?_;change wpAnyH _ _ _ _ _ 8 _ _ (World.drew _);generalize World.drew _=wd at *
    have hS0:=(hA.get (A:=Part.cells b13 (k8 kind num foot req path mode n time) 43) sZ:(fun w'=>Zaa w' b13 (k8 kind num foot req path mode n time) 43) wd)
    refine tZ 1 50 (.agg #[.int .i64 kind,.int .u64 num,.string foot,.int .u64 req,.string path,.int .i64 mode,.int .u64 n,.int .i64 time]) (r:=(fun w' hS=>Zah (ty:=43) (n:=8) (b:=b13) (j:=0) rfl (by exact rfl) hS (by kernel_rfl) (by kernel_rfl) rfl rfl)) (s:=hS0) (h:= ?_);(try go_frame);refine ZaY (i:=0) (j:=2) (by kernel_rfl) ?_ ?_
    · skip;refine Zak (i:=0) (d:=some 49) (b:=b11) (j:=0) (n:=4) (vs:=[.slice sx sn sc,.int .u64 first,.slice ex en ec,.slice cx cn cc]) rfl rfl (by kernel_rfl) rfl (by exact rfl) hA sZ (by kernel_rfl) (by kernel_rfl) rfl rfl ?_;refine⟨hS0,?_⟩;(try go_frame);refine Zab (i:=2) (by kernel_rfl) ?_;refine cY 2 51 9 (fun u w'=>u=.agg #[.int .i64 kind,.int .u64 num,.string foot,.int .u64 req,.string path,.int .i64 mode,.int .u64 n,.int .i64 time]∧Ext _ w') ((hof'.out _).mono fun e w' ⟨he,hx⟩=>⟨_,he,rfl,hx⟩) ?_;rintro u w3 ⟨rfl,hx1⟩;have hB:=hA.ext hx1;clear hx1;refine andH hB.ci fun hS0=> ?_;replace hA:=hB;clear hB;(try go_frame);refine Zab (i:=3) (by kernel_rfl) ?_;refine cZ 3 52 (haq'.out _ (hA.seps (K:=[rowR (.slice sx sn sc) L,poolP PL,poolE QE,poolC QC]) pR)) ?_;rintro u w3 ⟨sx2,sc2,ex2,ec2,cx2,cn2,cc2,L2,PL2,QE2,QC2,r2,rfl,hd2,hT⟩;have hd2':=Hd hd2;have hB:=call4 hA (A:=rowR (.slice sx sn sc) L) (B:=poolP PL) (C:=poolE QE) (D:=poolC QC) sZ sZ sZ sZ hT;clear hT hd2;simp only[uA] at hB;refine andH hB.ci fun hS0=> ?_;replace hA:=hB;clear hB;(try go_frame);refine tP 4 48 (.tuple #[.agg #[.slice sx2 L2.length sc2,.int .u64 first,.slice ex2 T1.L.es.length ec2,.slice cx2 cn2 cc2],.agg #[.int .u64 r2,.int .i64 xe,.int .u64 xn,.bool xg]]) (s:=hS0) (h:= ?_);(try go_frame);refine tP 5 53 (.agg #[.slice sx2 L2.length sc2,.int .u64 first,.slice ex2 T1.L.es.length ec2,.slice cx2 cn2 cc2]) (s:=hS0) (h:= ?_);(try go_frame);refine tP 6 54 (.agg #[.int .u64 r2,.int .i64 xe,.int .u64 xn,.bool xg]) (s:=hS0) (h:= ?_);(try go_frame);refine Zab (i:=7) (by kernel_rfl) ?_;refine stZ 7 b11 0 [.slice sx2 L2.length sc2,.int .u64 first,.slice ex2 T1.L.es.length ec2,.slice cx2 cn2 cc2] hA ?_;intro w3 hB;simp only[uA] at hB;refine andH hB.ci fun hS0=> ?_;replace hA:=hB;clear hB;(try go_frame);refine wpAnyH_done (by kernel_rfl) ?_ _;(try go_frame);clear hS0;obtain⟨hA,hF⟩:=fZ hA;go_wp2_with fail;go_roundg (l.length - (i + 1));case measure=>omega
      case rel=>exact⟨i + 1,⟨.slice sx2 L2.length sc2,L2,PL2,.slice ex2 T1.L.es.length ec2,QE2,.slice cx2 cn2 cc2,QC2⟩,by simp,by omega,by rw[hp1.out];exact hd2'.out,(show At [Part.old w] w (Part.cells b11 [.slice sx2 L2.length sc2,.int .u64 first,.slice ex2 T1.L.es.length ec2,.slice cx2 cn2 cc2] 40::rowR (.slice sx2 L2.length sc2) L2::poolP PL2::poolE QE2::poolC QC2::[Part.cells b7 [.int .u64 nn,.string ff] 25,TabP t p m ss d,Part.old w]) _ from hA.pick pR)⟩
    skip;refine cY 2 51 9 (fun u w'=>u=.agg #[.int .i64 kind,.int .u64 num,.string foot,.int .u64 req,.string path,.int .i64 mode,.int .u64 n,.int .i64 time]∧Ext _ w') ((hof'.out _).mono fun e w' ⟨he,hx⟩=>⟨_,he,rfl,hx⟩) ?_;rintro u w3 ⟨rfl,hx1⟩;have hB:=hA.ext hx1;clear hx1;refine andH hB.ci fun hS0=> ?_;replace hA:=hB;clear hB;(try go_frame);refine Zab (i:=0) (by kernel_rfl) ?_;refine Zak (i:=0) (d:=some 49) (b:=b11) (j:=0) (n:=4) (vs:=[.slice sx sn sc,.int .u64 first,.slice ex en ec,.slice cx cn cc]) rfl rfl (by kernel_rfl) rfl (by exact rfl) hA sZ (by kernel_rfl) (by kernel_rfl) rfl rfl ?_;refine⟨hS0,?_⟩;(try go_frame);refine Zab (i:=3) (by kernel_rfl) ?_;refine cZ 3 52 (haq'.out _ (hA.seps (K:=[rowR (.slice sx sn sc) L,poolP PL,poolE QE,poolC QC]) pR)) ?_;rintro u w3 ⟨sx2,sc2,ex2,ec2,cx2,cn2,cc2,L2,PL2,QE2,QC2,r2,rfl,hd2,hT⟩;have hd2':=Hd hd2;have hB:=call4 hA (A:=rowR (.slice sx sn sc) L) (B:=poolP PL) (C:=poolE QE) (D:=poolC QC) sZ sZ sZ sZ hT;clear hT hd2;simp only[uA] at hB;refine andH hB.ci fun hS0=> ?_;replace hA:=hB;clear hB;(try go_frame);refine tP 4 48 (.tuple #[.agg #[.slice sx2 L2.length sc2,.int .u64 first,.slice ex2 T1.L.es.length ec2,.slice cx2 cn2 cc2],.agg #[.int .u64 r2,.int .i64 xe,.int .u64 xn,.bool xg]]) (s:=hS0) (h:= ?_);(try go_frame);refine tP 5 53 (.agg #[.slice sx2 L2.length sc2,.int .u64 first,.slice ex2 T1.L.es.length ec2,.slice cx2 cn2 cc2]) (s:=hS0) (h:= ?_);(try go_frame);refine tP 6 54 (.agg #[.int .u64 r2,.int .i64 xe,.int .u64 xn,.bool xg]) (s:=hS0) (h:= ?_);(try go_frame);refine Zab (i:=7) (by kernel_rfl) ?_;refine stZ 7 b11 0 [.slice sx2 L2.length sc2,.int .u64 first,.slice ex2 T1.L.es.length ec2,.slice cx2 cn2 cc2] hA ?_;intro w3 hB;simp only[uA] at hB;refine andH hB.ci fun hS0=> ?_;replace hA:=hB;clear hB;(try go_frame);refine wpAnyH_done (by kernel_rfl) ?_ _;(try go_frame);clear hS0;obtain⟨hA,hF⟩:=fZ hA;go_wp2_with fail;go_roundg (l.length - (i + 1));case measure=>omega
    case rel=>exact⟨i + 1,⟨.slice sx2 L2.length sc2,L2,PL2,.slice ex2 T1.L.es.length ec2,QE2,.slice cx2 cn2 cc2,QC2⟩,by simp,by omega,by rw[hp1.out];exact hd2'.out,(show At [Part.old w] w (Part.cells b11 [.slice sx2 L2.length sc2,.int .u64 first,.slice ex2 T1.L.es.length ec2,.slice cx2 cn2 cc2] 40::rowR (.slice sx2 L2.length sc2) L2::poolP PL2::poolE QE2::poolC QC2::[Part.cells b7 [.int .u64 nn,.string ff] 25,TabP t p m ss d,Part.old w]) _ from hA.pick pR)⟩
  have hli:l.take i=l:=List.take_of_length_le (by omega);rw[hli] at hDi';have hgL:=Zj2 hg.out hs.out (l:=l) hok'.out;have hiL:=hgL.1.inv.lock;have hsI:=hgL.1.inv.s;rw[←hR1.out.L] at hiL;have hi2:Lock.Inv d.st 40:=hiL.mono (by omega);have hle:(.slice ex en ec,d.es) ∈ QE:=by have:=hDi'.out.le;rw[←hR1.out.L] at this;exact this
  have hrel:Rel ss L:=Rel.zs (by rw[hR1.out.S];exact hDi'.out.lease.rel)
  have hsb:∀s ∈ ss,0≤s.num∧s.num < Lease.big64∧s.foot.size≤1000:=fun s hs=>by
   have h1:zs s ∈ (playT T0 l).S:=by rw[←hR1.out.S];exact List.mem_map.2 ⟨s,hs,rfl⟩
   have h2:=hsI.num _ h1;have h3:=hsI.foot _ h1;exact⟨h2.1,h2.2,h3⟩
  have hsl:ss.length≤1000000:=by have:=hsI.len;rw[←hR1.out.S,List.length_map] at this;omega
  have hoo:∀e ∈ d.es,(Lease.look ss e.num e.foot).op=true:=fun e he=>by
   have h1:=hopn.out e (by rw[←hR1.out.L];exact he);rw[←hR1.out.S,Zkj] at h1;exact h1
  have hfe:=inv_in hi2;have hlen:d.es.length≤40:=hi2.len;have hglen:(grA d.es).length≤40:=Nat.le_trans (List.length_filter_le _ _) hlen;have hnd:d.es.Nodup:=Zks hi2;have hgt:=Zmt hi2;have hi':=Hd hi2;have hle':=Hd hle;have hrel':=Hd hrel;have hsb':=Hd hsb;have hoo':=Hd hoo;have hfe':=Hd (show ∀e ∈ d.es,e.path.size≤1000∧0≤e.num∧e.num < Lock.big64∧e.foot.size≤maxLen from hfe);have hnd':=Hd hnd;have hgt':=Hd (show ∀i (hi:i < d.es.length),Lock.Zbd d.es i=grantedB d.es d.es[i] from hgt);clear hgL hiL hsI hi2 hle hrel hsb hoo hfe hnd hgt hopn hDi' hg hs hd hR1 hli hfi;obtain⟨hA,hF⟩:=fZ hA;go_wp2_with fail;clear hik hi;refine(Zhz (vS:=.slice sx sn sc) (vC:=.slice cx cn cc) (hA.sep1 (A:=poolE QE) sZ) hle'.out first ⟨_,_,_,rfl⟩ ⟨_,_,_,rfl⟩ hgt'.out (by omega) (fun x hx=>(hfe'.out x hx).1)).mono ?_;rintro e w1 ⟨vv,rfl,hT⟩;replace hA:=hA.call1 (A:=poolE QE) sZ hT;clear hT hF;obtain⟨hA,hF⟩:=fZ hA;obtain⟨hx,hc,rfl⟩:=Zbb hA (v:=vv) (xs:=flatE (grA d.es)) sZ;obtain⟨hA,hF⟩:=fZ hA;go_wp2_with fail;refine(Zg5 (hA.sep1 (A:=TabP t p m ss d) sZ) hi'.out (Nat.le_refl 40) hfe'.out q hq100).mono ?_;rintro e w1 ⟨vw,lw,rfl,hpw,hsw,hT⟩;have hB:=hA.call1 (A:=TabP t p m ss d) sZ hT
  have hpw':=Hd (show lw.Perm (lessE (d.es.filter (fun e=>overB (bl e.path) (bl q))) (grA d.es)) by
   have e:(lessE (d.es.filter (fun e=>overB (bl e.path) (bl q))) (grA d.es))=(lessE d.es (grA d.es)).filter (fun e=>overB (bl e.path) (bl q)):=by unfold lessE;rw[List.filter_filter,List.filter_filter];exact List.filter_congr fun x _=>Bool.and_comm _ _
   rw[e];exact hpw)
  have hsw':=Hd hsw;have hlw:lw.length≤40:=by rw[hpw.length_eq];exact Nat.le_trans (List.length_filter_le _ _) (Nat.le_trans (List.length_filter_le _ _) hlen)
  clear hT hpw hsw;replace hA:=hB;clear hF hB;obtain⟨hA,hF⟩:=fZ hA;obtain⟨wx,wc,rfl⟩:=Zbb hA (v:=vw) (xs:=lw.flatMap Ent.cells) sZ;obtain⟨hA,hF⟩:=fZ hA;go_wp2_with fail;(try go_frame);go_loopg [63] lw.length (HwRel w [rowL (.slice wx lw.length wc) lw,rowE (.slice hx (grA d.es).length hc) (grA d.es),Part.cells b11 [.slice sx sn sc,.int .u64 first,.slice ex en ec,.slice cx cn cc] 40,rowR (.slice sx sn sc) L,poolP PL,poolE QE,poolC QC,Part.cells b7 [.int .u64 nn,.string ff] 25,TabP t p m ss d,Part.old w] lw.length)
  case atStart=>exact⟨0,rfl,by omega,hA.pick pZ⟩
  case round=>
   clear hF hA;obtain⟨j,rfl,hjk,hA⟩:=hrel;by_cases hj:j < lw.length
   · obtain⟨bk,off,rfl,hel⟩:=(Zfx (.slice wx lw.length wc) lw).at (hA.get (A:=rowL (.slice wx lw.length wc) lw) sZ) hj;rcases Nat.eq_zero_or_pos j with hz|hz
     · subst hz;generalize lw[0]=y at *
       obtain⟨y1,y2,y3,y4,y5,y6⟩:=y;have hel':=Hd (show ∀w',(rowL (.slice (some ⟨bk,off,none⟩) lw.length wc) lw).holds w'→∀(k:Nat) u,([.string y1,.int .u64 y2,.string y3,.int .i64 y4,.int .u64 y5,.int .i64 y6]:List Value)[k]? =some u→w'.cell? ⟨bk,off + 0 * 6 + k,none⟩=some u from hel);clear hel;obtain⟨hA,hF⟩:=fZ hA
       go_wp2_with (first|(((with_reducible refine galD 17 ?_);refine g11 hA ?_;clear hF hA;intro b17 w1 hA hb17 hF))|((with_reducible show wpList _ _ _ ({dst:=some 67,op:=Op.load _ _,type:=_,pos:=_,after:=_,guard:=_}::_) _ _);refine Zad (vs:=[.string y1,.int .u64 y2,.string y3,.int .i64 y4,.int .u64 y5,.int .i64 y6]) rfl rfl (by(try simp only[Act.eval,eV])<;>exact rfl) (hel'.out _ (hA.get (A:=rowL (.slice (some ⟨bk,off,none⟩) lw.length wc) lw) sZ)) (by kernel_rfl) (by kernel_rfl) ?_)|((with_reducible refine gst ?_);refine wTz hA ?_;clear hF hA;intro w1 hA hF))
       (try go_frame);refine cl0 hA ?_;clear hF hA;intro w1 hA hF;(try simp only[uZ] at hA hF);go_wp2_with fail;go_roundg (lw.length - (0 + 1));case measure=>omega
       case rel=>exact⟨0 + 1,by simp,by omega,hA.pick pZ⟩
     obtain⟨k',rfl⟩:∃k',j=k' + 1:=⟨j - 1,by omega⟩
     have hk1:k' < lw.length:=by omega
     obtain⟨bk',off',e',hel2⟩:=(Zfx (.slice (some ⟨bk,off,none⟩) lw.length wc) lw).at (hA.get (A:=rowL (.slice (some ⟨bk,off,none⟩) lw.length wc) lw) sZ) hk1;cases e';have hst:=List.pairwise_iff_getElem.1 hsw'.out k' (k' + 1) hk1 hj (by omega);unfold Sta.stp at hst;have hw1:IntKind.i64.wrap (((k' + 1:Nat):Int) - 1)=(k':Int):=by rw[IntKind.wrap_i64]<;>omega
     generalize lw[k' + 1]=y at *
     generalize lw[k']=z at *
     obtain⟨y1,y2,y3,y4,y5,y6⟩:=y;obtain⟨z1,z2,z3,z4,z5,z6⟩:=z;simp only at hst;have hlt:¬(y6 < z6):=by omega
     have hel':=Hd (show ∀w',(rowL (.slice (some ⟨bk,off,none⟩) lw.length wc) lw).holds w'→∀(k:Nat) u,([.string y1,.int .u64 y2,.string y3,.int .i64 y4,.int .u64 y5,.int .i64 y6]:List Value)[k]? =some u→w'.cell? ⟨bk,off + (k' + 1) * 6 + k,none⟩=some u from hel);have hel2':=Hd (show ∀w',(rowL (.slice (some ⟨bk,off,none⟩) lw.length wc) lw).holds w'→w'.cell? ⟨bk,off + k' * 6 + 5,none⟩=some (.int .i64 z6) from fun w' hw=>hel2 w' hw 5 _ rfl);clear hel hel2 hst;obtain⟨hA,hF⟩:=fZ hA
     go_wp2_with (first|(((with_reducible refine galD 17 ?_);refine g11 hA ?_;clear hF hA;intro b17 w1 hA hb17 hF))|((with_reducible show wpList _ _ _ ({dst:=some 67,op:=Op.load _ _,type:=_,pos:=_,after:=_,guard:=_}::_) _ _);refine Zad (vs:=[.string y1,.int .u64 y2,.string y3,.int .i64 y4,.int .u64 y5,.int .i64 y6]) rfl rfl (by(try simp only[Act.eval,eV])<;>exact rfl) (hel'.out _ (hA.get (A:=rowL (.slice (some ⟨bk,off,none⟩) lw.length wc) lw) sZ)) (by kernel_rfl) (by kernel_rfl) ?_)|((with_reducible refine gst ?_);refine wTz hA ?_;clear hF hA;intro w1 hA hF))
     (try go_frame);(refine cA hA ?_);(have hn1:=Cl.none hA);(have hn2:=Cl.none2 hA);(repeat(first|go_big_quiet_skip|(go_big_quiet_want;(first|((((with_reducible show Oper.quiet _ {dst:=some 76,op:=Op.load _ _,type:=_,pos:=_,after:=_,guard:=_} _ _ _);refine Zfz (b:=bk) (j:=off + k' * 6 + 5) (v:=.int .i64 z6) rfl rfl (fun w' hw=>hel2'.out w' (hw.get (A:=rowL (.slice (some ⟨bk,off,none⟩) lw.length wc) lw) sZ)) (by kernel_rfl) ?_));go_frame;go_big_quiet_on)|(refine qL ?_;go_frame;go_big_quiet_on)|(go_big_quiet_op;(first|go_big_quiet_on|((apply Exists.intro);(refine⟨fun w1 hw=> ?_,?_⟩);(focus((have hw:=Cl.out hw);(skip)));(go_big_quiet_on))))))))
     (refine wpQuiet_nil ?_);(intro w1 hB);(clear hF hA hn1 hn2);(have hA:=Cl.out hB);(clear hB);obtain⟨hA,hF⟩:=fZ hA
     go_wp2_with fail;go_roundg (lw.length - (k' + 1 + 1));case measure=>omega
     case rel=>exact⟨k' + 1 + 1,by simp,by omega,hA.pick pZ⟩
   have hF:=hA.facts;obtain⟨hA,hF⟩:=fZ hA;go_wp2_with fail;refine(Zhy (hA.sep1 (A:=TabP t p m ss d) sR) hi'.out (by omega) hfe'.out q hq100).mono ?_;rintro e w1 ⟨vh,lh,rfl,hph,_,hT⟩;have hB:=hA.call1 (A:=TabP t p m ss d) sR hT;have hph':=Hd hph;clear hT hph;replace hA:=hB;clear hF hB;obtain⟨hA,hF⟩:=fZ hA;obtain⟨vx,vc,rfl⟩:=Zbb hA (v:=vh) (xs:=lh.flatMap Ent.cells) sR;obtain⟨hA,hF⟩:=fZ hA;go_wp2_with fail;have hcl:=Zib (hA.sep1 (A:=rowE (.slice hx (grA d.es).length hc) (grA d.es)) sR) (Zb2 _ _) q (by omega) hq100 (fun x hx=>Nat.le_trans (hfe'.out x (List.mem_filter.1 hx).1).1 (by omega));refine hcl.mono ?_;clear hcl;rintro e w1 ⟨vv,rfl,hT⟩;replace hA:=hA.call1 (A:=rowE (.slice hx (grA d.es).length hc) (grA d.es)) sR hT;clear hT hF;obtain⟨hA,hF⟩:=fZ hA;obtain⟨ox,oc,rfl⟩:=Zbb hA (v:=vv) (xs:=flatE ((grA d.es).filter (fun e=>overB (bl e.path) (bl q)))) sR;obtain⟨hA,hF⟩:=fZ hA;go_wp2_with fail;have hcs:=hA.sep2 (A:=rowL (.slice vx lh.length vc) lh) (B:=rowE (.slice ox ((grA d.es).filter (fun e=>overB (bl e.path) (bl q))).length oc) ((grA d.es).filter (fun e=>overB (bl e.path) (bl q)))) sR sR;have hcn:=hph'.out.nodup_iff.2 ((hnd'.out.filter _).filter _);have hcq:((grA d.es).filter (fun e=>overB (bl e.path) (bl q))).length≤1000000:=Nat.le_trans (List.length_filter_le _ _) (by omega);have hcl:=ZfK hcs hph'.out hcn hcq;refine hcl.mono ?_;clear hcl hcs hcn hcq;rintro e w1 ⟨rfl,hT⟩;replace hA:=hA.call2 (A:=rowL (.slice vx lh.length vc) lh) (B:=rowE (.slice ox ((grA d.es).filter (fun e=>overB (bl e.path) (bl q))).length oc) ((grA d.es).filter (fun e=>overB (bl e.path) (bl q)))) sR sR hT;clear hT hF;obtain⟨hA,hF⟩:=fZ hA;go_wp2_with fail;have hcl:=Zib (hA.sep1 (A:=poolE QE) sR) (Zhi hle'.out) q (by omega) hq100 (fun x hx=>Nat.le_trans (hfe'.out x hx).1 (by omega));refine hcl.mono ?_;clear hcl;rintro e w1 ⟨vv,rfl,hT⟩;replace hA:=hA.call1 (A:=poolE QE) sR hT;clear hT hF;obtain⟨hA,hF⟩:=fZ hA;obtain⟨px,pc,rfl⟩:=Zbb hA (v:=vv) (xs:=flatE (d.es.filter (fun e=>overB (bl e.path) (bl q)))) sR;obtain⟨hA,hF⟩:=fZ hA;go_wp2_with fail;have hcs:=hA.sep2 (A:=rowE (.slice px (d.es.filter (fun e=>overB (bl e.path) (bl q))).length pc) (d.es.filter (fun e=>overB (bl e.path) (bl q)))) (B:=rowE (.slice hx (grA d.es).length hc) (grA d.es)) sR sR;have hcq:(d.es.filter (fun e=>overB (bl e.path) (bl q))).length≤1000000:=Nat.le_trans (List.length_filter_le _ _) (by omega);have hcn:(grA d.es).length≤1000000:=by omega
   have hcl:=Zmg hcs hcq hcn;refine hcl.mono ?_;clear hcl hcs hcn hcq;rintro e w1 ⟨vv,rfl,hT⟩;replace hA:=hA.call2 (A:=rowE (.slice px (d.es.filter (fun e=>overB (bl e.path) (bl q))).length pc) (d.es.filter (fun e=>overB (bl e.path) (bl q)))) (B:=rowE (.slice hx (grA d.es).length hc) (grA d.es)) sR sR hT;clear hT hF;obtain⟨hA,hF⟩:=fZ hA;obtain⟨lx,lc,rfl⟩:=Zbb hA (v:=vv) (xs:=flatE (lessE (d.es.filter (fun e=>overB (bl e.path) (bl q))) (grA d.es))) sR;obtain⟨hA,hF⟩:=fZ hA;go_wp2_with fail;have hcs:=hA.sep2 (A:=rowL (.slice wx lw.length wc) lw) (B:=rowE (.slice lx (lessE (d.es.filter (fun e=>overB (bl e.path) (bl q))) (grA d.es)).length lc) (lessE (d.es.filter (fun e=>overB (bl e.path) (bl q))) (grA d.es))) sR sR;have hcn:=hpw'.out.nodup_iff.2 ((hnd'.out.filter _).filter _);have hcq:(lessE (d.es.filter (fun e=>overB (bl e.path) (bl q))) (grA d.es)).length≤1000000:=Nat.le_trans (List.length_filter_le _ _) (Nat.le_trans (List.length_filter_le _ _) (by omega));have hcl:=ZfK hcs hpw'.out hcn hcq;refine hcl.mono ?_;clear hcl hcs hcn hcq;rintro e w1 ⟨rfl,hT⟩;have hB:=hA.call2 (A:=rowL (.slice wx lw.length wc) lw) (B:=rowE (.slice lx (lessE (d.es.filter (fun e=>overB (bl e.path) (bl q))) (grA d.es)).length lc) (lessE (d.es.filter (fun e=>overB (bl e.path) (bl q))) (grA d.es))) sR sR hT;clear hT;replace hA:=hB;clear hF hB;obtain⟨hA,hF⟩:=fZ hA;go_wp2_with fail;(try go_frame);replace hA:=hA.drew;clear hF;refine wp_region_held (S:=fun w'=>Zaa w' b11 [.slice sx sn sc,.int .u64 first,.slice ex en ec,.slice cx cn cc] 40∧Zaa w' b7 [.int .u64 nn,.string ff] 25) hm ?_;change wpAnyH _ _ _ _ _ 14 _ _ (World.drew _);generalize World.drew _=wd at *
   have hS0:=(⟨hA.get (A:=Part.cells b11 [.slice sx sn sc,.int .u64 first,.slice ex en ec,.slice cx cn cc] 40) sR,hA.get (A:=Part.cells b7 [.int .u64 nn,.string ff] 25) sR⟩:(fun w'=>Zaa w' b11 [.slice sx sn sc,.int .u64 first,.slice ex en ec,.slice cx cn cc] 40∧Zaa w' b7 [.int .u64 nn,.string ff] 25) wd)
   refine tP 0 102 (.pointer (some ⟨t,0,none⟩)) (s:=hS0) (h:= ?_);(try go_frame);refine tZ 1 103 (.agg #[.slice sx sn sc,.int .u64 first,.slice ex en ec,.slice cx cn cc]) (r:=(fun w' hS=>Zah (ty:=40) (n:=4) (b:=b11) (j:=0) rfl (by exact rfl) hS.1 (by kernel_rfl) (by kernel_rfl) rfl rfl)) (s:=hS0) (h:= ?_);(try go_frame);refine tP 2 104 (.slice hx (grA d.es).length hc) (s:=hS0) (h:= ?_);(try go_frame);refine Zab (i:=3) (by kernel_rfl) ?_;have hcl:=Zhh (vC:=.slice cx cn cc) first (hA.seps (K:=[TabP t p m ss d,rowR (.slice sx sn sc) L,poolE QE,rowE (.slice hx (grA d.es).length hc) (grA d.es)]) pR) hi'.out (Nat.le_refl 40) hfe'.out hsb'.out hsl hoo'.out hle'.out ⟨_,_,_,rfl⟩ hrel'.out
   refine cY 3 105 16 (fun u w'=>u=.bool true∧At [TabP t p m ss d,rowR (.slice sx sn sc) L,poolE QE,rowE (.slice hx (grA d.es).length hc) (grA d.es)] _ [TabP t p m ss d,rowR (.slice sx sn sc) L,poolE QE,rowE (.slice hx (grA d.es).length hc) (grA d.es)] w') (hcl.mono fun e w' ⟨he,hT⟩=>⟨_,he,rfl,hT⟩) ?_;rintro u w3 ⟨rfl,hT⟩;clear hcl;have hB:=call4 hA (A:=TabP t p m ss d) (B:=rowR (.slice sx sn sc) L) (C:=poolE QE) (D:=rowE (.slice hx (grA d.es).length hc) (grA d.es)) sR sR sR sR hT;clear hT;simp only[uA] at hB
   have hS0:=(⟨hB.get (A:=Part.cells b11 [.slice sx sn sc,.int .u64 first,.slice ex en ec,.slice cx cn cc] 40) sR,hB.get (A:=Part.cells b7 [.int .u64 nn,.string ff] 25) sR⟩:(fun w'=>Zaa w' b11 [.slice sx sn sc,.int .u64 first,.slice ex en ec,.slice cx cn cc] 40∧Zaa w' b7 [.int .u64 nn,.string ff] 25) w3)
   clear hA;have hA:=hB;clear hB;refine⟨hS0,?_⟩;(try go_frame);refine tP 4 106 (.bool true) (s:=hS0) (h:= ?_);(try go_frame);refine tP 5 107 (.pointer (some ⟨t,0,none⟩)) (s:=hS0) (h:= ?_);(try go_frame);refine tZ 6 108 (.agg #[.int .u64 nn,.string ff]) (r:=(fun w' hS=>Zah (ty:=25) (n:=2) (b:=b7) (j:=0) rfl (by exact rfl) hS.2 (by kernel_rfl) (by kernel_rfl) rfl rfl)) (s:=hS0) (h:= ?_);(try go_frame);refine tP 8 110 (.slice hx (grA d.es).length hc) (s:=hS0) (h:= ?_);(try go_frame);refine tZ 9 111 (.agg #[.int .u64 nn,.string ff]) (r:=(fun w' hS=>Zah (ty:=25) (n:=2) (b:=b7) (j:=0) rfl (by exact rfl) hS.2 (by kernel_rfl) (by kernel_rfl) rfl rfl)) (s:=hS0) (h:= ?_);(try go_frame);refine Zab (i:=7) (by kernel_rfl) ?_;have hcl:=held_any (hA.sep1 (A:=TabP t p m ss d) sR) hi'.out (by omega) hfe'.out nn ff;refine cY 7 109 17 (fun u w'=>∃l:List Ent,l.Perm ((d.es.filter (grantedB d.es)).filter (fun e=>e.of nn ff))∧At [TabP t p m ss d] _ [rowL u l,TabP t p m ss d] w') (hcl.mono fun e w' ⟨v,l,he,hp,hs,hT⟩=>⟨v,he,l,hp,hT⟩) ?_;rintro u w3 ⟨lh2,hp2,hT⟩;clear hcl;have hB:=hA.call1 (A:=TabP t p m ss d) sR hT;have hp2':=Hd hp2;clear hT hp2;simp only[uA] at hB;obtain⟨kx,kc,rfl⟩:=Zbb hB (v:=u) (xs:=lh2.flatMap Ent.cells) sR
   have hS0:=(⟨hB.get (A:=Part.cells b11 [.slice sx sn sc,.int .u64 first,.slice ex en ec,.slice cx cn cc] 40) sR,hB.get (A:=Part.cells b7 [.int .u64 nn,.string ff] 25) sR⟩:(fun w'=>Zaa w' b11 [.slice sx sn sc,.int .u64 first,.slice ex en ec,.slice cx cn cc] 40∧Zaa w' b7 [.int .u64 nn,.string ff] 25) w3)
   clear hA;have hA:=hB;clear hB;refine⟨hS0,?_⟩;(try go_frame);refine Zab (i:=10) (by kernel_rfl) ?_;have hcl:=Zgn (hA.sep1 (A:=rowE (.slice hx (grA d.es).length hc) (grA d.es)) sR) (Zb2 _ _) nn ff (by omega);refine cY 10 112 18 (fun u w'=>At [rowE (.slice hx (grA d.es).length hc) (grA d.es)] _ [rowE u (ownE (grA d.es) nn ff),rowE (.slice hx (grA d.es).length hc) (grA d.es)] w') (hcl.mono fun e w' ⟨v,he,hT⟩=>⟨v,he,hT⟩) ?_;rintro u w3 hT;clear hcl;have hB:=hA.call1 (A:=rowE (.slice hx (grA d.es).length hc) (grA d.es)) sR hT;clear hT;simp only[uA] at hB;obtain⟨yx,yc,rfl⟩:=Zbb hB (v:=u) (xs:=flatE (ownE (grA d.es) nn ff)) sR
   have hS0:=(⟨hB.get (A:=Part.cells b11 [.slice sx sn sc,.int .u64 first,.slice ex en ec,.slice cx cn cc] 40) sR,hB.get (A:=Part.cells b7 [.int .u64 nn,.string ff] 25) sR⟩:(fun w'=>Zaa w' b11 [.slice sx sn sc,.int .u64 first,.slice ex en ec,.slice cx cn cc] 40∧Zaa w' b7 [.int .u64 nn,.string ff] 25) w3)
   clear hA;have hA:=hB;clear hB;refine⟨hS0,?_⟩;(try go_frame);refine Zab (i:=11) (by kernel_rfl) ?_;have hcs:=hA.sep2 (A:=rowL (.slice kx lh2.length kc) lh2) (B:=rowE (.slice yx (ownE (grA d.es) nn ff).length yc) (ownE (grA d.es) nn ff)) sR sR;have hcn:=hp2'.out.nodup_iff.2 ((hnd'.out.filter _).filter _)
   have hcq:(ownE (grA d.es) nn ff).length≤1000000:=(show((grA d.es).filter (fun e=>e.of nn ff)).length≤1000000 from Nat.le_trans (List.length_filter_le _ _) (by omega))
   have hcp:lh2.Perm (ownE (grA d.es) nn ff):=hp2'.out;have hcl:=ZfK hcs hcp hcn hcq;refine cY 11 113 12 (fun u w'=>u=.bool true∧At [rowL (.slice kx lh2.length kc) lh2,rowE (.slice yx (ownE (grA d.es) nn ff).length yc) (ownE (grA d.es) nn ff)] _ [rowL (.slice kx lh2.length kc) lh2,rowE (.slice yx (ownE (grA d.es) nn ff).length yc) (ownE (grA d.es) nn ff)] w') (hcl.mono fun e w' ⟨he,hT⟩=>⟨_,he,rfl,hT⟩) ?_;rintro u w3 ⟨rfl,hT⟩;clear hcl hcs hcn hcq hcp;have hB:=hA.call2 (A:=rowL (.slice kx lh2.length kc) lh2) (B:=rowE (.slice yx (ownE (grA d.es) nn ff).length yc) (ownE (grA d.es) nn ff)) sR sR hT;clear hT;simp only[uA] at hB
   have hS0:=(⟨hB.get (A:=Part.cells b11 [.slice sx sn sc,.int .u64 first,.slice ex en ec,.slice cx cn cc] 40) sR,hB.get (A:=Part.cells b7 [.int .u64 nn,.string ff] 25) sR⟩:(fun w'=>Zaa w' b11 [.slice sx sn sc,.int .u64 first,.slice ex en ec,.slice cx cn cc] 40∧Zaa w' b7 [.int .u64 nn,.string ff] 25) w3)
   clear hA;have hA:=hB;clear hB;refine⟨hS0,?_⟩;(try go_frame);refine tP 12 114 (.bool true) (s:=hS0) (h:= ?_);(try go_frame);refine tP 13 8 (.bool true) (s:=hS0) (h:= ?_);(try go_frame);refine wpAnyH_done (by kernel_rfl) ?_ _;(try go_frame);clear hS0;obtain⟨hA,hF⟩:=fZ hA;go_wp2_with fail;go_ret;exact⟨rfl,Zc7 hA sR⟩
end Tab
end
section
namespace Tab
open Go.RowKit Go.Joins Go.ChangeShapes Go.WideShapes
open Cmd (Cm)
theorem Zc5 {α:Type} (l:List α) (a s:Nat) {t:Nat} (h:a + s=t):l.drop a=(l.drop a).take s++l.drop t:=by
 subst h;conv=>lhs;rw[←List.take_append_drop s (l.drop a)]
 rw[List.drop_drop]
theorem ZkX {α:Type} (l:List α) {n:Nat} (h:l.length=n):l.drop n=[]:=List.drop_eq_nil_of_le (by omega)
theorem Zl9 {W w:World} (h:(Part.old W).holds w) {b off:Nat} {u:Value} (hc:W.cell? ⟨b,off,none⟩=some u):w.cell? ⟨b,off,none⟩=some u:=by
 have hb:b < W.heap.size:=by
  rcases Nat.lt_or_ge b W.heap.size with q|q
  · exact q
  simp[World.cell?,Array.getElem?_eq_none q] at hc
 have:=h b hb;rw[←hc];simp[World.cell?,this]
theorem Zob {α:Type} {enc:α→List Value} {size:Nat} (hs:∀x,(enc x).length=size) (h0:0 < size) {l:List α} {j:Nat} {u:Value} (h:(l.flatMap enc)[j]? =some u):∃x,l[j / size]? =some x∧(enc x)[j % size]? =some u:=by
 have hlt:=(List.getElem?_eq_some_iff.1 h).1;rw[ZaB enc size hs] at hlt;have hq:j / size < l.length:=(Nat.div_lt_iff_lt_mul h0).2 hlt;refine⟨l[j / size],List.getElem?_eq_getElem hq,?_⟩;rw[←Zbs enc size hs l (j / size) _ (List.getElem?_eq_getElem hq) (j % size) (Nat.mod_lt _ h0),Nat.div_add_mod'];exact h
theorem ZjV {α:Type} {enc:α→List Value} {size:Nat} (hs:∀x,(enc x).length=size) (h0:0 < size) {W:World} {b off cap:Nat} {l:List α}
 (h:∀j x,l[j]? =some x→∀t u,(enc x)[t]? =some u→W.cell? ⟨b,off + j * size + t,none⟩=some u):∀w,(Part.old W).holds w→Reads w (.slice (some ⟨b,off,none⟩) l.length cap) l.length (l.flatMap enc):=by
 intro w hw;refine⟨_,cap,rfl,(fun q=>by cases q),fun j u hj=>⟨b,off,rfl,?_⟩⟩;obtain⟨x,hx,hu⟩:=Zob hs h0 hj;have:=h _ x hx _ u hu;rw[Nat.add_assoc,Nat.div_add_mod'] at this;exact Zl9 hw this
theorem ZjW {α:Type} (enc:α→List Value) (W:World):∀w,(Part.old W).holds w→Reads w (.slice none 0 0) ([]:List α).length (([]:List α).flatMap enc):=fun w _=>⟨none,0,rfl,fun _=>rfl,fun j u hj=>by simp at hj⟩
section
variable {H:Type} {enc:TypeId × Value→H} {W:World} {base:Nat} {spare:Nat→Bool} {held:Bool} {fuel:Nat}
theorem wf64 {n:Int} (h:(Lit.int .u64 n).wf=true):0≤n∧n < Lease.big64:=by
 simp[Lit.wf,IntKind.min,IntKind.max,IntKind.signed,IntKind.bits] at h;unfold Lease.big64;omega
theorem Zgp {cs:List Value} {y:DataW H × List MemPlace} (h:DataW.trod enc Tryz.prog W base spare held fuel 25 cs=some y):∃n f,cs=[.int .u64 n,.string f]∧(0≤n∧n < Lease.big64)∧f.size≤maxLen:=by
 obtain⟨xs,n,_,rfl,hl,hxl,hf⟩:=DataW.trod_struct Tryz.underlying25 h;have hn:cs.length=2:=hl.trans (by kernel_rfl);have hx:xs.length=2:=hxl;have hc_string:Tryz.prog.cellsOf 9=1:=by kernel_rfl
 have hc_uint64:Tryz.prog.cellsOf 22=1:=by kernel_rfl
 match xs,hx with
 |[y0,y1],_=>
  have f0:DataW.trod enc Tryz.prog W base spare held n 22 ((cs.drop 0).take (Tryz.prog.cellsOf 22))=some y0:=hf 0 _ rfl;rw[hc_uint64] at f0;have f1:DataW.trod enc Tryz.prog W base spare held n 9 ((cs.drop 1).take (Tryz.prog.cellsOf 9))=some y1:=hf 1 _ rfl;rw[hc_string] at f1;obtain⟨k0,e0,_,w0⟩:=DataW.trod_int Tryz.underlying22 f0;obtain⟨k1,e1,_,w1⟩:=DataW.trod_string Tryz.underlying9 f1;have hcs:cs.drop 0=(cs.drop 0).take 1++((cs.drop 1).take 1++[]):=(Zc5 cs 0 1 (t:=1) rfl).trans (congrArg (_++ ·) ((Zc5 cs 1 1 (t:=2) rfl).trans (congrArg (_++ ·) (ZkX cs hn))));rw[e0,e1] at hcs;exact⟨k0,k1,hcs,wf64 w0,w1⟩
theorem Zl7 {cs:List Value} {y:DataW H × List MemPlace} (h:DataW.trod enc Tryz.prog W base spare held fuel 43 cs=some y):∃c:Cm,cs=c.cells∧CmV c:=by
 obtain⟨xs,n,_,rfl,hl,hxl,hf⟩:=DataW.trod_struct Tryz.underlying43 h;have hn:cs.length=8:=hl.trans (by kernel_rfl);have hx:xs.length=7:=hxl;have hc_int:Tryz.prog.cellsOf 3=1:=by kernel_rfl
 have hc_moothillcmdSession:Tryz.prog.cellsOf 25=2:=by kernel_rfl
 have hc_string:Tryz.prog.cellsOf 9=1:=by kernel_rfl
 have hc_uint64:Tryz.prog.cellsOf 22=1:=by kernel_rfl
 match xs,hx with
 |[y0,y1,y2,y3,y4,y5,y6],_=>
  have f0:DataW.trod enc Tryz.prog W base spare held n 3 ((cs.drop 0).take (Tryz.prog.cellsOf 3))=some y0:=hf 0 _ rfl;rw[hc_int] at f0;have f1:DataW.trod enc Tryz.prog W base spare held n 25 ((cs.drop 1).take (Tryz.prog.cellsOf 25))=some y1:=hf 1 _ rfl;rw[hc_moothillcmdSession] at f1;have f2:DataW.trod enc Tryz.prog W base spare held n 22 ((cs.drop 3).take (Tryz.prog.cellsOf 22))=some y2:=hf 2 _ rfl;rw[hc_uint64] at f2;have f3:DataW.trod enc Tryz.prog W base spare held n 9 ((cs.drop 4).take (Tryz.prog.cellsOf 9))=some y3:=hf 3 _ rfl;rw[hc_string] at f3;have f4:DataW.trod enc Tryz.prog W base spare held n 3 ((cs.drop 5).take (Tryz.prog.cellsOf 3))=some y4:=hf 4 _ rfl;rw[hc_int] at f4;have f5:DataW.trod enc Tryz.prog W base spare held n 22 ((cs.drop 6).take (Tryz.prog.cellsOf 22))=some y5:=hf 5 _ rfl;rw[hc_uint64] at f5;have f6:DataW.trod enc Tryz.prog W base spare held n 3 ((cs.drop 7).take (Tryz.prog.cellsOf 3))=some y6:=hf 6 _ rfl;rw[hc_int] at f6;obtain⟨k0,e0,_,_⟩:=DataW.trod_int Tryz.underlying3 f0;obtain⟨k1,k2,e1,w1,v1⟩:=Zgp f1;obtain⟨k3,e2,_,w2⟩:=DataW.trod_int Tryz.underlying22 f2;obtain⟨k4,e3,_,w3⟩:=DataW.trod_string Tryz.underlying9 f3;obtain⟨k5,e4,_,_⟩:=DataW.trod_int Tryz.underlying3 f4;obtain⟨k6,e5,_,w5⟩:=DataW.trod_int Tryz.underlying22 f5;obtain⟨k7,e6,_,_⟩:=DataW.trod_int Tryz.underlying3 f6;have hcs:cs.drop 0=(cs.drop 0).take 1++((cs.drop 1).take 2++((cs.drop 3).take 1++((cs.drop 4).take 1++((cs.drop 5).take 1++((cs.drop 6).take 1++((cs.drop 7).take 1++[])))))):=(Zc5 cs 0 1 (t:=1) rfl).trans (congrArg (_++ ·) ((Zc5 cs 1 2 (t:=3) rfl).trans (congrArg (_++ ·) ((Zc5 cs 3 1 (t:=4) rfl).trans (congrArg (_++ ·) ((Zc5 cs 4 1 (t:=5) rfl).trans (congrArg (_++ ·) ((Zc5 cs 5 1 (t:=6) rfl).trans (congrArg (_++ ·) ((Zc5 cs 6 1 (t:=7) rfl).trans (congrArg (_++ ·) ((Zc5 cs 7 1 (t:=8) rfl).trans (congrArg (_++ ·) (ZkX cs hn))))))))))))));rw[e0,e1,e2,e3,e4,e5,e6] at hcs;exact⟨⟨k0,k1,k2,k3,k4,k5,k6,k7⟩,hcs,w1,v1,w3,wf64 w2,(wf64 w5).1⟩
theorem open_cmds {v:Value} {y:DataW H × List MemPlace} (hsp:∀b,spare b=true) (h:DataW.trod enc Tryz.prog W base spare held fuel 23 [v]=some y):∃(l:List Cm) (ax:Option Addr) (cap:Nat),v=.slice ax l.length cap∧l.length≤cap∧cap≤maxLen∧Ze1 (Part.old W) v l∧∀c ∈ l,CmV c:=by
 rcases Go.Deep.open_slice Tryz.underlying23 h with⟨hcs,_⟩|⟨a,len,cap,m,n,D,Pl,hcs,_,hl,hm,hmm,_,hel⟩
 · simp at hcs
   subst hcs;exact⟨[],none,0,rfl,by simp,by simp[maxLen],ZjW Cm.cells W,nofun⟩
 simp at hcs
 subst hcs;have hco:Tryz.prog.cellsOf 43=8:=by kernel_rfl
 rw[hco] at hel
 have hall:∀i,i < len→∃c:Cm,W.cells? base (a.add (i * 8)) 8=some c.cells∧CmV c:=fun i hi=>by
  obtain⟨cs',h1,h2⟩:=hel i (by rw[hmm,hsp,if_pos rfl];omega);obtain⟨o,rfl,h3⟩:=Zl7 h2;exact⟨o,h1,h3⟩
 obtain⟨f,hf⟩:=@Go.Deep.choose_lt Cm ⟨⟨0,0,.empty,0,.empty,0,0,0⟩⟩ len _ hall;have hlen:((List.range len).map f).length=len:=by simp
 have hget:∀j x,((List.range len).map f)[j]? =some x→j < len∧x=f j:=fun j x hx=>by
  have hj:=(List.getElem?_eq_some_iff.1 hx).1;rw[hlen] at hj;rw[List.getElem?_map,List.getElem?_range hj] at hx;exact⟨hj,(Option.some.inj hx).symm⟩
 have hmem:∀c ∈ (List.range len).map f,CmV c:=fun c hc=>by
  obtain⟨j,hj,rfl⟩:=List.mem_map.1 hc;exact(hf j (List.mem_range.1 hj)).2
 rcases Nat.eq_zero_or_pos len with rfl|hpos
 · refine⟨[],some a,cap,rfl,by simp,hm,fun w hw=>⟨_,cap,rfl,(fun _=>rfl),fun j u hj=>by simp at hj⟩,nofun⟩
 have hz:=(World.cells?_some (hf 0 hpos).1).2.2 0 (by omega);obtain⟨b,off,sp⟩:=a
 have hsn:sp=none:=by
  have:=congrArg Addr.spot (Zga hz)
  simpa [Addr.add] using this
 subst hsn;refine⟨(List.range len).map f,some ⟨b,off,none⟩,cap,by rw[hlen],by rw[hlen];exact hl,hm,?_,hmem⟩
 have hr:=ZjV (enc:=Cm.cells) (size:=8) (fun _=>rfl) (by omega) (W:=W) (b:=b) (off:=off) (cap:=cap) (l:=(List.range len).map f) fun j x hx t u hu=>by
  obtain⟨hj,rfl⟩:=hget j x hx;have ht:t < 8:=(List.getElem?_eq_some_iff.1 hu).1;have h6:=(World.cells?_some (hf j hj).1).2.2 t ht;rw[Addr.add_lit,Addr.add_lit,hu] at h6;exact h6
 rw[hlen] at hr;intro w hw;rw[hlen];exact hr w hw
variable {d:DataW H} {ps:List MemPlace} {r:Reach} {b0:Nat}
theorem openV_sess {v:Value} (hv:Value.okWide Tryz.prog W r b0 25 v) (h:DataW.Trod enc Tryz.prog W base spare held 25 v d ps):∃n f,v=.agg #[.int .u64 n,.string f]∧(0≤n∧n < Lease.big64)∧f.size≤maxLen:=by
 obtain⟨cs,rfl,_⟩:=okWide_struct Tryz.underlying25 hv;obtain⟨fuel,hf⟩:=h;obtain⟨n,f,hc,h0⟩:=Zgp (cs:=cs.toList) hf;refine⟨n,f,?_,h0⟩;rw[show cs=[Value.int .u64 n,.string f].toArray from by rw[←hc]]
end
end Tab
end
end Go.Proofs.YtknoefbcmomalaaGreatDoor
