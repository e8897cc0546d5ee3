/- TabEc, LockJ, LockK, joined. -/
import Derived.Test.YtkdjkngfnapjcaaGreatDoorP15
import Derived.Test.YtkdjkngfnapjcaaGreatDoorP7
set_option linter.unusedSimpArgs false
set_option linter.unusedVariables false
set_option maxRecDepth 100000
set_option maxHeartbeats 16000000
namespace Go.Proofs.YtkdjkngfnapjcaaGreatDoor
section
namespace Tab
open Go.RowKit
open Path (bl Zad overB Zam)
open Lease (Ses Ans fresh ZaP SR AR arP rowR poolP Rel RelS findR saidA insA okA)
open Lock (S3 Ent rowE rowC)
open Cmd (Cm Zao)
attribute [-go_sem] run_eql_struct run_neq_struct run_eqGuard_agg
theorem ZbH {L0:List Part} {w0 w:World} {D:DS} {T:TS} (hA:At L0 w0 D.parts w) (hD:DIn T D):(∃ax k cap,D.vS=.slice ax k cap)∧(∃ax k cap,D.vE=.slice ax k cap)∧(∃ax k cap,D.vC=.slice ax k cap):=by
 have hA:At L0 w0 [rowR D.vS D.L,poolP D.PL,poolE D.QE,poolC D.QC] w:=hA;obtain⟨RE,hRE⟩:=outE hD.le;obtain⟨RC,hRC⟩:=outC hD.lc;have h1:=(hA.pick (K:=[poolE D.QE]) pR).to (hRE []);have h2:=(hA.pick (K:=[poolC D.QC]) pR).to (hRC []);exact⟨ZaJ hA .here,ZaJ h1 .here,ZaJ h2 .here⟩
theorem ZnE {w:World} {first:Int} {vS vC:Value} {QE:PE} {es':List Ent} {f:FuncId} {args:Array Value} (h:Calls Tryz.prog f args w (ZnI w first vS vC QE es')):Calls Tryz.prog f args w fun e w'=>∃u,e=.returned u∧∃(dx2:Option Addr) (dn2 dc2:Nat) (QE2:PE),u=.agg #[vS,.int .u64 first,.slice dx2 dn2 dc2,vC]∧(.slice dx2 dn2 dc2,es') ∈ QE2∧(∀q ∈ QE,q ∈ QE2)∧At [poolE QE] w [poolE QE2] w':=by
 refine h.mono ?_;rintro e w1 ⟨vE',QE',rfl,hm,hs,hT⟩;obtain⟨R,hR⟩:=outE hm;obtain⟨ax,k,cap,rfl⟩:=ZaJ (hT.to (hR [])) .here;exact⟨_,rfl,ax,k,cap,QE',rfl,hm,hs,hT⟩
def OneP (w:World) (v:Value) (L:List SR) (code:Int) (L':List SR) (e:Ending) (w':World):Prop:=
 ∃v',e=.returned (.tuple #[.agg #[v'],.int .i64 code])∧At [rowR v L] w [rowR v' L'] w'
theorem ZfL {w:World} {v:Value} {L:List SR} {s':SR} {err:Int} {f:FuncId} {args:Array Value} (h:Calls Tryz.prog f args w (Lease.Zbd w v L s' err)):Calls Tryz.prog f args w (OneP w v L err (if err=0 then Lease.putR L s' else L)):=by
 refine h.mono ?_;rintro e w1 (⟨q,he,hT⟩|⟨q,v',he,hT⟩)
 · exact⟨v,he,by rw[if_neg q];exact hT⟩
 exact⟨v',by rw[q];exact he,by rw[if_pos q];exact hT⟩
theorem Zmw {w:World} {v:Value} {L:List SR} {s:SR} {ttl time:Int} {f:FuncId} {args:Array Value} (h:Calls Tryz.prog f args w (Lease.Zb0 w v L s ttl time)):Calls Tryz.prog f args w (OneP w v L (Lease.Za2 s (Lease.cntR L s.foot)) (if Lease.Za2 s (Lease.cntR L s.foot)=0 then Lease.putR L (s.opened ttl time) else L)):=by
 refine h.mono ?_;rintro e w1 (⟨q,he,hT⟩|⟨q,v',he,hT⟩)
 · exact⟨v,he,by rw[if_neg q];exact hT⟩
 exact⟨v',by rw[q];exact he,by rw[if_pos q];exact hT⟩
theorem ZiO {T:TS} {c:Cm} {L:List SR} {PL:List (Value × List AR)} (h:Lease.Inv T.S L PL) {g:Ses→Ses} {a':SR} {code:Int} (hr:code=0→Rel (updA g c.num c.foot T.S) (Lease.putR L a')) (ha:(a'.tv,a'.told) ∈ PL) (hf:a'.foot.size≤2000000):
 Lease.Inv (opT T c g code).S (if code=0 then Lease.putR L a' else L) PL:=by
 unfold opT
 split
 · rename_i h0
   exact h.put (hr h0) (fun q h=>h) ha hf
 exact h
theorem opT_L (T:TS) (c:Cm) (g:Ses→Ses) (e:Int):(opT T c g e).L=T.L:=by unfold opT;split<;>rfl
theorem ZnD (T:TS) (c:Cm) (e:Int):(endT T c e).S=(opT T c Ses.ended e).S:=by unfold endT opT;split<;>rfl
theorem Zgg (T:TS) (c:Cm) (e:Int):(endT T c e).L.es=(if e=0 then T.L.es.filter (fun x=> !x.of c.num c.foot) else T.L.es)∧(endT T c e).L.cs=T.L.cs∧(endT T c e).L.first=T.L.first:=by
 unfold endT
 split<;>exact⟨rfl,rfl,rfl⟩
theorem Zeu {T:TS} {m:Nat} (h:SInv T.S m) {L:List SR} (hR:Rel T.S L):L.length≤m:=by rw[←hR.len];exact h.len
theorem Zot {w:World} {D:DS} {T:TS} (h:Sep D.parts w) (hD:DIn T D) (kind num:Int) (foot:ByteArray) (req:Int) (path:ByteArray) (mode n time:Int) {k:Nat} (hI:TInv T k) (hk:k≤100000) (hf:foot.size≤1000) (hp:path.size≤1000) (hn:kind=1→0≤n∧n≤1048576):
 Calls Tryz.prog 97 #[D.val T.L.first,.agg #[.int .i64 kind,.int .u64 num,.string foot,.int .u64 req,.string path,.int .i64 mode,.int .u64 n,.int .i64 time]] w (DPost T.L.first w D (doT T ⟨kind,num,foot,req,path,mode,n,time⟩).1 (arA req (doT T ⟨kind,num,foot,req,path,mode,n,time⟩).2)):=by
 have hm:Tryz.prog.follows .mixedOrders=true:=by kernel_rfl
 obtain⟨⟨sx,sn,sc,h1⟩,⟨ex,en,ec,h2⟩,⟨cx,cn,cc,h3⟩⟩:=ZbH (At.start h) hD;obtain⟨vS,L,PL,vE,QE,vC,QC⟩:=D;simp only at h1 h2 h3;subst h1 h2 h3;have hA:At [rowR (.slice sx sn sc) L,poolP PL,poolE QE,poolC QC] w [rowR (.slice sx sn sc) L,poolP PL,poolE QE,poolC QC] w:=At.start h;clear h;have hrs:=Zcx hD.lease.rel (n:=num) (f:=foot);have hmem:=hD.lease.found num foot;have hkey:=Lease.ZeC (L:=L) (n:=num) (f:=foot);have hlen:L.length≤1000000:=Nat.le_trans (Zeu hI.s hD.lease.rel) (by omega);have hE1:=Zkn hD.lease.rel (n:=num) (f:=foot);have hop:=rel_op hD.lease.rel (n:=num) (f:=foot)
 obtain⟨first,hfi⟩:∃z,T.L.first=z:=⟨_,rfl⟩
 have ho1:kind=1→doT T ⟨kind,num,foot,req,path,mode,n,time⟩=(opT T ⟨kind,num,foot,req,path,mode,n,time⟩ (fun s=>s.opened n time) (Lease.Za2 (findR L num foot) (Lease.cntR L foot)),ansE (Lease.Za2 (findR L num foot) (Lease.cntR L foot)))∧DIn (opT T ⟨kind,num,foot,req,path,mode,n,time⟩ (fun s=>s.opened n time) (Lease.Za2 (findR L num foot) (Lease.cntR L foot))) ⟨.slice sx sn sc,(if Lease.Za2 (findR L num foot) (Lease.cntR L foot)=0 then Lease.putR L ((findR L num foot).opened n time) else L),PL,.slice ex en ec,QE,.slice cx cn cc,QC⟩:=fun e=>by
  refine⟨?_,ZiO hD.lease (fun q=>Zmj hD.lease.rel n time (hE1.trans q)) hmem (by show(findR L num foot).foot.size≤2000000;rw[hkey.2];omega),by rw[opT_L];exact hD.le,by rw[opT_L];exact hD.lc⟩;unfold doT;rw[if_pos e];simp only[hE1]
 have hR2:∀code,code=0→Rel (updA Ses.ended num foot T.S) (Lease.putR L (findR L num foot).ended):=fun _ _=>ZhH hD.lease.rel
 have ho2:kind=2→doT T ⟨kind,num,foot,req,path,mode,n,time⟩=(endT T ⟨kind,num,foot,req,path,mode,n,time⟩ (if(findR L num foot).op=true then(0:Int) else 50),ansE (if(findR L num foot).op=true then(0:Int) else 50)):=fun e=>by
  unfold doT;rw[if_neg (by show ¬kind=1;omega),if_pos e];simp only[hop]
 have hi2:Lease.Inv (endT T ⟨kind,num,foot,req,path,mode,n,time⟩ (if(findR L num foot).op=true then(0:Int) else 50)).S (if(if(findR L num foot).op=true then(0:Int) else 50)=0 then Lease.putR L (findR L num foot).ended else L) PL:=by
  rw[ZnD];exact ZiO hD.lease (fun _=>ZhH hD.lease.rel) hmem (by show(findR L num foot).foot.size≤2000000;rw[hkey.2];omega)
 have ho3:kind=3→doT T ⟨kind,num,foot,req,path,mode,n,time⟩=(opT T ⟨kind,num,foot,req,path,mode,n,time⟩ (fun s=>s.kept time) (if(findR L num foot).op=true then(0:Int) else 50),ansE (if(findR L num foot).op=true then(0:Int) else 50))∧DIn (opT T ⟨kind,num,foot,req,path,mode,n,time⟩ (fun s=>s.kept time) (if(findR L num foot).op=true then(0:Int) else 50)) ⟨.slice sx sn sc,(if(if(findR L num foot).op=true then(0:Int) else 50)=0 then Lease.putR L ((findR L num foot).kept time) else L),PL,.slice ex en ec,QE,.slice cx cn cc,QC⟩:=fun e=>by
  refine⟨?_,ZiO hD.lease (fun _=>Zmk hD.lease.rel time) hmem (by show(findR L num foot).foot.size≤2000000;rw[hkey.2];omega),by rw[opT_L];exact hD.le,by rw[opT_L];exact hD.lc⟩;unfold doT;rw[if_neg (by show ¬kind=1;omega),if_neg (by show ¬kind=2;omega),if_pos e];simp only[hop]
 have ho4:kind≠1→kind≠2→kind≠3→doT T ⟨kind,num,foot,req,path,mode,n,time⟩=Za3 T ⟨kind,num,foot,req,path,mode,n,time⟩:=fun e1 e2 e3=>by
  unfold doT;rw[if_neg e1,if_neg e2,if_neg e3]
 have hmay:mayT T ⟨kind,num,foot,req,path,mode,n,time⟩=if(findR L num foot).op=false then 50 else if Zam (bl foot) (bl path)=false then 55 else 0:=by
  unfold mayT;simp only[hop]
 have hdoc:=fun(q:mayT T ⟨kind,num,foot,req,path,mode,n,time⟩=0)=>Zos q
 have hlk:=fun(w1:World) (q:Sep [poolE QE,poolC QC] w1)=>Zju q hD.le hD.lc (.slice sx sn sc) ⟨_,_,_,rfl⟩ kind num foot req path mode n time hp hI.lock (by omega)
 have hdr:=fun(code:Int) (vS2:Value) (hv2:∃ax k cap,vS2=.slice ax k cap) (w1:World) (q:Sep [poolE QE] w1)=>ZeE q hD.le first vS2 (.slice cx cn cc) hv2 ⟨_,_,_,rfl⟩ kind num foot req path mode n time code (Nat.le_trans hI.lock.len (by omega))
 have hes:=Zgg T ⟨kind,num,foot,req,path,mode,n,time⟩ (if(findR L num foot).op=true then(0:Int) else 50);rw[hfi] at hlk ⊢
 obtain⟨s,hs⟩:∃z,findR L num foot=z:=⟨_,rfl⟩
 rw[hs] at hrs hmem hkey ho1 ho2 hi2 ho3 hmay hes;have htb:=hrs.tb;have hsf:=hkey.2;have hs':=Hd hs;have ho1':=Hd ho1;have ho2':=Hd ho2;have ho3':=Hd ho3;have ho4':=Hd ho4;have hi2':=Hd hi2;have hmay':=Hd hmay;have hdoc':=Hd hdoc;have hlk':=Hd hlk;have hdr':=Hd hdr;have hes':=Hd hes;have hD':=Hd hD;have hsf':=Hd hsf;have htb':=Hd htb;clear hs hrs hmem hkey ho1 ho2 ho3 ho4 hi2 hmay hdoc hlk hdr hes hD hsf htb hR2 hE1 hop hfi hI;obtain⟨hA,hF⟩:=fZ hA
 by_cases k1:kind=1
 · subst k1
   have hn1:=hn rfl
   have hcv:IntKind.i64.wrap n=n:=by rw[IntKind.wrap_i64]<;>omega
   obtain⟨hd,hin⟩:=ho1'.out rfl
   obtain⟨co,hco⟩:∃z,Lease.Za2 s (Lease.cntR L foot)=z:=⟨_,rfl⟩
   have hz:=fun(w1:World) (q:Sep [rowR (.slice sx sn sc) L] w1)=>(hsf'.out ▸ Zmw (Lease.Zkz q s n time hlen):Calls _ _ _ _ (OneP w1 (.slice sx sn sc) L (Lease.Za2 s (Lease.cntR L foot)) (if Lease.Za2 s (Lease.cntR L foot)=0 then Lease.putR L (s.opened n time) else L)))
   simp only[hco] at hz hin hd
   obtain⟨L2,hL2⟩:∃z,(if co=0 then Lease.putR L (s.opened n time) else L)=z:=⟨_,rfl⟩
   simp only[hL2] at hz hin;have hz':=Hd hz;have hin':=Hd hin;have hd':=Hd hd;clear hz hin hd hco hL2 ho1' ho2' ho3' ho4' hi2' hdr' hes' hlk' hdoc' hmay'
   go_enter Tryz.func97,Tryz.ntmps97
   go_wp2_with (first|(((with_reducible show wpList _ _ _ ({dst:=some 2,op:=Op.box _ _,type:=_,pos:=_,after:=_,guard:=_}::_) _ _));((with_reducible refine gbx ?_);refine wHz 87 [.slice sx sn sc,.int .u64 first,.slice ex en ec,.slice cx cn cc] hA ?_;clear hF hA;intro bX w1 hA hbX hF))|(((with_reducible show wpList _ _ _ ({dst:=some 3,op:=Op.box _ _,type:=_,pos:=_,after:=_,guard:=_}::_) _ _));((with_reducible refine gbx ?_);refine wHz 57 [.int .i64 1,.int .u64 num,.string foot,.int .u64 req,.string path,.int .i64 mode,.int .u64 n,.int .i64 time] hA ?_;clear hF hA;intro bC w1 hA hbC hF))|(((with_reducible show wpList _ _ _ ({dst:=some 4,op:=Op.alloc _,type:=_,pos:=_,after:=_,guard:=_}::_) _ _));((with_reducible refine gal ?_);refine g3 hA ?_;clear hF hA;intro bT w1 hA hbT hF))|(((with_reducible show wpList _ _ _ ({dst:=some 5,op:=Op.alloc _,type:=_,pos:=_,after:=_,guard:=_}::_) _ _));((with_reducible refine gal ?_);refine g0 hA ?_;clear hF hA;intro bR w1 hA hbR hF)))
   refine(Lease.findR_any (hA.sep1 (A:=rowR (.slice sx sn sc) L) sR) num foot hlen).mono ?_;rw[hs'.out];rintro e w1 ⟨rfl,hT⟩;replace hA:=hA.call1 (A:=rowR (.slice sx sn sc) L) sR hT;clear hT hF
   try simp only[uA] at hA
   obtain⟨hA,hF⟩:=fZ hA
   go_wp2_with (first|(((with_reducible show wpList _ _ _ ({dst:=some 6,op:=Op.alloc _,type:=_,pos:=_,after:=_,guard:=_}::_) _ _));((with_reducible refine gal ?_);refine g8 hA ?_;clear hF hA;intro bS w1 hA hbS hF))|(((with_reducible show wpList _ _ _ ({dst:=some 7,op:=Op.alloc _,type:=_,pos:=_,after:=_,guard:=_}::_) _ _));((with_reducible refine gal ?_);refine g0 hA ?_;clear hF hA;intro bA w1 hA hbA hF))|(refine Zal (b:=bS) (j:=0) (vs:=SR.cells s) rfl rfl rfl (by(try simp only[Act.eval,eV])<;>exact rfl) (by exact rfl) hA sR (by kernel_rfl) (Lease.SR.ones _) (by show 0 + 7≤7;omega) ?_;intro w1 hB;clear hF hA;have hA:=hB;clear hB;simp only[SR.cells,SR.tv] at hA;obtain⟨hA,hF⟩:=fZ hA)|((with_reducible refine gst ?_);refine wTz hA ?_;clear hF hA;intro w1 hA hF))
   refine(hz'.out _ (hA.sep1 (A:=rowR (.slice sx sn sc) L) sR)).mono ?_;clear hz';rintro e w1 ⟨v',rfl,hT⟩;have hB:=hA.call1 (A:=rowR (.slice sx sn sc) L) sR hT;obtain⟨dx,dn,dc,rfl⟩:=ZaJ hB .here;clear hT;clear hF hA;have hA:=hB;clear hB
   try simp only[uA] at hA
   obtain⟨hA,hF⟩:=fZ hA
   go_wp2_with ((with_reducible refine gst ?_);refine wTz hA ?_;clear hF hA;intro w1 hA hF)
   try go_frame
   refine csZ 2 87 bT 0 [.slice dx dn dc,.int .u64 first,.slice ex en ec,.slice cx cn cc] hA ?_;intro w1 hB;clear hF hA;have hA:=hB;clear hB;(simp only[List.drop_succ_cons,List.drop_zero]);obtain⟨hA,hF⟩:=fZ hA;(try go_frame)
   go_wp2_with ((with_reducible refine gst ?_);refine wTz hA ?_;clear hF hA;intro w1 hA hF)
   refine bodyPost_ret (v:=.tuple #[.agg #[.slice dx dn dc,.int .u64 first,.slice ex en ec,.slice cx cn cc],.agg #[.int .u64 req,.int .i64 co,.int .u64 0,.bool false]]) (by simp[results,Tryz.results97,go_sem,hF]) rfl ?_;rw[hd'.out];exact⟨⟨.slice dx dn dc,L2,PL,.slice ex en ec,QE,.slice cx cn cc,QC⟩,rfl,⟨hin'.out.lease,hin'.out.le,hin'.out.lc⟩,fun q h=>h,(show At [rowR _ _,poolP _,poolE _,poolC _] _ [rowR _ _,poolP _,poolE _,poolC _] _ from hA.pick pR)⟩
 by_cases x2:kind=2
 · subst x2
   have hd:=ho2'.out rfl
   obtain⟨co,hco⟩:∃z,(if s.op=true then(0:Int) else 50)=z:=⟨_,rfl⟩
   have hz:=fun(w1:World) (q:Sep [rowR (.slice sx sn sc) L] w1)=>ZfL (Lease.Zgh q s hlen)
   have hin:=hi2'.out;have hes:=hes'.out;simp only[hco] at hz hin hd hes
   obtain⟨L2,hL2⟩:∃z,(if co=0 then Lease.putR L s.ended else L)=z:=⟨_,rfl⟩
   simp only[hL2] at hz hin
   have hdz:=fun(dx:Option Addr) (dn dc:Nat) (w1:World) (q:Sep [poolE QE] w1)=>ZnE (hdr'.out co (.slice dx dn dc) ⟨_,_,_,rfl⟩ w1 q)
   have hz':=Hd hz;have hin':=Hd hin;have hd':=Hd hd;have he2':=Hd hes;have hdz0:=Hd hdz;clear hz hin hd hco hL2 hes hdz ho1' ho2' ho3' ho4' hi2' hdr' hes' hlk' hdoc' hmay'
   go_enter Tryz.func97,Tryz.ntmps97
   go_wp2_with (first|(((with_reducible show wpList _ _ _ ({dst:=some 2,op:=Op.box _ _,type:=_,pos:=_,after:=_,guard:=_}::_) _ _));((with_reducible refine gbx ?_);refine wHz 87 [.slice sx sn sc,.int .u64 first,.slice ex en ec,.slice cx cn cc] hA ?_;clear hF hA;intro bX w1 hA hbX hF))|(((with_reducible show wpList _ _ _ ({dst:=some 3,op:=Op.box _ _,type:=_,pos:=_,after:=_,guard:=_}::_) _ _));((with_reducible refine gbx ?_);refine wHz 57 [.int .i64 2,.int .u64 num,.string foot,.int .u64 req,.string path,.int .i64 mode,.int .u64 n,.int .i64 time] hA ?_;clear hF hA;intro bC w1 hA hbC hF))|(((with_reducible show wpList _ _ _ ({dst:=some 4,op:=Op.alloc _,type:=_,pos:=_,after:=_,guard:=_}::_) _ _));((with_reducible refine gal ?_);refine g3 hA ?_;clear hF hA;intro bT w1 hA hbT hF))|(((with_reducible show wpList _ _ _ ({dst:=some 5,op:=Op.alloc _,type:=_,pos:=_,after:=_,guard:=_}::_) _ _));((with_reducible refine gal ?_);refine g0 hA ?_;clear hF hA;intro bR w1 hA hbR hF)))
   refine(Lease.findR_any (hA.sep1 (A:=rowR (.slice sx sn sc) L) sR) num foot hlen).mono ?_;rw[hs'.out];rintro e w1 ⟨rfl,hT⟩;replace hA:=hA.call1 (A:=rowR (.slice sx sn sc) L) sR hT;clear hT hF
   try simp only[uA] at hA
   obtain⟨hA,hF⟩:=fZ hA
   go_wp2_with (first|(((with_reducible show wpList _ _ _ ({dst:=some 6,op:=Op.alloc _,type:=_,pos:=_,after:=_,guard:=_}::_) _ _));((with_reducible refine gal ?_);refine g8 hA ?_;clear hF hA;intro bS w1 hA hbS hF))|(((with_reducible show wpList _ _ _ ({dst:=some 7,op:=Op.alloc _,type:=_,pos:=_,after:=_,guard:=_}::_) _ _));((with_reducible refine gal ?_);refine g0 hA ?_;clear hF hA;intro bA w1 hA hbA hF))|(refine Zal (b:=bS) (j:=0) (vs:=SR.cells s) rfl rfl rfl (by(try simp only[Act.eval,eV])<;>exact rfl) (by exact rfl) hA sR (by kernel_rfl) (Lease.SR.ones _) (by show 0 + 7≤7;omega) ?_;intro w1 hB;clear hF hA;have hA:=hB;clear hB;simp only[SR.cells,SR.tv] at hA;obtain⟨hA,hF⟩:=fZ hA)|((with_reducible refine gst ?_);refine wTz hA ?_;clear hF hA;intro w1 hA hF))
   refine(hz'.out _ (hA.sep1 (A:=rowR (.slice sx sn sc) L) sR)).mono ?_;clear hz';rintro e w1 ⟨v',rfl,hT⟩;have hB:=hA.call1 (A:=rowR (.slice sx sn sc) L) sR hT;obtain⟨dx,dn,dc,rfl⟩:=ZaJ hB .here;clear hT;clear hF hA;have hA:=hB;clear hB
   try simp only[uA] at hA
   obtain⟨hA,hF⟩:=fZ hA
   go_upto_region 8 with((with_reducible refine gst ?_);refine wTz hA ?_;clear hF hA;intro w1 hA hF)
   try go_frame
   have hdz':=Hd (hdz0.out dx dn dc);replace hA:=hA.drew;clear hF;refine wp_region_held (S:=fun w'=>Zab w' bX [.slice dx dn dc,.int .u64 first,.slice ex en ec,.slice cx cn cc] 87∧Zab w' bC (k8 2 num foot req path mode n time) 57∧Zab w' bA [.int .u64 req,.int .i64 co,.int .u64 0,.bool false] 90) hm ?_;change wpAnyH _ _ _ _ _ 8 _ _ (World.drew _)
   generalize World.drew _=wd at *
   have hS0:=(⟨hA.get (A:=Part.cells bX [.slice dx dn dc,.int .u64 first,.slice ex en ec,.slice cx cn cc] 87) sZ,hA.get (A:=Part.cells bC (k8 2 num foot req path mode n time) 57) sZ,hA.get (A:=Part.cells bA [.int .u64 req,.int .i64 co,.int .u64 0,.bool false] 90) sZ⟩:(fun w'=>Zab w' bX [.slice dx dn dc,.int .u64 first,.slice ex en ec,.slice cx cn cc] 87∧Zab w' bC (k8 2 num foot req path mode n time) 57∧Zab w' bA [.int .u64 req,.int .i64 co,.int .u64 0,.bool false] 90) wd)
   refine tZ 0 49 (.agg #[.slice dx dn dc,.int .u64 first,.slice ex en ec,.slice cx cn cc]) (r:=(fun w' hS=>Zah (ty:=87) (n:=4) (b:=bX) (j:=0) rfl (by exact rfl) hS.1 (by kernel_rfl) (by kernel_rfl) rfl rfl)) (s:=hS0) (h:= ?_)
   try go_frame
   refine tZ 1 50 (.agg #[.int .i64 2,.int .u64 num,.string foot,.int .u64 req,.string path,.int .i64 mode,.int .u64 n,.int .i64 time]) (r:=(fun w' hS=>Zah (ty:=57) (n:=8) (b:=bC) (j:=0) rfl (by exact rfl) hS.2.1 (by kernel_rfl) (by kernel_rfl) rfl rfl)) (s:=hS0) (h:= ?_)
   try go_frame
   refine tP 2 51 (.pointer (some ⟨bA,1,none⟩)) (s:=hS0) (h:= ?_)
   try go_frame
   refine tZ 3 52 (.int .i64 co) (r:=(fun w' hS=>Zac (ty:=3) (b:=bA) (j:=1) rfl (by exact rfl) hS.2.2 (by kernel_rfl) rfl)) (s:=hS0) (h:= ?_)
   try go_frame
   refine tZ 5 54 (.agg #[.int .u64 req,.int .i64 co,.int .u64 0,.bool false]) (r:=(fun w' hS=>Zah (ty:=90) (n:=4) (b:=bA) (j:=0) rfl (by exact rfl) hS.2.2 (by kernel_rfl) (by kernel_rfl) rfl rfl)) (s:=hS0) (h:= ?_)
   try go_frame
   refine Zaa (i:=4) (by kernel_rfl) ?_;refine cY 4 53 95 (fun u w'=>∃(dx2:Option Addr) (dn2 dc2:Nat) (QE2:PE),u=.agg #[.slice dx dn dc,.int .u64 first,.slice dx2 dn2 dc2,.slice cx cn cc]∧(.slice dx2 dn2 dc2,(if co=0 then T.L.es.filter (fun x=> !x.of num foot) else T.L.es)) ∈ QE2∧(∀q ∈ QE,q ∈ QE2)∧At [poolE QE] _ [poolE QE2] w') (hdz'.out _ (hA.sep1 (A:=poolE QE) sZ)) ?_;rintro u w3 ⟨dx2,dn2,dc2,QE2,rfl,hm2,hs2,hT⟩;have hm2':=Hd hm2;have hs2':=Hd hs2;have hB:=hA.call1 (A:=poolE QE) sZ hT;clear hT hm2 hs2;simp only[uA] at hB
   refine andH ⟨hB.ci,hB.ci,hB.ci⟩ fun hS0=> ?_
   clear hA;have hA:=hB;clear hB
   try go_frame
   refine Zaa (i:=6) (by kernel_rfl) ?_;refine stZ 6 bT 0 [.slice dx dn dc,.int .u64 first,.slice dx2 dn2 dc2,.slice cx cn cc] hA ?_;intro w3 hB;simp only[uA] at hB
   refine andH ⟨hB.ci,hB.ci,hB.ci⟩ fun hS0=> ?_
   clear hA;have hA:=hB;clear hB
   try go_frame
   refine Zaa (i:=7) (by kernel_rfl) ?_;refine stZ 7 bR 0 [.int .u64 req,.int .i64 co,.int .u64 0,.bool false] hA ?_;intro w3 hB;simp only[uA] at hB
   refine andH ⟨hB.ci,hB.ci,hB.ci⟩ fun hS0=> ?_
   clear hA;have hA:=hB;clear hB
   try go_frame
   refine wpAnyH_done (by kernel_rfl) ?_ _
   try go_frame
   clear hS0;obtain⟨hA,hF⟩:=fZ hA
   go_wp2_with fail
   refine bodyPost_ret (v:=.tuple #[.agg #[.slice dx dn dc,.int .u64 first,.slice dx2 dn2 dc2,.slice cx cn cc],.agg #[.int .u64 req,.int .i64 co,.int .u64 0,.bool false]]) (by simp[results,Tryz.results97,go_sem,hF]) rfl ?_;rw[hd'.out];exact⟨⟨.slice dx dn dc,L2,PL,.slice dx2 dn2 dc2,QE2,.slice cx cn cc,QC⟩,rfl,⟨hin'.out,by rw[he2'.out.1];exact hm2'.out,by rw[he2'.out.2.1];exact hD'.out.lc⟩,hs2'.out,(show At [rowR _ _,poolP _,poolE _,poolC _] _ [rowR _ _,poolP _,poolE _,poolC _] _ from hA.pick pR)⟩
 by_cases k3:kind=3
 · subst k3
   obtain⟨hd,hin⟩:=ho3'.out rfl
   obtain⟨co,hco⟩:∃z,(if s.op=true then(0:Int) else 50)=z:=⟨_,rfl⟩
   have hz:=fun(w1:World) (q:Sep [rowR (.slice sx sn sc) L] w1)=>ZfL (Lease.ZkL q s time htb'.out.1 htb'.out.2 hlen)
   simp only[hco] at hz hin hd
   obtain⟨L2,hL2⟩:∃z,(if co=0 then Lease.putR L (s.kept time) else L)=z:=⟨_,rfl⟩
   simp only[hL2] at hz hin;have hz':=Hd hz;have hin':=Hd hin;have hd':=Hd hd;clear hz hin hd hco hL2 ho1' ho2' ho3' ho4' hi2' hdr' hes' hlk' hdoc' hmay'
   go_enter Tryz.func97,Tryz.ntmps97
   go_wp2_with (first|(((with_reducible show wpList _ _ _ ({dst:=some 2,op:=Op.box _ _,type:=_,pos:=_,after:=_,guard:=_}::_) _ _));((with_reducible refine gbx ?_);refine wHz 87 [.slice sx sn sc,.int .u64 first,.slice ex en ec,.slice cx cn cc] hA ?_;clear hF hA;intro bX w1 hA hbX hF))|(((with_reducible show wpList _ _ _ ({dst:=some 3,op:=Op.box _ _,type:=_,pos:=_,after:=_,guard:=_}::_) _ _));((with_reducible refine gbx ?_);refine wHz 57 [.int .i64 3,.int .u64 num,.string foot,.int .u64 req,.string path,.int .i64 mode,.int .u64 n,.int .i64 time] hA ?_;clear hF hA;intro bC w1 hA hbC hF))|(((with_reducible show wpList _ _ _ ({dst:=some 4,op:=Op.alloc _,type:=_,pos:=_,after:=_,guard:=_}::_) _ _));((with_reducible refine gal ?_);refine g3 hA ?_;clear hF hA;intro bT w1 hA hbT hF))|(((with_reducible show wpList _ _ _ ({dst:=some 5,op:=Op.alloc _,type:=_,pos:=_,after:=_,guard:=_}::_) _ _));((with_reducible refine gal ?_);refine g0 hA ?_;clear hF hA;intro bR w1 hA hbR hF)))
   refine(Lease.findR_any (hA.sep1 (A:=rowR (.slice sx sn sc) L) sR) num foot hlen).mono ?_;rw[hs'.out];rintro e w1 ⟨rfl,hT⟩;replace hA:=hA.call1 (A:=rowR (.slice sx sn sc) L) sR hT;clear hT hF
   try simp only[uA] at hA
   obtain⟨hA,hF⟩:=fZ hA
   go_wp2_with (first|(((with_reducible show wpList _ _ _ ({dst:=some 6,op:=Op.alloc _,type:=_,pos:=_,after:=_,guard:=_}::_) _ _));((with_reducible refine gal ?_);refine g8 hA ?_;clear hF hA;intro bS w1 hA hbS hF))|(((with_reducible show wpList _ _ _ ({dst:=some 7,op:=Op.alloc _,type:=_,pos:=_,after:=_,guard:=_}::_) _ _));((with_reducible refine gal ?_);refine g0 hA ?_;clear hF hA;intro bA w1 hA hbA hF))|(refine Zal (b:=bS) (j:=0) (vs:=SR.cells s) rfl rfl rfl (by(try simp only[Act.eval,eV])<;>exact rfl) (by exact rfl) hA sR (by kernel_rfl) (Lease.SR.ones _) (by show 0 + 7≤7;omega) ?_;intro w1 hB;clear hF hA;have hA:=hB;clear hB;simp only[SR.cells,SR.tv] at hA;obtain⟨hA,hF⟩:=fZ hA)|((with_reducible refine gst ?_);refine wTz hA ?_;clear hF hA;intro w1 hA hF))
   refine(hz'.out _ (hA.sep1 (A:=rowR (.slice sx sn sc) L) sR)).mono ?_;clear hz';rintro e w1 ⟨v',rfl,hT⟩;have hB:=hA.call1 (A:=rowR (.slice sx sn sc) L) sR hT;obtain⟨dx,dn,dc,rfl⟩:=ZaJ hB .here;clear hT;clear hF hA;have hA:=hB;clear hB
   try simp only[uA] at hA
   obtain⟨hA,hF⟩:=fZ hA
   go_wp2_with ((with_reducible refine gst ?_);refine wTz hA ?_;clear hF hA;intro w1 hA hF)
   try go_frame
   refine csZ 2 87 bT 0 [.slice dx dn dc,.int .u64 first,.slice ex en ec,.slice cx cn cc] hA ?_;intro w1 hB;clear hF hA;have hA:=hB;clear hB;(simp only[List.drop_succ_cons,List.drop_zero]);obtain⟨hA,hF⟩:=fZ hA;(try go_frame)
   go_wp2_with ((with_reducible refine gst ?_);refine wTz hA ?_;clear hF hA;intro w1 hA hF)
   refine bodyPost_ret (v:=.tuple #[.agg #[.slice dx dn dc,.int .u64 first,.slice ex en ec,.slice cx cn cc],.agg #[.int .u64 req,.int .i64 co,.int .u64 0,.bool false]]) (by simp[results,Tryz.results97,go_sem,hF]) rfl ?_;rw[hd'.out];exact⟨⟨.slice dx dn dc,L2,PL,.slice ex en ec,QE,.slice cx cn cc,QC⟩,rfl,⟨hin'.out.lease,hin'.out.le,hin'.out.lc⟩,fun q h=>h,(show At [rowR _ _,poolP _,poolE _,poolC _] _ [rowR _ _,poolP _,poolE _,poolC _] _ from hA.pick pR)⟩
 have hd0:=ho4'.out k1 x2 k3;have hd0':=Hd hd0
 have k1':(kind==1)=false:=by simpa using k1
 have x2':(kind==2)=false:=by simpa using x2
 have k3':(kind==3)=false:=by simpa using k3
 clear hd0 k1 x2 k3 ho1' ho2' ho3' ho4' hi2' hdr' hes'
 have hpre:s.op=false∨s.op=true:=by cases s.op<;>simp
 rcases hpre with hop|hop
 · have hma:mayT T ⟨kind,num,foot,req,path,mode,n,time⟩=50:=by rw[hmay'.out,hop];rfl
   have hd:Za3 T ⟨kind,num,foot,req,path,mode,n,time⟩=(T,ansE 50):=by unfold Za3;rw[if_pos (by rw[hma];decide),hma]
   have hd':=Hd hd;clear hma hd hmay'
   go_enter Tryz.func97,Tryz.ntmps97
   go_wp2_with (first|(((with_reducible show wpList _ _ _ ({dst:=some 2,op:=Op.box _ _,type:=_,pos:=_,after:=_,guard:=_}::_) _ _));((with_reducible refine gbx ?_);refine wHz 87 [.slice sx sn sc,.int .u64 first,.slice ex en ec,.slice cx cn cc] hA ?_;clear hF hA;intro bX w1 hA hbX hF))|(((with_reducible show wpList _ _ _ ({dst:=some 3,op:=Op.box _ _,type:=_,pos:=_,after:=_,guard:=_}::_) _ _));((with_reducible refine gbx ?_);refine wHz 57 [.int .i64 kind,.int .u64 num,.string foot,.int .u64 req,.string path,.int .i64 mode,.int .u64 n,.int .i64 time] hA ?_;clear hF hA;intro bC w1 hA hbC hF))|(((with_reducible show wpList _ _ _ ({dst:=some 4,op:=Op.alloc _,type:=_,pos:=_,after:=_,guard:=_}::_) _ _));((with_reducible refine gal ?_);refine g3 hA ?_;clear hF hA;intro bT w1 hA hbT hF))|(((with_reducible show wpList _ _ _ ({dst:=some 5,op:=Op.alloc _,type:=_,pos:=_,after:=_,guard:=_}::_) _ _));((with_reducible refine gal ?_);refine g0 hA ?_;clear hF hA;intro bR w1 hA hbR hF)))
   refine(Lease.findR_any (hA.sep1 (A:=rowR (.slice sx sn sc) L) sR) num foot hlen).mono ?_;rw[hs'.out];rintro e w1 ⟨rfl,hT⟩;replace hA:=hA.call1 (A:=rowR (.slice sx sn sc) L) sR hT;clear hT hF
   try simp only[uA] at hA
   obtain⟨hA,hF⟩:=fZ hA
   go_wp2_with (first|(((with_reducible show wpList _ _ _ ({dst:=some 6,op:=Op.alloc _,type:=_,pos:=_,after:=_,guard:=_}::_) _ _));((with_reducible refine gal ?_);refine g8 hA ?_;clear hF hA;intro bS w1 hA hbS hF))|(((with_reducible show wpList _ _ _ ({dst:=some 7,op:=Op.alloc _,type:=_,pos:=_,after:=_,guard:=_}::_) _ _));((with_reducible refine gal ?_);refine g0 hA ?_;clear hF hA;intro bA w1 hA hbA hF))|(refine Zal (b:=bS) (j:=0) (vs:=SR.cells s) rfl rfl rfl (by(try simp only[Act.eval,eV])<;>exact rfl) (by exact rfl) hA sR (by kernel_rfl) (Lease.SR.ones _) (by show 0 + 7≤7;omega) ?_;intro w1 hB;clear hF hA;have hA:=hB;clear hB;simp only[SR.cells,SR.tv] at hA;obtain⟨hA,hF⟩:=fZ hA)|((with_reducible refine gst ?_);refine wTz hA ?_;clear hF hA;intro w1 hA hF))
   try go_frame
   refine csZ 2 87 bT 0 [.slice sx sn sc,.int .u64 first,.slice ex en ec,.slice cx cn cc] hA ?_;intro w1 hB;clear hF hA;have hA:=hB;clear hB;(simp only[List.drop_succ_cons,List.drop_zero]);obtain⟨hA,hF⟩:=fZ hA;(try go_frame)
   go_wp2_with ((with_reducible refine gst ?_);refine wTz hA ?_;clear hF hA;intro w1 hA hF)
   refine bodyPost_ret (v:=.tuple #[.agg #[.slice sx sn sc,.int .u64 first,.slice ex en ec,.slice cx cn cc],.agg #[.int .u64 req,.int .i64 50,.int .u64 0,.bool false]]) (by simp[results,Tryz.results97,go_sem,hF]) rfl ?_;rw[hd0'.out,hd'.out];exact⟨⟨.slice sx sn sc,L,PL,.slice ex en ec,QE,.slice cx cn cc,QC⟩,rfl,hD'.out,fun q h=>h,(show At [rowR _ _,poolP _,poolE _,poolC _] _ [rowR _ _,poolP _,poolE _,poolC _] _ from hA.pick pR)⟩
 obtain⟨ab,hab⟩:∃z,Zam (bl foot) (bl path)=z:=⟨_,rfl⟩
 have hav:=fun w=>Path.Zdw foot path w (by omega) (by omega)
 rw[hab] at hav;have hma:=hmay'.out;rw[hop,hab,if_neg (by decide)] at hma;have hma':=Hd hma;clear hma hab hmay'
 go_enter Tryz.func97,Tryz.ntmps97
 go_wp2_with (first|(((with_reducible show wpList _ _ _ ({dst:=some 2,op:=Op.box _ _,type:=_,pos:=_,after:=_,guard:=_}::_) _ _));((with_reducible refine gbx ?_);refine wHz 87 [.slice sx sn sc,.int .u64 first,.slice ex en ec,.slice cx cn cc] hA ?_;clear hF hA;intro bX w1 hA hbX hF))|(((with_reducible show wpList _ _ _ ({dst:=some 3,op:=Op.box _ _,type:=_,pos:=_,after:=_,guard:=_}::_) _ _));((with_reducible refine gbx ?_);refine wHz 57 [.int .i64 kind,.int .u64 num,.string foot,.int .u64 req,.string path,.int .i64 mode,.int .u64 n,.int .i64 time] hA ?_;clear hF hA;intro bC w1 hA hbC hF))|(((with_reducible show wpList _ _ _ ({dst:=some 4,op:=Op.alloc _,type:=_,pos:=_,after:=_,guard:=_}::_) _ _));((with_reducible refine gal ?_);refine g3 hA ?_;clear hF hA;intro bT w1 hA hbT hF))|(((with_reducible show wpList _ _ _ ({dst:=some 5,op:=Op.alloc _,type:=_,pos:=_,after:=_,guard:=_}::_) _ _));((with_reducible refine gal ?_);refine g0 hA ?_;clear hF hA;intro bR w1 hA hbR hF)))
 refine(Lease.findR_any (hA.sep1 (A:=rowR (.slice sx sn sc) L) sR) num foot hlen).mono ?_;rw[hs'.out];rintro e w1 ⟨rfl,hT⟩;replace hA:=hA.call1 (A:=rowR (.slice sx sn sc) L) sR hT;clear hT hF
 try simp only[uA] at hA
 obtain⟨hA,hF⟩:=fZ hA
 go_wp2_with (first|(((with_reducible show wpList _ _ _ ({dst:=some 6,op:=Op.alloc _,type:=_,pos:=_,after:=_,guard:=_}::_) _ _));((with_reducible refine gal ?_);refine g8 hA ?_;clear hF hA;intro bS w1 hA hbS hF))|(((with_reducible show wpList _ _ _ ({dst:=some 7,op:=Op.alloc _,type:=_,pos:=_,after:=_,guard:=_}::_) _ _));((with_reducible refine gal ?_);refine g0 hA ?_;clear hF hA;intro bA w1 hA hbA hF))|(refine Zal (b:=bS) (j:=0) (vs:=SR.cells s) rfl rfl rfl (by(try simp only[Act.eval,eV])<;>exact rfl) (by exact rfl) hA sR (by kernel_rfl) (Lease.SR.ones _) (by show 0 + 7≤7;omega) ?_;intro w1 hB;clear hF hA;have hA:=hB;clear hB;simp only[SR.cells,SR.tv] at hA;obtain⟨hA,hF⟩:=fZ hA)|((with_reducible refine gst ?_);refine wTz hA ?_;clear hF hA;intro w1 hA hF))
 refine(hav _).mono ?_;clear hav;rintro e w1 ⟨rfl,hx⟩;replace hA:=hA.ext hx;clear hx hF
 try simp only[uA] at hA
 obtain⟨hA,hF⟩:=fZ hA;cases ab
 · have hd:Za3 T ⟨kind,num,foot,req,path,mode,n,time⟩=(T,ansE 55):=by
    unfold Za3;rw[if_pos (by rw[hma'.out];decide),hma'.out]
    rfl
   have hd':=Hd hd;clear hd hma'
   go_wp2_with ((with_reducible refine gst ?_);refine wTz hA ?_;clear hF hA;intro w1 hA hF)
   try go_frame
   refine csZ 2 87 bT 0 [.slice sx sn sc,.int .u64 first,.slice ex en ec,.slice cx cn cc] hA ?_;intro w1 hB;clear hF hA;have hA:=hB;clear hB;(simp only[List.drop_succ_cons,List.drop_zero]);obtain⟨hA,hF⟩:=fZ hA;(try go_frame)
   go_wp2_with ((with_reducible refine gst ?_);refine wTz hA ?_;clear hF hA;intro w1 hA hF)
   refine bodyPost_ret (v:=.tuple #[.agg #[.slice sx sn sc,.int .u64 first,.slice ex en ec,.slice cx cn cc],.agg #[.int .u64 req,.int .i64 55,.int .u64 0,.bool false]]) (by simp[results,Tryz.results97,go_sem,hF]) rfl ?_;rw[hd0'.out,hd'.out];exact⟨⟨.slice sx sn sc,L,PL,.slice ex en ec,QE,.slice cx cn cc,QC⟩,rfl,hD'.out,fun q h=>h,(show At [rowR _ _,poolP _,poolE _,poolC _] _ [rowR _ _,poolP _,poolE _,poolC _] _ from hA.pick pR)⟩
 have hma:mayT T ⟨kind,num,foot,req,path,mode,n,time⟩=0:=by rw[hma'.out];rfl
 have hd:=hdoc'.out hma;have hd':=Hd hd;clear hd hma hma' hdoc'
 go_wp2_with fail
 refine(hlk'.out _ (hA.sep2 (A:=poolE QE) (B:=poolC QC) sR sR)).mono ?_;clear hlk';rintro e w1 ⟨vE',vC',QE',QC',rfl,m1,m2,m3,hT⟩;have hB:=hA.call2 (A:=poolE QE) (B:=poolC QC) sR sR hT;simp only[uA] at hB;obtain⟨⟨_,_,_,z1⟩,⟨dx,dn,dc,z2⟩,⟨gx,gn,gc,z3⟩⟩:=ZbH (D:=⟨.slice sx sn sc,L,PL,vE',QE',vC',QC'⟩) (T:=⟨T.S,(docL T.L ⟨kind,num,foot,req,path,mode,n,time⟩).1⟩) (hB.pick (K:=[rowR (.slice sx sn sc) L,poolP PL,poolE QE',poolC QC']) pR) ⟨hD'.out.lease,m1,m2⟩;simp only at z2 z3;subst z2 z3
 obtain⟨⟨xr,xe,xn,xg⟩,hx⟩:∃z,arA req (docL T.L ⟨kind,num,foot,req,path,mode,n,time⟩).2=z:=⟨_,rfl⟩
 rw[hx];simp only[Lease.AR.cells];have hx':=Hd hx;have m1':=Hd m1;have m2':=Hd m2;have m3':=Hd m3;clear hT hx m1 m2 m3 z1;clear hF hA;have hA:=hB;clear hB
 try simp only[uA] at hA
 obtain⟨hA,hF⟩:=fZ hA
 go_wp2_with ((with_reducible refine gst ?_);refine wTz hA ?_;clear hF hA;intro w1 hA hF)
 refine bodyPost_ret (v:=.tuple #[.agg #[.slice sx sn sc,.int .u64 first,.slice dx dn dc,.slice gx gn gc],.agg #[.int .u64 xr,.int .i64 xe,.int .u64 xn,.bool xg]]) (by simp[results,Tryz.results97,go_sem,hF]) rfl ?_;rw[hd0'.out,hd'.out];refine⟨⟨.slice sx sn sc,L,PL,.slice dx dn dc,QE',.slice gx gn gc,QC'⟩,?_,⟨hD'.out.lease,m1'.out,m2'.out⟩,m3'.out,(show At [rowR _ _,poolP _,poolE _,poolC _] _ [rowR _ _,poolP _,poolE _,poolC _] _ from hA.pick pR)⟩;simp only[hx'.out]
 rfl
end Tab
end
section
namespace Lock
open Go.RowKit
open Go.Maps (Keyed)
open Path (bl Zad overB)
attribute [-go_sem] run_eql_struct run_neq_struct run_eqGuard_agg
attribute [local go_sem] ZnB eqlS
structure Kept (es cur dn:List Ent) (D:Ent→Bool):Prop where
 sub:cur.Sublist es
 kept:∀x ∈ es,x ∈ cur∨(D x=true∧x ∈ dn)
 done:∀x ∈ cur,x ∈ dn→D x=false
 inn:∀x ∈ dn,x ∈ es
 nd:dn.Nodup
theorem Kept.len {es cur dn:List Ent} {D:Ent→Bool} (h:Kept es cur dn D):dn.length≤es.length:=h.nd.length_le_of_subset (fun x hx=>h.inn x hx)
theorem ZgP {l1 l2:List Ent} {x:Ent} (h:(l1++x::l2).Nodup):x ∉ l1++l2:=(List.nodup_cons.1 (List.perm_middle.nodup h)).1
theorem Kept.next {es cur dn:List Ent} {D:Ent→Bool} (h:Kept es cur dn D) {x:Ent} (hx:x ∈ cur) (hn:x ∉ dn):(D x=false→Kept es cur (dn++[x]) D)∧
 (D x=true→∀l1 l2,cur=l1++x::l2→x ∉ l1++l2→Kept es (l1++l2) (dn++[x]) D):=by
 have hpw:(dn++[x]).Nodup:=List.nodup_append.2 ⟨h.nd,by simp,fun a ha c hc=>by rw[List.mem_singleton.1 hc];intro e;subst e;exact hn ha⟩
 have hdm:∀y ∈ dn++[x],y ∈ es:=fun y hy=>by
  rcases List.mem_append.1 hy with hy|hy
  · exact h.inn y hy
  rw[List.mem_singleton.1 hy];exact h.sub.subset hx
 constructor
 · intro hl
   refine⟨h.sub,fun y hy=> ?_,fun y hy hz=> ?_,hdm,hpw⟩
   · rcases h.kept y hy with q|⟨q,r⟩
     · exact .inl q
     exact .inr ⟨q,by simp[r]⟩
   rcases List.mem_append.1 hz with hz|hz
   · exact h.done y hy hz
   rw[List.mem_singleton.1 hz];exact hl
 intro hl l1 l2 e hne;subst e;refine⟨(List.Sublist.append (List.Sublist.refl _) (List.sublist_cons_self _ _)).trans h.sub,fun y hy=> ?_,fun y hy hz=> ?_,hdm,hpw⟩
 · rcases h.kept y hy with q|⟨q,r⟩
   · by_cases hyx:y=x
     · subst hyx;exact .inr ⟨hl,by simp⟩
     left
     simp only[List.mem_append,List.mem_cons] at q ⊢
     rcases q with q|q|q
     · exact .inl q
     · exact absurd q hyx
     exact .inr q
   exact .inr ⟨q,by simp[r]⟩
 rcases List.mem_append.1 hz with hz|hz
 · exact h.done y (by simp only[List.mem_append,List.mem_cons] at hy ⊢;rcases hy with hy|hy<;>simp[hy]) hz
 rw[List.mem_singleton.1 hz] at hy;exact absurd hy hne
theorem Kept.end {es cur dn:List Ent} {D:Ent→Bool} (h:Kept es cur dn D) (hnd:es.Nodup) (hall:∀x ∈ cur,x ∈ dn):cur=es.filter (fun x=> !D x):=by
 have hs:cur.Sublist (es.filter (fun x=> !D x)):=by
  have:=h.sub.filter (fun x=> !D x)
  rwa [List.filter_eq_self.2 (fun x hx=>by rw[h.done x hx (hall x hx)];rfl)] at this
 refine hs.eq_of_length ?_;refine(List.Perm.length_eq ?_)
 refine(List.perm_ext_iff_of_nodup (h.sub.nodup hnd) (hnd.sublist List.filter_sublist)).2 fun x=> ?_
 rw[List.mem_filter]
 constructor
 · intro hx
   exact⟨h.sub.subset hx,by rw[h.done x hx (hall x hx)];rfl⟩
 rintro⟨h1,h2⟩
 rcases h.kept x h1 with q|⟨q,_⟩
 · exact q
 rw[q] at h2;cases h2
theorem Zm1 (l1 l2:List Ent) (e:Ent):ents (l1++e::l2)=ents l1++(e.key,e.val)::ents l2:=by simp[ents,ent]
theorem Zm3 (l1 l2:List Ent):ents l1++ents l2=ents (l1++l2):=by simp[ents]
theorem Zhe {w:World} {bS:Nat} {n k:Int} {f p g:ByteArray} {v:List Value} (h:Sep [boxS bS n f] w) {c:Bool} (hc:decide (k=n∧g=f)=c) {c1 c2 c3 c4 c5 c6:Value}:
 Calls Tryz.prog 216 #[.agg #[.string p,.int .u64 k,.string g],.agg #[c1,c2,c3,c4,c5,c6],.pointer (some ⟨bS,0,none⟩)] w fun e w'=>e=.returned (.bool c)∧At [boxS bS n f] w [boxS bS n f] w':=by
 have hA:=At.start h;obtain⟨hA,hF⟩:=fY hA;clear h;have hc':=Hd hc;clear hc
 go_enter Tryz.func216,Tryz.ntmps216
 go_wp2_with ((with_reducible refine gbx ?_);refine wCy hA ?_;clear hF hA;intro b1 w1 hA hb1 hF)
 go_ret;exact⟨by rw[←hc'.out,Bool.decide_and];rfl,hA.only1 sR⟩
abbrev iterE (r b:Nat) (cur dn:List Ent):Part:=.iterD Tryz.prog 203 r b (ents cur) (ents dn)
def DelRel (L0:List Part) (w:World) (m r bS:Nat) (n:Int) (f:ByteArray) (es:List Ent) (k:Nat) (wr:World):Prop:=
 ∃cur dn:List Ent,Kept es cur dn (·.of n f)∧dn.length + k=es.length∧At L0 w [iterE r m cur dn,boxS bS n f] wr
theorem Zou {w:World} {m bS:Nat} {n:Int} {f:ByteArray} {es:List Ent} (h:Sep [mapC m (ents es),boxS bS n f] w) (hok:∀x ∈ es,x.path.size≤maxLen∧0≤x.num∧x.num < big64∧x.foot.size≤maxLen):
 Calls Tryz.prog 215 #[.map (some m),.func (.func 216) #[] #[.pointer (some ⟨bS,0,none⟩)]] w fun e w'=>e=.returned (.tuple #[])∧At [mapC m (ents es),boxS bS n f] w [mapC m (ents (es.filter (fun x=> !x.of n f))),boxS bS n f] w':=by
 have hA:=At.start h;have hkeys:=ZhZ (MapAt.keys (hA.get (A:=mapC m (ents es)) sR));have hnde:es.Nodup:=hkeys.imp (fun h e=>h (by rw[e]));obtain⟨hA,hF⟩:=fY hA;clear h hkeys
 go_enter Tryz.func215,Tryz.ntmps215
 go_wp2_with (refine ZaV rfl rfl rfl hA sR Tryz.underlying201 ?_;intro r w1 hB hr;replace hA:=hB.rangeD sR;clear hF;obtain⟨hA,hF⟩:=fY hA)
 try go_frame
 go_loopg [5] es.length (fun k _ wr=>DelRel [mapC m (ents es),boxS bS n f] w m r bS n f es k wr)
 case atStart=>exact⟨es,[],⟨List.Sublist.refl _,fun x hx=>.inl hx,fun x _ hx=>(by cases hx),nofun,List.nodup_nil⟩,by simp,hA⟩
 case round=>
  obtain⟨cur,dn,hL,hk,hB⟩:=hrel;clear hF hA;have hA:=hB;clear hB;obtain⟨hA,hF⟩:=fY hA
  go_step
  go_step
  refine Zd4 rfl rfl rfl hA sR (fun hp=> ?_) (fun q w1 hq hd hB=> ?_)
  · have hM:=hA.rangedD sR
    have hfin:=Hd (hL.end hnde (fun x hx=>Zor (hp _ (List.mem_map.2 ⟨x,hx,rfl⟩))));clear hp hL
    go_wp2_with fail
    go_end0
    exact⟨rfl,by rw[←hfin.out];exact hM.only2 sR sR⟩
  obtain⟨x,hx,rfl⟩:=List.mem_map.1 hq
  have hI:IterD Tryz.prog 203 w1 r m (ents cur) (ents dn++[ent x]):=hB.get (A:=Part.iterD Tryz.prog 203 r m (ents cur) (ents dn++[ent x])) sR;have hen:=hI.entry hq
  have hnot:x ∉ dn:=fun q=>hd (ent x) (List.mem_map.2 ⟨x,q,rfl⟩) rfl
  obtain⟨hn1,hn2⟩:=hL.next hx hnot;obtain⟨o1,o2,o3,o4⟩:=hok x (hL.sub.subset hx);obtain⟨kl,hkl⟩:=keyP o1 o2 o3 o4;have hnd:cur.Nodup:=hL.sub.nodup hnde
  have hlen:dn.length < es.length:=by
   cases hin:x.of n f with
   |false=>have:=(hn1 hin).len;simp at this;omega
   |true=>
    obtain⟨l1,l2,e⟩:=List.append_of_mem hx;have:=(hn2 hin l1 l2 e (by rw[e] at hnd;exact ZgP hnd)).len
    simp at this;omega
  rw[show ents dn++[ent x]=ents (dn++[x]) by simp[ents]] at hB;clear hF hA;have hA:=hB;simp only[ent,Ent.key,keyV,Ent.val] at hen;unfold keyV at hkl;have hok':=Hd hok;clear hB hI hd hq hok o1 o2 o3 o4 hnot;have hL':=Hd hL;clear hL;obtain⟨hA,hF⟩:=fY hA
  cases hin:x.of n f with
  |false=>
   have hK:=Hd (hn1 hin);have hnde':=Hd hnde;clear hn1 hn2 hnde hnd
   go_wp2_with (first|((with_reducible refine gst ?_);refine wTy hA ?_;clear hF hA;intro w1 hA hF)|((with_reducible refine gal ?_);refine wGy 203 [.string .empty,.int .u64 0,.string .empty] hA ?_;clear hF hA;intro b1 w1 hA hb1 hF)|((with_reducible refine gal ?_);refine g5 hA ?_;clear hF hA;intro b1 w1 hA hb1 hF))
   refine(Zhe (v:=[]) (hA.sep1 (A:=boxS bS n f) sR) hin).mono ?_;rintro e w1 ⟨rfl,hT⟩;replace hA:=hA.call1 sR hT;clear hF hT;obtain⟨hA,hF⟩:=fY hA
   go_wp2_with fail
   go_roundg (gk - 1)
   case measure=>omega
   case rel=>exact⟨cur,dn++[x],hK.out,by simp;omega,hA.only2 sR sR⟩
  |true=>
   obtain⟨l1,l2,e⟩:=List.append_of_mem hx;subst e;have hK:=Hd (hn2 hin l1 l2 rfl (ZgP hnd));have hnde':=Hd hnde;clear hn1 hn2 hx hnd hnde
   unfold iterE at *
   rw[Zm1] at hA;unfold Ent.key keyV at hA
   go_wp2_with (first|((with_reducible refine gst ?_);refine wTy hA ?_;clear hF hA;intro w1 hA hF)|((with_reducible refine gal ?_);refine wGy 203 [.string .empty,.int .u64 0,.string .empty] hA ?_;clear hF hA;intro b1 w1 hA hb1 hF)|((with_reducible refine gal ?_);refine g5 hA ?_;clear hF hA;intro b1 w1 hA hb1 hF))
   refine(Zhe (v:=[]) (hA.sep1 (A:=boxS bS n f) sR) hin).mono ?_;rintro e w1 ⟨rfl,hT⟩;replace hA:=hA.call1 sR hT;clear hF hT;obtain⟨hA,hF⟩:=fY hA
   go_wp2_with (refine ZcS rfl rfl rfl (by(try simp only[Act.eval,eV])<;>exact rfl) hA (k:=203) sR lawP Tryz.underlying201 hkl ?_;intro w1 hB;rw[Zm3 l1 l2] at hB;clear hF hA;have hA:=hB;clear hB;obtain⟨hA,hF⟩:=fY hA)
   go_roundg (gk - 1)
   case measure=>omega
   case rel=>exact⟨l1++l2,dn++[x],hK.out,by simp;omega,hA.only2 sR sR⟩
theorem Zm8 {w:World} {b:Bk} (h:Sep [BookP b] w) (n:Int) (f:ByteArray) (hl:b.es.length≤1000000000) (hok:∀x ∈ b.es,x.path.size≤maxLen∧0≤x.num∧x.num < big64∧x.foot.size≤maxLen):
 Calls Tryz.prog 165 #[.pointer (some ⟨b.p,0,none⟩),.agg #[.int .u64 n,.string f]] w fun e w'=>e=.returned (.int .i64 (b.es.length - (b.st.dropAll n f).es.length))∧At [BookP b] w [BookP (b.with (b.st.dropAll n f))] w':=by
 have hA:=begin0 h;have hF:=hA.facts;have hle:(b.es.filter (fun x=> !x.of n f)).length≤b.es.length:=List.length_filter_le _ _
 show Calls _ _ _ _ fun e w'=>e=.returned (.int .i64 (b.es.length - (b.es.filter (fun x=> !x.of n f)).length))∧At [BookP b] w [BookP ⟨b.p,b.m,b.c,b.first,b.es.filter (fun x=> !x.of n f),b.cs⟩] w'
 have hdel:=fun(w1:World) (bS:Nat) (q:Sep [mapC b.m (ents b.es),boxS bS n f] w1)=>Zou q hok
 generalize b.es.filter (fun x=> !x.of n f)=es' at *
 have e1:(ents b.es).length=b.es.length:=by simp[ents]
 have e2:(ents es').length=es'.length:=by simp[ents]
 obtain⟨hA,hF⟩:=fY hA;clear h hok
 go_enter Tryz.func165,Tryz.ntmps165
 go_wp2_with (first|((with_reducible refine gbx ?_);refine wCy (E:=25) hA ?_;clear hF hA;intro bS w1 hA hbS hF)|(refine Zbi (k:=203) (es:=ents b.es) rfl rfl rfl hA sR Tryz.underlying201 ?_;rw[e1]))
 refine(hdel _ bS (hA.sep2 (A:=mapC b.m (ents b.es)) (B:=boxS bS n f) sR sR)).mono ?_;clear hdel;rintro e w2 ⟨rfl,hT⟩;replace hA:=hA.call2 (A:=mapC b.m (ents b.es)) (B:=boxS bS n f) sR sR hT;clear hF hT;obtain⟨hA,hF⟩:=fY hA
 have hw:IntKind.i64.wrap ((b.es.length:Int) - (es'.length:Int))=(b.es.length:Int) - (es'.length:Int):=by rw[IntKind.wrap_i64]<;>omega
 go_wp2_with (refine Zbi (k:=203) (es:=ents es') rfl rfl rfl hA sR Tryz.underlying201 ?_;rw[e2])
 go_ret;exact⟨rfl,close0 ⟨b.p,b.m,b.c,b.first,es',b.cs⟩ hA sR sR sR⟩
end Lock
end
section
namespace Lock
open Go.RowKit
open Go.Maps (Keyed)
open Path (bl Zad overB)
attribute [-go_sem] run_eql_struct run_neq_struct run_eqGuard_agg
theorem eqlE6 (p1 f1 p2 f2:ByteArray) (n1 m1 k1 s1 n2 m2 k2 s2:Int) (w:World):(binOp .eql 97 (.agg #[.string p1,.int .u64 n1,.string f1,.int .i64 m1,.int .u64 k1,.int .i64 s1]) (.agg #[.string p2,.int .u64 n2,.string f2,.int .i64 m2,.int .u64 k2,.int .i64 s2])).run Tryz.prog w=.ok (.bool (decide ((⟨p1,n1,f1,m1,k1,s1⟩:Ent)=⟨p2,n2,f2,m2,k2,s2⟩))) w:=eqlE ⟨p1,n1,f1,m1,k1,s1⟩ ⟨p2,n2,f2,m2,k2,s2⟩ w
attribute [local go_sem] guardE eqlE6
def Zc8 (es:List Ent) (e:Ent):Bool:=decide (find es e.path e.num e.foot=some e)&&Za1 es e
section
variable {w:World} {b:Bk} {e:Ent}
theorem Zh3 (h:Sep [BookP b] w) (hp:e.path.size≤1000000) (h0:0≤e.num) (h1:e.num < big64) (hf:e.foot.size≤maxLen) (hok:∀x ∈ b.es,x.path.size≤1000000):
 Calls Tryz.prog 51 #[.pointer (some ⟨b.p,0,none⟩),e.val] w fun o w'=>o=.returned (.bool (Zc8 b.es e))∧At [BookP b] w [BookP b] w':=by
 have hA:=At.start h;have hF:=hA.facts
 have hpm:e.path.size≤maxLen:=by unfold maxLen;omega
 have hcl:=fun(w1:World) (q:Sep [BookP b] w1)=>ZeJ q e hp hok
 unfold Zc8
 generalize Za1 b.es e=c at *
 cases hfi:find b.es e.path e.num e.foot with
 |none=>
  have hfn:=fun(w1:World) (q:Sep [BookP b] w1)=>ZkZ q hpm h0 h1 hf hfi
  clear h hfi hok;obtain⟨p1,n1,f1,m1,k1,s1⟩:=e
  simp only[Ent.val] at *
  obtain⟨hA,hF⟩:=fY hA
  go_enter Tryz.func51,Tryz.ntmps51
  go_wp2_with ((with_reducible refine gbx ?_);refine wCy (E:=97) hA ?_;clear hF hA;intro bX w1 hA hbX hF)
  refine(hfn _ (hA.sep1 (A:=BookP b) sR)).mono ?_;clear hfn;rintro e w1 ⟨rfl,hT⟩;replace hA:=hA.call1 sR hT;clear hF hT;obtain⟨hA,hF⟩:=fY hA
  go_wp2_with (first|((with_reducible refine gal ?_);refine g5 hA ?_;clear hF hA;intro bE w1 hA hbE hF)|((with_reducible refine gst ?_);refine wTy hA ?_;clear hF hA;intro w1 hA hF))
  go_ret;exact⟨rfl,hA.only1 sR⟩
 |some x=>
  have hfn:=fun(w1:World) (q:Sep [BookP b] w1)=>ZiS q hpm h0 h1 hf hfi
  have hxe:(some x=some e)=(x=e):=by simp
  simp only[hxe];clear h hfi hok hxe;obtain⟨p1,n1,f1,m1,k1,s1⟩:=e;obtain⟨p2,n2,f2,m2,k2,s2⟩:=x
  simp only[Ent.val] at *
  obtain⟨d,hd⟩:∃d,decide ((⟨p2,n2,f2,m2,k2,s2⟩:Ent)=⟨p1,n1,f1,m1,k1,s1⟩)=d:=⟨_,rfl⟩
  have eq6:∀w,(binOp .eql 97 (.agg #[.string p2,.int .u64 n2,.string f2,.int .i64 m2,.int .u64 k2,.int .i64 s2]) (.agg #[.string p1,.int .u64 n1,.string f1,.int .i64 m1,.int .u64 k1,.int .i64 s1])).run Tryz.prog w=.ok (.bool d) w:=fun w=>by rw[eqlE6,hd]
  rw[hd];clear hd;obtain⟨hA,hF⟩:=fY hA
  go_enter Tryz.func51,Tryz.ntmps51
  go_wp2_with ((with_reducible refine gbx ?_);refine wCy (E:=97) hA ?_;clear hF hA;intro bX w1 hA hbX hF)
  refine(hfn _ (hA.sep1 (A:=BookP b) sR)).mono ?_;clear hfn;rintro e w1 ⟨rfl,hT⟩;replace hA:=hA.call1 sR hT;clear hF hT;obtain⟨hA,hF⟩:=fY hA;cases d
  · go_wp2_with (first|((with_reducible refine gal ?_);refine g5 hA ?_;clear hF hA;intro bE w1 hA hbE hF)|((with_reducible refine gst ?_);refine wTy hA ?_;clear hF hA;intro w1 hA hF))
    go_ret;exact⟨rfl,hA.only1 sR⟩
  go_wp2_with (first|((with_reducible refine gal ?_);refine g5 hA ?_;clear hF hA;intro bE w1 hA hbE hF)|((with_reducible refine gst ?_);refine wTy hA ?_;clear hF hA;intro w1 hA hF))
  refine(hcl _ (hA.sep1 (A:=BookP b) sR)).mono ?_;clear hcl;rintro e w1 ⟨rfl,hT⟩;replace hA:=hA.call1 sR hT;clear hF hT;obtain⟨hA,hF⟩:=fY hA
  go_wp2_with fail
  go_ret;exact⟨rfl,hA.only1 sR⟩
end
def ChRel (b:Bk) (r:Nat) (p:ByteArray) (n:Int) (w:World) (k:Nat) (wr:World):Prop:=
 ∃ds:List Ent,At [BookP b] w [Part.iter Tryz.prog 203 r b.m (ents b.es) (ents ds),headC b.p b.m b.c b.first,ctrC b.c (ctrs b.cs)] wr∧(∀s ∈ ds,s ∈ b.es∧¬(s.path=p∧s.n=n))∧ds.length + k=b.es.length
theorem Zlk {w:World} {b:Bk} (h:Sep [BookP b] w) (p:ByteArray) (n:Int) (hok:∀x ∈ b.es,x.path.size≤1000000) {c:Bool} (h1:∀e ∈ b.es,e.path=p→e.n=n→Za1 b.es e=c) (h2:(∀e ∈ b.es,¬(e.path=p∧e.n=n))→c=false):
 Calls Tryz.prog 224 #[.pointer (some ⟨b.p,0,none⟩),.string p,.int .u64 n] w fun o w'=>o=.returned (.bool c)∧At [BookP b] w [BookP b] w':=by
 have hA:=begin0 h;have hF:=hA.facts;have h1':=Hd h1;have h2':=Hd h2;clear h1 h2;obtain⟨hA,hF⟩:=fY hA;clear h
 go_enter Tryz.func224,Tryz.ntmps224
 go_wp2_with (refine ZaV rfl rfl rfl hA sR Tryz.underlying201 ?_;intro r w1 hB hr;clear hF hA;have hA:=hB;clear hB;obtain⟨hA,hF⟩:=fY hA)
 try go_frame
 go_loopg [] b.es.length (ChRel b r p n w)
 case atStart=>exact⟨[],hA.pick pZ,nofun,by simp⟩
 case round=>
  obtain⟨ds,hA2,hds,hk⟩:=hrel;clear hF hA;have hA:=hA2;clear hA2;obtain⟨hA,hF⟩:=fY hA
  go_step
  go_step
  refine Za9 rfl rfl rfl hA sR (fun hp=> ?_) (fun q w1 hq hd hB=> ?_)
  · have hpp:=ents_perm hp
    have hc:=Hd (h2'.out (fun e he=>(hds e (hpp.mem_iff.1 he)).2));have hM:=At.ranged hA sR;clear hp hpp hds
    go_wp2_with fail
    go_ret;exact⟨by rw[hc.out];rfl,close0 b hM sR sR sR⟩
  obtain⟨s,hs,rfl⟩:=List.mem_map.1 hq
  have hI:Zas Tryz.prog 203 w1 r b.m (ents b.es) (ents ds++[ent s]):=hB.get (A:=Part.iter _ _ r b.m (ents b.es) (ents ds++[ent s])) sR;have hen:=hI.entry
  have hlen:(ds++[s]).length≤b.es.length:=by have:=hI.len;simpa [ents] using this
  have hsub:¬(s.path=p∧s.n=n)→∀x ∈ ds++[s],x ∈ b.es∧¬(x.path=p∧x.n=n):=fun hn x hx=>by
   rcases List.mem_append.1 hx with hx|hx
   · exact hds x hx
   have:x=s:=by simpa using hx
   rw[this];exact⟨hs,hn⟩
  rw[ents_snoc] at hB;have hs1:=hok s hs;clear hF hA;have hA:=hB;have hk':=Hd hk;have hsub':=Hd hsub;have hc1:=Hd (h1'.out s hs)
  have hcl:=fun(w1:World) (q:Sep [BookP b] w1)=>ZeJ q s hs1 hok
  obtain⟨cc,hcc⟩:∃cc,Za1 b.es s=cc:=⟨_,rfl⟩
  rw[hcc] at hcl;have hcc':=Hd hcc;simp only[List.length_append,List.length_cons,List.length_nil,Nat.zero_add] at hlen;clear hI hB hk hsub hds hq hd hs hcc;obtain⟨hA,hF⟩:=fY hA;simp only[ent,Ent.key,Ent.val,keyV] at hen
  by_cases e1:s.path=p
  · have b1:(s.path.toList==p.toList)=true:=by rw[same_ba];exact decide_eq_true e1
    have e1':=Hd e1
    by_cases e2:s.n=n
    · have b2:(s.n==n)=true:=by simpa using e2
      have e2':=Hd e2;clear e1 e2
      go_wp2_with (first|((with_reducible refine gst ?_);refine wTy hA ?_;clear hF hA;intro w1 hA hF)|((with_reducible refine gal ?_);refine g5 hA ?_;clear hF hA;intro b1 w1 hA hb1 hF))
      have hM:=At.ranged hA sR;replace hA:=fold0 b hM sR sR sR;clear hF hM;refine(hcl _ (hA.sep1 (A:=BookP b) sR)).mono ?_;clear hcl;rintro o w2 ⟨rfl,hT⟩;have hB:=hA.call1 (A:=BookP b) sR hT;have hres:=Hd ((hc1.out e1'.out e2'.out).symm.trans hcc'.out);clear hA hT
      go_wp2_with fail
      go_ret;exact⟨by rw[hres.out];rfl,hB.only1 .here⟩
    have b2:(s.n==n)=false:=by simpa using e2
    have hs3:=Hd (hsub'.out (fun q=>e2 q.2));clear e1 e2
    go_wp2_with (first|((with_reducible refine gst ?_);refine wTy hA ?_;clear hF hA;intro w1 hA hF)|((with_reducible refine gal ?_);refine g5 hA ?_;clear hF hA;intro b1 w1 hA hb1 hF))
    go_roundg (gk - 1)
    case measure=>have:=hk'.out;omega
    case rel=>exact⟨ds++[s],hA.pick pR,hs3.out,by have:=hk'.out;simp;omega⟩
  have b1:(s.path.toList==p.toList)=false:=by rw[same_ba];exact decide_eq_false e1
  have hs3:=Hd (hsub'.out (fun q=>e1 q.1));clear e1
  go_wp2_with (first|((with_reducible refine gst ?_);refine wTy hA ?_;clear hF hA;intro w1 hA hF)|((with_reducible refine gal ?_);refine g5 hA ?_;clear hF hA;intro b1 w1 hA hb1 hF))
  go_roundg (gk - 1)
  case measure=>have:=hk'.out;omega
  case rel=>exact⟨ds++[s],hA.pick pR,hs3.out,by have:=hk'.out;simp;omega⟩
end Lock
end
end Go.Proofs.YtkdjkngfnapjcaaGreatDoor
