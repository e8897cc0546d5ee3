import Derived.Test.YtknoefbcmomalabGreatDoorP9
set_option linter.unusedSimpArgs false
set_option linter.unusedVariables false
set_option maxRecDepth 100000
set_option maxHeartbeats 16000000
namespace Go.Proofs.YtknoefbcmomalabGreatDoor
section
namespace Tab
open Go.RowKit
open Path (bl Zaf overB Zan)
open Lease (Ses Ans fresh ZaN SR AR arP rowR poolP Rel RelS findR saidA insA okA)
open Lock (S3 Ent rowE rowC)
open Cmd (Cm Zaq)
attribute [-go_sem] run_eql_struct run_neq_struct run_eqGuard_agg
theorem Zb2 {L0:List Part} {w0 w:World} {D:DS} {T:TS} (hA:At L0 w0 D.parts w) (hD:DIn T D):(∃ax k cap,D.vS=.slice ax k cap)∧(∃ax k cap,D.vE=.slice ax k cap)∧(∃ax k cap,D.vC=.slice ax k cap):=by
 have hA:At L0 w0 [rowR D.vS D.L,poolP D.PL,poolE D.QE,poolC D.QC] w:=hA;obtain⟨RE,hRE⟩:=outE hD.le;obtain⟨RC,hRC⟩:=outC hD.lc;have h1:=(hA.pick (K:=[poolE D.QE]) pR).to (hRE []);have h2:=(hA.pick (K:=[poolC D.QC]) pR).to (hRC []);exact⟨ZaL hA .here,ZaL h1 .here,ZaL h2 .here⟩
theorem ZoF {w:World} {first:Int} {vS vC:Value} {QE:PE} {es':List Ent} {f:FuncId} {args:Array Value} (h:Calls Tryz.prog f args w (ZoJ w first vS vC QE es')):Calls Tryz.prog f args w fun e w'=>∃u,e=.returned u∧∃(dx2:Option Addr) (dn2 dc2:Nat) (QE2:PE),u=.agg #[vS,.int .u64 first,.slice dx2 dn2 dc2,vC]∧(.slice dx2 dn2 dc2,es') ∈ QE2∧(∀q ∈ QE,q ∈ QE2)∧At [poolE QE] w [poolE QE2] w':=by
 refine h.mono ?_;rintro e w1 ⟨vE',QE',rfl,hm,hs,hT⟩;obtain⟨R,hR⟩:=outE hm;obtain⟨ax,k,cap,rfl⟩:=ZaL (hT.to (hR [])) .here;exact⟨_,rfl,ax,k,cap,QE',rfl,hm,hs,hT⟩
def OneP (w:World) (v:Value) (L:List SR) (code:Int) (L':List SR) (e:Ending) (w':World):Prop:=
 ∃v',e=.returned (.tuple #[.agg #[v'],.int .i64 code])∧At [rowR v L] w [rowR v' L'] w'
theorem ZfY {w:World} {v:Value} {L:List SR} {s':SR} {err:Int} {f:FuncId} {args:Array Value} (h:Calls Tryz.prog f args w (Lease.Zbd w v L s' err)):Calls Tryz.prog f args w (OneP w v L err (if err=0 then Lease.putR L s' else L)):=by
 refine h.mono ?_;rintro e w1 (⟨q,he,hT⟩|⟨q,v',he,hT⟩)
 · exact⟨v,he,by rw[if_neg q];exact hT⟩
 exact⟨v',by rw[q];exact he,by rw[if_pos q];exact hT⟩
theorem Znj {w:World} {v:Value} {L:List SR} {s:SR} {ttl time:Int} {f:FuncId} {args:Array Value} (h:Calls Tryz.prog f args w (Lease.Zb4 w v L s ttl time)):Calls Tryz.prog f args w (OneP w v L (Lease.Za5 s (Lease.cntR L s.foot)) (if Lease.Za5 s (Lease.cntR L s.foot)=0 then Lease.putR L (s.opened ttl time) else L)):=by
 refine h.mono ?_;rintro e w1 (⟨q,he,hT⟩|⟨q,v',he,hT⟩)
 · exact⟨v,he,by rw[if_neg q];exact hT⟩
 exact⟨v',by rw[q];exact he,by rw[if_pos q];exact hT⟩
theorem Zjd {T:TS} {c:Cm} {L:List SR} {PL:List (Value × List AR)} (h:Lease.Inv T.S L PL) {g:Ses→Ses} {a':SR} {code:Int} (hr:code=0→Rel (updA g c.num c.foot T.S) (Lease.putR L a')) (ha:(a'.tv,a'.told) ∈ PL) (hf:a'.foot.size≤2000000):
 Lease.Inv (opT T c g code).S (if code=0 then Lease.putR L a' else L) PL:=by
 unfold opT;split
 · rename_i h0;exact h.put (hr h0) (fun q h=>h) ha hf
 exact h
theorem opT_L (T:TS) (c:Cm) (g:Ses→Ses) (e:Int):(opT T c g e).L=T.L:=by unfold opT;split<;>rfl
theorem ZoE (T:TS) (c:Cm) (e:Int):(endT T c e).S=(opT T c Ses.ended e).S:=by unfold endT opT;split<;>rfl
theorem Zgt (T:TS) (c:Cm) (e:Int):(endT T c e).L.es=(if e=0 then T.L.es.filter (fun x=> !x.of c.num c.foot) else T.L.es)∧(endT T c e).L.cs=T.L.cs∧(endT T c e).L.first=T.L.first:=by
 unfold endT;split<;>exact⟨rfl,rfl,rfl⟩
theorem ZeB {T:TS} {m:Nat} (h:SInv T.S m) {L:List SR} (hR:Rel T.S L):L.length≤m:=by rw[←hR.len];exact h.len
theorem Zpv {w:World} {D:DS} {T:TS} (h:Sep D.parts w) (hD:DIn T D) (kind num:Int) (foot:ByteArray) (req:Int) (path:ByteArray) (mode n time:Int) {k:Nat} (hI:TInv T k) (hk:k≤100000) (hf:foot.size≤1000) (hp:path.size≤1000) (hn:kind=1→0≤n∧n≤1048576):
 Calls Tryz.prog 30 #[D.val T.L.first,.agg #[.int .i64 kind,.int .u64 num,.string foot,.int .u64 req,.string path,.int .i64 mode,.int .u64 n,.int .i64 time]] w (DPost T.L.first w D (doT T ⟨kind,num,foot,req,path,mode,n,time⟩).1 (arA req (doT T ⟨kind,num,foot,req,path,mode,n,time⟩).2)):=by
 have hm:Tryz.prog.follows .mixedOrders=true:=by kernel_rfl
 obtain⟨⟨sx,sn,sc,h1⟩,⟨ex,en,ec,h2⟩,⟨cx,cn,cc,h3⟩⟩:=Zb2 (At.start h) hD;obtain⟨vS,L,PL,vE,QE,vC,QC⟩:=D;simp only at h1 h2 h3;subst h1 h2 h3;have hA:At [rowR (.slice sx sn sc) L,poolP PL,poolE QE,poolC QC] w [rowR (.slice sx sn sc) L,poolP PL,poolE QE,poolC QC] w:=At.start h;clear h;have hrs:=ZcC hD.lease.rel (n:=num) (f:=foot);have hmem:=hD.lease.found num foot;have hkey:=Lease.ZeN (L:=L) (n:=num) (f:=foot);have hlen:L.length≤1000000:=Nat.le_trans (ZeB hI.s hD.lease.rel) (by omega);have hE1:=ZkZ hD.lease.rel (n:=num) (f:=foot);have hop:=rel_op hD.lease.rel (n:=num) (f:=foot)
 obtain⟨first,hfi⟩:∃z,T.L.first=z:=⟨_,rfl⟩
 have ho1:kind=1→doT T ⟨kind,num,foot,req,path,mode,n,time⟩=(opT T ⟨kind,num,foot,req,path,mode,n,time⟩ (fun s=>s.opened n time) (Lease.Za5 (findR L num foot) (Lease.cntR L foot)),ansE (Lease.Za5 (findR L num foot) (Lease.cntR L foot)))∧DIn (opT T ⟨kind,num,foot,req,path,mode,n,time⟩ (fun s=>s.opened n time) (Lease.Za5 (findR L num foot) (Lease.cntR L foot))) ⟨.slice sx sn sc,(if Lease.Za5 (findR L num foot) (Lease.cntR L foot)=0 then Lease.putR L ((findR L num foot).opened n time) else L),PL,.slice ex en ec,QE,.slice cx cn cc,QC⟩:=fun e=>by
  refine⟨?_,Zjd hD.lease (fun q=>Zm5 hD.lease.rel n time (hE1.trans q)) hmem (by show(findR L num foot).foot.size≤2000000;rw[hkey.2];omega),by rw[opT_L];exact hD.le,by rw[opT_L];exact hD.lc⟩;unfold doT;rw[if_pos e];simp only[hE1]
 have hR2:∀code,code=0→Rel (updA Ses.ended num foot T.S) (Lease.putR L (findR L num foot).ended):=fun _ _=>ZhY hD.lease.rel
 have ho2:kind=2→doT T ⟨kind,num,foot,req,path,mode,n,time⟩=(endT T ⟨kind,num,foot,req,path,mode,n,time⟩ (if(findR L num foot).op=true then(0:Int) else 50),ansE (if(findR L num foot).op=true then(0:Int) else 50)):=fun e=>by
  unfold doT;rw[if_neg (by show ¬kind=1;omega),if_pos e];simp only[hop]
 have hi2:Lease.Inv (endT T ⟨kind,num,foot,req,path,mode,n,time⟩ (if(findR L num foot).op=true then(0:Int) else 50)).S (if(if(findR L num foot).op=true then(0:Int) else 50)=0 then Lease.putR L (findR L num foot).ended else L) PL:=by
  rw[ZoE];exact Zjd hD.lease (fun _=>ZhY hD.lease.rel) hmem (by show(findR L num foot).foot.size≤2000000;rw[hkey.2];omega)
 have ho3:kind=3→doT T ⟨kind,num,foot,req,path,mode,n,time⟩=(opT T ⟨kind,num,foot,req,path,mode,n,time⟩ (fun s=>s.kept time) (if(findR L num foot).op=true then(0:Int) else 50),ansE (if(findR L num foot).op=true then(0:Int) else 50))∧DIn (opT T ⟨kind,num,foot,req,path,mode,n,time⟩ (fun s=>s.kept time) (if(findR L num foot).op=true then(0:Int) else 50)) ⟨.slice sx sn sc,(if(if(findR L num foot).op=true then(0:Int) else 50)=0 then Lease.putR L ((findR L num foot).kept time) else L),PL,.slice ex en ec,QE,.slice cx cn cc,QC⟩:=fun e=>by
  refine⟨?_,Zjd hD.lease (fun _=>Zm6 hD.lease.rel time) hmem (by show(findR L num foot).foot.size≤2000000;rw[hkey.2];omega),by rw[opT_L];exact hD.le,by rw[opT_L];exact hD.lc⟩;unfold doT;rw[if_neg (by show ¬kind=1;omega),if_neg (by show ¬kind=2;omega),if_pos e];simp only[hop]
 have ho4:kind≠1→kind≠2→kind≠3→doT T ⟨kind,num,foot,req,path,mode,n,time⟩=Za4 T ⟨kind,num,foot,req,path,mode,n,time⟩:=fun e1 e2 e3=>by
  unfold doT;rw[if_neg e1,if_neg e2,if_neg e3]
 have hmay:mayT T ⟨kind,num,foot,req,path,mode,n,time⟩=if(findR L num foot).op=false then 50 else if Zan (bl foot) (bl path)=false then 55 else 0:=by
  unfold mayT;simp only[hop]
 have hdoc:=fun(q:mayT T ⟨kind,num,foot,req,path,mode,n,time⟩=0)=>Zpu hI.lock q;have hlk:=fun(w1:World) (q:Sep [poolE QE,poolC QC] w1)=>ZjX q hD.le hD.lc (.slice sx sn sc) ⟨_,_,_,rfl⟩ kind num foot req path mode n time hp hI.lock (by omega);have hdr:=fun(code:Int) (vS2:Value) (hv2:∃ax k cap,vS2=.slice ax k cap) (w1:World) (q:Sep [poolE QE] w1)=>ZeP q hD.le first vS2 (.slice cx cn cc) hv2 ⟨_,_,_,rfl⟩ kind num foot req path mode n time code (Nat.le_trans hI.lock.len (by omega))
 have hes:=Zgt T ⟨kind,num,foot,req,path,mode,n,time⟩ (if(findR L num foot).op=true then(0:Int) else 50);rw[hfi] at hlk ⊢
 obtain⟨s,hs⟩:∃z,findR L num foot=z:=⟨_,rfl⟩
 rw[hs] at hrs hmem hkey ho1 ho2 hi2 ho3 hmay hes;have htb:=hrs.tb;have hsf:=hkey.2;have hs':=Hd hs;have ho1':=Hd ho1;have ho2':=Hd ho2;have ho3':=Hd ho3;have ho4':=Hd ho4;have hi2':=Hd hi2;have hmay':=Hd hmay;have hdoc':=Hd hdoc;have hlk':=Hd hlk;have hdr':=Hd hdr;have hes':=Hd hes;have hD':=Hd hD;have hsf':=Hd hsf;have htb':=Hd htb;clear hs hrs hmem hkey ho1 ho2 ho3 ho4 hi2 hmay hdoc hlk hdr hes hD hsf htb hR2 hE1 hop hfi hI;obtain⟨hA,hF⟩:=fZ hA;by_cases k1:kind=1
 · subst k1;have hn1:=hn rfl;have hcv:IntKind.i64.wrap n=n:=by rw[IntKind.wrap_i64]<;>omega
   obtain⟨hd,hin⟩:=ho1'.out rfl
   obtain⟨co,hco⟩:∃z,Lease.Za5 s (Lease.cntR L foot)=z:=⟨_,rfl⟩
   have hz:=fun(w1:World) (q:Sep [rowR (.slice sx sn sc) L] w1)=>(hsf'.out ▸ Znj (Lease.Zld q s n time hlen):Calls _ _ _ _ (OneP w1 (.slice sx sn sc) L (Lease.Za5 s (Lease.cntR L foot)) (if Lease.Za5 s (Lease.cntR L foot)=0 then Lease.putR L (s.opened n time) else L)))
   simp only[hco] at hz hin hd
   obtain⟨L2,hL2⟩:∃z,(if co=0 then Lease.putR L (s.opened n time) else L)=z:=⟨_,rfl⟩
   simp only[hL2] at hz hin;have hz':=Hd hz;have hin':=Hd hin;have hd':=Hd hd;clear hz hin hd hco hL2 ho1' ho2' ho3' ho4' hi2' hdr' hes' hlk' hdoc' hmay';go_enter Tryz.func30,Tryz.ntmps30
   go_wp2_with (first|(((with_reducible refine gbxD 2 ?_);refine wHz 36 [.slice sx sn sc,.int .u64 first,.slice ex en ec,.slice cx cn cc] hA ?_;clear hF hA;intro bX w1 hA hbX hF))|(((with_reducible refine gbxD 3 ?_);refine wHz 48 [.int .i64 1,.int .u64 num,.string foot,.int .u64 req,.string path,.int .i64 mode,.int .u64 n,.int .i64 time] hA ?_;clear hF hA;intro bC w1 hA hbC hF))|(((with_reducible refine galD 4 ?_);refine g3 hA ?_;clear hF hA;intro bT w1 hA hbT hF))|(((with_reducible refine galD 5 ?_);refine g0 hA ?_;clear hF hA;intro bR w1 hA hbR hF)))
   refine(Lease.findR_any (hA.sep1 (A:=rowR (.slice sx sn sc) L) sR) num foot hlen).mono ?_;rw[hs'.out];rintro e w1 ⟨rfl,hT⟩;replace hA:=hA.call1 (A:=rowR (.slice sx sn sc) L) sR hT;clear hT hF;obtain⟨hA,hF⟩:=fZ hA
   go_wp2_with (first|(((with_reducible refine galD 6 ?_);refine g10 hA ?_;clear hF hA;intro bS w1 hA hbS hF))|(((with_reducible refine galD 7 ?_);refine g0 hA ?_;clear hF hA;intro bA w1 hA hbA hF))|(refine Zam (b:=bS) (j:=0) (vs:=SR.cells s) rfl rfl rfl (by(try simp only[Act.eval,eV])<;>exact rfl) (by exact rfl) hA sR (by kernel_rfl) (Lease.SR.ones _) (by show 0 + 7≤7;omega) ?_;intro w1 hB;replace hA:=hB;clear hF hB;simp only[SR.cells,SR.tv] at hA;obtain⟨hA,hF⟩:=fZ hA)|((with_reducible refine gst ?_);refine wTz hA ?_;clear hF hA;intro w1 hA hF))
   refine(hz'.out _ (hA.sep1 (A:=rowR (.slice sx sn sc) L) sR)).mono ?_;clear hz';rintro e w1 ⟨v',rfl,hT⟩;have hB:=hA.call1 (A:=rowR (.slice sx sn sc) L) sR hT;obtain⟨dx,dn,dc,rfl⟩:=ZaL hB .here;clear hT;replace hA:=hB;clear hF hB;obtain⟨hA,hF⟩:=fZ hA
   go_wp2_with ((with_reducible refine gst ?_);refine wTz hA ?_;clear hF hA;intro w1 hA hF)
   (try go_frame);refine csZ 2 36 bT 0 [.slice dx dn dc,.int .u64 first,.slice ex en ec,.slice cx cn cc] hA ?_;intro w1 hB;replace hA:=hB;clear hF hB;(simp only[List.drop_succ_cons,List.drop_zero]);obtain⟨hA,hF⟩:=fZ hA;(try go_frame)
   go_wp2_with ((with_reducible refine gst ?_);refine wTz hA ?_;clear hF hA;intro w1 hA hF)
   refine bodyPost_ret (v:=.tuple #[.agg #[.slice dx dn dc,.int .u64 first,.slice ex en ec,.slice cx cn cc],.agg #[.int .u64 req,.int .i64 co,.int .u64 0,.bool false]]) (by simp[results,Tryz.results30,go_sem,hF]) rfl ?_;rw[hd'.out];exact⟨⟨.slice dx dn dc,L2,PL,.slice ex en ec,QE,.slice cx cn cc,QC⟩,rfl,⟨hin'.out.lease,hin'.out.le,hin'.out.lc⟩,fun q h=>h,(show At [rowR _ _,poolP _,poolE _,poolC _] _ [rowR _ _,poolP _,poolE _,poolC _] _ from hA.pick pR)⟩
 by_cases x2:kind=2
 · subst x2;have hd:=ho2'.out rfl
   obtain⟨co,hco⟩:∃z,(if s.op=true then(0:Int) else 50)=z:=⟨_,rfl⟩
   have hz:=fun(w1:World) (q:Sep [rowR (.slice sx sn sc) L] w1)=>ZfY (Lease.Zgu q s hlen);have hin:=hi2'.out;have hes:=hes'.out;simp only[hco] at hz hin hd hes
   obtain⟨L2,hL2⟩:∃z,(if co=0 then Lease.putR L s.ended else L)=z:=⟨_,rfl⟩
   simp only[hL2] at hz hin;have hdz:=fun(dx:Option Addr) (dn dc:Nat) (w1:World) (q:Sep [poolE QE] w1)=>ZoF (hdr'.out co (.slice dx dn dc) ⟨_,_,_,rfl⟩ w1 q);have hz':=Hd hz;have hin':=Hd hin;have hd':=Hd hd;have he2':=Hd hes;have hdz0:=Hd hdz;clear hz hin hd hco hL2 hes hdz ho1' ho2' ho3' ho4' hi2' hdr' hes' hlk' hdoc' hmay';go_enter Tryz.func30,Tryz.ntmps30
   go_wp2_with (first|(((with_reducible refine gbxD 2 ?_);refine wHz 36 [.slice sx sn sc,.int .u64 first,.slice ex en ec,.slice cx cn cc] hA ?_;clear hF hA;intro bX w1 hA hbX hF))|(((with_reducible refine gbxD 3 ?_);refine wHz 48 [.int .i64 2,.int .u64 num,.string foot,.int .u64 req,.string path,.int .i64 mode,.int .u64 n,.int .i64 time] hA ?_;clear hF hA;intro bC w1 hA hbC hF))|(((with_reducible refine galD 4 ?_);refine g3 hA ?_;clear hF hA;intro bT w1 hA hbT hF))|(((with_reducible refine galD 5 ?_);refine g0 hA ?_;clear hF hA;intro bR w1 hA hbR hF)))
   refine(Lease.findR_any (hA.sep1 (A:=rowR (.slice sx sn sc) L) sR) num foot hlen).mono ?_;rw[hs'.out];rintro e w1 ⟨rfl,hT⟩;replace hA:=hA.call1 (A:=rowR (.slice sx sn sc) L) sR hT;clear hT hF;obtain⟨hA,hF⟩:=fZ hA
   go_wp2_with (first|(((with_reducible refine galD 6 ?_);refine g10 hA ?_;clear hF hA;intro bS w1 hA hbS hF))|(((with_reducible refine galD 7 ?_);refine g0 hA ?_;clear hF hA;intro bA w1 hA hbA hF))|(refine Zam (b:=bS) (j:=0) (vs:=SR.cells s) rfl rfl rfl (by(try simp only[Act.eval,eV])<;>exact rfl) (by exact rfl) hA sR (by kernel_rfl) (Lease.SR.ones _) (by show 0 + 7≤7;omega) ?_;intro w1 hB;replace hA:=hB;clear hF hB;simp only[SR.cells,SR.tv] at hA;obtain⟨hA,hF⟩:=fZ hA)|((with_reducible refine gst ?_);refine wTz hA ?_;clear hF hA;intro w1 hA hF))
   refine(hz'.out _ (hA.sep1 (A:=rowR (.slice sx sn sc) L) sR)).mono ?_;clear hz';rintro e w1 ⟨v',rfl,hT⟩;have hB:=hA.call1 (A:=rowR (.slice sx sn sc) L) sR hT;obtain⟨dx,dn,dc,rfl⟩:=ZaL hB .here;clear hT;replace hA:=hB;clear hF hB;obtain⟨hA,hF⟩:=fZ hA
   go_upto_region 8 with((with_reducible refine gst ?_);refine wTz hA ?_;clear hF hA;intro w1 hA hF)
   (try go_frame);have hdz':=Hd (hdz0.out dx dn dc);replace hA:=hA.drew;clear hF;refine wp_region_held (S:=fun w'=>Zaa w' bX [.slice dx dn dc,.int .u64 first,.slice ex en ec,.slice cx cn cc] 36∧Zaa w' bC (k8 2 num foot req path mode n time) 48∧Zaa w' bA [.int .u64 req,.int .i64 co,.int .u64 0,.bool false] 44) hm ?_;change wpAnyH _ _ _ _ _ 8 _ _ (World.drew _);generalize World.drew _=wd at *
   have hS0:=(⟨hA.get (A:=Part.cells bX [.slice dx dn dc,.int .u64 first,.slice ex en ec,.slice cx cn cc] 36) sZ,hA.get (A:=Part.cells bC (k8 2 num foot req path mode n time) 48) sZ,hA.get (A:=Part.cells bA [.int .u64 req,.int .i64 co,.int .u64 0,.bool false] 44) sZ⟩:(fun w'=>Zaa w' bX [.slice dx dn dc,.int .u64 first,.slice ex en ec,.slice cx cn cc] 36∧Zaa w' bC (k8 2 num foot req path mode n time) 48∧Zaa w' bA [.int .u64 req,.int .i64 co,.int .u64 0,.bool false] 44) wd)
   refine tZ 0 49 (.agg #[.slice dx dn dc,.int .u64 first,.slice ex en ec,.slice cx cn cc]) (r:=(fun w' hS=>Zag (ty:=36) (n:=4) (b:=bX) (j:=0) rfl (by exact rfl) hS.1 (by kernel_rfl) (by kernel_rfl) rfl rfl)) (s:=hS0) (h:= ?_);(try go_frame);refine tZ 1 50 (.agg #[.int .i64 2,.int .u64 num,.string foot,.int .u64 req,.string path,.int .i64 mode,.int .u64 n,.int .i64 time]) (r:=(fun w' hS=>Zag (ty:=48) (n:=8) (b:=bC) (j:=0) rfl (by exact rfl) hS.2.1 (by kernel_rfl) (by kernel_rfl) rfl rfl)) (s:=hS0) (h:= ?_);(try go_frame);refine tP 2 51 (.pointer (some ⟨bA,1,none⟩)) (s:=hS0) (h:= ?_);(try go_frame);refine tZ 3 52 (.int .i64 co) (r:=(fun w' hS=>Zac (ty:=3) (b:=bA) (j:=1) rfl (by exact rfl) hS.2.2 (by kernel_rfl) rfl)) (s:=hS0) (h:= ?_);(try go_frame);refine tZ 5 54 (.agg #[.int .u64 req,.int .i64 co,.int .u64 0,.bool false]) (r:=(fun w' hS=>Zag (ty:=44) (n:=4) (b:=bA) (j:=0) rfl (by exact rfl) hS.2.2 (by kernel_rfl) (by kernel_rfl) rfl rfl)) (s:=hS0) (h:= ?_);(try go_frame);refine Zab (i:=4) (by kernel_rfl) ?_;refine cY 4 53 28 (fun u w'=>∃(dx2:Option Addr) (dn2 dc2:Nat) (QE2:PE),u=.agg #[.slice dx dn dc,.int .u64 first,.slice dx2 dn2 dc2,.slice cx cn cc]∧(.slice dx2 dn2 dc2,(if co=0 then T.L.es.filter (fun x=> !x.of num foot) else T.L.es)) ∈ QE2∧(∀q ∈ QE,q ∈ QE2)∧At [poolE QE] _ [poolE QE2] w') (hdz'.out _ (hA.sep1 (A:=poolE QE) sZ)) ?_;rintro u w3 ⟨dx2,dn2,dc2,QE2,rfl,hm2,hs2,hT⟩;have hm2':=Hd hm2;have hs2':=Hd hs2;have hB:=hA.call1 (A:=poolE QE) sZ hT;clear hT hm2 hs2;simp only[uA] at hB;refine andH ⟨hB.ci,hB.ci,hB.ci⟩ fun hS0=> ?_;replace hA:=hB;clear hB;(try go_frame);refine Zab (i:=6) (by kernel_rfl) ?_;refine stZ 6 bT 0 [.slice dx dn dc,.int .u64 first,.slice dx2 dn2 dc2,.slice cx cn cc] hA ?_;intro w3 hB;simp only[uA] at hB;refine andH ⟨hB.ci,hB.ci,hB.ci⟩ fun hS0=> ?_;replace hA:=hB;clear hB;(try go_frame);refine Zab (i:=7) (by kernel_rfl) ?_;refine stZ 7 bR 0 [.int .u64 req,.int .i64 co,.int .u64 0,.bool false] hA ?_;intro w3 hB;simp only[uA] at hB;refine andH ⟨hB.ci,hB.ci,hB.ci⟩ fun hS0=> ?_;replace hA:=hB;clear hB;(try go_frame);refine wpAnyH_done (by kernel_rfl) ?_ _;(try go_frame);clear hS0;obtain⟨hA,hF⟩:=fZ hA;go_wp2_with fail;refine bodyPost_ret (v:=.tuple #[.agg #[.slice dx dn dc,.int .u64 first,.slice dx2 dn2 dc2,.slice cx cn cc],.agg #[.int .u64 req,.int .i64 co,.int .u64 0,.bool false]]) (by simp[results,Tryz.results30,go_sem,hF]) rfl ?_;rw[hd'.out];exact⟨⟨.slice dx dn dc,L2,PL,.slice dx2 dn2 dc2,QE2,.slice cx cn cc,QC⟩,rfl,⟨hin'.out,by rw[he2'.out.1];exact hm2'.out,by rw[he2'.out.2.1];exact hD'.out.lc⟩,hs2'.out,(show At [rowR _ _,poolP _,poolE _,poolC _] _ [rowR _ _,poolP _,poolE _,poolC _] _ from hA.pick pR)⟩
 by_cases k3:kind=3
 · subst k3;obtain⟨hd,hin⟩:=ho3'.out rfl
   obtain⟨co,hco⟩:∃z,(if s.op=true then(0:Int) else 50)=z:=⟨_,rfl⟩
   have hz:=fun(w1:World) (q:Sep [rowR (.slice sx sn sc) L] w1)=>ZfY (Lease.Zlq q s time htb'.out.1 htb'.out.2 hlen);simp only[hco] at hz hin hd
   obtain⟨L2,hL2⟩:∃z,(if co=0 then Lease.putR L (s.kept time) else L)=z:=⟨_,rfl⟩
   simp only[hL2] at hz hin;have hz':=Hd hz;have hin':=Hd hin;have hd':=Hd hd;clear hz hin hd hco hL2 ho1' ho2' ho3' ho4' hi2' hdr' hes' hlk' hdoc' hmay';go_enter Tryz.func30,Tryz.ntmps30
   go_wp2_with (first|(((with_reducible refine gbxD 2 ?_);refine wHz 36 [.slice sx sn sc,.int .u64 first,.slice ex en ec,.slice cx cn cc] hA ?_;clear hF hA;intro bX w1 hA hbX hF))|(((with_reducible refine gbxD 3 ?_);refine wHz 48 [.int .i64 3,.int .u64 num,.string foot,.int .u64 req,.string path,.int .i64 mode,.int .u64 n,.int .i64 time] hA ?_;clear hF hA;intro bC w1 hA hbC hF))|(((with_reducible refine galD 4 ?_);refine g3 hA ?_;clear hF hA;intro bT w1 hA hbT hF))|(((with_reducible refine galD 5 ?_);refine g0 hA ?_;clear hF hA;intro bR w1 hA hbR hF)))
   refine(Lease.findR_any (hA.sep1 (A:=rowR (.slice sx sn sc) L) sR) num foot hlen).mono ?_;rw[hs'.out];rintro e w1 ⟨rfl,hT⟩;replace hA:=hA.call1 (A:=rowR (.slice sx sn sc) L) sR hT;clear hT hF;obtain⟨hA,hF⟩:=fZ hA
   go_wp2_with (first|(((with_reducible refine galD 6 ?_);refine g10 hA ?_;clear hF hA;intro bS w1 hA hbS hF))|(((with_reducible refine galD 7 ?_);refine g0 hA ?_;clear hF hA;intro bA w1 hA hbA hF))|(refine Zam (b:=bS) (j:=0) (vs:=SR.cells s) rfl rfl rfl (by(try simp only[Act.eval,eV])<;>exact rfl) (by exact rfl) hA sR (by kernel_rfl) (Lease.SR.ones _) (by show 0 + 7≤7;omega) ?_;intro w1 hB;replace hA:=hB;clear hF hB;simp only[SR.cells,SR.tv] at hA;obtain⟨hA,hF⟩:=fZ hA)|((with_reducible refine gst ?_);refine wTz hA ?_;clear hF hA;intro w1 hA hF))
   refine(hz'.out _ (hA.sep1 (A:=rowR (.slice sx sn sc) L) sR)).mono ?_;clear hz';rintro e w1 ⟨v',rfl,hT⟩;have hB:=hA.call1 (A:=rowR (.slice sx sn sc) L) sR hT;obtain⟨dx,dn,dc,rfl⟩:=ZaL hB .here;clear hT;replace hA:=hB;clear hF hB;obtain⟨hA,hF⟩:=fZ hA
   go_wp2_with ((with_reducible refine gst ?_);refine wTz hA ?_;clear hF hA;intro w1 hA hF)
   (try go_frame);refine csZ 2 36 bT 0 [.slice dx dn dc,.int .u64 first,.slice ex en ec,.slice cx cn cc] hA ?_;intro w1 hB;replace hA:=hB;clear hF hB;(simp only[List.drop_succ_cons,List.drop_zero]);obtain⟨hA,hF⟩:=fZ hA;(try go_frame)
   go_wp2_with ((with_reducible refine gst ?_);refine wTz hA ?_;clear hF hA;intro w1 hA hF)
   refine bodyPost_ret (v:=.tuple #[.agg #[.slice dx dn dc,.int .u64 first,.slice ex en ec,.slice cx cn cc],.agg #[.int .u64 req,.int .i64 co,.int .u64 0,.bool false]]) (by simp[results,Tryz.results30,go_sem,hF]) rfl ?_;rw[hd'.out];exact⟨⟨.slice dx dn dc,L2,PL,.slice ex en ec,QE,.slice cx cn cc,QC⟩,rfl,⟨hin'.out.lease,hin'.out.le,hin'.out.lc⟩,fun q h=>h,(show At [rowR _ _,poolP _,poolE _,poolC _] _ [rowR _ _,poolP _,poolE _,poolC _] _ from hA.pick pR)⟩
 have hd0:=ho4'.out k1 x2 k3;have hd0':=Hd hd0;have k1':(kind==1)=false:=by simpa using k1
 have x2':(kind==2)=false:=by simpa using x2
 have k3':(kind==3)=false:=by simpa using k3
 clear hd0 k1 x2 k3 ho1' ho2' ho3' ho4' hi2' hdr' hes';have hpre:s.op=false∨s.op=true:=by cases s.op<;>simp
 rcases hpre with hop|hop
 · have hma:mayT T ⟨kind,num,foot,req,path,mode,n,time⟩=50:=by rw[hmay'.out,hop];rfl
   have hd:Za4 T ⟨kind,num,foot,req,path,mode,n,time⟩=(T,ansE 50):=by unfold Za4;rw[if_pos (by rw[hma];decide),hma]
   have hd':=Hd hd;clear hma hd hmay';go_enter Tryz.func30,Tryz.ntmps30
   go_wp2_with (first|(((with_reducible refine gbxD 2 ?_);refine wHz 36 [.slice sx sn sc,.int .u64 first,.slice ex en ec,.slice cx cn cc] hA ?_;clear hF hA;intro bX w1 hA hbX hF))|(((with_reducible refine gbxD 3 ?_);refine wHz 48 [.int .i64 kind,.int .u64 num,.string foot,.int .u64 req,.string path,.int .i64 mode,.int .u64 n,.int .i64 time] hA ?_;clear hF hA;intro bC w1 hA hbC hF))|(((with_reducible refine galD 4 ?_);refine g3 hA ?_;clear hF hA;intro bT w1 hA hbT hF))|(((with_reducible refine galD 5 ?_);refine g0 hA ?_;clear hF hA;intro bR w1 hA hbR hF)))
   refine(Lease.findR_any (hA.sep1 (A:=rowR (.slice sx sn sc) L) sR) num foot hlen).mono ?_;rw[hs'.out];rintro e w1 ⟨rfl,hT⟩;replace hA:=hA.call1 (A:=rowR (.slice sx sn sc) L) sR hT;clear hT hF;obtain⟨hA,hF⟩:=fZ hA
   go_wp2_with (first|(((with_reducible refine galD 6 ?_);refine g10 hA ?_;clear hF hA;intro bS w1 hA hbS hF))|(((with_reducible refine galD 7 ?_);refine g0 hA ?_;clear hF hA;intro bA w1 hA hbA hF))|(refine Zam (b:=bS) (j:=0) (vs:=SR.cells s) rfl rfl rfl (by(try simp only[Act.eval,eV])<;>exact rfl) (by exact rfl) hA sR (by kernel_rfl) (Lease.SR.ones _) (by show 0 + 7≤7;omega) ?_;intro w1 hB;replace hA:=hB;clear hF hB;simp only[SR.cells,SR.tv] at hA;obtain⟨hA,hF⟩:=fZ hA)|((with_reducible refine gst ?_);refine wTz hA ?_;clear hF hA;intro w1 hA hF))
   (try go_frame);refine csZ 2 36 bT 0 [.slice sx sn sc,.int .u64 first,.slice ex en ec,.slice cx cn cc] hA ?_;intro w1 hB;replace hA:=hB;clear hF hB;(simp only[List.drop_succ_cons,List.drop_zero]);obtain⟨hA,hF⟩:=fZ hA;(try go_frame)
   go_wp2_with ((with_reducible refine gst ?_);refine wTz hA ?_;clear hF hA;intro w1 hA hF)
   refine bodyPost_ret (v:=.tuple #[.agg #[.slice sx sn sc,.int .u64 first,.slice ex en ec,.slice cx cn cc],.agg #[.int .u64 req,.int .i64 50,.int .u64 0,.bool false]]) (by simp[results,Tryz.results30,go_sem,hF]) rfl ?_;rw[hd0'.out,hd'.out];exact⟨⟨.slice sx sn sc,L,PL,.slice ex en ec,QE,.slice cx cn cc,QC⟩,rfl,hD'.out,fun q h=>h,(show At [rowR _ _,poolP _,poolE _,poolC _] _ [rowR _ _,poolP _,poolE _,poolC _] _ from hA.pick pR)⟩
 obtain⟨ab,hab⟩:∃z,Zan (bl foot) (bl path)=z:=⟨_,rfl⟩
 have hav:=fun w=>Path.ZdD foot path w (by omega) (by omega);rw[hab] at hav;have hma:=hmay'.out;rw[hop,hab,if_neg (by decide)] at hma;have hma':=Hd hma;clear hma hab hmay';go_enter Tryz.func30,Tryz.ntmps30
 go_wp2_with (first|(((with_reducible refine gbxD 2 ?_);refine wHz 36 [.slice sx sn sc,.int .u64 first,.slice ex en ec,.slice cx cn cc] hA ?_;clear hF hA;intro bX w1 hA hbX hF))|(((with_reducible refine gbxD 3 ?_);refine wHz 48 [.int .i64 kind,.int .u64 num,.string foot,.int .u64 req,.string path,.int .i64 mode,.int .u64 n,.int .i64 time] hA ?_;clear hF hA;intro bC w1 hA hbC hF))|(((with_reducible refine galD 4 ?_);refine g3 hA ?_;clear hF hA;intro bT w1 hA hbT hF))|(((with_reducible refine galD 5 ?_);refine g0 hA ?_;clear hF hA;intro bR w1 hA hbR hF)))
 refine(Lease.findR_any (hA.sep1 (A:=rowR (.slice sx sn sc) L) sR) num foot hlen).mono ?_;rw[hs'.out];rintro e w1 ⟨rfl,hT⟩;replace hA:=hA.call1 (A:=rowR (.slice sx sn sc) L) sR hT;clear hT hF;obtain⟨hA,hF⟩:=fZ hA
 go_wp2_with (first|(((with_reducible refine galD 6 ?_);refine g10 hA ?_;clear hF hA;intro bS w1 hA hbS hF))|(((with_reducible refine galD 7 ?_);refine g0 hA ?_;clear hF hA;intro bA w1 hA hbA hF))|(refine Zam (b:=bS) (j:=0) (vs:=SR.cells s) rfl rfl rfl (by(try simp only[Act.eval,eV])<;>exact rfl) (by exact rfl) hA sR (by kernel_rfl) (Lease.SR.ones _) (by show 0 + 7≤7;omega) ?_;intro w1 hB;replace hA:=hB;clear hF hB;simp only[SR.cells,SR.tv] at hA;obtain⟨hA,hF⟩:=fZ hA)|((with_reducible refine gst ?_);refine wTz hA ?_;clear hF hA;intro w1 hA hF))
 refine(hav _).mono ?_;clear hav;rintro e w1 ⟨rfl,hx⟩;replace hA:=hA.ext hx;clear hx hF;obtain⟨hA,hF⟩:=fZ hA;cases ab
 · have hd:Za4 T ⟨kind,num,foot,req,path,mode,n,time⟩=(T,ansE 55):=by
    unfold Za4;rw[if_pos (by rw[hma'.out];decide),hma'.out];rfl
   have hd':=Hd hd;clear hd hma'
   go_wp2_with ((with_reducible refine gst ?_);refine wTz hA ?_;clear hF hA;intro w1 hA hF)
   (try go_frame);refine csZ 2 36 bT 0 [.slice sx sn sc,.int .u64 first,.slice ex en ec,.slice cx cn cc] hA ?_;intro w1 hB;replace hA:=hB;clear hF hB;(simp only[List.drop_succ_cons,List.drop_zero]);obtain⟨hA,hF⟩:=fZ hA;(try go_frame)
   go_wp2_with ((with_reducible refine gst ?_);refine wTz hA ?_;clear hF hA;intro w1 hA hF)
   refine bodyPost_ret (v:=.tuple #[.agg #[.slice sx sn sc,.int .u64 first,.slice ex en ec,.slice cx cn cc],.agg #[.int .u64 req,.int .i64 55,.int .u64 0,.bool false]]) (by simp[results,Tryz.results30,go_sem,hF]) rfl ?_;rw[hd0'.out,hd'.out];exact⟨⟨.slice sx sn sc,L,PL,.slice ex en ec,QE,.slice cx cn cc,QC⟩,rfl,hD'.out,fun q h=>h,(show At [rowR _ _,poolP _,poolE _,poolC _] _ [rowR _ _,poolP _,poolE _,poolC _] _ from hA.pick pR)⟩
 have hma:mayT T ⟨kind,num,foot,req,path,mode,n,time⟩=0:=by rw[hma'.out];rfl
 have hd:=hdoc'.out hma;have hd':=Hd hd;clear hd hma hma' hdoc';go_wp2_with fail;refine(hlk'.out _ (hA.sep2 (A:=poolE QE) (B:=poolC QC) sR sR)).mono ?_;clear hlk';rintro e w1 ⟨vE',vC',QE',QC',rfl,m1,m2,m3,hT⟩;have hB:=hA.call2 (A:=poolE QE) (B:=poolC QC) sR sR hT;simp only[uA] at hB;obtain⟨⟨_,_,_,z1⟩,⟨dx,dn,dc,z2⟩,⟨gx,gn,gc,z3⟩⟩:=Zb2 (D:=⟨.slice sx sn sc,L,PL,vE',QE',vC',QC'⟩) (T:=⟨T.S,(docL T.L ⟨kind,num,foot,req,path,mode,n,time⟩).1⟩) (hB.pick (K:=[rowR (.slice sx sn sc) L,poolP PL,poolE QE',poolC QC']) pR) ⟨hD'.out.lease,m1,m2⟩;simp only at z2 z3;subst z2 z3
 obtain⟨⟨xr,xe,xn,xg⟩,hx⟩:∃z,arA req (docL T.L ⟨kind,num,foot,req,path,mode,n,time⟩).2=z:=⟨_,rfl⟩
 rw[hx];simp only[Lease.AR.cells];have hx':=Hd hx;have m1':=Hd m1;have m2':=Hd m2;have m3':=Hd m3;clear hT hx m1 m2 m3 z1;replace hA:=hB;clear hF hB;obtain⟨hA,hF⟩:=fZ hA
 go_wp2_with ((with_reducible refine gst ?_);refine wTz hA ?_;clear hF hA;intro w1 hA hF)
 refine bodyPost_ret (v:=.tuple #[.agg #[.slice sx sn sc,.int .u64 first,.slice dx dn dc,.slice gx gn gc],.agg #[.int .u64 xr,.int .i64 xe,.int .u64 xn,.bool xg]]) (by simp[results,Tryz.results30,go_sem,hF]) rfl ?_;rw[hd0'.out,hd'.out];refine⟨⟨.slice sx sn sc,L,PL,.slice dx dn dc,QE',.slice gx gn gc,QC'⟩,?_,⟨hD'.out.lease,m1'.out,m2'.out⟩,m3'.out,(show At [rowR _ _,poolP _,poolE _,poolC _] _ [rowR _ _,poolP _,poolE _,poolC _] _ from hA.pick pR)⟩;simp only[hx'.out];rfl
end Tab
end
section
namespace Lock
open Go.RowKit
open Go.Maps (Keyed)
open Path (bl Zaf overB)
attribute [-go_sem] run_eql_struct run_neq_struct run_eqGuard_agg
attribute [local go_sem] ZoA eqlS
structure Kept (es cur dn:List Ent) (D:Ent→Bool):Prop where
 sub:cur.Sublist es
 kept:∀x ∈ es,x ∈ cur∨(D x=true∧x ∈ dn)
 done:∀x ∈ cur,x ∈ dn→D x=false
 inn:∀x ∈ dn,x ∈ es
 nd:dn.Nodup
theorem Kept.len {es cur dn:List Ent} {D:Ent→Bool} (h:Kept es cur dn D):dn.length≤es.length:=h.nd.length_le_of_subset (fun x hx=>h.inn x hx)
theorem Zg5 {l1 l2:List Ent} {x:Ent} (h:(l1++x::l2).Nodup):x ∉ l1++l2:=(List.nodup_cons.1 (List.perm_middle.nodup h)).1
theorem Kept.next {es cur dn:List Ent} {D:Ent→Bool} (h:Kept es cur dn D) {x:Ent} (hx:x ∈ cur) (hn:x ∉ dn):(D x=false→Kept es cur (dn++[x]) D)∧
 (D x=true→∀l1 l2,cur=l1++x::l2→x ∉ l1++l2→Kept es (l1++l2) (dn++[x]) D):=by
 have hpw:(dn++[x]).Nodup:=List.nodup_append.2 ⟨h.nd,by simp,fun a ha c hc=>by rw[List.mem_singleton.1 hc];intro e;subst e;exact hn ha⟩
 have hdm:∀y ∈ dn++[x],y ∈ es:=fun y hy=>by
  rcases List.mem_append.1 hy with hy|hy
  · exact h.inn y hy
  rw[List.mem_singleton.1 hy];exact h.sub.subset hx
 constructor
 · intro hl;refine⟨h.sub,fun y hy=> ?_,fun y hy hz=> ?_,hdm,hpw⟩
   · rcases h.kept y hy with q|⟨q,r⟩
     · exact .inl q
     exact .inr ⟨q,by simp[r]⟩
   rcases List.mem_append.1 hz with hz|hz
   · exact h.done y hy hz
   rw[List.mem_singleton.1 hz];exact hl
 intro hl l1 l2 e hne;subst e;refine⟨(List.Sublist.append (List.Sublist.refl _) (List.sublist_cons_self _ _)).trans h.sub,fun y hy=> ?_,fun y hy hz=> ?_,hdm,hpw⟩
 · rcases h.kept y hy with q|⟨q,r⟩
   · by_cases hyx:y=x
     · subst hyx;exact .inr ⟨hl,by simp⟩
     left
     simp only[List.mem_append,List.mem_cons] at q ⊢;rcases q with q|q|q
     · exact .inl q
     · exact absurd q hyx
     exact .inr q
   exact .inr ⟨q,by simp[r]⟩
 rcases List.mem_append.1 hz with hz|hz
 · exact h.done y (by simp only[List.mem_append,List.mem_cons] at hy ⊢;rcases hy with hy|hy<;>simp[hy]) hz
 rw[List.mem_singleton.1 hz] at hy;exact absurd hy hne
theorem Kept.end {es cur dn:List Ent} {D:Ent→Bool} (h:Kept es cur dn D) (hnd:es.Nodup) (hall:∀x ∈ cur,x ∈ dn):cur=es.filter (fun x=> !D x):=by
 have hs:cur.Sublist (es.filter (fun x=> !D x)):=by
  have:=h.sub.filter (fun x=> !D x)
  rwa [List.filter_eq_self.2 (fun x hx=>by rw[h.done x hx (hall x hx)];rfl)] at this
 refine hs.eq_of_length ?_;refine(List.Perm.length_eq ?_);refine(List.perm_ext_iff_of_nodup (h.sub.nodup hnd) (hnd.sublist List.filter_sublist)).2 fun x=> ?_;rw[List.mem_filter];constructor
 · intro hx;exact⟨h.sub.subset hx,by rw[h.done x hx (hall x hx)];rfl⟩
 rintro⟨h1,h2⟩
 rcases h.kept x h1 with q|⟨q,_⟩
 · exact q
 rw[q] at h2;cases h2
theorem ZnS (l1 l2:List Ent) (e:Ent):ents (l1++e::l2)=ents l1++(e.key,e.val)::ents l2:=by simp[ents,ent]
theorem ZnU (l1 l2:List Ent):ents l1++ents l2=ents (l1++l2):=by simp[ents]
theorem Zhw {w:World} {bS:Nat} {n k:Int} {f p g:ByteArray} {v:List Value} (h:Sep [boxS bS n f] w) {c:Bool} (hc:decide (k=n∧g=f)=c) {c1 c2 c3 c4 c5 c6:Value}:
 Calls Tryz.prog 111 #[.agg #[.string p,.int .u64 k,.string g],.agg #[c1,c2,c3,c4,c5,c6],.pointer (some ⟨bS,0,none⟩)] w fun e w'=>e=.returned (.bool c)∧At [boxS bS n f] w [boxS bS n f] w':=by
 have hA:=At.start h;obtain⟨hA,hF⟩:=fY hA;clear h;have hc':=Hd hc;clear hc;go_enter Tryz.func111,Tryz.ntmps111
 go_wp2_with ((with_reducible refine gbx ?_);refine wCy hA ?_;clear hF hA;intro b1 w1 hA hb1 hF)
 go_ret;exact⟨by rw[←hc'.out,Bool.decide_and];rfl,hA.only1 sR⟩
abbrev iterE (r b:Nat) (cur dn:List Ent):Part:=.iterD Tryz.prog 110 r b (ents cur) (ents dn)
def DelRel (L0:List Part) (w:World) (m r bS:Nat) (n:Int) (f:ByteArray) (es:List Ent) (k:Nat) (wr:World):Prop:=
 ∃cur dn:List Ent,Kept es cur dn (·.of n f)∧dn.length + k=es.length∧At L0 w [iterE r m cur dn,boxS bS n f] wr
theorem Zpw {w:World} {m bS:Nat} {n:Int} {f:ByteArray} {es:List Ent} (h:Sep [mapC m (ents es),boxS bS n f] w) (hok:∀x ∈ es,x.path.size≤maxLen∧0≤x.num∧x.num < big64∧x.foot.size≤maxLen):
 Calls Tryz.prog 110 #[.map (some m),.func (.func 111) #[] #[.pointer (some ⟨bS,0,none⟩)]] w fun e w'=>e=.returned (.tuple #[])∧At [mapC m (ents es),boxS bS n f] w [mapC m (ents (es.filter (fun x=> !x.of n f))),boxS bS n f] w':=by
 have hA:=At.start h;have hkeys:=Zih (MapAt.keys (hA.get (A:=mapC m (ents es)) sR));have hnde:es.Nodup:=hkeys.imp (fun h e=>h (by rw[e]));obtain⟨hA,hF⟩:=fY hA;clear h hkeys;go_enter Tryz.func110,Tryz.ntmps110
 go_wp2_with (refine ZaX rfl rfl rfl hA sR Tryz.underlying108 ?_;intro r w1 hB hr;replace hA:=hB.rangeD sR;clear hF;obtain⟨hA,hF⟩:=fY hA)
 (try go_frame);go_loopg [5] es.length (fun k _ wr=>DelRel [mapC m (ents es),boxS bS n f] w m r bS n f es k wr)
 case atStart=>exact⟨es,[],⟨List.Sublist.refl _,fun x hx=>.inl hx,fun x _ hx=>(by cases hx),nofun,List.nodup_nil⟩,by simp,hA⟩
 case round=>
  obtain⟨cur,dn,hL,hk,hB⟩:=hrel;replace hA:=hB;clear hF hB;obtain⟨hA,hF⟩:=fY hA;go_step
  go_step
  refine Zd9 rfl rfl rfl hA sR (fun hp=> ?_) (fun q w1 hq hd hB=> ?_)
  · have hM:=hA.rangedD sR;have hfin:=Hd (hL.end hnde (fun x hx=>Zpt (hp _ (List.mem_map.2 ⟨x,hx,rfl⟩))));clear hp hL;go_wp2_with fail;go_end0
    exact⟨rfl,by rw[←hfin.out];exact hM.only2 sR sR⟩
  obtain⟨x,hx,rfl⟩:=List.mem_map.1 hq;have hI:IterD Tryz.prog 110 w1 r m (ents cur) (ents dn++[ent x]):=hB.get (A:=Part.iterD Tryz.prog 110 r m (ents cur) (ents dn++[ent x])) sR;have hen:=hI.entry hq;have hnot:x ∉ dn:=fun q=>hd (ent x) (List.mem_map.2 ⟨x,q,rfl⟩) rfl;obtain⟨hn1,hn2⟩:=hL.next hx hnot;obtain⟨o1,o2,o3,o4⟩:=hok x (hL.sub.subset hx);obtain⟨kl,hkl⟩:=keyP o1 o2 o3 o4;have hnd:cur.Nodup:=hL.sub.nodup hnde
  have hlen:dn.length < es.length:=by
   cases hin:x.of n f with
   |false=>have:=(hn1 hin).len;simp at this;omega
   |true=>
    obtain⟨l1,l2,e⟩:=List.append_of_mem hx;have:=(hn2 hin l1 l2 e (by rw[e] at hnd;exact Zg5 hnd)).len;simp at this;omega
  rw[show ents dn++[ent x]=ents (dn++[x]) by simp[ents]] at hB;clear hF hA;have hA:=hB;simp only[ent,Ent.key,keyV,Ent.val] at hen;unfold keyV at hkl;have hok':=Hd hok;clear hB hI hd hq hok o1 o2 o3 o4 hnot;have hL':=Hd hL;clear hL;obtain⟨hA,hF⟩:=fY hA
  cases hin:x.of n f with
  |false=>
   have hK:=Hd (hn1 hin);have hnde':=Hd hnde;clear hn1 hn2 hnde hnd
   go_wp2_with (first|((with_reducible refine gst ?_);refine wTy hA ?_;clear hF hA;intro w1 hA hF)|((with_reducible refine gal ?_);refine wGy 110 [.string .empty,.int .u64 0,.string .empty] hA ?_;clear hF hA;intro b1 w1 hA hb1 hF)|((with_reducible refine gal ?_);refine g5 hA ?_;clear hF hA;intro b1 w1 hA hb1 hF))
   refine(Zhw (v:=[]) (hA.sep1 (A:=boxS bS n f) sR) hin).mono ?_;rintro e w1 ⟨rfl,hT⟩;replace hA:=hA.call1 sR hT;clear hF hT;obtain⟨hA,hF⟩:=fY hA;go_wp2_with fail;go_roundg (gk - 1);case measure=>omega
   case rel=>exact⟨cur,dn++[x],hK.out,by simp;omega,hA.only2 sR sR⟩
  |true=>
   obtain⟨l1,l2,e⟩:=List.append_of_mem hx;subst e;have hK:=Hd (hn2 hin l1 l2 rfl (Zg5 hnd));have hnde':=Hd hnde;clear hn1 hn2 hx hnd hnde;unfold iterE at *
   rw[ZnS] at hA;unfold Ent.key keyV at hA
   go_wp2_with (first|((with_reducible refine gst ?_);refine wTy hA ?_;clear hF hA;intro w1 hA hF)|((with_reducible refine gal ?_);refine wGy 110 [.string .empty,.int .u64 0,.string .empty] hA ?_;clear hF hA;intro b1 w1 hA hb1 hF)|((with_reducible refine gal ?_);refine g5 hA ?_;clear hF hA;intro b1 w1 hA hb1 hF))
   refine(Zhw (v:=[]) (hA.sep1 (A:=boxS bS n f) sR) hin).mono ?_;rintro e w1 ⟨rfl,hT⟩;replace hA:=hA.call1 sR hT;clear hF hT;obtain⟨hA,hF⟩:=fY hA
   go_wp2_with (refine ZcZ rfl rfl rfl (by(try simp only[Act.eval,eV])<;>exact rfl) hA (k:=110) sR lawP Tryz.underlying108 hkl ?_;intro w1 hB;rw[ZnU l1 l2] at hB;replace hA:=hB;clear hF hB;obtain⟨hA,hF⟩:=fY hA)
   go_roundg (gk - 1);case measure=>omega
   case rel=>exact⟨l1++l2,dn++[x],hK.out,by simp;omega,hA.only2 sR sR⟩
theorem ZnZ {w:World} {b:Bk} (h:Sep [BookP b] w) (n:Int) (f:ByteArray) (hl:b.es.length≤1000000000) (hok:∀x ∈ b.es,x.path.size≤maxLen∧0≤x.num∧x.num < big64∧x.foot.size≤maxLen):
 Calls Tryz.prog 72 #[.pointer (some ⟨b.p,0,none⟩),.agg #[.int .u64 n,.string f]] w fun e w'=>e=.returned (.int .i64 (b.es.length - (b.st.dropAll n f).es.length))∧At [BookP b] w [BookP (b.with (b.st.dropAll n f))] w':=by
 have hA:=begin0 h;have hF:=hA.facts;have hle:(b.es.filter (fun x=> !x.of n f)).length≤b.es.length:=List.length_filter_le _ _;show Calls _ _ _ _ fun e w'=>e=.returned (.int .i64 (b.es.length - (b.es.filter (fun x=> !x.of n f)).length))∧At [BookP b] w [BookP ⟨b.p,b.m,b.c,b.first,b.es.filter (fun x=> !x.of n f),b.cs⟩] w';have hdel:=fun(w1:World) (bS:Nat) (q:Sep [mapC b.m (ents b.es),boxS bS n f] w1)=>Zpw q hok;generalize b.es.filter (fun x=> !x.of n f)=es' at *
 have e1:(ents b.es).length=b.es.length:=by simp[ents]
 have e2:(ents es').length=es'.length:=by simp[ents]
 obtain⟨hA,hF⟩:=fY hA;clear h hok;go_enter Tryz.func72,Tryz.ntmps72
 go_wp2_with (first|((with_reducible refine gbx ?_);refine wCy (E:=39) hA ?_;clear hF hA;intro bS w1 hA hbS hF)|(refine Zbl (k:=110) (es:=ents b.es) rfl rfl rfl hA sR Tryz.underlying108 ?_;rw[e1]))
 refine(hdel _ bS (hA.sep2 (A:=mapC b.m (ents b.es)) (B:=boxS bS n f) sR sR)).mono ?_;clear hdel;rintro e w2 ⟨rfl,hT⟩;replace hA:=hA.call2 (A:=mapC b.m (ents b.es)) (B:=boxS bS n f) sR sR hT;clear hF hT;obtain⟨hA,hF⟩:=fY hA;have hw:IntKind.i64.wrap ((b.es.length:Int) - (es'.length:Int))=(b.es.length:Int) - (es'.length:Int):=by rw[IntKind.wrap_i64]<;>omega
 go_wp2_with (refine Zbl (k:=110) (es:=ents es') rfl rfl rfl hA sR Tryz.underlying108 ?_;rw[e2])
 go_ret;exact⟨rfl,close0 ⟨b.p,b.m,b.c,b.first,es',b.cs⟩ hA sR sR sR⟩
end Lock
end
section
namespace Tab
open Go.RowKit
open Path (bl Zaf overB Zan)
open Lease (Ses Ans fresh ZaN)
open Lock (S3 Ent)
open Cmd (Cm Zaq)
attribute [-go_sem] run_eql_struct run_neq_struct run_eqGuard_agg
abbrev ansV (e n:Int) (g:Bool):Value:=.agg #[.int .i64 e,.int .u64 n,.bool g]
theorem ZaF (e:Int) (w:World):Calls Tryz.prog 39 #[.int .i64 e] w fun r w'=>r=.returned (ansV e 0 false)∧Ext w w':=by
 have hA:At [] w [] w:=At.start (L0:=[]) trivial;obtain⟨hA,hF⟩:=fY hA;go_enter Tryz.func39,Tryz.ntmps39
 go_wp2_with (first|((with_reducible refine gal ?_);refine g1 hA ?_;clear hF hA;intro b2 w1 hA hb2 hF)|((with_reducible refine gst ?_);refine wTy hA ?_;clear hF hA;intro w1 hA hF))
 exact bodyPost_ret (v:=ansV e 0 false) (by simp[results,Tryz.results39,go_sem,hF]) rfl ⟨rfl,hA.toExt⟩
theorem Zbn {L0 L F:List Part} {w0 w:World} {t p m:Nat} {ss:List Ses} {b:Lock.Bk} (h:At L0 w0 L w) (s:Sel (TabP t p m ss b) L F):At L0 w0 (headT t p b.p::Lease.BookP p m ss::Lock.BookP b::F) w:=(h.take s).to (Zek t p m ss b F)
theorem Zcl {L0 L F G H:List Part} {w0 w:World} {t p m:Nat} {ss:List Ses} {b:Lock.Bk} (h:At L0 w0 L w) (s1:Sel (headT t p b.p) L F) (s2:Sel (Lease.BookP p m ss) F G) (s3:Sel (Lock.BookP b) G H):At L0 w0 (TabP t p m ss b::H) w:=
 (h.perm (s1.perm.trans ((s2.perm.trans (s3.perm.cons _)).cons _))).to (Zek t p m ss b H).symm
structure LkOk (b:Lock.Bk):Prop where
 len:b.es.length≤1000000000
 ctr:∀q,0≤Lock.counter b.first b.cs q
 path:∀x ∈ b.es,x.path.size≤1000
 stamp:∀x ∈ b.es,x.stamp≤1000000000
 num:∀x ∈ b.es,0≤x.num∧x.num < Lock.big64
 foot:∀x ∈ b.es,x.foot.size≤maxLen
 chk:∀p n,(∀e ∈ b.es,e.path=p→e.n=n→Lock.ZaG b.es e=Zbk b.es p n)∧((∀e ∈ b.es,¬(e.path=p∧e.n=n))→Zbk b.es p n=false)
theorem Zkg {es:List Ent} (hn:∀a ∈ es,∀b ∈ es,a.path=b.path→a.n=b.n→a=b) (p:ByteArray) (n:Int):(∀e ∈ es,e.path=p→e.n=n→Lock.ZaG es e=Zbk es p n)∧((∀e ∈ es,¬(e.path=p∧e.n=n))→Zbk es p n=false):=by
 unfold Zbk;refine⟨fun e he e1 e2=> ?_,fun h=> ?_⟩
 · cases hc:Lock.ZaG es e with
   |true=>
    symm
    rw[List.any_eq_true];exact⟨e,he,by rw[hc,decide_eq_true ⟨e1,e2⟩];rfl⟩
   |false=>
    symm
    rw[List.any_eq_false];intro x hx q;obtain⟨q1,q2⟩:=Bool.and_eq_true_iff.1 q;have q1:=of_decide_eq_true q1;have:=hn x hx e he (q1.1.trans e1.symm) (q1.2.trans e2.symm);rw[this,hc] at q2;cases q2
 rw[List.any_eq_false];intro x hx q;exact h x hx (of_decide_eq_true (Bool.and_eq_true_iff.1 q).1)
theorem Zlg {es:List Ent} (h:es.Pairwise (fun a b=>a.path=b.path→a.n < b.n)):∀a ∈ es,∀b ∈ es,a.path=b.path→a.n=b.n→a=b:=by
 intro a ha b hb e1 e2;obtain⟨i,hi⟩:=List.mem_iff_getElem?.1 ha;obtain⟨j,hj⟩:=List.mem_iff_getElem?.1 hb;obtain⟨hi1,hi2⟩:=List.getElem?_eq_some_iff.1 hi;obtain⟨hj1,hj2⟩:=List.getElem?_eq_some_iff.1 hj;have hp:=List.pairwise_iff_getElem.1 h;rcases Nat.lt_trichotomy i j with q|q|q
 · have:=hp i j hi1 hj1 q
   rw[hi2,hj2] at this;have:=this e1;omega
 · subst q;rw[hi] at hj;exact Option.some.inj hj
 have:=hp j i hj1 hi1 q
 rw[hi2,hj2] at this;have:=this e1.symm;omega
theorem LkOk.of {b:Lock.Bk} {k:Nat} (h:Lock.Inv b.st k) (hk:k≤1000000):LkOk b:=
 ⟨by have:=h.len;simp only[Lock.Bk.st] at this;omega,fun q=>by have:=Lock.ZcH h q;have:=h.first0;simp only[Lock.Bk.st] at *;omega,fun x hx=>Nat.le_trans (h.path x hx) (by omega),fun x hx=>by have:=h.stamp1 x hx;omega,fun x hx=>⟨h.num0 x hx,h.num1 x hx⟩,fun x hx=>h.foot x hx,Zkg (Zlg (es:=b.es) h.nums)⟩
section
variable {w:World} {t p m:Nat} {ss:List Ses} {b:Lock.Bk} (h:Sep [TabP t p m ss b] w)
include h
theorem Zhb:Calls Tryz.prog 20 #[.pointer (some ⟨t,0,none⟩)] w fun e w'=>e=.returned (.pointer (some ⟨b.p,0,none⟩))∧At [TabP t p m ss b] w [TabP t p m ss b] w':=by
 have hA:=Zbf h;clear h;obtain⟨hA,hF⟩:=fY hA;go_enter Tryz.func20,Tryz.ntmps20;go_wp2_with fail;go_ret;exact⟨rfl,ZaC (hA.pick pZ)⟩
theorem Zhv (num:Int) (foot:ByteArray) (e:Int) (hok:LkOk b):
 Calls Tryz.prog 35 #[.pointer (some ⟨t,0,none⟩),.agg #[.int .u64 num,.string foot],.int .i64 e] w fun r w'=>r=.returned (ansV e 0 false)∧At [TabP t p m ss b] w [TabP t p m ss (if e=0 then b.with (b.st.dropAll num foot) else b)] w':=by
 have hm:Tryz.prog.follows .mixedOrders=true:=by kernel_rfl
 have hok':=Hd hok;clear hok;by_cases he:e=0
 · subst he;rw[if_pos rfl];have hA:=Zbf h;clear h;obtain⟨hA,hF⟩:=fY hA;go_enter Tryz.func35,Tryz.ntmps35
   go_upto_region 2 with(first|((with_reducible refine gbx ?_);refine wHy 39 [.int .u64 num,.string foot] hA ?_;clear hF hA;intro b4 w1 hA hb4 hF)|((with_reducible refine gal ?_);refine g1 hA ?_;clear hF hA;intro b6 w1 hA hb6 hF))
   (try go_frame);replace hA:=hA.drew;clear hF;refine wp_region_held (S:=fun w'=>Zaa w' t (k2 p b.p) 80∧Zaa w' b4 [.int .u64 num,.string foot] 39) hm ?_;change wpAnyH _ _ _ _ _ 6 _ _ (World.drew _);generalize World.drew _=wd at *
   have hS0:=(⟨hA.get (A:=Part.cells t (k2 p b.p) 80) sZ,hA.get (A:=Part.cells b4 [.int .u64 num,.string foot] 39) sZ⟩:(fun w'=>Zaa w' t (k2 p b.p) 80∧Zaa w' b4 [.int .u64 num,.string foot] 39) wd)
   refine tP 0 9 (.pointer (some ⟨t,0,none⟩)) (s:=hS0) (h:= ?_);(try go_frame);refine tP 1 10 (.pointer (some ⟨t,0,none⟩)) (s:=hS0) (h:= ?_);(try go_frame);refine tP 2 11 (.pointer (some ⟨t,1,none⟩)) (s:=hS0) (h:= ?_);(try go_frame);refine tZ 3 12 (.pointer (some ⟨b.p,0,none⟩)) (r:=(fun w' hS=>Zac (ty:=73) (b:=t) (j:=1) rfl (by exact rfl) hS.1 (by kernel_rfl) rfl)) (s:=hS0) (h:= ?_);(try go_frame);refine tZ 4 13 (.agg #[.int .u64 num,.string foot]) (r:=(fun w' hS=>Zag (ty:=39) (n:=2) (b:=b4) (j:=0) rfl (by exact rfl) hS.2 (by kernel_rfl) (by kernel_rfl) rfl rfl)) (s:=hS0) (h:= ?_);(try go_frame);refine Zab (i:=5) (by kernel_rfl) ?_;refine cY 5 14 72 (fun u w'=>u=.int .i64 (b.es.length - (b.st.dropAll num foot).es.length)∧At [Lock.BookP b] _ [Lock.BookP (b.with (b.st.dropAll num foot))] w') ((Lock.ZnZ (hA.sep1 (A:=Lock.BookP b) sZ) num foot hok'.out.len (fun x hx=>⟨Nat.le_trans (hok'.out.path x hx) (by unfold maxLen;omega),(hok'.out.num x hx).1,(hok'.out.num x hx).2,hok'.out.foot x hx⟩)).mono fun e w' ⟨he,hT⟩=>⟨_,he,rfl,hT⟩) ?_;rintro u w3 ⟨rfl,hT⟩;have hB:=hA.call1 (A:=Lock.BookP b) sZ hT;clear hT;simp only[uA] at hB;refine andH ⟨hB.ci,hB.ci⟩ fun hS0=> ?_;replace hA:=hB;clear hB;(try go_frame);refine wpAnyH_done (by kernel_rfl) ?_ _;(try go_frame);clear hS0;obtain⟨hA,hF⟩:=fY hA;go_wp2_with fail;refine(ZaF _ _).mono ?_;rintro e w1 ⟨rfl,hx⟩;replace hA:=hA.ext hx;clear hx hF;obtain⟨hA,hF⟩:=fY hA
   go_wp2_with ((with_reducible refine gst ?_);refine wTy hA ?_;clear hF hA;intro w1 hA hF)
   exact bodyPost_ret (v:=ansV 0 0 false) (by simp[results,Tryz.results35,go_sem,hF]) rfl ⟨rfl,ZaC (b:=b.with (b.st.dropAll num foot)) (hA.pick pZ)⟩
 rw[if_neg he];have hA:=Zbf h;clear h;obtain⟨hA,hF⟩:=fY hA;go_enter Tryz.func35,Tryz.ntmps35
 go_wp2_with (first|((with_reducible refine gbx ?_);refine wHy 39 [.int .u64 num,.string foot] hA ?_;clear hF hA;intro b4 w1 hA hb4 hF)|((with_reducible refine gal ?_);refine g1 hA ?_;clear hF hA;intro b6 w1 hA hb6 hF))
 refine(ZaF _ _).mono ?_;rintro e w1 ⟨rfl,hx⟩;replace hA:=hA.ext hx;clear hx hF;obtain⟨hA,hF⟩:=fY hA
 go_wp2_with ((with_reducible refine gst ?_);refine wTy hA ?_;clear hF hA;intro w1 hA hF)
 exact bodyPost_ret (v:=ansV e 0 false) (by simp[results,Tryz.results35,go_sem,hF]) rfl ⟨rfl,ZaC (hA.pick pZ)⟩
theorem may_any (kind num:Int) (foot:ByteArray) (req:Int) (path:ByteArray) (mode n time:Int) (h0:0≤num) (h1:num < Lease.big64) (hf:foot.size≤1000) (hp:path.size≤1000):
 Calls Tryz.prog 115 #[.pointer (some ⟨t,0,none⟩),.agg #[.int .i64 kind,.int .u64 num,.string foot,.int .u64 req,.string path,.int .i64 mode,.int .u64 n,.int .i64 time]] w fun r w'=>r=.returned (.int .i64 (if(Lease.look ss num foot).op=false then 50 else if Zan (bl foot) (bl path)=false then 55 else 0))∧At [TabP t p m ss b] w [TabP t p m ss b] w':=by
 have hm:Tryz.prog.follows .mixedOrders=true:=by kernel_rfl
 have hin:=fun(w1:World) (q:Sep [Lease.BookP p m ss] w1)=>Lease.Za2 q h0 h1 (show foot.size≤maxLen by unfold maxLen;omega);have hab:=fun w1=>Path.Ze2 foot path w1 (by omega) (by omega)
 obtain⟨lk,hlk⟩:∃z,Lease.look ss num foot=z:=⟨_,rfl⟩
 obtain⟨ab,hab2⟩:∃z,Zan (bl foot) (bl path)=z:=⟨_,rfl⟩
 rw[hlk] at ⊢;simp only[hlk] at hin;rw[hab2];simp only[hab2] at hab;clear hlk hab2;obtain⟨ln,lf,lo,ld,ldl,lt,ltold,lb,ltm⟩:=lk;simp only[Lease.Ses.info] at hin;have hin':=Hd hin;clear hin;have hA:=Zbf h;clear h;obtain⟨hA,hF⟩:=fY hA;go_enter Tryz.func115,Tryz.ntmps115
 go_upto_region 1 with((with_reducible refine gbx ?_);refine wHy 41 [.int .i64 kind,.int .u64 num,.string foot,.int .u64 req,.string path,.int .i64 mode,.int .u64 n,.int .i64 time] hA ?_;clear hF hA;intro b3 w1 hA hb3 hF)
 (try go_frame);replace hA:=hA.drew;clear hF;refine wp_region_held (S:=fun w'=>Zaa w' t (k2 p b.p) 80∧Zaa w' b3 (k8 kind num foot req path mode n time) 41) hm ?_;change wpAnyH _ _ _ _ _ 10 _ _ (World.drew _);generalize World.drew _=wd at *
 have hS0:=(⟨hA.get (A:=Part.cells t (k2 p b.p) 80) sZ,hA.get (A:=Part.cells b3 (k8 kind num foot req path mode n time) 41) sZ⟩:(fun w'=>Zaa w' t (k2 p b.p) 80∧Zaa w' b3 (k8 kind num foot req path mode n time) 41) wd)
 refine tP 0 6 (.pointer (some ⟨t,0,none⟩)) (s:=hS0) (h:= ?_);(try go_frame);refine tP 1 7 (.pointer (some ⟨t,0,none⟩)) (s:=hS0) (h:= ?_);(try go_frame);refine tP 2 8 (.pointer (some ⟨t,0,none⟩)) (s:=hS0) (h:= ?_);(try go_frame);refine tZ 3 9 (.pointer (some ⟨p,0,none⟩)) (r:=(fun w' hS=>Zac (ty:=76) (b:=t) (j:=0) rfl (by exact rfl) hS.1 (by kernel_rfl) rfl)) (s:=hS0) (h:= ?_);(try go_frame);refine tP 4 10 (.pointer (some ⟨b3,1,none⟩)) (s:=hS0) (h:= ?_);(try go_frame);refine tZ 5 11 (.agg #[.int .u64 num,.string foot]) (r:=(fun w' hS=>Zag (ty:=39) (n:=2) (b:=b3) (j:=1) rfl (by exact rfl) hS.2 (by kernel_rfl) (by kernel_rfl) rfl rfl)) (s:=hS0) (h:= ?_);(try go_frame);refine Zab (i:=6) (by kernel_rfl) ?_;refine cY 6 12 73 (fun u w'=>u=.agg #[.bool lo,.bool ld,.int .i64 ldl,.int .i64 lt,.int .i64 ltold.length]∧At [Lease.BookP p m ss] _ [Lease.BookP p m ss] w') ((hin'.out _ (hA.sep1 (A:=Lease.BookP p m ss) sZ)).mono fun e w' ⟨he,hT⟩=>⟨_,he,rfl,hT⟩) ?_;rintro u w3 ⟨rfl,hT⟩;have hB:=hA.call1 (A:=Lease.BookP p m ss) sZ hT;clear hT;simp only[uA] at hB;refine andH ⟨hB.ci,hB.ci⟩ fun hS0=> ?_;replace hA:=hB;clear hB;(try go_frame);refine tP 7 13 (.bool lo) (s:=hS0) (h:= ?_);(try go_frame);refine tP 8 14 (.bool (!lo)) (s:=hS0) (h:= ?_);(try go_frame);refine tP 9 5 (.bool (!lo)) (s:=hS0) (h:= ?_);(try go_frame);refine wpAnyH_done (by kernel_rfl) ?_ _;(try go_frame);clear hS0;obtain⟨hA,hF⟩:=fY hA;cases lo
 · go_wp2_with fail;go_ret;exact⟨rfl,ZaC (hA.pick pZ)⟩
 go_wp2_with fail;refine(hab _).mono ?_;rintro e w1 ⟨rfl,hx⟩;replace hA:=hA.ext hx;clear hx hF;obtain⟨hA,hF⟩:=fY hA;cases ab
 · go_wp2_with fail;go_ret;exact⟨rfl,ZaC (hA.pick pZ)⟩
 go_wp2_with fail;go_ret;exact⟨rfl,ZaC (hA.pick pZ)⟩
end
end Tab
end
section
namespace Tab
open Go.RowKit
open Path (bl Zaf overB Zan)
open Lease (Ses Ans fresh ZaN)
open Lock (S3 Ent)
open Cmd (Cm Zaq)
attribute [-go_sem] run_eql_struct run_neq_struct run_eqGuard_agg
section
variable {w:World} {t p m:Nat} {ss:List Ses} {b:Lock.Bk} (h:Sep [TabP t p m ss b] w) (kind num:Int) (foot:ByteArray) (req:Int) (path:ByteArray) (mode n time:Int) (h0:0≤num) (h1:num < Lock.big64) (hf:foot.size≤1000) (hp:path.size≤1000) (hok:LkOk b)
include h h0 h1 hf hp hok
theorem add_any:Calls Tryz.prog 116 #[.pointer (some ⟨t,0,none⟩),.agg #[.int .i64 kind,.int .u64 num,.string foot,.int .u64 req,.string path,.int .i64 mode,.int .u64 n,.int .i64 time]] w fun r w'=>r=.returned (if b.st.may path num foot mode=0 then ansV 0 (b.st.addE path num foot mode).n (Lock.ZaJ b.es path mode) else ansV (b.st.may path num foot mode) 0 false)∧At [TabP t p m ss b] w [TabP t p m ss (b.with (b.st.add path num foot mode))] w':=by
 have hm:Tryz.prog.follows .mixedOrders=true:=by kernel_rfl
 have hok':=Hd hok;clear hok;have hco:=fun(w1:World) (q:Sep [Lock.BookP b] w1)=>Lock.ZhA (mode:=mode) q (show path.size≤1000000 by omega) (fun x hx=>⟨Nat.le_trans (hok'.out.path x hx) (by omega),hok'.out.stamp x hx⟩);have had:=fun(w1:World) (q:Sep [Lock.BookP b] w1)=>Lock.add_any (mode:=mode) q (show path.size≤1000000 by omega) h0 h1 (show foot.size≤maxLen by unfold maxLen;omega) hok'.out.len hok'.out.ctr (fun x hx=>⟨Nat.le_trans (hok'.out.path x hx) (by omega),hok'.out.stamp x hx⟩)
 obtain⟨cd,hcd⟩:∃z,Lock.ZaJ b.es path mode=z:=⟨_,rfl⟩
 obtain⟨me,hme⟩:∃z,b.st.may path num foot mode=z:=⟨_,rfl⟩
 obtain⟨ae,hae⟩:∃z,b.st.addE path num foot mode=z:=⟨_,rfl⟩
 simp only[hcd] at hco;simp only[hme,hae] at had;rw[hcd,hme,hae];clear hcd hme hae;obtain⟨ep,en,ef,em,enn,est⟩:=ae;simp only[Lock.Ent.val] at had;have hco':=Hd hco;have had':=Hd had;clear hco had;have hA:=Zbf h;clear h;obtain⟨hA,hF⟩:=fY hA;go_enter Tryz.func116,Tryz.ntmps116
 go_upto_region 1 with(first|((with_reducible refine gbx ?_);refine wHy 41 [.int .i64 kind,.int .u64 num,.string foot,.int .u64 req,.string path,.int .i64 mode,.int .u64 n,.int .i64 time] hA ?_;clear hF hA;intro b3 w1 hA hb3 hF)|((with_reducible refine gal ?_);refine g1 hA ?_;clear hF hA;intro b4 w1 hA hb4 hF))
 (try go_frame);replace hA:=hA.drew;clear hF;refine wp_region_held (S:=fun w'=>Zaa w' t (k2 p b.p) 80∧Zaa w' b3 (k8 kind num foot req path mode n time) 41) hm ?_;change wpAnyH _ _ _ _ _ 10 _ _ (World.drew _);generalize World.drew _=wd at *
 have hS0:=(⟨hA.get (A:=Part.cells t (k2 p b.p) 80) sZ,hA.get (A:=Part.cells b3 (k8 kind num foot req path mode n time) 41) sZ⟩:(fun w'=>Zaa w' t (k2 p b.p) 80∧Zaa w' b3 (k8 kind num foot req path mode n time) 41) wd)
 refine tP 0 8 (.pointer (some ⟨t,0,none⟩)) (s:=hS0) (h:= ?_);(try go_frame);refine tP 1 9 (.pointer (some ⟨t,0,none⟩)) (s:=hS0) (h:= ?_);(try go_frame);refine tP 2 10 (.pointer (some ⟨t,1,none⟩)) (s:=hS0) (h:= ?_);(try go_frame);refine tZ 3 11 (.pointer (some ⟨b.p,0,none⟩)) (r:=(fun w' hS=>Zac (ty:=73) (b:=t) (j:=1) rfl (by exact rfl) hS.1 (by kernel_rfl) rfl)) (s:=hS0) (h:= ?_);(try go_frame);refine tP 4 12 (.pointer (some ⟨b3,4,none⟩)) (s:=hS0) (h:= ?_);(try go_frame);refine tZ 5 13 (.string path) (r:=(fun w' hS=>Zac (ty:=9) (b:=b3) (j:=4) rfl (by exact rfl) hS.2 (by kernel_rfl) rfl)) (s:=hS0) (h:= ?_);(try go_frame);refine tP 6 14 (.pointer (some ⟨b3,5,none⟩)) (s:=hS0) (h:= ?_);(try go_frame);refine tZ 7 15 (.int .i64 mode) (r:=(fun w' hS=>Zac (ty:=3) (b:=b3) (j:=5) rfl (by exact rfl) hS.2 (by kernel_rfl) rfl)) (s:=hS0) (h:= ?_);(try go_frame);refine Zab (i:=8) (by kernel_rfl) ?_;refine cY 8 16 151 (fun u w'=>u=.bool cd∧At [Lock.BookP b] _ [Lock.BookP b] w') ((hco'.out _ (hA.sep1 (A:=Lock.BookP b) sZ)).mono fun e w' ⟨he,hT⟩=>⟨_,he,rfl,hT⟩) ?_;rintro u w3 ⟨rfl,hT⟩;have hB:=hA.call1 (A:=Lock.BookP b) sZ hT;clear hT;simp only[uA] at hB;refine andH ⟨hB.ci,hB.ci⟩ fun hS0=> ?_;replace hA:=hB;clear hB;(try go_frame);refine tP 9 5 (.bool cd) (s:=hS0) (h:= ?_);(try go_frame);refine wpAnyH_done (by kernel_rfl) ?_ _;(try go_frame);clear hS0;obtain⟨hA,hF⟩:=fY hA;go_upto_region 2 with fail
 (try go_frame);replace hA:=hA.drew;clear hF;refine wp_region_held (S:=fun w'=>Zaa w' t (k2 p b.p) 80∧Zaa w' b3 (k8 kind num foot req path mode n time) 41) hm ?_;change wpAnyH _ _ _ _ _ 17 _ _ (World.drew _);generalize World.drew _=wd at *
 have hS0:=(⟨hA.get (A:=Part.cells t (k2 p b.p) 80) sZ,hA.get (A:=Part.cells b3 (k8 kind num foot req path mode n time) 41) sZ⟩:(fun w'=>Zaa w' t (k2 p b.p) 80∧Zaa w' b3 (k8 kind num foot req path mode n time) 41) wd)
 refine tP 0 18 (.pointer (some ⟨t,0,none⟩)) (s:=hS0) (h:= ?_);(try go_frame);refine tP 1 19 (.pointer (some ⟨t,0,none⟩)) (s:=hS0) (h:= ?_);(try go_frame);refine tP 2 20 (.pointer (some ⟨t,1,none⟩)) (s:=hS0) (h:= ?_);(try go_frame);refine tZ 3 21 (.pointer (some ⟨b.p,0,none⟩)) (r:=(fun w' hS=>Zac (ty:=73) (b:=t) (j:=1) rfl (by exact rfl) hS.1 (by kernel_rfl) rfl)) (s:=hS0) (h:= ?_);(try go_frame);refine tP 4 22 (.pointer (some ⟨b3,4,none⟩)) (s:=hS0) (h:= ?_);(try go_frame);refine tZ 5 23 (.string path) (r:=(fun w' hS=>Zac (ty:=9) (b:=b3) (j:=4) rfl (by exact rfl) hS.2 (by kernel_rfl) rfl)) (s:=hS0) (h:= ?_);(try go_frame);refine tP 6 24 (.pointer (some ⟨b3,1,none⟩)) (s:=hS0) (h:= ?_);(try go_frame);refine tZ 7 25 (.agg #[.int .u64 num,.string foot]) (r:=(fun w' hS=>Zag (ty:=39) (n:=2) (b:=b3) (j:=1) rfl (by exact rfl) hS.2 (by kernel_rfl) (by kernel_rfl) rfl rfl)) (s:=hS0) (h:= ?_);(try go_frame);refine tP 8 26 (.pointer (some ⟨b3,5,none⟩)) (s:=hS0) (h:= ?_);(try go_frame);refine tZ 9 27 (.int .i64 mode) (r:=(fun w' hS=>Zac (ty:=3) (b:=b3) (j:=5) rfl (by exact rfl) hS.2 (by kernel_rfl) rfl)) (s:=hS0) (h:= ?_);(try go_frame);refine ZaH (i:=10) (j:=14) (by kernel_rfl) ?_ ?_
 · skip;refine cY 10 28 152 (fun u w'=>u=.tuple #[.agg #[.string ep,.int .u64 en,.string ef,.int .i64 em,.int .u64 enn,.int .i64 est],.int .i64 me]∧At [Lock.BookP b] _ [Lock.BookP (b.with (b.st.add path num foot mode))] w') ((had'.out _ (hA.sep1 (A:=Lock.BookP b) sZ)).mono fun e w' ⟨he,hT⟩=>⟨_,he,rfl,hT⟩) ?_;rintro u w3 ⟨rfl,hT⟩;have hB:=hA.call1 (A:=Lock.BookP b) sZ hT;clear hT;simp only[uA] at hB;refine andH ⟨hB.ci,hB.ci⟩ fun hS0=> ?_;replace hA:=hB;clear hB;(try go_frame);refine tP 11 17 (.tuple #[.agg #[.string ep,.int .u64 en,.string ef,.int .i64 em,.int .u64 enn,.int .i64 est],.int .i64 me]) (s:=hS0) (h:= ?_);(try go_frame);refine tP 12 29 (.agg #[.string ep,.int .u64 en,.string ef,.int .i64 em,.int .u64 enn,.int .i64 est]) (s:=hS0) (h:= ?_);(try go_frame);refine tP 13 30 (.int .i64 me) (s:=hS0) (h:= ?_);(try go_frame);refine Zab (i:=14) (by kernel_rfl) ?_;refine aZ 14 6 61 [.string .empty,.int .u64 0,.string .empty,.int .i64 0,.int .u64 0,.int .i64 0] hA ?_;intro b6 w3 hB;refine andH ⟨hB.ci,hB.ci⟩ fun hS0=> ?_;replace hA:=hB;clear hB;(try go_frame);refine Zab (i:=15) (by kernel_rfl) ?_;refine stZ 15 b6 0 [.string ep,.int .u64 en,.string ef,.int .i64 em,.int .u64 enn,.int .i64 est] hA ?_;intro w3 hB;simp only[uA] at hB;refine andH ⟨hB.ci,hB.ci⟩ fun hS0=> ?_;replace hA:=hB;clear hB;(try go_frame);refine tP 16 7 (.int .i64 me) (s:=hS0) (h:= ?_);(try go_frame);refine wpAnyH_done (by kernel_rfl) ?_ _;(try go_frame);clear hS0;obtain⟨hA,hF⟩:=fY hA;by_cases hz:me=0
   · subst hz
     go_wp2_with ((with_reducible refine gst ?_);refine wTy hA ?_;clear hF hA;intro w1 hA hF)
     exact bodyPost_ret (v:=ansV 0 enn cd) (by simp[results,Tryz.results116,go_sem,hF]) rfl ⟨by first|rfl|rw[if_pos rfl],ZaC (b:=b.with (b.st.add path num foot mode)) (hA.pick pZ)⟩
   go_wp2_with fail;refine(ZaF _ _).mono ?_;rintro e w1 ⟨rfl,hx⟩;replace hA:=hA.ext hx;clear hx hF;obtain⟨hA,hF⟩:=fY hA
   go_wp2_with ((with_reducible refine gst ?_);refine wTy hA ?_;clear hF hA;intro w1 hA hF)
   exact bodyPost_ret (v:=ansV me 0 false) (by simp[results,Tryz.results116,go_sem,hF]) rfl ⟨by first|rfl|rw[if_neg hz],ZaC (b:=b.with (b.st.add path num foot mode)) (hA.pick pZ)⟩
 skip;refine aZ 14 6 61 [.string .empty,.int .u64 0,.string .empty,.int .i64 0,.int .u64 0,.int .i64 0] hA ?_;intro b6 w3 hB;refine andH ⟨hB.ci,hB.ci⟩ fun hS0=> ?_;replace hA:=hB;clear hB;(try go_frame);refine Zab (i:=10) (by kernel_rfl) ?_;refine cY 10 28 152 (fun u w'=>u=.tuple #[.agg #[.string ep,.int .u64 en,.string ef,.int .i64 em,.int .u64 enn,.int .i64 est],.int .i64 me]∧At [Lock.BookP b] _ [Lock.BookP (b.with (b.st.add path num foot mode))] w') ((had'.out _ (hA.sep1 (A:=Lock.BookP b) sZ)).mono fun e w' ⟨he,hT⟩=>⟨_,he,rfl,hT⟩) ?_;rintro u w3 ⟨rfl,hT⟩;have hB:=hA.call1 (A:=Lock.BookP b) sZ hT;clear hT;simp only[uA] at hB;refine andH ⟨hB.ci,hB.ci⟩ fun hS0=> ?_;replace hA:=hB;clear hB;(try go_frame);refine tP 11 17 (.tuple #[.agg #[.string ep,.int .u64 en,.string ef,.int .i64 em,.int .u64 enn,.int .i64 est],.int .i64 me]) (s:=hS0) (h:= ?_);(try go_frame);refine tP 12 29 (.agg #[.string ep,.int .u64 en,.string ef,.int .i64 em,.int .u64 enn,.int .i64 est]) (s:=hS0) (h:= ?_);(try go_frame);refine tP 13 30 (.int .i64 me) (s:=hS0) (h:= ?_);(try go_frame);refine Zab (i:=15) (by kernel_rfl) ?_;refine stZ 15 b6 0 [.string ep,.int .u64 en,.string ef,.int .i64 em,.int .u64 enn,.int .i64 est] hA ?_;intro w3 hB;simp only[uA] at hB;refine andH ⟨hB.ci,hB.ci⟩ fun hS0=> ?_;replace hA:=hB;clear hB;(try go_frame);refine tP 16 7 (.int .i64 me) (s:=hS0) (h:= ?_);(try go_frame);refine wpAnyH_done (by kernel_rfl) ?_ _;(try go_frame);clear hS0;obtain⟨hA,hF⟩:=fY hA;by_cases hz:me=0
 · subst hz
   go_wp2_with ((with_reducible refine gst ?_);refine wTy hA ?_;clear hF hA;intro w1 hA hF)
   exact bodyPost_ret (v:=ansV 0 enn cd) (by simp[results,Tryz.results116,go_sem,hF]) rfl ⟨by first|rfl|rw[if_pos rfl],ZaC (b:=b.with (b.st.add path num foot mode)) (hA.pick pZ)⟩
 go_wp2_with fail;refine(ZaF _ _).mono ?_;rintro e w1 ⟨rfl,hx⟩;replace hA:=hA.ext hx;clear hx hF;obtain⟨hA,hF⟩:=fY hA
 go_wp2_with ((with_reducible refine gst ?_);refine wTy hA ?_;clear hF hA;intro w1 hA hF)
 exact bodyPost_ret (v:=ansV me 0 false) (by simp[results,Tryz.results116,go_sem,hF]) rfl ⟨by first|rfl|rw[if_neg hz],ZaC (b:=b.with (b.st.add path num foot mode)) (hA.pick pZ)⟩
def tryV (b:Lock.Bk) (num:Int) (foot path:ByteArray) (mode:Int):Value:=if Lock.ZaJ b.es path mode=true then(if b.st.may path num foot mode=0 then ansV 0 (b.st.addE path num foot mode).n (Lock.ZaJ b.es path mode) else ansV (b.st.may path num foot mode) 0 false) else if b.st.may path num foot mode=0 then ansV 51 0 false else ansV (b.st.may path num foot mode) 0 false
def tryB (b:Lock.Bk) (num:Int) (foot path:ByteArray) (mode:Int):Lock.Bk:=if Lock.ZaJ b.es path mode=true then b.with (b.st.add path num foot mode) else b
theorem ZoO:Calls Tryz.prog 117 #[.pointer (some ⟨t,0,none⟩),.agg #[.int .i64 kind,.int .u64 num,.string foot,.int .u64 req,.string path,.int .i64 mode,.int .u64 n,.int .i64 time]] w fun r w'=>r=.returned (tryV b num foot path mode)∧At [TabP t p m ss b] w [TabP t p m ss (tryB b num foot path mode)] w':=by
 have hm:Tryz.prog.follows .mixedOrders=true:=by kernel_rfl
 have hok':=Hd hok;clear hok;have hco:=fun(w1:World) (q:Sep [Lock.BookP b] w1)=>Lock.ZhA (mode:=mode) q (show path.size≤1000000 by omega) (fun x hx=>⟨Nat.le_trans (hok'.out.path x hx) (by omega),hok'.out.stamp x hx⟩);have had:=fun(w1:World) (q:Sep [TabP t p m ss b] w1)=>add_any q kind num foot req path mode n time h0 h1 hf hp hok'.out;have hma:=fun(w1:World) (q:Sep [Lock.BookP b] w1)=>Lock.may_any (mode:=mode) q (show path.size≤1000000 by omega) h0 h1 (show foot.size≤maxLen by unfold maxLen;omega) hok'.out.len hok'.out.ctr;unfold tryV tryB
 obtain⟨cd,hcd⟩:∃z,Lock.ZaJ b.es path mode=z:=⟨_,rfl⟩
 obtain⟨me,hme⟩:∃z,b.st.may path num foot mode=z:=⟨_,rfl⟩
 obtain⟨av,hav⟩:∃z,(if b.st.may path num foot mode=0 then ansV 0 (b.st.addE path num foot mode).n (Lock.ZaJ b.es path mode) else ansV (b.st.may path num foot mode) 0 false)=z:=⟨_,rfl⟩
 simp only[hcd] at hco;rw[hav];simp only[hav] at had;simp only[hme] at hma;rw[hcd,hme];clear hcd hme;have hav2:∃x y z,av=ansV x y z:=by rw[←hav];split<;>exact⟨_,_,_,rfl⟩
 obtain⟨a1,a2,a3,rfl⟩:=hav2;clear hav;have hco':=Hd hco;have had':=Hd had;have hma':=Hd hma;clear hco had hma;have hA:=Zbf h;clear h;obtain⟨hA,hF⟩:=fY hA;go_enter Tryz.func117,Tryz.ntmps117
 go_upto_region 1 with(first|((with_reducible refine gbx ?_);refine wHy 41 [.int .i64 kind,.int .u64 num,.string foot,.int .u64 req,.string path,.int .i64 mode,.int .u64 n,.int .i64 time] hA ?_;clear hF hA;intro b3 w1 hA hb3 hF)|((with_reducible refine gal ?_);refine g1 hA ?_;clear hF hA;intro b4 w1 hA hb4 hF))
 (try go_frame);replace hA:=hA.drew;clear hF;refine wp_region_held (S:=fun w'=>Zaa w' t (k2 p b.p) 80∧Zaa w' b3 (k8 kind num foot req path mode n time) 41) hm ?_;change wpAnyH _ _ _ _ _ 9 _ _ (World.drew _);generalize World.drew _=wd at *
 have hS0:=(⟨hA.get (A:=Part.cells t (k2 p b.p) 80) sZ,hA.get (A:=Part.cells b3 (k8 kind num foot req path mode n time) 41) sZ⟩:(fun w'=>Zaa w' t (k2 p b.p) 80∧Zaa w' b3 (k8 kind num foot req path mode n time) 41) wd)
 refine tP 0 6 (.pointer (some ⟨t,0,none⟩)) (s:=hS0) (h:= ?_);(try go_frame);refine tP 1 7 (.pointer (some ⟨t,0,none⟩)) (s:=hS0) (h:= ?_);(try go_frame);refine tP 2 8 (.pointer (some ⟨t,1,none⟩)) (s:=hS0) (h:= ?_);(try go_frame);refine tZ 3 9 (.pointer (some ⟨b.p,0,none⟩)) (r:=(fun w' hS=>Zac (ty:=73) (b:=t) (j:=1) rfl (by exact rfl) hS.1 (by kernel_rfl) rfl)) (s:=hS0) (h:= ?_);(try go_frame);refine tP 4 10 (.pointer (some ⟨b3,4,none⟩)) (s:=hS0) (h:= ?_);(try go_frame);refine tZ 5 11 (.string path) (r:=(fun w' hS=>Zac (ty:=9) (b:=b3) (j:=4) rfl (by exact rfl) hS.2 (by kernel_rfl) rfl)) (s:=hS0) (h:= ?_);(try go_frame);refine tP 6 12 (.pointer (some ⟨b3,5,none⟩)) (s:=hS0) (h:= ?_);(try go_frame);refine tZ 7 13 (.int .i64 mode) (r:=(fun w' hS=>Zac (ty:=3) (b:=b3) (j:=5) rfl (by exact rfl) hS.2 (by kernel_rfl) rfl)) (s:=hS0) (h:= ?_);(try go_frame);refine Zab (i:=8) (by kernel_rfl) ?_;refine cY 8 14 151 (fun u w'=>u=.bool cd∧At [Lock.BookP b] _ [Lock.BookP b] w') ((hco'.out _ (hA.sep1 (A:=Lock.BookP b) sZ)).mono fun e w' ⟨he,hT⟩=>⟨_,he,rfl,hT⟩) ?_;rintro u w3 ⟨rfl,hT⟩;have hB:=hA.call1 (A:=Lock.BookP b) sZ hT;clear hT;simp only[uA] at hB;refine andH ⟨hB.ci,hB.ci⟩ fun hS0=> ?_;replace hA:=hB;clear hB;(try go_frame);refine wpAnyH_done (by kernel_rfl) ?_ _;(try go_frame);clear hS0;obtain⟨hA,hF⟩:=fY hA;cases cd
 · go_upto_region 3 with fail
   (try go_frame);replace hA:=hA.drew;clear hF;refine wp_region_held (S:=fun w'=>Zaa w' t (k2 p b.p) 80∧Zaa w' b3 (k8 kind num foot req path mode n time) 41) hm ?_;change wpAnyH _ _ _ _ _ 12 _ _ (World.drew _);generalize World.drew _=wd at *
   have hS0:=(⟨hA.get (A:=Part.cells t (k2 p b.p) 80) sZ,hA.get (A:=Part.cells b3 (k8 kind num foot req path mode n time) 41) sZ⟩:(fun w'=>Zaa w' t (k2 p b.p) 80∧Zaa w' b3 (k8 kind num foot req path mode n time) 41) wd)
   refine tP 0 18 (.pointer (some ⟨t,0,none⟩)) (s:=hS0) (h:= ?_);(try go_frame);refine tP 1 19 (.pointer (some ⟨t,0,none⟩)) (s:=hS0) (h:= ?_);(try go_frame);refine tP 2 20 (.pointer (some ⟨t,1,none⟩)) (s:=hS0) (h:= ?_);(try go_frame);refine tZ 3 21 (.pointer (some ⟨b.p,0,none⟩)) (r:=(fun w' hS=>Zac (ty:=73) (b:=t) (j:=1) rfl (by exact rfl) hS.1 (by kernel_rfl) rfl)) (s:=hS0) (h:= ?_);(try go_frame);refine tP 4 22 (.pointer (some ⟨b3,4,none⟩)) (s:=hS0) (h:= ?_);(try go_frame);refine tZ 5 23 (.string path) (r:=(fun w' hS=>Zac (ty:=9) (b:=b3) (j:=4) rfl (by exact rfl) hS.2 (by kernel_rfl) rfl)) (s:=hS0) (h:= ?_);(try go_frame);refine tP 6 24 (.pointer (some ⟨b3,1,none⟩)) (s:=hS0) (h:= ?_);(try go_frame);refine tZ 7 25 (.agg #[.int .u64 num,.string foot]) (r:=(fun w' hS=>Zag (ty:=39) (n:=2) (b:=b3) (j:=1) rfl (by exact rfl) hS.2 (by kernel_rfl) (by kernel_rfl) rfl rfl)) (s:=hS0) (h:= ?_);(try go_frame);refine tP 8 26 (.pointer (some ⟨b3,5,none⟩)) (s:=hS0) (h:= ?_);(try go_frame);refine tZ 9 27 (.int .i64 mode) (r:=(fun w' hS=>Zac (ty:=3) (b:=b3) (j:=5) rfl (by exact rfl) hS.2 (by kernel_rfl) rfl)) (s:=hS0) (h:= ?_);(try go_frame);refine Zab (i:=10) (by kernel_rfl) ?_;refine cY 10 28 153 (fun u w'=>u=.int .i64 me∧At [Lock.BookP b] _ [Lock.BookP b] w') ((hma'.out _ (hA.sep1 (A:=Lock.BookP b) sZ)).mono fun e w' ⟨he,hT⟩=>⟨_,he,rfl,hT⟩) ?_;rintro u w3 ⟨rfl,hT⟩;have hB:=hA.call1 (A:=Lock.BookP b) sZ hT;clear hT;simp only[uA] at hB;refine andH ⟨hB.ci,hB.ci⟩ fun hS0=> ?_;replace hA:=hB;clear hB;(try go_frame);refine tP 11 5 (.int .i64 me) (s:=hS0) (h:= ?_);(try go_frame);refine wpAnyH_done (by kernel_rfl) ?_ _;(try go_frame);clear hS0;obtain⟨hA,hF⟩:=fY hA;by_cases hz:me=0
   · subst hz;go_wp2_with fail;refine(ZaF _ _).mono ?_;rintro e w1 ⟨rfl,hx⟩;replace hA:=hA.ext hx;clear hx hF;obtain⟨hA,hF⟩:=fY hA
     go_wp2_with ((with_reducible refine gst ?_);refine wTy hA ?_;clear hF hA;intro w1 hA hF)
     exact bodyPost_ret (v:=ansV 51 0 false) (by simp[results,Tryz.results117,go_sem,hF]) rfl ⟨by first|rfl|(rw[if_neg (by decide),if_pos rfl]),ZaC (hA.pick pZ)⟩
   go_wp2_with fail;refine(ZaF _ _).mono ?_;rintro e w1 ⟨rfl,hx⟩;replace hA:=hA.ext hx;clear hx hF;obtain⟨hA,hF⟩:=fY hA
   go_wp2_with ((with_reducible refine gst ?_);refine wTy hA ?_;clear hF hA;intro w1 hA hF)
   exact bodyPost_ret (v:=ansV me 0 false) (by simp[results,Tryz.results117,go_sem,hF]) rfl ⟨by first|rfl|(rw[if_neg (by decide),if_neg hz]),ZaC (hA.pick pZ)⟩
 replace hA:=Zcl hA sZ sZ sZ;clear hF;obtain⟨hA,hF⟩:=fY hA;go_wp2_with fail;refine(had'.out _ (hA.sep1 (A:=TabP t p m ss b) sZ)).mono ?_;rintro e w1 ⟨rfl,hT⟩;replace hA:=hA.call1 (A:=TabP t p m ss b) sZ hT;clear hT hF;obtain⟨hA,hF⟩:=fY hA
 go_wp2_with ((with_reducible refine gst ?_);refine wTy hA ?_;clear hF hA;intro w1 hA hF)
 exact bodyPost_ret (v:=ansV a1 a2 a3) (by simp[results,Tryz.results117,go_sem,hF]) rfl ⟨by first|rfl|rw[if_pos rfl],(hA.pick pZ)⟩
end
end Tab
end
section
namespace Tab
open Go.RowKit
open Path (bl Zaf overB Zan)
open Lease (Ses Ans fresh ZaN)
open Lock (S3 Ent)
open Cmd (Cm Zaq)
attribute [-go_sem] run_eql_struct run_neq_struct run_eqGuard_agg
def lkV (me:Int) (b:Lock.Bk) (kind num:Int) (foot path:ByteArray) (mode n:Int):Value:=if me≠0 then ansV me 0 false else if kind=4 then(if b.st.may path num foot mode=0 then ansV 0 (b.st.addE path num foot mode).n (Lock.ZaJ b.es path mode) else ansV (b.st.may path num foot mode) 0 false) else if kind=5 then tryV b num foot path mode else if kind=6 then ansV (if(Lock.find b.es path num foot).isSome=true then 0 else 52) 0 false else ansV (if Zbk b.es path n=true then 0 else 52) 0 false
def lkB (me:Int) (b:Lock.Bk) (kind num:Int) (foot path:ByteArray) (mode:Int):Lock.Bk:=if me≠0 then b else if kind=4 then b.with (b.st.add path num foot mode) else if kind=5 then tryB b num foot path mode else if kind=6 then b.with (b.st.remove path num foot) else b
def mayI (ss:List Ses) (num:Int) (foot path:ByteArray):Int:=if(Lease.look ss num foot).op=false then 50 else if Zan (bl foot) (bl path)=false then 55 else 0
section
variable {w:World} {t p m:Nat} {ss:List Ses} {b:Lock.Bk} (h:Sep [TabP t p m ss b] w) (kind num:Int) (foot:ByteArray) (req:Int) (path:ByteArray) (mode n time:Int) (h0:0≤num) (h1:num < Lock.big64) (hf:foot.size≤1000) (hp:path.size≤1000) (hok:LkOk b)
include h h0 h1 hf hp hok
theorem Zpd:Calls Tryz.prog 77 #[.pointer (some ⟨t,0,none⟩),.agg #[.int .i64 kind,.int .u64 num,.string foot,.int .u64 req,.string path,.int .i64 mode,.int .u64 n,.int .i64 time]] w fun r w'=>r=.returned (lkV (mayI ss num foot path) b kind num foot path mode n)∧At [TabP t p m ss b] w [TabP t p m ss (lkB (mayI ss num foot path) b kind num foot path mode)] w':=by
 have hm:Tryz.prog.follows .mixedOrders=true:=by kernel_rfl
 have hok':=Hd hok;clear hok;have hmy:=fun(w1:World) (q:Sep [TabP t p m ss b] w1)=>may_any q kind num foot req path mode n time h0 h1 hf hp;have had:=fun(w1:World) (q:Sep [TabP t p m ss b] w1)=>add_any q kind num foot req path mode n time h0 h1 hf hp hok'.out;have htr:=fun(w1:World) (q:Sep [TabP t p m ss b] w1)=>ZoO q kind num foot req path mode n time h0 h1 hf hp hok'.out;have hrm:=fun(w1:World) (q:Sep [Lock.BookP b] w1)=>Lock.ZjR (p:=path) (n:=num) (f:=foot) q (show path.size≤maxLen by unfold maxLen;omega) h0 h1 (show foot.size≤maxLen by unfold maxLen;omega);have hck:=fun(w1:World) (q:Sep [Lock.BookP b] w1)=>Lock.Zl5 q path n (fun x hx=>Nat.le_trans (hok'.out.path x hx) (by omega)) (hok'.out.chk path n).1 (hok'.out.chk path n).2
 obtain⟨me,hme⟩:∃z,mayI ss num foot path=z:=⟨_,rfl⟩
 have hme2:(if(Lease.look ss num foot).op=false then(50:Int) else if Zan (bl foot) (bl path)=false then 55 else 0)=me:=hme;simp only[hme2] at hmy;rw[hme];clear hme hme2;have hmy':=Hd hmy;have had':=Hd had;have htr':=Hd htr;have hrm':=Hd hrm;have hck':=Hd hck;clear hmy had htr hrm hck;have hA:=At.start h;clear h;obtain⟨hA,hF⟩:=fY hA;go_enter Tryz.func77,Tryz.ntmps77
 go_wp2_with (first|((with_reducible refine gbx ?_);refine wHy 41 [.int .i64 kind,.int .u64 num,.string foot,.int .u64 req,.string path,.int .i64 mode,.int .u64 n,.int .i64 time] hA ?_;clear hF hA;intro b3 w1 hA hb3 hF)|((with_reducible refine gal ?_);refine g1 hA ?_;clear hF hA;intro b4 w1 hA hb4 hF))
 refine(hmy'.out _ (hA.sep1 (A:=TabP t p m ss b) sZ)).mono ?_;rintro e w1 ⟨rfl,hT⟩;replace hA:=hA.call1 (A:=TabP t p m ss b) sZ hT;clear hT hF;obtain⟨hA,hF⟩:=fY hA;by_cases hz:me=0
 · subst hz;by_cases k4:kind=4
   · subst k4
     obtain⟨av,hav⟩:∃z,(if b.st.may path num foot mode=0 then ansV 0 (b.st.addE path num foot mode).n (Lock.ZaJ b.es path mode) else ansV (b.st.may path num foot mode) 0 false)=z:=⟨_,rfl⟩
     have hav2:∃x y z,av=ansV x y z:=by rw[←hav];split<;>exact⟨_,_,_,rfl⟩
     obtain⟨a1,a2,a3,rfl⟩:=hav2;have had2:=had'.out;simp only[hav] at had2;have had3:=Hd had2;have hav':=Hd hav;clear had2 hav had';go_wp2_with fail;refine(had3.out _ (hA.sep1 (A:=TabP t p m ss b) sZ)).mono ?_;rintro e w1 ⟨rfl,hT⟩;replace hA:=hA.call1 (A:=TabP t p m ss b) sZ hT;clear hT hF;obtain⟨hA,hF⟩:=fY hA
     go_wp2_with ((with_reducible refine gst ?_);refine wTy hA ?_;clear hF hA;intro w1 hA hF)
     exact bodyPost_ret (v:=ansV a1 a2 a3) (by simp[results,Tryz.results77,go_sem,hF]) rfl ⟨by first|rfl|(rw[lkV,if_neg (by decide),if_pos rfl,hav'.out]),by rw[lkB,if_neg (by decide),if_pos rfl];exact hA.pick pZ⟩
   by_cases k5:kind=5
   · subst k5
     obtain⟨av,hav⟩:∃z,tryV b num foot path mode=z:=⟨_,rfl⟩
     have hav2:∃x y z,av=ansV x y z:=by rw[←hav];unfold tryV;split;(split<;>exact⟨_,_,_,rfl⟩);(split<;>exact⟨_,_,_,rfl⟩)
     obtain⟨a1,a2,a3,rfl⟩:=hav2;have had2:=htr'.out;simp only[hav] at had2;have had3:=Hd had2;have hav':=Hd hav;clear had2 hav htr';go_wp2_with fail;refine(had3.out _ (hA.sep1 (A:=TabP t p m ss b) sZ)).mono ?_;rintro e w1 ⟨rfl,hT⟩;replace hA:=hA.call1 (A:=TabP t p m ss b) sZ hT;clear hT hF;obtain⟨hA,hF⟩:=fY hA
     go_wp2_with ((with_reducible refine gst ?_);refine wTy hA ?_;clear hF hA;intro w1 hA hF)
     exact bodyPost_ret (v:=ansV a1 a2 a3) (by simp[results,Tryz.results77,go_sem,hF]) rfl ⟨by first|rfl|(rw[lkV,if_neg (by decide),if_neg (by decide),if_pos rfl,hav'.out]),by rw[lkB,if_neg (by decide),if_neg (by decide),if_pos rfl];exact hA.pick pZ⟩
   by_cases k6:kind=6
   · subst k6
     obtain⟨rc,hrc⟩:∃z,(if(Lock.find b.es path num foot).isSome=true then(0:Int) else 52)=z:=⟨_,rfl⟩
     have hrm2:=hrm'.out;simp only[hrc] at hrm2;have hrm3:=Hd hrm2;have hrc':=Hd hrc;clear hrm2 hrm' hrc;replace hA:=Zbn hA sZ;clear hF;obtain⟨hA,hF⟩:=fY hA;go_upto_region 10 with fail
     (try go_frame);replace hA:=hA.drew;clear hF;refine wp_region_held (S:=fun w'=>Zaa w' t (k2 p b.p) 80∧Zaa w' b3 (k8 6 num foot req path mode n time) 41) hm ?_;change wpAnyH _ _ _ _ _ 11 _ _ (World.drew _);generalize World.drew _=wd at *
     have hS0:=(⟨hA.get (A:=Part.cells t (k2 p b.p) 80) sZ,hA.get (A:=Part.cells b3 (k8 6 num foot req path mode n time) 41) sZ⟩:(fun w'=>Zaa w' t (k2 p b.p) 80∧Zaa w' b3 (k8 6 num foot req path mode n time) 41) wd)
     refine tP 0 27 (.pointer (some ⟨t,0,none⟩)) (s:=hS0) (h:= ?_);(try go_frame);refine tP 1 28 (.pointer (some ⟨t,0,none⟩)) (s:=hS0) (h:= ?_);(try go_frame);refine tP 2 29 (.pointer (some ⟨t,1,none⟩)) (s:=hS0) (h:= ?_);(try go_frame);refine tZ 3 30 (.pointer (some ⟨b.p,0,none⟩)) (r:=(fun w' hS=>Zac (ty:=73) (b:=t) (j:=1) rfl (by exact rfl) hS.1 (by kernel_rfl) rfl)) (s:=hS0) (h:= ?_);(try go_frame);refine tP 4 31 (.pointer (some ⟨b3,4,none⟩)) (s:=hS0) (h:= ?_);(try go_frame);refine tZ 5 32 (.string path) (r:=(fun w' hS=>Zac (ty:=9) (b:=b3) (j:=4) rfl (by exact rfl) hS.2 (by kernel_rfl) rfl)) (s:=hS0) (h:= ?_);(try go_frame);refine tP 6 33 (.pointer (some ⟨b3,1,none⟩)) (s:=hS0) (h:= ?_);(try go_frame);refine tZ 7 34 (.agg #[.int .u64 num,.string foot]) (r:=(fun w' hS=>Zag (ty:=39) (n:=2) (b:=b3) (j:=1) rfl (by exact rfl) hS.2 (by kernel_rfl) (by kernel_rfl) rfl rfl)) (s:=hS0) (h:= ?_);(try go_frame);refine Zab (i:=8) (by kernel_rfl) ?_;refine cY 8 35 118 (fun u w'=>u=.int .i64 rc∧At [Lock.BookP b] _ [Lock.BookP (b.with (b.st.remove path num foot))] w') ((hrm3.out _ (hA.sep1 (A:=Lock.BookP b) sZ)).mono fun e w' ⟨he,hT⟩=>⟨_,he,rfl,hT⟩) ?_;rintro u w3 ⟨rfl,hT⟩;have hB:=hA.call1 (A:=Lock.BookP b) sZ hT;clear hT;simp only[uA] at hB;refine andH ⟨hB.ci,hB.ci⟩ fun hS0=> ?_;replace hA:=hB;clear hB;(try go_frame);refine Zab (i:=9) (by kernel_rfl) ?_;refine cY 9 36 39 (fun u w'=>u=ansV rc 0 false∧Ext _ w') ((ZaF _ _).mono fun e w' ⟨he,hx⟩=>⟨_,he,rfl,hx⟩) ?_;rintro u w3 ⟨rfl,hx⟩;have hB:=hA.ext hx;clear hx;refine andH ⟨hB.ci,hB.ci⟩ fun hS0=> ?_;replace hA:=hB;clear hB;(try go_frame);refine Zab (i:=10) (by kernel_rfl) ?_;refine stZ 10 b4 0 [.int .i64 rc,.int .u64 0,.bool false] hA ?_;intro w3 hB;simp only[uA] at hB;refine andH ⟨hB.ci,hB.ci⟩ fun hS0=> ?_;replace hA:=hB;clear hB;(try go_frame);refine wpAnyH_done (by kernel_rfl) ?_ _;(try go_frame);clear hS0;obtain⟨hA,hF⟩:=fY hA;go_wp2_with fail;exact bodyPost_ret (v:=ansV rc 0 false) (by simp[results,Tryz.results77,go_sem,hF]) rfl ⟨by rw[lkV,if_neg (by decide),if_neg (by decide),if_neg (by decide),if_pos rfl,hrc'.out],by rw[lkB,if_neg (by decide),if_neg (by decide),if_neg (by decide),if_pos rfl];exact(Zcl (b:=b.with (b.st.remove path num foot)) hA sZ sZ sZ).pick pZ⟩
   obtain⟨cb,hcb⟩:∃z,Zbk b.es path n=z:=⟨_,rfl⟩
   have hck2:=hck'.out;simp only[hcb] at hck2;have hck3:=Hd hck2;have hcb':=Hd hcb;clear hck2 hck' hcb;replace hA:=Zbn hA sZ;clear hF;obtain⟨hA,hF⟩:=fY hA;go_upto_region 11 with fail
   (try go_frame);replace hA:=hA.drew;clear hF;refine wp_region_held (S:=fun w'=>Zaa w' t (k2 p b.p) 80∧Zaa w' b3 (k8 kind num foot req path mode n time) 41) hm ?_;change wpAnyH _ _ _ _ _ 10 _ _ (World.drew _);generalize World.drew _=wd at *
   have hS0:=(⟨hA.get (A:=Part.cells t (k2 p b.p) 80) sZ,hA.get (A:=Part.cells b3 (k8 kind num foot req path mode n time) 41) sZ⟩:(fun w'=>Zaa w' t (k2 p b.p) 80∧Zaa w' b3 (k8 kind num foot req path mode n time) 41) wd)
   refine tP 0 37 (.pointer (some ⟨t,0,none⟩)) (s:=hS0) (h:= ?_);(try go_frame);refine tP 1 38 (.pointer (some ⟨t,0,none⟩)) (s:=hS0) (h:= ?_);(try go_frame);refine tP 2 39 (.pointer (some ⟨t,1,none⟩)) (s:=hS0) (h:= ?_);(try go_frame);refine tZ 3 40 (.pointer (some ⟨b.p,0,none⟩)) (r:=(fun w' hS=>Zac (ty:=73) (b:=t) (j:=1) rfl (by exact rfl) hS.1 (by kernel_rfl) rfl)) (s:=hS0) (h:= ?_);(try go_frame);refine tP 4 41 (.pointer (some ⟨b3,4,none⟩)) (s:=hS0) (h:= ?_);(try go_frame);refine tZ 5 42 (.string path) (r:=(fun w' hS=>Zac (ty:=9) (b:=b3) (j:=4) rfl (by exact rfl) hS.2 (by kernel_rfl) rfl)) (s:=hS0) (h:= ?_);(try go_frame);refine tP 6 43 (.pointer (some ⟨b3,6,none⟩)) (s:=hS0) (h:= ?_);(try go_frame);refine tZ 7 44 (.int .u64 n) (r:=(fun w' hS=>Zac (ty:=22) (b:=b3) (j:=6) rfl (by exact rfl) hS.2 (by kernel_rfl) rfl)) (s:=hS0) (h:= ?_);(try go_frame);refine Zab (i:=8) (by kernel_rfl) ?_;refine cY 8 45 119 (fun u w'=>u=.bool cb∧At [Lock.BookP b] _ [Lock.BookP b] w') ((hck3.out _ (hA.sep1 (A:=Lock.BookP b) sZ)).mono fun e w' ⟨he,hT⟩=>⟨_,he,rfl,hT⟩) ?_;rintro u w3 ⟨rfl,hT⟩;have hB:=hA.call1 (A:=Lock.BookP b) sZ hT;clear hT;simp only[uA] at hB;refine andH ⟨hB.ci,hB.ci⟩ fun hS0=> ?_;replace hA:=hB;clear hB;(try go_frame);refine tP 9 46 (.bool (!cb)) (s:=hS0) (h:= ?_);(try go_frame);refine wpAnyH_done (by kernel_rfl) ?_ _;(try go_frame);clear hS0;obtain⟨hA,hF⟩:=fY hA;cases cb
   · go_wp2_with fail;refine(ZaF _ _).mono ?_;rintro e w1 ⟨rfl,hx⟩;replace hA:=hA.ext hx;clear hx hF;obtain⟨hA,hF⟩:=fY hA
     go_wp2_with ((with_reducible refine gst ?_);refine wTy hA ?_;clear hF hA;intro w1 hA hF)
     exact bodyPost_ret (v:=ansV 52 0 false) (by simp[results,Tryz.results77,go_sem,hF]) rfl ⟨by rw[lkV,if_neg (by decide),if_neg k4,if_neg k5,if_neg k6,hcb'.out];rfl,by rw[lkB,if_neg (by decide),if_neg k4,if_neg k5,if_neg k6];exact(Zcl hA sZ sZ sZ).pick pZ⟩
   go_wp2_with fail;refine(ZaF _ _).mono ?_;rintro e w1 ⟨rfl,hx⟩;replace hA:=hA.ext hx;clear hx hF;obtain⟨hA,hF⟩:=fY hA
   go_wp2_with ((with_reducible refine gst ?_);refine wTy hA ?_;clear hF hA;intro w1 hA hF)
   exact bodyPost_ret (v:=ansV 0 0 false) (by simp[results,Tryz.results77,go_sem,hF]) rfl ⟨by rw[lkV,if_neg (by decide),if_neg k4,if_neg k5,if_neg k6,hcb'.out];rfl,by rw[lkB,if_neg (by decide),if_neg k4,if_neg k5,if_neg k6];exact(Zcl hA sZ sZ sZ).pick pZ⟩
 go_wp2_with fail;refine(ZaF _ _).mono ?_;rintro e w1 ⟨rfl,hx⟩;replace hA:=hA.ext hx;clear hx hF;obtain⟨hA,hF⟩:=fY hA
 go_wp2_with ((with_reducible refine gst ?_);refine wTy hA ?_;clear hF hA;intro w1 hA hF)
 exact bodyPost_ret (v:=ansV me 0 false) (by simp[results,Tryz.results77,go_sem,hF]) rfl ⟨by rw[lkV,if_pos hz],by rw[lkB,if_pos hz];exact hA.pick pZ⟩
end
end Tab
end
section
namespace Tab
open Go.RowKit
open Path (bl Zaf overB Zan)
open Lease (Ses Ans fresh ZaN)
open Lock (S3 Ent)
open Cmd (Cm Zaq)
attribute [-go_sem] run_eql_struct run_neq_struct run_eqGuard_agg
def TPost (t p m:Nat) (ss:List Ses) (b:Lock.Bk) (w:World) (T:TS) (a:Ans) (e:Ending) (w':World):Prop:=
 ∃ss' b',e=.returned a.val∧TRel ss' b' T∧At [TabP t p m ss b] w [TabP t p m ss' b'] w'
theorem Zle {ss ss':List Ses} {b:Lock.Bk} {T:TS} {c:Cm} {g:Ses→Ses} {code:Int} (hR:TRel ss b T) (hk:Kn ss) (hg:∀s,zs (g s)=g (zs s)) (hq:code≠0∧ss'=ss∨code=0∧ZaN ss c.num c.foot g ss'):TRel ss' b (opT T c g code):=by
 unfold opT;rcases hq with⟨h1,rfl⟩|⟨h1,h2⟩
 · rw[if_neg h1];exact hR
 rw[if_pos h1];exact⟨by rw[Zfe hk h2 hg,hR.S],hR.L⟩
theorem ZlO {ss ss':List Ses} {b:Lock.Bk} {T:TS} {c:Cm} {code:Int} (hR:TRel ss b T) (hk:Kn ss) (hq:code≠0∧ss'=ss∨code=0∧ZaN ss c.num c.foot Ses.ended ss'):TRel ss' (if code=0 then b.with (b.st.dropAll c.num c.foot) else b) (endT T c code):=by
 unfold endT;rcases hq with⟨h1,rfl⟩|⟨h1,h2⟩
 · rw[if_neg h1,if_neg h1];exact hR
 rw[if_pos h1,if_pos h1];exact⟨by rw[Zfe hk h2 fun s=>rfl,hR.S],by rw[←hR.L];rfl⟩
theorem kn_zs {ss:List Ses}:Kn (ss.map zs)↔Kn ss:=by
 unfold Kn;rw[List.map_map];rfl
theorem TRel.kn {ss:List Ses} {b:Lock.Bk} {T:TS} {k:Nat} (hR:TRel ss b T) (hI:SInv T.S k):Kn ss:=kn_zs.1 (by rw[hR.S];exact hI.keys)
theorem TRel.look {ss:List Ses} {b:Lock.Bk} {T:TS} (hR:TRel ss b T) (n:Int) (f:ByteArray):lookA T.S n f=zs (Lease.look ss n f):=by rw[←hR.S,Zpc]
theorem TRel.cnt {ss:List Ses} {b:Lock.Bk} {T:TS} (hR:TRel ss b T) (f:ByteArray):Lease.cnt T.S f=Lease.cnt ss f:=by rw[←hR.S,cnt_zs]
theorem TRel.len {ss:List Ses} {b:Lock.Bk} {T:TS} {k:Nat} (hR:TRel ss b T) (hI:SInv T.S k):ss.length≤k:=by
 have:=hI.len;rw[←hR.S,List.length_map] at this;exact this
theorem lk_rel {ss:List Ses} {b:Lock.Bk} {T:TS} (hR:TRel ss b T) (c:Cm):lkV (mayI ss c.num c.foot c.path) b c.kind c.num c.foot c.path c.mode c.n=(Za4 T c).2.val∧TRel ss (lkB (mayI ss c.num c.foot c.path) b c.kind c.num c.foot c.path c.mode) (Za4 T c).1:=by
 have hme:mayT T c=mayI ss c.num c.foot c.path:=by unfold mayT mayI;rw[hR.look];rfl
 have hes:T.L.es=b.es:=by rw[←hR.L];rfl
 unfold Za4 lkV lkB;rw[hme,hes]
 have hadd:(if b.st.may c.path c.num c.foot c.mode=0 then ansV 0 (b.st.addE c.path c.num c.foot c.mode).n (Lock.ZaJ b.es c.path c.mode) else ansV (b.st.may c.path c.num c.foot c.mode) 0 false)=(addT T c).2.val∧TRel ss (b.with (b.st.add c.path c.num c.foot c.mode)) (addT T c).1:=by
  unfold addT;rw[hes,←hR.L];constructor
  · by_cases h:b.st.may c.path c.num c.foot c.mode=0
    · rw[if_pos h,if_pos h,show(b.st.addE c.path c.num c.foot c.mode)=b.st.newE c.path c.num c.foot c.mode from if_pos h];rfl
    rw[if_neg h,if_neg h];rfl
  refine⟨hR.S,?_⟩
  unfold Lock.S3.add;split<;>rfl
 split
 · exact⟨rfl,hR⟩
 split
 · exact hadd
 split
 · unfold tryV tryB tryT;rw[hes];by_cases h:Lock.ZaJ b.es c.path c.mode=true
   · rw[if_pos h,if_pos h,if_pos h];exact hadd
   rw[if_neg h,if_neg h,if_neg h,←hR.L];split
   · exact⟨rfl,hR⟩
   exact⟨rfl,hR⟩
 split
 · exact⟨rfl,hR.S,by rw[←hR.L];rfl⟩
 exact⟨rfl,hR⟩
theorem do_any {w:World} {t p m:Nat} {ss:List Ses} {b:Lock.Bk} (h:Sep [TabP t p m ss b] w) (kind num:Int) (foot:ByteArray) (req:Int) (path:ByteArray) (mode n time:Int) {T:TS} (hR:TRel ss b T) {k:Nat} (hI:SInv T.S k) (hk:k≤1000000) (h0:0≤num) (h1:num < Lease.big64) (hf:foot.size≤1000) (hp:path.size≤1000) (hok:LkOk b) (hn:kind=1→0≤n∧n≤1048576):
 Calls Tryz.prog 40 #[.pointer (some ⟨t,0,none⟩),.agg #[.int .i64 kind,.int .u64 num,.string foot,.int .u64 req,.string path,.int .i64 mode,.int .u64 n,.int .i64 time]] w (TPost t p m ss b w (doT T ⟨kind,num,foot,req,path,mode,n,time⟩).1 (doT T ⟨kind,num,foot,req,path,mode,n,time⟩).2):=by
 have hm:Tryz.prog.follows .mixedOrders=true:=by kernel_rfl
 have hkn:=Hd (hR.kn hI);have hlen:=hR.len hI;have hR':=Hd hR;have hok':=Hd hok;have hmf:foot.size≤maxLen:=by unfold maxLen;omega
 have hlk:=hR.look num foot;have hcn:=hR.cnt foot
 have hdo:doT T ⟨kind,num,foot,req,path,mode,n,time⟩=(if kind=1 then(opT T ⟨kind,num,foot,req,path,mode,n,time⟩ (fun s=>s.opened n time) (Lease.openE (Lease.look ss num foot) (Lease.cnt ss foot)),ansE (Lease.openE (Lease.look ss num foot) (Lease.cnt ss foot)))
  else if kind=2 then(endT T ⟨kind,num,foot,req,path,mode,n,time⟩ (if(Lease.look ss num foot).op then 0 else 50),ansE (if(Lease.look ss num foot).op then 0 else 50))
  else if kind=3 then(opT T ⟨kind,num,foot,req,path,mode,n,time⟩ (fun s=>s.kept time) (if(Lease.look ss num foot).op then 0 else 50),ansE (if(Lease.look ss num foot).op then 0 else 50)) else Za4 T ⟨kind,num,foot,req,path,mode,n,time⟩):=by
  unfold doT;simp only[hlk,hcn];rfl
 have hd1:=Hd (fun(e:kind=1)=>hdo.trans (if_pos e));have hd2:=Hd (fun(e:kind=2)=>hdo.trans ((if_neg (by omega)).trans (if_pos e)));have hd3:=Hd (fun(e:kind=3)=>hdo.trans ((if_neg (by omega)).trans ((if_neg (by omega)).trans (if_pos e))));have hd4:=Hd (fun(e1:¬kind=1) (e2:¬kind=2) (e3:¬kind=3)=>hdo.trans ((if_neg e1).trans ((if_neg e2).trans (if_neg e3))));have hop:=Hd (fun(w1:World) (q:Sep [Lease.BookP p m ss] w1)=>Lease.Zmb q h0 h1 hmf (Nat.le_trans hlen hk) n time);have hke:=Hd (fun(w1:World) (q:Sep [Lease.BookP p m ss] w1)=>Lease.Zmc q h0 h1 hmf time);have hen:=Hd (fun(w1:World) (q:Sep [Lease.BookP p m ss] w1)=>Lease.Zoa q h0 h1 hmf);have hlo:=Hd (fun(w1:World) (q:Sep [TabP t p m ss b] w1)=>Zpd q kind num foot req path mode n time h0 h1 hf hp hok);clear hR hlk hcn hdo hok;have hA:=At.start h;clear h;obtain⟨hA,hF⟩:=fY hA;go_enter Tryz.func40,Tryz.ntmps40;by_cases k1:kind=1
 · subst k1
   obtain⟨co,hco⟩:∃z,Lease.openE (Lease.look ss num foot) (Lease.cnt ss foot)=z:=⟨_,rfl⟩
   have hz:=hop.out;simp only[hco] at hz;have hop3:=Hd hz;have hco':=Hd hco;clear hz hco hop;have hn1:=hn rfl;have hcv:IntKind.i64.wrap n=n:=by rw[IntKind.wrap_i64]<;>omega
   replace hA:=Zbn hA sZ;clear hF;obtain⟨hA,hF⟩:=fY hA
   go_upto_region 3 with(first|((with_reducible refine gbx ?_);refine wHy 41 [.int .i64 1,.int .u64 num,.string foot,.int .u64 req,.string path,.int .i64 mode,.int .u64 n,.int .i64 time] hA ?_;clear hF hA;intro b3 w1 hA hb3 hF)|((with_reducible refine gal ?_);refine g1 hA ?_;clear hF hA;intro b4 w1 hA hb4 hF))
   (try go_frame);replace hA:=hA.drew;clear hF;refine wp_region_held (S:=fun w'=>Zaa w' t (k2 p b.p) 80∧Zaa w' b3 (k8 1 num foot req path mode n time) 41) hm ?_;change wpAnyH _ _ _ _ _ 14 _ _ (World.drew _);generalize World.drew _=wd at *
   have hS0:=(⟨hA.get (A:=Part.cells t (k2 p b.p) 80) sZ,hA.get (A:=Part.cells b3 (k8 1 num foot req path mode n time) 41) sZ⟩:(fun w'=>Zaa w' t (k2 p b.p) 80∧Zaa w' b3 (k8 1 num foot req path mode n time) 41) wd)
   refine tP 0 9 (.pointer (some ⟨t,0,none⟩)) (s:=hS0) (h:= ?_);(try go_frame);refine tP 1 10 (.pointer (some ⟨t,0,none⟩)) (s:=hS0) (h:= ?_);(try go_frame);refine tP 2 11 (.pointer (some ⟨t,0,none⟩)) (s:=hS0) (h:= ?_);(try go_frame);refine tZ 3 12 (.pointer (some ⟨p,0,none⟩)) (r:=(fun w' hS=>Zac (ty:=76) (b:=t) (j:=0) rfl (by exact rfl) hS.1 (by kernel_rfl) rfl)) (s:=hS0) (h:= ?_);(try go_frame);refine tP 4 13 (.pointer (some ⟨b3,1,none⟩)) (s:=hS0) (h:= ?_);(try go_frame);refine tZ 5 14 (.agg #[.int .u64 num,.string foot]) (r:=(fun w' hS=>Zag (ty:=39) (n:=2) (b:=b3) (j:=1) rfl (by exact rfl) hS.2 (by kernel_rfl) (by kernel_rfl) rfl rfl)) (s:=hS0) (h:= ?_);(try go_frame);refine tP 6 15 (.pointer (some ⟨b3,6,none⟩)) (s:=hS0) (h:= ?_);(try go_frame);refine tZ 7 16 (.int .u64 n) (r:=(fun w' hS=>Zac (ty:=22) (b:=b3) (j:=6) rfl (by exact rfl) hS.2 (by kernel_rfl) rfl)) (s:=hS0) (h:= ?_);(try go_frame);refine tZ 8 17 (.int .i64 n) (r:=(fun w' hS=>by simp[execOp,go_sem,Act.eval,Act.put,hcv])) (s:=hS0) (h:= ?_);(try go_frame);refine tP 9 18 (.pointer (some ⟨b3,7,none⟩)) (s:=hS0) (h:= ?_);(try go_frame);refine tZ 10 19 (.int .i64 time) (r:=(fun w' hS=>Zac (ty:=3) (b:=b3) (j:=7) rfl (by exact rfl) hS.2 (by kernel_rfl) rfl)) (s:=hS0) (h:= ?_);(try go_frame);refine Zab (i:=11) (by kernel_rfl) ?_;refine cY 11 20 75 (fun u w'=>∃ss',u=.int .i64 co∧At [Lease.BookP p m ss] _ [Lease.BookP p m ss'] w'∧(co≠0∧ss'=ss∨co=0∧ZaN ss num foot (fun s=>s.opened n time) ss')) ((hop3.out _ (hA.sep1 (A:=Lease.BookP p m ss) sZ)).mono fun e w' ⟨ss',he,hT,hq⟩=>⟨_,he,ss',rfl,hT,hq⟩) ?_;rintro u w3 ⟨ss',rfl,hT,hq⟩;have hq':=Hd hq;have hB:=hA.call1 (A:=Lease.BookP p m ss) sZ hT;clear hT hq;simp only[uA] at hB;refine andH ⟨hB.ci,hB.ci⟩ fun hS0=> ?_;replace hA:=hB;clear hB;(try go_frame);refine Zab (i:=12) (by kernel_rfl) ?_;refine cY 12 21 39 (fun u w'=>u=ansV co 0 false∧Ext _ w') ((ZaF _ _).mono fun e w' ⟨he,hx⟩=>⟨_,he,rfl,hx⟩) ?_;rintro u w3 ⟨rfl,hx⟩;have hB:=hA.ext hx;clear hx;refine andH ⟨hB.ci,hB.ci⟩ fun hS0=> ?_;replace hA:=hB;clear hB;(try go_frame);refine Zab (i:=13) (by kernel_rfl) ?_;refine stZ 13 b4 0 [.int .i64 co,.int .u64 0,.bool false] hA ?_;intro w3 hB;simp only[uA] at hB;refine andH ⟨hB.ci,hB.ci⟩ fun hS0=> ?_;replace hA:=hB;clear hB;(try go_frame);refine wpAnyH_done (by kernel_rfl) ?_ _;(try go_frame);clear hS0;obtain⟨hA,hF⟩:=fY hA;go_wp2_with fail;refine bodyPost_ret (v:=ansV co 0 false) (by simp[results,Tryz.results40,go_sem,hF]) rfl ?_;rw[hd1.out (by simp)];exact⟨ss',b,by rw[←hco'.out];rfl,by rw[hco'.out];exact Zle hR'.out hkn.out (fun s=>rfl) hq'.out,ZaC (ss:=ss') (hA.pick pZ)⟩
 by_cases x2:kind=2
 · subst x2
   obtain⟨co,hco⟩:∃z,(if(Lease.look ss num foot).op=true then(0:Int) else 50)=z:=⟨_,rfl⟩
   have hz:=hen.out;simp only[hco] at hz;have hen3:=Hd hz;have hco':=Hd hco;clear hz hco hen;replace hA:=Zbn hA sZ;clear hF;obtain⟨hA,hF⟩:=fY hA
   go_upto_region 5 with(first|((with_reducible refine gbx ?_);refine wHy 41 [.int .i64 2,.int .u64 num,.string foot,.int .u64 req,.string path,.int .i64 mode,.int .u64 n,.int .i64 time] hA ?_;clear hF hA;intro b3 w1 hA hb3 hF)|((with_reducible refine gal ?_);refine g1 hA ?_;clear hF hA;intro b4 w1 hA hb4 hF))
   (try go_frame);replace hA:=hA.drew;clear hF;refine wp_region_held (S:=fun w'=>Zaa w' t (k2 p b.p) 80∧Zaa w' b3 (k8 2 num foot req path mode n time) 41) hm ?_;change wpAnyH _ _ _ _ _ 12 _ _ (World.drew _);generalize World.drew _=wd at *
   have hS0:=(⟨hA.get (A:=Part.cells t (k2 p b.p) 80) sZ,hA.get (A:=Part.cells b3 (k8 2 num foot req path mode n time) 41) sZ⟩:(fun w'=>Zaa w' t (k2 p b.p) 80∧Zaa w' b3 (k8 2 num foot req path mode n time) 41) wd)
   refine tP 0 24 (.pointer (some ⟨t,0,none⟩)) (s:=hS0) (h:= ?_);(try go_frame);refine tP 1 25 (.pointer (some ⟨b3,1,none⟩)) (s:=hS0) (h:= ?_);(try go_frame);refine tZ 2 26 (.agg #[.int .u64 num,.string foot]) (r:=(fun w' hS=>Zag (ty:=39) (n:=2) (b:=b3) (j:=1) rfl (by exact rfl) hS.2 (by kernel_rfl) (by kernel_rfl) rfl rfl)) (s:=hS0) (h:= ?_);(try go_frame);refine tP 3 27 (.pointer (some ⟨t,0,none⟩)) (s:=hS0) (h:= ?_);(try go_frame);refine tP 4 28 (.pointer (some ⟨t,0,none⟩)) (s:=hS0) (h:= ?_);(try go_frame);refine tP 5 29 (.pointer (some ⟨t,0,none⟩)) (s:=hS0) (h:= ?_);(try go_frame);refine tZ 6 30 (.pointer (some ⟨p,0,none⟩)) (r:=(fun w' hS=>Zac (ty:=76) (b:=t) (j:=0) rfl (by exact rfl) hS.1 (by kernel_rfl) rfl)) (s:=hS0) (h:= ?_);(try go_frame);refine tP 7 31 (.pointer (some ⟨b3,1,none⟩)) (s:=hS0) (h:= ?_);(try go_frame);refine tZ 8 32 (.agg #[.int .u64 num,.string foot]) (r:=(fun w' hS=>Zag (ty:=39) (n:=2) (b:=b3) (j:=1) rfl (by exact rfl) hS.2 (by kernel_rfl) (by kernel_rfl) rfl rfl)) (s:=hS0) (h:= ?_);(try go_frame);refine Zab (i:=9) (by kernel_rfl) ?_;refine cY 9 33 74 (fun u w'=>∃ss',u=.int .i64 co∧At [Lease.BookP p m ss] _ [Lease.BookP p m ss'] w'∧(co≠0∧ss'=ss∨co=0∧ZaN ss num foot Ses.ended ss')) ((hen3.out _ (hA.sep1 (A:=Lease.BookP p m ss) sZ)).mono fun e w' ⟨ss',he,hT,hq⟩=>⟨_,he,ss',rfl,hT,hq⟩) ?_;rintro u w3 ⟨ss',rfl,hT,hq⟩;have hq':=Hd hq;have hB:=hA.call1 (A:=Lease.BookP p m ss) sZ hT;clear hT hq;simp only[uA] at hB;refine andH ⟨hB.ci,hB.ci⟩ fun hS0=> ?_;replace hA:=hB;clear hB;(try go_frame);refine Zab (i:=10) (by kernel_rfl) ?_;replace hA:=Zcl (ss:=ss') hA sZ sZ sZ;refine cY 10 34 35 (fun u w'=>u=ansV co 0 false∧At [TabP t p m ss' b] _ [TabP t p m ss' (if co=0 then b.with (b.st.dropAll num foot) else b)] w') ((Zhv (hA.sep1 (A:=TabP t p m ss' b) sZ) num foot co hok'.out).mono fun e w' ⟨he,hT⟩=>⟨_,he,rfl,hT⟩) ?_;rintro u w3 ⟨rfl,hT⟩;have hC:=hA.call1 (A:=TabP t p m ss' b) sZ hT;clear hT;simp only[uA] at hC
   obtain⟨b',hb'⟩:∃z,(if co=0 then b.with (b.st.dropAll num foot) else b)=z:=⟨_,rfl⟩
   rw[hb'] at hC;have hbp:b'.p=b.p:=by rw[←hb'];split<;>rfl
   have hB:=Zbn hC sZ;rw[hbp] at hB;have hb2:=Hd hb';have hbp':=Hd hbp;clear hC hb' hbp;refine andH ⟨hB.ci,hB.ci⟩ fun hS0=> ?_;replace hA:=hB;clear hB;(try go_frame);refine Zab (i:=11) (by kernel_rfl) ?_;refine stZ 11 b4 0 [.int .i64 co,.int .u64 0,.bool false] hA ?_;intro w3 hB;simp only[uA] at hB;refine andH ⟨hB.ci,hB.ci⟩ fun hS0=> ?_;replace hA:=hB;clear hB;(try go_frame);refine wpAnyH_done (by kernel_rfl) ?_ _;(try go_frame);clear hS0;obtain⟨hA,hF⟩:=fY hA;go_wp2_with fail;refine bodyPost_ret (v:=ansV co 0 false) (by simp[results,Tryz.results40,go_sem,hF]) rfl ?_;rw[hd2.out (by simp)];exact⟨ss',b',by rw[←hco'.out];rfl,by rw[hco'.out,←hb2.out];exact ZlO (c:=⟨2,num,foot,req,path,mode,n,time⟩) hR'.out hkn.out hq'.out,ZaC (ss:=ss') (b:=b') (by rw[hbp'.out];exact hA.pick pZ)⟩
 by_cases k3:kind=3
 · subst k3
   obtain⟨co,hco⟩:∃z,(if(Lease.look ss num foot).op=true then(0:Int) else 50)=z:=⟨_,rfl⟩
   have hz:=hke.out;simp only[hco] at hz;have hke3:=Hd hz;have hco':=Hd hco;clear hz hco hke;replace hA:=Zbn hA sZ;clear hF;obtain⟨hA,hF⟩:=fY hA
   go_upto_region 7 with(first|((with_reducible refine gbx ?_);refine wHy 41 [.int .i64 3,.int .u64 num,.string foot,.int .u64 req,.string path,.int .i64 mode,.int .u64 n,.int .i64 time] hA ?_;clear hF hA;intro b3 w1 hA hb3 hF)|((with_reducible refine gal ?_);refine g1 hA ?_;clear hF hA;intro b4 w1 hA hb4 hF))
   (try go_frame);replace hA:=hA.drew;clear hF;refine wp_region_held (S:=fun w'=>Zaa w' t (k2 p b.p) 80∧Zaa w' b3 (k8 3 num foot req path mode n time) 41) hm ?_;change wpAnyH _ _ _ _ _ 11 _ _ (World.drew _);generalize World.drew _=wd at *
   have hS0:=(⟨hA.get (A:=Part.cells t (k2 p b.p) 80) sZ,hA.get (A:=Part.cells b3 (k8 3 num foot req path mode n time) 41) sZ⟩:(fun w'=>Zaa w' t (k2 p b.p) 80∧Zaa w' b3 (k8 3 num foot req path mode n time) 41) wd)
   refine tP 0 37 (.pointer (some ⟨t,0,none⟩)) (s:=hS0) (h:= ?_);(try go_frame);refine tP 1 38 (.pointer (some ⟨t,0,none⟩)) (s:=hS0) (h:= ?_);(try go_frame);refine tP 2 39 (.pointer (some ⟨t,0,none⟩)) (s:=hS0) (h:= ?_);(try go_frame);refine tZ 3 40 (.pointer (some ⟨p,0,none⟩)) (r:=(fun w' hS=>Zac (ty:=76) (b:=t) (j:=0) rfl (by exact rfl) hS.1 (by kernel_rfl) rfl)) (s:=hS0) (h:= ?_);(try go_frame);refine tP 4 41 (.pointer (some ⟨b3,1,none⟩)) (s:=hS0) (h:= ?_);(try go_frame);refine tZ 5 42 (.agg #[.int .u64 num,.string foot]) (r:=(fun w' hS=>Zag (ty:=39) (n:=2) (b:=b3) (j:=1) rfl (by exact rfl) hS.2 (by kernel_rfl) (by kernel_rfl) rfl rfl)) (s:=hS0) (h:= ?_);(try go_frame);refine tP 6 43 (.pointer (some ⟨b3,7,none⟩)) (s:=hS0) (h:= ?_);(try go_frame);refine tZ 7 44 (.int .i64 time) (r:=(fun w' hS=>Zac (ty:=3) (b:=b3) (j:=7) rfl (by exact rfl) hS.2 (by kernel_rfl) rfl)) (s:=hS0) (h:= ?_);(try go_frame);refine Zab (i:=8) (by kernel_rfl) ?_;refine cY 8 45 76 (fun u w'=>∃ss',u=.int .i64 co∧At [Lease.BookP p m ss] _ [Lease.BookP p m ss'] w'∧(co≠0∧ss'=ss∨co=0∧ZaN ss num foot (fun s=>s.kept time) ss')) ((hke3.out _ (hA.sep1 (A:=Lease.BookP p m ss) sZ)).mono fun e w' ⟨ss',he,hT,hq⟩=>⟨_,he,ss',rfl,hT,hq⟩) ?_;rintro u w3 ⟨ss',rfl,hT,hq⟩;have hq':=Hd hq;have hB:=hA.call1 (A:=Lease.BookP p m ss) sZ hT;clear hT hq;simp only[uA] at hB;refine andH ⟨hB.ci,hB.ci⟩ fun hS0=> ?_;replace hA:=hB;clear hB;(try go_frame);refine Zab (i:=9) (by kernel_rfl) ?_;refine cY 9 46 39 (fun u w'=>u=ansV co 0 false∧Ext _ w') ((ZaF _ _).mono fun e w' ⟨he,hx⟩=>⟨_,he,rfl,hx⟩) ?_;rintro u w3 ⟨rfl,hx⟩;have hB:=hA.ext hx;clear hx;refine andH ⟨hB.ci,hB.ci⟩ fun hS0=> ?_;replace hA:=hB;clear hB;(try go_frame);refine Zab (i:=10) (by kernel_rfl) ?_;refine stZ 10 b4 0 [.int .i64 co,.int .u64 0,.bool false] hA ?_;intro w3 hB;simp only[uA] at hB;refine andH ⟨hB.ci,hB.ci⟩ fun hS0=> ?_;replace hA:=hB;clear hB;(try go_frame);refine wpAnyH_done (by kernel_rfl) ?_ _;(try go_frame);clear hS0;obtain⟨hA,hF⟩:=fY hA;go_wp2_with fail;refine bodyPost_ret (v:=ansV co 0 false) (by simp[results,Tryz.results40,go_sem,hF]) rfl ?_;rw[hd3.out (by simp)];exact⟨ss',b,by rw[←hco'.out];rfl,by rw[hco'.out];exact Zle hR'.out hkn.out (fun s=>rfl) hq'.out,ZaC (ss:=ss') (hA.pick pZ)⟩
 go_wp2_with (first|((with_reducible refine gbx ?_);refine wHy 41 [.int .i64 kind,.int .u64 num,.string foot,.int .u64 req,.string path,.int .i64 mode,.int .u64 n,.int .i64 time] hA ?_;clear hF hA;intro b3 w1 hA hb3 hF)|((with_reducible refine gal ?_);refine g1 hA ?_;clear hF hA;intro b4 w1 hA hb4 hF))
 obtain⟨hv,hrl⟩:=lk_rel hR'.out ⟨kind,num,foot,req,path,mode,n,time⟩;simp only at hv hrl;have hz:=hlo.out;simp only[hv] at hz;have hlo3:=Hd hz;have hrl':=Hd hrl;have hdo2:=Hd (show doT T ⟨kind,num,foot,req,path,mode,n,time⟩=Za4 T ⟨kind,num,foot,req,path,mode,n,time⟩ from hd4.out k1 x2 k3);clear hz hv hrl hlo
 obtain⟨⟨le,ln,lg⟩,hla⟩:∃z,(Za4 T ⟨kind,num,foot,req,path,mode,n,time⟩).2=z:=⟨_,rfl⟩
 have hz:=hlo3.out;simp only[hla,Lease.Ans.val] at hz;refine(hz _ (hA.sep1 (A:=TabP t p m ss b) sZ)).mono ?_;clear hz;have hla':=Hd hla;clear hla hlo3;rintro e w1 ⟨rfl,hT⟩;replace hA:=hA.call1 (A:=TabP t p m ss b) sZ hT;clear hT hF;obtain⟨hA,hF⟩:=fY hA
 go_wp2_with ((with_reducible refine gst ?_);refine wTy hA ?_;clear hF hA;intro w1 hA hF)
 refine bodyPost_ret (v:=ansV le ln lg) (by simp[results,Tryz.results40,go_sem,hF]) rfl ?_;rw[hdo2.out];exact⟨ss,_,by rw[hla'.out];rfl,hrl'.out,hA.pick pZ⟩
end Tab
end
end Go.Proofs.YtknoefbcmomalabGreatDoor
