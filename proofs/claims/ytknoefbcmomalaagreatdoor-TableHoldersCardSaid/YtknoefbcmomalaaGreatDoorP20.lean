import Derived.Test.YtknoefbcmomalaaGreatDoorP15
import Derived.Test.YtknoefbcmomalaaGreatDoorP19
set_option linter.unusedSimpArgs false
set_option linter.unusedVariables false
set_option maxRecDepth 100000
set_option maxHeartbeats 16000000
namespace Go.Proofs.YtknoefbcmomalaaGreatDoor
section
namespace Tab
open Go.RowKit
open Path (bl Zaf overB Zan)
open Lease (Ses Ans fresh ZaE SR AR arP rowR poolP Rel RelS findR saidA insA okA)
open Lock (S3 Ent rowE rowC)
open Cmd (Cm Zao)
attribute [-go_sem] run_eql_struct run_neq_struct run_eqGuard_agg
theorem Zle (l:S3) (p:ByteArray) (n:Int) (f:ByteArray) (m:Int):(l.add p n f m).first=l.first:=by
 unfold Lock.S3.add Lock.S3.added;split<;>rfl
theorem Zir (T:TS) (c:Cm):(doT T c).1.L.first=T.L.first:=by
 have ha:(addT T c).1.L.first=T.L.first:=Zle _ _ _ _ _;unfold doT;split
 · rw[opT_L]
 split
 · exact(ZfR T c _).2.2
 split
 · rw[opT_L]
 unfold ZaX;split
 · rfl
 split
 · exact ha
 split
 · unfold tryT;split
   · exact ha
   split<;>rfl
 split<;>rfl
theorem ZhM (T:TS) (c:Cm):(Zav T c).1.L.first=T.L.first:=by
 unfold Zav;split
 · rfl
 split
 · exact(ZfR T c _).2.2
 split
 · rfl
 split
 · rfl
 unfold tellT;rw[opT_L];exact Zir T c
theorem call4 {L0 L F G H I K':List Part} {w0 w w':World} (h:At L0 w0 L w) {A B C D:Part} (s:Sel A L F) (r:Sel B F G) (q:Sel C G H) (u:Sel D H I) (t:At [A,B,C,D] w K' w'):At L0 w0 (K'++I) w':=
 At.frame (K:=[A,B,C,D]) (h.perm (s.perm.trans ((r.perm.trans ((q.perm.trans (u.perm.cons C)).cons B)).cons A))) t
def TellP (w:World) (v:Value) (L:List SR) (PL:List (Value × List AR)) (S':List Ses) (e:Ending) (w':World):Prop:=
 ∃(ax:Option Addr) (k cap:Nat) (L':List SR) (PL':List (Value × List AR)),e=.returned (.agg #[.slice ax k cap])∧Lease.Inv S' L' PL'∧At [rowR v L,poolP PL] w [rowR (.slice ax k cap) L',poolP PL'] w'
theorem Znu {w:World} {v:Value} {L:List SR} {PL:List (Value × List AR)} {T:TS} {c:Cm} {a:Ans} (h:Sep [rowR v L,poolP PL] w) (hi:Lease.Inv T.S L PL) (hmax:L.length≤1000000) (hb:0≤c.req∧c.req < Lease.big64) (ha:okA (arA c.req a)) (hf:c.foot.size≤2000000):
 Calls Tryz.prog 29 #[.agg #[v],.agg (findR L c.num c.foot).cells.toArray,.agg (AR.cells (arA c.req a)).toArray] w (TellP w v L PL (tellT T c a).S):=by
 have hs:=hi.found c.num c.foot;have hr:=Zco hi.rel (n:=c.num) (f:=c.foot);refine(Lease.ZmK h hs (arA c.req a) hmax hr.told.len (code:=Lease.tellE (lookA T.S c.num c.foot) c.req) (hr.tellE c.req)).mono ?_;have e1:=hr.tellE c.req;rintro e w1 (⟨q,rfl,hT⟩|⟨q,v',ax,cap,rfl,hT⟩)
 · obtain⟨bx,bk,bc,rfl⟩:=ZaF hT .here;refine⟨bx,bk,bc,L,PL,rfl,?_,hT⟩;unfold tellT opT;rw[if_neg q];exact hi
 obtain⟨bx,bk,bc,rfl⟩:=ZaF hT .here;refine⟨bx,bk,bc,_,_,rfl,?_,hT⟩;unfold tellT opT;rw[if_pos q];rw[q] at e1
 have hn:saidA (findR L c.num c.foot).told c.req=none:=by
  cases z:saidA (findR L c.num c.foot).told c.req with
  |none=>rfl
  |some x=>rw[z] at e1;simp at e1
 rw[hn] at e1
 have hl:(findR L c.num c.foot).told.length < 256:=by
  by_cases z:256≤(findR L c.num c.foot).told.length
  · rw[if_pos z] at e1;simp at e1
  omega
 exact hi.put (ZlQ hi.rel (x:=arA c.req a) hn hl hb ha ax cap) (fun q h=>List.mem_cons_of_mem _ h) (List.mem_cons_self ..) (by show(findR L c.num c.foot).foot.size≤2000000;rw[(Lease.Zec (L:=L) (n:=c.num) (f:=c.foot)).2];exact hf)
def APost (first:Int) (w:World) (D:DS) (T:TS) (a:Ans) (e:Ending) (w':World):Prop:=
 ∃(D':DS) (x:AR),e=.returned (.tuple #[D'.val first,.agg (AR.cells x).toArray])∧(arP x).2=a∧DIn T D'∧(∀q ∈ D.QE,q ∈ D'.QE)∧At D.parts w D'.parts w'
theorem Zjm {w:World} {D:DS} {T:TS} (h:Sep D.parts w) (hD:DIn T D) (kind num:Int) (foot:ByteArray) (req:Int) (path:ByteArray) (mode n time:Int) {k:Nat} (hI:TInv T k) (hk:k≤99999) (hc:CmOk ⟨kind,num,foot,req,path,mode,n,time⟩) (hq:0≤req∧req < Lease.big64) (hn0:0≤n) (hao:okA (arA req (doT T ⟨kind,num,foot,req,path,mode,n,time⟩).2)):
 Calls Tryz.prog 8 #[D.val T.L.first,.agg #[.int .i64 kind,.int .u64 num,.string foot,.int .u64 req,.string path,.int .i64 mode,.int .u64 n,.int .i64 time]] w (APost T.L.first w D (Zav T ⟨kind,num,foot,req,path,mode,n,time⟩).1 (Zav T ⟨kind,num,foot,req,path,mode,n,time⟩).2):=by
 have hm:Tryz.prog.follows .mixedOrders=true:=by kernel_rfl
 have hf:foot.size≤1000:=Nat.le_trans hc.foot (by omega);have hp:path.size≤1000:=Nat.le_trans hc.path (by omega);have hdo:=fun(hr:Zao ⟨kind,num,foot,req,path,mode,n,time⟩=true) (w1:World) (q:Sep D.parts w1)=>Zof q hD kind num foot req path mode n time hI (by omega) hf hp (fun e=>⟨hn0,Zgj hr e⟩);have hde:=ZkU (c:=⟨kind,num,foot,req,path,mode,n,time⟩) hI.s hI.lock hc;have hdf:(doT T ⟨kind,num,foot,req,path,mode,n,time⟩).1.L.first=T.L.first:=Zir T _;obtain⟨⟨sx,sn,sc,h1⟩,⟨ex,en,ec,h2⟩,⟨cx,cn,cc,h3⟩⟩:=ZbX (At.start h) hD;obtain⟨vS,L,PL,vE,QE,vC,QC⟩:=D;simp only at h1 h2 h3;subst h1 h2 h3;have hA:At [rowR (.slice sx sn sc) L,poolP PL,poolE QE,poolC QC] w [rowR (.slice sx sn sc) L,poolP PL,poolE QE,poolC QC] w:=At.start h;clear h;have hrs:=Zco hD.lease.rel (n:=num) (f:=foot);have hmem:=hD.lease.found num foot;have hkey:=Lease.Zec (L:=L) (n:=num) (f:=foot);have hlen:L.length≤1000000:=Nat.le_trans (Zd5 hI.s hD.lease.rel) (by omega);have hex:=ZlW hD.lease.rel (n:=num) (f:=foot) time;have hsa:=ZlS hD.lease.rel (n:=num) (f:=foot) req;have hsz:=ZlR hD.lease.rel (n:=num) (f:=foot);have hri:=fun w=>Cmd.Zhg ⟨kind,num,foot,req,path,mode,n,time⟩ hf hp w
 obtain⟨first,hfi⟩:∃z,T.L.first=z:=⟨_,rfl⟩
 have ha0:Zao ⟨kind,num,foot,req,path,mode,n,time⟩=false∨kind=0→Zav T ⟨kind,num,foot,req,path,mode,n,time⟩=(T,ans0):=fun e=>by
  unfold Zav;rw[if_pos e]
 have ha8:Zao ⟨kind,num,foot,req,path,mode,n,time⟩=true→kind=8→Zav T ⟨kind,num,foot,req,path,mode,n,time⟩=(endT T ⟨kind,num,foot,req,path,mode,n,time⟩ (Lease.expE (findR L num foot) time),ansE (Lease.expE (findR L num foot) time)):=fun e1 e2=>by
  unfold Zav;rw[if_neg (fun q=>q.elim (fun z=>by rw[e1] at z;cases z) (fun z=>by have z:kind=0:=z;omega)),if_pos (show kind=8 from e2)];simp only[hex]
 have haS:Zao ⟨kind,num,foot,req,path,mode,n,time⟩=true→kind≠0→kind≠8→∀x,saidA (findR L num foot).told req=some x→Zav T ⟨kind,num,foot,req,path,mode,n,time⟩=(T,(arP x).2):=fun e1 e2 e3 x hx=>by
  unfold Zav;rw[if_neg (fun q=>q.elim (fun z=>by rw[e1] at z;cases z) (fun z=>by have z:kind=0:=z;omega)),if_neg (show ¬kind=8 from e3)];simp only[hsa,hx,Option.map_some]
 have haN:Zao ⟨kind,num,foot,req,path,mode,n,time⟩=true→kind≠0→kind≠8→saidA (findR L num foot).told req=none→Zav T ⟨kind,num,foot,req,path,mode,n,time⟩=if 256≤(findR L num foot).told.length then(T,ansE 14) else(tellT (doT T ⟨kind,num,foot,req,path,mode,n,time⟩).1 ⟨kind,num,foot,req,path,mode,n,time⟩ (doT T ⟨kind,num,foot,req,path,mode,n,time⟩).2,(doT T ⟨kind,num,foot,req,path,mode,n,time⟩).2):=fun e1 e2 e3 hx=>by
  unfold Zav;rw[if_neg (fun q=>q.elim (fun z=>by rw[e1] at z;cases z) (fun z=>by have z:kind=0:=z;omega)),if_neg (show ¬kind=8 from e3)];simp only[hsa,hx,Option.map_none,hsz]
 have hi8:Lease.Inv (endT T ⟨kind,num,foot,req,path,mode,n,time⟩ (Lease.expE (findR L num foot) time)).S (if Lease.expE (findR L num foot) time=0 then Lease.putR L (findR L num foot).ended else L) PL:=by
  rw[Zni];exact Zig hD.lease (fun _=>Zhf hD.lease.rel) hmem (by show(findR L num foot).foot.size≤2000000;rw[hkey.2];omega)
 have hdr:=fun(code:Int) (vS2:Value) (hv2:∃ax k cap,vS2=.slice ax k cap) (w1:World) (q:Sep [poolE QE] w1)=>Zef q hD.le first vS2 (.slice cx cn cc) hv2 ⟨_,_,_,rfl⟩ kind num foot req path mode n time code (Nat.le_trans hI.lock.len (by omega))
 have hes:=ZfR T ⟨kind,num,foot,req,path,mode,n,time⟩ (Lease.expE (findR L num foot) time);simp only[DS.val] at hdo;rw[hfi] at hdo hdf ⊢
 obtain⟨s,hs⟩:∃z,findR L num foot=z:=⟨_,rfl⟩
 rw[hs] at hrs hmem hkey ha8 haS haN hi8 hes;have htl:=hrs.told.len;obtain⟨RA,hRA⟩:=outA hmem;have hsd:=fun(w1:World) (q:Sep [poolP PL] w1)=>Zoo hRA q (fun q2=>Lease.ZcU (s:=s) q2 req (by omega));have hs':=Hd hs;have ha0':=Hd ha0;have ha8':=Hd ha8;have haS':=Hd haS;have haN':=Hd haN;have hi8':=Hd hi8;have hdr':=Hd hdr;have hes':=Hd hes;have hD':=Hd hD;have hdo':=Hd hdo;have hde':=Hd hde;have hdf':=Hd hdf;have hao':=Hd hao;have hc':=Hd hc;have hq':=Hd hq;have hsd':=Hd hsd;have htl':=Hd htl;have hri':=Hd hri;have hkey':=Hd hkey;clear hs hrs hmem hkey ha0 ha8 haS haN hi8 hdr hes hD hdo hde hdf hao hc hsd htl hri hex hsa hsz hRA hfi hI hq hn0;obtain⟨hA,hF⟩:=fZ hA
 obtain⟨rc,hrc⟩:∃z,Zao ⟨kind,num,foot,req,path,mode,n,time⟩=z:=⟨_,rfl⟩
 have hri:=hri'.out;rw[hrc] at hri;have hrc':=Hd hrc;have hri2:=Hd hri;clear hrc hri hri';by_cases hz:rc=false∨kind=0
 · have ha:=ha0'.out (by rw[hrc'.out];exact hz);have ha':=Hd ha;clear ha
   have hcs:rc=false∨(rc=true∧kind=0):=by
    cases rc
    · exact .inl rfl
    exact .inr ⟨rfl,by simpa using hz⟩
   clear hz;rcases hcs with rfl|⟨rfl,rfl⟩
   all_goals
    go_enter Tryz.func8,Tryz.ntmps8
    go_wp2_with (first|(((with_reducible refine gbxD 2 ?_);refine wHz 40 [.slice sx sn sc,.int .u64 first,.slice ex en ec,.slice cx cn cc] hA ?_;clear hF hA;intro bX w1 hA hbX hF))|(((with_reducible refine gbxD 3 ?_);refine wHz 49 [.int .i64 kind,.int .u64 num,.string foot,.int .u64 req,.string path,.int .i64 mode,.int .u64 n,.int .i64 time] hA ?_;clear hF hA;intro bC w1 hA hbC hF))|(((with_reducible refine galD 4 ?_);refine g4 hA ?_;clear hF hA;intro bT w1 hA hbT hF))|(((with_reducible refine galD 5 ?_);refine g0 hA ?_;clear hF hA;intro bR w1 hA hbR hF))|((with_reducible refine gbx ?_);refine wCz hA ?_;clear hF hA;intro b1 w1 hA hb1 hF))
    refine(hri2.out _).mono ?_;rintro e w1 ⟨rfl,hx⟩;replace hA:=hA.ext hx;clear hx hF;obtain⟨hA,hF⟩:=fZ hA
    go_wp2_with ((with_reducible refine gst ?_);refine wTz hA ?_;clear hF hA;intro w1 hA hF)
    refine bodyPost_ret (v:=.tuple #[.agg #[.slice sx sn sc,.int .u64 first,.slice ex en ec,.slice cx cn cc],.agg #[.int .u64 0,.int .i64 0,.int .u64 0,.bool false]]) (by simp[results,Tryz.results8,go_sem,hF]) rfl ?_;rw[ha'.out];exact⟨⟨.slice sx sn sc,L,PL,.slice ex en ec,QE,.slice cx cn cc,QC⟩,⟨0,0,0,false⟩,rfl,rfl,hD'.out,fun q h=>h,(show At [rowR _ _,poolP _,poolE _,poolC _] _ [rowR _ _,poolP _,poolE _,poolC _] _ from hA.pick pR)⟩
 have hrt:rc=true:=by
  cases rc
  · exact absurd (.inl rfl) hz
  rfl
 subst hrt;have k0:¬kind=0:=fun q=>hz (.inr q);clear hz ha0';by_cases x8:kind=8
 · subst x8;have ha:=ha8'.out hrc'.out rfl
   obtain⟨co,hco⟩:∃z,Lease.expE s time=z:=⟨_,rfl⟩
   have hz:=fun(w1:World) (q:Sep [rowR (.slice sx sn sc) L] w1)=>Zfp (Lease.ZhA q s time hlen);have hin:=hi8'.out;have hes:=hes'.out;simp only[hco] at hz hin ha hes
   obtain⟨L2,hL2⟩:∃z,(if co=0 then Lease.putR L s.ended else L)=z:=⟨_,rfl⟩
   simp only[hL2] at hz hin;have hdz:=fun(dx:Option Addr) (dn dc:Nat) (w1:World) (q:Sep [poolE QE] w1)=>Znj (hdr'.out co (.slice dx dn dc) ⟨_,_,_,rfl⟩ w1 q);have hz':=Hd hz;have hin':=Hd hin;have ha':=Hd ha;have he2':=Hd hes;have hdz0:=Hd hdz;clear hz hin ha hco hL2 hes hdz ha8' haS' haN' hi8' hdr' hes' hdo' hde' hdf' hao' hsd';go_enter Tryz.func8,Tryz.ntmps8
   go_wp2_with (first|(((with_reducible refine gbxD 2 ?_);refine wHz 40 [.slice sx sn sc,.int .u64 first,.slice ex en ec,.slice cx cn cc] hA ?_;clear hF hA;intro bX w1 hA hbX hF))|(((with_reducible refine gbxD 3 ?_);refine wHz 49 [.int .i64 8,.int .u64 num,.string foot,.int .u64 req,.string path,.int .i64 mode,.int .u64 n,.int .i64 time] hA ?_;clear hF hA;intro bC w1 hA hbC hF))|(((with_reducible refine galD 4 ?_);refine g4 hA ?_;clear hF hA;intro bT w1 hA hbT hF))|(((with_reducible refine galD 5 ?_);refine g0 hA ?_;clear hF hA;intro bR w1 hA hbR hF)))
   refine(hri2.out _).mono ?_;rintro e w1 ⟨rfl,hx⟩;replace hA:=hA.ext hx;clear hx hF;obtain⟨hA,hF⟩:=fZ hA;go_wp2_with fail;refine(Lease.findR_any (hA.sep1 (A:=rowR (.slice sx sn sc) L) sR) num foot hlen).mono ?_;rw[hs'.out];rintro e w1 ⟨rfl,hT⟩;replace hA:=hA.call1 (A:=rowR (.slice sx sn sc) L) sR hT;clear hT hF;obtain⟨hA,hF⟩:=fZ hA
   go_wp2_with (first|(((with_reducible refine galD 6 ?_);refine g9 hA ?_;clear hF hA;intro bS w1 hA hbS hF))|(((with_reducible refine galD 7 ?_);refine g0 hA ?_;clear hF hA;intro bA w1 hA hbA hF))|(refine Zam (b:=bS) (j:=0) (vs:=SR.cells s) rfl rfl rfl (by(try simp only[Act.eval,eV])<;>exact rfl) (by exact rfl) hA sR (by kernel_rfl) (Lease.SR.ones _) (by show 0 + 7≤7;omega) ?_;intro w1 hB;replace hA:=hB;clear hF hB;simp only[SR.cells,SR.tv] at hA;obtain⟨hA,hF⟩:=fZ hA)|((with_reducible refine gst ?_);refine wTz hA ?_;clear hF hA;intro w1 hA hF))
   refine(hz'.out _ (hA.sep1 (A:=rowR (.slice sx sn sc) L) sR)).mono ?_;clear hz';rintro e w1 ⟨v',rfl,hT⟩;have hB:=hA.call1 (A:=rowR (.slice sx sn sc) L) sR hT;obtain⟨dx,dn,dc,rfl⟩:=ZaF hB .here;clear hT;replace hA:=hB;clear hF hB;obtain⟨hA,hF⟩:=fZ hA
   go_upto_region 7 with((with_reducible refine gst ?_);refine wTz hA ?_;clear hF hA;intro w1 hA hF)
   (try go_frame);have hdz':=Hd (hdz0.out dx dn dc);replace hA:=hA.drew;clear hF;refine wp_region_held (S:=fun w'=>Zaa w' bX [.slice dx dn dc,.int .u64 first,.slice ex en ec,.slice cx cn cc] 40∧Zaa w' bC (k8 8 num foot req path mode n time) 49∧Zaa w' bA [.int .u64 0,.int .i64 co,.int .u64 0,.bool false] 45) hm ?_;change wpAnyH _ _ _ _ _ 8 _ _ (World.drew _);generalize World.drew _=wd at *
   have hS0:=(⟨hA.get (A:=Part.cells bX [.slice dx dn dc,.int .u64 first,.slice ex en ec,.slice cx cn cc] 40) sZ,hA.get (A:=Part.cells bC (k8 8 num foot req path mode n time) 49) sZ,hA.get (A:=Part.cells bA [.int .u64 0,.int .i64 co,.int .u64 0,.bool false] 45) sZ⟩:(fun w'=>Zaa w' bX [.slice dx dn dc,.int .u64 first,.slice ex en ec,.slice cx cn cc] 40∧Zaa w' bC (k8 8 num foot req path mode n time) 49∧Zaa w' bA [.int .u64 0,.int .i64 co,.int .u64 0,.bool false] 45) wd)
   refine tZ 0 43 (.agg #[.slice dx dn dc,.int .u64 first,.slice ex en ec,.slice cx cn cc]) (r:=(fun w' hS=>Zah (ty:=40) (n:=4) (b:=bX) (j:=0) rfl (by exact rfl) hS.1 (by kernel_rfl) (by kernel_rfl) rfl rfl)) (s:=hS0) (h:= ?_);(try go_frame);refine tZ 1 44 (.agg #[.int .i64 8,.int .u64 num,.string foot,.int .u64 req,.string path,.int .i64 mode,.int .u64 n,.int .i64 time]) (r:=(fun w' hS=>Zah (ty:=49) (n:=8) (b:=bC) (j:=0) rfl (by exact rfl) hS.2.1 (by kernel_rfl) (by kernel_rfl) rfl rfl)) (s:=hS0) (h:= ?_);(try go_frame);refine tP 2 45 (.pointer (some ⟨bA,1,none⟩)) (s:=hS0) (h:= ?_);(try go_frame);refine tZ 3 46 (.int .i64 co) (r:=(fun w' hS=>Zae (ty:=3) (b:=bA) (j:=1) rfl (by exact rfl) hS.2.2 (by kernel_rfl) rfl)) (s:=hS0) (h:= ?_);(try go_frame);refine tZ 5 48 (.agg #[.int .u64 0,.int .i64 co,.int .u64 0,.bool false]) (r:=(fun w' hS=>Zah (ty:=45) (n:=4) (b:=bA) (j:=0) rfl (by exact rfl) hS.2.2 (by kernel_rfl) (by kernel_rfl) rfl rfl)) (s:=hS0) (h:= ?_);(try go_frame);refine Zab (i:=4) (by kernel_rfl) ?_;refine cY 4 47 26 (fun u w'=>∃(dx2:Option Addr) (dn2 dc2:Nat) (QE2:PE),u=.agg #[.slice dx dn dc,.int .u64 first,.slice dx2 dn2 dc2,.slice cx cn cc]∧(.slice dx2 dn2 dc2,(if co=0 then T.L.es.filter (fun x=> !x.of num foot) else T.L.es)) ∈ QE2∧(∀q ∈ QE,q ∈ QE2)∧At [poolE QE] _ [poolE QE2] w') (hdz'.out _ (hA.sep1 (A:=poolE QE) sZ)) ?_;rintro u w3 ⟨dx2,dn2,dc2,QE2,rfl,hm2,hs2,hT⟩;have hm2':=Hd hm2;have hs2':=Hd hs2;have hB:=hA.call1 (A:=poolE QE) sZ hT;clear hT hm2 hs2;simp only[uA] at hB;refine andH ⟨hB.ci,hB.ci,hB.ci⟩ fun hS0=> ?_;replace hA:=hB;clear hB;(try go_frame);refine Zab (i:=6) (by kernel_rfl) ?_;refine stZ 6 bT 0 [.slice dx dn dc,.int .u64 first,.slice dx2 dn2 dc2,.slice cx cn cc] hA ?_;intro w3 hB;simp only[uA] at hB;refine andH ⟨hB.ci,hB.ci,hB.ci⟩ fun hS0=> ?_;replace hA:=hB;clear hB;(try go_frame);refine Zab (i:=7) (by kernel_rfl) ?_;refine stZ 7 bR 0 [.int .u64 0,.int .i64 co,.int .u64 0,.bool false] hA ?_;intro w3 hB;simp only[uA] at hB;refine andH ⟨hB.ci,hB.ci,hB.ci⟩ fun hS0=> ?_;replace hA:=hB;clear hB;(try go_frame);refine wpAnyH_done (by kernel_rfl) ?_ _;(try go_frame);clear hS0;obtain⟨hA,hF⟩:=fZ hA;go_wp2_with fail;refine bodyPost_ret (v:=.tuple #[.agg #[.slice dx dn dc,.int .u64 first,.slice dx2 dn2 dc2,.slice cx cn cc],.agg #[.int .u64 0,.int .i64 co,.int .u64 0,.bool false]]) (by simp[results,Tryz.results8,go_sem,hF]) rfl ?_;rw[ha'.out];exact⟨⟨.slice dx dn dc,L2,PL,.slice dx2 dn2 dc2,QE2,.slice cx cn cc,QC⟩,⟨0,co,0,false⟩,rfl,rfl,⟨hin'.out,by rw[he2'.out.1];exact hm2'.out,by rw[he2'.out.2.1];exact hD'.out.lc⟩,hs2'.out,(show At [rowR _ _,poolP _,poolE _,poolC _] _ [rowR _ _,poolP _,poolE _,poolC _] _ from hA.pick pR)⟩
 have k0':(kind==0)=false:=by simpa using k0
 have x8':(kind==8)=false:=by simpa using x8
 clear ha8' hi8' hdr' hes'
 cases hsa:saidA s.told req with
 |some x=>
  have ha:=haS'.out hrc'.out k0 x8 x hsa;have ha':=Hd ha;obtain⟨xr,xe,xn,xg⟩:=x;clear ha haS' haN' hdo' hde' hdf' hao' k0 x8;go_enter Tryz.func8,Tryz.ntmps8
  go_wp2_with (first|(((with_reducible refine gbxD 2 ?_);refine wHz 40 [.slice sx sn sc,.int .u64 first,.slice ex en ec,.slice cx cn cc] hA ?_;clear hF hA;intro bX w1 hA hbX hF))|(((with_reducible refine gbxD 3 ?_);refine wHz 49 [.int .i64 kind,.int .u64 num,.string foot,.int .u64 req,.string path,.int .i64 mode,.int .u64 n,.int .i64 time] hA ?_;clear hF hA;intro bC w1 hA hbC hF))|(((with_reducible refine galD 4 ?_);refine g4 hA ?_;clear hF hA;intro bT w1 hA hbT hF))|(((with_reducible refine galD 5 ?_);refine g0 hA ?_;clear hF hA;intro bR w1 hA hbR hF)))
  refine(hri2.out _).mono ?_;rintro e w1 ⟨rfl,hx⟩;replace hA:=hA.ext hx;clear hx hF;obtain⟨hA,hF⟩:=fZ hA;go_wp2_with fail;refine(Lease.findR_any (hA.sep1 (A:=rowR (.slice sx sn sc) L) sR) num foot hlen).mono ?_;rw[hs'.out];rintro e w1 ⟨rfl,hT⟩;replace hA:=hA.call1 (A:=rowR (.slice sx sn sc) L) sR hT;clear hT hF;obtain⟨hA,hF⟩:=fZ hA
  go_wp2_with (first|(((with_reducible refine galD 6 ?_);refine g9 hA ?_;clear hF hA;intro bS w1 hA hbS hF))|(refine Zam (b:=bS) (j:=0) (vs:=SR.cells s) rfl rfl rfl (by(try simp only[Act.eval,eV])<;>exact rfl) (by exact rfl) hA sR (by kernel_rfl) (Lease.SR.ones _) (by show 0 + 7≤7;omega) ?_;intro w1 hB;replace hA:=hB;clear hF hB;simp only[SR.cells,SR.tv] at hA;obtain⟨hA,hF⟩:=fZ hA))
  refine(hsd'.out _ (hA.sep1 (A:=poolP PL) sR)).mono ?_;clear hsd';rw[hsa];rintro e w1 ⟨rfl,hT⟩;replace hA:=hA.call1 (A:=poolP PL) sR hT;clear hT hF;obtain⟨hA,hF⟩:=fZ hA;simp only[Option.getD_some,Option.isSome_some,AR.cells] at *
  go_wp2_with (first|(((with_reducible refine galD 8 ?_);refine g0 hA ?_;clear hF hA;intro bO w1 hA hbO hF))|((with_reducible refine gst ?_);refine wTz hA ?_;clear hF hA;intro w1 hA hF))
  (try go_frame);refine csZ 2 40 bT 0 [.slice sx sn sc,.int .u64 first,.slice ex en ec,.slice cx cn cc] hA ?_;intro w1 hB;replace hA:=hB;clear hF hB;(simp only[List.drop_succ_cons,List.drop_zero]);obtain⟨hA,hF⟩:=fZ hA;(try go_frame)
  go_wp2_with ((with_reducible refine gst ?_);refine wTz hA ?_;clear hF hA;intro w1 hA hF)
  refine bodyPost_ret (v:=.tuple #[.agg #[.slice sx sn sc,.int .u64 first,.slice ex en ec,.slice cx cn cc],.agg #[.int .u64 xr,.int .i64 xe,.int .u64 xn,.bool xg]]) (by simp[results,Tryz.results8,go_sem,hF]) rfl ?_;rw[ha'.out];exact⟨⟨.slice sx sn sc,L,PL,.slice ex en ec,QE,.slice cx cn cc,QC⟩,⟨xr,xe,xn,xg⟩,rfl,rfl,hD'.out,fun q h=>h,(show At [rowR _ _,poolP _,poolE _,poolC _] _ [rowR _ _,poolP _,poolE _,poolC _] _ from hA.pick pR)⟩
 |none=>
  have ha:=haN'.out hrc'.out k0 x8 hsa;clear haS' haN' k0 x8;by_cases h256:256≤s.told.length
  · rw[if_pos h256] at ha;have ha':=Hd ha;have h25:(256:Int)≤(s.told.length:Int):=by omega
    clear ha hdo' hde' hdf' hao' h256;go_enter Tryz.func8,Tryz.ntmps8
    go_wp2_with (first|(((with_reducible refine gbxD 2 ?_);refine wHz 40 [.slice sx sn sc,.int .u64 first,.slice ex en ec,.slice cx cn cc] hA ?_;clear hF hA;intro bX w1 hA hbX hF))|(((with_reducible refine gbxD 3 ?_);refine wHz 49 [.int .i64 kind,.int .u64 num,.string foot,.int .u64 req,.string path,.int .i64 mode,.int .u64 n,.int .i64 time] hA ?_;clear hF hA;intro bC w1 hA hbC hF))|(((with_reducible refine galD 4 ?_);refine g4 hA ?_;clear hF hA;intro bT w1 hA hbT hF))|(((with_reducible refine galD 5 ?_);refine g0 hA ?_;clear hF hA;intro bR w1 hA hbR hF)))
    refine(hri2.out _).mono ?_;rintro e w1 ⟨rfl,hx⟩;replace hA:=hA.ext hx;clear hx hF;obtain⟨hA,hF⟩:=fZ hA;go_wp2_with fail;refine(Lease.findR_any (hA.sep1 (A:=rowR (.slice sx sn sc) L) sR) num foot hlen).mono ?_;rw[hs'.out];rintro e w1 ⟨rfl,hT⟩;replace hA:=hA.call1 (A:=rowR (.slice sx sn sc) L) sR hT;clear hT hF;obtain⟨hA,hF⟩:=fZ hA
    go_wp2_with (first|(((with_reducible refine galD 6 ?_);refine g9 hA ?_;clear hF hA;intro bS w1 hA hbS hF))|(refine Zam (b:=bS) (j:=0) (vs:=SR.cells s) rfl rfl rfl (by(try simp only[Act.eval,eV])<;>exact rfl) (by exact rfl) hA sR (by kernel_rfl) (Lease.SR.ones _) (by show 0 + 7≤7;omega) ?_;intro w1 hB;replace hA:=hB;clear hF hB;simp only[SR.cells,SR.tv] at hA;obtain⟨hA,hF⟩:=fZ hA))
    refine(hsd'.out _ (hA.sep1 (A:=poolP PL) sR)).mono ?_;clear hsd';rw[hsa];rintro e w1 ⟨rfl,hT⟩;replace hA:=hA.call1 (A:=poolP PL) sR hT;clear hT hF;obtain⟨hA,hF⟩:=fZ hA;simp only[Option.getD_none,Option.isSome_none,Lease.noAR,AR.cells] at *
    go_wp2_with (first|(((with_reducible refine galD 8 ?_);refine g0 hA ?_;clear hF hA;intro bO w1 hA hbO hF))|((with_reducible refine gst ?_);refine wTz hA ?_;clear hF hA;intro w1 hA hF))
    (try go_frame);refine csZ 4 40 bT 0 [.slice sx sn sc,.int .u64 first,.slice ex en ec,.slice cx cn cc] hA ?_;intro w1 hB;replace hA:=hB;clear hF hB;(simp only[List.drop_succ_cons,List.drop_zero]);obtain⟨hA,hF⟩:=fZ hA;(try go_frame)
    go_wp2_with ((with_reducible refine gst ?_);refine wTz hA ?_;clear hF hA;intro w1 hA hF)
    refine bodyPost_ret (v:=.tuple #[.agg #[.slice sx sn sc,.int .u64 first,.slice ex en ec,.slice cx cn cc],.agg #[.int .u64 req,.int .i64 14,.int .u64 0,.bool false]]) (by simp[results,Tryz.results8,go_sem,hF]) rfl ?_;rw[ha'.out];exact⟨⟨.slice sx sn sc,L,PL,.slice ex en ec,QE,.slice cx cn cc,QC⟩,⟨req,14,0,false⟩,rfl,rfl,hD'.out,fun q h=>h,(show At [rowR _ _,poolP _,poolE _,poolC _] _ [rowR _ _,poolP _,poolE _,poolC _] _ from hA.pick pR)⟩
  rw[if_neg h256] at ha;have ha':=Hd ha;have h25:decide ((256:Int)≤(s.told.length:Int))=false:=by simp;omega
  clear ha h256;go_enter Tryz.func8,Tryz.ntmps8
  go_wp2_with (first|(((with_reducible refine gbxD 2 ?_);refine wHz 40 [.slice sx sn sc,.int .u64 first,.slice ex en ec,.slice cx cn cc] hA ?_;clear hF hA;intro bX w1 hA hbX hF))|(((with_reducible refine gbxD 3 ?_);refine wHz 49 [.int .i64 kind,.int .u64 num,.string foot,.int .u64 req,.string path,.int .i64 mode,.int .u64 n,.int .i64 time] hA ?_;clear hF hA;intro bC w1 hA hbC hF))|(((with_reducible refine galD 4 ?_);refine g4 hA ?_;clear hF hA;intro bT w1 hA hbT hF))|(((with_reducible refine galD 5 ?_);refine g0 hA ?_;clear hF hA;intro bR w1 hA hbR hF)))
  refine(hri2.out _).mono ?_;rintro e w1 ⟨rfl,hx⟩;replace hA:=hA.ext hx;clear hx hF;obtain⟨hA,hF⟩:=fZ hA;go_wp2_with fail;refine(Lease.findR_any (hA.sep1 (A:=rowR (.slice sx sn sc) L) sR) num foot hlen).mono ?_;rw[hs'.out];rintro e w1 ⟨rfl,hT⟩;replace hA:=hA.call1 (A:=rowR (.slice sx sn sc) L) sR hT;clear hT hF;obtain⟨hA,hF⟩:=fZ hA
  go_wp2_with (first|(((with_reducible refine galD 6 ?_);refine g9 hA ?_;clear hF hA;intro bS w1 hA hbS hF))|(refine Zam (b:=bS) (j:=0) (vs:=SR.cells s) rfl rfl rfl (by(try simp only[Act.eval,eV])<;>exact rfl) (by exact rfl) hA sR (by kernel_rfl) (Lease.SR.ones _) (by show 0 + 7≤7;omega) ?_;intro w1 hB;replace hA:=hB;clear hF hB;simp only[SR.cells,SR.tv] at hA;obtain⟨hA,hF⟩:=fZ hA))
  refine(hsd'.out _ (hA.sep1 (A:=poolP PL) sR)).mono ?_;clear hsd';rw[hsa];rintro e w1 ⟨rfl,hT⟩;replace hA:=hA.call1 (A:=poolP PL) sR hT;clear hT hF;obtain⟨hA,hF⟩:=fZ hA;simp only[Option.getD_none,Option.isSome_none,Lease.noAR,AR.cells] at *
  go_wp2_with (first|(((with_reducible refine galD 8 ?_);refine g0 hA ?_;clear hF hA;intro bO w1 hA hbO hF))|((with_reducible refine gst ?_);refine wTz hA ?_;clear hF hA;intro w1 hA hF))
  refine(hdo'.out hrc'.out _ (hA.seps (K:=[rowR (.slice sx sn sc) L,poolP PL,poolE QE,poolC QC]) pR)).mono ?_;clear hdo';rintro e w1 ⟨D2,rfl,hD2,hs2,hT⟩;have hB:=call4 hA (A:=rowR (.slice sx sn sc) L) (B:=poolP PL) (C:=poolE QE) (D:=poolC QC) sR sR sR sR hT;obtain⟨⟨ux,uk,uc,z1⟩,⟨px,pk,pc,z2⟩,⟨ox,ok,oc,z3⟩⟩:=ZbX hT hD2;obtain⟨vS2,L2,PL2,vE2,QE2,vC2,QC2⟩:=D2;simp only at z1 z2 z3 hs2;subst z1 z2 z3;have hlen2:L2.length≤1000000:=Nat.le_trans (Zd5 hde'.out.1 hD2.lease.rel) (by omega)
  obtain⟨⟨ye,yn,yg⟩,hy⟩:∃z,(doT T ⟨kind,num,foot,req,path,mode,n,time⟩).2=z:=⟨_,rfl⟩
  have htl:=fun(w1:World) (q:Sep [rowR (.slice ux uk uc) L2,poolP PL2] w1)=>Znu (c:=⟨kind,num,foot,req,path,mode,n,time⟩) q hD2.lease hlen2 hq'.out hao'.out (Nat.le_trans hf (by omega));have hfi:=fun(w1:World) (q:Sep [rowR (.slice ux uk uc) L2] w1)=>Lease.findR_any q num foot hlen2;have hd2:DIn (tellT (doT T ⟨kind,num,foot,req,path,mode,n,time⟩).1 ⟨kind,num,foot,req,path,mode,n,time⟩ ⟨ye,yn,yg⟩) ⟨.slice ux uk uc,L2,PL2,.slice px pk pc,QE2,.slice ox ok oc,QC2⟩→True:=fun _=>trivial;rw[hy] at htl ha' ⊢;simp only[arA,AR.cells] at htl ⊢
  obtain⟨s2,hs2e⟩:∃z,findR L2 num foot=z:=⟨_,rfl⟩
  rw[hs2e] at hfi htl;have htl':=Hd htl;have hfi':=Hd hfi;have hD2':=Hd hD2;have hs2':=Hd hs2;have hy':=Hd hy;have hB:At [rowR (.slice sx sn sc) L,poolP PL,poolE QE,poolC QC] w ([rowR (.slice ux uk uc) L2,poolP PL2,poolE QE2,poolC QC2]++_) w1:=hB;simp only[DS.val];clear hT hD2 hs2 hy htl hfi hs2e hd2 hao' hde';replace hA:=hB;clear hF hB;obtain⟨hA,hF⟩:=fZ hA
  go_upto_region 14 with(first|(((with_reducible refine galD 10 ?_);refine g0 hA ?_;clear hF hA;intro bQ w1 hA hbQ hF))|((with_reducible refine gst ?_);refine wTz hA ?_;clear hF hA;intro w1 hA hF))
  (try go_frame);replace hA:=hA.drew;clear hF;refine wp_region_held (S:=fun w'=>Zaa w' bC (k8 kind num foot req path mode n time) 49∧Zaa w' bQ [.int .u64 req,.int .i64 ye,.int .u64 yn,.bool yg] 45) hm ?_;change wpAnyH _ _ _ _ _ 13 _ _ (World.drew _);generalize World.drew _=wd at *
  have hS0:=(⟨hA.get (A:=Part.cells bC (k8 kind num foot req path mode n time) 49) sZ,hA.get (A:=Part.cells bQ [.int .u64 req,.int .i64 ye,.int .u64 yn,.bool yg] 45) sZ⟩:(fun w'=>Zaa w' bC (k8 kind num foot req path mode n time) 49∧Zaa w' bQ [.int .u64 req,.int .i64 ye,.int .u64 yn,.bool yg] 45) wd)
  refine tP 0 73 (.pointer (some ⟨bX,0,none⟩)) (s:=hS0) (h:= ?_);(try go_frame);refine tP 2 75 (.pointer (some ⟨bX,0,none⟩)) (s:=hS0) (h:= ?_);(try go_frame);refine tP 4 77 (.pointer (some ⟨bC,1,none⟩)) (s:=hS0) (h:= ?_);(try go_frame);refine tZ 5 78 (.int .u64 num) (r:=(fun w' hS=>Zae (ty:=22) (b:=bC) (j:=1) rfl (by exact rfl) hS.1 (by kernel_rfl) rfl)) (s:=hS0) (h:= ?_);(try go_frame);refine tP 6 79 (.pointer (some ⟨bC,2,none⟩)) (s:=hS0) (h:= ?_);(try go_frame);refine tZ 7 80 (.string foot) (r:=(fun w' hS=>Zae (ty:=9) (b:=bC) (j:=2) rfl (by exact rfl) hS.1 (by kernel_rfl) rfl)) (s:=hS0) (h:= ?_);(try go_frame);refine tZ 9 82 (.agg #[.int .u64 req,.int .i64 ye,.int .u64 yn,.bool yg]) (r:=(fun w' hS=>Zah (ty:=45) (n:=4) (b:=bQ) (j:=0) rfl (by exact rfl) hS.2 (by kernel_rfl) (by kernel_rfl) rfl rfl)) (s:=hS0) (h:= ?_);(try go_frame);refine ZaY (i:=1) (j:=3) (by kernel_rfl) ?_ ?_
  · skip;refine Zak (i:=1) (d:=some 74) (b:=bX) (j:=0) (n:=1) (vs:=[.slice ux uk uc]) rfl rfl (by kernel_rfl) rfl (by exact rfl) hA sZ (by kernel_rfl) (by kernel_rfl) rfl rfl ?_;refine⟨hS0,?_⟩;(try go_frame);refine Zab (i:=3) (by kernel_rfl) ?_;refine Zak (i:=3) (d:=some 76) (b:=bX) (j:=0) (n:=1) (vs:=[.slice ux uk uc]) rfl rfl (by kernel_rfl) rfl (by exact rfl) hA sZ (by kernel_rfl) (by kernel_rfl) rfl rfl ?_;refine⟨hS0,?_⟩;(try go_frame);refine Zab (i:=8) (by kernel_rfl) ?_;refine cY 8 81 24 (fun u w'=>u=.agg (SR.cells s2).toArray∧At [rowR (.slice ux uk uc) L2] _ [rowR (.slice ux uk uc) L2] w') ((hfi'.out _ (hA.sep1 (A:=rowR (.slice ux uk uc) L2) sZ)).mono fun e w' ⟨he,hT⟩=>⟨_,he,rfl,hT⟩) ?_;rintro u w3 ⟨rfl,hT⟩;have hB:=hA.call1 (A:=rowR (.slice ux uk uc) L2) sZ hT;clear hT;simp only[uA] at hB;refine andH ⟨hB.ci,hB.ci⟩ fun hS0=> ?_;replace hA:=hB;clear hB;(try go_frame);refine Zab (i:=10) (by kernel_rfl) ?_;refine cY 10 83 29 (fun u w'=>∃(tx:Option Addr) (tk tc:Nat) (L3:List SR) (PL3:List (Value × List AR)),u=.agg #[.slice tx tk tc]∧Lease.Inv (tellT (doT T ⟨kind,num,foot,req,path,mode,n,time⟩).1 ⟨kind,num,foot,req,path,mode,n,time⟩ ⟨ye,yn,yg⟩).S L3 PL3∧At [rowR (.slice ux uk uc) L2,poolP PL2] _ [rowR (.slice tx tk tc) L3,poolP PL3] w') ((htl'.out _ (hA.sep2 (A:=rowR (.slice ux uk uc) L2) (B:=poolP PL2) sZ sZ)).mono fun e w' ⟨tx,tk,tc,L3,PL3,he,hi,hT⟩=>⟨_,he,tx,tk,tc,L3,PL3,rfl,hi,hT⟩) ?_;rintro u w3 ⟨tx,tk,tc,L3,PL3,rfl,hi3,hT⟩;have hi3':=Hd hi3;have hB:=hA.call2 (A:=rowR (.slice ux uk uc) L2) (B:=poolP PL2) sZ sZ hT;clear hT hi3;simp only[uA] at hB;refine andH ⟨hB.ci,hB.ci⟩ fun hS0=> ?_;replace hA:=hB;clear hB;(try go_frame);refine tP 11 84 (.pointer (some ⟨bX,0,none⟩)) (s:=hS0) (h:= ?_);(try go_frame);refine Zab (i:=12) (by kernel_rfl) ?_;refine stZ 12 bX 0 [.slice tx tk tc] hA ?_;intro w3 hB;simp only[uA] at hB;refine andH ⟨hB.ci,hB.ci⟩ fun hS0=> ?_;replace hA:=hB;clear hB;(try go_frame);refine wpAnyH_done (by kernel_rfl) ?_ _;(try go_frame);clear hS0;obtain⟨hA,hF⟩:=fZ hA;go_wp2_with fail;(try go_frame);refine csZ 2 40 bT 0 [.slice tx tk tc,.int .u64 first,.slice px pk pc,.slice ox ok oc] hA ?_;intro w1 hB;replace hA:=hB;clear hF hB;(simp only[List.drop_succ_cons,List.drop_zero]);obtain⟨hA,hF⟩:=fZ hA;(try go_frame)
    go_wp2_with ((with_reducible refine gst ?_);refine wTz hA ?_;clear hF hA;intro w1 hA hF)
    refine bodyPost_ret (v:=.tuple #[.agg #[.slice tx tk tc,.int .u64 first,.slice px pk pc,.slice ox ok oc],.agg #[.int .u64 req,.int .i64 ye,.int .u64 yn,.bool yg]]) (by simp[results,Tryz.results8,go_sem,hF]) rfl ?_;rw[ha'.out];exact⟨⟨.slice tx tk tc,L3,PL3,.slice px pk pc,QE2,.slice ox ok oc,QC2⟩,⟨req,ye,yn,yg⟩,rfl,rfl,⟨hi3'.out,by unfold tellT;rw[opT_L];exact hD2'.out.le,by unfold tellT;rw[opT_L];exact hD2'.out.lc⟩,hs2'.out,(show At [rowR _ _,poolP _,poolE _,poolC _] _ [rowR _ _,poolP _,poolE _,poolC _] _ from hA.pick pR)⟩
  skip;refine Zak (i:=3) (d:=some 76) (b:=bX) (j:=0) (n:=1) (vs:=[.slice ux uk uc]) rfl rfl (by kernel_rfl) rfl (by exact rfl) hA sZ (by kernel_rfl) (by kernel_rfl) rfl rfl ?_;refine⟨hS0,?_⟩;(try go_frame);refine ZaY (i:=1) (j:=8) (by kernel_rfl) ?_ ?_
  · skip;refine Zak (i:=1) (d:=some 74) (b:=bX) (j:=0) (n:=1) (vs:=[.slice ux uk uc]) rfl rfl (by kernel_rfl) rfl (by exact rfl) hA sZ (by kernel_rfl) (by kernel_rfl) rfl rfl ?_;refine⟨hS0,?_⟩;(try go_frame);refine Zab (i:=8) (by kernel_rfl) ?_;refine cY 8 81 24 (fun u w'=>u=.agg (SR.cells s2).toArray∧At [rowR (.slice ux uk uc) L2] _ [rowR (.slice ux uk uc) L2] w') ((hfi'.out _ (hA.sep1 (A:=rowR (.slice ux uk uc) L2) sZ)).mono fun e w' ⟨he,hT⟩=>⟨_,he,rfl,hT⟩) ?_;rintro u w3 ⟨rfl,hT⟩;have hB:=hA.call1 (A:=rowR (.slice ux uk uc) L2) sZ hT;clear hT;simp only[uA] at hB;refine andH ⟨hB.ci,hB.ci⟩ fun hS0=> ?_;replace hA:=hB;clear hB;(try go_frame);refine Zab (i:=10) (by kernel_rfl) ?_;refine cY 10 83 29 (fun u w'=>∃(tx:Option Addr) (tk tc:Nat) (L3:List SR) (PL3:List (Value × List AR)),u=.agg #[.slice tx tk tc]∧Lease.Inv (tellT (doT T ⟨kind,num,foot,req,path,mode,n,time⟩).1 ⟨kind,num,foot,req,path,mode,n,time⟩ ⟨ye,yn,yg⟩).S L3 PL3∧At [rowR (.slice ux uk uc) L2,poolP PL2] _ [rowR (.slice tx tk tc) L3,poolP PL3] w') ((htl'.out _ (hA.sep2 (A:=rowR (.slice ux uk uc) L2) (B:=poolP PL2) sZ sZ)).mono fun e w' ⟨tx,tk,tc,L3,PL3,he,hi,hT⟩=>⟨_,he,tx,tk,tc,L3,PL3,rfl,hi,hT⟩) ?_;rintro u w3 ⟨tx,tk,tc,L3,PL3,rfl,hi3,hT⟩;have hi3':=Hd hi3;have hB:=hA.call2 (A:=rowR (.slice ux uk uc) L2) (B:=poolP PL2) sZ sZ hT;clear hT hi3;simp only[uA] at hB;refine andH ⟨hB.ci,hB.ci⟩ fun hS0=> ?_;replace hA:=hB;clear hB;(try go_frame);refine tP 11 84 (.pointer (some ⟨bX,0,none⟩)) (s:=hS0) (h:= ?_);(try go_frame);refine Zab (i:=12) (by kernel_rfl) ?_;refine stZ 12 bX 0 [.slice tx tk tc] hA ?_;intro w3 hB;simp only[uA] at hB;refine andH ⟨hB.ci,hB.ci⟩ fun hS0=> ?_;replace hA:=hB;clear hB;(try go_frame);refine wpAnyH_done (by kernel_rfl) ?_ _;(try go_frame);clear hS0;obtain⟨hA,hF⟩:=fZ hA;go_wp2_with fail;(try go_frame);refine csZ 2 40 bT 0 [.slice tx tk tc,.int .u64 first,.slice px pk pc,.slice ox ok oc] hA ?_;intro w1 hB;replace hA:=hB;clear hF hB;(simp only[List.drop_succ_cons,List.drop_zero]);obtain⟨hA,hF⟩:=fZ hA;(try go_frame)
    go_wp2_with ((with_reducible refine gst ?_);refine wTz hA ?_;clear hF hA;intro w1 hA hF)
    refine bodyPost_ret (v:=.tuple #[.agg #[.slice tx tk tc,.int .u64 first,.slice px pk pc,.slice ox ok oc],.agg #[.int .u64 req,.int .i64 ye,.int .u64 yn,.bool yg]]) (by simp[results,Tryz.results8,go_sem,hF]) rfl ?_;rw[ha'.out];exact⟨⟨.slice tx tk tc,L3,PL3,.slice px pk pc,QE2,.slice ox ok oc,QC2⟩,⟨req,ye,yn,yg⟩,rfl,rfl,⟨hi3'.out,by unfold tellT;rw[opT_L];exact hD2'.out.le,by unfold tellT;rw[opT_L];exact hD2'.out.lc⟩,hs2'.out,(show At [rowR _ _,poolP _,poolE _,poolC _] _ [rowR _ _,poolP _,poolE _,poolC _] _ from hA.pick pR)⟩
  skip;refine cY 8 81 24 (fun u w'=>u=.agg (SR.cells s2).toArray∧At [rowR (.slice ux uk uc) L2] _ [rowR (.slice ux uk uc) L2] w') ((hfi'.out _ (hA.sep1 (A:=rowR (.slice ux uk uc) L2) sZ)).mono fun e w' ⟨he,hT⟩=>⟨_,he,rfl,hT⟩) ?_;rintro u w3 ⟨rfl,hT⟩;have hB:=hA.call1 (A:=rowR (.slice ux uk uc) L2) sZ hT;clear hT;simp only[uA] at hB;refine andH ⟨hB.ci,hB.ci⟩ fun hS0=> ?_;replace hA:=hB;clear hB;(try go_frame);refine Zab (i:=1) (by kernel_rfl) ?_;refine Zak (i:=1) (d:=some 74) (b:=bX) (j:=0) (n:=1) (vs:=[.slice ux uk uc]) rfl rfl (by kernel_rfl) rfl (by exact rfl) hA sZ (by kernel_rfl) (by kernel_rfl) rfl rfl ?_;refine⟨hS0,?_⟩;(try go_frame);refine Zab (i:=10) (by kernel_rfl) ?_;refine cY 10 83 29 (fun u w'=>∃(tx:Option Addr) (tk tc:Nat) (L3:List SR) (PL3:List (Value × List AR)),u=.agg #[.slice tx tk tc]∧Lease.Inv (tellT (doT T ⟨kind,num,foot,req,path,mode,n,time⟩).1 ⟨kind,num,foot,req,path,mode,n,time⟩ ⟨ye,yn,yg⟩).S L3 PL3∧At [rowR (.slice ux uk uc) L2,poolP PL2] _ [rowR (.slice tx tk tc) L3,poolP PL3] w') ((htl'.out _ (hA.sep2 (A:=rowR (.slice ux uk uc) L2) (B:=poolP PL2) sZ sZ)).mono fun e w' ⟨tx,tk,tc,L3,PL3,he,hi,hT⟩=>⟨_,he,tx,tk,tc,L3,PL3,rfl,hi,hT⟩) ?_;rintro u w3 ⟨tx,tk,tc,L3,PL3,rfl,hi3,hT⟩;have hi3':=Hd hi3;have hB:=hA.call2 (A:=rowR (.slice ux uk uc) L2) (B:=poolP PL2) sZ sZ hT;clear hT hi3;simp only[uA] at hB;refine andH ⟨hB.ci,hB.ci⟩ fun hS0=> ?_;replace hA:=hB;clear hB;(try go_frame);refine tP 11 84 (.pointer (some ⟨bX,0,none⟩)) (s:=hS0) (h:= ?_);(try go_frame);refine Zab (i:=12) (by kernel_rfl) ?_;refine stZ 12 bX 0 [.slice tx tk tc] hA ?_;intro w3 hB;simp only[uA] at hB;refine andH ⟨hB.ci,hB.ci⟩ fun hS0=> ?_;replace hA:=hB;clear hB;(try go_frame);refine wpAnyH_done (by kernel_rfl) ?_ _;(try go_frame);clear hS0;obtain⟨hA,hF⟩:=fZ hA;go_wp2_with fail;(try go_frame);refine csZ 2 40 bT 0 [.slice tx tk tc,.int .u64 first,.slice px pk pc,.slice ox ok oc] hA ?_;intro w1 hB;replace hA:=hB;clear hF hB;(simp only[List.drop_succ_cons,List.drop_zero]);obtain⟨hA,hF⟩:=fZ hA;(try go_frame)
  go_wp2_with ((with_reducible refine gst ?_);refine wTz hA ?_;clear hF hA;intro w1 hA hF)
  refine bodyPost_ret (v:=.tuple #[.agg #[.slice tx tk tc,.int .u64 first,.slice px pk pc,.slice ox ok oc],.agg #[.int .u64 req,.int .i64 ye,.int .u64 yn,.bool yg]]) (by simp[results,Tryz.results8,go_sem,hF]) rfl ?_;rw[ha'.out];exact⟨⟨.slice tx tk tc,L3,PL3,.slice px pk pc,QE2,.slice ox ok oc,QC2⟩,⟨req,ye,yn,yg⟩,rfl,rfl,⟨hi3'.out,by unfold tellT;rw[opT_L];exact hD2'.out.le,by unfold tellT;rw[opT_L];exact hD2'.out.lc⟩,hs2'.out,(show At [rowR _ _,poolP _,poolE _,poolC _] _ [rowR _ _,poolP _,poolE _,poolC _] _ from hA.pick pR)⟩
end Tab
end
section
namespace Tab
open Go.RowKit
open Path (bl Zaf overB Zan)
open Lease (Ses Ans fresh ZaE)
open Lock (S3 Ent)
open Cmd (Cm Zao)
attribute [-go_sem] run_eql_struct run_neq_struct run_eqGuard_agg
def NewP (first:Int) (R:Part) (w:World) (e:Ending) (w':World):Prop:=∃t p m b,e=.returned (.pointer (some ⟨t,0,none⟩))∧TRel [] b ⟨[],⟨first,[],[]⟩⟩∧At [R] w [TabP t p m [] b,R] w'
theorem new_any {w:World} {R:Part} (h:Sep [R] w) (first:Int):Calls Tryz.prog 21 #[.int .u64 first] w (NewP first R w):=by
 have hA:=At.start h;clear h;obtain⟨hA,hF⟩:=fZ hA;go_enter Tryz.func21,Tryz.ntmps21;go_wp2_with fail;refine(Lease.new_any _).mono ?_;rintro e w1 ⟨p,m,rfl,hT⟩;replace hA:=hA.call0 hT;clear hT hF;obtain⟨hA,hF⟩:=fZ hA;go_wp2_with fail;refine(Lock.new_any _ first).mono ?_;rintro e w1 ⟨b,rfl,e1,e2,e3,hT⟩;replace hA:=hA.call0 hT;clear hT hF;obtain⟨hA,hF⟩:=fZ hA
 go_wp2_with ((with_reducible refine gbx ?_);refine wHz 87 [.pointer (some ⟨p,0,none⟩),.pointer (some ⟨b.p,0,none⟩)] hA ?_;clear hF hA;intro bt w1 hA hbt hF)
 go_ret;refine⟨bt,p,m,b,rfl,⟨rfl,?_⟩,(ZcR (ss:=[]) hA sZ sZ sZ).pick pZ⟩;unfold Lock.Bk.st;rw[e1,e2,e3]
def ansL (a:Ans):List Value:=[.int .i64 a.e,.int .u64 a.n,.bool a.g]
theorem ZmZ (a:Ans):∀u ∈ ansL a,u.oneCell'=true:=by
 intro u hu;simp only[ansL,List.mem_cons,List.not_mem_nil,or_false] at hu;rcases hu with rfl|rfl|rfl<;>rfl
abbrev rowAn (v:Value) (l:List Ans):Part:=Part.row 65 3 v l.length (l.flatMap ansL)
theorem ZiO (v:Value) (l:List Ans) (a:Ans):Part.row 65 3 v (l.length + 1) (l.flatMap ansL++ansL a)=rowAn v (l++[a]):=by
 unfold rowAn;rw[List.length_append];simp
theorem infoAn:(Tryz.prog.info? 65).map (fun i=>(i.zero,i.size,i.bytes))=some (some (.agg #[.int .i64 0,.int .u64 0,.bool false]),3,24):=by kernel_rfl
structure CmIn (c:Cm):Prop where
 ok:CmOk c
 r0:0≤c.req
 r1:c.req < Lease.big64
 n0:0≤c.n
abbrev Ze1 (R:Part) (v:Value) (l:List Cm):Prop:=∀w,R.holds w→Reads w v l.length (l.flatMap Cm.cells)
theorem Zfw {R:Part} {b0 off0 cap i:Nat} {l:List Cm} {x:Cm} (h:Ze1 R (.slice (some ⟨b0,off0,none⟩) l.length cap) l) (hx:l[i]? =some x):∀w,R.holds w→∀(k:Nat) u,(Cm.cells x)[k]? =some u→w.cell? ⟨b0,off0 + i * 8 + k,none⟩=some u:=by
 intro w hw k u hu;obtain⟨ax,c,e,_,hr⟩:=h w hw;cases e;have hk:k < 8:=(List.getElem?_eq_some_iff.1 hu).1;have hf:=Zbs Cm.cells 8 (fun _=>rfl) l i x hx k hk;rw[hu] at hf;obtain⟨b,off,e2,hc⟩:=hr (i * 8 + k) u hf;cases e2;rw[Nat.add_assoc];exact hc
def PyRel (w:World) (R:Part) (t p m:Nat) (T0:TS) (l:List Cm) (k:Nat) (u1 u2:Value) (wr:World):Prop:=
 ∃(i:Nat) (ss:List Ses) (b:Lock.Bk),u1=.int .i64 i∧i + k=l.length∧TRel ss b (playT T0 (l.take i))∧At [R] w [rowAn u2 (toldT T0 (l.take i)),TabP t p m ss b,R] wr
def PlayP (first:Int) (l:List Cm) (R:Part) (w:World) (e:Ending) (w':World):Prop:=
 ∃t p m ss b av,e=.returned (.tuple #[.pointer (some ⟨t,0,none⟩),av])∧TRel ss b (playT ⟨[],⟨first,[],[]⟩⟩ l)∧At [R] w [rowAn av (toldT ⟨[],⟨first,[],[]⟩⟩ l),TabP t p m ss b,R] w'
theorem ZhS:∀(l:List Cm) (t:TS),(toldT t l).length=l.length
 |[],_=>rfl
 |c::l,t=>by simp[toldT,ZhS l]
theorem Zh7 {w:World} {R:Part} (h:Sep [R] w) {first:Int} (f0:0≤first) (f1:first < Lock.big64) {v:Value} {l:List Cm} (hr:Ze1 R v l) (hl:l.length≤1000) (hok:∀c ∈ l,CmIn c):
 Calls Tryz.prog 6 #[.int .u64 first,v] w (PlayP first l R w):=by
 obtain⟨i0,hi0,hz0,hz1,hz2⟩:=info_parts infoAn;have hA:=At.start h;obtain⟨ax,cap,rfl,_,_⟩:=hr w (hA.get .here);have hr':=Hd hr;have hok':=Hd hok;have hi0':=Hd (Zhq f0 f1);clear h hr hok;obtain⟨hA,hF⟩:=fZ hA;go_enter Tryz.func6,Tryz.ntmps6;go_wp2_with fail;refine(new_any (hA.sep1 (A:=R) sZ) first).mono ?_;rintro e w1 ⟨t,p,m,b,rfl,hR0,hT⟩;replace hA:=hA.call1 (A:=R) sZ hT;clear hT hF;obtain⟨hA,hF⟩:=fZ hA
 obtain⟨T0,hT0⟩:∃z:TS,⟨[],⟨first,[],[]⟩⟩=z:=⟨_,rfl⟩
 rw[hT0] at hR0 hi0';have hT0':=Hd hT0;have hR0':=Hd hR0;clear hT0 hR0;go_wp2_with fail;(try go_frame);have hB:=hA.row_nil 65 3;clear hF hA;go_loopg [14,7] l.length (PyRel w R t p m T0 l)
 case atStart=>exact⟨0,[],b,rfl,by omega,hR0'.out,hB.pick pZ⟩
 case round=>
  obtain⟨i,ss,b,rfl,hik,hRi,hA⟩:=hrel;clear hB;have hRi':=Hd hRi;clear hRi;by_cases hi:i < l.length
  · skip
    obtain⟨c,hc⟩:∃c,l[i]? =some c:=⟨_,List.getElem?_eq_getElem hi⟩
    have hci:=hok'.out c (List.mem_of_getElem? hc);have hti:TInv (playT T0 (l.take i)) (0 + (l.take i).length):=Zh6 (fun x hx=>(hok'.out x (List.take_subset _ _ hx)).ok) hi0'.out;have htk:l.take (i + 1)=l.take i++[c]:=by rw[List.take_add_one,hc];rfl
    have hp1:=Hd (show playT T0 (l.take (i + 1))=(Zav (playT T0 (l.take i)) c).1 by rw[htk,Zdf]);have hp2:=Hd (show toldT T0 (l.take (i + 1))=toldT T0 (l.take i)++[(Zav (playT T0 (l.take i)) c).2] by rw[htk,ZeB]);have htl:=ZhS (l.take i) T0;have hlt:(l.take i).length≤1000:=by rw[List.length_take];omega
    obtain⟨bl0,ofl,hax⟩:∃b0 o0,ax=some ⟨b0,o0,none⟩:=by
     obtain⟨ax2,c2,e2,_,hr2⟩:=hr'.out _ (hA.get (A:=R) sZ);cases e2;have hf:=Zbs Cm.cells 8 (fun _=>rfl) l i c hc 0 (by omega);obtain⟨b0,o0,e3,_⟩:=hr2 (i * 8 + 0) _ hf;exact⟨b0,o0,e3⟩
    subst hax;have hrc:=Zfw hr'.out hc _ (hA.get (A:=R) sZ);have hap:=fun(w1:World) (q:Sep [TabP t p m ss b] w1)=>Zlb q c.kind c.num c.foot c.req c.path c.mode c.n c.time hRi'.out hti (by omega) hci.ok hci.r0 hci.r1 hci.n0
    obtain⟨T1,hT1⟩:∃z,Zav (playT T0 (l.take i)) c=z:=⟨_,rfl⟩
    have hcc:(⟨c.kind,c.num,c.foot,c.req,c.path,c.mode,c.n,c.time⟩:Cm)=c:=rfl;simp only[hcc,hT1] at hap;rw[hT1] at hp1 hp2;clear hT1 hcc hc htk hci hti;obtain⟨T1,⟨le,ln,lg⟩⟩:=T1;obtain⟨kind,num,foot,req,path,mode,n,time⟩:=c;simp only at hap;have hap':=Hd hap;have hrc':=Hd (show ∀(k:Nat) u,([.int .i64 kind,.int .u64 num,.string foot,.int .u64 req,.string path,.int .i64 mode,.int .u64 n,.int .i64 time]:List Value)[k]? =some u→wr.cell? ⟨bl0,ofl + i * 8 + k,none⟩=some u from hrc);clear hap hrc;generalize toldT T0 (l.take i)=TL at *
    generalize l.take i=li at *
    obtain⟨axa,capa,hva,_,hcpa,_⟩:=hA.row_form (e:=65) (size:=3) (n:=TL.length) (xs:=TL.flatMap ansL) .here;subst hva;have hTL:TL.length≤1000:=by omega
    clear htl;obtain⟨hA,hF⟩:=fZ hA
    go_wp2_with (first|((with_reducible refine gal ?_);refine g12 hA ?_;clear hF hA;intro b9 w1 hA hb9 hF)|((with_reducible show wpList _ _ _ ({dst:=some 17,op:=Op.load _ _,type:=_,pos:=_,after:=_,guard:=_}::_) _ _);refine Zad (vs:=[.int .i64 kind,.int .u64 num,.string foot,.int .u64 req,.string path,.int .i64 mode,.int .u64 n,.int .i64 time]) rfl rfl (by(try simp only[Act.eval,eV])<;>exact rfl) hrc'.out (by kernel_rfl) (by kernel_rfl) ?_)|((with_reducible refine gst ?_);refine wTz hA ?_;clear hF hA;intro w1 hA hF))
    refine(hap'.out _ (hA.sep1 (A:=TabP t p m ss b) sZ)).mono ?_;rintro e w2 ⟨ss2,b2,rfl,hR2,hT⟩;replace hA:=hA.call1 (A:=TabP t p m ss b) sZ hT;clear hT hF;obtain⟨hA,hF⟩:=fZ hA;have hR2':=Hd hR2;clear hR2 hap';simp only[Lease.Ans.val]
    go_wp2_with (first|((with_reducible show wpList _ _ _ ({dst:=_,op:=Op.buildSlice _ _ _,type:=_,pos:=_,after:=_,guard:=_}::_) _ _);refine Zap (e:=65) (vs:=ansL ⟨le,ln,lg⟩) rfl rfl (by(try simp only[Act.eval,eV])<;>exact rfl) (fun _=>by kernel_rfl) hA ?_;intro b22 w1 hB hb22;replace hA:=hB;clear hF hB;obtain⟨hA,hF⟩:=fZ hA)|((with_reducible show wpList _ _ _ ({dst:=_,op:=Op.call {callee:=Callee.builtin Builtin.append,args:=_,argTypes:=_},type:=_,pos:=_,after:=_,guard:=_}::_) _ _);refine Zac (e:=65) (size:=3) (v:=.slice axa TL.length capa) (xs:=TL.flatMap ansL) (n:=TL.length) (m:=1) (news:=ansL ⟨le,ln,lg⟩) rfl _ _ 29 rfl Tryz.underlying29 hi0 hz0 hz1 hz2 rfl (by omega) hA sZ (by(try simp only[Act.eval,eV])<;>exact rfl) (by(try simp only[Act.eval,eV])<;>exact rfl) rfl (hA.cells_reads sZ _ _) (ZmZ _) (by unfold maxLen;omega) (by omega) ?_;intro v23 w1 hB;rw[ZiO] at hB;replace hA:=hB;clear hF hB;obtain⟨hA,hF⟩:=fZ hA))
    go_roundg (gk - 1);case measure=>omega
    case rel=>exact⟨i + 1,ss2,b2,by simp,by omega,by rw[hp1.out];exact hR2'.out,by rw[hp2.out];exact hA.pick pZ⟩
  have hi2:i=l.length:=by omega
  subst hi2;rw[List.take_of_length_le (Nat.le_refl _)] at hA hRi';obtain⟨hA,hF⟩:=fZ hA;go_wp2_with fail;refine bodyPost_ret (v:=.tuple #[.pointer (some ⟨t,0,none⟩),u7]) (by simp[results,Tryz.results6,go_sem,hF]) rfl ?_;exact⟨t,p,m,ss,b,_,rfl,by rw[hT0'.out];exact hRi'.out,by rw[hT0'.out];exact hA.pick pZ⟩
end Tab
end
section
namespace Tab
open Go.RowKit
open Path (bl Zaf overB Zan)
open Lease (Ses Ans fresh ZaE)
open Lock (S3 Ent)
open Cmd (Cm Zao)
attribute [-go_sem] run_eql_struct run_neq_struct run_eqGuard_agg
theorem Zma (c:Cm) (w:World):Calls Tryz.prog 9 #[c.val] w fun e w'=>e=.returned c.val∧Ext w w':=by
 obtain⟨kind,num,foot,req,path,mode,n,time⟩:=c;simp only[Cm.val];have hA:At [] w [] w:=At.start (L0:=[]) trivial;obtain⟨hA,hF⟩:=fZ hA;go_enter Tryz.func9,Tryz.ntmps9
 go_wp2_with (first|((with_reducible refine gbx ?_);refine wHz 43 [.int .i64 kind,.int .u64 num,.string foot,.int .u64 req,.string path,.int .i64 mode,.int .u64 n,.int .i64 time] hA ?_;clear hF hA;intro b1 w1 hA hb1 hF)|((with_reducible refine gal ?_);refine wGz 49 [.int .i64 0,.int .u64 0,.string .empty,.int .u64 0,.string .empty,.int .i64 0,.int .u64 0,.int .i64 0] hA ?_;clear hF hA;intro b2 w1 hA hb2 hF)|((with_reducible refine gst ?_);refine wTz hA ?_;clear hF hA;intro w1 hA hF))
 exact bodyPost_ret (v:=.agg #[.int .i64 kind,.int .u64 num,.string foot,.int .u64 req,.string path,.int .i64 mode,.int .u64 n,.int .i64 time]) (by simp[results,Tryz.results9,go_sem,hF]) rfl ⟨rfl,hA.toExt⟩
def okS (c:Cm):Bool:= !decide (100 < c.path.size)&& !decide (100 < c.foot.size)
def ZcS (l:List Cm) (most:Int):Bool:=l.all okS&&decide ((l.length:Int)≤most)
def SmRel (w:World) (R:Part) (l:List Cm) (k:Nat) (u:Value) (wr:World):Prop:=
 ∃i:Nat,u=.int .i64 i∧i + k=l.length∧(l.take i).all okS=true∧At [R] w [R] wr
theorem ZjL {w:World} {R:Part} (h:Sep [R] w) {v:Value} {l:List Cm} (hr:Ze1 R v l) (hl:l.length≤9223372036854775807) (hsz:∀c ∈ l,c.path.size≤maxLen∧c.foot.size≤maxLen) (most:Int):
 Calls Tryz.prog 5 #[v,.int .i64 most] w fun e w'=>e=.returned (.bool (ZcS l most))∧At [R] w [R] w':=by
 have hA:=At.start h;obtain⟨ax,cap,rfl,_,_⟩:=hr w (hA.get .here);have hr':=Hd hr;have hsz':=Hd hsz;clear h hr hsz;obtain⟨hA,hF⟩:=fZ hA;go_enter Tryz.func5,Tryz.ntmps5;go_wp2_with fail;(try go_frame);clear hF;go_loopg [9] l.length (SmRel w R l)
 case atStart=>exact⟨0,rfl,by omega,rfl,hA⟩
 case round=>
  obtain⟨i,rfl,hik,hal,hB⟩:=hrel;clear hA;have hA:=hB;clear hB;have hal':=Hd hal;clear hal;by_cases hi:i < l.length
  · skip;have hiI:(i:Int) < l.length:=by omega
    obtain⟨c,hc⟩:∃c,l[i]? =some c:=⟨_,List.getElem?_eq_getElem hi⟩
    have hcm:=List.mem_of_getElem? hc;have hcs:=hsz'.out c hcm;have htk:l.take (i + 1)=l.take i++[c]:=by rw[List.take_add_one,hc];rfl
    have hnx:=Hd (show(l.take (i + 1)).all okS=okS c by rw[htk,List.all_append,hal'.out];simp)
    have hbad:=Hd (show okS c=false→ZcS l most=false from fun q=>by
     unfold ZcS
     rw[show l.all okS=false from by
      cases h:l.all okS with
      |false=>rfl
      |true=>rw[List.all_eq_true.1 h c hcm] at q;cases q]
     rfl)
    obtain⟨bl0,ofl,hax⟩:∃b0 o0,ax=some ⟨b0,o0,none⟩:=by
     obtain⟨ax2,c2,e2,_,hr2⟩:=hr'.out _ (hA.get (A:=R) sZ);cases e2;have hf:=Zbs Cm.cells 8 (fun _=>rfl) l i c hc 0 (by omega);obtain⟨b0,o0,e3,_⟩:=hr2 (i * 8 + 0) _ hf;exact⟨b0,o0,e3⟩
    subst hax;have hrc:=Zfw hr'.out hc _ (hA.get (A:=R) sZ);clear htk hc hcm;obtain⟨kind,num,foot,req,path,mode,n,time⟩:=c;have hrc':=Hd (show ∀(k:Nat) u,([.int .i64 kind,.int .u64 num,.string foot,.int .u64 req,.string path,.int .i64 mode,.int .u64 n,.int .i64 time]:List Value)[k]? =some u→wr.cell? ⟨bl0,ofl + i * 8 + k,none⟩=some u from hrc);clear hrc;simp only[okS] at hnx hbad hcs
    obtain⟨d1,hd1⟩:∃d,decide (100 < path.size)=d:=⟨_,rfl⟩
    obtain⟨d2,hd2⟩:∃d,decide (100 < foot.size)=d:=⟨_,rfl⟩
    simp only[hd1,hd2] at hnx hbad;have hI1:decide ((100:Int) < (path.size:Int))=d1:=by rw[←hd1,decide_eq_decide];omega
    have hI2:decide ((100:Int) < (foot.size:Int))=d2:=by rw[←hd2,decide_eq_decide];omega
    obtain⟨hA,hF⟩:=fZ hA;cases d1
    · cases d2
      · have hp1:¬(100:Int) < path.size:=of_decide_eq_false hI1;have hp2:¬(100:Int) < foot.size:=of_decide_eq_false hI2
        go_wp2_with (first|((with_reducible refine gal ?_);refine g12 hA ?_;clear hF hA;intro b6 w1 hA hb6 hF)|((with_reducible show wpList _ _ _ ({dst:=some 12,op:=Op.load _ _,type:=_,pos:=_,after:=_,guard:=_}::_) _ _);refine Zad (vs:=[.int .i64 kind,.int .u64 num,.string foot,.int .u64 req,.string path,.int .i64 mode,.int .u64 n,.int .i64 time]) rfl rfl (by(try simp only[Act.eval,eV])<;>exact rfl) hrc'.out (by kernel_rfl) (by kernel_rfl) ?_)|((with_reducible refine gst ?_);refine wTz hA ?_;clear hF hA;intro w1 hA hF))
        go_roundg (gk - 1);case measure=>omega
        case rel=>exact⟨i + 1,by simp,by omega,by rw[hnx.out];rfl,hA.pick pZ⟩
      have hp1:¬(100:Int) < path.size:=of_decide_eq_false hI1;have hp2:(100:Int) < foot.size:=of_decide_eq_true hI2
      go_wp2_with (first|((with_reducible refine gal ?_);refine g12 hA ?_;clear hF hA;intro b6 w1 hA hb6 hF)|((with_reducible show wpList _ _ _ ({dst:=some 12,op:=Op.load _ _,type:=_,pos:=_,after:=_,guard:=_}::_) _ _);refine Zad (vs:=[.int .i64 kind,.int .u64 num,.string foot,.int .u64 req,.string path,.int .i64 mode,.int .u64 n,.int .i64 time]) rfl rfl (by(try simp only[Act.eval,eV])<;>exact rfl) hrc'.out (by kernel_rfl) (by kernel_rfl) ?_)|((with_reducible refine gst ?_);refine wTz hA ?_;clear hF hA;intro w1 hA hF))
      go_ret;exact⟨by rw[hbad.out rfl];rfl,hA.pick pZ⟩
    have hp1:(100:Int) < path.size:=of_decide_eq_true hI1
    go_wp2_with (first|((with_reducible refine gal ?_);refine g12 hA ?_;clear hF hA;intro b6 w1 hA hb6 hF)|((with_reducible show wpList _ _ _ ({dst:=some 12,op:=Op.load _ _,type:=_,pos:=_,after:=_,guard:=_}::_) _ _);refine Zad (vs:=[.int .i64 kind,.int .u64 num,.string foot,.int .u64 req,.string path,.int .i64 mode,.int .u64 n,.int .i64 time]) rfl rfl (by(try simp only[Act.eval,eV])<;>exact rfl) hrc'.out (by kernel_rfl) (by kernel_rfl) ?_)|((with_reducible refine gst ?_);refine wTz hA ?_;clear hF hA;intro w1 hA hF))
    go_ret;exact⟨by rw[hbad.out (by cases d2<;>rfl)];rfl,hA.pick pZ⟩
  have hi2:i=l.length:=by omega
  subst hi2;rw[List.take_of_length_le (Nat.le_refl _)] at hal';obtain⟨hA,hF⟩:=fZ hA;go_wp2_with fail;go_ret;refine⟨?_,hA.pick pZ⟩;unfold ZcS;rw[hal'.out,Bool.true_and];rfl
end Tab
end
end Go.Proofs.YtknoefbcmomalaaGreatDoor
