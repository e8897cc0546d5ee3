import Derived.Test.YtknoefbcmomalaaGreatDoorP14
set_option linter.unusedSimpArgs false
set_option linter.unusedVariables false
set_option maxRecDepth 100000
set_option maxHeartbeats 16000000
namespace Go.Proofs.YtknoefbcmomalaaGreatDoor
section
namespace Tab
open Go.RowKit
open Lease (Ses Ans fresh ZaE SR AR Rel RelS putR findR saidA insA arP okA rowR poolP)
open Lock (S3 Ent rowE rowC)
open Cmd (Cm Zao)
theorem Zh4 {α:Type} (f:α→Part) (l1 l2:List α) (q:α) (F:List Part):Eqv (Part.all ((l1++q::l2).map f)::F) (f q::Part.all ((l1++l2).map f)::F):=by
 refine(Eqv.all _ F).trans ?_
 have e1:((l1++q::l2).map f++F).Perm (f q::((l1++l2).map f++F)):=by
  simp only[List.map_append,List.map_cons,List.append_assoc,List.cons_append];exact List.perm_middle
 exact(Eqv.perm e1).trans (((Eqv.all ((l1++l2).map f) F).symm).cons _)
theorem ZfB {α:Type} {f:α→Part} {Q:List α} {q:α} (h:q ∈ Q):∃R:Part,∀F,Eqv (Part.all (Q.map f)::F) (f q::R::F):=by
 obtain⟨l1,l2,rfl⟩:=List.append_of_mem h;exact⟨_,Zh4 f l1 l2 q⟩
theorem Zh5 {α:Type} (f:α→Part) (Q:List α) (q:α) (F:List Part):Eqv (f q::Part.all (Q.map f)::F) (Part.all ((q::Q).map f)::F):=(Zh4 f [] Q q F).symm
abbrev PE:=List (Value × List Ent)
abbrev PC:=List (Value × List (ByteArray × Int))
def poolE (Q:PE):Part:=Part.all (Q.map fun q=>rowE q.1 q.2)
def poolC (Q:PC):Part:=Part.all (Q.map fun q=>rowC q.1 q.2)
theorem outE {Q:PE} {v:Value} {l:List Ent} (h:(v,l) ∈ Q):∃R:Part,∀F,Eqv (poolE Q::F) (rowE v l::R::F):=ZfB (f:=fun q:Value × List Ent=>rowE q.1 q.2) h
theorem outC {Q:PC} {v:Value} {l:List (ByteArray × Int)} (h:(v,l) ∈ Q):∃R:Part,∀F,Eqv (poolC Q::F) (rowC v l::R::F):=ZfB (f:=fun q:Value × List (ByteArray × Int)=>rowC q.1 q.2) h
theorem outA {Q:List (Value × List AR)} {v:Value} {l:List AR} (h:(v,l) ∈ Q):∃R:Part,∀F,Eqv (poolP Q::F) (Lease.rowA v l::R::F):=ZfB (f:=fun q:Value × List AR=>Lease.rowA q.1 q.2) h
theorem addE (Q:PE) (v:Value) (l:List Ent) (F:List Part):Eqv (rowE v l::poolE Q::F) (poolE ((v,l)::Q)::F):=Zh5 (fun q:Value × List Ent=>rowE q.1 q.2) Q (v,l) F
theorem addC (Q:PC) (v:Value) (l:List (ByteArray × Int)) (F:List Part):Eqv (rowC v l::poolC Q::F) (poolC ((v,l)::Q)::F):=Zh5 (fun q:Value × List (ByteArray × Int)=>rowC q.1 q.2) Q (v,l) F
theorem Zoo {w:World} {A P R:Part} (e:∀F,Eqv (P::F) (A::R::F)) {f:FuncId} {args:Array Value} {v:Value} (h:Sep [P] w) (hc:Sep [A] w→Calls Tryz.prog f args w fun e w'=>e=.returned v∧At [A] w [A] w'):
 Calls Tryz.prog f args w fun e w'=>e=.returned v∧At [P] w [P] w':=by
 have hA:=(At.start h).to (e []);refine(hc (hA.sep1 sR)).mono ?_;rintro e1 w1 ⟨h1,hT⟩;exact⟨h1,(hA.call1 sR hT).to (e []).symm⟩
structure DS where
 vS:Value
 L:List SR
 PL:List (Value × List AR)
 vE:Value
 QE:PE
 vC:Value
 QC:PC
def DS.parts (D:DS):List Part:=[rowR D.vS D.L,poolP D.PL,poolE D.QE,poolC D.QC]
def DS.val (D:DS) (first:Int):Value:=.agg #[D.vS,.int .u64 first,D.vE,D.vC]
structure DIn (T:TS) (D:DS):Prop where
 lease:Lease.Inv T.S D.L D.PL
 le:(D.vE,T.L.es) ∈ D.QE
 lc:(D.vC,T.L.cs) ∈ D.QC
def DPost (first:Int) (w:World) (D:DS) (T:TS) (x:AR) (e:Ending) (w':World):Prop:=
 ∃D':DS,e=.returned (.tuple #[D'.val first,.agg (AR.cells x).toArray])∧DIn T D'∧(∀q ∈ D.QE,q ∈ D'.QE)∧At D.parts w D'.parts w'
theorem foldE {L0 F K:List Part} {w0 w:World} {QE:PE} {v:Value} {l:List Ent} {R:Part} (e:∀F,Eqv (poolE QE::F) (rowE v l::R::F)) (h:At L0 w0 K w) (s:Sel (rowE v l) K F) {G:List Part} (r:Sel R F G):At L0 w0 (poolE QE::G) w:=(h.perm (s.perm.trans (r.perm.cons _))).to (e G).symm
theorem foldC {L0 F K:List Part} {w0 w:World} {QC:PC} {v:Value} {l:List (ByteArray × Int)} {R:Part} (e:∀F,Eqv (poolC QC::F) (rowC v l::R::F)) (h:At L0 w0 K w) (s:Sel (rowC v l) K F) {G:List Part} (r:Sel R F G):At L0 w0 (poolC QC::G) w:=(h.perm (s.perm.trans (r.perm.cons _))).to (e G).symm
theorem growE {L0 F K G:List Part} {w0 w:World} {QE:PE} {v:Value} {l:List Ent} (h:At L0 w0 K w) (s:Sel (rowE v l) K F) (r:Sel (poolE QE) F G):At L0 w0 (poolE ((v,l)::QE)::G) w:=(h.perm (s.perm.trans (r.perm.cons _))).to (addE QE v l G)
theorem growC {L0 F K G:List Part} {w0 w:World} {QC:PC} {v:Value} {l:List (ByteArray × Int)} (h:At L0 w0 K w) (s:Sel (rowC v l) K F) (r:Sel (poolC QC) F G):At L0 w0 (poolC ((v,l)::QC)::G) w:=(h.perm (s.perm.trans (r.perm.cons _))).to (addC QC v l G)
end Tab
end
section
namespace Tab
open Go.RowKit
open Path (bl Zaf overB Zan)
open Lease (Ses Ans fresh ZaE SR AR arP rowR poolP Rel RelS findR saidA insA okA)
open Lock (S3 Ent rowE rowC)
open Cmd (Cm Zao)
attribute [-go_sem] run_eql_struct run_neq_struct run_eqGuard_agg
theorem ZaF {L0 L F:List Part} {w0 w:World} {E:TypeId} {size n:Nat} {v:Value} {xs:List Value} (h:At L0 w0 L w) (s:Sel (Part.row E size v n xs) L F):∃ax k cap,v=.slice ax k cap:=by
 obtain⟨ax,n,cap,hv,_⟩:=h.row_hid s;exact⟨ax,n,cap,hv⟩
def Zcl (w:World) (first:Int) (vS:Value) (D:S3) (QE:PE) (QC:PC) (D':S3) (x:AR) (e:Ending) (w':World):Prop:=
 ∃(vE' vC':Value) (QE':PE) (QC':PC),e=.returned (.tuple #[.agg #[vS,.int .u64 first,vE',vC'],.agg (AR.cells x).toArray])∧(vE',D'.es) ∈ QE'∧(vC',D'.cs) ∈ QC'∧(∀q ∈ QE,q ∈ QE')∧At [poolE QE,poolC QC] w [poolE QE',poolC QC'] w'
def Znn (w:World) (first:Int) (vS vC:Value) (QE:PE) (es':List Ent) (e:Ending) (w':World):Prop:=
 ∃(vE':Value) (QE':PE),e=.returned (.agg #[vS,.int .u64 first,vE',vC])∧(vE',es') ∈ QE'∧(∀q ∈ QE,q ∈ QE')∧At [poolE QE] w [poolE QE'] w'
theorem Zef {w:World} {QE:PE} {vE:Value} {es:List Ent} (h:Sep [poolE QE] w) (hq:(vE,es) ∈ QE) (first:Int) (vS vC:Value) (hvS:∃ax k cap,vS=.slice ax k cap) (hvC:∃ax k cap,vC=.slice ax k cap) (kind num:Int) (foot:ByteArray) (req:Int) (path:ByteArray) (mode n time:Int) (code:Int) (hmax:es.length≤1000000):
 Calls Tryz.prog 26 #[.agg #[vS,.int .u64 first,vE,vC],.agg #[.int .i64 kind,.int .u64 num,.string foot,.int .u64 req,.string path,.int .i64 mode,.int .u64 n,.int .i64 time],.int .i64 code] w (Znn w first vS vC QE (if code=0 then es.filter (fun x=> !x.of num foot) else es)):=by
 obtain⟨R,hR⟩:=outE hq;have hA:=(At.start h).to (hR []);clear h;obtain⟨sx,sn,sc,rfl⟩:=hvS;obtain⟨cx,cn,cc,rfl⟩:=hvC;obtain⟨ex,en,ec,rfl⟩:=ZaF hA .here;have hq':=Hd hq;have hR':=Hd hR;clear hq hR;obtain⟨hA,hF⟩:=fZ hA;by_cases k0:code=0
 · subst k0;rw[if_pos rfl];go_enter Tryz.func26,Tryz.ntmps26
   go_wp2_with (first|(((with_reducible refine gbxD 3 ?_);refine wHz 40 [.slice sx sn sc,.int .u64 first,.slice ex en ec,.slice cx cn cc] hA ?_;clear hF hA;intro bX w1 hA hbX hF))|(((with_reducible refine gbxD 4 ?_);refine wHz 49 [.int .i64 kind,.int .u64 num,.string foot,.int .u64 req,.string path,.int .i64 mode,.int .u64 n,.int .i64 time] hA ?_;clear hF hA;intro bC w1 hA hbC hF))|(((with_reducible refine galD 6 ?_);refine g4 hA ?_;clear hF hA;intro bT w1 hA hbT hF)))
   refine(Lock.ZeY (hA.sep1 (A:=rowE (.slice ex en ec) es) sR) first (.slice cx cn cc) ⟨_,_,_,rfl⟩ .empty num foot true hmax).mono ?_;rintro e w1 ⟨v',rfl,hT⟩;rw[Lock.ZkS] at hT;have hB:=hA.call1 (A:=rowE (.slice ex en ec) es) sR hT;obtain⟨dx,dn,dc,rfl⟩:=ZaF hB .here;clear hT;replace hA:=hB;clear hF hB;obtain⟨hA,hF⟩:=fZ hA
   go_wp2_with ((with_reducible refine gst ?_);refine wTz hA ?_;clear hF hA;intro w1 hA hF)
   refine bodyPost_ret (v:=.agg #[.slice sx sn sc,.int .u64 first,.slice dx dn dc,.slice cx cn cc]) (by simp[results,Tryz.results26,go_sem,hF]) rfl ⟨_,_,rfl,List.mem_cons_self ..,fun q h=>List.mem_cons_of_mem _ h,?_⟩;exact(growE (foldE hR'.out hA (v:=.slice ex en ec) (l:=es) sR sR) (v:=.slice dx dn dc) sR sR).only1 sR
 rw[if_neg k0];go_enter Tryz.func26,Tryz.ntmps26
 go_wp2_with (first|(((with_reducible refine gbxD 3 ?_);refine wHz 40 [.slice sx sn sc,.int .u64 first,.slice ex en ec,.slice cx cn cc] hA ?_;clear hF hA;intro bX w1 hA hbX hF))|(((with_reducible refine gbxD 4 ?_);refine wHz 49 [.int .i64 kind,.int .u64 num,.string foot,.int .u64 req,.string path,.int .i64 mode,.int .u64 n,.int .i64 time] hA ?_;clear hF hA;intro bC w1 hA hbC hF))|(((with_reducible refine galD 6 ?_);refine g4 hA ?_;clear hF hA;intro bT w1 hA hbT hF))|((with_reducible refine gst ?_);refine wTz hA ?_;clear hF hA;intro w1 hA hF))
 refine bodyPost_ret (v:=.agg #[.slice sx sn sc,.int .u64 first,.slice ex en ec,.slice cx cn cc]) (by simp[results,Tryz.results26,go_sem,hF]) rfl ⟨_,_,rfl,hq'.out,fun q h=>h,?_⟩;exact(foldE hR'.out hA (v:=.slice ex en ec) (l:=es) sR sR).only1 sR
theorem ZiY {w:World} {QE:PE} {QC:PC} {vE vC:Value} {D:S3} (h:Sep [poolE QE,poolC QC] w) (hE:(vE,D.es) ∈ QE) (hC:(vC,D.cs) ∈ QC) (vS:Value) (hvS:∃ax k cap,vS=.slice ax k cap) (kind num:Int) (foot:ByteArray) (req:Int) (path:ByteArray) (mode n time:Int) (hp:path.size≤1000) {k:Nat} (hI:Lock.Inv D k) (hk:k≤1000000):
 Calls Tryz.prog 68 #[.agg #[vS,.int .u64 D.first,vE,vC],.agg #[.int .i64 kind,.int .u64 num,.string foot,.int .u64 req,.string path,.int .i64 mode,.int .u64 n,.int .i64 time]] w (Zcl w D.first vS D QE QC (docL D ⟨kind,num,foot,req,path,mode,n,time⟩).1 (arA req (docL D ⟨kind,num,foot,req,path,mode,n,time⟩).2)):=by
 obtain⟨first,es,cs⟩:=D;simp only at hE hC ⊢;obtain⟨RE,hRE⟩:=outE hE;obtain⟨RC,hRC⟩:=outC hC;have hA:=((((At.start h).to (hRE [poolC QC])).pick (K:=[poolC QC,rowE vE es,RE]) pR).to (hRC [rowE vE es,RE])).pick (K:=[rowE vE es,rowC vC cs,RE,RC]) pR;clear h;obtain⟨sx,sn,sc,rfl⟩:=hvS;obtain⟨ex,en,ec,rfl⟩:=ZaF hA .here;obtain⟨cx,cn,cc,rfl⟩:=ZaF hA (.there .here)
 have hok:∀x ∈ es,x.path.size≤1000∧x.stamp≤1000000000:=fun x hx=>⟨Nat.le_trans (hI.path x hx) (by omega),by have:=hI.stamp1 x hx;omega⟩
 have hc0:0≤Lock.counter first cs path:=Int.le_trans hI.first0 (Lock.Zcu hI path)
 have hle:=Nat.le_trans hI.len hk;have hlc:=Nat.le_trans hI.clen hk;have hE':=Hd hRE;have hC':=Hd hRC;have mE:=Hd hE;have mC:=Hd hC;have hcou:=Hd fun(w1:World) (q:Sep [rowE (.slice ex en ec) es] w1)=>Lock.Zjf q first (.slice cx cn cc) ⟨_,_,_,rfl⟩ path mode hp hle (fun x hx=>(hok x hx).1)
 have hadd:=Hd fun(w1:World) (q:Sep [rowE (.slice ex en ec) es,rowC (.slice cx cn cc) cs] w1)=>Lock.Zlg q path num foot mode hp hle hlc hok hc0;have hfin:=Hd fun(w1:World) (q:Sep [rowE (.slice ex en ec) es] w1)=>Lock.findR_any q first (.slice cx cn cc) ⟨_,_,_,rfl⟩ path num foot hle
 have hdro:=Hd fun(w1:World) (q:Sep [rowE (.slice ex en ec) es] w1)=>Lock.ZeY q first (.slice cx cn cc) ⟨_,_,_,rfl⟩ path num foot false hle
 have hchk:=Hd fun(w1:World) (q:Sep [rowE (.slice ex en ec) es] w1)=>Lock.Zjk q first (.slice cx cn cc) ⟨_,_,_,rfl⟩ path n hle (fun x hx=>(hok x hx).1)
 have hfx:=Hd (Lock.Zil (L:=es) (p:=path) (n:=num) (f:=foot));clear hRE hRC hE hC hok hc0 hle hlc hI hk;obtain⟨hA,hF⟩:=fZ hA;by_cases k4:kind=4
 · subst k4;go_enter Tryz.func68,Tryz.ntmps68
   go_wp2_with (first|(((with_reducible refine gbxD 2 ?_);refine wHz 40 [.slice sx sn sc,.int .u64 first,.slice ex en ec,.slice cx cn cc] hA ?_;clear hF hA;intro bX w1 hA hbX hF))|(((with_reducible refine gbxD 3 ?_);refine wHz 49 [.int .i64 4,.int .u64 num,.string foot,.int .u64 req,.string path,.int .i64 mode,.int .u64 n,.int .i64 time] hA ?_;clear hF hA;intro bC w1 hA hbC hF))|(((with_reducible refine galD 4 ?_);refine g4 hA ?_;clear hF hA;intro bT w1 hA hbT hF))|(((with_reducible refine galD 5 ?_);refine g0 hA ?_;clear hF hA;intro bR w1 hA hbR hF))|(((with_reducible refine galD 6 ?_);refine g0 hA ?_;clear hF hA;intro bA w1 hA hbA hF))|((with_reducible refine gst ?_);refine wTz hA ?_;clear hF hA;intro w1 hA hF))
   refine(hcou.out _ (hA.sep1 (A:=rowE (.slice ex en ec) es) sR)).mono ?_
   obtain⟨co,hco⟩:∃z,Lock.ZaC es path mode=z:=⟨_,rfl⟩
   rw[hco];have hco':=Hd hco;clear hco hcou;rintro e w1 ⟨rfl,hT⟩;replace hA:=hA.call1 (A:=rowE (.slice ex en ec) es) sR hT;clear hT hF;obtain⟨hA,hF⟩:=fZ hA;go_wp2_with fail;refine(hadd.out _ (hA.sep2 (A:=rowE (.slice ex en ec) es) (B:=rowC (.slice cx cn cc) cs) sR sR)).mono ?_;clear hadd;rintro e w1 (⟨q0,rfl,hT⟩|⟨q0,vL',vC',rfl,hT⟩)
   · obtain⟨me,hme⟩:∃z,(⟨first,es,cs⟩:S3).may path num foot mode=z:=⟨_,rfl⟩
     rw[hme] at q0;rw[hme];have hme':=Hd hme;have q1:(me==0)=false:=by simpa using q0
     have q0':=Hd q0;clear hme q0;replace hA:=hA.call2 (A:=rowE (.slice ex en ec) es) (B:=rowC (.slice cx cn cc) cs) sR sR hT;clear hT hF;obtain⟨hA,hF⟩:=fZ hA
     go_wp2_with (first|(((with_reducible refine galD 8 ?_);refine g10 hA ?_;clear hF hA;intro bL w1 hA hbL hF))|(((with_reducible refine galD 9 ?_);refine g3 hA ?_;clear hF hA;intro bN w1 hA hbN hF))|((with_reducible refine gst ?_);refine wTz hA ?_;clear hF hA;intro w1 hA hF))
     (try go_frame);refine csZ 2 40 bT 0 [.slice sx sn sc,.int .u64 first,.slice ex en ec,.slice cx cn cc] hA ?_;intro w1 hB;replace hA:=hB;clear hF hB;(simp only[List.drop_succ_cons,List.drop_zero]);obtain⟨hA,hF⟩:=fZ hA;(try go_frame)
     go_wp2_with ((with_reducible refine gst ?_);refine wTz hA ?_;clear hF hA;intro w1 hA hF)
     refine bodyPost_ret (v:=.tuple #[.agg #[.slice sx sn sc,.int .u64 first,.slice ex en ec,.slice cx cn cc],.agg #[.int .u64 req,.int .i64 me,.int .u64 0,.bool false]]) (by simp[results,Tryz.results68,go_sem,hF,Lock.nullE]) rfl ?_;show Zcl _ _ _ _ _ _ _ _ _ _
     have hd:docL (⟨first,es,cs⟩:S3) ⟨4,num,foot,req,path,mode,n,time⟩=((⟨first,es,cs⟩:S3),⟨me,0,false⟩):=by
      unfold docL;rw[if_pos (by simp),if_neg (by simp[hme'.out,q0'.out])];unfold Lock.S3.add Lock.S3.addE;rw[hme'.out,if_neg q0'.out,if_neg q0'.out,decide_eq_false q0'.out];rfl
     rw[hd];exact⟨_,_,QE,QC,rfl,mE.out,mC.out,fun q h=>h,(foldC hC'.out (foldE hE'.out hA (v:=.slice ex en ec) (l:=es) sR sR) (v:=.slice cx cn cc) (l:=cs) sR sR).pick pR⟩
   have hB:=hA.call2 (A:=rowE (.slice ex en ec) es) (B:=rowC (.slice cx cn cc) cs) sR sR hT;obtain⟨dx,dn,dc,rfl⟩:=ZaF hB .here;obtain⟨gx,gn,gc,rfl⟩:=ZaF hB (.there .here);clear hT
   obtain⟨⟨np,nnum,nf,nm,nn,ns⟩,hne⟩:∃z,(⟨first,es,cs⟩:S3).addE path num foot mode=z:=⟨_,rfl⟩
   rw[hne]
   obtain⟨D2,hD2⟩:∃z,(⟨first,es,cs⟩:S3).add path num foot mode=z:=⟨_,rfl⟩
   rw[hD2] at hB;simp only[Lock.Ent.val];have hne':=Hd hne;have hD2':=Hd hD2;have q0':=Hd q0;clear hne hD2 q0;replace hA:=hB;clear hF hB;obtain⟨hA,hF⟩:=fZ hA;cases co
   · go_wp2_with (first|(((with_reducible refine galD 8 ?_);refine g10 hA ?_;clear hF hA;intro bL w1 hA hbL hF))|(((with_reducible refine galD 9 ?_);refine g3 hA ?_;clear hF hA;intro bN w1 hA hbN hF))|((with_reducible refine gst ?_);refine wTz hA ?_;clear hF hA;intro w1 hA hF))
     (try go_frame);refine csZ 2 40 bT 0 [.slice sx sn sc,.int .u64 first,.slice dx dn dc,.slice gx gn gc] hA ?_;intro w1 hB;replace hA:=hB;clear hF hB;(simp only[List.drop_succ_cons,List.drop_zero]);obtain⟨hA,hF⟩:=fZ hA;(try go_frame)
     go_wp2_with ((with_reducible refine gst ?_);refine wTz hA ?_;clear hF hA;intro w1 hA hF)
     refine bodyPost_ret (v:=.tuple #[.agg #[.slice sx sn sc,.int .u64 first,.slice dx dn dc,.slice gx gn gc],.agg #[.int .u64 req,.int .i64 0,.int .u64 nn,.bool false]]) (by simp[results,Tryz.results68,go_sem,hF,Lock.nullE]) rfl ?_;show Zcl _ _ _ _ _ _ _ _ _ _
     have hd:docL (⟨first,es,cs⟩:S3) ⟨4,num,foot,req,path,mode,n,time⟩=(D2,⟨0,nn,false⟩):=by
      unfold docL;rw[if_pos (by simp),if_neg (by simp[q0'.out,hco'.out]),q0'.out,hne'.out,hD2'.out,hco'.out];rfl
     rw[hd];exact⟨_,_,_,_,rfl,List.mem_cons_self ..,List.mem_cons_self ..,fun q h=>List.mem_cons_of_mem _ h,(growC (foldC hC'.out (growE (foldE hE'.out hA (v:=.slice ex en ec) (l:=es) sR sR) (v:=.slice dx dn dc) (l:=D2.es) sR sR) (v:=.slice cx cn cc) (l:=cs) sR sR) (v:=.slice gx gn gc) (l:=D2.cs) sR sR).pick pR⟩
   go_wp2_with (first|(((with_reducible refine galD 8 ?_);refine g10 hA ?_;clear hF hA;intro bL w1 hA hbL hF))|(((with_reducible refine galD 9 ?_);refine g3 hA ?_;clear hF hA;intro bN w1 hA hbN hF))|((with_reducible refine gst ?_);refine wTz hA ?_;clear hF hA;intro w1 hA hF))
   (try go_frame);refine csZ 2 40 bT 0 [.slice sx sn sc,.int .u64 first,.slice dx dn dc,.slice gx gn gc] hA ?_;intro w1 hB;replace hA:=hB;clear hF hB;(simp only[List.drop_succ_cons,List.drop_zero]);obtain⟨hA,hF⟩:=fZ hA;(try go_frame)
   go_wp2_with ((with_reducible refine gst ?_);refine wTz hA ?_;clear hF hA;intro w1 hA hF)
   refine bodyPost_ret (v:=.tuple #[.agg #[.slice sx sn sc,.int .u64 first,.slice dx dn dc,.slice gx gn gc],.agg #[.int .u64 req,.int .i64 0,.int .u64 nn,.bool true]]) (by simp[results,Tryz.results68,go_sem,hF,Lock.nullE]) rfl ?_;show Zcl _ _ _ _ _ _ _ _ _ _
   have hd:docL (⟨first,es,cs⟩:S3) ⟨4,num,foot,req,path,mode,n,time⟩=(D2,⟨0,nn,true⟩):=by
    unfold docL;rw[if_pos (by simp),if_neg (by simp[q0'.out,hco'.out]),q0'.out,hne'.out,hD2'.out,hco'.out];rfl
   rw[hd];exact⟨_,_,_,_,rfl,List.mem_cons_self ..,List.mem_cons_self ..,fun q h=>List.mem_cons_of_mem _ h,(growC (foldC hC'.out (growE (foldE hE'.out hA (v:=.slice ex en ec) (l:=es) sR sR) (v:=.slice dx dn dc) (l:=D2.es) sR sR) (v:=.slice cx cn cc) (l:=cs) sR sR) (v:=.slice gx gn gc) (l:=D2.cs) sR sR).pick pR⟩
 by_cases k5:kind=5
 · subst k5;go_enter Tryz.func68,Tryz.ntmps68
   go_wp2_with (first|(((with_reducible refine gbxD 2 ?_);refine wHz 40 [.slice sx sn sc,.int .u64 first,.slice ex en ec,.slice cx cn cc] hA ?_;clear hF hA;intro bX w1 hA hbX hF))|(((with_reducible refine gbxD 3 ?_);refine wHz 49 [.int .i64 5,.int .u64 num,.string foot,.int .u64 req,.string path,.int .i64 mode,.int .u64 n,.int .i64 time] hA ?_;clear hF hA;intro bC w1 hA hbC hF))|(((with_reducible refine galD 4 ?_);refine g4 hA ?_;clear hF hA;intro bT w1 hA hbT hF))|(((with_reducible refine galD 5 ?_);refine g0 hA ?_;clear hF hA;intro bR w1 hA hbR hF))|(((with_reducible refine galD 6 ?_);refine g0 hA ?_;clear hF hA;intro bA w1 hA hbA hF))|((with_reducible refine gst ?_);refine wTz hA ?_;clear hF hA;intro w1 hA hF))
   refine(hcou.out _ (hA.sep1 (A:=rowE (.slice ex en ec) es) sR)).mono ?_
   obtain⟨co,hco⟩:∃z,Lock.ZaC es path mode=z:=⟨_,rfl⟩
   rw[hco];have hco':=Hd hco;clear hco hcou;rintro e w1 ⟨rfl,hT⟩;replace hA:=hA.call1 (A:=rowE (.slice ex en ec) es) sR hT;clear hT hF;obtain⟨hA,hF⟩:=fZ hA;go_wp2_with fail;refine(hadd.out _ (hA.sep2 (A:=rowE (.slice ex en ec) es) (B:=rowC (.slice cx cn cc) cs) sR sR)).mono ?_;clear hadd;rintro e w1 (⟨q0,rfl,hT⟩|⟨q0,vL',vC',rfl,hT⟩)
   · obtain⟨me,hme⟩:∃z,(⟨first,es,cs⟩:S3).may path num foot mode=z:=⟨_,rfl⟩
     rw[hme] at q0;rw[hme];have hme':=Hd hme;have q1:(me==0)=false:=by simpa using q0
     have q0':=Hd q0;clear hme q0;replace hA:=hA.call2 (A:=rowE (.slice ex en ec) es) (B:=rowC (.slice cx cn cc) cs) sR sR hT;clear hT hF;obtain⟨hA,hF⟩:=fZ hA
     go_wp2_with (first|(((with_reducible refine galD 8 ?_);refine g10 hA ?_;clear hF hA;intro bL w1 hA hbL hF))|(((with_reducible refine galD 9 ?_);refine g3 hA ?_;clear hF hA;intro bN w1 hA hbN hF))|((with_reducible refine gst ?_);refine wTz hA ?_;clear hF hA;intro w1 hA hF))
     (try go_frame);refine csZ 2 40 bT 0 [.slice sx sn sc,.int .u64 first,.slice ex en ec,.slice cx cn cc] hA ?_;intro w1 hB;replace hA:=hB;clear hF hB;(simp only[List.drop_succ_cons,List.drop_zero]);obtain⟨hA,hF⟩:=fZ hA;(try go_frame)
     go_wp2_with ((with_reducible refine gst ?_);refine wTz hA ?_;clear hF hA;intro w1 hA hF)
     refine bodyPost_ret (v:=.tuple #[.agg #[.slice sx sn sc,.int .u64 first,.slice ex en ec,.slice cx cn cc],.agg #[.int .u64 req,.int .i64 me,.int .u64 0,.bool false]]) (by simp[results,Tryz.results68,go_sem,hF,Lock.nullE]) rfl ?_;show Zcl _ _ _ _ _ _ _ _ _ _
     have hd:docL (⟨first,es,cs⟩:S3) ⟨5,num,foot,req,path,mode,n,time⟩=((⟨first,es,cs⟩:S3),⟨me,0,false⟩):=by
      unfold docL;rw[if_pos (by simp),if_neg (by simp[hme'.out,q0'.out])];unfold Lock.S3.add Lock.S3.addE;rw[hme'.out,if_neg q0'.out,if_neg q0'.out,decide_eq_false q0'.out];rfl
     rw[hd];exact⟨_,_,QE,QC,rfl,mE.out,mC.out,fun q h=>h,(foldC hC'.out (foldE hE'.out hA (v:=.slice ex en ec) (l:=es) sR sR) (v:=.slice cx cn cc) (l:=cs) sR sR).pick pR⟩
   have hB:=hA.call2 (A:=rowE (.slice ex en ec) es) (B:=rowC (.slice cx cn cc) cs) sR sR hT;obtain⟨dx,dn,dc,rfl⟩:=ZaF hB .here;obtain⟨gx,gn,gc,rfl⟩:=ZaF hB (.there .here);clear hT
   obtain⟨⟨np,nnum,nf,nm,nn,ns⟩,hne⟩:∃z,(⟨first,es,cs⟩:S3).addE path num foot mode=z:=⟨_,rfl⟩
   rw[hne]
   obtain⟨D2,hD2⟩:∃z,(⟨first,es,cs⟩:S3).add path num foot mode=z:=⟨_,rfl⟩
   rw[hD2] at hB;simp only[Lock.Ent.val];have hne':=Hd hne;have hD2':=Hd hD2;have q0':=Hd q0;clear hne hD2 q0;replace hA:=hB;clear hF hB;obtain⟨hA,hF⟩:=fZ hA;cases co
   · go_wp2_with (first|(((with_reducible refine galD 8 ?_);refine g10 hA ?_;clear hF hA;intro bL w1 hA hbL hF))|(((with_reducible refine galD 9 ?_);refine g3 hA ?_;clear hF hA;intro bN w1 hA hbN hF))|((with_reducible refine gst ?_);refine wTz hA ?_;clear hF hA;intro w1 hA hF))
     (try go_frame);refine csZ 2 40 bT 0 [.slice sx sn sc,.int .u64 first,.slice ex en ec,.slice cx cn cc] hA ?_;intro w1 hB;replace hA:=hB;clear hF hB;(simp only[List.drop_succ_cons,List.drop_zero]);obtain⟨hA,hF⟩:=fZ hA;(try go_frame)
     go_wp2_with ((with_reducible refine gst ?_);refine wTz hA ?_;clear hF hA;intro w1 hA hF)
     refine bodyPost_ret (v:=.tuple #[.agg #[.slice sx sn sc,.int .u64 first,.slice ex en ec,.slice cx cn cc],.agg #[.int .u64 req,.int .i64 51,.int .u64 0,.bool false]]) (by simp[results,Tryz.results68,go_sem,hF,Lock.nullE]) rfl ?_;show Zcl _ _ _ _ _ _ _ _ _ _
     have hd:docL (⟨first,es,cs⟩:S3) ⟨5,num,foot,req,path,mode,n,time⟩=((⟨first,es,cs⟩:S3),ansE 51):=by
      unfold docL;rw[if_pos (by simp),if_pos ⟨rfl,q0'.out,hco'.out⟩]
     rw[hd];exact⟨_,_,QE,QC,rfl,mE.out,mC.out,fun q h=>h,(foldC hC'.out (foldE hE'.out hA (v:=.slice ex en ec) (l:=es) sR sR) (v:=.slice cx cn cc) (l:=cs) sR sR).pick pR⟩
   go_wp2_with (first|(((with_reducible refine galD 8 ?_);refine g10 hA ?_;clear hF hA;intro bL w1 hA hbL hF))|(((with_reducible refine galD 9 ?_);refine g3 hA ?_;clear hF hA;intro bN w1 hA hbN hF))|((with_reducible refine gst ?_);refine wTz hA ?_;clear hF hA;intro w1 hA hF))
   (try go_frame);refine csZ 2 40 bT 0 [.slice sx sn sc,.int .u64 first,.slice dx dn dc,.slice gx gn gc] hA ?_;intro w1 hB;replace hA:=hB;clear hF hB;(simp only[List.drop_succ_cons,List.drop_zero]);obtain⟨hA,hF⟩:=fZ hA;(try go_frame)
   go_wp2_with ((with_reducible refine gst ?_);refine wTz hA ?_;clear hF hA;intro w1 hA hF)
   refine bodyPost_ret (v:=.tuple #[.agg #[.slice sx sn sc,.int .u64 first,.slice dx dn dc,.slice gx gn gc],.agg #[.int .u64 req,.int .i64 0,.int .u64 nn,.bool true]]) (by simp[results,Tryz.results68,go_sem,hF,Lock.nullE]) rfl ?_;show Zcl _ _ _ _ _ _ _ _ _ _
   have hd:docL (⟨first,es,cs⟩:S3) ⟨5,num,foot,req,path,mode,n,time⟩=(D2,⟨0,nn,true⟩):=by
    unfold docL;rw[if_pos (by simp),if_neg (by simp[q0'.out,hco'.out]),q0'.out,hne'.out,hD2'.out,hco'.out];rfl
   rw[hd];exact⟨_,_,_,_,rfl,List.mem_cons_self ..,List.mem_cons_self ..,fun q h=>List.mem_cons_of_mem _ h,(growC (foldC hC'.out (growE (foldE hE'.out hA (v:=.slice ex en ec) (l:=es) sR sR) (v:=.slice dx dn dc) (l:=D2.es) sR sR) (v:=.slice cx cn cc) (l:=cs) sR sR) (v:=.slice gx gn gc) (l:=D2.cs) sR sR).pick pR⟩
 by_cases k6:kind=6
 · subst k6;clear hcou hadd hchk k4 k5;go_enter Tryz.func68,Tryz.ntmps68
   go_wp2_with (first|(((with_reducible refine gbxD 2 ?_);refine wHz 40 [.slice sx sn sc,.int .u64 first,.slice ex en ec,.slice cx cn cc] hA ?_;clear hF hA;intro bX w1 hA hbX hF))|(((with_reducible refine gbxD 3 ?_);refine wHz 49 [.int .i64 6,.int .u64 num,.string foot,.int .u64 req,.string path,.int .i64 mode,.int .u64 n,.int .i64 time] hA ?_;clear hF hA;intro bC w1 hA hbC hF))|(((with_reducible refine galD 4 ?_);refine g4 hA ?_;clear hF hA;intro bT w1 hA hbT hF))|(((with_reducible refine galD 5 ?_);refine g0 hA ?_;clear hF hA;intro bR w1 hA hbR hF))|(((with_reducible refine galD 6 ?_);refine g0 hA ?_;clear hF hA;intro bA w1 hA hbA hF))|((with_reducible refine gst ?_);refine wTz hA ?_;clear hF hA;intro w1 hA hF))
   refine(hfin.out _ (hA.sep1 (A:=rowE (.slice ex en ec) es) sR)).mono ?_
   obtain⟨ix,hix⟩:∃z,Lock.idxD es path num foot=z:=⟨_,rfl⟩
   have hz:=hfx.out;rw[hix] at hz;rw[hix];clear hix hfx hfin;rintro e w1 ⟨rfl,hT⟩;replace hA:=hA.call1 (A:=rowE (.slice ex en ec) es) sR hT;clear hT hF;obtain⟨hA,hF⟩:=fZ hA
   cases hfs:(Lock.find es path num foot).isSome with
   |false=>
    have hix:=hz.2 hfs;subst hix;have hfs':=Hd hfs;clear hz hfs
    go_wp2_with ((with_reducible refine gst ?_);refine wTz hA ?_;clear hF hA;intro w1 hA hF)
    (try go_frame);refine csZ 2 40 bT 0 [.slice sx sn sc,.int .u64 first,.slice ex en ec,.slice cx cn cc] hA ?_;intro w1 hB;replace hA:=hB;clear hF hB;(simp only[List.drop_succ_cons,List.drop_zero]);obtain⟨hA,hF⟩:=fZ hA;(try go_frame)
    go_wp2_with ((with_reducible refine gst ?_);refine wTz hA ?_;clear hF hA;intro w1 hA hF)
    refine bodyPost_ret (v:=.tuple #[.agg #[.slice sx sn sc,.int .u64 first,.slice ex en ec,.slice cx cn cc],.agg #[.int .u64 req,.int .i64 52,.int .u64 0,.bool false]]) (by simp[results,Tryz.results68,go_sem,hF,Lock.nullE]) rfl ?_;show Zcl _ _ _ _ _ _ _ _ _ _
    have hd:docL (⟨first,es,cs⟩:S3) ⟨6,num,foot,req,path,mode,n,time⟩=((⟨first,es,cs⟩:S3),ansE 52):=by
     unfold docL;rw[if_neg (by simp),if_pos rfl,if_pos hfs'.out]
    rw[hd];exact⟨_,_,QE,QC,rfl,mE.out,mC.out,fun q h=>h,(foldC hC'.out (foldE hE'.out hA (v:=.slice ex en ec) (l:=es) sR sR) (v:=.slice cx cn cc) (l:=cs) sR sR).pick pR⟩
   |true=>
    have hix:=hz.1 hfs;have hix':¬ix < 0:=by omega
    have hfs':=Hd hfs;clear hz hfs hix;go_wp2_with fail;refine(hdro.out _ (hA.sep1 (A:=rowE (.slice ex en ec) es) sR)).mono ?_;rintro e w1 ⟨v',rfl,hT⟩;rw[Lock.ZkQ] at hT;have hB:=hA.call1 (A:=rowE (.slice ex en ec) es) sR hT;obtain⟨dx,dn,dc,rfl⟩:=ZaF hB .here;clear hT hdro;replace hA:=hB;clear hF hB;obtain⟨hA,hF⟩:=fZ hA
    go_wp2_with ((with_reducible refine gst ?_);refine wTz hA ?_;clear hF hA;intro w1 hA hF)
    (try go_frame);refine csZ 2 40 bT 0 [.slice sx sn sc,.int .u64 first,.slice dx dn dc,.slice cx cn cc] hA ?_;intro w1 hB;replace hA:=hB;clear hF hB;(simp only[List.drop_succ_cons,List.drop_zero]);obtain⟨hA,hF⟩:=fZ hA;(try go_frame)
    go_wp2_with ((with_reducible refine gst ?_);refine wTz hA ?_;clear hF hA;intro w1 hA hF)
    refine bodyPost_ret (v:=.tuple #[.agg #[.slice sx sn sc,.int .u64 first,.slice dx dn dc,.slice cx cn cc],.agg #[.int .u64 req,.int .i64 0,.int .u64 0,.bool false]]) (by simp[results,Tryz.results68,go_sem,hF,Lock.nullE]) rfl ?_;show Zcl _ _ _ _ _ _ _ _ _ _
    have hd:docL (⟨first,es,cs⟩:S3) ⟨6,num,foot,req,path,mode,n,time⟩=((⟨first,es,cs⟩:S3).remove path num foot,ansE 0):=by
     unfold docL;rw[if_neg (by simp),if_pos rfl,if_neg (by rw[hfs'.out];decide)]
    rw[hd];exact⟨_,_,(.slice dx dn dc,es.filter (fun x=> !x.is path num foot))::QE,QC,rfl,List.mem_cons_self ..,mC.out,fun q h=>List.mem_cons_of_mem _ h,(foldC hC'.out (growE (foldE hE'.out hA (v:=.slice ex en ec) (l:=es) sR sR) (v:=.slice dx dn dc) (l:=es.filter (fun x=> !x.is path num foot)) sR sR) (v:=.slice cx cn cc) (l:=cs) sR sR).pick pR⟩
 have k4':(kind==4)=false:=by simpa using k4
 have k5':(kind==5)=false:=by simpa using k5
 have k6':(kind==6)=false:=by simpa using k6
 have e4:=Hd k4;have e5:=Hd k5;have e6:=Hd k6;clear hcou hadd hfin hdro hfx;go_enter Tryz.func68,Tryz.ntmps68
 go_wp2_with (first|(((with_reducible refine gbxD 2 ?_);refine wHz 40 [.slice sx sn sc,.int .u64 first,.slice ex en ec,.slice cx cn cc] hA ?_;clear hF hA;intro bX w1 hA hbX hF))|(((with_reducible refine gbxD 3 ?_);refine wHz 49 [.int .i64 kind,.int .u64 num,.string foot,.int .u64 req,.string path,.int .i64 mode,.int .u64 n,.int .i64 time] hA ?_;clear hF hA;intro bC w1 hA hbC hF))|(((with_reducible refine galD 4 ?_);refine g4 hA ?_;clear hF hA;intro bT w1 hA hbT hF))|(((with_reducible refine galD 5 ?_);refine g0 hA ?_;clear hF hA;intro bR w1 hA hbR hF))|(((with_reducible refine galD 6 ?_);refine g0 hA ?_;clear hF hA;intro bA w1 hA hbA hF))|((with_reducible refine gst ?_);refine wTz hA ?_;clear hF hA;intro w1 hA hF))
 refine(hchk.out _ (hA.sep1 (A:=rowE (.slice ex en ec) es) sR)).mono ?_
 obtain⟨ck,hck⟩:∃z,Lock.Zck es path n=z:=⟨_,rfl⟩
 rw[hck];have hck':=Hd hck;clear hck hchk;rintro e w1 ⟨rfl,hT⟩;replace hA:=hA.call1 (A:=rowE (.slice ex en ec) es) sR hT;clear hT hF;obtain⟨hA,hF⟩:=fZ hA;cases ck
 · go_wp2_with ((with_reducible refine gst ?_);refine wTz hA ?_;clear hF hA;intro w1 hA hF)
   (try go_frame);refine csZ 2 40 bT 0 [.slice sx sn sc,.int .u64 first,.slice ex en ec,.slice cx cn cc] hA ?_;intro w1 hB;replace hA:=hB;clear hF hB;(simp only[List.drop_succ_cons,List.drop_zero]);obtain⟨hA,hF⟩:=fZ hA;(try go_frame)
   go_wp2_with ((with_reducible refine gst ?_);refine wTz hA ?_;clear hF hA;intro w1 hA hF)
   refine bodyPost_ret (v:=.tuple #[.agg #[.slice sx sn sc,.int .u64 first,.slice ex en ec,.slice cx cn cc],.agg #[.int .u64 req,.int .i64 52,.int .u64 0,.bool false]]) (by simp[results,Tryz.results68,go_sem,hF,Lock.nullE]) rfl ?_;show Zcl _ _ _ _ _ _ _ _ _ _
   have hd:docL (⟨first,es,cs⟩:S3) ⟨kind,num,foot,req,path,mode,n,time⟩=((⟨first,es,cs⟩:S3),ansE 52):=by
    unfold docL;rw[if_neg (by simp[e4.out,e5.out]),if_neg e6.out,hck'.out];rfl
   rw[hd];exact⟨_,_,QE,QC,rfl,mE.out,mC.out,fun q h=>h,(foldC hC'.out (foldE hE'.out hA (v:=.slice ex en ec) (l:=es) sR sR) (v:=.slice cx cn cc) (l:=cs) sR sR).pick pR⟩
 go_wp2_with fail;(try go_frame);refine csZ 2 40 bT 0 [.slice sx sn sc,.int .u64 first,.slice ex en ec,.slice cx cn cc] hA ?_;intro w1 hB;replace hA:=hB;clear hF hB;(simp only[List.drop_succ_cons,List.drop_zero]);obtain⟨hA,hF⟩:=fZ hA;(try go_frame)
 go_wp2_with ((with_reducible refine gst ?_);refine wTz hA ?_;clear hF hA;intro w1 hA hF)
 refine bodyPost_ret (v:=.tuple #[.agg #[.slice sx sn sc,.int .u64 first,.slice ex en ec,.slice cx cn cc],.agg #[.int .u64 req,.int .i64 0,.int .u64 0,.bool false]]) (by simp[results,Tryz.results68,go_sem,hF,Lock.nullE]) rfl ?_;show Zcl _ _ _ _ _ _ _ _ _ _
 have hd:docL (⟨first,es,cs⟩:S3) ⟨kind,num,foot,req,path,mode,n,time⟩=((⟨first,es,cs⟩:S3),ansE 0):=by
  unfold docL;rw[if_neg (by simp[e4.out,e5.out]),if_neg e6.out,hck'.out];rfl
 rw[hd];exact⟨_,_,QE,QC,rfl,mE.out,mC.out,fun q h=>h,(foldC hC'.out (foldE hE'.out hA (v:=.slice ex en ec) (l:=es) sR sR) (v:=.slice cx cn cc) (l:=cs) sR sR).pick pR⟩
end Tab
end
section
namespace Tab
open Go.RowKit
open Path (bl Zaf overB Zan)
open Lease (Ses Ans fresh ZaE SR AR arP rowR poolP Rel RelS findR saidA insA okA)
open Lock (S3 Ent rowE rowC)
open Cmd (Cm Zao)
attribute [-go_sem] run_eql_struct run_neq_struct run_eqGuard_agg
theorem ZbX {L0:List Part} {w0 w:World} {D:DS} {T:TS} (hA:At L0 w0 D.parts w) (hD:DIn T D):(∃ax k cap,D.vS=.slice ax k cap)∧(∃ax k cap,D.vE=.slice ax k cap)∧(∃ax k cap,D.vC=.slice ax k cap):=by
 have hA:At L0 w0 [rowR D.vS D.L,poolP D.PL,poolE D.QE,poolC D.QC] w:=hA;obtain⟨RE,hRE⟩:=outE hD.le;obtain⟨RC,hRC⟩:=outC hD.lc;have h1:=(hA.pick (K:=[poolE D.QE]) pR).to (hRE []);have h2:=(hA.pick (K:=[poolC D.QC]) pR).to (hRC []);exact⟨ZaF hA .here,ZaF h1 .here,ZaF h2 .here⟩
theorem Znj {w:World} {first:Int} {vS vC:Value} {QE:PE} {es':List Ent} {f:FuncId} {args:Array Value} (h:Calls Tryz.prog f args w (Znn w first vS vC QE es')):Calls Tryz.prog f args w fun e w'=>∃u,e=.returned u∧∃(dx2:Option Addr) (dn2 dc2:Nat) (QE2:PE),u=.agg #[vS,.int .u64 first,.slice dx2 dn2 dc2,vC]∧(.slice dx2 dn2 dc2,es') ∈ QE2∧(∀q ∈ QE,q ∈ QE2)∧At [poolE QE] w [poolE QE2] w':=by
 refine h.mono ?_;rintro e w1 ⟨vE',QE',rfl,hm,hs,hT⟩;obtain⟨R,hR⟩:=outE hm;obtain⟨ax,k,cap,rfl⟩:=ZaF (hT.to (hR [])) .here;exact⟨_,rfl,ax,k,cap,QE',rfl,hm,hs,hT⟩
def OneP (w:World) (v:Value) (L:List SR) (code:Int) (L':List SR) (e:Ending) (w':World):Prop:=
 ∃v',e=.returned (.tuple #[.agg #[v'],.int .i64 code])∧At [rowR v L] w [rowR v' L'] w'
theorem Zfp {w:World} {v:Value} {L:List SR} {s':SR} {err:Int} {f:FuncId} {args:Array Value} (h:Calls Tryz.prog f args w (Lease.Za8 w v L s' err)):Calls Tryz.prog f args w (OneP w v L err (if err=0 then Lease.putR L s' else L)):=by
 refine h.mono ?_;rintro e w1 (⟨q,he,hT⟩|⟨q,v',he,hT⟩)
 · exact⟨v,he,by rw[if_neg q];exact hT⟩
 exact⟨v',by rw[q];exact he,by rw[if_pos q];exact hT⟩
theorem Zl4 {w:World} {v:Value} {L:List SR} {s:SR} {ttl time:Int} {f:FuncId} {args:Array Value} (h:Calls Tryz.prog f args w (Lease.ZbZ w v L s ttl time)):Calls Tryz.prog f args w (OneP w v L (Lease.Za0 s (Lease.cntR L s.foot)) (if Lease.Za0 s (Lease.cntR L s.foot)=0 then Lease.putR L (s.opened ttl time) else L)):=by
 refine h.mono ?_;rintro e w1 (⟨q,he,hT⟩|⟨q,v',he,hT⟩)
 · exact⟨v,he,by rw[if_neg q];exact hT⟩
 exact⟨v',by rw[q];exact he,by rw[if_pos q];exact hT⟩
theorem Zig {T:TS} {c:Cm} {L:List SR} {PL:List (Value × List AR)} (h:Lease.Inv T.S L PL) {g:Ses→Ses} {a':SR} {code:Int} (hr:code=0→Rel (updA g c.num c.foot T.S) (Lease.putR L a')) (ha:(a'.tv,a'.told) ∈ PL) (hf:a'.foot.size≤2000000):
 Lease.Inv (opT T c g code).S (if code=0 then Lease.putR L a' else L) PL:=by
 unfold opT;split
 · rename_i h0;exact h.put (hr h0) (fun q h=>h) ha hf
 exact h
theorem opT_L (T:TS) (c:Cm) (g:Ses→Ses) (e:Int):(opT T c g e).L=T.L:=by unfold opT;split<;>rfl
theorem Zni (T:TS) (c:Cm) (e:Int):(endT T c e).S=(opT T c Ses.ended e).S:=by unfold endT opT;split<;>rfl
theorem ZfR (T:TS) (c:Cm) (e:Int):(endT T c e).L.es=(if e=0 then T.L.es.filter (fun x=> !x.of c.num c.foot) else T.L.es)∧(endT T c e).L.cs=T.L.cs∧(endT T c e).L.first=T.L.first:=by
 unfold endT;split<;>exact⟨rfl,rfl,rfl⟩
theorem Zd5 {T:TS} {m:Nat} (h:SInv T.S m) {L:List SR} (hR:Rel T.S L):L.length≤m:=by rw[←hR.len];exact h.len
theorem Zof {w:World} {D:DS} {T:TS} (h:Sep D.parts w) (hD:DIn T D) (kind num:Int) (foot:ByteArray) (req:Int) (path:ByteArray) (mode n time:Int) {k:Nat} (hI:TInv T k) (hk:k≤100000) (hf:foot.size≤1000) (hp:path.size≤1000) (hn:kind=1→0≤n∧n≤1048576):
 Calls Tryz.prog 28 #[D.val T.L.first,.agg #[.int .i64 kind,.int .u64 num,.string foot,.int .u64 req,.string path,.int .i64 mode,.int .u64 n,.int .i64 time]] w (DPost T.L.first w D (doT T ⟨kind,num,foot,req,path,mode,n,time⟩).1 (arA req (doT T ⟨kind,num,foot,req,path,mode,n,time⟩).2)):=by
 have hm:Tryz.prog.follows .mixedOrders=true:=by kernel_rfl
 obtain⟨⟨sx,sn,sc,h1⟩,⟨ex,en,ec,h2⟩,⟨cx,cn,cc,h3⟩⟩:=ZbX (At.start h) hD;obtain⟨vS,L,PL,vE,QE,vC,QC⟩:=D;simp only at h1 h2 h3;subst h1 h2 h3;have hA:At [rowR (.slice sx sn sc) L,poolP PL,poolE QE,poolC QC] w [rowR (.slice sx sn sc) L,poolP PL,poolE QE,poolC QC] w:=At.start h;clear h;have hrs:=Zco hD.lease.rel (n:=num) (f:=foot);have hmem:=hD.lease.found num foot;have hkey:=Lease.Zec (L:=L) (n:=num) (f:=foot);have hlen:L.length≤1000000:=Nat.le_trans (Zd5 hI.s hD.lease.rel) (by omega);have hE1:=ZjT hD.lease.rel (n:=num) (f:=foot);have hop:=rel_op hD.lease.rel (n:=num) (f:=foot)
 obtain⟨first,hfi⟩:∃z,T.L.first=z:=⟨_,rfl⟩
 have ho1:kind=1→doT T ⟨kind,num,foot,req,path,mode,n,time⟩=(opT T ⟨kind,num,foot,req,path,mode,n,time⟩ (fun s=>s.opened n time) (Lease.Za0 (findR L num foot) (Lease.cntR L foot)),ansE (Lease.Za0 (findR L num foot) (Lease.cntR L foot)))∧DIn (opT T ⟨kind,num,foot,req,path,mode,n,time⟩ (fun s=>s.opened n time) (Lease.Za0 (findR L num foot) (Lease.cntR L foot))) ⟨.slice sx sn sc,(if Lease.Za0 (findR L num foot) (Lease.cntR L foot)=0 then Lease.putR L ((findR L num foot).opened n time) else L),PL,.slice ex en ec,QE,.slice cx cn cc,QC⟩:=fun e=>by
  refine⟨?_,Zig hD.lease (fun q=>ZlT hD.lease.rel n time (hE1.trans q)) hmem (by show(findR L num foot).foot.size≤2000000;rw[hkey.2];omega),by rw[opT_L];exact hD.le,by rw[opT_L];exact hD.lc⟩;unfold doT;rw[if_pos e];simp only[hE1]
 have hR2:∀code,code=0→Rel (updA Ses.ended num foot T.S) (Lease.putR L (findR L num foot).ended):=fun _ _=>Zhf hD.lease.rel
 have ho2:kind=2→doT T ⟨kind,num,foot,req,path,mode,n,time⟩=(endT T ⟨kind,num,foot,req,path,mode,n,time⟩ (if(findR L num foot).op=true then(0:Int) else 50),ansE (if(findR L num foot).op=true then(0:Int) else 50)):=fun e=>by
  unfold doT;rw[if_neg (by show ¬kind=1;omega),if_pos e];simp only[hop]
 have hi2:Lease.Inv (endT T ⟨kind,num,foot,req,path,mode,n,time⟩ (if(findR L num foot).op=true then(0:Int) else 50)).S (if(if(findR L num foot).op=true then(0:Int) else 50)=0 then Lease.putR L (findR L num foot).ended else L) PL:=by
  rw[Zni];exact Zig hD.lease (fun _=>Zhf hD.lease.rel) hmem (by show(findR L num foot).foot.size≤2000000;rw[hkey.2];omega)
 have ho3:kind=3→doT T ⟨kind,num,foot,req,path,mode,n,time⟩=(opT T ⟨kind,num,foot,req,path,mode,n,time⟩ (fun s=>s.kept time) (if(findR L num foot).op=true then(0:Int) else 50),ansE (if(findR L num foot).op=true then(0:Int) else 50))∧DIn (opT T ⟨kind,num,foot,req,path,mode,n,time⟩ (fun s=>s.kept time) (if(findR L num foot).op=true then(0:Int) else 50)) ⟨.slice sx sn sc,(if(if(findR L num foot).op=true then(0:Int) else 50)=0 then Lease.putR L ((findR L num foot).kept time) else L),PL,.slice ex en ec,QE,.slice cx cn cc,QC⟩:=fun e=>by
  refine⟨?_,Zig hD.lease (fun _=>ZlV hD.lease.rel time) hmem (by show(findR L num foot).foot.size≤2000000;rw[hkey.2];omega),by rw[opT_L];exact hD.le,by rw[opT_L];exact hD.lc⟩;unfold doT;rw[if_neg (by show ¬kind=1;omega),if_neg (by show ¬kind=2;omega),if_pos e];simp only[hop]
 have ho4:kind≠1→kind≠2→kind≠3→doT T ⟨kind,num,foot,req,path,mode,n,time⟩=ZaX T ⟨kind,num,foot,req,path,mode,n,time⟩:=fun e1 e2 e3=>by
  unfold doT;rw[if_neg e1,if_neg e2,if_neg e3]
 have hmay:mayT T ⟨kind,num,foot,req,path,mode,n,time⟩=if(findR L num foot).op=false then 50 else if Zan (bl foot) (bl path)=false then 55 else 0:=by
  unfold mayT;simp only[hop]
 have hdoc:=fun(q:mayT T ⟨kind,num,foot,req,path,mode,n,time⟩=0)=>Zoe hI.lock q;have hlk:=fun(w1:World) (q:Sep [poolE QE,poolC QC] w1)=>ZiY q hD.le hD.lc (.slice sx sn sc) ⟨_,_,_,rfl⟩ kind num foot req path mode n time hp hI.lock (by omega);have hdr:=fun(code:Int) (vS2:Value) (hv2:∃ax k cap,vS2=.slice ax k cap) (w1:World) (q:Sep [poolE QE] w1)=>Zef q hD.le first vS2 (.slice cx cn cc) hv2 ⟨_,_,_,rfl⟩ kind num foot req path mode n time code (Nat.le_trans hI.lock.len (by omega))
 have hes:=ZfR T ⟨kind,num,foot,req,path,mode,n,time⟩ (if(findR L num foot).op=true then(0:Int) else 50);rw[hfi] at hlk ⊢
 obtain⟨s,hs⟩:∃z,findR L num foot=z:=⟨_,rfl⟩
 rw[hs] at hrs hmem hkey ho1 ho2 hi2 ho3 hmay hes;have htb:=hrs.tb;have hsf:=hkey.2;have hs':=Hd hs;have ho1':=Hd ho1;have ho2':=Hd ho2;have ho3':=Hd ho3;have ho4':=Hd ho4;have hi2':=Hd hi2;have hmay':=Hd hmay;have hdoc':=Hd hdoc;have hlk':=Hd hlk;have hdr':=Hd hdr;have hes':=Hd hes;have hD':=Hd hD;have hsf':=Hd hsf;have htb':=Hd htb;clear hs hrs hmem hkey ho1 ho2 ho3 ho4 hi2 hmay hdoc hlk hdr hes hD hsf htb hR2 hE1 hop hfi hI;obtain⟨hA,hF⟩:=fZ hA;by_cases k1:kind=1
 · subst k1;have hn1:=hn rfl;have hcv:IntKind.i64.wrap n=n:=by rw[IntKind.wrap_i64]<;>omega
   obtain⟨hd,hin⟩:=ho1'.out rfl
   obtain⟨co,hco⟩:∃z,Lease.Za0 s (Lease.cntR L foot)=z:=⟨_,rfl⟩
   have hz:=fun(w1:World) (q:Sep [rowR (.slice sx sn sc) L] w1)=>(hsf'.out ▸ Zl4 (Lease.Zj7 q s n time hlen):Calls _ _ _ _ (OneP w1 (.slice sx sn sc) L (Lease.Za0 s (Lease.cntR L foot)) (if Lease.Za0 s (Lease.cntR L foot)=0 then Lease.putR L (s.opened n time) else L)))
   simp only[hco] at hz hin hd
   obtain⟨L2,hL2⟩:∃z,(if co=0 then Lease.putR L (s.opened n time) else L)=z:=⟨_,rfl⟩
   simp only[hL2] at hz hin;have hz':=Hd hz;have hin':=Hd hin;have hd':=Hd hd;clear hz hin hd hco hL2 ho1' ho2' ho3' ho4' hi2' hdr' hes' hlk' hdoc' hmay';go_enter Tryz.func28,Tryz.ntmps28
   go_wp2_with (first|(((with_reducible refine gbxD 2 ?_);refine wHz 40 [.slice sx sn sc,.int .u64 first,.slice ex en ec,.slice cx cn cc] hA ?_;clear hF hA;intro bX w1 hA hbX hF))|(((with_reducible refine gbxD 3 ?_);refine wHz 49 [.int .i64 1,.int .u64 num,.string foot,.int .u64 req,.string path,.int .i64 mode,.int .u64 n,.int .i64 time] hA ?_;clear hF hA;intro bC w1 hA hbC hF))|(((with_reducible refine galD 4 ?_);refine g4 hA ?_;clear hF hA;intro bT w1 hA hbT hF))|(((with_reducible refine galD 5 ?_);refine g0 hA ?_;clear hF hA;intro bR w1 hA hbR hF)))
   refine(Lease.findR_any (hA.sep1 (A:=rowR (.slice sx sn sc) L) sR) num foot hlen).mono ?_;rw[hs'.out];rintro e w1 ⟨rfl,hT⟩;replace hA:=hA.call1 (A:=rowR (.slice sx sn sc) L) sR hT;clear hT hF;obtain⟨hA,hF⟩:=fZ hA
   go_wp2_with (first|(((with_reducible refine galD 6 ?_);refine g9 hA ?_;clear hF hA;intro bS w1 hA hbS hF))|(((with_reducible refine galD 7 ?_);refine g0 hA ?_;clear hF hA;intro bA w1 hA hbA hF))|(refine Zam (b:=bS) (j:=0) (vs:=SR.cells s) rfl rfl rfl (by(try simp only[Act.eval,eV])<;>exact rfl) (by exact rfl) hA sR (by kernel_rfl) (Lease.SR.ones _) (by show 0 + 7≤7;omega) ?_;intro w1 hB;replace hA:=hB;clear hF hB;simp only[SR.cells,SR.tv] at hA;obtain⟨hA,hF⟩:=fZ hA)|((with_reducible refine gst ?_);refine wTz hA ?_;clear hF hA;intro w1 hA hF))
   refine(hz'.out _ (hA.sep1 (A:=rowR (.slice sx sn sc) L) sR)).mono ?_;clear hz';rintro e w1 ⟨v',rfl,hT⟩;have hB:=hA.call1 (A:=rowR (.slice sx sn sc) L) sR hT;obtain⟨dx,dn,dc,rfl⟩:=ZaF hB .here;clear hT;replace hA:=hB;clear hF hB;obtain⟨hA,hF⟩:=fZ hA
   go_wp2_with ((with_reducible refine gst ?_);refine wTz hA ?_;clear hF hA;intro w1 hA hF)
   (try go_frame);refine csZ 2 40 bT 0 [.slice dx dn dc,.int .u64 first,.slice ex en ec,.slice cx cn cc] hA ?_;intro w1 hB;replace hA:=hB;clear hF hB;(simp only[List.drop_succ_cons,List.drop_zero]);obtain⟨hA,hF⟩:=fZ hA;(try go_frame)
   go_wp2_with ((with_reducible refine gst ?_);refine wTz hA ?_;clear hF hA;intro w1 hA hF)
   refine bodyPost_ret (v:=.tuple #[.agg #[.slice dx dn dc,.int .u64 first,.slice ex en ec,.slice cx cn cc],.agg #[.int .u64 req,.int .i64 co,.int .u64 0,.bool false]]) (by simp[results,Tryz.results28,go_sem,hF]) rfl ?_;rw[hd'.out];exact⟨⟨.slice dx dn dc,L2,PL,.slice ex en ec,QE,.slice cx cn cc,QC⟩,rfl,⟨hin'.out.lease,hin'.out.le,hin'.out.lc⟩,fun q h=>h,(show At [rowR _ _,poolP _,poolE _,poolC _] _ [rowR _ _,poolP _,poolE _,poolC _] _ from hA.pick pR)⟩
 by_cases x2:kind=2
 · subst x2;have hd:=ho2'.out rfl
   obtain⟨co,hco⟩:∃z,(if s.op=true then(0:Int) else 50)=z:=⟨_,rfl⟩
   have hz:=fun(w1:World) (q:Sep [rowR (.slice sx sn sc) L] w1)=>Zfp (Lease.ZfS q s hlen);have hin:=hi2'.out;have hes:=hes'.out;simp only[hco] at hz hin hd hes
   obtain⟨L2,hL2⟩:∃z,(if co=0 then Lease.putR L s.ended else L)=z:=⟨_,rfl⟩
   simp only[hL2] at hz hin;have hdz:=fun(dx:Option Addr) (dn dc:Nat) (w1:World) (q:Sep [poolE QE] w1)=>Znj (hdr'.out co (.slice dx dn dc) ⟨_,_,_,rfl⟩ w1 q);have hz':=Hd hz;have hin':=Hd hin;have hd':=Hd hd;have he2':=Hd hes;have hdz0:=Hd hdz;clear hz hin hd hco hL2 hes hdz ho1' ho2' ho3' ho4' hi2' hdr' hes' hlk' hdoc' hmay';go_enter Tryz.func28,Tryz.ntmps28
   go_wp2_with (first|(((with_reducible refine gbxD 2 ?_);refine wHz 40 [.slice sx sn sc,.int .u64 first,.slice ex en ec,.slice cx cn cc] hA ?_;clear hF hA;intro bX w1 hA hbX hF))|(((with_reducible refine gbxD 3 ?_);refine wHz 49 [.int .i64 2,.int .u64 num,.string foot,.int .u64 req,.string path,.int .i64 mode,.int .u64 n,.int .i64 time] hA ?_;clear hF hA;intro bC w1 hA hbC hF))|(((with_reducible refine galD 4 ?_);refine g4 hA ?_;clear hF hA;intro bT w1 hA hbT hF))|(((with_reducible refine galD 5 ?_);refine g0 hA ?_;clear hF hA;intro bR w1 hA hbR hF)))
   refine(Lease.findR_any (hA.sep1 (A:=rowR (.slice sx sn sc) L) sR) num foot hlen).mono ?_;rw[hs'.out];rintro e w1 ⟨rfl,hT⟩;replace hA:=hA.call1 (A:=rowR (.slice sx sn sc) L) sR hT;clear hT hF;obtain⟨hA,hF⟩:=fZ hA
   go_wp2_with (first|(((with_reducible refine galD 6 ?_);refine g9 hA ?_;clear hF hA;intro bS w1 hA hbS hF))|(((with_reducible refine galD 7 ?_);refine g0 hA ?_;clear hF hA;intro bA w1 hA hbA hF))|(refine Zam (b:=bS) (j:=0) (vs:=SR.cells s) rfl rfl rfl (by(try simp only[Act.eval,eV])<;>exact rfl) (by exact rfl) hA sR (by kernel_rfl) (Lease.SR.ones _) (by show 0 + 7≤7;omega) ?_;intro w1 hB;replace hA:=hB;clear hF hB;simp only[SR.cells,SR.tv] at hA;obtain⟨hA,hF⟩:=fZ hA)|((with_reducible refine gst ?_);refine wTz hA ?_;clear hF hA;intro w1 hA hF))
   refine(hz'.out _ (hA.sep1 (A:=rowR (.slice sx sn sc) L) sR)).mono ?_;clear hz';rintro e w1 ⟨v',rfl,hT⟩;have hB:=hA.call1 (A:=rowR (.slice sx sn sc) L) sR hT;obtain⟨dx,dn,dc,rfl⟩:=ZaF hB .here;clear hT;replace hA:=hB;clear hF hB;obtain⟨hA,hF⟩:=fZ hA
   go_upto_region 8 with((with_reducible refine gst ?_);refine wTz hA ?_;clear hF hA;intro w1 hA hF)
   (try go_frame);have hdz':=Hd (hdz0.out dx dn dc);replace hA:=hA.drew;clear hF;refine wp_region_held (S:=fun w'=>Zaa w' bX [.slice dx dn dc,.int .u64 first,.slice ex en ec,.slice cx cn cc] 40∧Zaa w' bC (k8 2 num foot req path mode n time) 49∧Zaa w' bA [.int .u64 req,.int .i64 co,.int .u64 0,.bool false] 45) hm ?_;change wpAnyH _ _ _ _ _ 8 _ _ (World.drew _);generalize World.drew _=wd at *
   have hS0:=(⟨hA.get (A:=Part.cells bX [.slice dx dn dc,.int .u64 first,.slice ex en ec,.slice cx cn cc] 40) sZ,hA.get (A:=Part.cells bC (k8 2 num foot req path mode n time) 49) sZ,hA.get (A:=Part.cells bA [.int .u64 req,.int .i64 co,.int .u64 0,.bool false] 45) sZ⟩:(fun w'=>Zaa w' bX [.slice dx dn dc,.int .u64 first,.slice ex en ec,.slice cx cn cc] 40∧Zaa w' bC (k8 2 num foot req path mode n time) 49∧Zaa w' bA [.int .u64 req,.int .i64 co,.int .u64 0,.bool false] 45) wd)
   refine tZ 0 49 (.agg #[.slice dx dn dc,.int .u64 first,.slice ex en ec,.slice cx cn cc]) (r:=(fun w' hS=>Zah (ty:=40) (n:=4) (b:=bX) (j:=0) rfl (by exact rfl) hS.1 (by kernel_rfl) (by kernel_rfl) rfl rfl)) (s:=hS0) (h:= ?_);(try go_frame);refine tZ 1 50 (.agg #[.int .i64 2,.int .u64 num,.string foot,.int .u64 req,.string path,.int .i64 mode,.int .u64 n,.int .i64 time]) (r:=(fun w' hS=>Zah (ty:=49) (n:=8) (b:=bC) (j:=0) rfl (by exact rfl) hS.2.1 (by kernel_rfl) (by kernel_rfl) rfl rfl)) (s:=hS0) (h:= ?_);(try go_frame);refine tP 2 51 (.pointer (some ⟨bA,1,none⟩)) (s:=hS0) (h:= ?_);(try go_frame);refine tZ 3 52 (.int .i64 co) (r:=(fun w' hS=>Zae (ty:=3) (b:=bA) (j:=1) rfl (by exact rfl) hS.2.2 (by kernel_rfl) rfl)) (s:=hS0) (h:= ?_);(try go_frame);refine tZ 5 54 (.agg #[.int .u64 req,.int .i64 co,.int .u64 0,.bool false]) (r:=(fun w' hS=>Zah (ty:=45) (n:=4) (b:=bA) (j:=0) rfl (by exact rfl) hS.2.2 (by kernel_rfl) (by kernel_rfl) rfl rfl)) (s:=hS0) (h:= ?_);(try go_frame);refine Zab (i:=4) (by kernel_rfl) ?_;refine cY 4 53 26 (fun u w'=>∃(dx2:Option Addr) (dn2 dc2:Nat) (QE2:PE),u=.agg #[.slice dx dn dc,.int .u64 first,.slice dx2 dn2 dc2,.slice cx cn cc]∧(.slice dx2 dn2 dc2,(if co=0 then T.L.es.filter (fun x=> !x.of num foot) else T.L.es)) ∈ QE2∧(∀q ∈ QE,q ∈ QE2)∧At [poolE QE] _ [poolE QE2] w') (hdz'.out _ (hA.sep1 (A:=poolE QE) sZ)) ?_;rintro u w3 ⟨dx2,dn2,dc2,QE2,rfl,hm2,hs2,hT⟩;have hm2':=Hd hm2;have hs2':=Hd hs2;have hB:=hA.call1 (A:=poolE QE) sZ hT;clear hT hm2 hs2;simp only[uA] at hB;refine andH ⟨hB.ci,hB.ci,hB.ci⟩ fun hS0=> ?_;replace hA:=hB;clear hB;(try go_frame);refine Zab (i:=6) (by kernel_rfl) ?_;refine stZ 6 bT 0 [.slice dx dn dc,.int .u64 first,.slice dx2 dn2 dc2,.slice cx cn cc] hA ?_;intro w3 hB;simp only[uA] at hB;refine andH ⟨hB.ci,hB.ci,hB.ci⟩ fun hS0=> ?_;replace hA:=hB;clear hB;(try go_frame);refine Zab (i:=7) (by kernel_rfl) ?_;refine stZ 7 bR 0 [.int .u64 req,.int .i64 co,.int .u64 0,.bool false] hA ?_;intro w3 hB;simp only[uA] at hB;refine andH ⟨hB.ci,hB.ci,hB.ci⟩ fun hS0=> ?_;replace hA:=hB;clear hB;(try go_frame);refine wpAnyH_done (by kernel_rfl) ?_ _;(try go_frame);clear hS0;obtain⟨hA,hF⟩:=fZ hA;go_wp2_with fail;refine bodyPost_ret (v:=.tuple #[.agg #[.slice dx dn dc,.int .u64 first,.slice dx2 dn2 dc2,.slice cx cn cc],.agg #[.int .u64 req,.int .i64 co,.int .u64 0,.bool false]]) (by simp[results,Tryz.results28,go_sem,hF]) rfl ?_;rw[hd'.out];exact⟨⟨.slice dx dn dc,L2,PL,.slice dx2 dn2 dc2,QE2,.slice cx cn cc,QC⟩,rfl,⟨hin'.out,by rw[he2'.out.1];exact hm2'.out,by rw[he2'.out.2.1];exact hD'.out.lc⟩,hs2'.out,(show At [rowR _ _,poolP _,poolE _,poolC _] _ [rowR _ _,poolP _,poolE _,poolC _] _ from hA.pick pR)⟩
 by_cases k3:kind=3
 · subst k3;obtain⟨hd,hin⟩:=ho3'.out rfl
   obtain⟨co,hco⟩:∃z,(if s.op=true then(0:Int) else 50)=z:=⟨_,rfl⟩
   have hz:=fun(w1:World) (q:Sep [rowR (.slice sx sn sc) L] w1)=>Zfp (Lease.Zkr q s time htb'.out.1 htb'.out.2 hlen);simp only[hco] at hz hin hd
   obtain⟨L2,hL2⟩:∃z,(if co=0 then Lease.putR L (s.kept time) else L)=z:=⟨_,rfl⟩
   simp only[hL2] at hz hin;have hz':=Hd hz;have hin':=Hd hin;have hd':=Hd hd;clear hz hin hd hco hL2 ho1' ho2' ho3' ho4' hi2' hdr' hes' hlk' hdoc' hmay';go_enter Tryz.func28,Tryz.ntmps28
   go_wp2_with (first|(((with_reducible refine gbxD 2 ?_);refine wHz 40 [.slice sx sn sc,.int .u64 first,.slice ex en ec,.slice cx cn cc] hA ?_;clear hF hA;intro bX w1 hA hbX hF))|(((with_reducible refine gbxD 3 ?_);refine wHz 49 [.int .i64 3,.int .u64 num,.string foot,.int .u64 req,.string path,.int .i64 mode,.int .u64 n,.int .i64 time] hA ?_;clear hF hA;intro bC w1 hA hbC hF))|(((with_reducible refine galD 4 ?_);refine g4 hA ?_;clear hF hA;intro bT w1 hA hbT hF))|(((with_reducible refine galD 5 ?_);refine g0 hA ?_;clear hF hA;intro bR w1 hA hbR hF)))
   refine(Lease.findR_any (hA.sep1 (A:=rowR (.slice sx sn sc) L) sR) num foot hlen).mono ?_;rw[hs'.out];rintro e w1 ⟨rfl,hT⟩;replace hA:=hA.call1 (A:=rowR (.slice sx sn sc) L) sR hT;clear hT hF;obtain⟨hA,hF⟩:=fZ hA
   go_wp2_with (first|(((with_reducible refine galD 6 ?_);refine g9 hA ?_;clear hF hA;intro bS w1 hA hbS hF))|(((with_reducible refine galD 7 ?_);refine g0 hA ?_;clear hF hA;intro bA w1 hA hbA hF))|(refine Zam (b:=bS) (j:=0) (vs:=SR.cells s) rfl rfl rfl (by(try simp only[Act.eval,eV])<;>exact rfl) (by exact rfl) hA sR (by kernel_rfl) (Lease.SR.ones _) (by show 0 + 7≤7;omega) ?_;intro w1 hB;replace hA:=hB;clear hF hB;simp only[SR.cells,SR.tv] at hA;obtain⟨hA,hF⟩:=fZ hA)|((with_reducible refine gst ?_);refine wTz hA ?_;clear hF hA;intro w1 hA hF))
   refine(hz'.out _ (hA.sep1 (A:=rowR (.slice sx sn sc) L) sR)).mono ?_;clear hz';rintro e w1 ⟨v',rfl,hT⟩;have hB:=hA.call1 (A:=rowR (.slice sx sn sc) L) sR hT;obtain⟨dx,dn,dc,rfl⟩:=ZaF hB .here;clear hT;replace hA:=hB;clear hF hB;obtain⟨hA,hF⟩:=fZ hA
   go_wp2_with ((with_reducible refine gst ?_);refine wTz hA ?_;clear hF hA;intro w1 hA hF)
   (try go_frame);refine csZ 2 40 bT 0 [.slice dx dn dc,.int .u64 first,.slice ex en ec,.slice cx cn cc] hA ?_;intro w1 hB;replace hA:=hB;clear hF hB;(simp only[List.drop_succ_cons,List.drop_zero]);obtain⟨hA,hF⟩:=fZ hA;(try go_frame)
   go_wp2_with ((with_reducible refine gst ?_);refine wTz hA ?_;clear hF hA;intro w1 hA hF)
   refine bodyPost_ret (v:=.tuple #[.agg #[.slice dx dn dc,.int .u64 first,.slice ex en ec,.slice cx cn cc],.agg #[.int .u64 req,.int .i64 co,.int .u64 0,.bool false]]) (by simp[results,Tryz.results28,go_sem,hF]) rfl ?_;rw[hd'.out];exact⟨⟨.slice dx dn dc,L2,PL,.slice ex en ec,QE,.slice cx cn cc,QC⟩,rfl,⟨hin'.out.lease,hin'.out.le,hin'.out.lc⟩,fun q h=>h,(show At [rowR _ _,poolP _,poolE _,poolC _] _ [rowR _ _,poolP _,poolE _,poolC _] _ from hA.pick pR)⟩
 have hd0:=ho4'.out k1 x2 k3;have hd0':=Hd hd0;have k1':(kind==1)=false:=by simpa using k1
 have x2':(kind==2)=false:=by simpa using x2
 have k3':(kind==3)=false:=by simpa using k3
 clear hd0 k1 x2 k3 ho1' ho2' ho3' ho4' hi2' hdr' hes';have hpre:s.op=false∨s.op=true:=by cases s.op<;>simp
 rcases hpre with hop|hop
 · have hma:mayT T ⟨kind,num,foot,req,path,mode,n,time⟩=50:=by rw[hmay'.out,hop];rfl
   have hd:ZaX T ⟨kind,num,foot,req,path,mode,n,time⟩=(T,ansE 50):=by unfold ZaX;rw[if_pos (by rw[hma];decide),hma]
   have hd':=Hd hd;clear hma hd hmay';go_enter Tryz.func28,Tryz.ntmps28
   go_wp2_with (first|(((with_reducible refine gbxD 2 ?_);refine wHz 40 [.slice sx sn sc,.int .u64 first,.slice ex en ec,.slice cx cn cc] hA ?_;clear hF hA;intro bX w1 hA hbX hF))|(((with_reducible refine gbxD 3 ?_);refine wHz 49 [.int .i64 kind,.int .u64 num,.string foot,.int .u64 req,.string path,.int .i64 mode,.int .u64 n,.int .i64 time] hA ?_;clear hF hA;intro bC w1 hA hbC hF))|(((with_reducible refine galD 4 ?_);refine g4 hA ?_;clear hF hA;intro bT w1 hA hbT hF))|(((with_reducible refine galD 5 ?_);refine g0 hA ?_;clear hF hA;intro bR w1 hA hbR hF)))
   refine(Lease.findR_any (hA.sep1 (A:=rowR (.slice sx sn sc) L) sR) num foot hlen).mono ?_;rw[hs'.out];rintro e w1 ⟨rfl,hT⟩;replace hA:=hA.call1 (A:=rowR (.slice sx sn sc) L) sR hT;clear hT hF;obtain⟨hA,hF⟩:=fZ hA
   go_wp2_with (first|(((with_reducible refine galD 6 ?_);refine g9 hA ?_;clear hF hA;intro bS w1 hA hbS hF))|(((with_reducible refine galD 7 ?_);refine g0 hA ?_;clear hF hA;intro bA w1 hA hbA hF))|(refine Zam (b:=bS) (j:=0) (vs:=SR.cells s) rfl rfl rfl (by(try simp only[Act.eval,eV])<;>exact rfl) (by exact rfl) hA sR (by kernel_rfl) (Lease.SR.ones _) (by show 0 + 7≤7;omega) ?_;intro w1 hB;replace hA:=hB;clear hF hB;simp only[SR.cells,SR.tv] at hA;obtain⟨hA,hF⟩:=fZ hA)|((with_reducible refine gst ?_);refine wTz hA ?_;clear hF hA;intro w1 hA hF))
   (try go_frame);refine csZ 2 40 bT 0 [.slice sx sn sc,.int .u64 first,.slice ex en ec,.slice cx cn cc] hA ?_;intro w1 hB;replace hA:=hB;clear hF hB;(simp only[List.drop_succ_cons,List.drop_zero]);obtain⟨hA,hF⟩:=fZ hA;(try go_frame)
   go_wp2_with ((with_reducible refine gst ?_);refine wTz hA ?_;clear hF hA;intro w1 hA hF)
   refine bodyPost_ret (v:=.tuple #[.agg #[.slice sx sn sc,.int .u64 first,.slice ex en ec,.slice cx cn cc],.agg #[.int .u64 req,.int .i64 50,.int .u64 0,.bool false]]) (by simp[results,Tryz.results28,go_sem,hF]) rfl ?_;rw[hd0'.out,hd'.out];exact⟨⟨.slice sx sn sc,L,PL,.slice ex en ec,QE,.slice cx cn cc,QC⟩,rfl,hD'.out,fun q h=>h,(show At [rowR _ _,poolP _,poolE _,poolC _] _ [rowR _ _,poolP _,poolE _,poolC _] _ from hA.pick pR)⟩
 obtain⟨ab,hab⟩:∃z,Zan (bl foot) (bl path)=z:=⟨_,rfl⟩
 have hav:=fun w=>Path.Zdn foot path w (by omega) (by omega);rw[hab] at hav;have hma:=hmay'.out;rw[hop,hab,if_neg (by decide)] at hma;have hma':=Hd hma;clear hma hab hmay';go_enter Tryz.func28,Tryz.ntmps28
 go_wp2_with (first|(((with_reducible refine gbxD 2 ?_);refine wHz 40 [.slice sx sn sc,.int .u64 first,.slice ex en ec,.slice cx cn cc] hA ?_;clear hF hA;intro bX w1 hA hbX hF))|(((with_reducible refine gbxD 3 ?_);refine wHz 49 [.int .i64 kind,.int .u64 num,.string foot,.int .u64 req,.string path,.int .i64 mode,.int .u64 n,.int .i64 time] hA ?_;clear hF hA;intro bC w1 hA hbC hF))|(((with_reducible refine galD 4 ?_);refine g4 hA ?_;clear hF hA;intro bT w1 hA hbT hF))|(((with_reducible refine galD 5 ?_);refine g0 hA ?_;clear hF hA;intro bR w1 hA hbR hF)))
 refine(Lease.findR_any (hA.sep1 (A:=rowR (.slice sx sn sc) L) sR) num foot hlen).mono ?_;rw[hs'.out];rintro e w1 ⟨rfl,hT⟩;replace hA:=hA.call1 (A:=rowR (.slice sx sn sc) L) sR hT;clear hT hF;obtain⟨hA,hF⟩:=fZ hA
 go_wp2_with (first|(((with_reducible refine galD 6 ?_);refine g9 hA ?_;clear hF hA;intro bS w1 hA hbS hF))|(((with_reducible refine galD 7 ?_);refine g0 hA ?_;clear hF hA;intro bA w1 hA hbA hF))|(refine Zam (b:=bS) (j:=0) (vs:=SR.cells s) rfl rfl rfl (by(try simp only[Act.eval,eV])<;>exact rfl) (by exact rfl) hA sR (by kernel_rfl) (Lease.SR.ones _) (by show 0 + 7≤7;omega) ?_;intro w1 hB;replace hA:=hB;clear hF hB;simp only[SR.cells,SR.tv] at hA;obtain⟨hA,hF⟩:=fZ hA)|((with_reducible refine gst ?_);refine wTz hA ?_;clear hF hA;intro w1 hA hF))
 refine(hav _).mono ?_;clear hav;rintro e w1 ⟨rfl,hx⟩;replace hA:=hA.ext hx;clear hx hF;obtain⟨hA,hF⟩:=fZ hA;cases ab
 · have hd:ZaX T ⟨kind,num,foot,req,path,mode,n,time⟩=(T,ansE 55):=by
    unfold ZaX;rw[if_pos (by rw[hma'.out];decide),hma'.out];rfl
   have hd':=Hd hd;clear hd hma'
   go_wp2_with ((with_reducible refine gst ?_);refine wTz hA ?_;clear hF hA;intro w1 hA hF)
   (try go_frame);refine csZ 2 40 bT 0 [.slice sx sn sc,.int .u64 first,.slice ex en ec,.slice cx cn cc] hA ?_;intro w1 hB;replace hA:=hB;clear hF hB;(simp only[List.drop_succ_cons,List.drop_zero]);obtain⟨hA,hF⟩:=fZ hA;(try go_frame)
   go_wp2_with ((with_reducible refine gst ?_);refine wTz hA ?_;clear hF hA;intro w1 hA hF)
   refine bodyPost_ret (v:=.tuple #[.agg #[.slice sx sn sc,.int .u64 first,.slice ex en ec,.slice cx cn cc],.agg #[.int .u64 req,.int .i64 55,.int .u64 0,.bool false]]) (by simp[results,Tryz.results28,go_sem,hF]) rfl ?_;rw[hd0'.out,hd'.out];exact⟨⟨.slice sx sn sc,L,PL,.slice ex en ec,QE,.slice cx cn cc,QC⟩,rfl,hD'.out,fun q h=>h,(show At [rowR _ _,poolP _,poolE _,poolC _] _ [rowR _ _,poolP _,poolE _,poolC _] _ from hA.pick pR)⟩
 have hma:mayT T ⟨kind,num,foot,req,path,mode,n,time⟩=0:=by rw[hma'.out];rfl
 have hd:=hdoc'.out hma;have hd':=Hd hd;clear hd hma hma' hdoc';go_wp2_with fail;refine(hlk'.out _ (hA.sep2 (A:=poolE QE) (B:=poolC QC) sR sR)).mono ?_;clear hlk';rintro e w1 ⟨vE',vC',QE',QC',rfl,m1,m2,m3,hT⟩;have hB:=hA.call2 (A:=poolE QE) (B:=poolC QC) sR sR hT;simp only[uA] at hB;obtain⟨⟨_,_,_,z1⟩,⟨dx,dn,dc,z2⟩,⟨gx,gn,gc,z3⟩⟩:=ZbX (D:=⟨.slice sx sn sc,L,PL,vE',QE',vC',QC'⟩) (T:=⟨T.S,(docL T.L ⟨kind,num,foot,req,path,mode,n,time⟩).1⟩) (hB.pick (K:=[rowR (.slice sx sn sc) L,poolP PL,poolE QE',poolC QC']) pR) ⟨hD'.out.lease,m1,m2⟩;simp only at z2 z3;subst z2 z3
 obtain⟨⟨xr,xe,xn,xg⟩,hx⟩:∃z,arA req (docL T.L ⟨kind,num,foot,req,path,mode,n,time⟩).2=z:=⟨_,rfl⟩
 rw[hx];simp only[Lease.AR.cells];have hx':=Hd hx;have m1':=Hd m1;have m2':=Hd m2;have m3':=Hd m3;clear hT hx m1 m2 m3 z1;replace hA:=hB;clear hF hB;obtain⟨hA,hF⟩:=fZ hA
 go_wp2_with ((with_reducible refine gst ?_);refine wTz hA ?_;clear hF hA;intro w1 hA hF)
 refine bodyPost_ret (v:=.tuple #[.agg #[.slice sx sn sc,.int .u64 first,.slice dx dn dc,.slice gx gn gc],.agg #[.int .u64 xr,.int .i64 xe,.int .u64 xn,.bool xg]]) (by simp[results,Tryz.results28,go_sem,hF]) rfl ?_;rw[hd0'.out,hd'.out];refine⟨⟨.slice sx sn sc,L,PL,.slice dx dn dc,QE',.slice gx gn gc,QC'⟩,?_,⟨hD'.out.lease,m1'.out,m2'.out⟩,m3'.out,(show At [rowR _ _,poolP _,poolE _,poolC _] _ [rowR _ _,poolP _,poolE _,poolC _] _ from hA.pick pR)⟩;simp only[hx'.out];rfl
end Tab
end
end Go.Proofs.YtknoefbcmomalaaGreatDoor
