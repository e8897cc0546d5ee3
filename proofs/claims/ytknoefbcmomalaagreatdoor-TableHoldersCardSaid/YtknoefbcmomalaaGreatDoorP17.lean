import Derived.Test.YtknoefbcmomalaaGreatDoorP16
set_option linter.unusedSimpArgs false
set_option linter.unusedVariables false
set_option maxRecDepth 100000
set_option maxHeartbeats 16000000
namespace Go.Proofs.YtknoefbcmomalaaGreatDoor
section
namespace Tab
open Go.RowKit
open Path (bl Zaf overB Zan)
open Lease (Ses Ans fresh ZaE)
open Lock (S3 Ent)
open Cmd (Cm Zao)
attribute [-go_sem] run_eql_struct run_neq_struct run_eqGuard_agg
def TPost (t p m:Nat) (ss:List Ses) (b:Lock.Bk) (w:World) (T:TS) (a:Ans) (e:Ending) (w':World):Prop:=
 ∃ss' b',e=.returned a.val∧TRel ss' b' T∧At [TabP t p m ss b] w [TabP t p m ss' b'] w'
theorem Zj8 {ss ss':List Ses} {b:Lock.Bk} {T:TS} {c:Cm} {g:Ses→Ses} {code:Int} (hR:TRel ss b T) (hk:Kn ss) (hg:∀s,zs (g s)=g (zs s)) (hq:code≠0∧ss'=ss∨code=0∧ZaE ss c.num c.foot g ss'):TRel ss' b (opT T c g code):=by
 unfold opT;rcases hq with⟨h1,rfl⟩|⟨h1,h2⟩
 · rw[if_neg h1];exact hR
 rw[if_pos h1];exact⟨by rw[ZeA hk h2 hg,hR.S],hR.L⟩
theorem ZkP {ss ss':List Ses} {b:Lock.Bk} {T:TS} {c:Cm} {code:Int} (hR:TRel ss b T) (hk:Kn ss) (hq:code≠0∧ss'=ss∨code=0∧ZaE ss c.num c.foot Ses.ended ss'):TRel ss' (if code=0 then b.with (b.st.dropAll c.num c.foot) else b) (endT T c code):=by
 unfold endT;rcases hq with⟨h1,rfl⟩|⟨h1,h2⟩
 · rw[if_neg h1,if_neg h1];exact hR
 rw[if_pos h1,if_pos h1];exact⟨by rw[ZeA hk h2 fun s=>rfl,hR.S],by rw[←hR.L];rfl⟩
theorem kn_zs {ss:List Ses}:Kn (ss.map zs)↔Kn ss:=by
 unfold Kn;rw[List.map_map];rfl
theorem TRel.kn {ss:List Ses} {b:Lock.Bk} {T:TS} {k:Nat} (hR:TRel ss b T) (hI:SInv T.S k):Kn ss:=kn_zs.1 (by rw[hR.S];exact hI.keys)
theorem TRel.look {ss:List Ses} {b:Lock.Bk} {T:TS} (hR:TRel ss b T) (n:Int) (f:ByteArray):lookA T.S n f=zs (Lease.look ss n f):=by rw[←hR.S,Zkj]
theorem TRel.cnt {ss:List Ses} {b:Lock.Bk} {T:TS} (hR:TRel ss b T) (f:ByteArray):Lease.cnt T.S f=Lease.cnt ss f:=by rw[←hR.S,cnt_zs]
theorem TRel.len {ss:List Ses} {b:Lock.Bk} {T:TS} {k:Nat} (hR:TRel ss b T) (hI:SInv T.S k):ss.length≤k:=by
 have:=hI.len;rw[←hR.S,List.length_map] at this;exact this
theorem lk_rel {ss:List Ses} {b:Lock.Bk} {T:TS} (hR:TRel ss b T) (c:Cm):lkV (mayI ss c.num c.foot c.path) b c.kind c.num c.foot c.path c.mode c.n=(ZaX T c).2.val∧TRel ss (lkB (mayI ss c.num c.foot c.path) b c.kind c.num c.foot c.path c.mode) (ZaX T c).1:=by
 have hme:mayT T c=mayI ss c.num c.foot c.path:=by unfold mayT mayI;rw[hR.look];rfl
 have hes:T.L.es=b.es:=by rw[←hR.L];rfl
 unfold ZaX lkV lkB;rw[hme,hes]
 have hadd:(if b.st.may c.path c.num c.foot c.mode=0 then ansV 0 (b.st.addE c.path c.num c.foot c.mode).n (Lock.ZaC b.es c.path c.mode) else ansV (b.st.may c.path c.num c.foot c.mode) 0 false)=(addT T c).2.val∧TRel ss (b.with (b.st.add c.path c.num c.foot c.mode)) (addT T c).1:=by
  unfold addT;rw[hes,←hR.L];constructor
  · by_cases h:b.st.may c.path c.num c.foot c.mode=0
    · rw[if_pos h,if_pos h,show(b.st.addE c.path c.num c.foot c.mode)=b.st.newE c.path c.num c.foot c.mode from if_pos h];rfl
    rw[if_neg h,if_neg h];rfl
  refine⟨hR.S,?_⟩
  unfold Lock.S3.add;split<;>rfl
 split
 · exact⟨rfl,hR⟩
 split
 · exact hadd
 split
 · unfold tryV tryB tryT;rw[hes];by_cases h:Lock.ZaC b.es c.path c.mode=true
   · rw[if_pos h,if_pos h,if_pos h];exact hadd
   rw[if_neg h,if_neg h,if_neg h,←hR.L];split
   · exact⟨rfl,hR⟩
   exact⟨rfl,hR⟩
 split
 · exact⟨rfl,hR.S,by rw[←hR.L];rfl⟩
 exact⟨rfl,hR⟩
theorem do_any {w:World} {t p m:Nat} {ss:List Ses} {b:Lock.Bk} (h:Sep [TabP t p m ss b] w) (kind num:Int) (foot:ByteArray) (req:Int) (path:ByteArray) (mode n time:Int) {T:TS} (hR:TRel ss b T) {k:Nat} (hI:SInv T.S k) (hk:k≤1000000) (h0:0≤num) (h1:num < Lease.big64) (hf:foot.size≤1000) (hp:path.size≤1000) (hok:LkOk b) (hn:kind=1→0≤n∧n≤1048576):
 Calls Tryz.prog 59 #[.pointer (some ⟨t,0,none⟩),.agg #[.int .i64 kind,.int .u64 num,.string foot,.int .u64 req,.string path,.int .i64 mode,.int .u64 n,.int .i64 time]] w (TPost t p m ss b w (doT T ⟨kind,num,foot,req,path,mode,n,time⟩).1 (doT T ⟨kind,num,foot,req,path,mode,n,time⟩).2):=by
 have hm:Tryz.prog.follows .mixedOrders=true:=by kernel_rfl
 have hkn:=Hd (hR.kn hI);have hlen:=hR.len hI;have hR':=Hd hR;have hok':=Hd hok;have hmf:foot.size≤maxLen:=by unfold maxLen;omega
 have hlk:=hR.look num foot;have hcn:=hR.cnt foot
 have hdo:doT T ⟨kind,num,foot,req,path,mode,n,time⟩=(if kind=1 then(opT T ⟨kind,num,foot,req,path,mode,n,time⟩ (fun s=>s.opened n time) (Lease.openE (Lease.look ss num foot) (Lease.cnt ss foot)),ansE (Lease.openE (Lease.look ss num foot) (Lease.cnt ss foot)))
  else if kind=2 then(endT T ⟨kind,num,foot,req,path,mode,n,time⟩ (if(Lease.look ss num foot).op then 0 else 50),ansE (if(Lease.look ss num foot).op then 0 else 50))
  else if kind=3 then(opT T ⟨kind,num,foot,req,path,mode,n,time⟩ (fun s=>s.kept time) (if(Lease.look ss num foot).op then 0 else 50),ansE (if(Lease.look ss num foot).op then 0 else 50)) else ZaX T ⟨kind,num,foot,req,path,mode,n,time⟩):=by
  unfold doT;simp only[hlk,hcn];rfl
 have hd1:=Hd (fun(e:kind=1)=>hdo.trans (if_pos e));have hd2:=Hd (fun(e:kind=2)=>hdo.trans ((if_neg (by omega)).trans (if_pos e)));have hd3:=Hd (fun(e:kind=3)=>hdo.trans ((if_neg (by omega)).trans ((if_neg (by omega)).trans (if_pos e))));have hd4:=Hd (fun(e1:¬kind=1) (e2:¬kind=2) (e3:¬kind=3)=>hdo.trans ((if_neg e1).trans ((if_neg e2).trans (if_neg e3))));have hop:=Hd (fun(w1:World) (q:Sep [Lease.BookP p m ss] w1)=>Lease.Zk8 q h0 h1 hmf (Nat.le_trans hlen hk) n time);have hke:=Hd (fun(w1:World) (q:Sep [Lease.BookP p m ss] w1)=>Lease.Zk9 q h0 h1 hmf time);have hen:=Hd (fun(w1:World) (q:Sep [Lease.BookP p m ss] w1)=>Lease.ZmT q h0 h1 hmf);have hlo:=Hd (fun(w1:World) (q:Sep [TabP t p m ss b] w1)=>ZnX q kind num foot req path mode n time h0 h1 hf hp hok);clear hR hlk hcn hdo hok;have hA:=At.start h;clear h;obtain⟨hA,hF⟩:=fY hA;go_enter Tryz.func59,Tryz.ntmps59;by_cases k1:kind=1
 · subst k1
   obtain⟨co,hco⟩:∃z,Lease.openE (Lease.look ss num foot) (Lease.cnt ss foot)=z:=⟨_,rfl⟩
   have hz:=hop.out;simp only[hco] at hz;have hop3:=Hd hz;have hco':=Hd hco;clear hz hco hop;have hn1:=hn rfl;have hcv:IntKind.i64.wrap n=n:=by rw[IntKind.wrap_i64]<;>omega
   replace hA:=Zbr hA sZ;clear hF;obtain⟨hA,hF⟩:=fY hA
   go_upto_region 3 with(first|((with_reducible refine gbx ?_);refine wHy 43 [.int .i64 1,.int .u64 num,.string foot,.int .u64 req,.string path,.int .i64 mode,.int .u64 n,.int .i64 time] hA ?_;clear hF hA;intro b3 w1 hA hb3 hF)|((with_reducible refine gal ?_);refine g1 hA ?_;clear hF hA;intro b4 w1 hA hb4 hF))
   (try go_frame);replace hA:=hA.drew;clear hF;refine wp_region_held (S:=fun w'=>Zaa w' t (k2 p b.p) 87∧Zaa w' b3 (k8 1 num foot req path mode n time) 43) hm ?_;change wpAnyH _ _ _ _ _ 14 _ _ (World.drew _);generalize World.drew _=wd at *
   have hS0:=(⟨hA.get (A:=Part.cells t (k2 p b.p) 87) sZ,hA.get (A:=Part.cells b3 (k8 1 num foot req path mode n time) 43) sZ⟩:(fun w'=>Zaa w' t (k2 p b.p) 87∧Zaa w' b3 (k8 1 num foot req path mode n time) 43) wd)
   refine tP 0 9 (.pointer (some ⟨t,0,none⟩)) (s:=hS0) (h:= ?_);(try go_frame);refine tP 1 10 (.pointer (some ⟨t,0,none⟩)) (s:=hS0) (h:= ?_);(try go_frame);refine tP 2 11 (.pointer (some ⟨t,0,none⟩)) (s:=hS0) (h:= ?_);(try go_frame);refine tZ 3 12 (.pointer (some ⟨p,0,none⟩)) (r:=(fun w' hS=>Zae (ty:=85) (b:=t) (j:=0) rfl (by exact rfl) hS.1 (by kernel_rfl) rfl)) (s:=hS0) (h:= ?_);(try go_frame);refine tP 4 13 (.pointer (some ⟨b3,1,none⟩)) (s:=hS0) (h:= ?_);(try go_frame);refine tZ 5 14 (.agg #[.int .u64 num,.string foot]) (r:=(fun w' hS=>Zah (ty:=25) (n:=2) (b:=b3) (j:=1) rfl (by exact rfl) hS.2 (by kernel_rfl) (by kernel_rfl) rfl rfl)) (s:=hS0) (h:= ?_);(try go_frame);refine tP 6 15 (.pointer (some ⟨b3,6,none⟩)) (s:=hS0) (h:= ?_);(try go_frame);refine tZ 7 16 (.int .u64 n) (r:=(fun w' hS=>Zae (ty:=22) (b:=b3) (j:=6) rfl (by exact rfl) hS.2 (by kernel_rfl) rfl)) (s:=hS0) (h:= ?_);(try go_frame);refine tZ 8 17 (.int .i64 n) (r:=(fun w' hS=>by simp[execOp,go_sem,Act.eval,Act.put,hcv])) (s:=hS0) (h:= ?_);(try go_frame);refine tP 9 18 (.pointer (some ⟨b3,7,none⟩)) (s:=hS0) (h:= ?_);(try go_frame);refine tZ 10 19 (.int .i64 time) (r:=(fun w' hS=>Zae (ty:=3) (b:=b3) (j:=7) rfl (by exact rfl) hS.2 (by kernel_rfl) rfl)) (s:=hS0) (h:= ?_);(try go_frame);refine Zab (i:=11) (by kernel_rfl) ?_;refine cY 11 20 95 (fun u w'=>∃ss',u=.int .i64 co∧At [Lease.BookP p m ss] _ [Lease.BookP p m ss'] w'∧(co≠0∧ss'=ss∨co=0∧ZaE ss num foot (fun s=>s.opened n time) ss')) ((hop3.out _ (hA.sep1 (A:=Lease.BookP p m ss) sZ)).mono fun e w' ⟨ss',he,hT,hq⟩=>⟨_,he,ss',rfl,hT,hq⟩) ?_;rintro u w3 ⟨ss',rfl,hT,hq⟩;have hq':=Hd hq;have hB:=hA.call1 (A:=Lease.BookP p m ss) sZ hT;clear hT hq;simp only[uA] at hB;refine andH ⟨hB.ci,hB.ci⟩ fun hS0=> ?_;replace hA:=hB;clear hB;(try go_frame);refine Zab (i:=12) (by kernel_rfl) ?_;refine cY 12 21 58 (fun u w'=>u=ansV co 0 false∧Ext _ w') ((ZaA _ _).mono fun e w' ⟨he,hx⟩=>⟨_,he,rfl,hx⟩) ?_;rintro u w3 ⟨rfl,hx⟩;have hB:=hA.ext hx;clear hx;refine andH ⟨hB.ci,hB.ci⟩ fun hS0=> ?_;replace hA:=hB;clear hB;(try go_frame);refine Zab (i:=13) (by kernel_rfl) ?_;refine stZ 13 b4 0 [.int .i64 co,.int .u64 0,.bool false] hA ?_;intro w3 hB;simp only[uA] at hB;refine andH ⟨hB.ci,hB.ci⟩ fun hS0=> ?_;replace hA:=hB;clear hB;(try go_frame);refine wpAnyH_done (by kernel_rfl) ?_ _;(try go_frame);clear hS0;obtain⟨hA,hF⟩:=fY hA;go_wp2_with fail;refine bodyPost_ret (v:=ansV co 0 false) (by simp[results,Tryz.results59,go_sem,hF]) rfl ?_;rw[hd1.out (by simp)];exact⟨ss',b,by rw[←hco'.out];rfl,by rw[hco'.out];exact Zj8 hR'.out hkn.out (fun s=>rfl) hq'.out,Zay (ss:=ss') (hA.pick pZ)⟩
 by_cases x2:kind=2
 · subst x2
   obtain⟨co,hco⟩:∃z,(if(Lease.look ss num foot).op=true then(0:Int) else 50)=z:=⟨_,rfl⟩
   have hz:=hen.out;simp only[hco] at hz;have hen3:=Hd hz;have hco':=Hd hco;clear hz hco hen;replace hA:=Zbr hA sZ;clear hF;obtain⟨hA,hF⟩:=fY hA
   go_upto_region 5 with(first|((with_reducible refine gbx ?_);refine wHy 43 [.int .i64 2,.int .u64 num,.string foot,.int .u64 req,.string path,.int .i64 mode,.int .u64 n,.int .i64 time] hA ?_;clear hF hA;intro b3 w1 hA hb3 hF)|((with_reducible refine gal ?_);refine g1 hA ?_;clear hF hA;intro b4 w1 hA hb4 hF))
   (try go_frame);replace hA:=hA.drew;clear hF;refine wp_region_held (S:=fun w'=>Zaa w' t (k2 p b.p) 87∧Zaa w' b3 (k8 2 num foot req path mode n time) 43) hm ?_;change wpAnyH _ _ _ _ _ 12 _ _ (World.drew _);generalize World.drew _=wd at *
   have hS0:=(⟨hA.get (A:=Part.cells t (k2 p b.p) 87) sZ,hA.get (A:=Part.cells b3 (k8 2 num foot req path mode n time) 43) sZ⟩:(fun w'=>Zaa w' t (k2 p b.p) 87∧Zaa w' b3 (k8 2 num foot req path mode n time) 43) wd)
   refine tP 0 24 (.pointer (some ⟨t,0,none⟩)) (s:=hS0) (h:= ?_);(try go_frame);refine tP 1 25 (.pointer (some ⟨b3,1,none⟩)) (s:=hS0) (h:= ?_);(try go_frame);refine tZ 2 26 (.agg #[.int .u64 num,.string foot]) (r:=(fun w' hS=>Zah (ty:=25) (n:=2) (b:=b3) (j:=1) rfl (by exact rfl) hS.2 (by kernel_rfl) (by kernel_rfl) rfl rfl)) (s:=hS0) (h:= ?_);(try go_frame);refine tP 3 27 (.pointer (some ⟨t,0,none⟩)) (s:=hS0) (h:= ?_);(try go_frame);refine tP 4 28 (.pointer (some ⟨t,0,none⟩)) (s:=hS0) (h:= ?_);(try go_frame);refine tP 5 29 (.pointer (some ⟨t,0,none⟩)) (s:=hS0) (h:= ?_);(try go_frame);refine tZ 6 30 (.pointer (some ⟨p,0,none⟩)) (r:=(fun w' hS=>Zae (ty:=85) (b:=t) (j:=0) rfl (by exact rfl) hS.1 (by kernel_rfl) rfl)) (s:=hS0) (h:= ?_);(try go_frame);refine tP 7 31 (.pointer (some ⟨b3,1,none⟩)) (s:=hS0) (h:= ?_);(try go_frame);refine tZ 8 32 (.agg #[.int .u64 num,.string foot]) (r:=(fun w' hS=>Zah (ty:=25) (n:=2) (b:=b3) (j:=1) rfl (by exact rfl) hS.2 (by kernel_rfl) (by kernel_rfl) rfl rfl)) (s:=hS0) (h:= ?_);(try go_frame);refine Zab (i:=9) (by kernel_rfl) ?_;refine cY 9 33 94 (fun u w'=>∃ss',u=.int .i64 co∧At [Lease.BookP p m ss] _ [Lease.BookP p m ss'] w'∧(co≠0∧ss'=ss∨co=0∧ZaE ss num foot Ses.ended ss')) ((hen3.out _ (hA.sep1 (A:=Lease.BookP p m ss) sZ)).mono fun e w' ⟨ss',he,hT,hq⟩=>⟨_,he,ss',rfl,hT,hq⟩) ?_;rintro u w3 ⟨ss',rfl,hT,hq⟩;have hq':=Hd hq;have hB:=hA.call1 (A:=Lease.BookP p m ss) sZ hT;clear hT hq;simp only[uA] at hB;refine andH ⟨hB.ci,hB.ci⟩ fun hS0=> ?_;replace hA:=hB;clear hB;(try go_frame);refine Zab (i:=10) (by kernel_rfl) ?_;replace hA:=ZcR (ss:=ss') hA sZ sZ sZ;refine cY 10 34 54 (fun u w'=>u=ansV co 0 false∧At [TabP t p m ss' b] _ [TabP t p m ss' (if co=0 then b.with (b.st.dropAll num foot) else b)] w') ((ZgI (hA.sep1 (A:=TabP t p m ss' b) sZ) num foot co hok'.out).mono fun e w' ⟨he,hT⟩=>⟨_,he,rfl,hT⟩) ?_;rintro u w3 ⟨rfl,hT⟩;have hC:=hA.call1 (A:=TabP t p m ss' b) sZ hT;clear hT;simp only[uA] at hC
   obtain⟨b',hb'⟩:∃z,(if co=0 then b.with (b.st.dropAll num foot) else b)=z:=⟨_,rfl⟩
   rw[hb'] at hC;have hbp:b'.p=b.p:=by rw[←hb'];split<;>rfl
   have hB:=Zbr hC sZ;rw[hbp] at hB;have hb2:=Hd hb';have hbp':=Hd hbp;clear hC hb' hbp;refine andH ⟨hB.ci,hB.ci⟩ fun hS0=> ?_;replace hA:=hB;clear hB;(try go_frame);refine Zab (i:=11) (by kernel_rfl) ?_;refine stZ 11 b4 0 [.int .i64 co,.int .u64 0,.bool false] hA ?_;intro w3 hB;simp only[uA] at hB;refine andH ⟨hB.ci,hB.ci⟩ fun hS0=> ?_;replace hA:=hB;clear hB;(try go_frame);refine wpAnyH_done (by kernel_rfl) ?_ _;(try go_frame);clear hS0;obtain⟨hA,hF⟩:=fY hA;go_wp2_with fail;refine bodyPost_ret (v:=ansV co 0 false) (by simp[results,Tryz.results59,go_sem,hF]) rfl ?_;rw[hd2.out (by simp)];exact⟨ss',b',by rw[←hco'.out];rfl,by rw[hco'.out,←hb2.out];exact ZkP (c:=⟨2,num,foot,req,path,mode,n,time⟩) hR'.out hkn.out hq'.out,Zay (ss:=ss') (b:=b') (by rw[hbp'.out];exact hA.pick pZ)⟩
 by_cases k3:kind=3
 · subst k3
   obtain⟨co,hco⟩:∃z,(if(Lease.look ss num foot).op=true then(0:Int) else 50)=z:=⟨_,rfl⟩
   have hz:=hke.out;simp only[hco] at hz;have hke3:=Hd hz;have hco':=Hd hco;clear hz hco hke;replace hA:=Zbr hA sZ;clear hF;obtain⟨hA,hF⟩:=fY hA
   go_upto_region 7 with(first|((with_reducible refine gbx ?_);refine wHy 43 [.int .i64 3,.int .u64 num,.string foot,.int .u64 req,.string path,.int .i64 mode,.int .u64 n,.int .i64 time] hA ?_;clear hF hA;intro b3 w1 hA hb3 hF)|((with_reducible refine gal ?_);refine g1 hA ?_;clear hF hA;intro b4 w1 hA hb4 hF))
   (try go_frame);replace hA:=hA.drew;clear hF;refine wp_region_held (S:=fun w'=>Zaa w' t (k2 p b.p) 87∧Zaa w' b3 (k8 3 num foot req path mode n time) 43) hm ?_;change wpAnyH _ _ _ _ _ 11 _ _ (World.drew _);generalize World.drew _=wd at *
   have hS0:=(⟨hA.get (A:=Part.cells t (k2 p b.p) 87) sZ,hA.get (A:=Part.cells b3 (k8 3 num foot req path mode n time) 43) sZ⟩:(fun w'=>Zaa w' t (k2 p b.p) 87∧Zaa w' b3 (k8 3 num foot req path mode n time) 43) wd)
   refine tP 0 37 (.pointer (some ⟨t,0,none⟩)) (s:=hS0) (h:= ?_);(try go_frame);refine tP 1 38 (.pointer (some ⟨t,0,none⟩)) (s:=hS0) (h:= ?_);(try go_frame);refine tP 2 39 (.pointer (some ⟨t,0,none⟩)) (s:=hS0) (h:= ?_);(try go_frame);refine tZ 3 40 (.pointer (some ⟨p,0,none⟩)) (r:=(fun w' hS=>Zae (ty:=85) (b:=t) (j:=0) rfl (by exact rfl) hS.1 (by kernel_rfl) rfl)) (s:=hS0) (h:= ?_);(try go_frame);refine tP 4 41 (.pointer (some ⟨b3,1,none⟩)) (s:=hS0) (h:= ?_);(try go_frame);refine tZ 5 42 (.agg #[.int .u64 num,.string foot]) (r:=(fun w' hS=>Zah (ty:=25) (n:=2) (b:=b3) (j:=1) rfl (by exact rfl) hS.2 (by kernel_rfl) (by kernel_rfl) rfl rfl)) (s:=hS0) (h:= ?_);(try go_frame);refine tP 6 43 (.pointer (some ⟨b3,7,none⟩)) (s:=hS0) (h:= ?_);(try go_frame);refine tZ 7 44 (.int .i64 time) (r:=(fun w' hS=>Zae (ty:=3) (b:=b3) (j:=7) rfl (by exact rfl) hS.2 (by kernel_rfl) rfl)) (s:=hS0) (h:= ?_);(try go_frame);refine Zab (i:=8) (by kernel_rfl) ?_;refine cY 8 45 96 (fun u w'=>∃ss',u=.int .i64 co∧At [Lease.BookP p m ss] _ [Lease.BookP p m ss'] w'∧(co≠0∧ss'=ss∨co=0∧ZaE ss num foot (fun s=>s.kept time) ss')) ((hke3.out _ (hA.sep1 (A:=Lease.BookP p m ss) sZ)).mono fun e w' ⟨ss',he,hT,hq⟩=>⟨_,he,ss',rfl,hT,hq⟩) ?_;rintro u w3 ⟨ss',rfl,hT,hq⟩;have hq':=Hd hq;have hB:=hA.call1 (A:=Lease.BookP p m ss) sZ hT;clear hT hq;simp only[uA] at hB;refine andH ⟨hB.ci,hB.ci⟩ fun hS0=> ?_;replace hA:=hB;clear hB;(try go_frame);refine Zab (i:=9) (by kernel_rfl) ?_;refine cY 9 46 58 (fun u w'=>u=ansV co 0 false∧Ext _ w') ((ZaA _ _).mono fun e w' ⟨he,hx⟩=>⟨_,he,rfl,hx⟩) ?_;rintro u w3 ⟨rfl,hx⟩;have hB:=hA.ext hx;clear hx;refine andH ⟨hB.ci,hB.ci⟩ fun hS0=> ?_;replace hA:=hB;clear hB;(try go_frame);refine Zab (i:=10) (by kernel_rfl) ?_;refine stZ 10 b4 0 [.int .i64 co,.int .u64 0,.bool false] hA ?_;intro w3 hB;simp only[uA] at hB;refine andH ⟨hB.ci,hB.ci⟩ fun hS0=> ?_;replace hA:=hB;clear hB;(try go_frame);refine wpAnyH_done (by kernel_rfl) ?_ _;(try go_frame);clear hS0;obtain⟨hA,hF⟩:=fY hA;go_wp2_with fail;refine bodyPost_ret (v:=ansV co 0 false) (by simp[results,Tryz.results59,go_sem,hF]) rfl ?_;rw[hd3.out (by simp)];exact⟨ss',b,by rw[←hco'.out];rfl,by rw[hco'.out];exact Zj8 hR'.out hkn.out (fun s=>rfl) hq'.out,Zay (ss:=ss') (hA.pick pZ)⟩
 go_wp2_with (first|((with_reducible refine gbx ?_);refine wHy 43 [.int .i64 kind,.int .u64 num,.string foot,.int .u64 req,.string path,.int .i64 mode,.int .u64 n,.int .i64 time] hA ?_;clear hF hA;intro b3 w1 hA hb3 hF)|((with_reducible refine gal ?_);refine g1 hA ?_;clear hF hA;intro b4 w1 hA hb4 hF))
 obtain⟨hv,hrl⟩:=lk_rel hR'.out ⟨kind,num,foot,req,path,mode,n,time⟩;simp only at hv hrl;have hz:=hlo.out;simp only[hv] at hz;have hlo3:=Hd hz;have hrl':=Hd hrl;have hdo2:=Hd (show doT T ⟨kind,num,foot,req,path,mode,n,time⟩=ZaX T ⟨kind,num,foot,req,path,mode,n,time⟩ from hd4.out k1 x2 k3);clear hz hv hrl hlo
 obtain⟨⟨le,ln,lg⟩,hla⟩:∃z,(ZaX T ⟨kind,num,foot,req,path,mode,n,time⟩).2=z:=⟨_,rfl⟩
 have hz:=hlo3.out;simp only[hla,Lease.Ans.val] at hz;refine(hz _ (hA.sep1 (A:=TabP t p m ss b) sZ)).mono ?_;clear hz;have hla':=Hd hla;clear hla hlo3;rintro e w1 ⟨rfl,hT⟩;replace hA:=hA.call1 (A:=TabP t p m ss b) sZ hT;clear hT hF;obtain⟨hA,hF⟩:=fY hA
 go_wp2_with ((with_reducible refine gst ?_);refine wTy hA ?_;clear hF hA;intro w1 hA hF)
 refine bodyPost_ret (v:=ansV le ln lg) (by simp[results,Tryz.results59,go_sem,hF]) rfl ?_;rw[hdo2.out];exact⟨ss,_,by rw[hla'.out];rfl,hrl'.out,hA.pick pZ⟩
end Tab
end
section
namespace Cmd
open Go.RowKit
open Path (bl Zaf overB)
attribute [-go_sem] run_eql_struct run_neq_struct run_eqGuard_agg
theorem through0 {L0 L:List Part} {w0 w:World} {P:Program} {f:FuncId} {args:Array Value} {v:Value} (h:At L0 w0 L w) (hc:Calls P f args w fun e w'=>e=.returned v∧Ext w w'):
 Calls P f args w fun e w'=>e=.returned v∧At L0 w0 L w':=hc.mono fun e w' ⟨he,hx⟩=>⟨he,h.ext hx⟩
theorem same_ba (f g:ByteArray):(f.toList==g.toList)=decide (f=g):=by
 rw[Path.eqB];by_cases h:f=g
 · subst h;simp
 rw[decide_eq_false h,decide_eq_false];intro e;apply h;unfold bl at e;have:f.data=g.data:=by rw[←Array.toList_inj];exact e
 cases f;cases g;simp_all
theorem sameCm (x y:Cm) (w:World):(Go.Op.equalIn 10000 43 x.val y.val).run Tryz.prog w=.ok (decide (x=y)) w:=by
 unfold Cm.val;rw[run_equalIn_agg _ 9999 _ _ _ (by kernel_rfl) (by kernel_rfl)];obtain⟨a1,a2,a3,a4,a5,a6,a7,a8⟩:=x;obtain⟨b1,b2,b3,b4,b5,b6,b7,b8⟩:=y;simp[go_sem,Go.Op.eqFields,same_ba,Cm.mk.injEq];repeat' split
 all_goals simp_all
theorem Zn8 (op:BinOp) (x y:Operand) (c1 c2 c3 c4 c5 c6 c7 c8 d1 d2 d3 d4 d5 d6 d7 d8:Value) (w:World):(eqGuard op 43 x y (.agg #[c1,c2,c3,c4,c5,c6,c7,c8]) (.agg #[d1,d2,d3,d4,d5,d6,d7,d8])).run Tryz.prog w=.ok () w:=run_eqGuard_agg _ _ _ _ _ _ _ (by kernel_rfl)
theorem neqCm (x y:Cm) (w:World):(binOp .neq 43 x.val y.val).run Tryz.prog w=.ok (.bool (!decide (x=y))) w:=by
 have:=sameCm x y w
 unfold Cm.val at *
 rw[run_neq_struct,this];rfl
theorem had_0 (w:World):Calls Tryz.prog 89 #[.int .i64 0] w fun e w'=>e=.returned (.tuple #[.agg #[.bool false,.bool false,.bool false,.bool false,.bool false,.bool false],.bool true])∧Ext w w':=by
 have hA:At [] w [] w:=At.start (L0:=[]) trivial;obtain⟨hA,hF⟩:=fY hA;go_enter Tryz.func89,Tryz.ntmps89
 go_wp2_with (first|((with_reducible refine gal ?_);refine g2 hA ?_;clear hF hA;intro bH w1 hA hbH hF)|((with_reducible refine gst ?_);refine wTy hA ?_;clear hF hA;intro w1 hA hF))
 refine bodyPost_ret (v:=.tuple #[.agg #[.bool false,.bool false,.bool false,.bool false,.bool false,.bool false],.bool true]) (by simp[results,Tryz.results89,go_sem,hF]) rfl ⟨rfl,hA.toExt⟩
theorem had_1 (w:World):Calls Tryz.prog 89 #[.int .i64 1] w fun e w'=>e=.returned (.tuple #[.agg #[.bool true,.bool true,.bool false,.bool false,.bool true,.bool true],.bool true])∧Ext w w':=by
 have hA:At [] w [] w:=At.start (L0:=[]) trivial;obtain⟨hA,hF⟩:=fY hA;go_enter Tryz.func89,Tryz.ntmps89
 go_wp2_with (first|((with_reducible refine gal ?_);refine g2 hA ?_;clear hF hA;intro bH w1 hA hbH hF)|((with_reducible refine gst ?_);refine wTy hA ?_;clear hF hA;intro w1 hA hF))
 refine bodyPost_ret (v:=.tuple #[.agg #[.bool true,.bool true,.bool false,.bool false,.bool true,.bool true],.bool true]) (by simp[results,Tryz.results89,go_sem,hF]) rfl ⟨rfl,hA.toExt⟩
theorem had_2 (w:World):Calls Tryz.prog 89 #[.int .i64 2] w fun e w'=>e=.returned (.tuple #[.agg #[.bool true,.bool true,.bool false,.bool false,.bool false,.bool false],.bool true])∧Ext w w':=by
 have hA:At [] w [] w:=At.start (L0:=[]) trivial;obtain⟨hA,hF⟩:=fY hA;go_enter Tryz.func89,Tryz.ntmps89
 go_wp2_with (first|((with_reducible refine gal ?_);refine g2 hA ?_;clear hF hA;intro bH w1 hA hbH hF)|((with_reducible refine gst ?_);refine wTy hA ?_;clear hF hA;intro w1 hA hF))
 refine bodyPost_ret (v:=.tuple #[.agg #[.bool true,.bool true,.bool false,.bool false,.bool false,.bool false],.bool true]) (by simp[results,Tryz.results89,go_sem,hF]) rfl ⟨rfl,hA.toExt⟩
theorem had_3 (w:World):Calls Tryz.prog 89 #[.int .i64 3] w fun e w'=>e=.returned (.tuple #[.agg #[.bool true,.bool true,.bool false,.bool false,.bool false,.bool true],.bool true])∧Ext w w':=by
 have hA:At [] w [] w:=At.start (L0:=[]) trivial;obtain⟨hA,hF⟩:=fY hA;go_enter Tryz.func89,Tryz.ntmps89
 go_wp2_with (first|((with_reducible refine gal ?_);refine g2 hA ?_;clear hF hA;intro bH w1 hA hbH hF)|((with_reducible refine gst ?_);refine wTy hA ?_;clear hF hA;intro w1 hA hF))
 refine bodyPost_ret (v:=.tuple #[.agg #[.bool true,.bool true,.bool false,.bool false,.bool false,.bool true],.bool true]) (by simp[results,Tryz.results89,go_sem,hF]) rfl ⟨rfl,hA.toExt⟩
theorem had_4 (w:World):Calls Tryz.prog 89 #[.int .i64 4] w fun e w'=>e=.returned (.tuple #[.agg #[.bool true,.bool true,.bool true,.bool true,.bool false,.bool false],.bool true])∧Ext w w':=by
 have hA:At [] w [] w:=At.start (L0:=[]) trivial;obtain⟨hA,hF⟩:=fY hA;go_enter Tryz.func89,Tryz.ntmps89
 go_wp2_with (first|((with_reducible refine gal ?_);refine g2 hA ?_;clear hF hA;intro bH w1 hA hbH hF)|((with_reducible refine gst ?_);refine wTy hA ?_;clear hF hA;intro w1 hA hF))
 refine bodyPost_ret (v:=.tuple #[.agg #[.bool true,.bool true,.bool true,.bool true,.bool false,.bool false],.bool true]) (by simp[results,Tryz.results89,go_sem,hF]) rfl ⟨rfl,hA.toExt⟩
theorem had_5 (w:World):Calls Tryz.prog 89 #[.int .i64 5] w fun e w'=>e=.returned (.tuple #[.agg #[.bool true,.bool true,.bool true,.bool true,.bool false,.bool false],.bool true])∧Ext w w':=by
 have hA:At [] w [] w:=At.start (L0:=[]) trivial;obtain⟨hA,hF⟩:=fY hA;go_enter Tryz.func89,Tryz.ntmps89
 go_wp2_with (first|((with_reducible refine gal ?_);refine g2 hA ?_;clear hF hA;intro bH w1 hA hbH hF)|((with_reducible refine gst ?_);refine wTy hA ?_;clear hF hA;intro w1 hA hF))
 refine bodyPost_ret (v:=.tuple #[.agg #[.bool true,.bool true,.bool true,.bool true,.bool false,.bool false],.bool true]) (by simp[results,Tryz.results89,go_sem,hF]) rfl ⟨rfl,hA.toExt⟩
theorem had_6 (w:World):Calls Tryz.prog 89 #[.int .i64 6] w fun e w'=>e=.returned (.tuple #[.agg #[.bool true,.bool true,.bool true,.bool false,.bool false,.bool false],.bool true])∧Ext w w':=by
 have hA:At [] w [] w:=At.start (L0:=[]) trivial;obtain⟨hA,hF⟩:=fY hA;go_enter Tryz.func89,Tryz.ntmps89
 go_wp2_with (first|((with_reducible refine gal ?_);refine g2 hA ?_;clear hF hA;intro bH w1 hA hbH hF)|((with_reducible refine gst ?_);refine wTy hA ?_;clear hF hA;intro w1 hA hF))
 refine bodyPost_ret (v:=.tuple #[.agg #[.bool true,.bool true,.bool true,.bool false,.bool false,.bool false],.bool true]) (by simp[results,Tryz.results89,go_sem,hF]) rfl ⟨rfl,hA.toExt⟩
theorem had_7 (w:World):Calls Tryz.prog 89 #[.int .i64 7] w fun e w'=>e=.returned (.tuple #[.agg #[.bool true,.bool true,.bool true,.bool false,.bool true,.bool false],.bool true])∧Ext w w':=by
 have hA:At [] w [] w:=At.start (L0:=[]) trivial;obtain⟨hA,hF⟩:=fY hA;go_enter Tryz.func89,Tryz.ntmps89
 go_wp2_with (first|((with_reducible refine gal ?_);refine g2 hA ?_;clear hF hA;intro bH w1 hA hbH hF)|((with_reducible refine gst ?_);refine wTy hA ?_;clear hF hA;intro w1 hA hF))
 refine bodyPost_ret (v:=.tuple #[.agg #[.bool true,.bool true,.bool true,.bool false,.bool true,.bool false],.bool true]) (by simp[results,Tryz.results89,go_sem,hF]) rfl ⟨rfl,hA.toExt⟩
theorem had_8 (w:World):Calls Tryz.prog 89 #[.int .i64 8] w fun e w'=>e=.returned (.tuple #[.agg #[.bool true,.bool false,.bool false,.bool false,.bool false,.bool true],.bool true])∧Ext w w':=by
 have hA:At [] w [] w:=At.start (L0:=[]) trivial;obtain⟨hA,hF⟩:=fY hA;go_enter Tryz.func89,Tryz.ntmps89
 go_wp2_with (first|((with_reducible refine gal ?_);refine g2 hA ?_;clear hF hA;intro bH w1 hA hbH hF)|((with_reducible refine gst ?_);refine wTy hA ?_;clear hF hA;intro w1 hA hF))
 refine bodyPost_ret (v:=.tuple #[.agg #[.bool true,.bool false,.bool false,.bool false,.bool false,.bool true],.bool true]) (by simp[results,Tryz.results89,go_sem,hF]) rfl ⟨rfl,hA.toExt⟩
theorem had_no (k:Int) (hk:hasOf k=none) (w:World):Calls Tryz.prog 89 #[.int .i64 k] w fun e w'=>e=.returned (.tuple #[.agg #[.bool false,.bool false,.bool false,.bool false,.bool false,.bool false],.bool false])∧Ext w w':=by
 have hA:At [] w [] w:=At.start (L0:=[]) trivial;have hF:=hA.facts
 have e0:(k==0)=false:=by
  rw[beq_eq_false_iff_ne];rintro rfl;simp[hasOf] at hk
 have e1:(k==1)=false:=by
  rw[beq_eq_false_iff_ne];rintro rfl;simp[hasOf] at hk
 have e2:(k==2)=false:=by
  rw[beq_eq_false_iff_ne];rintro rfl;simp[hasOf] at hk
 have e3:(k==3)=false:=by
  rw[beq_eq_false_iff_ne];rintro rfl;simp[hasOf] at hk
 have e4:(k==4)=false:=by
  rw[beq_eq_false_iff_ne];rintro rfl;simp[hasOf] at hk
 have e5:(k==5)=false:=by
  rw[beq_eq_false_iff_ne];rintro rfl;simp[hasOf] at hk
 have e6:(k==6)=false:=by
  rw[beq_eq_false_iff_ne];rintro rfl;simp[hasOf] at hk
 have e7:(k==7)=false:=by
  rw[beq_eq_false_iff_ne];rintro rfl;simp[hasOf] at hk
 have e8:(k==8)=false:=by
  rw[beq_eq_false_iff_ne];rintro rfl;simp[hasOf] at hk
 clear hk;obtain⟨hA,hF⟩:=fY hA;go_enter Tryz.func89,Tryz.ntmps89
 go_wp2_with (first|((with_reducible refine gal ?_);refine g2 hA ?_;clear hF hA;intro bH w1 hA hbH hF)|((with_reducible refine gst ?_);refine wTy hA ?_;clear hF hA;intro w1 hA hF))
 refine bodyPost_ret (v:=(.tuple #[.agg #[.bool false,.bool false,.bool false,.bool false,.bool false,.bool false],.bool false])) (by simp[results,Tryz.results89,go_sem,hF]) rfl ⟨rfl,hA.toExt⟩
theorem most_1 (w:World):Calls Tryz.prog 92 #[.int .i64 1] w fun e w'=>e=.returned (.int .u64 1048576)∧Ext w w':=by
 have hA:At [] w [] w:=At.start (L0:=[]) trivial;go_enter Tryz.func92,Tryz.ntmps92;go_wp2_with fail;go_ret;exact⟨rfl,hA.toExt⟩
theorem most_7 (w:World):Calls Tryz.prog 92 #[.int .i64 7] w fun e w'=>e=.returned (.int .u64 9223372036854775807)∧Ext w w':=by
 have hA:At [] w [] w:=At.start (L0:=[]) trivial;go_enter Tryz.func92,Tryz.ntmps92;go_wp2_with fail;go_ret;exact⟨rfl,hA.toExt⟩
theorem bare_0 (num:Int) (foot:ByteArray) (req:Int) (path:ByteArray) (mode n time:Int) (w:World):Calls Tryz.prog 90 #[.agg #[.int .i64 0,.int .u64 num,.string foot,.int .u64 req,.string path,.int .i64 mode,.int .u64 n,.int .i64 time],.agg #[.bool false,.bool false,.bool false,.bool false,.bool false,.bool false]] w fun e w'=>e=.returned (.agg #[.int .i64 0,.int .u64 0,.string .empty,.int .u64 0,.string .empty,.int .i64 0,.int .u64 0,.int .i64 0])∧Ext w w':=by
 have hA:At [] w [] w:=At.start (L0:=[]) trivial;obtain⟨hA,hF⟩:=fY hA;go_enter Tryz.func90,Tryz.ntmps90
 go_wp2_with (first|((with_reducible refine gbx ?_);refine wCy (E:=43) hA ?_;clear hF hA;intro bX w1 hA hbX hF)|((with_reducible refine gbx ?_);refine wCy (E:=151) hA ?_;clear hF hA;intro bH w1 hA hbH hF)|(((with_reducible refine galD 4 ?_);refine g5 hA ?_;clear hF hA;intro bR w1 hA hbR hF))|(((with_reducible refine galD 5 ?_);refine g5 hA ?_;clear hF hA;intro bO w1 hA hbO hF))|((with_reducible refine gst ?_);refine wTy hA ?_;clear hF hA;intro w1 hA hF))
 refine bodyPost_ret (v:=.agg #[.int .i64 0,.int .u64 0,.string ⟨#[]⟩,.int .u64 0,.string ⟨#[]⟩,.int .i64 0,.int .u64 0,.int .i64 0]) (by simp[results,Tryz.results90,go_sem,hF]) rfl ⟨rfl,hA.toExt⟩
theorem bare_1 (num:Int) (foot:ByteArray) (req:Int) (path:ByteArray) (mode n time:Int) (w:World):Calls Tryz.prog 90 #[.agg #[.int .i64 1,.int .u64 num,.string foot,.int .u64 req,.string path,.int .i64 mode,.int .u64 n,.int .i64 time],.agg #[.bool true,.bool true,.bool false,.bool false,.bool true,.bool true]] w fun e w'=>e=.returned (.agg #[.int .i64 1,.int .u64 num,.string foot,.int .u64 req,.string .empty,.int .i64 0,.int .u64 n,.int .i64 time])∧Ext w w':=by
 have hA:At [] w [] w:=At.start (L0:=[]) trivial;obtain⟨hA,hF⟩:=fY hA;go_enter Tryz.func90,Tryz.ntmps90
 go_wp2_with (first|((with_reducible refine gbx ?_);refine wCy (E:=43) hA ?_;clear hF hA;intro bX w1 hA hbX hF)|((with_reducible refine gbx ?_);refine wCy (E:=151) hA ?_;clear hF hA;intro bH w1 hA hbH hF)|(((with_reducible refine galD 4 ?_);refine g5 hA ?_;clear hF hA;intro bR w1 hA hbR hF))|(((with_reducible refine galD 5 ?_);refine g5 hA ?_;clear hF hA;intro bO w1 hA hbO hF))|((with_reducible refine gst ?_);refine wTy hA ?_;clear hF hA;intro w1 hA hF))
 refine bodyPost_ret (v:=.agg #[.int .i64 1,.int .u64 num,.string foot,.int .u64 req,.string ⟨#[]⟩,.int .i64 0,.int .u64 n,.int .i64 time]) (by simp[results,Tryz.results90,go_sem,hF]) rfl ⟨rfl,hA.toExt⟩
theorem bare_2 (num:Int) (foot:ByteArray) (req:Int) (path:ByteArray) (mode n time:Int) (w:World):Calls Tryz.prog 90 #[.agg #[.int .i64 2,.int .u64 num,.string foot,.int .u64 req,.string path,.int .i64 mode,.int .u64 n,.int .i64 time],.agg #[.bool true,.bool true,.bool false,.bool false,.bool false,.bool false]] w fun e w'=>e=.returned (.agg #[.int .i64 2,.int .u64 num,.string foot,.int .u64 req,.string .empty,.int .i64 0,.int .u64 0,.int .i64 0])∧Ext w w':=by
 have hA:At [] w [] w:=At.start (L0:=[]) trivial;obtain⟨hA,hF⟩:=fY hA;go_enter Tryz.func90,Tryz.ntmps90
 go_wp2_with (first|((with_reducible refine gbx ?_);refine wCy (E:=43) hA ?_;clear hF hA;intro bX w1 hA hbX hF)|((with_reducible refine gbx ?_);refine wCy (E:=151) hA ?_;clear hF hA;intro bH w1 hA hbH hF)|(((with_reducible refine galD 4 ?_);refine g5 hA ?_;clear hF hA;intro bR w1 hA hbR hF))|(((with_reducible refine galD 5 ?_);refine g5 hA ?_;clear hF hA;intro bO w1 hA hbO hF))|((with_reducible refine gst ?_);refine wTy hA ?_;clear hF hA;intro w1 hA hF))
 refine bodyPost_ret (v:=.agg #[.int .i64 2,.int .u64 num,.string foot,.int .u64 req,.string ⟨#[]⟩,.int .i64 0,.int .u64 0,.int .i64 0]) (by simp[results,Tryz.results90,go_sem,hF]) rfl ⟨rfl,hA.toExt⟩
theorem bare_3 (num:Int) (foot:ByteArray) (req:Int) (path:ByteArray) (mode n time:Int) (w:World):Calls Tryz.prog 90 #[.agg #[.int .i64 3,.int .u64 num,.string foot,.int .u64 req,.string path,.int .i64 mode,.int .u64 n,.int .i64 time],.agg #[.bool true,.bool true,.bool false,.bool false,.bool false,.bool true]] w fun e w'=>e=.returned (.agg #[.int .i64 3,.int .u64 num,.string foot,.int .u64 req,.string .empty,.int .i64 0,.int .u64 0,.int .i64 time])∧Ext w w':=by
 have hA:At [] w [] w:=At.start (L0:=[]) trivial;obtain⟨hA,hF⟩:=fY hA;go_enter Tryz.func90,Tryz.ntmps90
 go_wp2_with (first|((with_reducible refine gbx ?_);refine wCy (E:=43) hA ?_;clear hF hA;intro bX w1 hA hbX hF)|((with_reducible refine gbx ?_);refine wCy (E:=151) hA ?_;clear hF hA;intro bH w1 hA hbH hF)|(((with_reducible refine galD 4 ?_);refine g5 hA ?_;clear hF hA;intro bR w1 hA hbR hF))|(((with_reducible refine galD 5 ?_);refine g5 hA ?_;clear hF hA;intro bO w1 hA hbO hF))|((with_reducible refine gst ?_);refine wTy hA ?_;clear hF hA;intro w1 hA hF))
 refine bodyPost_ret (v:=.agg #[.int .i64 3,.int .u64 num,.string foot,.int .u64 req,.string ⟨#[]⟩,.int .i64 0,.int .u64 0,.int .i64 time]) (by simp[results,Tryz.results90,go_sem,hF]) rfl ⟨rfl,hA.toExt⟩
theorem bare_4 (num:Int) (foot:ByteArray) (req:Int) (path:ByteArray) (mode n time:Int) (w:World):Calls Tryz.prog 90 #[.agg #[.int .i64 4,.int .u64 num,.string foot,.int .u64 req,.string path,.int .i64 mode,.int .u64 n,.int .i64 time],.agg #[.bool true,.bool true,.bool true,.bool true,.bool false,.bool false]] w fun e w'=>e=.returned (.agg #[.int .i64 4,.int .u64 num,.string foot,.int .u64 req,.string path,.int .i64 mode,.int .u64 0,.int .i64 0])∧Ext w w':=by
 have hA:At [] w [] w:=At.start (L0:=[]) trivial;obtain⟨hA,hF⟩:=fY hA;go_enter Tryz.func90,Tryz.ntmps90
 go_wp2_with (first|((with_reducible refine gbx ?_);refine wCy (E:=43) hA ?_;clear hF hA;intro bX w1 hA hbX hF)|((with_reducible refine gbx ?_);refine wCy (E:=151) hA ?_;clear hF hA;intro bH w1 hA hbH hF)|(((with_reducible refine galD 4 ?_);refine g5 hA ?_;clear hF hA;intro bR w1 hA hbR hF))|(((with_reducible refine galD 5 ?_);refine g5 hA ?_;clear hF hA;intro bO w1 hA hbO hF))|((with_reducible refine gst ?_);refine wTy hA ?_;clear hF hA;intro w1 hA hF))
 refine bodyPost_ret (v:=.agg #[.int .i64 4,.int .u64 num,.string foot,.int .u64 req,.string path,.int .i64 mode,.int .u64 0,.int .i64 0]) (by simp[results,Tryz.results90,go_sem,hF]) rfl ⟨rfl,hA.toExt⟩
theorem bare_5 (num:Int) (foot:ByteArray) (req:Int) (path:ByteArray) (mode n time:Int) (w:World):Calls Tryz.prog 90 #[.agg #[.int .i64 5,.int .u64 num,.string foot,.int .u64 req,.string path,.int .i64 mode,.int .u64 n,.int .i64 time],.agg #[.bool true,.bool true,.bool true,.bool true,.bool false,.bool false]] w fun e w'=>e=.returned (.agg #[.int .i64 5,.int .u64 num,.string foot,.int .u64 req,.string path,.int .i64 mode,.int .u64 0,.int .i64 0])∧Ext w w':=by
 have hA:At [] w [] w:=At.start (L0:=[]) trivial;obtain⟨hA,hF⟩:=fY hA;go_enter Tryz.func90,Tryz.ntmps90
 go_wp2_with (first|((with_reducible refine gbx ?_);refine wCy (E:=43) hA ?_;clear hF hA;intro bX w1 hA hbX hF)|((with_reducible refine gbx ?_);refine wCy (E:=151) hA ?_;clear hF hA;intro bH w1 hA hbH hF)|(((with_reducible refine galD 4 ?_);refine g5 hA ?_;clear hF hA;intro bR w1 hA hbR hF))|(((with_reducible refine galD 5 ?_);refine g5 hA ?_;clear hF hA;intro bO w1 hA hbO hF))|((with_reducible refine gst ?_);refine wTy hA ?_;clear hF hA;intro w1 hA hF))
 refine bodyPost_ret (v:=.agg #[.int .i64 5,.int .u64 num,.string foot,.int .u64 req,.string path,.int .i64 mode,.int .u64 0,.int .i64 0]) (by simp[results,Tryz.results90,go_sem,hF]) rfl ⟨rfl,hA.toExt⟩
theorem bare_6 (num:Int) (foot:ByteArray) (req:Int) (path:ByteArray) (mode n time:Int) (w:World):Calls Tryz.prog 90 #[.agg #[.int .i64 6,.int .u64 num,.string foot,.int .u64 req,.string path,.int .i64 mode,.int .u64 n,.int .i64 time],.agg #[.bool true,.bool true,.bool true,.bool false,.bool false,.bool false]] w fun e w'=>e=.returned (.agg #[.int .i64 6,.int .u64 num,.string foot,.int .u64 req,.string path,.int .i64 0,.int .u64 0,.int .i64 0])∧Ext w w':=by
 have hA:At [] w [] w:=At.start (L0:=[]) trivial;obtain⟨hA,hF⟩:=fY hA;go_enter Tryz.func90,Tryz.ntmps90
 go_wp2_with (first|((with_reducible refine gbx ?_);refine wCy (E:=43) hA ?_;clear hF hA;intro bX w1 hA hbX hF)|((with_reducible refine gbx ?_);refine wCy (E:=151) hA ?_;clear hF hA;intro bH w1 hA hbH hF)|(((with_reducible refine galD 4 ?_);refine g5 hA ?_;clear hF hA;intro bR w1 hA hbR hF))|(((with_reducible refine galD 5 ?_);refine g5 hA ?_;clear hF hA;intro bO w1 hA hbO hF))|((with_reducible refine gst ?_);refine wTy hA ?_;clear hF hA;intro w1 hA hF))
 refine bodyPost_ret (v:=.agg #[.int .i64 6,.int .u64 num,.string foot,.int .u64 req,.string path,.int .i64 0,.int .u64 0,.int .i64 0]) (by simp[results,Tryz.results90,go_sem,hF]) rfl ⟨rfl,hA.toExt⟩
theorem bare_7 (num:Int) (foot:ByteArray) (req:Int) (path:ByteArray) (mode n time:Int) (w:World):Calls Tryz.prog 90 #[.agg #[.int .i64 7,.int .u64 num,.string foot,.int .u64 req,.string path,.int .i64 mode,.int .u64 n,.int .i64 time],.agg #[.bool true,.bool true,.bool true,.bool false,.bool true,.bool false]] w fun e w'=>e=.returned (.agg #[.int .i64 7,.int .u64 num,.string foot,.int .u64 req,.string path,.int .i64 0,.int .u64 n,.int .i64 0])∧Ext w w':=by
 have hA:At [] w [] w:=At.start (L0:=[]) trivial;obtain⟨hA,hF⟩:=fY hA;go_enter Tryz.func90,Tryz.ntmps90
 go_wp2_with (first|((with_reducible refine gbx ?_);refine wCy (E:=43) hA ?_;clear hF hA;intro bX w1 hA hbX hF)|((with_reducible refine gbx ?_);refine wCy (E:=151) hA ?_;clear hF hA;intro bH w1 hA hbH hF)|(((with_reducible refine galD 4 ?_);refine g5 hA ?_;clear hF hA;intro bR w1 hA hbR hF))|(((with_reducible refine galD 5 ?_);refine g5 hA ?_;clear hF hA;intro bO w1 hA hbO hF))|((with_reducible refine gst ?_);refine wTy hA ?_;clear hF hA;intro w1 hA hF))
 refine bodyPost_ret (v:=.agg #[.int .i64 7,.int .u64 num,.string foot,.int .u64 req,.string path,.int .i64 0,.int .u64 n,.int .i64 0]) (by simp[results,Tryz.results90,go_sem,hF]) rfl ⟨rfl,hA.toExt⟩
theorem bare_8 (num:Int) (foot:ByteArray) (req:Int) (path:ByteArray) (mode n time:Int) (w:World):Calls Tryz.prog 90 #[.agg #[.int .i64 8,.int .u64 num,.string foot,.int .u64 req,.string path,.int .i64 mode,.int .u64 n,.int .i64 time],.agg #[.bool true,.bool false,.bool false,.bool false,.bool false,.bool true]] w fun e w'=>e=.returned (.agg #[.int .i64 8,.int .u64 num,.string foot,.int .u64 0,.string .empty,.int .i64 0,.int .u64 0,.int .i64 time])∧Ext w w':=by
 have hA:At [] w [] w:=At.start (L0:=[]) trivial;obtain⟨hA,hF⟩:=fY hA;go_enter Tryz.func90,Tryz.ntmps90
 go_wp2_with (first|((with_reducible refine gbx ?_);refine wCy (E:=43) hA ?_;clear hF hA;intro bX w1 hA hbX hF)|((with_reducible refine gbx ?_);refine wCy (E:=151) hA ?_;clear hF hA;intro bH w1 hA hbH hF)|(((with_reducible refine galD 4 ?_);refine g5 hA ?_;clear hF hA;intro bR w1 hA hbR hF))|(((with_reducible refine galD 5 ?_);refine g5 hA ?_;clear hF hA;intro bO w1 hA hbO hF))|((with_reducible refine gst ?_);refine wTy hA ?_;clear hF hA;intro w1 hA hF))
 refine bodyPost_ret (v:=.agg #[.int .i64 8,.int .u64 num,.string foot,.int .u64 0,.string ⟨#[]⟩,.int .i64 0,.int .u64 0,.int .i64 time]) (by simp[results,Tryz.results90,go_sem,hF]) rfl ⟨rfl,hA.toExt⟩
end Cmd
end
end Go.Proofs.YtknoefbcmomalaaGreatDoor
