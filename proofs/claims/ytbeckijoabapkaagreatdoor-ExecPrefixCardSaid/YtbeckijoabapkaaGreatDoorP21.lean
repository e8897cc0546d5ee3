import Derived.Test.YtbeckijoabapkaaGreatDoorP20
set_option linter.unusedSimpArgs false
set_option linter.unusedVariables false
set_option maxRecDepth 100000
set_option maxHeartbeats 16000000
namespace Go.Proofs.YtbeckijoabapkaaGreatDoor
section
namespace Tab
open Go.RowKit
open Path (bl Zag overB ZaB)
open Lease (Ses Ans fresh Zbx)
open Lock (S3 Ent)
open Cmd (Cm Zar)
attribute [-go_sem] run_eql_struct run_neq_struct run_eqGuard_agg
def CutF (w:World) (t p m:Nat) (ss:List Ses) (b:Lock.Bk) (b3 b4:Nat) (c:List Value) (u v:Value) (wc:World):Prop:=∃b5:Nat,u=.pointer (some ⟨b5,0,none⟩)∧v=.bool false∧At [TabP t p m ss b] w [Part.cells b5 [.int .i64 0,.int .u64 0,.bool false] 40,Part.cells b4 [.int .i64 0,.int .u64 0,.bool false] 40,Part.cells b3 c 37,headT t p b.p,Lease.BookP p m ss,Lock.BookP b] wc
theorem Zkj {kind num:Int} {foot:ByteArray} {req:Int} {path:ByteArray} {mode n time:Int} (h:Zar ⟨kind,num,foot,req,path,mode,n,time⟩=true) (e:kind=1):n≤1048576:=by
 subst e;have h2:Cmd.Zcm ⟨1,num,foot,req,path,mode,n,time⟩ ⟨true,true,false,false,true,true⟩=true:=h;unfold Cmd.Zcm at h2;simp[Cmd.mostN] at h2;omega
theorem Znh {w:World} {t p m:Nat} {ss:List Ses} {b:Lock.Bk} (h:Sep [TabP t p m ss b] w) (kind num:Int) (foot:ByteArray) (req:Int) (path:ByteArray) (mode n time:Int) {T:TS} (hR:TRel ss b T) {k:Nat} (hI:SInv T.S k) (hk:k≤200000) (hok:LkOk b) (hc:CmOk ⟨kind,num,foot,req,path,mode,n,time⟩) (hq0:0≤req) (hq1:req < Lease.big64) (hn0:0≤n):
 Calls Tryz.prog 24 #[.pointer (some ⟨t,0,none⟩),.agg #[.int .i64 kind,.int .u64 num,.string foot,.int .u64 req,.string path,.int .i64 mode,.int .u64 n,.int .i64 time]] w (TPost t p m ss b w (Zap T ⟨kind,num,foot,req,path,mode,n,time⟩).1 (Zap T ⟨kind,num,foot,req,path,mode,n,time⟩).2):=by
 have hm:Tryz.prog.follows .mixedOrders=true:=by kernel_rfl
 have hkn:=Hd (hR.kn hI);have hlen:=hR.len hI;have h0:0≤num:=hc.num.1;have h1:num < Lease.big64:=hc.num.2;have hf:foot.size≤1000:=Nat.le_trans hc.foot (by omega);have hp:path.size≤1000:=Nat.le_trans hc.path (by omega);have hmf:foot.size≤maxLen:=by unfold maxLen;omega
 have hrt:=Hd (fun w1=>Cmd.right_any ⟨kind,num,foot,req,path,mode,n,time⟩ w1 hf hp);have hR':=Hd hR;have hI':=Hd hI;have hc':=Hd hc;have hok':=Hd hok;have hlk:=hR.look num foot
 have hap:Zap T ⟨kind,num,foot,req,path,mode,n,time⟩=(if Zar ⟨kind,num,foot,req,path,mode,n,time⟩=false∨kind=0 then(T,ans0)
  else if kind=8 then(endT T ⟨kind,num,foot,req,path,mode,n,time⟩ (Lease.expB (Lease.look ss num foot) time),ansE (Lease.expB (Lease.look ss num foot) time))
  else match Lease.said (Lease.look ss num foot).told req with
   |some a=>(T,a)
   |none=>if 256≤(Lease.look ss num foot).told.length then(T,ansE 14) else(tellT (doT T ⟨kind,num,foot,req,path,mode,n,time⟩).1 ⟨kind,num,foot,req,path,mode,n,time⟩ (doT T ⟨kind,num,foot,req,path,mode,n,time⟩).2,(doT T ⟨kind,num,foot,req,path,mode,n,time⟩).2)):=by
  unfold Zap;simp only[hlk];rfl
 have hap0:=Hd hap;clear hap;have hex:=Hd (fun(w1:World) (q:Sep [Lease.BookP p m ss] w1)=>Lease.Zie q h0 h1 hmf time);have htd:=Hd (fun(w1:World) (q:Sep [Lease.BookP p m ss] w1)=>Lease.ZlZ q h0 h1 hmf hq0 hq1)
 obtain⟨rc,hrc⟩:∃z,Zar ⟨kind,num,foot,req,path,mode,n,time⟩=z:=⟨_,rfl⟩
 have hrt2:=hrt.out;simp only[hrc,Cm.val] at hrt2;have hrt3:=Hd hrt2;clear hrt hrt2 hR hI hc hok hlk;have hA:=At.start h;clear h;obtain⟨hA,hF⟩:=fY hA;go_enter Tryz.func24,Tryz.ntmps24
 go_wp2_with (first|((with_reducible refine gbx ?_);refine wHy 37 [.int .i64 kind,.int .u64 num,.string foot,.int .u64 req,.string path,.int .i64 mode,.int .u64 n,.int .i64 time] hA ?_;clear hF hA;intro b3 w1 hA hb3 hF)|((with_reducible refine gal ?_);refine g1 hA ?_;clear hF hA;intro b4 w1 hA hb4 hF))
 refine(hrt3.out _).mono ?_;rintro e w1 ⟨rfl,hx⟩;replace hA:=hA.ext hx;clear hx hF;obtain⟨hA,hF⟩:=fY hA;cases rc
 · have hz:=Hd (show Zap T ⟨kind,num,foot,req,path,mode,n,time⟩=(T,ans0) from hap0.out.trans (if_pos (.inl hrc)));clear hrc
   go_wp2_with ((with_reducible refine gst ?_);refine wTy hA ?_;clear hF hA;intro w1 hA hF)
   refine bodyPost_ret (v:=ansV 0 0 false) (by simp[results,Tryz.results24,go_sem,hF]) rfl ?_;rw[hz.out];exact⟨ss,b,rfl,hR'.out,hA.pick pZ⟩
 by_cases k0:kind=0
 · have hz:=Hd (show Zap T ⟨kind,num,foot,req,path,mode,n,time⟩=(T,ans0) from hap0.out.trans (if_pos (.inr k0)));subst k0;clear hrc
   go_wp2_with ((with_reducible refine gst ?_);refine wTy hA ?_;clear hF hA;intro w1 hA hF)
   refine bodyPost_ret (v:=ansV 0 0 false) (by simp[results,Tryz.results24,go_sem,hF]) rfl ?_;rw[hz.out];exact⟨ss,b,rfl,hR'.out,hA.pick pZ⟩
 have hap2:=hap0.out.trans (if_neg (fun q=>q.elim (fun q=>by rw[hrc] at q;cases q) k0));have hd0:decide (kind=0)=false:=decide_eq_false k0;clear hap0;by_cases x8:kind=8
 · have hz:=hap2.trans (if_pos x8);subst x8
   obtain⟨co,hco⟩:∃z,Lease.expB (Lease.look ss num foot) time=z:=⟨_,rfl⟩
   have hy:=hex.out;simp only[hco] at hy;rw[hco] at hz;have hex3:=Hd hy;have hz':=Hd hz;clear hy hco hex hz hap2 hrc;replace hA:=ZbC hA sZ;clear hF;obtain⟨hA,hF⟩:=fY hA;go_upto_region 4 with fail
   (try go_frame);replace hA:=hA.drew;clear hF;refine wp_region_held (S:=fun w'=>Zaa w' t (k2 p b.p) 87∧Zaa w' b3 (k8 8 num foot req path mode n time) 37) hm ?_;change wpAnyH _ _ _ _ _ 14 _ _ (World.drew _);generalize World.drew _=wd at *
   have hS0:=(⟨hA.get (A:=Part.cells t (k2 p b.p) 87) sZ,hA.get (A:=Part.cells b3 (k8 8 num foot req path mode n time) 37) sZ⟩:(fun w'=>Zaa w' t (k2 p b.p) 87∧Zaa w' b3 (k8 8 num foot req path mode n time) 37) wd)
   refine tP 0 22 (.pointer (some ⟨t,0,none⟩)) (s:=hS0) (h:= ?_);(try go_frame);refine tP 1 23 (.pointer (some ⟨b3,1,none⟩)) (s:=hS0) (h:= ?_);(try go_frame);refine tZ 2 24 (.agg #[.int .u64 num,.string foot]) (r:=(fun w' hS=>Zae (ty:=35) (n:=2) (b:=b3) (j:=1) rfl (by exact rfl) hS.2 (by kernel_rfl) (by kernel_rfl) rfl rfl)) (s:=hS0) (h:= ?_);(try go_frame);refine tP 3 25 (.pointer (some ⟨t,0,none⟩)) (s:=hS0) (h:= ?_);(try go_frame);refine tP 4 26 (.pointer (some ⟨t,0,none⟩)) (s:=hS0) (h:= ?_);(try go_frame);refine tP 5 27 (.pointer (some ⟨t,0,none⟩)) (s:=hS0) (h:= ?_);(try go_frame);refine tZ 6 28 (.pointer (some ⟨p,0,none⟩)) (r:=(fun w' hS=>Zac (ty:=82) (b:=t) (j:=0) rfl (by exact rfl) hS.1 (by kernel_rfl) rfl)) (s:=hS0) (h:= ?_);(try go_frame);refine tP 7 29 (.pointer (some ⟨b3,1,none⟩)) (s:=hS0) (h:= ?_);(try go_frame);refine tZ 8 30 (.agg #[.int .u64 num,.string foot]) (r:=(fun w' hS=>Zae (ty:=35) (n:=2) (b:=b3) (j:=1) rfl (by exact rfl) hS.2 (by kernel_rfl) (by kernel_rfl) rfl rfl)) (s:=hS0) (h:= ?_);(try go_frame);refine tP 9 31 (.pointer (some ⟨b3,7,none⟩)) (s:=hS0) (h:= ?_);(try go_frame);refine tZ 10 32 (.int .i64 time) (r:=(fun w' hS=>Zac (ty:=3) (b:=b3) (j:=7) rfl (by exact rfl) hS.2 (by kernel_rfl) rfl)) (s:=hS0) (h:= ?_);(try go_frame);refine Zab (i:=11) (by kernel_rfl) ?_;refine cY 11 33 37 (fun u w'=>∃ss',u=.int .i64 co∧At [Lease.BookP p m ss] _ [Lease.BookP p m ss'] w'∧(co≠0∧ss'=ss∨co=0∧Zbx ss num foot Ses.ended ss')) ((hex3.out _ (hA.sep1 (A:=Lease.BookP p m ss) sZ)).mono fun e w' ⟨ss',he,hT,hq⟩=>⟨_,he,ss',rfl,hT,hq⟩) ?_;rintro u w3 ⟨ss',rfl,hT,hq⟩;have hq':=Hd hq;have hB:=hA.call1 (A:=Lease.BookP p m ss) sZ hT;clear hT hq;simp only[uA] at hB;refine andH ⟨hB.ci,hB.ci⟩ fun hS0=> ?_;replace hA:=hB;clear hB;(try go_frame);refine Zab (i:=12) (by kernel_rfl) ?_;replace hA:=Zdd (ss:=ss') hA sZ sZ sZ;refine cY 12 34 36 (fun u w'=>u=ansV co 0 false∧At [TabP t p m ss' b] _ [TabP t p m ss' (if co=0 then b.with (b.st.dropAll num foot) else b)] w') ((Zhn (hA.sep1 (A:=TabP t p m ss' b) sZ) num foot co hok'.out).mono fun e w' ⟨he,hT⟩=>⟨_,he,rfl,hT⟩) ?_;rintro u w3 ⟨rfl,hT⟩;have hC:=hA.call1 (A:=TabP t p m ss' b) sZ hT;clear hT;simp only[uA] at hC
   obtain⟨b',hb'⟩:∃z,(if co=0 then b.with (b.st.dropAll num foot) else b)=z:=⟨_,rfl⟩
   rw[hb'] at hC;have hbp:b'.p=b.p:=by rw[←hb'];split<;>rfl
   have hB:=ZbC hC sZ;rw[hbp] at hB;have hb2:=Hd hb';have hbp':=Hd hbp;clear hC hb' hbp;refine andH ⟨hB.ci,hB.ci⟩ fun hS0=> ?_;replace hA:=hB;clear hB;(try go_frame);refine Zab (i:=13) (by kernel_rfl) ?_;refine stZ 13 b4 0 [.int .i64 co,.int .u64 0,.bool false] hA ?_;intro w3 hB;simp only[uA] at hB;refine andH ⟨hB.ci,hB.ci⟩ fun hS0=> ?_;replace hA:=hB;clear hB;(try go_frame);refine wpAnyH_done (by kernel_rfl) ?_ _;(try go_frame);clear hS0;obtain⟨hA,hF⟩:=fY hA;go_wp2_with fail;refine bodyPost_ret (v:=ansV co 0 false) (by simp[results,Tryz.results24,go_sem,hF]) rfl ?_;rw[hz'.out];exact⟨ss',b',rfl,by rw[←hb2.out];exact Zll (c:=⟨8,num,foot,req,path,mode,n,time⟩) hR'.out hkn.out hq'.out,ZaC (ss:=ss') (b:=b') (by rw[hbp'.out];exact hA.pick pZ)⟩
 have hap3:=hap2.trans (if_neg x8);have hd8:decide (kind=8)=false:=decide_eq_false x8
 have hn1:kind=1→0≤n∧n≤1048576:=fun e=>⟨hn0,Zkj hrc e⟩
 clear hap2 hrc hex
 obtain⟨sd,hsd⟩:∃z,Lease.said (Lease.look ss num foot).told req=z:=⟨_,rfl⟩
 have hy:=htd.out;simp only[hsd] at hy;rw[hsd] at hap3;have htd3:=Hd hy;clear hy htd hsd
 cases sd with
 |some a=>
  obtain⟨le,ln,lg⟩:=a;have hz':=Hd hap3;simp only[Lease.toldV] at htd3;clear hap3;replace hA:=ZbC hA sZ;clear hF;obtain⟨hA,hF⟩:=fY hA;go_upto_region 5 with fail
  (try go_frame);replace hA:=hA.drew;clear hF;refine wp_region_held (S:=fun w'=>Zaa w' t (k2 p b.p) 87∧Zaa w' b3 (k8 kind num foot req path mode n time) 37) hm ?_;change wpAnyH _ _ _ _ _ 15 _ _ (World.drew _);generalize World.drew _=wd at *
  have hS0:=(⟨hA.get (A:=Part.cells t (k2 p b.p) 87) sZ,hA.get (A:=Part.cells b3 (k8 kind num foot req path mode n time) 37) sZ⟩:(fun w'=>Zaa w' t (k2 p b.p) 87∧Zaa w' b3 (k8 kind num foot req path mode n time) 37) wd)
  refine tP 0 36 (.pointer (some ⟨t,0,none⟩)) (s:=hS0) (h:= ?_);(try go_frame);refine tP 1 37 (.pointer (some ⟨t,0,none⟩)) (s:=hS0) (h:= ?_);(try go_frame);refine tP 2 38 (.pointer (some ⟨t,0,none⟩)) (s:=hS0) (h:= ?_);(try go_frame);refine tZ 3 39 (.pointer (some ⟨p,0,none⟩)) (r:=(fun w' hS=>Zac (ty:=82) (b:=t) (j:=0) rfl (by exact rfl) hS.1 (by kernel_rfl) rfl)) (s:=hS0) (h:= ?_);(try go_frame);refine tP 4 40 (.pointer (some ⟨b3,1,none⟩)) (s:=hS0) (h:= ?_);(try go_frame);refine tZ 5 41 (.agg #[.int .u64 num,.string foot]) (r:=(fun w' hS=>Zae (ty:=35) (n:=2) (b:=b3) (j:=1) rfl (by exact rfl) hS.2 (by kernel_rfl) (by kernel_rfl) rfl rfl)) (s:=hS0) (h:= ?_);(try go_frame);refine tP 6 42 (.pointer (some ⟨b3,3,none⟩)) (s:=hS0) (h:= ?_);(try go_frame);refine tZ 7 43 (.int .u64 req) (r:=(fun w' hS=>Zac (ty:=22) (b:=b3) (j:=3) rfl (by exact rfl) hS.2 (by kernel_rfl) rfl)) (s:=hS0) (h:= ?_);(try go_frame);refine ZaF (i:=8) (j:=12) (by kernel_rfl) ?_ ?_
  · skip;refine cY 8 44 38 (fun u w'=>u=.tuple #[.agg #[.int .i64 le,.int .u64 ln,.bool lg],.bool true]∧At [Lease.BookP p m ss] _ [Lease.BookP p m ss] w') ((htd3.out _ (hA.sep1 (A:=Lease.BookP p m ss) sZ)).mono fun e w' ⟨he,hT⟩=>⟨_,he,rfl,hT⟩) ?_;rintro u w3 ⟨rfl,hT⟩;have hB:=hA.call1 (A:=Lease.BookP p m ss) sZ hT;clear hT;simp only[uA] at hB;refine andH ⟨hB.ci,hB.ci⟩ fun hS0=> ?_;replace hA:=hB;clear hB;(try go_frame);refine tP 9 35 (.tuple #[.agg #[.int .i64 le,.int .u64 ln,.bool lg],.bool true]) (s:=hS0) (h:= ?_);(try go_frame);refine tP 10 45 (.agg #[.int .i64 le,.int .u64 ln,.bool lg]) (s:=hS0) (h:= ?_);(try go_frame);refine tP 11 46 (.bool true) (s:=hS0) (h:= ?_);(try go_frame);refine Zab (i:=12) (by kernel_rfl) ?_;refine aZ 12 5 40 [.int .i64 0,.int .u64 0,.bool false] hA ?_;intro b5 w3 hB;refine andH ⟨hB.ci,hB.ci⟩ fun hS0=> ?_;replace hA:=hB;clear hB;(try go_frame);refine Zab (i:=13) (by kernel_rfl) ?_;refine stZ 13 b5 0 [.int .i64 le,.int .u64 ln,.bool lg] hA ?_;intro w3 hB;simp only[uA] at hB;refine andH ⟨hB.ci,hB.ci⟩ fun hS0=> ?_;replace hA:=hB;clear hB;(try go_frame);refine tP 14 6 (.bool true) (s:=hS0) (h:= ?_);(try go_frame);refine wpAnyH_done (by kernel_rfl) ?_ _;(try go_frame);clear hS0;obtain⟨hA,hF⟩:=fY hA
    go_wp2_with ((with_reducible refine gst ?_);refine wTy hA ?_;clear hF hA;intro w1 hA hF)
    refine bodyPost_ret (v:=ansV le ln lg) (by simp[results,Tryz.results24,go_sem,hF]) rfl ?_;rw[hz'.out];exact⟨ss,b,rfl,hR'.out,ZaC (hA.pick pZ)⟩
  skip;refine aZ 12 5 40 [.int .i64 0,.int .u64 0,.bool false] hA ?_;intro b5 w3 hB;refine andH ⟨hB.ci,hB.ci⟩ fun hS0=> ?_;replace hA:=hB;clear hB;(try go_frame);refine Zab (i:=8) (by kernel_rfl) ?_;refine cY 8 44 38 (fun u w'=>u=.tuple #[.agg #[.int .i64 le,.int .u64 ln,.bool lg],.bool true]∧At [Lease.BookP p m ss] _ [Lease.BookP p m ss] w') ((htd3.out _ (hA.sep1 (A:=Lease.BookP p m ss) sZ)).mono fun e w' ⟨he,hT⟩=>⟨_,he,rfl,hT⟩) ?_;rintro u w3 ⟨rfl,hT⟩;have hB:=hA.call1 (A:=Lease.BookP p m ss) sZ hT;clear hT;simp only[uA] at hB;refine andH ⟨hB.ci,hB.ci⟩ fun hS0=> ?_;replace hA:=hB;clear hB;(try go_frame);refine tP 9 35 (.tuple #[.agg #[.int .i64 le,.int .u64 ln,.bool lg],.bool true]) (s:=hS0) (h:= ?_);(try go_frame);refine tP 10 45 (.agg #[.int .i64 le,.int .u64 ln,.bool lg]) (s:=hS0) (h:= ?_);(try go_frame);refine tP 11 46 (.bool true) (s:=hS0) (h:= ?_);(try go_frame);refine Zab (i:=13) (by kernel_rfl) ?_;refine stZ 13 b5 0 [.int .i64 le,.int .u64 ln,.bool lg] hA ?_;intro w3 hB;simp only[uA] at hB;refine andH ⟨hB.ci,hB.ci⟩ fun hS0=> ?_;replace hA:=hB;clear hB;(try go_frame);refine tP 14 6 (.bool true) (s:=hS0) (h:= ?_);(try go_frame);refine wpAnyH_done (by kernel_rfl) ?_ _;(try go_frame);clear hS0;obtain⟨hA,hF⟩:=fY hA
  go_wp2_with ((with_reducible refine gst ?_);refine wTy hA ?_;clear hF hA;intro w1 hA hF)
  refine bodyPost_ret (v:=ansV le ln lg) (by simp[results,Tryz.results24,go_sem,hF]) rfl ?_;rw[hz'.out];exact⟨ss,b,rfl,hR'.out,ZaC (hA.pick pZ)⟩
 |none=>
  simp only[Lease.toldV] at htd3;have hap3':=Hd hap3;clear hap3;replace hA:=ZbC hA sZ;clear hF;obtain⟨hA,hF⟩:=fY hA;go_upto_region 5 with fail
  (try go_frame);go_cut [5,6] from 35 to 47 (CutF w t p m ss b b3 b4 [.int .i64 kind,.int .u64 num,.string foot,.int .u64 req,.string path,.int .i64 mode,.int .u64 n,.int .i64 time])
  case first=>
   replace hA:=hA.drew;clear hF;refine wp_region_held (S:=fun w'=>Zaa w' t (k2 p b.p) 87∧Zaa w' b3 (k8 kind num foot req path mode n time) 37) hm ?_;change wpAnyH _ _ _ _ _ 15 _ _ (World.drew _);generalize World.drew _=wd at *
   have hS0:=(⟨hA.get (A:=Part.cells t (k2 p b.p) 87) sZ,hA.get (A:=Part.cells b3 (k8 kind num foot req path mode n time) 37) sZ⟩:(fun w'=>Zaa w' t (k2 p b.p) 87∧Zaa w' b3 (k8 kind num foot req path mode n time) 37) wd)
   refine tP 0 36 (.pointer (some ⟨t,0,none⟩)) (s:=hS0) (h:= ?_);(try go_frame);refine tP 1 37 (.pointer (some ⟨t,0,none⟩)) (s:=hS0) (h:= ?_);(try go_frame);refine tP 2 38 (.pointer (some ⟨t,0,none⟩)) (s:=hS0) (h:= ?_);(try go_frame);refine tZ 3 39 (.pointer (some ⟨p,0,none⟩)) (r:=(fun w' hS=>Zac (ty:=82) (b:=t) (j:=0) rfl (by exact rfl) hS.1 (by kernel_rfl) rfl)) (s:=hS0) (h:= ?_);(try go_frame);refine tP 4 40 (.pointer (some ⟨b3,1,none⟩)) (s:=hS0) (h:= ?_);(try go_frame);refine tZ 5 41 (.agg #[.int .u64 num,.string foot]) (r:=(fun w' hS=>Zae (ty:=35) (n:=2) (b:=b3) (j:=1) rfl (by exact rfl) hS.2 (by kernel_rfl) (by kernel_rfl) rfl rfl)) (s:=hS0) (h:= ?_);(try go_frame);refine tP 6 42 (.pointer (some ⟨b3,3,none⟩)) (s:=hS0) (h:= ?_);(try go_frame);refine tZ 7 43 (.int .u64 req) (r:=(fun w' hS=>Zac (ty:=22) (b:=b3) (j:=3) rfl (by exact rfl) hS.2 (by kernel_rfl) rfl)) (s:=hS0) (h:= ?_);(try go_frame);refine ZaF (i:=8) (j:=12) (by kernel_rfl) ?_ ?_
   · skip;refine cY 8 44 38 (fun u w'=>u=.tuple #[.agg #[.int .i64 0,.int .u64 0,.bool false],.bool false]∧At [Lease.BookP p m ss] _ [Lease.BookP p m ss] w') ((htd3.out _ (hA.sep1 (A:=Lease.BookP p m ss) sZ)).mono fun e w' ⟨he,hT⟩=>⟨_,he,rfl,hT⟩) ?_;rintro u w3 ⟨rfl,hT⟩;have hB:=hA.call1 (A:=Lease.BookP p m ss) sZ hT;clear hT;simp only[uA] at hB;refine andH ⟨hB.ci,hB.ci⟩ fun hS0=> ?_;replace hA:=hB;clear hB;(try go_frame);refine tP 9 35 (.tuple #[.agg #[.int .i64 0,.int .u64 0,.bool false],.bool false]) (s:=hS0) (h:= ?_);(try go_frame);refine tP 10 45 (.agg #[.int .i64 0,.int .u64 0,.bool false]) (s:=hS0) (h:= ?_);(try go_frame);refine tP 11 46 (.bool false) (s:=hS0) (h:= ?_);(try go_frame);refine Zab (i:=12) (by kernel_rfl) ?_;refine aZ 12 5 40 [.int .i64 0,.int .u64 0,.bool false] hA ?_;intro b5 w3 hB;refine andH ⟨hB.ci,hB.ci⟩ fun hS0=> ?_;replace hA:=hB;clear hB;(try go_frame);refine Zab (i:=13) (by kernel_rfl) ?_;refine stZ 13 b5 0 [.int .i64 0,.int .u64 0,.bool false] hA ?_;intro w3 hB;simp only[uA] at hB;refine andH ⟨hB.ci,hB.ci⟩ fun hS0=> ?_;replace hA:=hB;clear hB;(try go_frame);refine tP 14 6 (.bool false) (s:=hS0) (h:= ?_);(try go_frame);refine wpAnyH_done (by kernel_rfl) ?_ _;(try go_frame);clear hS0;obtain⟨hA,hF⟩:=fY hA;go_wp2_with fail;go_meet;case rel=>exact⟨b5,rfl,rfl,hA.pick pZ⟩
   skip;refine aZ 12 5 40 [.int .i64 0,.int .u64 0,.bool false] hA ?_;intro b5 w3 hB;refine andH ⟨hB.ci,hB.ci⟩ fun hS0=> ?_;replace hA:=hB;clear hB;(try go_frame);refine Zab (i:=8) (by kernel_rfl) ?_;refine cY 8 44 38 (fun u w'=>u=.tuple #[.agg #[.int .i64 0,.int .u64 0,.bool false],.bool false]∧At [Lease.BookP p m ss] _ [Lease.BookP p m ss] w') ((htd3.out _ (hA.sep1 (A:=Lease.BookP p m ss) sZ)).mono fun e w' ⟨he,hT⟩=>⟨_,he,rfl,hT⟩) ?_;rintro u w3 ⟨rfl,hT⟩;have hB:=hA.call1 (A:=Lease.BookP p m ss) sZ hT;clear hT;simp only[uA] at hB;refine andH ⟨hB.ci,hB.ci⟩ fun hS0=> ?_;replace hA:=hB;clear hB;(try go_frame);refine tP 9 35 (.tuple #[.agg #[.int .i64 0,.int .u64 0,.bool false],.bool false]) (s:=hS0) (h:= ?_);(try go_frame);refine tP 10 45 (.agg #[.int .i64 0,.int .u64 0,.bool false]) (s:=hS0) (h:= ?_);(try go_frame);refine tP 11 46 (.bool false) (s:=hS0) (h:= ?_);(try go_frame);refine Zab (i:=13) (by kernel_rfl) ?_;refine stZ 13 b5 0 [.int .i64 0,.int .u64 0,.bool false] hA ?_;intro w3 hB;simp only[uA] at hB;refine andH ⟨hB.ci,hB.ci⟩ fun hS0=> ?_;replace hA:=hB;clear hB;(try go_frame);refine tP 14 6 (.bool false) (s:=hS0) (h:= ?_);(try go_frame);refine wpAnyH_done (by kernel_rfl) ?_ _;(try go_frame);clear hS0;obtain⟨hA,hF⟩:=fY hA;go_wp2_with fail;go_meet;case rel=>exact⟨b5,rfl,rfl,hA.pick pZ⟩
  case rest=>
   obtain⟨b5,rfl,rfl,hB⟩:=hcut;replace hA:=hB;clear hF hB;obtain⟨hA,hF⟩:=fY hA;by_cases hfull:256≤(Lease.look ss num foot).told.length
   · have hz':=Hd (hap3'.out.trans (if_pos hfull));have hro:=Hd (fun(w1:World) (q:Sep [Lease.BookP p m ss] w1)=>Lease.Zki q h0 h1 hmf (Nat.not_lt.2 hfull));clear hap3' hfull;go_upto_region 8 with fail
     (try go_frame);replace hA:=hA.drew;clear hF;refine wp_region_held (S:=fun w'=>Zaa w' t (k2 p b.p) 87∧Zaa w' b3 (k8 kind num foot req path mode n time) 37) hm ?_;change wpAnyH _ _ _ _ _ 8 _ _ (World.drew _);generalize World.drew _=wd at *
     have hS0:=(⟨hA.get (A:=Part.cells t (k2 p b.p) 87) sZ,hA.get (A:=Part.cells b3 (k8 kind num foot req path mode n time) 37) sZ⟩:(fun w'=>Zaa w' t (k2 p b.p) 87∧Zaa w' b3 (k8 kind num foot req path mode n time) 37) wd)
     refine tP 0 49 (.pointer (some ⟨t,0,none⟩)) (s:=hS0) (h:= ?_);(try go_frame);refine tP 1 50 (.pointer (some ⟨t,0,none⟩)) (s:=hS0) (h:= ?_);(try go_frame);refine tP 2 51 (.pointer (some ⟨t,0,none⟩)) (s:=hS0) (h:= ?_);(try go_frame);refine tZ 3 52 (.pointer (some ⟨p,0,none⟩)) (r:=(fun w' hS=>Zac (ty:=82) (b:=t) (j:=0) rfl (by exact rfl) hS.1 (by kernel_rfl) rfl)) (s:=hS0) (h:= ?_);(try go_frame);refine tP 4 53 (.pointer (some ⟨b3,1,none⟩)) (s:=hS0) (h:= ?_);(try go_frame);refine tZ 5 54 (.agg #[.int .u64 num,.string foot]) (r:=(fun w' hS=>Zae (ty:=35) (n:=2) (b:=b3) (j:=1) rfl (by exact rfl) hS.2 (by kernel_rfl) (by kernel_rfl) rfl rfl)) (s:=hS0) (h:= ?_);(try go_frame);refine Zab (i:=6) (by kernel_rfl) ?_;refine cY 6 55 39 (fun u w'=>u=.bool false∧At [Lease.BookP p m ss] _ [Lease.BookP p m ss] w') ((hro.out _ (hA.sep1 (A:=Lease.BookP p m ss) sZ)).mono fun e w' ⟨he,hT⟩=>⟨_,he,rfl,hT⟩) ?_;rintro u w3 ⟨rfl,hT⟩;have hB:=hA.call1 (A:=Lease.BookP p m ss) sZ hT;clear hT;simp only[uA] at hB;refine andH ⟨hB.ci,hB.ci⟩ fun hS0=> ?_;replace hA:=hB;clear hB;(try go_frame);refine tP 7 56 (.bool true) (s:=hS0) (h:= ?_);(try go_frame);refine wpAnyH_done (by kernel_rfl) ?_ _;(try go_frame);clear hS0;obtain⟨hA,hF⟩:=fY hA;go_wp2_with fail;refine(ZaE _ _).mono ?_;rintro e w1 ⟨rfl,hx⟩;replace hA:=hA.ext hx;clear hx hF;obtain⟨hA,hF⟩:=fY hA
     go_wp2_with ((with_reducible refine gst ?_);refine wTy hA ?_;clear hF hA;intro w1 hA hF)
     refine bodyPost_ret (v:=ansV 14 0 false) (by simp[results,Tryz.results24,go_sem,hF]) rfl ?_;rw[hz'.out];exact⟨ss,b,rfl,hR'.out,ZaC (hA.pick pZ)⟩
   have hap4:=hap3'.out.trans (if_neg hfull);have hro:=Hd (fun(w1:World) (q:Sep [Lease.BookP p m ss] w1)=>Lease.Zf6 q h0 h1 hmf (Nat.lt_of_not_le hfull));have hz':=Hd hap4;clear hap3' hap4 hfull;go_upto_region 8 with fail
   (try go_frame);replace hA:=hA.drew;clear hF;refine wp_region_held (S:=fun w'=>Zaa w' t (k2 p b.p) 87∧Zaa w' b3 (k8 kind num foot req path mode n time) 37) hm ?_;change wpAnyH _ _ _ _ _ 8 _ _ (World.drew _);generalize World.drew _=wd at *
   have hS0:=(⟨hA.get (A:=Part.cells t (k2 p b.p) 87) sZ,hA.get (A:=Part.cells b3 (k8 kind num foot req path mode n time) 37) sZ⟩:(fun w'=>Zaa w' t (k2 p b.p) 87∧Zaa w' b3 (k8 kind num foot req path mode n time) 37) wd)
   refine tP 0 49 (.pointer (some ⟨t,0,none⟩)) (s:=hS0) (h:= ?_);(try go_frame);refine tP 1 50 (.pointer (some ⟨t,0,none⟩)) (s:=hS0) (h:= ?_);(try go_frame);refine tP 2 51 (.pointer (some ⟨t,0,none⟩)) (s:=hS0) (h:= ?_);(try go_frame);refine tZ 3 52 (.pointer (some ⟨p,0,none⟩)) (r:=(fun w' hS=>Zac (ty:=82) (b:=t) (j:=0) rfl (by exact rfl) hS.1 (by kernel_rfl) rfl)) (s:=hS0) (h:= ?_);(try go_frame);refine tP 4 53 (.pointer (some ⟨b3,1,none⟩)) (s:=hS0) (h:= ?_);(try go_frame);refine tZ 5 54 (.agg #[.int .u64 num,.string foot]) (r:=(fun w' hS=>Zae (ty:=35) (n:=2) (b:=b3) (j:=1) rfl (by exact rfl) hS.2 (by kernel_rfl) (by kernel_rfl) rfl rfl)) (s:=hS0) (h:= ?_);(try go_frame);refine Zab (i:=6) (by kernel_rfl) ?_;refine cY 6 55 39 (fun u w'=>u=.bool true∧At [Lease.BookP p m ss] _ [Lease.BookP p m ss] w') ((hro.out _ (hA.sep1 (A:=Lease.BookP p m ss) sZ)).mono fun e w' ⟨he,hT⟩=>⟨_,he,rfl,hT⟩) ?_;rintro u w3 ⟨rfl,hT⟩;have hB:=hA.call1 (A:=Lease.BookP p m ss) sZ hT;clear hT;simp only[uA] at hB;refine andH ⟨hB.ci,hB.ci⟩ fun hS0=> ?_;replace hA:=hB;clear hB;(try go_frame);refine tP 7 56 (.bool false) (s:=hS0) (h:= ?_);(try go_frame);refine wpAnyH_done (by kernel_rfl) ?_ _;(try go_frame);clear hS0;obtain⟨hA,hF⟩:=fY hA;replace hA:=Zdd hA sZ sZ sZ;clear hF;obtain⟨hA,hF⟩:=fY hA;go_wp2_with fail;refine(do_any (hA.sep1 (A:=TabP t p m ss b) sZ) kind num foot req path mode n time hR'.out hI'.out (by omega) h0 h1 hf hp hok'.out hn1).mono ?_;rintro e w1 ⟨ss1,b1,rfl,hr2,hT⟩;replace hA:=hA.call1 (A:=TabP t p m ss b) sZ hT;clear hT hF;obtain⟨hA,hF⟩:=fY hA
   obtain⟨⟨le,ln,lg⟩,hla⟩:∃z,(doT T ⟨kind,num,foot,req,path,mode,n,time⟩).2=z:=⟨_,rfl⟩
   rw[hla];simp only[Lease.Ans.val];have hi1:=Zm4 hI'.out hc'.out;have hkn2:=Hd (hr2.kn hi1)
   obtain⟨te,hte⟩:∃z,Lease.tellE (lookA (doT T ⟨kind,num,foot,req,path,mode,n,time⟩).1.S num foot) req=z:=⟨_,rfl⟩
   have hte2:Lease.tellE (Lease.look ss1 num foot) req=te:=by rw[←hte,hr2.look];rfl
   have htl:=fun(w1:World) (q:Sep [Lease.BookP p m ss1] w1)=>Lease.Zly q h0 h1 hmf hq0 hq1 ⟨le,ln,lg⟩;simp only[hte2] at htl;have htl3:=Hd htl;have hla':=Hd hla;have hte':=Hd hte;have hr2':=Hd hr2;clear htl hla hte hte2 hr2 hi1;obtain⟨hA,hF⟩:=fY hA;replace hA:=ZbC hA sZ;clear hF;obtain⟨hA,hF⟩:=fY hA
   go_upto_region 11 with(first|((with_reducible refine gal ?_);refine g1 hA ?_;clear hF hA;intro b7 w1 hA hb7 hF)|((with_reducible refine gst ?_);refine wTy hA ?_;clear hF hA;intro w1 hA hF))
   (try go_frame);replace hA:=hA.drew;clear hF;refine wp_region_held (S:=fun w'=>Zaa w' t [.pointer (some ⟨p,0,none⟩),.pointer (some ⟨b1.p,0,none⟩)] 87∧Zaa w' b3 (k8 kind num foot req path mode n time) 37∧Zaa w' b7 [.int .i64 le,.int .u64 ln,.bool lg] 40) hm ?_;change wpAnyH _ _ _ _ _ 10 _ _ (World.drew _);generalize World.drew _=wd at *
   have hS0:=(⟨hA.get (A:=Part.cells t [.pointer (some ⟨p,0,none⟩),.pointer (some ⟨b1.p,0,none⟩)] 87) sZ,hA.get (A:=Part.cells b3 (k8 kind num foot req path mode n time) 37) sZ,hA.get (A:=Part.cells b7 [.int .i64 le,.int .u64 ln,.bool lg] 40) sZ⟩:(fun w'=>Zaa w' t [.pointer (some ⟨p,0,none⟩),.pointer (some ⟨b1.p,0,none⟩)] 87∧Zaa w' b3 (k8 kind num foot req path mode n time) 37∧Zaa w' b7 [.int .i64 le,.int .u64 ln,.bool lg] 40) wd)
   refine tP 0 61 (.pointer (some ⟨t,0,none⟩)) (s:=hS0) (h:= ?_);(try go_frame);refine tP 1 62 (.pointer (some ⟨t,0,none⟩)) (s:=hS0) (h:= ?_);(try go_frame);refine tP 2 63 (.pointer (some ⟨t,0,none⟩)) (s:=hS0) (h:= ?_);(try go_frame);refine tZ 3 64 (.pointer (some ⟨p,0,none⟩)) (r:=(fun w' hS=>Zac (ty:=82) (b:=t) (j:=0) rfl (by exact rfl) hS.1 (by kernel_rfl) rfl)) (s:=hS0) (h:= ?_);(try go_frame);refine tP 4 65 (.pointer (some ⟨b3,1,none⟩)) (s:=hS0) (h:= ?_);(try go_frame);refine tZ 5 66 (.agg #[.int .u64 num,.string foot]) (r:=(fun w' hS=>Zae (ty:=35) (n:=2) (b:=b3) (j:=1) rfl (by exact rfl) hS.2.1 (by kernel_rfl) (by kernel_rfl) rfl rfl)) (s:=hS0) (h:= ?_);(try go_frame);refine tP 6 67 (.pointer (some ⟨b3,3,none⟩)) (s:=hS0) (h:= ?_);(try go_frame);refine tZ 7 68 (.int .u64 req) (r:=(fun w' hS=>Zac (ty:=22) (b:=b3) (j:=3) rfl (by exact rfl) hS.2.1 (by kernel_rfl) rfl)) (s:=hS0) (h:= ?_);(try go_frame);refine tZ 8 69 (.agg #[.int .i64 le,.int .u64 ln,.bool lg]) (r:=(fun w' hS=>Zae (ty:=40) (n:=3) (b:=b7) (j:=0) rfl (by exact rfl) hS.2.2 (by kernel_rfl) (by kernel_rfl) rfl rfl)) (s:=hS0) (h:= ?_);(try go_frame);refine Zab (i:=9) (by kernel_rfl) ?_;refine cY 9 70 42 (fun u w'=>∃ss2,u=.tuple #[]∧At [Lease.BookP p m ss1] _ [Lease.BookP p m ss2] w'∧(te≠0∧ss2=ss1∨te=0∧Zbx ss1 num foot (fun s=>s.tell req ⟨le,ln,lg⟩) ss2)) ((htl3.out _ (hA.sep1 (A:=Lease.BookP p m ss1) sZ)).mono fun e w' ⟨ss2,he,hT,hq⟩=>⟨_,he,ss2,rfl,hT,hq⟩) ?_;rintro u w3 ⟨ss2,rfl,hT,hq⟩;have hq':=Hd hq;have hB:=hA.call1 (A:=Lease.BookP p m ss1) sZ hT;clear hT hq;simp only[uA] at hB;refine andH ⟨hB.ci,hB.ci,hB.ci⟩ fun hS0=> ?_;replace hA:=hB;clear hB;(try go_frame);refine wpAnyH_done (by kernel_rfl) ?_ _;(try go_frame);clear hS0;obtain⟨hA,hF⟩:=fY hA
   go_wp2_with ((with_reducible refine gst ?_);refine wTy hA ?_;clear hF hA;intro w1 hA hF)
   refine bodyPost_ret (v:=ansV le ln lg) (by simp[results,Tryz.results24,go_sem,hF]) rfl ?_;rw[hz'.out]
   exact⟨ss2,b1,(by
    show Ending.returned (ansV le ln lg)=Ending.returned (doT T ⟨kind,num,foot,req,path,mode,n,time⟩).2.val;rw[hla'.out]
    rfl),by
    show TRel ss2 b1 (opT (doT T ⟨kind,num,foot,req,path,mode,n,time⟩).1 ⟨kind,num,foot,req,path,mode,n,time⟩ (fun s=>s.tell req (doT T ⟨kind,num,foot,req,path,mode,n,time⟩).2) (Lease.tellE (lookA (doT T ⟨kind,num,foot,req,path,mode,n,time⟩).1.S num foot) req));rw[hla'.out,hte'.out]
    exact ZkC (c:=⟨kind,num,foot,req,path,mode,n,time⟩) hr2'.out hkn2.out (fun s=>rfl) hq'.out,(Zdd (ss:=ss2) hA sZ sZ sZ).pick pZ⟩
theorem ZlD {w:World} {t p m:Nat} {ss:List Ses} {b:Lock.Bk} (h:Sep [TabP t p m ss b] w) (kind num:Int) (foot:ByteArray) (req:Int) (path:ByteArray) (mode n time:Int) {T:TS} (hR:TRel ss b T) {k:Nat} (hI:TInv T k) (hk:k≤100000) (hc:CmOk ⟨kind,num,foot,req,path,mode,n,time⟩) (hq0:0≤req) (hq1:req < Lease.big64) (hn0:0≤n):
 Calls Tryz.prog 24 #[.pointer (some ⟨t,0,none⟩),.agg #[.int .i64 kind,.int .u64 num,.string foot,.int .u64 req,.string path,.int .i64 mode,.int .u64 n,.int .i64 time]] w (TPost t p m ss b w (Zap T ⟨kind,num,foot,req,path,mode,n,time⟩).1 (Zap T ⟨kind,num,foot,req,path,mode,n,time⟩).2):=
 Znh h kind num foot req path mode n time hR hI.s (by omega) (LkOk.of (k:=k) (by rw[hR.L];exact hI.lock) (by omega)) hc hq0 hq1 hn0
end Tab
end
section
namespace Tab
open Go.RowKit
open Path (bl Zag overB ZaB)
open Lease (Ses Ans fresh Zbx)
open Lock (S3 Ent)
open Cmd (Cm Zar)
attribute [-go_sem] run_eql_struct run_neq_struct run_eqGuard_agg
def NewP (first:Int) (R:Part) (w:World) (e:Ending) (w':World):Prop:=∃t p m b,e=.returned (.pointer (some ⟨t,0,none⟩))∧TRel [] b ⟨[],⟨first,[],[]⟩⟩∧At [R] w [TabP t p m [] b,R] w'
theorem new_any {w:World} {R:Part} (h:Sep [R] w) (first:Int):Calls Tryz.prog 21 #[.int .u64 first] w (NewP first R w):=by
 have hA:=At.start h;clear h;obtain⟨hA,hF⟩:=fZ hA;go_enter Tryz.func21,Tryz.ntmps21;go_wp2_with fail;refine(Lease.new_any _).mono ?_;rintro e w1 ⟨p,m,rfl,hT⟩;replace hA:=hA.call0 hT;clear hT hF;obtain⟨hA,hF⟩:=fZ hA;go_wp2_with fail;refine(Lock.new_any _ first).mono ?_;rintro e w1 ⟨b,rfl,e1,e2,e3,hT⟩;replace hA:=hA.call0 hT;clear hT hF;obtain⟨hA,hF⟩:=fZ hA
 go_wp2_with ((with_reducible refine gbx ?_);refine wHz 87 [.pointer (some ⟨p,0,none⟩),.pointer (some ⟨b.p,0,none⟩)] hA ?_;clear hF hA;intro bt w1 hA hbt hF)
 go_ret;refine⟨bt,p,m,b,rfl,⟨rfl,?_⟩,(Zdd (ss:=[]) hA sZ sZ sZ).pick pZ⟩;unfold Lock.Bk.st;rw[e1,e2,e3]
structure CmIn (c:Cm):Prop where
 ok:CmOk c
 r0:0≤c.req
 r1:c.req < Lease.big64
 n0:0≤c.n
end Tab
end
section
namespace Gr
open _root_.Go.Proofs.YtbeckijoabapkaaGreatDoor.Tab (TS TRel TabP NewP)
open Go.RowKit
open Go.Maps (Keyed)
open Attr (A8 Zaz)
open Cmd (Cm)
attribute [-go_sem] run_eql_struct run_neq_struct run_eqGuard_agg Instr.build
def entC (cmd:I2→Cm) (x:I2):Value × Value:=(idV x,(cmd x).val)
def entsC (cmd:I2→Cm) (K:List I2):List (Value × Value):=K.map (entC cmd)
theorem ZfI {cmd:I2→Cm} {K:List I2} {x:I2} (h:x ∉ K):∀q ∈ entsC cmd K,q.1≠idV x:=by
 intro q hq e;obtain⟨y,hy,rfl⟩:=List.mem_map.1 hq;rw[idV_inj e] at hy;exact h hy
theorem ZdQ {cmd:I2→Cm} {K:List I2} {x:I2} (h:x ∈ K):(idV x,(cmd x).val) ∈ entsC cmd K:=List.mem_map.2 ⟨x,h,rfl⟩
theorem Zh1 {cmd:I2→Cm} {K:List I2} {x:I2} (h:x ∈ K):∃l1 l2,entsC cmd K=l1++(idV x,(cmd x).val)::l2:=List.append_of_mem (ZdQ h)
abbrev AnI:=I2 × Lease.Ans
def Zc2 (cmd:I2→Cm) (p:AnI):List Value:=[.int .i64 p.1.1,.int .i64 p.1.2,.int .i64 (cmd p.1).kind,.int .u64 (cmd p.1).num,.string (cmd p.1).foot,.int .u64 (cmd p.1).req,.string (cmd p.1).path,.int .i64 (cmd p.1).mode,.int .u64 (cmd p.1).n,.int .i64 (cmd p.1).time,.int .i64 p.2.e,.int .u64 p.2.n,.bool p.2.g]
theorem Zc1 (cmd:I2→Cm) (p:AnI):(Zc2 cmd p).length=13:=rfl
theorem Ze2 (cmd:I2→Cm) (p:AnI):∀u ∈ Zc2 cmd p,u.oneCell'=true:=by
 intro u hu;simp only[Zc2,List.mem_cons,List.not_mem_nil,or_false] at hu;rcases hu with rfl|rfl|rfl|rfl|rfl|rfl|rfl|rfl|rfl|rfl|rfl|rfl|rfl<;>rfl
def Zba (cmd:I2→Cm) (H:List AnI):List Value:=H.flatMap (Zc2 cmd)
theorem ZfD (cmd:I2→Cm) (H:List AnI):(Zba cmd H).length=H.length * 13:=Zbl _ _ (Zc1 cmd) _
theorem ZfC (cmd:I2→Cm) (H:List AnI):∀u ∈ Zba cmd H,u.oneCell'=true:=ZmT (Ze2 cmd) _
abbrev rowDn (cmd:I2→Cm) (v:Value) (H:List AnI):Part:=Part.row 42 13 v H.length (Zba cmd H)
theorem Zkg (cmd:I2→Cm) (v:Value) (H G:List AnI):Part.row 42 13 v (H.length + G.length) (Zba cmd H++Zba cmd G)=rowDn cmd v (H++G):=by
 unfold rowDn;rw[List.length_append];simp[Zba]
theorem Zje (cmd:I2→Cm) (v:Value) (H:List AnI) (p:AnI):Part.row 42 13 v (H.length + 1) (Zba cmd H++Zc2 cmd p)=rowDn cmd v (H++[p]):=by
 unfold rowDn;rw[List.length_append];simp[Zba]
structure Xb where
 p:Nat
 gp:Nat
 gm:Nat
 cm:Nat
 t:Nat
 tp:Nat
 tm:Nat
abbrev headX (X:Xb) (f kn:F7) (hv:Value):Part:=Part.cells X.p [.pointer (some ⟨X.gp,0,none⟩),.int .i64 f.f0,.int .i64 f.f1,.int .i64 f.f2,.int .i64 f.f3,.int .i64 f.f4,.int .i64 f.f5,.int .i64 f.f6,.int .i64 kn.f0,.int .i64 kn.f1,.int .i64 kn.f2,.int .i64 kn.f3,.int .i64 kn.f4,.int .i64 kn.f5,.int .i64 kn.f6,.map (some X.cm),.pointer (some ⟨X.t,0,none⟩),hv] 66
def ExP (cmd:I2→Cm) (X:Xb) (f kn:F7) (es:List (I2 × A8)) (K:List I2) (ss:List Lease.Ses) (b:Lock.Bk) (hv:Value) (H:List AnI):Part:=
 Part.all [headX X f kn hv,GrP X.gp X.gm es,mapC X.cm (entsC cmd K),TabP X.t X.tp X.tm ss b,rowDn cmd hv H]
theorem ZnG (cmd:I2→Cm) (X:Xb) (f kn:F7) (es:List (I2 × A8)) (K:List I2) (ss:List Lease.Ses) (b:Lock.Bk) (hv:Value) (H:List AnI) (F:List Part):
 Eqv (ExP cmd X f kn es K ss b hv H::F) (headX X f kn hv::GrP X.gp X.gm es::mapC X.cm (entsC cmd K)::TabP X.t X.tp X.tm ss b::rowDn cmd hv H::F):=Eqv.all [headX X f kn hv,GrP X.gp X.gm es,mapC X.cm (entsC cmd K),TabP X.t X.tp X.tm ss b,rowDn cmd hv H] F
theorem Zd9 {cmd:I2→Cm} {X:Xb} {f kn:F7} {es:List (I2 × A8)} {K:List I2} {ss:List Lease.Ses} {b:Lock.Bk} {hv:Value} {H:List AnI} {w:World} (h:Sep [ExP cmd X f kn es K ss b hv H] w):
 At [ExP cmd X f kn es K ss b hv H] w [headX X f kn hv,GrP X.gp X.gm es,mapC X.cm (entsC cmd K),TabP X.t X.tp X.tm ss b,rowDn cmd hv H] w:=(At.start h).to (ZnG cmd X f kn es K ss b hv H [])
theorem ZdA {cmd:I2→Cm} {X:Xb} {f kn:F7} {es:List (I2 × A8)} {K:List I2} {ss:List Lease.Ses} {b:Lock.Bk} {hv:Value} {H:List AnI} {F L0:List Part} {w0 w:World}
 (h:At L0 w0 (headX X f kn hv::GrP X.gp X.gm es::mapC X.cm (entsC cmd K)::TabP X.t X.tp X.tm ss b::rowDn cmd hv H::F) w):At L0 w0 (ExP cmd X f kn es K ss b hv H::F) w:=h.to (ZnG cmd X f kn es K ss b hv H F).symm
def NewX (cmd:I2→Cm) (first:Int) (R:Part) (w:World) (e:Ending) (w':World):Prop:=
 ∃(X:Xb) (b:Lock.Bk),e=.returned (.pointer (some ⟨X.p,0,none⟩))∧TRel [] b ⟨[],⟨first,[],[]⟩⟩∧At [R] w [ExP cmd X f0F f0F [] [] [] b (.slice none 0 0) [],R] w'
theorem ZoG (gp cm t:Nat):Tryz.prog.built 66 [(0,.pointer (some ⟨gp,0,none⟩)),(3,.map (some cm)),(4,.pointer (some ⟨t,0,none⟩))]=some #[.pointer (some ⟨gp,0,none⟩),.int .i64 0,.int .i64 0,.int .i64 0,.int .i64 0,.int .i64 0,.int .i64 0,.int .i64 0,.int .i64 0,.int .i64 0,.int .i64 0,.int .i64 0,.int .i64 0,.int .i64 0,.int .i64 0,.map (some cm),.pointer (some ⟨t,0,none⟩),.slice none 0 0]:=by
 kernel_rfl
theorem ZiE (cmd:I2→Cm) {w:World} {R:Part} (h:Sep [R] w) (first:Int):Calls Tryz.prog 10 #[.int .u64 first] w (NewX cmd first R w):=by
 have hA:=At.start h;clear h;obtain⟨hA,hF⟩:=fZ hA;go_enter Tryz.func10,Tryz.ntmps10;go_wp2_with fail;refine(new_any _).mono ?_;rintro e w1 ⟨gp,gm,rfl,hT⟩;replace hA:=hA.call0 hT;clear hT hF;obtain⟨hA,hF⟩:=fZ hA
 go_wp2_with (refine Zav Tryz.prog 33 rfl rfl hA ?_;intro cm w1 hB hm;replace hA:=hB;clear hF hB;obtain⟨hA,hF⟩:=fZ hA)
 refine(Tab.new_any (hA.sep1 (A:=R) sZ) first).mono ?_;rintro e w1 ⟨t,tp,tm,b,rfl,hR0,hT⟩;replace hA:=hA.call1 (A:=R) sZ hT;clear hT hF;obtain⟨hA,hF⟩:=fZ hA;have hbl:=fun w=>run_build w _ #[(0,.pointer (some ⟨gp,0,none⟩)),(3,.map (some cm)),(4,.pointer (some ⟨t,0,none⟩))] _ (ZoG gp cm t)
 go_wp2_with ((with_reducible refine gbx ?_);refine wHz 66 [.pointer (some ⟨gp,0,none⟩),.int .i64 0,.int .i64 0,.int .i64 0,.int .i64 0,.int .i64 0,.int .i64 0,.int .i64 0,.int .i64 0,.int .i64 0,.int .i64 0,.int .i64 0,.int .i64 0,.int .i64 0,.int .i64 0,.map (some cm),.pointer (some ⟨t,0,none⟩),.slice none 0 0] hA ?_;clear hF hA;intro p w1 hA hp hF)
 go_ret;have hB:=hA.row_nil 42 13;exact⟨⟨p,gp,gm,cm,t,tp,tm⟩,b,rfl,hR0,ZdA (cmd:=cmd) (X:=⟨p,gp,gm,cm,t,tp,tm⟩) (f:=f0F) (kn:=f0F) (es:=[]) (K:=[]) (H:=[]) (hB.pick pZ)⟩
theorem ZgD (x:I2) (c:Cm) (a:A8) (w:World):Calls Tryz.prog 12 #[idV x,c.val,a.val] w fun e w'=>e=.returned (In.val ⟨x,3,0,0,false,c,a⟩)∧Ext w w':=by
 have hA:At [] w [] w:=At.start (L0:=[]) trivial;have hF:=hA.facts;obtain⟨r,t⟩:=x;obtain⟨kind,num,foot,req,path,mode,n,time⟩:=c;obtain⟨s,d0,d1,d2,d3,d4,d5,d6⟩:=a;simp only[idV,Cm.val,A8.val,In.val] at *
 obtain⟨hA,hF⟩:=fZ hA;have hbl:=fun w=>run_build w _ #[(0,.agg #[.int .i64 r,.int .i64 t]),(1,.int .i64 3),(5,.agg #[.int .i64 kind,.int .u64 num,.string foot,.int .u64 req,.string path,.int .i64 mode,.int .u64 n,.int .i64 time]),(6,.agg #[.int .i64 s,.int .i64 d0,.int .i64 d1,.int .i64 d2,.int .i64 d3,.int .i64 d4,.int .i64 d5,.int .i64 d6])] _ (ZoE r t kind num foot req path mode n time s d0 d1 d2 d3 d4 d5 d6);go_enter Tryz.func12,Tryz.ntmps12
 go_wp2_with (first|((with_reducible refine gbx ?_);refine wHz 33 [.int .i64 r,.int .i64 t] hA ?_;clear hF hA;intro bI w1 hA hbI hF)|((with_reducible refine gbx ?_);refine wHz 37 [.int .i64 kind,.int .u64 num,.string foot,.int .u64 req,.string path,.int .i64 mode,.int .u64 n,.int .i64 time] hA ?_;clear hF hA;intro bC w1 hA hbC hF)|((with_reducible refine gbx ?_);refine wHz 51 [.int .i64 s,.int .i64 d0,.int .i64 d1,.int .i64 d2,.int .i64 d3,.int .i64 d4,.int .i64 d5,.int .i64 d6] hA ?_;clear hF hA;intro bA w1 hA hbA hF)|((with_reducible refine gal ?_);refine g8 hA ?_;clear hF hA;intro bR w1 hA hbR hF)|((with_reducible refine gst ?_);refine wTz hA ?_;clear hF hA;intro w1 hA hF))
 refine bodyPost_ret (v:=.agg #[.int .i64 r,.int .i64 t,.int .i64 3,.int .u32 0,.int .u32 0,.bool false,.int .i64 kind,.int .u64 num,.string foot,.int .u64 req,.string path,.int .i64 mode,.int .u64 n,.int .i64 time,.int .i64 s,.int .i64 d0,.int .i64 d1,.int .i64 d2,.int .i64 d3,.int .i64 d4,.int .i64 d5,.int .i64 d6]) (results_cell_row rfl _ _ bR 53 #[.int .i64 r,.int .i64 t,.int .i64 3,.int .u32 0,.int .u32 0,.bool false,.int .i64 kind,.int .u64 num,.string foot,.int .u64 req,.string path,.int .i64 mode,.int .u64 n,.int .i64 time,.int .i64 s,.int .i64 d0,.int .i64 d1,.int .i64 d2,.int .i64 d3,.int .i64 d4,.int .i64 d5,.int .i64 d6] (0,0) _ rfl (hA.get (A:=Part.cells bR [.int .i64 r,.int .i64 t,.int .i64 3,.int .u32 0,.int .u32 0,.bool false,.int .i64 kind,.int .u64 num,.string foot,.int .u64 req,.string path,.int .i64 mode,.int .u64 n,.int .i64 time,.int .i64 s,.int .i64 d0,.int .i64 d1,.int .i64 d2,.int .i64 d3,.int .i64 d4,.int .i64 d5,.int .i64 d6] 53) sZ) Tryz.underlying53 rfl (by kernel_rfl)) rfl ⟨rfl,hA.toExt⟩
theorem ZnC:(Tryz.prog.info? 42).map (fun i=>(i.zero,i.size,i.bytes))=some (some (.agg #[.int .i64 0,.int .i64 0,.int .i64 0,.int .u64 0,.string .empty,.int .u64 0,.string .empty,.int .i64 0,.int .u64 0,.int .i64 0,.int .i64 0,.int .u64 0,.bool false]),13,120):=by kernel_rfl
end Gr
end
end Go.Proofs.YtbeckijoabapkaaGreatDoor
