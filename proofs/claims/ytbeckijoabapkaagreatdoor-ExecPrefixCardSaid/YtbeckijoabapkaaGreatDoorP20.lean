import Derived.Test.YtbeckijoabapkaaGreatDoorP19
set_option linter.unusedSimpArgs false
set_option linter.unusedVariables false
set_option maxRecDepth 100000
set_option maxHeartbeats 16000000
namespace Go.Proofs.YtbeckijoabapkaaGreatDoor
section
namespace Tab
open Go.RowKit
open Path (bl Zag overB ZaB)
open Lease (Ses Ans fresh Zbx)
open Lock (S3 Ent)
open Cmd (Cm Zar)
attribute [-go_sem] run_eql_struct run_neq_struct run_eqGuard_agg
abbrev ansV (e n:Int) (g:Bool):Value:=.agg #[.int .i64 e,.int .u64 n,.bool g]
theorem ZaE (e:Int) (w:World):Calls Tryz.prog 40 #[.int .i64 e] w fun r w'=>r=.returned (ansV e 0 false)∧Ext w w':=by
 have hA:At [] w [] w:=At.start (L0:=[]) trivial;obtain⟨hA,hF⟩:=fY hA;go_enter Tryz.func40,Tryz.ntmps40
 go_wp2_with (first|((with_reducible refine gal ?_);refine g1 hA ?_;clear hF hA;intro b2 w1 hA hb2 hF)|((with_reducible refine gst ?_);refine wTy hA ?_;clear hF hA;intro w1 hA hF))
 exact bodyPost_ret (v:=ansV e 0 false) (by simp[results,Tryz.results40,go_sem,hF]) rfl ⟨rfl,hA.toExt⟩
theorem ZbC {L0 L F:List Part} {w0 w:World} {t p m:Nat} {ss:List Ses} {b:Lock.Bk} (h:At L0 w0 L w) (s:Sel (TabP t p m ss b) L F):At L0 w0 (headT t p b.p::Lease.BookP p m ss::Lock.BookP b::F) w:=(h.take s).to (Zf3 t p m ss b F)
theorem Zdd {L0 L F G H:List Part} {w0 w:World} {t p m:Nat} {ss:List Ses} {b:Lock.Bk} (h:At L0 w0 L w) (s1:Sel (headT t p b.p) L F) (s2:Sel (Lease.BookP p m ss) F G) (s3:Sel (Lock.BookP b) G H):At L0 w0 (TabP t p m ss b::H) w:=
 (h.perm (s1.perm.trans ((s2.perm.trans (s3.perm.cons _)).cons _))).to (Zf3 t p m ss b H).symm
structure LkOk (b:Lock.Bk):Prop where
 len:b.es.length≤1000000000
 ctr:∀q,0≤Lock.Zat b.first b.cs q
 path:∀x ∈ b.es,x.path.size≤1000
 stamp:∀x ∈ b.es,x.stamp≤1000000000
 num:∀x ∈ b.es,0≤x.num∧x.num < Lock.big64
 foot:∀x ∈ b.es,x.foot.size≤maxLen
 chk:∀p n,(∀e ∈ b.es,e.path=p→e.n=n→Lock.Za7 b.es e=Zbu b.es p n)∧((∀e ∈ b.es,¬(e.path=p∧e.n=n))→Zbu b.es p n=false)
theorem ZjM {es:List Ent} (hn:∀a ∈ es,∀b ∈ es,a.path=b.path→a.n=b.n→a=b) (p:ByteArray) (n:Int):(∀e ∈ es,e.path=p→e.n=n→Lock.Za7 es e=Zbu es p n)∧((∀e ∈ es,¬(e.path=p∧e.n=n))→Zbu es p n=false):=by
 unfold Zbu;refine⟨fun e he e1 e2=> ?_,fun h=> ?_⟩
 · cases hc:Lock.Za7 es e with
   |true=>
    symm
    rw[List.any_eq_true];exact⟨e,he,by rw[hc,decide_eq_true ⟨e1,e2⟩];rfl⟩
   |false=>
    symm
    rw[List.any_eq_false];intro x hx q;obtain⟨q1,q2⟩:=Bool.and_eq_true_iff.1 q;have q1:=of_decide_eq_true q1;have:=hn x hx e he (q1.1.trans e1.symm) (q1.2.trans e2.symm);rw[this,hc] at q2;cases q2
 rw[List.any_eq_false];intro x hx q;exact h x hx (of_decide_eq_true (Bool.and_eq_true_iff.1 q).1)
theorem ZkH {es:List Ent} (h:es.Pairwise (fun a b=>a.path=b.path→a.n < b.n)):∀a ∈ es,∀b ∈ es,a.path=b.path→a.n=b.n→a=b:=by
 intro a ha b hb e1 e2;obtain⟨i,hi⟩:=List.mem_iff_getElem?.1 ha;obtain⟨j,hj⟩:=List.mem_iff_getElem?.1 hb;obtain⟨hi1,hi2⟩:=List.getElem?_eq_some_iff.1 hi;obtain⟨hj1,hj2⟩:=List.getElem?_eq_some_iff.1 hj;have hp:=List.pairwise_iff_getElem.1 h;rcases Nat.lt_trichotomy i j with q|q|q
 · have:=hp i j hi1 hj1 q
   rw[hi2,hj2] at this;have:=this e1;omega
 · subst q;rw[hi] at hj;exact Option.some.inj hj
 have:=hp j i hj1 hi1 q
 rw[hi2,hj2] at this;have:=this e1.symm;omega
theorem LkOk.of {b:Lock.Bk} {k:Nat} (h:Lock.Inv b.st k) (hk:k≤1000000):LkOk b:=
 ⟨by have:=h.len;simp only[Lock.Bk.st] at this;omega,fun q=>by have:=Lock.ZfL h q;have:=h.first0;simp only[Lock.Bk.st] at *;omega,fun x hx=>Nat.le_trans (h.path x hx) (by omega),fun x hx=>by have:=h.stamp1 x hx;omega,fun x hx=>⟨h.num0 x hx,h.num1 x hx⟩,fun x hx=>h.foot x hx,ZjM (ZkH (es:=b.es) h.nums)⟩
section
variable {w:World} {t p m:Nat} {ss:List Ses} {b:Lock.Bk} (h:Sep [TabP t p m ss b] w)
include h
theorem Zhn (num:Int) (foot:ByteArray) (e:Int) (hok:LkOk b):
 Calls Tryz.prog 36 #[.pointer (some ⟨t,0,none⟩),.agg #[.int .u64 num,.string foot],.int .i64 e] w fun r w'=>r=.returned (ansV e 0 false)∧At [TabP t p m ss b] w [TabP t p m ss (if e=0 then b.with (b.st.dropAll num foot) else b)] w':=by
 have hm:Tryz.prog.follows .mixedOrders=true:=by kernel_rfl
 have hok':=Hd hok;clear hok;by_cases he:e=0
 · subst he;rw[if_pos rfl];have hA:=Zci h;clear h;obtain⟨hA,hF⟩:=fY hA;go_enter Tryz.func36,Tryz.ntmps36
   go_upto_region 2 with(first|((with_reducible refine gbx ?_);refine wHy 35 [.int .u64 num,.string foot] hA ?_;clear hF hA;intro b4 w1 hA hb4 hF)|((with_reducible refine gal ?_);refine g1 hA ?_;clear hF hA;intro b6 w1 hA hb6 hF))
   (try go_frame);replace hA:=hA.drew;clear hF;refine wp_region_held (S:=fun w'=>Zaa w' t (k2 p b.p) 87∧Zaa w' b4 [.int .u64 num,.string foot] 35) hm ?_;change wpAnyH _ _ _ _ _ 6 _ _ (World.drew _);generalize World.drew _=wd at *
   have hS0:=(⟨hA.get (A:=Part.cells t (k2 p b.p) 87) sZ,hA.get (A:=Part.cells b4 [.int .u64 num,.string foot] 35) sZ⟩:(fun w'=>Zaa w' t (k2 p b.p) 87∧Zaa w' b4 [.int .u64 num,.string foot] 35) wd)
   refine tP 0 9 (.pointer (some ⟨t,0,none⟩)) (s:=hS0) (h:= ?_);(try go_frame);refine tP 1 10 (.pointer (some ⟨t,0,none⟩)) (s:=hS0) (h:= ?_);(try go_frame);refine tP 2 11 (.pointer (some ⟨t,1,none⟩)) (s:=hS0) (h:= ?_);(try go_frame);refine tZ 3 12 (.pointer (some ⟨b.p,0,none⟩)) (r:=(fun w' hS=>Zac (ty:=84) (b:=t) (j:=1) rfl (by exact rfl) hS.1 (by kernel_rfl) rfl)) (s:=hS0) (h:= ?_);(try go_frame);refine tZ 4 13 (.agg #[.int .u64 num,.string foot]) (r:=(fun w' hS=>Zae (ty:=35) (n:=2) (b:=b4) (j:=0) rfl (by exact rfl) hS.2 (by kernel_rfl) (by kernel_rfl) rfl rfl)) (s:=hS0) (h:= ?_);(try go_frame);refine Zab (i:=5) (by kernel_rfl) ?_;refine cY 5 14 60 (fun u w'=>u=.int .i64 (b.es.length - (b.st.dropAll num foot).es.length)∧At [Lock.BookP b] _ [Lock.BookP (b.with (b.st.dropAll num foot))] w') ((Lock.Zm3 (hA.sep1 (A:=Lock.BookP b) sZ) num foot hok'.out.len (fun x hx=>⟨Nat.le_trans (hok'.out.path x hx) (by unfold maxLen;omega),(hok'.out.num x hx).1,(hok'.out.num x hx).2,hok'.out.foot x hx⟩)).mono fun e w' ⟨he,hT⟩=>⟨_,he,rfl,hT⟩) ?_;rintro u w3 ⟨rfl,hT⟩;have hB:=hA.call1 (A:=Lock.BookP b) sZ hT;clear hT;simp only[uA] at hB;refine andH ⟨hB.ci,hB.ci⟩ fun hS0=> ?_;replace hA:=hB;clear hB;(try go_frame);refine wpAnyH_done (by kernel_rfl) ?_ _;(try go_frame);clear hS0;obtain⟨hA,hF⟩:=fY hA;go_wp2_with fail;refine(ZaE _ _).mono ?_;rintro e w1 ⟨rfl,hx⟩;replace hA:=hA.ext hx;clear hx hF;obtain⟨hA,hF⟩:=fY hA
   go_wp2_with ((with_reducible refine gst ?_);refine wTy hA ?_;clear hF hA;intro w1 hA hF)
   exact bodyPost_ret (v:=ansV 0 0 false) (by simp[results,Tryz.results36,go_sem,hF]) rfl ⟨rfl,ZaC (b:=b.with (b.st.dropAll num foot)) (hA.pick pZ)⟩
 rw[if_neg he];have hA:=Zci h;clear h;obtain⟨hA,hF⟩:=fY hA;go_enter Tryz.func36,Tryz.ntmps36
 go_wp2_with (first|((with_reducible refine gbx ?_);refine wHy 35 [.int .u64 num,.string foot] hA ?_;clear hF hA;intro b4 w1 hA hb4 hF)|((with_reducible refine gal ?_);refine g1 hA ?_;clear hF hA;intro b6 w1 hA hb6 hF))
 refine(ZaE _ _).mono ?_;rintro e w1 ⟨rfl,hx⟩;replace hA:=hA.ext hx;clear hx hF;obtain⟨hA,hF⟩:=fY hA
 go_wp2_with ((with_reducible refine gst ?_);refine wTy hA ?_;clear hF hA;intro w1 hA hF)
 exact bodyPost_ret (v:=ansV e 0 false) (by simp[results,Tryz.results36,go_sem,hF]) rfl ⟨rfl,ZaC (hA.pick pZ)⟩
theorem may_any (kind num:Int) (foot:ByteArray) (req:Int) (path:ByteArray) (mode n time:Int) (h0:0≤num) (h1:num < Lease.big64) (hf:foot.size≤1000) (hp:path.size≤1000):
 Calls Tryz.prog 87 #[.pointer (some ⟨t,0,none⟩),.agg #[.int .i64 kind,.int .u64 num,.string foot,.int .u64 req,.string path,.int .i64 mode,.int .u64 n,.int .i64 time]] w fun r w'=>r=.returned (.int .i64 (if(Lease.look ss num foot).op=false then 50 else if ZaB (bl foot) (bl path)=false then 55 else 0))∧At [TabP t p m ss b] w [TabP t p m ss b] w':=by
 have hm:Tryz.prog.follows .mixedOrders=true:=by kernel_rfl
 have hin:=fun(w1:World) (q:Sep [Lease.BookP p m ss] w1)=>Lease.ZaX q h0 h1 (show foot.size≤maxLen by unfold maxLen;omega);have hab:=fun w1=>Path.Ze5 foot path w1 (by omega) (by omega)
 obtain⟨lk,hlk⟩:∃z,Lease.look ss num foot=z:=⟨_,rfl⟩
 obtain⟨ab,hab2⟩:∃z,ZaB (bl foot) (bl path)=z:=⟨_,rfl⟩
 rw[hlk] at ⊢;simp only[hlk] at hin;rw[hab2];simp only[hab2] at hab;clear hlk hab2;obtain⟨ln,lf,lo,ld,ldl,lt,ltold,lb,ltm⟩:=lk;simp only[Lease.Ses.info] at hin;have hin':=Hd hin;clear hin;have hA:=Zci h;clear h;obtain⟨hA,hF⟩:=fY hA;go_enter Tryz.func87,Tryz.ntmps87
 go_upto_region 1 with((with_reducible refine gbx ?_);refine wHy 37 [.int .i64 kind,.int .u64 num,.string foot,.int .u64 req,.string path,.int .i64 mode,.int .u64 n,.int .i64 time] hA ?_;clear hF hA;intro b3 w1 hA hb3 hF)
 (try go_frame);replace hA:=hA.drew;clear hF;refine wp_region_held (S:=fun w'=>Zaa w' t (k2 p b.p) 87∧Zaa w' b3 (k8 kind num foot req path mode n time) 37) hm ?_;change wpAnyH _ _ _ _ _ 10 _ _ (World.drew _);generalize World.drew _=wd at *
 have hS0:=(⟨hA.get (A:=Part.cells t (k2 p b.p) 87) sZ,hA.get (A:=Part.cells b3 (k8 kind num foot req path mode n time) 37) sZ⟩:(fun w'=>Zaa w' t (k2 p b.p) 87∧Zaa w' b3 (k8 kind num foot req path mode n time) 37) wd)
 refine tP 0 6 (.pointer (some ⟨t,0,none⟩)) (s:=hS0) (h:= ?_);(try go_frame);refine tP 1 7 (.pointer (some ⟨t,0,none⟩)) (s:=hS0) (h:= ?_);(try go_frame);refine tP 2 8 (.pointer (some ⟨t,0,none⟩)) (s:=hS0) (h:= ?_);(try go_frame);refine tZ 3 9 (.pointer (some ⟨p,0,none⟩)) (r:=(fun w' hS=>Zac (ty:=82) (b:=t) (j:=0) rfl (by exact rfl) hS.1 (by kernel_rfl) rfl)) (s:=hS0) (h:= ?_);(try go_frame);refine tP 4 10 (.pointer (some ⟨b3,1,none⟩)) (s:=hS0) (h:= ?_);(try go_frame);refine tZ 5 11 (.agg #[.int .u64 num,.string foot]) (r:=(fun w' hS=>Zae (ty:=35) (n:=2) (b:=b3) (j:=1) rfl (by exact rfl) hS.2 (by kernel_rfl) (by kernel_rfl) rfl rfl)) (s:=hS0) (h:= ?_);(try go_frame);refine Zab (i:=6) (by kernel_rfl) ?_;refine cY 6 12 61 (fun u w'=>u=.agg #[.bool lo,.bool ld,.int .i64 ldl,.int .i64 lt,.int .i64 ltold.length]∧At [Lease.BookP p m ss] _ [Lease.BookP p m ss] w') ((hin'.out _ (hA.sep1 (A:=Lease.BookP p m ss) sZ)).mono fun e w' ⟨he,hT⟩=>⟨_,he,rfl,hT⟩) ?_;rintro u w3 ⟨rfl,hT⟩;have hB:=hA.call1 (A:=Lease.BookP p m ss) sZ hT;clear hT;simp only[uA] at hB;refine andH ⟨hB.ci,hB.ci⟩ fun hS0=> ?_;replace hA:=hB;clear hB;(try go_frame);refine tP 7 13 (.bool lo) (s:=hS0) (h:= ?_);(try go_frame);refine tP 8 14 (.bool (!lo)) (s:=hS0) (h:= ?_);(try go_frame);refine tP 9 5 (.bool (!lo)) (s:=hS0) (h:= ?_);(try go_frame);refine wpAnyH_done (by kernel_rfl) ?_ _;(try go_frame);clear hS0;obtain⟨hA,hF⟩:=fY hA;cases lo
 · go_wp2_with fail;go_ret;exact⟨rfl,ZaC (hA.pick pZ)⟩
 go_wp2_with fail;refine(hab _).mono ?_;rintro e w1 ⟨rfl,hx⟩;replace hA:=hA.ext hx;clear hx hF;obtain⟨hA,hF⟩:=fY hA;cases ab
 · go_wp2_with fail;go_ret;exact⟨rfl,ZaC (hA.pick pZ)⟩
 go_wp2_with fail;go_ret;exact⟨rfl,ZaC (hA.pick pZ)⟩
end
end Tab
end
section
namespace Tab
open Go.RowKit
open Path (bl Zag overB ZaB)
open Lease (Ses Ans fresh Zbx)
open Lock (S3 Ent)
open Cmd (Cm Zar)
attribute [-go_sem] run_eql_struct run_neq_struct run_eqGuard_agg
section
variable {w:World} {t p m:Nat} {ss:List Ses} {b:Lock.Bk} (h:Sep [TabP t p m ss b] w) (kind num:Int) (foot:ByteArray) (req:Int) (path:ByteArray) (mode n time:Int) (h0:0≤num) (h1:num < Lock.big64) (hf:foot.size≤1000) (hp:path.size≤1000) (hok:LkOk b)
include h h0 h1 hf hp hok
theorem add_any:Calls Tryz.prog 88 #[.pointer (some ⟨t,0,none⟩),.agg #[.int .i64 kind,.int .u64 num,.string foot,.int .u64 req,.string path,.int .i64 mode,.int .u64 n,.int .i64 time]] w fun r w'=>r=.returned (if b.st.may path num foot mode=0 then ansV 0 (b.st.addE path num foot mode).n (Lock.Za3 b.es path mode) else ansV (b.st.may path num foot mode) 0 false)∧At [TabP t p m ss b] w [TabP t p m ss (b.with (b.st.add path num foot mode))] w':=by
 have hm:Tryz.prog.follows .mixedOrders=true:=by kernel_rfl
 have hok':=Hd hok;clear hok;have hco:=fun(w1:World) (q:Sep [Lock.BookP b] w1)=>Lock.Zht (mode:=mode) q (show path.size≤1000000 by omega) (fun x hx=>⟨Nat.le_trans (hok'.out.path x hx) (by omega),hok'.out.stamp x hx⟩);have had:=fun(w1:World) (q:Sep [Lock.BookP b] w1)=>Lock.add_any (mode:=mode) q (show path.size≤1000000 by omega) h0 h1 (show foot.size≤maxLen by unfold maxLen;omega) hok'.out.len hok'.out.ctr (fun x hx=>⟨Nat.le_trans (hok'.out.path x hx) (by omega),hok'.out.stamp x hx⟩)
 obtain⟨cd,hcd⟩:∃z,Lock.Za3 b.es path mode=z:=⟨_,rfl⟩
 obtain⟨me,hme⟩:∃z,b.st.may path num foot mode=z:=⟨_,rfl⟩
 obtain⟨ae,hae⟩:∃z,b.st.addE path num foot mode=z:=⟨_,rfl⟩
 simp only[hcd] at hco;simp only[hme,hae] at had;rw[hcd,hme,hae];clear hcd hme hae;obtain⟨ep,en,ef,em,enn,est⟩:=ae;simp only[Lock.Ent.val] at had;have hco':=Hd hco;have had':=Hd had;clear hco had;have hA:=Zci h;clear h;obtain⟨hA,hF⟩:=fY hA;go_enter Tryz.func88,Tryz.ntmps88
 go_upto_region 1 with(first|((with_reducible refine gbx ?_);refine wHy 37 [.int .i64 kind,.int .u64 num,.string foot,.int .u64 req,.string path,.int .i64 mode,.int .u64 n,.int .i64 time] hA ?_;clear hF hA;intro b3 w1 hA hb3 hF)|((with_reducible refine gal ?_);refine g1 hA ?_;clear hF hA;intro b4 w1 hA hb4 hF))
 (try go_frame);replace hA:=hA.drew;clear hF;refine wp_region_held (S:=fun w'=>Zaa w' t (k2 p b.p) 87∧Zaa w' b3 (k8 kind num foot req path mode n time) 37) hm ?_;change wpAnyH _ _ _ _ _ 10 _ _ (World.drew _);generalize World.drew _=wd at *
 have hS0:=(⟨hA.get (A:=Part.cells t (k2 p b.p) 87) sZ,hA.get (A:=Part.cells b3 (k8 kind num foot req path mode n time) 37) sZ⟩:(fun w'=>Zaa w' t (k2 p b.p) 87∧Zaa w' b3 (k8 kind num foot req path mode n time) 37) wd)
 refine tP 0 8 (.pointer (some ⟨t,0,none⟩)) (s:=hS0) (h:= ?_);(try go_frame);refine tP 1 9 (.pointer (some ⟨t,0,none⟩)) (s:=hS0) (h:= ?_);(try go_frame);refine tP 2 10 (.pointer (some ⟨t,1,none⟩)) (s:=hS0) (h:= ?_);(try go_frame);refine tZ 3 11 (.pointer (some ⟨b.p,0,none⟩)) (r:=(fun w' hS=>Zac (ty:=84) (b:=t) (j:=1) rfl (by exact rfl) hS.1 (by kernel_rfl) rfl)) (s:=hS0) (h:= ?_);(try go_frame);refine tP 4 12 (.pointer (some ⟨b3,4,none⟩)) (s:=hS0) (h:= ?_);(try go_frame);refine tZ 5 13 (.string path) (r:=(fun w' hS=>Zac (ty:=9) (b:=b3) (j:=4) rfl (by exact rfl) hS.2 (by kernel_rfl) rfl)) (s:=hS0) (h:= ?_);(try go_frame);refine tP 6 14 (.pointer (some ⟨b3,5,none⟩)) (s:=hS0) (h:= ?_);(try go_frame);refine tZ 7 15 (.int .i64 mode) (r:=(fun w' hS=>Zac (ty:=3) (b:=b3) (j:=5) rfl (by exact rfl) hS.2 (by kernel_rfl) rfl)) (s:=hS0) (h:= ?_);(try go_frame);refine Zab (i:=8) (by kernel_rfl) ?_;refine cY 8 16 100 (fun u w'=>u=.bool cd∧At [Lock.BookP b] _ [Lock.BookP b] w') ((hco'.out _ (hA.sep1 (A:=Lock.BookP b) sZ)).mono fun e w' ⟨he,hT⟩=>⟨_,he,rfl,hT⟩) ?_;rintro u w3 ⟨rfl,hT⟩;have hB:=hA.call1 (A:=Lock.BookP b) sZ hT;clear hT;simp only[uA] at hB;refine andH ⟨hB.ci,hB.ci⟩ fun hS0=> ?_;replace hA:=hB;clear hB;(try go_frame);refine tP 9 5 (.bool cd) (s:=hS0) (h:= ?_);(try go_frame);refine wpAnyH_done (by kernel_rfl) ?_ _;(try go_frame);clear hS0;obtain⟨hA,hF⟩:=fY hA;go_upto_region 2 with fail
 (try go_frame);replace hA:=hA.drew;clear hF;refine wp_region_held (S:=fun w'=>Zaa w' t (k2 p b.p) 87∧Zaa w' b3 (k8 kind num foot req path mode n time) 37) hm ?_;change wpAnyH _ _ _ _ _ 17 _ _ (World.drew _);generalize World.drew _=wd at *
 have hS0:=(⟨hA.get (A:=Part.cells t (k2 p b.p) 87) sZ,hA.get (A:=Part.cells b3 (k8 kind num foot req path mode n time) 37) sZ⟩:(fun w'=>Zaa w' t (k2 p b.p) 87∧Zaa w' b3 (k8 kind num foot req path mode n time) 37) wd)
 refine tP 0 18 (.pointer (some ⟨t,0,none⟩)) (s:=hS0) (h:= ?_);(try go_frame);refine tP 1 19 (.pointer (some ⟨t,0,none⟩)) (s:=hS0) (h:= ?_);(try go_frame);refine tP 2 20 (.pointer (some ⟨t,1,none⟩)) (s:=hS0) (h:= ?_);(try go_frame);refine tZ 3 21 (.pointer (some ⟨b.p,0,none⟩)) (r:=(fun w' hS=>Zac (ty:=84) (b:=t) (j:=1) rfl (by exact rfl) hS.1 (by kernel_rfl) rfl)) (s:=hS0) (h:= ?_);(try go_frame);refine tP 4 22 (.pointer (some ⟨b3,4,none⟩)) (s:=hS0) (h:= ?_);(try go_frame);refine tZ 5 23 (.string path) (r:=(fun w' hS=>Zac (ty:=9) (b:=b3) (j:=4) rfl (by exact rfl) hS.2 (by kernel_rfl) rfl)) (s:=hS0) (h:= ?_);(try go_frame);refine tP 6 24 (.pointer (some ⟨b3,1,none⟩)) (s:=hS0) (h:= ?_);(try go_frame);refine tZ 7 25 (.agg #[.int .u64 num,.string foot]) (r:=(fun w' hS=>Zae (ty:=35) (n:=2) (b:=b3) (j:=1) rfl (by exact rfl) hS.2 (by kernel_rfl) (by kernel_rfl) rfl rfl)) (s:=hS0) (h:= ?_);(try go_frame);refine tP 8 26 (.pointer (some ⟨b3,5,none⟩)) (s:=hS0) (h:= ?_);(try go_frame);refine tZ 9 27 (.int .i64 mode) (r:=(fun w' hS=>Zac (ty:=3) (b:=b3) (j:=5) rfl (by exact rfl) hS.2 (by kernel_rfl) rfl)) (s:=hS0) (h:= ?_);(try go_frame);refine ZaF (i:=10) (j:=14) (by kernel_rfl) ?_ ?_
 · skip;refine cY 10 28 101 (fun u w'=>u=.tuple #[.agg #[.string ep,.int .u64 en,.string ef,.int .i64 em,.int .u64 enn,.int .i64 est],.int .i64 me]∧At [Lock.BookP b] _ [Lock.BookP (b.with (b.st.add path num foot mode))] w') ((had'.out _ (hA.sep1 (A:=Lock.BookP b) sZ)).mono fun e w' ⟨he,hT⟩=>⟨_,he,rfl,hT⟩) ?_;rintro u w3 ⟨rfl,hT⟩;have hB:=hA.call1 (A:=Lock.BookP b) sZ hT;clear hT;simp only[uA] at hB;refine andH ⟨hB.ci,hB.ci⟩ fun hS0=> ?_;replace hA:=hB;clear hB;(try go_frame);refine tP 11 17 (.tuple #[.agg #[.string ep,.int .u64 en,.string ef,.int .i64 em,.int .u64 enn,.int .i64 est],.int .i64 me]) (s:=hS0) (h:= ?_);(try go_frame);refine tP 12 29 (.agg #[.string ep,.int .u64 en,.string ef,.int .i64 em,.int .u64 enn,.int .i64 est]) (s:=hS0) (h:= ?_);(try go_frame);refine tP 13 30 (.int .i64 me) (s:=hS0) (h:= ?_);(try go_frame);refine Zab (i:=14) (by kernel_rfl) ?_;refine aZ 14 6 165 [.string .empty,.int .u64 0,.string .empty,.int .i64 0,.int .u64 0,.int .i64 0] hA ?_;intro b6 w3 hB;refine andH ⟨hB.ci,hB.ci⟩ fun hS0=> ?_;replace hA:=hB;clear hB;(try go_frame);refine Zab (i:=15) (by kernel_rfl) ?_;refine stZ 15 b6 0 [.string ep,.int .u64 en,.string ef,.int .i64 em,.int .u64 enn,.int .i64 est] hA ?_;intro w3 hB;simp only[uA] at hB;refine andH ⟨hB.ci,hB.ci⟩ fun hS0=> ?_;replace hA:=hB;clear hB;(try go_frame);refine tP 16 7 (.int .i64 me) (s:=hS0) (h:= ?_);(try go_frame);refine wpAnyH_done (by kernel_rfl) ?_ _;(try go_frame);clear hS0;obtain⟨hA,hF⟩:=fY hA;by_cases hz:me=0
   · subst hz
     go_wp2_with ((with_reducible refine gst ?_);refine wTy hA ?_;clear hF hA;intro w1 hA hF)
     exact bodyPost_ret (v:=ansV 0 enn cd) (by simp[results,Tryz.results88,go_sem,hF]) rfl ⟨by first|rfl|rw[if_pos rfl],ZaC (b:=b.with (b.st.add path num foot mode)) (hA.pick pZ)⟩
   go_wp2_with fail;refine(ZaE _ _).mono ?_;rintro e w1 ⟨rfl,hx⟩;replace hA:=hA.ext hx;clear hx hF;obtain⟨hA,hF⟩:=fY hA
   go_wp2_with ((with_reducible refine gst ?_);refine wTy hA ?_;clear hF hA;intro w1 hA hF)
   exact bodyPost_ret (v:=ansV me 0 false) (by simp[results,Tryz.results88,go_sem,hF]) rfl ⟨by first|rfl|rw[if_neg hz],ZaC (b:=b.with (b.st.add path num foot mode)) (hA.pick pZ)⟩
 skip;refine aZ 14 6 165 [.string .empty,.int .u64 0,.string .empty,.int .i64 0,.int .u64 0,.int .i64 0] hA ?_;intro b6 w3 hB;refine andH ⟨hB.ci,hB.ci⟩ fun hS0=> ?_;replace hA:=hB;clear hB;(try go_frame);refine Zab (i:=10) (by kernel_rfl) ?_;refine cY 10 28 101 (fun u w'=>u=.tuple #[.agg #[.string ep,.int .u64 en,.string ef,.int .i64 em,.int .u64 enn,.int .i64 est],.int .i64 me]∧At [Lock.BookP b] _ [Lock.BookP (b.with (b.st.add path num foot mode))] w') ((had'.out _ (hA.sep1 (A:=Lock.BookP b) sZ)).mono fun e w' ⟨he,hT⟩=>⟨_,he,rfl,hT⟩) ?_;rintro u w3 ⟨rfl,hT⟩;have hB:=hA.call1 (A:=Lock.BookP b) sZ hT;clear hT;simp only[uA] at hB;refine andH ⟨hB.ci,hB.ci⟩ fun hS0=> ?_;replace hA:=hB;clear hB;(try go_frame);refine tP 11 17 (.tuple #[.agg #[.string ep,.int .u64 en,.string ef,.int .i64 em,.int .u64 enn,.int .i64 est],.int .i64 me]) (s:=hS0) (h:= ?_);(try go_frame);refine tP 12 29 (.agg #[.string ep,.int .u64 en,.string ef,.int .i64 em,.int .u64 enn,.int .i64 est]) (s:=hS0) (h:= ?_);(try go_frame);refine tP 13 30 (.int .i64 me) (s:=hS0) (h:= ?_);(try go_frame);refine Zab (i:=15) (by kernel_rfl) ?_;refine stZ 15 b6 0 [.string ep,.int .u64 en,.string ef,.int .i64 em,.int .u64 enn,.int .i64 est] hA ?_;intro w3 hB;simp only[uA] at hB;refine andH ⟨hB.ci,hB.ci⟩ fun hS0=> ?_;replace hA:=hB;clear hB;(try go_frame);refine tP 16 7 (.int .i64 me) (s:=hS0) (h:= ?_);(try go_frame);refine wpAnyH_done (by kernel_rfl) ?_ _;(try go_frame);clear hS0;obtain⟨hA,hF⟩:=fY hA;by_cases hz:me=0
 · subst hz
   go_wp2_with ((with_reducible refine gst ?_);refine wTy hA ?_;clear hF hA;intro w1 hA hF)
   exact bodyPost_ret (v:=ansV 0 enn cd) (by simp[results,Tryz.results88,go_sem,hF]) rfl ⟨by first|rfl|rw[if_pos rfl],ZaC (b:=b.with (b.st.add path num foot mode)) (hA.pick pZ)⟩
 go_wp2_with fail;refine(ZaE _ _).mono ?_;rintro e w1 ⟨rfl,hx⟩;replace hA:=hA.ext hx;clear hx hF;obtain⟨hA,hF⟩:=fY hA
 go_wp2_with ((with_reducible refine gst ?_);refine wTy hA ?_;clear hF hA;intro w1 hA hF)
 exact bodyPost_ret (v:=ansV me 0 false) (by simp[results,Tryz.results88,go_sem,hF]) rfl ⟨by first|rfl|rw[if_neg hz],ZaC (b:=b.with (b.st.add path num foot mode)) (hA.pick pZ)⟩
def tryV (b:Lock.Bk) (num:Int) (foot path:ByteArray) (mode:Int):Value:=if Lock.Za3 b.es path mode=true then(if b.st.may path num foot mode=0 then ansV 0 (b.st.addE path num foot mode).n (Lock.Za3 b.es path mode) else ansV (b.st.may path num foot mode) 0 false) else if b.st.may path num foot mode=0 then ansV 51 0 false else ansV (b.st.may path num foot mode) 0 false
def tryB (b:Lock.Bk) (num:Int) (foot path:ByteArray) (mode:Int):Lock.Bk:=if Lock.Za3 b.es path mode=true then b.with (b.st.add path num foot mode) else b
theorem ZnX:Calls Tryz.prog 89 #[.pointer (some ⟨t,0,none⟩),.agg #[.int .i64 kind,.int .u64 num,.string foot,.int .u64 req,.string path,.int .i64 mode,.int .u64 n,.int .i64 time]] w fun r w'=>r=.returned (tryV b num foot path mode)∧At [TabP t p m ss b] w [TabP t p m ss (tryB b num foot path mode)] w':=by
 have hm:Tryz.prog.follows .mixedOrders=true:=by kernel_rfl
 have hok':=Hd hok;clear hok;have hco:=fun(w1:World) (q:Sep [Lock.BookP b] w1)=>Lock.Zht (mode:=mode) q (show path.size≤1000000 by omega) (fun x hx=>⟨Nat.le_trans (hok'.out.path x hx) (by omega),hok'.out.stamp x hx⟩);have had:=fun(w1:World) (q:Sep [TabP t p m ss b] w1)=>add_any q kind num foot req path mode n time h0 h1 hf hp hok'.out;have hma:=fun(w1:World) (q:Sep [Lock.BookP b] w1)=>Lock.may_any (mode:=mode) q (show path.size≤1000000 by omega) h0 h1 (show foot.size≤maxLen by unfold maxLen;omega) hok'.out.len hok'.out.ctr;unfold tryV tryB
 obtain⟨cd,hcd⟩:∃z,Lock.Za3 b.es path mode=z:=⟨_,rfl⟩
 obtain⟨me,hme⟩:∃z,b.st.may path num foot mode=z:=⟨_,rfl⟩
 obtain⟨av,hav⟩:∃z,(if b.st.may path num foot mode=0 then ansV 0 (b.st.addE path num foot mode).n (Lock.Za3 b.es path mode) else ansV (b.st.may path num foot mode) 0 false)=z:=⟨_,rfl⟩
 simp only[hcd] at hco;rw[hav];simp only[hav] at had;simp only[hme] at hma;rw[hcd,hme];clear hcd hme;have hav2:∃x y z,av=ansV x y z:=by rw[←hav];split<;>exact⟨_,_,_,rfl⟩
 obtain⟨a1,a2,a3,rfl⟩:=hav2;clear hav;have hco':=Hd hco;have had':=Hd had;have hma':=Hd hma;clear hco had hma;have hA:=Zci h;clear h;obtain⟨hA,hF⟩:=fY hA;go_enter Tryz.func89,Tryz.ntmps89
 go_upto_region 1 with(first|((with_reducible refine gbx ?_);refine wHy 37 [.int .i64 kind,.int .u64 num,.string foot,.int .u64 req,.string path,.int .i64 mode,.int .u64 n,.int .i64 time] hA ?_;clear hF hA;intro b3 w1 hA hb3 hF)|((with_reducible refine gal ?_);refine g1 hA ?_;clear hF hA;intro b4 w1 hA hb4 hF))
 (try go_frame);replace hA:=hA.drew;clear hF;refine wp_region_held (S:=fun w'=>Zaa w' t (k2 p b.p) 87∧Zaa w' b3 (k8 kind num foot req path mode n time) 37) hm ?_;change wpAnyH _ _ _ _ _ 9 _ _ (World.drew _);generalize World.drew _=wd at *
 have hS0:=(⟨hA.get (A:=Part.cells t (k2 p b.p) 87) sZ,hA.get (A:=Part.cells b3 (k8 kind num foot req path mode n time) 37) sZ⟩:(fun w'=>Zaa w' t (k2 p b.p) 87∧Zaa w' b3 (k8 kind num foot req path mode n time) 37) wd)
 refine tP 0 6 (.pointer (some ⟨t,0,none⟩)) (s:=hS0) (h:= ?_);(try go_frame);refine tP 1 7 (.pointer (some ⟨t,0,none⟩)) (s:=hS0) (h:= ?_);(try go_frame);refine tP 2 8 (.pointer (some ⟨t,1,none⟩)) (s:=hS0) (h:= ?_);(try go_frame);refine tZ 3 9 (.pointer (some ⟨b.p,0,none⟩)) (r:=(fun w' hS=>Zac (ty:=84) (b:=t) (j:=1) rfl (by exact rfl) hS.1 (by kernel_rfl) rfl)) (s:=hS0) (h:= ?_);(try go_frame);refine tP 4 10 (.pointer (some ⟨b3,4,none⟩)) (s:=hS0) (h:= ?_);(try go_frame);refine tZ 5 11 (.string path) (r:=(fun w' hS=>Zac (ty:=9) (b:=b3) (j:=4) rfl (by exact rfl) hS.2 (by kernel_rfl) rfl)) (s:=hS0) (h:= ?_);(try go_frame);refine tP 6 12 (.pointer (some ⟨b3,5,none⟩)) (s:=hS0) (h:= ?_);(try go_frame);refine tZ 7 13 (.int .i64 mode) (r:=(fun w' hS=>Zac (ty:=3) (b:=b3) (j:=5) rfl (by exact rfl) hS.2 (by kernel_rfl) rfl)) (s:=hS0) (h:= ?_);(try go_frame);refine Zab (i:=8) (by kernel_rfl) ?_;refine cY 8 14 100 (fun u w'=>u=.bool cd∧At [Lock.BookP b] _ [Lock.BookP b] w') ((hco'.out _ (hA.sep1 (A:=Lock.BookP b) sZ)).mono fun e w' ⟨he,hT⟩=>⟨_,he,rfl,hT⟩) ?_;rintro u w3 ⟨rfl,hT⟩;have hB:=hA.call1 (A:=Lock.BookP b) sZ hT;clear hT;simp only[uA] at hB;refine andH ⟨hB.ci,hB.ci⟩ fun hS0=> ?_;replace hA:=hB;clear hB;(try go_frame);refine wpAnyH_done (by kernel_rfl) ?_ _;(try go_frame);clear hS0;obtain⟨hA,hF⟩:=fY hA;cases cd
 · go_upto_region 3 with fail
   (try go_frame);replace hA:=hA.drew;clear hF;refine wp_region_held (S:=fun w'=>Zaa w' t (k2 p b.p) 87∧Zaa w' b3 (k8 kind num foot req path mode n time) 37) hm ?_;change wpAnyH _ _ _ _ _ 12 _ _ (World.drew _);generalize World.drew _=wd at *
   have hS0:=(⟨hA.get (A:=Part.cells t (k2 p b.p) 87) sZ,hA.get (A:=Part.cells b3 (k8 kind num foot req path mode n time) 37) sZ⟩:(fun w'=>Zaa w' t (k2 p b.p) 87∧Zaa w' b3 (k8 kind num foot req path mode n time) 37) wd)
   refine tP 0 18 (.pointer (some ⟨t,0,none⟩)) (s:=hS0) (h:= ?_);(try go_frame);refine tP 1 19 (.pointer (some ⟨t,0,none⟩)) (s:=hS0) (h:= ?_);(try go_frame);refine tP 2 20 (.pointer (some ⟨t,1,none⟩)) (s:=hS0) (h:= ?_);(try go_frame);refine tZ 3 21 (.pointer (some ⟨b.p,0,none⟩)) (r:=(fun w' hS=>Zac (ty:=84) (b:=t) (j:=1) rfl (by exact rfl) hS.1 (by kernel_rfl) rfl)) (s:=hS0) (h:= ?_);(try go_frame);refine tP 4 22 (.pointer (some ⟨b3,4,none⟩)) (s:=hS0) (h:= ?_);(try go_frame);refine tZ 5 23 (.string path) (r:=(fun w' hS=>Zac (ty:=9) (b:=b3) (j:=4) rfl (by exact rfl) hS.2 (by kernel_rfl) rfl)) (s:=hS0) (h:= ?_);(try go_frame);refine tP 6 24 (.pointer (some ⟨b3,1,none⟩)) (s:=hS0) (h:= ?_);(try go_frame);refine tZ 7 25 (.agg #[.int .u64 num,.string foot]) (r:=(fun w' hS=>Zae (ty:=35) (n:=2) (b:=b3) (j:=1) rfl (by exact rfl) hS.2 (by kernel_rfl) (by kernel_rfl) rfl rfl)) (s:=hS0) (h:= ?_);(try go_frame);refine tP 8 26 (.pointer (some ⟨b3,5,none⟩)) (s:=hS0) (h:= ?_);(try go_frame);refine tZ 9 27 (.int .i64 mode) (r:=(fun w' hS=>Zac (ty:=3) (b:=b3) (j:=5) rfl (by exact rfl) hS.2 (by kernel_rfl) rfl)) (s:=hS0) (h:= ?_);(try go_frame);refine Zab (i:=10) (by kernel_rfl) ?_;refine cY 10 28 102 (fun u w'=>u=.int .i64 me∧At [Lock.BookP b] _ [Lock.BookP b] w') ((hma'.out _ (hA.sep1 (A:=Lock.BookP b) sZ)).mono fun e w' ⟨he,hT⟩=>⟨_,he,rfl,hT⟩) ?_;rintro u w3 ⟨rfl,hT⟩;have hB:=hA.call1 (A:=Lock.BookP b) sZ hT;clear hT;simp only[uA] at hB;refine andH ⟨hB.ci,hB.ci⟩ fun hS0=> ?_;replace hA:=hB;clear hB;(try go_frame);refine tP 11 5 (.int .i64 me) (s:=hS0) (h:= ?_);(try go_frame);refine wpAnyH_done (by kernel_rfl) ?_ _;(try go_frame);clear hS0;obtain⟨hA,hF⟩:=fY hA;by_cases hz:me=0
   · subst hz;go_wp2_with fail;refine(ZaE _ _).mono ?_;rintro e w1 ⟨rfl,hx⟩;replace hA:=hA.ext hx;clear hx hF;obtain⟨hA,hF⟩:=fY hA
     go_wp2_with ((with_reducible refine gst ?_);refine wTy hA ?_;clear hF hA;intro w1 hA hF)
     exact bodyPost_ret (v:=ansV 51 0 false) (by simp[results,Tryz.results89,go_sem,hF]) rfl ⟨by first|rfl|(rw[if_neg (by decide),if_pos rfl]),ZaC (hA.pick pZ)⟩
   go_wp2_with fail;refine(ZaE _ _).mono ?_;rintro e w1 ⟨rfl,hx⟩;replace hA:=hA.ext hx;clear hx hF;obtain⟨hA,hF⟩:=fY hA
   go_wp2_with ((with_reducible refine gst ?_);refine wTy hA ?_;clear hF hA;intro w1 hA hF)
   exact bodyPost_ret (v:=ansV me 0 false) (by simp[results,Tryz.results89,go_sem,hF]) rfl ⟨by first|rfl|(rw[if_neg (by decide),if_neg hz]),ZaC (hA.pick pZ)⟩
 replace hA:=Zdd hA sZ sZ sZ;clear hF;obtain⟨hA,hF⟩:=fY hA;go_wp2_with fail;refine(had'.out _ (hA.sep1 (A:=TabP t p m ss b) sZ)).mono ?_;rintro e w1 ⟨rfl,hT⟩;replace hA:=hA.call1 (A:=TabP t p m ss b) sZ hT;clear hT hF;obtain⟨hA,hF⟩:=fY hA
 go_wp2_with ((with_reducible refine gst ?_);refine wTy hA ?_;clear hF hA;intro w1 hA hF)
 exact bodyPost_ret (v:=ansV a1 a2 a3) (by simp[results,Tryz.results89,go_sem,hF]) rfl ⟨by first|rfl|rw[if_pos rfl],(hA.pick pZ)⟩
end
end Tab
end
section
namespace Tab
open Go.RowKit
open Path (bl Zag overB ZaB)
open Lease (Ses Ans fresh Zbx)
open Lock (S3 Ent)
open Cmd (Cm Zar)
attribute [-go_sem] run_eql_struct run_neq_struct run_eqGuard_agg
def lkV (me:Int) (b:Lock.Bk) (kind num:Int) (foot path:ByteArray) (mode n:Int):Value:=if me≠0 then ansV me 0 false else if kind=4 then(if b.st.may path num foot mode=0 then ansV 0 (b.st.addE path num foot mode).n (Lock.Za3 b.es path mode) else ansV (b.st.may path num foot mode) 0 false) else if kind=5 then tryV b num foot path mode else if kind=6 then ansV (if(Lock.find b.es path num foot).isSome=true then 0 else 52) 0 false else ansV (if Zbu b.es path n=true then 0 else 52) 0 false
def lkB (me:Int) (b:Lock.Bk) (kind num:Int) (foot path:ByteArray) (mode:Int):Lock.Bk:=if me≠0 then b else if kind=4 then b.with (b.st.add path num foot mode) else if kind=5 then tryB b num foot path mode else if kind=6 then b.with (b.st.remove path num foot) else b
def mayI (ss:List Ses) (num:Int) (foot path:ByteArray):Int:=if(Lease.look ss num foot).op=false then 50 else if ZaB (bl foot) (bl path)=false then 55 else 0
section
variable {w:World} {t p m:Nat} {ss:List Ses} {b:Lock.Bk} (h:Sep [TabP t p m ss b] w) (kind num:Int) (foot:ByteArray) (req:Int) (path:ByteArray) (mode n time:Int) (h0:0≤num) (h1:num < Lock.big64) (hf:foot.size≤1000) (hp:path.size≤1000) (hok:LkOk b)
include h h0 h1 hf hp hok
theorem Zom:Calls Tryz.prog 65 #[.pointer (some ⟨t,0,none⟩),.agg #[.int .i64 kind,.int .u64 num,.string foot,.int .u64 req,.string path,.int .i64 mode,.int .u64 n,.int .i64 time]] w fun r w'=>r=.returned (lkV (mayI ss num foot path) b kind num foot path mode n)∧At [TabP t p m ss b] w [TabP t p m ss (lkB (mayI ss num foot path) b kind num foot path mode)] w':=by
 have hm:Tryz.prog.follows .mixedOrders=true:=by kernel_rfl
 have hok':=Hd hok;clear hok;have hmy:=fun(w1:World) (q:Sep [TabP t p m ss b] w1)=>may_any q kind num foot req path mode n time h0 h1 hf hp;have had:=fun(w1:World) (q:Sep [TabP t p m ss b] w1)=>add_any q kind num foot req path mode n time h0 h1 hf hp hok'.out;have htr:=fun(w1:World) (q:Sep [TabP t p m ss b] w1)=>ZnX q kind num foot req path mode n time h0 h1 hf hp hok'.out;have hrm:=fun(w1:World) (q:Sep [Lock.BookP b] w1)=>Lock.Zji (p:=path) (n:=num) (f:=foot) q (show path.size≤maxLen by unfold maxLen;omega) h0 h1 (show foot.size≤maxLen by unfold maxLen;omega);have hck:=fun(w1:World) (q:Sep [Lock.BookP b] w1)=>Lock.Zlx q path n (fun x hx=>Nat.le_trans (hok'.out.path x hx) (by omega)) (hok'.out.chk path n).1 (hok'.out.chk path n).2
 obtain⟨me,hme⟩:∃z,mayI ss num foot path=z:=⟨_,rfl⟩
 have hme2:(if(Lease.look ss num foot).op=false then(50:Int) else if ZaB (bl foot) (bl path)=false then 55 else 0)=me:=hme;simp only[hme2] at hmy;rw[hme];clear hme hme2;have hmy':=Hd hmy;have had':=Hd had;have htr':=Hd htr;have hrm':=Hd hrm;have hck':=Hd hck;clear hmy had htr hrm hck;have hA:=At.start h;clear h;obtain⟨hA,hF⟩:=fY hA;go_enter Tryz.func65,Tryz.ntmps65
 go_wp2_with (first|((with_reducible refine gbx ?_);refine wHy 37 [.int .i64 kind,.int .u64 num,.string foot,.int .u64 req,.string path,.int .i64 mode,.int .u64 n,.int .i64 time] hA ?_;clear hF hA;intro b3 w1 hA hb3 hF)|((with_reducible refine gal ?_);refine g1 hA ?_;clear hF hA;intro b4 w1 hA hb4 hF))
 refine(hmy'.out _ (hA.sep1 (A:=TabP t p m ss b) sZ)).mono ?_;rintro e w1 ⟨rfl,hT⟩;replace hA:=hA.call1 (A:=TabP t p m ss b) sZ hT;clear hT hF;obtain⟨hA,hF⟩:=fY hA;by_cases hz:me=0
 · subst hz;by_cases k4:kind=4
   · subst k4
     obtain⟨av,hav⟩:∃z,(if b.st.may path num foot mode=0 then ansV 0 (b.st.addE path num foot mode).n (Lock.Za3 b.es path mode) else ansV (b.st.may path num foot mode) 0 false)=z:=⟨_,rfl⟩
     have hav2:∃x y z,av=ansV x y z:=by rw[←hav];split<;>exact⟨_,_,_,rfl⟩
     obtain⟨a1,a2,a3,rfl⟩:=hav2;have had2:=had'.out;simp only[hav] at had2;have had3:=Hd had2;have hav':=Hd hav;clear had2 hav had';go_wp2_with fail;refine(had3.out _ (hA.sep1 (A:=TabP t p m ss b) sZ)).mono ?_;rintro e w1 ⟨rfl,hT⟩;replace hA:=hA.call1 (A:=TabP t p m ss b) sZ hT;clear hT hF;obtain⟨hA,hF⟩:=fY hA
     go_wp2_with ((with_reducible refine gst ?_);refine wTy hA ?_;clear hF hA;intro w1 hA hF)
     exact bodyPost_ret (v:=ansV a1 a2 a3) (by simp[results,Tryz.results65,go_sem,hF]) rfl ⟨by first|rfl|(rw[lkV,if_neg (by decide),if_pos rfl,hav'.out]),by rw[lkB,if_neg (by decide),if_pos rfl];exact hA.pick pZ⟩
   by_cases k5:kind=5
   · subst k5
     obtain⟨av,hav⟩:∃z,tryV b num foot path mode=z:=⟨_,rfl⟩
     have hav2:∃x y z,av=ansV x y z:=by rw[←hav];unfold tryV;split;(split<;>exact⟨_,_,_,rfl⟩);(split<;>exact⟨_,_,_,rfl⟩)
     obtain⟨a1,a2,a3,rfl⟩:=hav2;have had2:=htr'.out;simp only[hav] at had2;have had3:=Hd had2;have hav':=Hd hav;clear had2 hav htr';go_wp2_with fail;refine(had3.out _ (hA.sep1 (A:=TabP t p m ss b) sZ)).mono ?_;rintro e w1 ⟨rfl,hT⟩;replace hA:=hA.call1 (A:=TabP t p m ss b) sZ hT;clear hT hF;obtain⟨hA,hF⟩:=fY hA
     go_wp2_with ((with_reducible refine gst ?_);refine wTy hA ?_;clear hF hA;intro w1 hA hF)
     exact bodyPost_ret (v:=ansV a1 a2 a3) (by simp[results,Tryz.results65,go_sem,hF]) rfl ⟨by first|rfl|(rw[lkV,if_neg (by decide),if_neg (by decide),if_pos rfl,hav'.out]),by rw[lkB,if_neg (by decide),if_neg (by decide),if_pos rfl];exact hA.pick pZ⟩
   by_cases k6:kind=6
   · subst k6
     obtain⟨rc,hrc⟩:∃z,(if(Lock.find b.es path num foot).isSome=true then(0:Int) else 52)=z:=⟨_,rfl⟩
     have hrm2:=hrm'.out;simp only[hrc] at hrm2;have hrm3:=Hd hrm2;have hrc':=Hd hrc;clear hrm2 hrm' hrc;replace hA:=ZbC hA sZ;clear hF;obtain⟨hA,hF⟩:=fY hA;go_upto_region 10 with fail
     (try go_frame);replace hA:=hA.drew;clear hF;refine wp_region_held (S:=fun w'=>Zaa w' t (k2 p b.p) 87∧Zaa w' b3 (k8 6 num foot req path mode n time) 37) hm ?_;change wpAnyH _ _ _ _ _ 11 _ _ (World.drew _);generalize World.drew _=wd at *
     have hS0:=(⟨hA.get (A:=Part.cells t (k2 p b.p) 87) sZ,hA.get (A:=Part.cells b3 (k8 6 num foot req path mode n time) 37) sZ⟩:(fun w'=>Zaa w' t (k2 p b.p) 87∧Zaa w' b3 (k8 6 num foot req path mode n time) 37) wd)
     refine tP 0 27 (.pointer (some ⟨t,0,none⟩)) (s:=hS0) (h:= ?_);(try go_frame);refine tP 1 28 (.pointer (some ⟨t,0,none⟩)) (s:=hS0) (h:= ?_);(try go_frame);refine tP 2 29 (.pointer (some ⟨t,1,none⟩)) (s:=hS0) (h:= ?_);(try go_frame);refine tZ 3 30 (.pointer (some ⟨b.p,0,none⟩)) (r:=(fun w' hS=>Zac (ty:=84) (b:=t) (j:=1) rfl (by exact rfl) hS.1 (by kernel_rfl) rfl)) (s:=hS0) (h:= ?_);(try go_frame);refine tP 4 31 (.pointer (some ⟨b3,4,none⟩)) (s:=hS0) (h:= ?_);(try go_frame);refine tZ 5 32 (.string path) (r:=(fun w' hS=>Zac (ty:=9) (b:=b3) (j:=4) rfl (by exact rfl) hS.2 (by kernel_rfl) rfl)) (s:=hS0) (h:= ?_);(try go_frame);refine tP 6 33 (.pointer (some ⟨b3,1,none⟩)) (s:=hS0) (h:= ?_);(try go_frame);refine tZ 7 34 (.agg #[.int .u64 num,.string foot]) (r:=(fun w' hS=>Zae (ty:=35) (n:=2) (b:=b3) (j:=1) rfl (by exact rfl) hS.2 (by kernel_rfl) (by kernel_rfl) rfl rfl)) (s:=hS0) (h:= ?_);(try go_frame);refine Zab (i:=8) (by kernel_rfl) ?_;refine cY 8 35 90 (fun u w'=>u=.int .i64 rc∧At [Lock.BookP b] _ [Lock.BookP (b.with (b.st.remove path num foot))] w') ((hrm3.out _ (hA.sep1 (A:=Lock.BookP b) sZ)).mono fun e w' ⟨he,hT⟩=>⟨_,he,rfl,hT⟩) ?_;rintro u w3 ⟨rfl,hT⟩;have hB:=hA.call1 (A:=Lock.BookP b) sZ hT;clear hT;simp only[uA] at hB;refine andH ⟨hB.ci,hB.ci⟩ fun hS0=> ?_;replace hA:=hB;clear hB;(try go_frame);refine Zab (i:=9) (by kernel_rfl) ?_;refine cY 9 36 40 (fun u w'=>u=ansV rc 0 false∧Ext _ w') ((ZaE _ _).mono fun e w' ⟨he,hx⟩=>⟨_,he,rfl,hx⟩) ?_;rintro u w3 ⟨rfl,hx⟩;have hB:=hA.ext hx;clear hx;refine andH ⟨hB.ci,hB.ci⟩ fun hS0=> ?_;replace hA:=hB;clear hB;(try go_frame);refine Zab (i:=10) (by kernel_rfl) ?_;refine stZ 10 b4 0 [.int .i64 rc,.int .u64 0,.bool false] hA ?_;intro w3 hB;simp only[uA] at hB;refine andH ⟨hB.ci,hB.ci⟩ fun hS0=> ?_;replace hA:=hB;clear hB;(try go_frame);refine wpAnyH_done (by kernel_rfl) ?_ _;(try go_frame);clear hS0;obtain⟨hA,hF⟩:=fY hA;go_wp2_with fail;exact bodyPost_ret (v:=ansV rc 0 false) (by simp[results,Tryz.results65,go_sem,hF]) rfl ⟨by rw[lkV,if_neg (by decide),if_neg (by decide),if_neg (by decide),if_pos rfl,hrc'.out],by rw[lkB,if_neg (by decide),if_neg (by decide),if_neg (by decide),if_pos rfl];exact(Zdd (b:=b.with (b.st.remove path num foot)) hA sZ sZ sZ).pick pZ⟩
   obtain⟨cb,hcb⟩:∃z,Zbu b.es path n=z:=⟨_,rfl⟩
   have hck2:=hck'.out;simp only[hcb] at hck2;have hck3:=Hd hck2;have hcb':=Hd hcb;clear hck2 hck' hcb;replace hA:=ZbC hA sZ;clear hF;obtain⟨hA,hF⟩:=fY hA;go_upto_region 11 with fail
   (try go_frame);replace hA:=hA.drew;clear hF;refine wp_region_held (S:=fun w'=>Zaa w' t (k2 p b.p) 87∧Zaa w' b3 (k8 kind num foot req path mode n time) 37) hm ?_;change wpAnyH _ _ _ _ _ 10 _ _ (World.drew _);generalize World.drew _=wd at *
   have hS0:=(⟨hA.get (A:=Part.cells t (k2 p b.p) 87) sZ,hA.get (A:=Part.cells b3 (k8 kind num foot req path mode n time) 37) sZ⟩:(fun w'=>Zaa w' t (k2 p b.p) 87∧Zaa w' b3 (k8 kind num foot req path mode n time) 37) wd)
   refine tP 0 37 (.pointer (some ⟨t,0,none⟩)) (s:=hS0) (h:= ?_);(try go_frame);refine tP 1 38 (.pointer (some ⟨t,0,none⟩)) (s:=hS0) (h:= ?_);(try go_frame);refine tP 2 39 (.pointer (some ⟨t,1,none⟩)) (s:=hS0) (h:= ?_);(try go_frame);refine tZ 3 40 (.pointer (some ⟨b.p,0,none⟩)) (r:=(fun w' hS=>Zac (ty:=84) (b:=t) (j:=1) rfl (by exact rfl) hS.1 (by kernel_rfl) rfl)) (s:=hS0) (h:= ?_);(try go_frame);refine tP 4 41 (.pointer (some ⟨b3,4,none⟩)) (s:=hS0) (h:= ?_);(try go_frame);refine tZ 5 42 (.string path) (r:=(fun w' hS=>Zac (ty:=9) (b:=b3) (j:=4) rfl (by exact rfl) hS.2 (by kernel_rfl) rfl)) (s:=hS0) (h:= ?_);(try go_frame);refine tP 6 43 (.pointer (some ⟨b3,6,none⟩)) (s:=hS0) (h:= ?_);(try go_frame);refine tZ 7 44 (.int .u64 n) (r:=(fun w' hS=>Zac (ty:=22) (b:=b3) (j:=6) rfl (by exact rfl) hS.2 (by kernel_rfl) rfl)) (s:=hS0) (h:= ?_);(try go_frame);refine Zab (i:=8) (by kernel_rfl) ?_;refine cY 8 45 91 (fun u w'=>u=.bool cb∧At [Lock.BookP b] _ [Lock.BookP b] w') ((hck3.out _ (hA.sep1 (A:=Lock.BookP b) sZ)).mono fun e w' ⟨he,hT⟩=>⟨_,he,rfl,hT⟩) ?_;rintro u w3 ⟨rfl,hT⟩;have hB:=hA.call1 (A:=Lock.BookP b) sZ hT;clear hT;simp only[uA] at hB;refine andH ⟨hB.ci,hB.ci⟩ fun hS0=> ?_;replace hA:=hB;clear hB;(try go_frame);refine tP 9 46 (.bool (!cb)) (s:=hS0) (h:= ?_);(try go_frame);refine wpAnyH_done (by kernel_rfl) ?_ _;(try go_frame);clear hS0;obtain⟨hA,hF⟩:=fY hA;cases cb
   · go_wp2_with fail;refine(ZaE _ _).mono ?_;rintro e w1 ⟨rfl,hx⟩;replace hA:=hA.ext hx;clear hx hF;obtain⟨hA,hF⟩:=fY hA
     go_wp2_with ((with_reducible refine gst ?_);refine wTy hA ?_;clear hF hA;intro w1 hA hF)
     exact bodyPost_ret (v:=ansV 52 0 false) (by simp[results,Tryz.results65,go_sem,hF]) rfl ⟨by rw[lkV,if_neg (by decide),if_neg k4,if_neg k5,if_neg k6,hcb'.out];rfl,by rw[lkB,if_neg (by decide),if_neg k4,if_neg k5,if_neg k6];exact(Zdd hA sZ sZ sZ).pick pZ⟩
   go_wp2_with fail;refine(ZaE _ _).mono ?_;rintro e w1 ⟨rfl,hx⟩;replace hA:=hA.ext hx;clear hx hF;obtain⟨hA,hF⟩:=fY hA
   go_wp2_with ((with_reducible refine gst ?_);refine wTy hA ?_;clear hF hA;intro w1 hA hF)
   exact bodyPost_ret (v:=ansV 0 0 false) (by simp[results,Tryz.results65,go_sem,hF]) rfl ⟨by rw[lkV,if_neg (by decide),if_neg k4,if_neg k5,if_neg k6,hcb'.out];rfl,by rw[lkB,if_neg (by decide),if_neg k4,if_neg k5,if_neg k6];exact(Zdd hA sZ sZ sZ).pick pZ⟩
 go_wp2_with fail;refine(ZaE _ _).mono ?_;rintro e w1 ⟨rfl,hx⟩;replace hA:=hA.ext hx;clear hx hF;obtain⟨hA,hF⟩:=fY hA
 go_wp2_with ((with_reducible refine gst ?_);refine wTy hA ?_;clear hF hA;intro w1 hA hF)
 exact bodyPost_ret (v:=ansV me 0 false) (by simp[results,Tryz.results65,go_sem,hF]) rfl ⟨by rw[lkV,if_pos hz],by rw[lkB,if_pos hz];exact hA.pick pZ⟩
end
end Tab
end
section
namespace Tab
open Go.RowKit
open Path (bl Zag overB ZaB)
open Lease (Ses Ans fresh Zbx)
open Lock (S3 Ent)
open Cmd (Cm Zar)
attribute [-go_sem] run_eql_struct run_neq_struct run_eqGuard_agg
def TPost (t p m:Nat) (ss:List Ses) (b:Lock.Bk) (w:World) (T:TS) (a:Ans) (e:Ending) (w':World):Prop:=
 ∃ss' b',e=.returned a.val∧TRel ss' b' T∧At [TabP t p m ss b] w [TabP t p m ss' b'] w'
theorem ZkC {ss ss':List Ses} {b:Lock.Bk} {T:TS} {c:Cm} {g:Ses→Ses} {code:Int} (hR:TRel ss b T) (hk:Kn ss) (hg:∀s,zs (g s)=g (zs s)) (hq:code≠0∧ss'=ss∨code=0∧Zbx ss c.num c.foot g ss'):TRel ss' b (opT T c g code):=by
 unfold opT;rcases hq with⟨h1,rfl⟩|⟨h1,h2⟩
 · rw[if_neg h1];exact hR
 rw[if_pos h1];exact⟨by rw[Zfg hk h2 hg,hR.S],hR.L⟩
theorem Zll {ss ss':List Ses} {b:Lock.Bk} {T:TS} {c:Cm} {code:Int} (hR:TRel ss b T) (hk:Kn ss) (hq:code≠0∧ss'=ss∨code=0∧Zbx ss c.num c.foot Ses.ended ss'):TRel ss' (if code=0 then b.with (b.st.dropAll c.num c.foot) else b) (endT T c code):=by
 unfold endT;rcases hq with⟨h1,rfl⟩|⟨h1,h2⟩
 · rw[if_neg h1,if_neg h1];exact hR
 rw[if_pos h1,if_pos h1];exact⟨by rw[Zfg hk h2 fun s=>rfl,hR.S],by rw[←hR.L];rfl⟩
theorem kn_zs {ss:List Ses}:Kn (ss.map zs)↔Kn ss:=by
 unfold Kn;rw[List.map_map];rfl
theorem TRel.kn {ss:List Ses} {b:Lock.Bk} {T:TS} {k:Nat} (hR:TRel ss b T) (hI:SInv T.S k):Kn ss:=kn_zs.1 (by rw[hR.S];exact hI.keys)
theorem TRel.look {ss:List Ses} {b:Lock.Bk} {T:TS} (hR:TRel ss b T) (n:Int) (f:ByteArray):lookA T.S n f=zs (Lease.look ss n f):=by rw[←hR.S,Zol]
theorem TRel.cnt {ss:List Ses} {b:Lock.Bk} {T:TS} (hR:TRel ss b T) (f:ByteArray):Lease.cnt T.S f=Lease.cnt ss f:=by rw[←hR.S,cnt_zs]
theorem TRel.len {ss:List Ses} {b:Lock.Bk} {T:TS} {k:Nat} (hR:TRel ss b T) (hI:SInv T.S k):ss.length≤k:=by
 have:=hI.len;rw[←hR.S,List.length_map] at this;exact this
theorem lk_rel {ss:List Ses} {b:Lock.Bk} {T:TS} (hR:TRel ss b T) (c:Cm):lkV (mayI ss c.num c.foot c.path) b c.kind c.num c.foot c.path c.mode c.n=(ZbD T c).2.val∧TRel ss (lkB (mayI ss c.num c.foot c.path) b c.kind c.num c.foot c.path c.mode) (ZbD T c).1:=by
 have hme:mayT T c=mayI ss c.num c.foot c.path:=by unfold mayT mayI;rw[hR.look];rfl
 have hes:T.L.es=b.es:=by rw[←hR.L];rfl
 unfold ZbD lkV lkB;rw[hme,hes]
 have hadd:(if b.st.may c.path c.num c.foot c.mode=0 then ansV 0 (b.st.addE c.path c.num c.foot c.mode).n (Lock.Za3 b.es c.path c.mode) else ansV (b.st.may c.path c.num c.foot c.mode) 0 false)=(addT T c).2.val∧TRel ss (b.with (b.st.add c.path c.num c.foot c.mode)) (addT T c).1:=by
  unfold addT;rw[hes,←hR.L];constructor
  · by_cases h:b.st.may c.path c.num c.foot c.mode=0
    · rw[if_pos h,if_pos h,show(b.st.addE c.path c.num c.foot c.mode)=b.st.newE c.path c.num c.foot c.mode from if_pos h];rfl
    rw[if_neg h,if_neg h];rfl
  refine⟨hR.S,?_⟩
  unfold Lock.S3.add;split<;>rfl
 split
 · exact⟨rfl,hR⟩
 split
 · exact hadd
 split
 · unfold tryV tryB tryT;rw[hes];by_cases h:Lock.Za3 b.es c.path c.mode=true
   · rw[if_pos h,if_pos h,if_pos h];exact hadd
   rw[if_neg h,if_neg h,if_neg h,←hR.L];split
   · exact⟨rfl,hR⟩
   exact⟨rfl,hR⟩
 split
 · exact⟨rfl,hR.S,by rw[←hR.L];rfl⟩
 exact⟨rfl,hR⟩
theorem do_any {w:World} {t p m:Nat} {ss:List Ses} {b:Lock.Bk} (h:Sep [TabP t p m ss b] w) (kind num:Int) (foot:ByteArray) (req:Int) (path:ByteArray) (mode n time:Int) {T:TS} (hR:TRel ss b T) {k:Nat} (hI:SInv T.S k) (hk:k≤1000000) (h0:0≤num) (h1:num < Lease.big64) (hf:foot.size≤1000) (hp:path.size≤1000) (hok:LkOk b) (hn:kind=1→0≤n∧n≤1048576):
 Calls Tryz.prog 41 #[.pointer (some ⟨t,0,none⟩),.agg #[.int .i64 kind,.int .u64 num,.string foot,.int .u64 req,.string path,.int .i64 mode,.int .u64 n,.int .i64 time]] w (TPost t p m ss b w (doT T ⟨kind,num,foot,req,path,mode,n,time⟩).1 (doT T ⟨kind,num,foot,req,path,mode,n,time⟩).2):=by
 have hm:Tryz.prog.follows .mixedOrders=true:=by kernel_rfl
 have hkn:=Hd (hR.kn hI);have hlen:=hR.len hI;have hR':=Hd hR;have hok':=Hd hok;have hmf:foot.size≤maxLen:=by unfold maxLen;omega
 have hlk:=hR.look num foot;have hcn:=hR.cnt foot
 have hdo:doT T ⟨kind,num,foot,req,path,mode,n,time⟩=(if kind=1 then(opT T ⟨kind,num,foot,req,path,mode,n,time⟩ (fun s=>s.opened n time) (Lease.openE (Lease.look ss num foot) (Lease.cnt ss foot)),ansE (Lease.openE (Lease.look ss num foot) (Lease.cnt ss foot)))
  else if kind=2 then(endT T ⟨kind,num,foot,req,path,mode,n,time⟩ (if(Lease.look ss num foot).op then 0 else 50),ansE (if(Lease.look ss num foot).op then 0 else 50))
  else if kind=3 then(opT T ⟨kind,num,foot,req,path,mode,n,time⟩ (fun s=>s.kept time) (if(Lease.look ss num foot).op then 0 else 50),ansE (if(Lease.look ss num foot).op then 0 else 50)) else ZbD T ⟨kind,num,foot,req,path,mode,n,time⟩):=by
  unfold doT;simp only[hlk,hcn];rfl
 have hd1:=Hd (fun(e:kind=1)=>hdo.trans (if_pos e));have hd2:=Hd (fun(e:kind=2)=>hdo.trans ((if_neg (by omega)).trans (if_pos e)));have hd3:=Hd (fun(e:kind=3)=>hdo.trans ((if_neg (by omega)).trans ((if_neg (by omega)).trans (if_pos e))));have hd4:=Hd (fun(e1:¬kind=1) (e2:¬kind=2) (e3:¬kind=3)=>hdo.trans ((if_neg e1).trans ((if_neg e2).trans (if_neg e3))));have hop:=Hd (fun(w1:World) (q:Sep [Lease.BookP p m ss] w1)=>Lease.Zlz q h0 h1 hmf (Nat.le_trans hlen hk) n time);have hke:=Hd (fun(w1:World) (q:Sep [Lease.BookP p m ss] w1)=>Lease.ZlA q h0 h1 hmf time);have hen:=Hd (fun(w1:World) (q:Sep [Lease.BookP p m ss] w1)=>Lease.Zne q h0 h1 hmf);have hlo:=Hd (fun(w1:World) (q:Sep [TabP t p m ss b] w1)=>Zom q kind num foot req path mode n time h0 h1 hf hp hok);clear hR hlk hcn hdo hok;have hA:=At.start h;clear h;obtain⟨hA,hF⟩:=fY hA;go_enter Tryz.func41,Tryz.ntmps41;by_cases k1:kind=1
 · subst k1
   obtain⟨co,hco⟩:∃z,Lease.openE (Lease.look ss num foot) (Lease.cnt ss foot)=z:=⟨_,rfl⟩
   have hz:=hop.out;simp only[hco] at hz;have hop3:=Hd hz;have hco':=Hd hco;clear hz hco hop;have hn1:=hn rfl;have hcv:IntKind.i64.wrap n=n:=by rw[IntKind.wrap_i64]<;>omega
   replace hA:=ZbC hA sZ;clear hF;obtain⟨hA,hF⟩:=fY hA
   go_upto_region 3 with(first|((with_reducible refine gbx ?_);refine wHy 37 [.int .i64 1,.int .u64 num,.string foot,.int .u64 req,.string path,.int .i64 mode,.int .u64 n,.int .i64 time] hA ?_;clear hF hA;intro b3 w1 hA hb3 hF)|((with_reducible refine gal ?_);refine g1 hA ?_;clear hF hA;intro b4 w1 hA hb4 hF))
   (try go_frame);replace hA:=hA.drew;clear hF;refine wp_region_held (S:=fun w'=>Zaa w' t (k2 p b.p) 87∧Zaa w' b3 (k8 1 num foot req path mode n time) 37) hm ?_;change wpAnyH _ _ _ _ _ 14 _ _ (World.drew _);generalize World.drew _=wd at *
   have hS0:=(⟨hA.get (A:=Part.cells t (k2 p b.p) 87) sZ,hA.get (A:=Part.cells b3 (k8 1 num foot req path mode n time) 37) sZ⟩:(fun w'=>Zaa w' t (k2 p b.p) 87∧Zaa w' b3 (k8 1 num foot req path mode n time) 37) wd)
   refine tP 0 9 (.pointer (some ⟨t,0,none⟩)) (s:=hS0) (h:= ?_);(try go_frame);refine tP 1 10 (.pointer (some ⟨t,0,none⟩)) (s:=hS0) (h:= ?_);(try go_frame);refine tP 2 11 (.pointer (some ⟨t,0,none⟩)) (s:=hS0) (h:= ?_);(try go_frame);refine tZ 3 12 (.pointer (some ⟨p,0,none⟩)) (r:=(fun w' hS=>Zac (ty:=82) (b:=t) (j:=0) rfl (by exact rfl) hS.1 (by kernel_rfl) rfl)) (s:=hS0) (h:= ?_);(try go_frame);refine tP 4 13 (.pointer (some ⟨b3,1,none⟩)) (s:=hS0) (h:= ?_);(try go_frame);refine tZ 5 14 (.agg #[.int .u64 num,.string foot]) (r:=(fun w' hS=>Zae (ty:=35) (n:=2) (b:=b3) (j:=1) rfl (by exact rfl) hS.2 (by kernel_rfl) (by kernel_rfl) rfl rfl)) (s:=hS0) (h:= ?_);(try go_frame);refine tP 6 15 (.pointer (some ⟨b3,6,none⟩)) (s:=hS0) (h:= ?_);(try go_frame);refine tZ 7 16 (.int .u64 n) (r:=(fun w' hS=>Zac (ty:=22) (b:=b3) (j:=6) rfl (by exact rfl) hS.2 (by kernel_rfl) rfl)) (s:=hS0) (h:= ?_);(try go_frame);refine tZ 8 17 (.int .i64 n) (r:=(fun w' hS=>by simp[execOp,go_sem,Act.eval,Act.put,hcv])) (s:=hS0) (h:= ?_);(try go_frame);refine tP 9 18 (.pointer (some ⟨b3,7,none⟩)) (s:=hS0) (h:= ?_);(try go_frame);refine tZ 10 19 (.int .i64 time) (r:=(fun w' hS=>Zac (ty:=3) (b:=b3) (j:=7) rfl (by exact rfl) hS.2 (by kernel_rfl) rfl)) (s:=hS0) (h:= ?_);(try go_frame);refine Zab (i:=11) (by kernel_rfl) ?_;refine cY 11 20 63 (fun u w'=>∃ss',u=.int .i64 co∧At [Lease.BookP p m ss] _ [Lease.BookP p m ss'] w'∧(co≠0∧ss'=ss∨co=0∧Zbx ss num foot (fun s=>s.opened n time) ss')) ((hop3.out _ (hA.sep1 (A:=Lease.BookP p m ss) sZ)).mono fun e w' ⟨ss',he,hT,hq⟩=>⟨_,he,ss',rfl,hT,hq⟩) ?_;rintro u w3 ⟨ss',rfl,hT,hq⟩;have hq':=Hd hq;have hB:=hA.call1 (A:=Lease.BookP p m ss) sZ hT;clear hT hq;simp only[uA] at hB;refine andH ⟨hB.ci,hB.ci⟩ fun hS0=> ?_;replace hA:=hB;clear hB;(try go_frame);refine Zab (i:=12) (by kernel_rfl) ?_;refine cY 12 21 40 (fun u w'=>u=ansV co 0 false∧Ext _ w') ((ZaE _ _).mono fun e w' ⟨he,hx⟩=>⟨_,he,rfl,hx⟩) ?_;rintro u w3 ⟨rfl,hx⟩;have hB:=hA.ext hx;clear hx;refine andH ⟨hB.ci,hB.ci⟩ fun hS0=> ?_;replace hA:=hB;clear hB;(try go_frame);refine Zab (i:=13) (by kernel_rfl) ?_;refine stZ 13 b4 0 [.int .i64 co,.int .u64 0,.bool false] hA ?_;intro w3 hB;simp only[uA] at hB;refine andH ⟨hB.ci,hB.ci⟩ fun hS0=> ?_;replace hA:=hB;clear hB;(try go_frame);refine wpAnyH_done (by kernel_rfl) ?_ _;(try go_frame);clear hS0;obtain⟨hA,hF⟩:=fY hA;go_wp2_with fail;refine bodyPost_ret (v:=ansV co 0 false) (by simp[results,Tryz.results41,go_sem,hF]) rfl ?_;rw[hd1.out (by simp)];exact⟨ss',b,by rw[←hco'.out];rfl,by rw[hco'.out];exact ZkC hR'.out hkn.out (fun s=>rfl) hq'.out,ZaC (ss:=ss') (hA.pick pZ)⟩
 by_cases x2:kind=2
 · subst x2
   obtain⟨co,hco⟩:∃z,(if(Lease.look ss num foot).op=true then(0:Int) else 50)=z:=⟨_,rfl⟩
   have hz:=hen.out;simp only[hco] at hz;have hen3:=Hd hz;have hco':=Hd hco;clear hz hco hen;replace hA:=ZbC hA sZ;clear hF;obtain⟨hA,hF⟩:=fY hA
   go_upto_region 5 with(first|((with_reducible refine gbx ?_);refine wHy 37 [.int .i64 2,.int .u64 num,.string foot,.int .u64 req,.string path,.int .i64 mode,.int .u64 n,.int .i64 time] hA ?_;clear hF hA;intro b3 w1 hA hb3 hF)|((with_reducible refine gal ?_);refine g1 hA ?_;clear hF hA;intro b4 w1 hA hb4 hF))
   (try go_frame);replace hA:=hA.drew;clear hF;refine wp_region_held (S:=fun w'=>Zaa w' t (k2 p b.p) 87∧Zaa w' b3 (k8 2 num foot req path mode n time) 37) hm ?_;change wpAnyH _ _ _ _ _ 12 _ _ (World.drew _);generalize World.drew _=wd at *
   have hS0:=(⟨hA.get (A:=Part.cells t (k2 p b.p) 87) sZ,hA.get (A:=Part.cells b3 (k8 2 num foot req path mode n time) 37) sZ⟩:(fun w'=>Zaa w' t (k2 p b.p) 87∧Zaa w' b3 (k8 2 num foot req path mode n time) 37) wd)
   refine tP 0 24 (.pointer (some ⟨t,0,none⟩)) (s:=hS0) (h:= ?_);(try go_frame);refine tP 1 25 (.pointer (some ⟨b3,1,none⟩)) (s:=hS0) (h:= ?_);(try go_frame);refine tZ 2 26 (.agg #[.int .u64 num,.string foot]) (r:=(fun w' hS=>Zae (ty:=35) (n:=2) (b:=b3) (j:=1) rfl (by exact rfl) hS.2 (by kernel_rfl) (by kernel_rfl) rfl rfl)) (s:=hS0) (h:= ?_);(try go_frame);refine tP 3 27 (.pointer (some ⟨t,0,none⟩)) (s:=hS0) (h:= ?_);(try go_frame);refine tP 4 28 (.pointer (some ⟨t,0,none⟩)) (s:=hS0) (h:= ?_);(try go_frame);refine tP 5 29 (.pointer (some ⟨t,0,none⟩)) (s:=hS0) (h:= ?_);(try go_frame);refine tZ 6 30 (.pointer (some ⟨p,0,none⟩)) (r:=(fun w' hS=>Zac (ty:=82) (b:=t) (j:=0) rfl (by exact rfl) hS.1 (by kernel_rfl) rfl)) (s:=hS0) (h:= ?_);(try go_frame);refine tP 7 31 (.pointer (some ⟨b3,1,none⟩)) (s:=hS0) (h:= ?_);(try go_frame);refine tZ 8 32 (.agg #[.int .u64 num,.string foot]) (r:=(fun w' hS=>Zae (ty:=35) (n:=2) (b:=b3) (j:=1) rfl (by exact rfl) hS.2 (by kernel_rfl) (by kernel_rfl) rfl rfl)) (s:=hS0) (h:= ?_);(try go_frame);refine Zab (i:=9) (by kernel_rfl) ?_;refine cY 9 33 62 (fun u w'=>∃ss',u=.int .i64 co∧At [Lease.BookP p m ss] _ [Lease.BookP p m ss'] w'∧(co≠0∧ss'=ss∨co=0∧Zbx ss num foot Ses.ended ss')) ((hen3.out _ (hA.sep1 (A:=Lease.BookP p m ss) sZ)).mono fun e w' ⟨ss',he,hT,hq⟩=>⟨_,he,ss',rfl,hT,hq⟩) ?_;rintro u w3 ⟨ss',rfl,hT,hq⟩;have hq':=Hd hq;have hB:=hA.call1 (A:=Lease.BookP p m ss) sZ hT;clear hT hq;simp only[uA] at hB;refine andH ⟨hB.ci,hB.ci⟩ fun hS0=> ?_;replace hA:=hB;clear hB;(try go_frame);refine Zab (i:=10) (by kernel_rfl) ?_;replace hA:=Zdd (ss:=ss') hA sZ sZ sZ;refine cY 10 34 36 (fun u w'=>u=ansV co 0 false∧At [TabP t p m ss' b] _ [TabP t p m ss' (if co=0 then b.with (b.st.dropAll num foot) else b)] w') ((Zhn (hA.sep1 (A:=TabP t p m ss' b) sZ) num foot co hok'.out).mono fun e w' ⟨he,hT⟩=>⟨_,he,rfl,hT⟩) ?_;rintro u w3 ⟨rfl,hT⟩;have hC:=hA.call1 (A:=TabP t p m ss' b) sZ hT;clear hT;simp only[uA] at hC
   obtain⟨b',hb'⟩:∃z,(if co=0 then b.with (b.st.dropAll num foot) else b)=z:=⟨_,rfl⟩
   rw[hb'] at hC;have hbp:b'.p=b.p:=by rw[←hb'];split<;>rfl
   have hB:=ZbC hC sZ;rw[hbp] at hB;have hb2:=Hd hb';have hbp':=Hd hbp;clear hC hb' hbp;refine andH ⟨hB.ci,hB.ci⟩ fun hS0=> ?_;replace hA:=hB;clear hB;(try go_frame);refine Zab (i:=11) (by kernel_rfl) ?_;refine stZ 11 b4 0 [.int .i64 co,.int .u64 0,.bool false] hA ?_;intro w3 hB;simp only[uA] at hB;refine andH ⟨hB.ci,hB.ci⟩ fun hS0=> ?_;replace hA:=hB;clear hB;(try go_frame);refine wpAnyH_done (by kernel_rfl) ?_ _;(try go_frame);clear hS0;obtain⟨hA,hF⟩:=fY hA;go_wp2_with fail;refine bodyPost_ret (v:=ansV co 0 false) (by simp[results,Tryz.results41,go_sem,hF]) rfl ?_;rw[hd2.out (by simp)];exact⟨ss',b',by rw[←hco'.out];rfl,by rw[hco'.out,←hb2.out];exact Zll (c:=⟨2,num,foot,req,path,mode,n,time⟩) hR'.out hkn.out hq'.out,ZaC (ss:=ss') (b:=b') (by rw[hbp'.out];exact hA.pick pZ)⟩
 by_cases k3:kind=3
 · subst k3
   obtain⟨co,hco⟩:∃z,(if(Lease.look ss num foot).op=true then(0:Int) else 50)=z:=⟨_,rfl⟩
   have hz:=hke.out;simp only[hco] at hz;have hke3:=Hd hz;have hco':=Hd hco;clear hz hco hke;replace hA:=ZbC hA sZ;clear hF;obtain⟨hA,hF⟩:=fY hA
   go_upto_region 7 with(first|((with_reducible refine gbx ?_);refine wHy 37 [.int .i64 3,.int .u64 num,.string foot,.int .u64 req,.string path,.int .i64 mode,.int .u64 n,.int .i64 time] hA ?_;clear hF hA;intro b3 w1 hA hb3 hF)|((with_reducible refine gal ?_);refine g1 hA ?_;clear hF hA;intro b4 w1 hA hb4 hF))
   (try go_frame);replace hA:=hA.drew;clear hF;refine wp_region_held (S:=fun w'=>Zaa w' t (k2 p b.p) 87∧Zaa w' b3 (k8 3 num foot req path mode n time) 37) hm ?_;change wpAnyH _ _ _ _ _ 11 _ _ (World.drew _);generalize World.drew _=wd at *
   have hS0:=(⟨hA.get (A:=Part.cells t (k2 p b.p) 87) sZ,hA.get (A:=Part.cells b3 (k8 3 num foot req path mode n time) 37) sZ⟩:(fun w'=>Zaa w' t (k2 p b.p) 87∧Zaa w' b3 (k8 3 num foot req path mode n time) 37) wd)
   refine tP 0 37 (.pointer (some ⟨t,0,none⟩)) (s:=hS0) (h:= ?_);(try go_frame);refine tP 1 38 (.pointer (some ⟨t,0,none⟩)) (s:=hS0) (h:= ?_);(try go_frame);refine tP 2 39 (.pointer (some ⟨t,0,none⟩)) (s:=hS0) (h:= ?_);(try go_frame);refine tZ 3 40 (.pointer (some ⟨p,0,none⟩)) (r:=(fun w' hS=>Zac (ty:=82) (b:=t) (j:=0) rfl (by exact rfl) hS.1 (by kernel_rfl) rfl)) (s:=hS0) (h:= ?_);(try go_frame);refine tP 4 41 (.pointer (some ⟨b3,1,none⟩)) (s:=hS0) (h:= ?_);(try go_frame);refine tZ 5 42 (.agg #[.int .u64 num,.string foot]) (r:=(fun w' hS=>Zae (ty:=35) (n:=2) (b:=b3) (j:=1) rfl (by exact rfl) hS.2 (by kernel_rfl) (by kernel_rfl) rfl rfl)) (s:=hS0) (h:= ?_);(try go_frame);refine tP 6 43 (.pointer (some ⟨b3,7,none⟩)) (s:=hS0) (h:= ?_);(try go_frame);refine tZ 7 44 (.int .i64 time) (r:=(fun w' hS=>Zac (ty:=3) (b:=b3) (j:=7) rfl (by exact rfl) hS.2 (by kernel_rfl) rfl)) (s:=hS0) (h:= ?_);(try go_frame);refine Zab (i:=8) (by kernel_rfl) ?_;refine cY 8 45 64 (fun u w'=>∃ss',u=.int .i64 co∧At [Lease.BookP p m ss] _ [Lease.BookP p m ss'] w'∧(co≠0∧ss'=ss∨co=0∧Zbx ss num foot (fun s=>s.kept time) ss')) ((hke3.out _ (hA.sep1 (A:=Lease.BookP p m ss) sZ)).mono fun e w' ⟨ss',he,hT,hq⟩=>⟨_,he,ss',rfl,hT,hq⟩) ?_;rintro u w3 ⟨ss',rfl,hT,hq⟩;have hq':=Hd hq;have hB:=hA.call1 (A:=Lease.BookP p m ss) sZ hT;clear hT hq;simp only[uA] at hB;refine andH ⟨hB.ci,hB.ci⟩ fun hS0=> ?_;replace hA:=hB;clear hB;(try go_frame);refine Zab (i:=9) (by kernel_rfl) ?_;refine cY 9 46 40 (fun u w'=>u=ansV co 0 false∧Ext _ w') ((ZaE _ _).mono fun e w' ⟨he,hx⟩=>⟨_,he,rfl,hx⟩) ?_;rintro u w3 ⟨rfl,hx⟩;have hB:=hA.ext hx;clear hx;refine andH ⟨hB.ci,hB.ci⟩ fun hS0=> ?_;replace hA:=hB;clear hB;(try go_frame);refine Zab (i:=10) (by kernel_rfl) ?_;refine stZ 10 b4 0 [.int .i64 co,.int .u64 0,.bool false] hA ?_;intro w3 hB;simp only[uA] at hB;refine andH ⟨hB.ci,hB.ci⟩ fun hS0=> ?_;replace hA:=hB;clear hB;(try go_frame);refine wpAnyH_done (by kernel_rfl) ?_ _;(try go_frame);clear hS0;obtain⟨hA,hF⟩:=fY hA;go_wp2_with fail;refine bodyPost_ret (v:=ansV co 0 false) (by simp[results,Tryz.results41,go_sem,hF]) rfl ?_;rw[hd3.out (by simp)];exact⟨ss',b,by rw[←hco'.out];rfl,by rw[hco'.out];exact ZkC hR'.out hkn.out (fun s=>rfl) hq'.out,ZaC (ss:=ss') (hA.pick pZ)⟩
 go_wp2_with (first|((with_reducible refine gbx ?_);refine wHy 37 [.int .i64 kind,.int .u64 num,.string foot,.int .u64 req,.string path,.int .i64 mode,.int .u64 n,.int .i64 time] hA ?_;clear hF hA;intro b3 w1 hA hb3 hF)|((with_reducible refine gal ?_);refine g1 hA ?_;clear hF hA;intro b4 w1 hA hb4 hF))
 obtain⟨hv,hrl⟩:=lk_rel hR'.out ⟨kind,num,foot,req,path,mode,n,time⟩;simp only at hv hrl;have hz:=hlo.out;simp only[hv] at hz;have hlo3:=Hd hz;have hrl':=Hd hrl;have hdo2:=Hd (show doT T ⟨kind,num,foot,req,path,mode,n,time⟩=ZbD T ⟨kind,num,foot,req,path,mode,n,time⟩ from hd4.out k1 x2 k3);clear hz hv hrl hlo
 obtain⟨⟨le,ln,lg⟩,hla⟩:∃z,(ZbD T ⟨kind,num,foot,req,path,mode,n,time⟩).2=z:=⟨_,rfl⟩
 have hz:=hlo3.out;simp only[hla,Lease.Ans.val] at hz;refine(hz _ (hA.sep1 (A:=TabP t p m ss b) sZ)).mono ?_;clear hz;have hla':=Hd hla;clear hla hlo3;rintro e w1 ⟨rfl,hT⟩;replace hA:=hA.call1 (A:=TabP t p m ss b) sZ hT;clear hT hF;obtain⟨hA,hF⟩:=fY hA
 go_wp2_with ((with_reducible refine gst ?_);refine wTy hA ?_;clear hF hA;intro w1 hA hF)
 refine bodyPost_ret (v:=ansV le ln lg) (by simp[results,Tryz.results41,go_sem,hF]) rfl ?_;rw[hdo2.out];exact⟨ss,_,by rw[hla'.out];rfl,hrl'.out,hA.pick pZ⟩
end Tab
end
end Go.Proofs.YtbeckijoabapkaaGreatDoor
