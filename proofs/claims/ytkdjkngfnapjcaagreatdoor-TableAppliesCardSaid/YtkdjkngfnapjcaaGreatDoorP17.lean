/- TabA, TabB, TabC, joined. -/
import Derived.Test.YtkdjkngfnapjcaaGreatDoorP14
import Derived.Test.YtkdjkngfnapjcaaGreatDoorP16
import Derived.Test.YtkdjkngfnapjcaaGreatDoorP6
import Derived.Test.YtkdjkngfnapjcaaGreatDoorP7
import Derived.Test.YtkdjkngfnapjcaaGreatDoorP9
import Derived.Test.YtkdjkngfnapjcaaGreatDoorP4
import Derived.Test.YtkdjkngfnapjcaaGreatDoorP15
set_option linter.unusedSimpArgs false
set_option linter.unusedVariables false
set_option maxRecDepth 100000
set_option maxHeartbeats 16000000
namespace Go.Proofs.YtkdjkngfnapjcaaGreatDoor
section
namespace Tab
open Go.RowKit
open Path (bl Zad overB Zam)
open Lease (Ses Ans fresh ZaP)
open Lock (S3 Ent)
open Cmd (Cm Zao)
attribute [-go_sem] run_eql_struct run_neq_struct run_eqGuard_agg
abbrev ansV (e n:Int) (g:Bool):Value:=.agg #[.int .i64 e,.int .u64 n,.bool g]
theorem ZaD (e:Int) (w:World):Calls Tryz.prog 117 #[.int .i64 e] w fun r w'=>r=.returned (ansV e 0 false)∧Ext w w':=by
 have hA:At [] w [] w:=At.start (L0:=[]) trivial;obtain⟨hA,hF⟩:=fY hA
 go_enter Tryz.func117,Tryz.ntmps117
 go_wp2_with (first|((with_reducible refine gal ?_);refine g1 hA ?_;clear hF hA;intro b2 w1 hA hb2 hF)|((with_reducible refine gst ?_);refine wTy hA ?_;clear hF hA;intro w1 hA hF))
 exact bodyPost_ret (v:=ansV e 0 false) (by simp[results,Tryz.results117,go_sem,hF]) rfl ⟨rfl,hA.toExt⟩
theorem Zbr {L0 L F:List Part} {w0 w:World} {t p m:Nat} {ss:List Ses} {b:Lock.Bk} (h:At L0 w0 L w) (s:Sel (TabP t p m ss b) L F):At L0 w0 (headT t p b.p::Lease.BookP p m ss::Lock.BookP b::F) w:=(h.take s).to (ZfI t p m ss b F)
theorem Zcd {L0 L F G H:List Part} {w0 w:World} {t p m:Nat} {ss:List Ses} {b:Lock.Bk} (h:At L0 w0 L w) (s1:Sel (headT t p b.p) L F) (s2:Sel (Lease.BookP p m ss) F G) (s3:Sel (Lock.BookP b) G H):At L0 w0 (TabP t p m ss b::H) w:=
 (h.perm (s1.perm.trans ((s2.perm.trans (s3.perm.cons _)).cons _))).to (ZfI t p m ss b H).symm
structure LkOk (b:Lock.Bk):Prop where
 len:b.es.length≤1000000000
 ctr:∀q,0≤Lock.counter b.first b.cs q
 path:∀x ∈ b.es,x.path.size≤1000
 stamp:∀x ∈ b.es,x.stamp≤1000000000
 num:∀x ∈ b.es,0≤x.num∧x.num < Lock.big64
 foot:∀x ∈ b.es,x.foot.size≤maxLen
 chk:∀p n,(∀e ∈ b.es,e.path=p→e.n=n→Lock.Za1 b.es e=Lock.Zbc b.es p n)∧((∀e ∈ b.es,¬(e.path=p∧e.n=n))→Lock.Zbc b.es p n=false)
theorem LkOk.of {b:Lock.Bk} {k:Nat} (h:Lock.Inv b.st k) (hk:k≤1000000):LkOk b:=
 ⟨by have:=h.len;simp only[Lock.Bk.st] at this;omega,fun q=>by have:=Lock.ZcC h q;have:=h.first0;simp only[Lock.Bk.st] at *;omega,fun x hx=>Nat.le_trans (h.path x hx) (by omega),fun x hx=>by have:=h.stamp1 x hx;omega,fun x hx=>⟨h.num0 x hx,h.num1 x hx⟩,fun x hx=>h.foot x hx,fun p n=>⟨fun e he e1 e2=>by
   obtain⟨k,hk⟩:=List.mem_iff_getElem?.1 he;rw[←e1,←e2]
   exact(Lock.Zca (l:=b.es) h.order hk).trans (Lock.Zfn (l:=b.es) h.nums hk).symm,fun q=>Lock.ZjJ q⟩⟩
section
variable {w:World} {t p m:Nat} {ss:List Ses} {b:Lock.Bk} (h:Sep [TabP t p m ss b] w)
include h
theorem ZdD:Calls Tryz.prog 47 #[.pointer (some ⟨t,0,none⟩)] w fun e w'=>e=.returned (.pointer (some ⟨p,0,none⟩))∧At [TabP t p m ss b] w [TabP t p m ss b] w':=by
 have hA:=ZaX h;clear h;obtain⟨hA,hF⟩:=fY hA
 go_enter Tryz.func47,Tryz.ntmps47
 go_wp2_with fail
 go_ret;exact⟨rfl,Zav (hA.pick pZ)⟩
theorem ZbO:Calls Tryz.prog 45 #[.pointer (some ⟨t,0,none⟩)] w fun e w'=>e=.returned (.pointer (some ⟨b.p,0,none⟩))∧At [TabP t p m ss b] w [TabP t p m ss b] w':=by
 have hA:=ZaX h;clear h;obtain⟨hA,hF⟩:=fY hA
 go_enter Tryz.func45,Tryz.ntmps45
 go_wp2_with fail
 go_ret;exact⟨rfl,Zav (hA.pick pZ)⟩
theorem Zhd (num:Int) (foot:ByteArray) (e:Int) (hok:LkOk b):
 Calls Tryz.prog 113 #[.pointer (some ⟨t,0,none⟩),.agg #[.int .u64 num,.string foot],.int .i64 e] w fun r w'=>r=.returned (ansV e 0 false)∧At [TabP t p m ss b] w [TabP t p m ss (if e=0 then b.with (b.st.dropAll num foot) else b)] w':=by
 have hm:Tryz.prog.follows .mixedOrders=true:=by kernel_rfl
 have hok':=Hd hok;clear hok
 by_cases he:e=0
 · subst he
   rw[if_pos rfl];have hA:=ZaX h;clear h;obtain⟨hA,hF⟩:=fY hA
   go_enter Tryz.func113,Tryz.ntmps113
   go_upto_region 2 with(first|((with_reducible refine gbx ?_);refine wHy 25 [.int .u64 num,.string foot] hA ?_;clear hF hA;intro b4 w1 hA hb4 hF)|((with_reducible refine gal ?_);refine g1 hA ?_;clear hF hA;intro b6 w1 hA hb6 hF))
   try go_frame
   replace hA:=hA.drew;clear hF;refine wp_region_held (S:=fun w'=>Zab w' t (k2 p b.p) 180∧Zab w' b4 [.int .u64 num,.string foot] 25) hm ?_;change wpAnyH _ _ _ _ _ 6 _ _ (World.drew _)
   generalize World.drew _=wd at *
   have hS0:=(⟨hA.get (A:=Part.cells t (k2 p b.p) 180) sZ,hA.get (A:=Part.cells b4 [.int .u64 num,.string foot] 25) sZ⟩:(fun w'=>Zab w' t (k2 p b.p) 180∧Zab w' b4 [.int .u64 num,.string foot] 25) wd)
   refine tP 0 9 (.pointer (some ⟨t,0,none⟩)) (s:=hS0) (h:= ?_)
   try go_frame
   refine tP 1 10 (.pointer (some ⟨t,0,none⟩)) (s:=hS0) (h:= ?_)
   try go_frame
   refine tP 2 11 (.pointer (some ⟨t,1,none⟩)) (s:=hS0) (h:= ?_)
   try go_frame
   refine tZ 3 12 (.pointer (some ⟨b.p,0,none⟩)) (r:=(fun w' hS=>Zac (ty:=110) (b:=t) (j:=1) rfl (by exact rfl) hS.1 (by kernel_rfl) rfl)) (s:=hS0) (h:= ?_)
   try go_frame
   refine tZ 4 13 (.agg #[.int .u64 num,.string foot]) (r:=(fun w' hS=>Zah (ty:=25) (n:=2) (b:=b4) (j:=0) rfl (by exact rfl) hS.2 (by kernel_rfl) (by kernel_rfl) rfl rfl)) (s:=hS0) (h:= ?_)
   try go_frame
   refine Zaa (i:=5) (by kernel_rfl) ?_;refine cY 5 14 165 (fun u w'=>u=.int .i64 (b.es.length - (b.st.dropAll num foot).es.length)∧At [Lock.BookP b] _ [Lock.BookP (b.with (b.st.dropAll num foot))] w') ((Lock.Zm8 (hA.sep1 (A:=Lock.BookP b) sZ) num foot hok'.out.len (fun x hx=>⟨Nat.le_trans (hok'.out.path x hx) (by unfold maxLen;omega),(hok'.out.num x hx).1,(hok'.out.num x hx).2,hok'.out.foot x hx⟩)).mono fun e w' ⟨he,hT⟩=>⟨_,he,rfl,hT⟩) ?_;rintro u w3 ⟨rfl,hT⟩;have hB:=hA.call1 (A:=Lock.BookP b) sZ hT;clear hT;simp only[uA] at hB
   refine andH ⟨hB.ci,hB.ci⟩ fun hS0=> ?_
   clear hA;have hA:=hB;clear hB
   try go_frame
   refine wpAnyH_done (by kernel_rfl) ?_ _
   try go_frame
   clear hS0;obtain⟨hA,hF⟩:=fY hA
   go_wp2_with fail
   refine(ZaD _ _).mono ?_;rintro e w1 ⟨rfl,hx⟩;replace hA:=hA.ext hx;clear hx hF
   try simp only[uA] at hA
   obtain⟨hA,hF⟩:=fY hA
   go_wp2_with ((with_reducible refine gst ?_);refine wTy hA ?_;clear hF hA;intro w1 hA hF)
   exact bodyPost_ret (v:=ansV 0 0 false) (by simp[results,Tryz.results113,go_sem,hF]) rfl ⟨rfl,Zav (b:=b.with (b.st.dropAll num foot)) (hA.pick pZ)⟩
 rw[if_neg he];have hA:=ZaX h;clear h;obtain⟨hA,hF⟩:=fY hA
 go_enter Tryz.func113,Tryz.ntmps113
 go_wp2_with (first|((with_reducible refine gbx ?_);refine wHy 25 [.int .u64 num,.string foot] hA ?_;clear hF hA;intro b4 w1 hA hb4 hF)|((with_reducible refine gal ?_);refine g1 hA ?_;clear hF hA;intro b6 w1 hA hb6 hF))
 refine(ZaD _ _).mono ?_;rintro e w1 ⟨rfl,hx⟩;replace hA:=hA.ext hx;clear hx hF
 try simp only[uA] at hA
 obtain⟨hA,hF⟩:=fY hA
 go_wp2_with ((with_reducible refine gst ?_);refine wTy hA ?_;clear hF hA;intro w1 hA hF)
 exact bodyPost_ret (v:=ansV e 0 false) (by simp[results,Tryz.results113,go_sem,hF]) rfl ⟨rfl,Zav (hA.pick pZ)⟩
theorem may_any (kind num:Int) (foot:ByteArray) (req:Int) (path:ByteArray) (mode n time:Int) (h0:0≤num) (h1:num < Lease.big64) (hf:foot.size≤1000) (hp:path.size≤1000):
 Calls Tryz.prog 220 #[.pointer (some ⟨t,0,none⟩),.agg #[.int .i64 kind,.int .u64 num,.string foot,.int .u64 req,.string path,.int .i64 mode,.int .u64 n,.int .i64 time]] w fun r w'=>r=.returned (.int .i64 (if(Lease.look ss num foot).op=false then 50 else if Zam (bl foot) (bl path)=false then 55 else 0))∧At [TabP t p m ss b] w [TabP t p m ss b] w':=by
 have hm:Tryz.prog.follows .mixedOrders=true:=by kernel_rfl
 have hin:=fun(w1:World) (q:Sep [Lease.BookP p m ss] w1)=>Lease.Za0 q h0 h1 (show foot.size≤maxLen by unfold maxLen;omega)
 have hab:=fun w1=>Path.ZeP foot path w1 (by omega) (by omega)
 obtain⟨lk,hlk⟩:∃z,Lease.look ss num foot=z:=⟨_,rfl⟩
 obtain⟨ab,hab2⟩:∃z,Zam (bl foot) (bl path)=z:=⟨_,rfl⟩
 rw[hlk] at ⊢;simp only[hlk] at hin;rw[hab2];simp only[hab2] at hab;clear hlk hab2;obtain⟨ln,lf,lo,ld,ldl,lt,ltold,lb,ltm⟩:=lk;simp only[Lease.Ses.info] at hin;have hin':=Hd hin;clear hin;have hA:=ZaX h;clear h;obtain⟨hA,hF⟩:=fY hA
 go_enter Tryz.func220,Tryz.ntmps220
 go_upto_region 1 with((with_reducible refine gbx ?_);refine wHy 27 [.int .i64 kind,.int .u64 num,.string foot,.int .u64 req,.string path,.int .i64 mode,.int .u64 n,.int .i64 time] hA ?_;clear hF hA;intro b3 w1 hA hb3 hF)
 try go_frame
 replace hA:=hA.drew;clear hF;refine wp_region_held (S:=fun w'=>Zab w' t (k2 p b.p) 180∧Zab w' b3 (k8 kind num foot req path mode n time) 27) hm ?_;change wpAnyH _ _ _ _ _ 10 _ _ (World.drew _)
 generalize World.drew _=wd at *
 have hS0:=(⟨hA.get (A:=Part.cells t (k2 p b.p) 180) sZ,hA.get (A:=Part.cells b3 (k8 kind num foot req path mode n time) 27) sZ⟩:(fun w'=>Zab w' t (k2 p b.p) 180∧Zab w' b3 (k8 kind num foot req path mode n time) 27) wd)
 refine tP 0 6 (.pointer (some ⟨t,0,none⟩)) (s:=hS0) (h:= ?_)
 try go_frame
 refine tP 1 7 (.pointer (some ⟨t,0,none⟩)) (s:=hS0) (h:= ?_)
 try go_frame
 refine tP 2 8 (.pointer (some ⟨t,0,none⟩)) (s:=hS0) (h:= ?_)
 try go_frame
 refine tZ 3 9 (.pointer (some ⟨p,0,none⟩)) (r:=(fun w' hS=>Zac (ty:=114) (b:=t) (j:=0) rfl (by exact rfl) hS.1 (by kernel_rfl) rfl)) (s:=hS0) (h:= ?_)
 try go_frame
 refine tP 4 10 (.pointer (some ⟨b3,1,none⟩)) (s:=hS0) (h:= ?_)
 try go_frame
 refine tZ 5 11 (.agg #[.int .u64 num,.string foot]) (r:=(fun w' hS=>Zah (ty:=25) (n:=2) (b:=b3) (j:=1) rfl (by exact rfl) hS.2 (by kernel_rfl) (by kernel_rfl) rfl rfl)) (s:=hS0) (h:= ?_)
 try go_frame
 refine Zaa (i:=6) (by kernel_rfl) ?_;refine cY 6 12 49 (fun u w'=>u=.agg #[.bool lo,.bool ld,.int .i64 ldl,.int .i64 lt,.int .i64 ltold.length]∧At [Lease.BookP p m ss] _ [Lease.BookP p m ss] w') ((hin'.out _ (hA.sep1 (A:=Lease.BookP p m ss) sZ)).mono fun e w' ⟨he,hT⟩=>⟨_,he,rfl,hT⟩) ?_;rintro u w3 ⟨rfl,hT⟩;have hB:=hA.call1 (A:=Lease.BookP p m ss) sZ hT;clear hT;simp only[uA] at hB
 refine andH ⟨hB.ci,hB.ci⟩ fun hS0=> ?_
 clear hA;have hA:=hB;clear hB
 try go_frame
 refine tP 7 13 (.bool lo) (s:=hS0) (h:= ?_)
 try go_frame
 refine tP 8 14 (.bool (!lo)) (s:=hS0) (h:= ?_)
 try go_frame
 refine tP 9 5 (.bool (!lo)) (s:=hS0) (h:= ?_)
 try go_frame
 refine wpAnyH_done (by kernel_rfl) ?_ _
 try go_frame
 clear hS0;obtain⟨hA,hF⟩:=fY hA;cases lo
 · go_wp2_with fail
   go_ret;exact⟨rfl,Zav (hA.pick pZ)⟩
 go_wp2_with fail
 refine(hab _).mono ?_;rintro e w1 ⟨rfl,hx⟩;replace hA:=hA.ext hx;clear hx hF
 try simp only[uA] at hA
 obtain⟨hA,hF⟩:=fY hA;cases ab
 · go_wp2_with fail
   go_ret;exact⟨rfl,Zav (hA.pick pZ)⟩
 go_wp2_with fail
 go_ret;exact⟨rfl,Zav (hA.pick pZ)⟩
end
end Tab
end
section
namespace Tab
open Go.RowKit
open Path (bl Zad overB Zam)
open Lease (Ses Ans fresh ZaP)
open Lock (S3 Ent)
open Cmd (Cm Zao)
attribute [-go_sem] run_eql_struct run_neq_struct run_eqGuard_agg
section
variable {w:World} {t p m:Nat} {ss:List Ses} {b:Lock.Bk} (h:Sep [TabP t p m ss b] w) (kind num:Int) (foot:ByteArray) (req:Int) (path:ByteArray) (mode n time:Int) (h0:0≤num) (h1:num < Lock.big64) (hf:foot.size≤1000) (hp:path.size≤1000) (hok:LkOk b)
include h h0 h1 hf hp hok
theorem add_any:Calls Tryz.prog 221 #[.pointer (some ⟨t,0,none⟩),.agg #[.int .i64 kind,.int .u64 num,.string foot,.int .u64 req,.string path,.int .i64 mode,.int .u64 n,.int .i64 time]] w fun r w'=>r=.returned (if b.st.may path num foot mode=0 then ansV 0 (b.st.addE path num foot mode).n (Lock.ZaH b.es path mode) else ansV (b.st.may path num foot mode) 0 false)∧At [TabP t p m ss b] w [TabP t p m ss (b.with (b.st.add path num foot mode))] w':=by
 have hm:Tryz.prog.follows .mixedOrders=true:=by kernel_rfl
 have hok':=Hd hok;clear hok
 have hco:=fun(w1:World) (q:Sep [Lock.BookP b] w1)=>Lock.Zhi (mode:=mode) q (show path.size≤1000000 by omega) (fun x hx=>⟨Nat.le_trans (hok'.out.path x hx) (by omega),hok'.out.stamp x hx⟩)
 have had:=fun(w1:World) (q:Sep [Lock.BookP b] w1)=>Lock.add_any (mode:=mode) q (show path.size≤1000000 by omega) h0 h1 (show foot.size≤maxLen by unfold maxLen;omega) hok'.out.len hok'.out.ctr (fun x hx=>⟨Nat.le_trans (hok'.out.path x hx) (by omega),hok'.out.stamp x hx⟩)
 obtain⟨cd,hcd⟩:∃z,Lock.ZaH b.es path mode=z:=⟨_,rfl⟩
 obtain⟨me,hme⟩:∃z,b.st.may path num foot mode=z:=⟨_,rfl⟩
 obtain⟨ae,hae⟩:∃z,b.st.addE path num foot mode=z:=⟨_,rfl⟩
 simp only[hcd] at hco;simp only[hme,hae] at had;rw[hcd,hme,hae];clear hcd hme hae;obtain⟨ep,en,ef,em,enn,est⟩:=ae;simp only[Lock.Ent.val] at had;have hco':=Hd hco;have had':=Hd had;clear hco had;have hA:=ZaX h;clear h;obtain⟨hA,hF⟩:=fY hA
 go_enter Tryz.func221,Tryz.ntmps221
 go_upto_region 1 with(first|((with_reducible refine gbx ?_);refine wHy 27 [.int .i64 kind,.int .u64 num,.string foot,.int .u64 req,.string path,.int .i64 mode,.int .u64 n,.int .i64 time] hA ?_;clear hF hA;intro b3 w1 hA hb3 hF)|((with_reducible refine gal ?_);refine g1 hA ?_;clear hF hA;intro b4 w1 hA hb4 hF))
 try go_frame
 replace hA:=hA.drew;clear hF;refine wp_region_held (S:=fun w'=>Zab w' t (k2 p b.p) 180∧Zab w' b3 (k8 kind num foot req path mode n time) 27) hm ?_;change wpAnyH _ _ _ _ _ 10 _ _ (World.drew _)
 generalize World.drew _=wd at *
 have hS0:=(⟨hA.get (A:=Part.cells t (k2 p b.p) 180) sZ,hA.get (A:=Part.cells b3 (k8 kind num foot req path mode n time) 27) sZ⟩:(fun w'=>Zab w' t (k2 p b.p) 180∧Zab w' b3 (k8 kind num foot req path mode n time) 27) wd)
 refine tP 0 8 (.pointer (some ⟨t,0,none⟩)) (s:=hS0) (h:= ?_)
 try go_frame
 refine tP 1 9 (.pointer (some ⟨t,0,none⟩)) (s:=hS0) (h:= ?_)
 try go_frame
 refine tP 2 10 (.pointer (some ⟨t,1,none⟩)) (s:=hS0) (h:= ?_)
 try go_frame
 refine tZ 3 11 (.pointer (some ⟨b.p,0,none⟩)) (r:=(fun w' hS=>Zac (ty:=110) (b:=t) (j:=1) rfl (by exact rfl) hS.1 (by kernel_rfl) rfl)) (s:=hS0) (h:= ?_)
 try go_frame
 refine tP 4 12 (.pointer (some ⟨b3,4,none⟩)) (s:=hS0) (h:= ?_)
 try go_frame
 refine tZ 5 13 (.string path) (r:=(fun w' hS=>Zac (ty:=9) (b:=b3) (j:=4) rfl (by exact rfl) hS.2 (by kernel_rfl) rfl)) (s:=hS0) (h:= ?_)
 try go_frame
 refine tP 6 14 (.pointer (some ⟨b3,5,none⟩)) (s:=hS0) (h:= ?_)
 try go_frame
 refine tZ 7 15 (.int .i64 mode) (r:=(fun w' hS=>Zac (ty:=3) (b:=b3) (j:=5) rfl (by exact rfl) hS.2 (by kernel_rfl) rfl)) (s:=hS0) (h:= ?_)
 try go_frame
 refine Zaa (i:=8) (by kernel_rfl) ?_;refine cY 8 16 260 (fun u w'=>u=.bool cd∧At [Lock.BookP b] _ [Lock.BookP b] w') ((hco'.out _ (hA.sep1 (A:=Lock.BookP b) sZ)).mono fun e w' ⟨he,hT⟩=>⟨_,he,rfl,hT⟩) ?_;rintro u w3 ⟨rfl,hT⟩;have hB:=hA.call1 (A:=Lock.BookP b) sZ hT;clear hT;simp only[uA] at hB
 refine andH ⟨hB.ci,hB.ci⟩ fun hS0=> ?_
 clear hA;have hA:=hB;clear hB
 try go_frame
 refine tP 9 5 (.bool cd) (s:=hS0) (h:= ?_)
 try go_frame
 refine wpAnyH_done (by kernel_rfl) ?_ _
 try go_frame
 clear hS0;obtain⟨hA,hF⟩:=fY hA
 go_upto_region 2 with fail
 try go_frame
 replace hA:=hA.drew;clear hF;refine wp_region_held (S:=fun w'=>Zab w' t (k2 p b.p) 180∧Zab w' b3 (k8 kind num foot req path mode n time) 27) hm ?_;change wpAnyH _ _ _ _ _ 17 _ _ (World.drew _)
 generalize World.drew _=wd at *
 have hS0:=(⟨hA.get (A:=Part.cells t (k2 p b.p) 180) sZ,hA.get (A:=Part.cells b3 (k8 kind num foot req path mode n time) 27) sZ⟩:(fun w'=>Zab w' t (k2 p b.p) 180∧Zab w' b3 (k8 kind num foot req path mode n time) 27) wd)
 refine tP 0 18 (.pointer (some ⟨t,0,none⟩)) (s:=hS0) (h:= ?_)
 try go_frame
 refine tP 1 19 (.pointer (some ⟨t,0,none⟩)) (s:=hS0) (h:= ?_)
 try go_frame
 refine tP 2 20 (.pointer (some ⟨t,1,none⟩)) (s:=hS0) (h:= ?_)
 try go_frame
 refine tZ 3 21 (.pointer (some ⟨b.p,0,none⟩)) (r:=(fun w' hS=>Zac (ty:=110) (b:=t) (j:=1) rfl (by exact rfl) hS.1 (by kernel_rfl) rfl)) (s:=hS0) (h:= ?_)
 try go_frame
 refine tP 4 22 (.pointer (some ⟨b3,4,none⟩)) (s:=hS0) (h:= ?_)
 try go_frame
 refine tZ 5 23 (.string path) (r:=(fun w' hS=>Zac (ty:=9) (b:=b3) (j:=4) rfl (by exact rfl) hS.2 (by kernel_rfl) rfl)) (s:=hS0) (h:= ?_)
 try go_frame
 refine tP 6 24 (.pointer (some ⟨b3,1,none⟩)) (s:=hS0) (h:= ?_)
 try go_frame
 refine tZ 7 25 (.agg #[.int .u64 num,.string foot]) (r:=(fun w' hS=>Zah (ty:=25) (n:=2) (b:=b3) (j:=1) rfl (by exact rfl) hS.2 (by kernel_rfl) (by kernel_rfl) rfl rfl)) (s:=hS0) (h:= ?_)
 try go_frame
 refine tP 8 26 (.pointer (some ⟨b3,5,none⟩)) (s:=hS0) (h:= ?_)
 try go_frame
 refine tZ 9 27 (.int .i64 mode) (r:=(fun w' hS=>Zac (ty:=3) (b:=b3) (j:=5) rfl (by exact rfl) hS.2 (by kernel_rfl) rfl)) (s:=hS0) (h:= ?_)
 try go_frame
 refine ZaG (i:=10) (j:=14) (by kernel_rfl) ?_ ?_
 · skip
   refine cY 10 28 261 (fun u w'=>u=.tuple #[.agg #[.string ep,.int .u64 en,.string ef,.int .i64 em,.int .u64 enn,.int .i64 est],.int .i64 me]∧At [Lock.BookP b] _ [Lock.BookP (b.with (b.st.add path num foot mode))] w') ((had'.out _ (hA.sep1 (A:=Lock.BookP b) sZ)).mono fun e w' ⟨he,hT⟩=>⟨_,he,rfl,hT⟩) ?_;rintro u w3 ⟨rfl,hT⟩;have hB:=hA.call1 (A:=Lock.BookP b) sZ hT;clear hT;simp only[uA] at hB
   refine andH ⟨hB.ci,hB.ci⟩ fun hS0=> ?_
   clear hA;have hA:=hB;clear hB
   try go_frame
   refine tP 11 17 (.tuple #[.agg #[.string ep,.int .u64 en,.string ef,.int .i64 em,.int .u64 enn,.int .i64 est],.int .i64 me]) (s:=hS0) (h:= ?_)
   try go_frame
   refine tP 12 29 (.agg #[.string ep,.int .u64 en,.string ef,.int .i64 em,.int .u64 enn,.int .i64 est]) (s:=hS0) (h:= ?_)
   try go_frame
   refine tP 13 30 (.int .i64 me) (s:=hS0) (h:= ?_)
   try go_frame
   refine Zaa (i:=14) (by kernel_rfl) ?_;refine aZ 14 6 97 [.string .empty,.int .u64 0,.string .empty,.int .i64 0,.int .u64 0,.int .i64 0] hA ?_;intro b6 w3 hB
   refine andH ⟨hB.ci,hB.ci⟩ fun hS0=> ?_
   clear hA;have hA:=hB;clear hB
   try go_frame
   refine Zaa (i:=15) (by kernel_rfl) ?_;refine stZ 15 b6 0 [.string ep,.int .u64 en,.string ef,.int .i64 em,.int .u64 enn,.int .i64 est] hA ?_;intro w3 hB;simp only[uA] at hB
   refine andH ⟨hB.ci,hB.ci⟩ fun hS0=> ?_
   clear hA;have hA:=hB;clear hB
   try go_frame
   refine tP 16 7 (.int .i64 me) (s:=hS0) (h:= ?_)
   try go_frame
   refine wpAnyH_done (by kernel_rfl) ?_ _
   try go_frame
   clear hS0;obtain⟨hA,hF⟩:=fY hA
   by_cases hz:me=0
   · subst hz
     go_wp2_with ((with_reducible refine gst ?_);refine wTy hA ?_;clear hF hA;intro w1 hA hF)
     exact bodyPost_ret (v:=ansV 0 enn cd) (by simp[results,Tryz.results221,go_sem,hF]) rfl ⟨by first|rfl|rw[if_pos rfl],Zav (b:=b.with (b.st.add path num foot mode)) (hA.pick pZ)⟩
   go_wp2_with fail
   refine(ZaD _ _).mono ?_;rintro e w1 ⟨rfl,hx⟩;replace hA:=hA.ext hx;clear hx hF
   try simp only[uA] at hA
   obtain⟨hA,hF⟩:=fY hA
   go_wp2_with ((with_reducible refine gst ?_);refine wTy hA ?_;clear hF hA;intro w1 hA hF)
   exact bodyPost_ret (v:=ansV me 0 false) (by simp[results,Tryz.results221,go_sem,hF]) rfl ⟨by first|rfl|rw[if_neg hz],Zav (b:=b.with (b.st.add path num foot mode)) (hA.pick pZ)⟩
 skip;refine aZ 14 6 97 [.string .empty,.int .u64 0,.string .empty,.int .i64 0,.int .u64 0,.int .i64 0] hA ?_;intro b6 w3 hB
 refine andH ⟨hB.ci,hB.ci⟩ fun hS0=> ?_
 clear hA;have hA:=hB;clear hB
 try go_frame
 refine Zaa (i:=10) (by kernel_rfl) ?_;refine cY 10 28 261 (fun u w'=>u=.tuple #[.agg #[.string ep,.int .u64 en,.string ef,.int .i64 em,.int .u64 enn,.int .i64 est],.int .i64 me]∧At [Lock.BookP b] _ [Lock.BookP (b.with (b.st.add path num foot mode))] w') ((had'.out _ (hA.sep1 (A:=Lock.BookP b) sZ)).mono fun e w' ⟨he,hT⟩=>⟨_,he,rfl,hT⟩) ?_;rintro u w3 ⟨rfl,hT⟩;have hB:=hA.call1 (A:=Lock.BookP b) sZ hT;clear hT;simp only[uA] at hB
 refine andH ⟨hB.ci,hB.ci⟩ fun hS0=> ?_
 clear hA;have hA:=hB;clear hB
 try go_frame
 refine tP 11 17 (.tuple #[.agg #[.string ep,.int .u64 en,.string ef,.int .i64 em,.int .u64 enn,.int .i64 est],.int .i64 me]) (s:=hS0) (h:= ?_)
 try go_frame
 refine tP 12 29 (.agg #[.string ep,.int .u64 en,.string ef,.int .i64 em,.int .u64 enn,.int .i64 est]) (s:=hS0) (h:= ?_)
 try go_frame
 refine tP 13 30 (.int .i64 me) (s:=hS0) (h:= ?_)
 try go_frame
 refine Zaa (i:=15) (by kernel_rfl) ?_;refine stZ 15 b6 0 [.string ep,.int .u64 en,.string ef,.int .i64 em,.int .u64 enn,.int .i64 est] hA ?_;intro w3 hB;simp only[uA] at hB
 refine andH ⟨hB.ci,hB.ci⟩ fun hS0=> ?_
 clear hA;have hA:=hB;clear hB
 try go_frame
 refine tP 16 7 (.int .i64 me) (s:=hS0) (h:= ?_)
 try go_frame
 refine wpAnyH_done (by kernel_rfl) ?_ _
 try go_frame
 clear hS0;obtain⟨hA,hF⟩:=fY hA
 by_cases hz:me=0
 · subst hz
   go_wp2_with ((with_reducible refine gst ?_);refine wTy hA ?_;clear hF hA;intro w1 hA hF)
   exact bodyPost_ret (v:=ansV 0 enn cd) (by simp[results,Tryz.results221,go_sem,hF]) rfl ⟨by first|rfl|rw[if_pos rfl],Zav (b:=b.with (b.st.add path num foot mode)) (hA.pick pZ)⟩
 go_wp2_with fail
 refine(ZaD _ _).mono ?_;rintro e w1 ⟨rfl,hx⟩;replace hA:=hA.ext hx;clear hx hF
 try simp only[uA] at hA
 obtain⟨hA,hF⟩:=fY hA
 go_wp2_with ((with_reducible refine gst ?_);refine wTy hA ?_;clear hF hA;intro w1 hA hF)
 exact bodyPost_ret (v:=ansV me 0 false) (by simp[results,Tryz.results221,go_sem,hF]) rfl ⟨by first|rfl|rw[if_neg hz],Zav (b:=b.with (b.st.add path num foot mode)) (hA.pick pZ)⟩
def tryV (b:Lock.Bk) (num:Int) (foot path:ByteArray) (mode:Int):Value:=if Lock.ZaH b.es path mode=true then(if b.st.may path num foot mode=0 then ansV 0 (b.st.addE path num foot mode).n (Lock.ZaH b.es path mode) else ansV (b.st.may path num foot mode) 0 false) else if b.st.may path num foot mode=0 then ansV 51 0 false else ansV (b.st.may path num foot mode) 0 false
def tryB (b:Lock.Bk) (num:Int) (foot path:ByteArray) (mode:Int):Lock.Bk:=if Lock.ZaH b.es path mode=true then b.with (b.st.add path num foot mode) else b
theorem ZnM:Calls Tryz.prog 222 #[.pointer (some ⟨t,0,none⟩),.agg #[.int .i64 kind,.int .u64 num,.string foot,.int .u64 req,.string path,.int .i64 mode,.int .u64 n,.int .i64 time]] w fun r w'=>r=.returned (tryV b num foot path mode)∧At [TabP t p m ss b] w [TabP t p m ss (tryB b num foot path mode)] w':=by
 have hm:Tryz.prog.follows .mixedOrders=true:=by kernel_rfl
 have hok':=Hd hok;clear hok
 have hco:=fun(w1:World) (q:Sep [Lock.BookP b] w1)=>Lock.Zhi (mode:=mode) q (show path.size≤1000000 by omega) (fun x hx=>⟨Nat.le_trans (hok'.out.path x hx) (by omega),hok'.out.stamp x hx⟩)
 have had:=fun(w1:World) (q:Sep [TabP t p m ss b] w1)=>add_any q kind num foot req path mode n time h0 h1 hf hp hok'.out
 have hma:=fun(w1:World) (q:Sep [Lock.BookP b] w1)=>Lock.may_any (mode:=mode) q (show path.size≤1000000 by omega) h0 h1 (show foot.size≤maxLen by unfold maxLen;omega) hok'.out.len hok'.out.ctr
 unfold tryV tryB
 obtain⟨cd,hcd⟩:∃z,Lock.ZaH b.es path mode=z:=⟨_,rfl⟩
 obtain⟨me,hme⟩:∃z,b.st.may path num foot mode=z:=⟨_,rfl⟩
 obtain⟨av,hav⟩:∃z,(if b.st.may path num foot mode=0 then ansV 0 (b.st.addE path num foot mode).n (Lock.ZaH b.es path mode) else ansV (b.st.may path num foot mode) 0 false)=z:=⟨_,rfl⟩
 simp only[hcd] at hco;rw[hav];simp only[hav] at had;simp only[hme] at hma;rw[hcd,hme];clear hcd hme
 have hav2:∃x y z,av=ansV x y z:=by rw[←hav];split<;>exact⟨_,_,_,rfl⟩
 obtain⟨a1,a2,a3,rfl⟩:=hav2;clear hav;have hco':=Hd hco;have had':=Hd had;have hma':=Hd hma;clear hco had hma;have hA:=ZaX h;clear h;obtain⟨hA,hF⟩:=fY hA
 go_enter Tryz.func222,Tryz.ntmps222
 go_upto_region 1 with(first|((with_reducible refine gbx ?_);refine wHy 27 [.int .i64 kind,.int .u64 num,.string foot,.int .u64 req,.string path,.int .i64 mode,.int .u64 n,.int .i64 time] hA ?_;clear hF hA;intro b3 w1 hA hb3 hF)|((with_reducible refine gal ?_);refine g1 hA ?_;clear hF hA;intro b4 w1 hA hb4 hF))
 try go_frame
 replace hA:=hA.drew;clear hF;refine wp_region_held (S:=fun w'=>Zab w' t (k2 p b.p) 180∧Zab w' b3 (k8 kind num foot req path mode n time) 27) hm ?_;change wpAnyH _ _ _ _ _ 9 _ _ (World.drew _)
 generalize World.drew _=wd at *
 have hS0:=(⟨hA.get (A:=Part.cells t (k2 p b.p) 180) sZ,hA.get (A:=Part.cells b3 (k8 kind num foot req path mode n time) 27) sZ⟩:(fun w'=>Zab w' t (k2 p b.p) 180∧Zab w' b3 (k8 kind num foot req path mode n time) 27) wd)
 refine tP 0 6 (.pointer (some ⟨t,0,none⟩)) (s:=hS0) (h:= ?_)
 try go_frame
 refine tP 1 7 (.pointer (some ⟨t,0,none⟩)) (s:=hS0) (h:= ?_)
 try go_frame
 refine tP 2 8 (.pointer (some ⟨t,1,none⟩)) (s:=hS0) (h:= ?_)
 try go_frame
 refine tZ 3 9 (.pointer (some ⟨b.p,0,none⟩)) (r:=(fun w' hS=>Zac (ty:=110) (b:=t) (j:=1) rfl (by exact rfl) hS.1 (by kernel_rfl) rfl)) (s:=hS0) (h:= ?_)
 try go_frame
 refine tP 4 10 (.pointer (some ⟨b3,4,none⟩)) (s:=hS0) (h:= ?_)
 try go_frame
 refine tZ 5 11 (.string path) (r:=(fun w' hS=>Zac (ty:=9) (b:=b3) (j:=4) rfl (by exact rfl) hS.2 (by kernel_rfl) rfl)) (s:=hS0) (h:= ?_)
 try go_frame
 refine tP 6 12 (.pointer (some ⟨b3,5,none⟩)) (s:=hS0) (h:= ?_)
 try go_frame
 refine tZ 7 13 (.int .i64 mode) (r:=(fun w' hS=>Zac (ty:=3) (b:=b3) (j:=5) rfl (by exact rfl) hS.2 (by kernel_rfl) rfl)) (s:=hS0) (h:= ?_)
 try go_frame
 refine Zaa (i:=8) (by kernel_rfl) ?_;refine cY 8 14 260 (fun u w'=>u=.bool cd∧At [Lock.BookP b] _ [Lock.BookP b] w') ((hco'.out _ (hA.sep1 (A:=Lock.BookP b) sZ)).mono fun e w' ⟨he,hT⟩=>⟨_,he,rfl,hT⟩) ?_;rintro u w3 ⟨rfl,hT⟩;have hB:=hA.call1 (A:=Lock.BookP b) sZ hT;clear hT;simp only[uA] at hB
 refine andH ⟨hB.ci,hB.ci⟩ fun hS0=> ?_
 clear hA;have hA:=hB;clear hB
 try go_frame
 refine wpAnyH_done (by kernel_rfl) ?_ _
 try go_frame
 clear hS0;obtain⟨hA,hF⟩:=fY hA;cases cd
 · go_upto_region 3 with fail
   try go_frame
   replace hA:=hA.drew;clear hF;refine wp_region_held (S:=fun w'=>Zab w' t (k2 p b.p) 180∧Zab w' b3 (k8 kind num foot req path mode n time) 27) hm ?_;change wpAnyH _ _ _ _ _ 12 _ _ (World.drew _)
   generalize World.drew _=wd at *
   have hS0:=(⟨hA.get (A:=Part.cells t (k2 p b.p) 180) sZ,hA.get (A:=Part.cells b3 (k8 kind num foot req path mode n time) 27) sZ⟩:(fun w'=>Zab w' t (k2 p b.p) 180∧Zab w' b3 (k8 kind num foot req path mode n time) 27) wd)
   refine tP 0 18 (.pointer (some ⟨t,0,none⟩)) (s:=hS0) (h:= ?_)
   try go_frame
   refine tP 1 19 (.pointer (some ⟨t,0,none⟩)) (s:=hS0) (h:= ?_)
   try go_frame
   refine tP 2 20 (.pointer (some ⟨t,1,none⟩)) (s:=hS0) (h:= ?_)
   try go_frame
   refine tZ 3 21 (.pointer (some ⟨b.p,0,none⟩)) (r:=(fun w' hS=>Zac (ty:=110) (b:=t) (j:=1) rfl (by exact rfl) hS.1 (by kernel_rfl) rfl)) (s:=hS0) (h:= ?_)
   try go_frame
   refine tP 4 22 (.pointer (some ⟨b3,4,none⟩)) (s:=hS0) (h:= ?_)
   try go_frame
   refine tZ 5 23 (.string path) (r:=(fun w' hS=>Zac (ty:=9) (b:=b3) (j:=4) rfl (by exact rfl) hS.2 (by kernel_rfl) rfl)) (s:=hS0) (h:= ?_)
   try go_frame
   refine tP 6 24 (.pointer (some ⟨b3,1,none⟩)) (s:=hS0) (h:= ?_)
   try go_frame
   refine tZ 7 25 (.agg #[.int .u64 num,.string foot]) (r:=(fun w' hS=>Zah (ty:=25) (n:=2) (b:=b3) (j:=1) rfl (by exact rfl) hS.2 (by kernel_rfl) (by kernel_rfl) rfl rfl)) (s:=hS0) (h:= ?_)
   try go_frame
   refine tP 8 26 (.pointer (some ⟨b3,5,none⟩)) (s:=hS0) (h:= ?_)
   try go_frame
   refine tZ 9 27 (.int .i64 mode) (r:=(fun w' hS=>Zac (ty:=3) (b:=b3) (j:=5) rfl (by exact rfl) hS.2 (by kernel_rfl) rfl)) (s:=hS0) (h:= ?_)
   try go_frame
   refine Zaa (i:=10) (by kernel_rfl) ?_;refine cY 10 28 262 (fun u w'=>u=.int .i64 me∧At [Lock.BookP b] _ [Lock.BookP b] w') ((hma'.out _ (hA.sep1 (A:=Lock.BookP b) sZ)).mono fun e w' ⟨he,hT⟩=>⟨_,he,rfl,hT⟩) ?_;rintro u w3 ⟨rfl,hT⟩;have hB:=hA.call1 (A:=Lock.BookP b) sZ hT;clear hT;simp only[uA] at hB
   refine andH ⟨hB.ci,hB.ci⟩ fun hS0=> ?_
   clear hA;have hA:=hB;clear hB
   try go_frame
   refine tP 11 5 (.int .i64 me) (s:=hS0) (h:= ?_)
   try go_frame
   refine wpAnyH_done (by kernel_rfl) ?_ _
   try go_frame
   clear hS0;obtain⟨hA,hF⟩:=fY hA
   by_cases hz:me=0
   · subst hz
     go_wp2_with fail
     refine(ZaD _ _).mono ?_;rintro e w1 ⟨rfl,hx⟩;replace hA:=hA.ext hx;clear hx hF
     try simp only[uA] at hA
     obtain⟨hA,hF⟩:=fY hA
     go_wp2_with ((with_reducible refine gst ?_);refine wTy hA ?_;clear hF hA;intro w1 hA hF)
     exact bodyPost_ret (v:=ansV 51 0 false) (by simp[results,Tryz.results222,go_sem,hF]) rfl ⟨by first|rfl|(rw[if_neg (by decide),if_pos rfl]),Zav (hA.pick pZ)⟩
   go_wp2_with fail
   refine(ZaD _ _).mono ?_;rintro e w1 ⟨rfl,hx⟩;replace hA:=hA.ext hx;clear hx hF
   try simp only[uA] at hA
   obtain⟨hA,hF⟩:=fY hA
   go_wp2_with ((with_reducible refine gst ?_);refine wTy hA ?_;clear hF hA;intro w1 hA hF)
   exact bodyPost_ret (v:=ansV me 0 false) (by simp[results,Tryz.results222,go_sem,hF]) rfl ⟨by first|rfl|(rw[if_neg (by decide),if_neg hz]),Zav (hA.pick pZ)⟩
 replace hA:=Zcd hA sZ sZ sZ;clear hF;obtain⟨hA,hF⟩:=fY hA
 go_wp2_with fail
 refine(had'.out _ (hA.sep1 (A:=TabP t p m ss b) sZ)).mono ?_;rintro e w1 ⟨rfl,hT⟩;replace hA:=hA.call1 (A:=TabP t p m ss b) sZ hT;clear hT hF
 try simp only[uA] at hA
 obtain⟨hA,hF⟩:=fY hA
 go_wp2_with ((with_reducible refine gst ?_);refine wTy hA ?_;clear hF hA;intro w1 hA hF)
 exact bodyPost_ret (v:=ansV a1 a2 a3) (by simp[results,Tryz.results222,go_sem,hF]) rfl ⟨by first|rfl|rw[if_pos rfl],(hA.pick pZ)⟩
end
end Tab
end
section
namespace Tab
open Go.RowKit
open Path (bl Zad overB Zam)
open Lease (Ses Ans fresh ZaP)
open Lock (S3 Ent)
open Cmd (Cm Zao)
attribute [-go_sem] run_eql_struct run_neq_struct run_eqGuard_agg
def lkV (me:Int) (b:Lock.Bk) (kind num:Int) (foot path:ByteArray) (mode n:Int):Value:=if me≠0 then ansV me 0 false else if kind=4 then(if b.st.may path num foot mode=0 then ansV 0 (b.st.addE path num foot mode).n (Lock.ZaH b.es path mode) else ansV (b.st.may path num foot mode) 0 false) else if kind=5 then tryV b num foot path mode else if kind=6 then ansV (if(Lock.find b.es path num foot).isSome=true then 0 else 52) 0 false else ansV (if Lock.Zbc b.es path n=true then 0 else 52) 0 false
def lkB (me:Int) (b:Lock.Bk) (kind num:Int) (foot path:ByteArray) (mode:Int):Lock.Bk:=if me≠0 then b else if kind=4 then b.with (b.st.add path num foot mode) else if kind=5 then tryB b num foot path mode else if kind=6 then b.with (b.st.remove path num foot) else b
def mayI (ss:List Ses) (num:Int) (foot path:ByteArray):Int:=if(Lease.look ss num foot).op=false then 50 else if Zam (bl foot) (bl path)=false then 55 else 0
section
variable {w:World} {t p m:Nat} {ss:List Ses} {b:Lock.Bk} (h:Sep [TabP t p m ss b] w) (kind num:Int) (foot:ByteArray) (req:Int) (path:ByteArray) (mode n time:Int) (h0:0≤num) (h1:num < Lock.big64) (hf:foot.size≤1000) (hp:path.size≤1000) (hok:LkOk b)
include h h0 h1 hf hp hok
theorem Zoa:Calls Tryz.prog 169 #[.pointer (some ⟨t,0,none⟩),.agg #[.int .i64 kind,.int .u64 num,.string foot,.int .u64 req,.string path,.int .i64 mode,.int .u64 n,.int .i64 time]] w fun r w'=>r=.returned (lkV (mayI ss num foot path) b kind num foot path mode n)∧At [TabP t p m ss b] w [TabP t p m ss (lkB (mayI ss num foot path) b kind num foot path mode)] w':=by
 have hm:Tryz.prog.follows .mixedOrders=true:=by kernel_rfl
 have hok':=Hd hok;clear hok
 have hmy:=fun(w1:World) (q:Sep [TabP t p m ss b] w1)=>may_any q kind num foot req path mode n time h0 h1 hf hp
 have had:=fun(w1:World) (q:Sep [TabP t p m ss b] w1)=>add_any q kind num foot req path mode n time h0 h1 hf hp hok'.out
 have htr:=fun(w1:World) (q:Sep [TabP t p m ss b] w1)=>ZnM q kind num foot req path mode n time h0 h1 hf hp hok'.out
 have hrm:=fun(w1:World) (q:Sep [Lock.BookP b] w1)=>Lock.Zjo (p:=path) (n:=num) (f:=foot) q (show path.size≤maxLen by unfold maxLen;omega) h0 h1 (show foot.size≤maxLen by unfold maxLen;omega)
 have hck:=fun(w1:World) (q:Sep [Lock.BookP b] w1)=>Lock.Zlk q path n (fun x hx=>Nat.le_trans (hok'.out.path x hx) (by omega)) (hok'.out.chk path n).1 (hok'.out.chk path n).2
 obtain⟨me,hme⟩:∃z,mayI ss num foot path=z:=⟨_,rfl⟩
 have hme2:(if(Lease.look ss num foot).op=false then(50:Int) else if Zam (bl foot) (bl path)=false then 55 else 0)=me:=hme;simp only[hme2] at hmy;rw[hme];clear hme hme2;have hmy':=Hd hmy;have had':=Hd had;have htr':=Hd htr;have hrm':=Hd hrm;have hck':=Hd hck;clear hmy had htr hrm hck;have hA:=At.start h;clear h;obtain⟨hA,hF⟩:=fY hA
 go_enter Tryz.func169,Tryz.ntmps169
 go_wp2_with (first|((with_reducible refine gbx ?_);refine wHy 27 [.int .i64 kind,.int .u64 num,.string foot,.int .u64 req,.string path,.int .i64 mode,.int .u64 n,.int .i64 time] hA ?_;clear hF hA;intro b3 w1 hA hb3 hF)|((with_reducible refine gal ?_);refine g1 hA ?_;clear hF hA;intro b4 w1 hA hb4 hF))
 refine(hmy'.out _ (hA.sep1 (A:=TabP t p m ss b) sZ)).mono ?_;rintro e w1 ⟨rfl,hT⟩;replace hA:=hA.call1 (A:=TabP t p m ss b) sZ hT;clear hT hF
 try simp only[uA] at hA
 obtain⟨hA,hF⟩:=fY hA
 by_cases hz:me=0
 · subst hz
   by_cases k4:kind=4
   · subst k4
     obtain⟨av,hav⟩:∃z,(if b.st.may path num foot mode=0 then ansV 0 (b.st.addE path num foot mode).n (Lock.ZaH b.es path mode) else ansV (b.st.may path num foot mode) 0 false)=z:=⟨_,rfl⟩
     have hav2:∃x y z,av=ansV x y z:=by rw[←hav];split<;>exact⟨_,_,_,rfl⟩
     obtain⟨a1,a2,a3,rfl⟩:=hav2;have had2:=had'.out;simp only[hav] at had2;have had3:=Hd had2;have hav':=Hd hav;clear had2 hav had'
     go_wp2_with fail
     refine(had3.out _ (hA.sep1 (A:=TabP t p m ss b) sZ)).mono ?_;rintro e w1 ⟨rfl,hT⟩;replace hA:=hA.call1 (A:=TabP t p m ss b) sZ hT;clear hT hF
     try simp only[uA] at hA
     obtain⟨hA,hF⟩:=fY hA
     go_wp2_with ((with_reducible refine gst ?_);refine wTy hA ?_;clear hF hA;intro w1 hA hF)
     exact bodyPost_ret (v:=ansV a1 a2 a3) (by simp[results,Tryz.results169,go_sem,hF]) rfl ⟨by first|rfl|(rw[lkV,if_neg (by decide),if_pos rfl,hav'.out]),by rw[lkB,if_neg (by decide),if_pos rfl];exact hA.pick pZ⟩
   by_cases k5:kind=5
   · subst k5
     obtain⟨av,hav⟩:∃z,tryV b num foot path mode=z:=⟨_,rfl⟩
     have hav2:∃x y z,av=ansV x y z:=by rw[←hav];unfold tryV;split;(split<;>exact⟨_,_,_,rfl⟩);(split<;>exact⟨_,_,_,rfl⟩)
     obtain⟨a1,a2,a3,rfl⟩:=hav2;have had2:=htr'.out;simp only[hav] at had2;have had3:=Hd had2;have hav':=Hd hav;clear had2 hav htr'
     go_wp2_with fail
     refine(had3.out _ (hA.sep1 (A:=TabP t p m ss b) sZ)).mono ?_;rintro e w1 ⟨rfl,hT⟩;replace hA:=hA.call1 (A:=TabP t p m ss b) sZ hT;clear hT hF
     try simp only[uA] at hA
     obtain⟨hA,hF⟩:=fY hA
     go_wp2_with ((with_reducible refine gst ?_);refine wTy hA ?_;clear hF hA;intro w1 hA hF)
     exact bodyPost_ret (v:=ansV a1 a2 a3) (by simp[results,Tryz.results169,go_sem,hF]) rfl ⟨by first|rfl|(rw[lkV,if_neg (by decide),if_neg (by decide),if_pos rfl,hav'.out]),by rw[lkB,if_neg (by decide),if_neg (by decide),if_pos rfl];exact hA.pick pZ⟩
   by_cases k6:kind=6
   · subst k6
     obtain⟨rc,hrc⟩:∃z,(if(Lock.find b.es path num foot).isSome=true then(0:Int) else 52)=z:=⟨_,rfl⟩
     have hrm2:=hrm'.out;simp only[hrc] at hrm2;have hrm3:=Hd hrm2;have hrc':=Hd hrc;clear hrm2 hrm' hrc;replace hA:=Zbr hA sZ;clear hF;obtain⟨hA,hF⟩:=fY hA
     go_upto_region 10 with fail
     try go_frame
     replace hA:=hA.drew;clear hF;refine wp_region_held (S:=fun w'=>Zab w' t (k2 p b.p) 180∧Zab w' b3 (k8 6 num foot req path mode n time) 27) hm ?_;change wpAnyH _ _ _ _ _ 11 _ _ (World.drew _)
     generalize World.drew _=wd at *
     have hS0:=(⟨hA.get (A:=Part.cells t (k2 p b.p) 180) sZ,hA.get (A:=Part.cells b3 (k8 6 num foot req path mode n time) 27) sZ⟩:(fun w'=>Zab w' t (k2 p b.p) 180∧Zab w' b3 (k8 6 num foot req path mode n time) 27) wd)
     refine tP 0 27 (.pointer (some ⟨t,0,none⟩)) (s:=hS0) (h:= ?_)
     try go_frame
     refine tP 1 28 (.pointer (some ⟨t,0,none⟩)) (s:=hS0) (h:= ?_)
     try go_frame
     refine tP 2 29 (.pointer (some ⟨t,1,none⟩)) (s:=hS0) (h:= ?_)
     try go_frame
     refine tZ 3 30 (.pointer (some ⟨b.p,0,none⟩)) (r:=(fun w' hS=>Zac (ty:=110) (b:=t) (j:=1) rfl (by exact rfl) hS.1 (by kernel_rfl) rfl)) (s:=hS0) (h:= ?_)
     try go_frame
     refine tP 4 31 (.pointer (some ⟨b3,4,none⟩)) (s:=hS0) (h:= ?_)
     try go_frame
     refine tZ 5 32 (.string path) (r:=(fun w' hS=>Zac (ty:=9) (b:=b3) (j:=4) rfl (by exact rfl) hS.2 (by kernel_rfl) rfl)) (s:=hS0) (h:= ?_)
     try go_frame
     refine tP 6 33 (.pointer (some ⟨b3,1,none⟩)) (s:=hS0) (h:= ?_)
     try go_frame
     refine tZ 7 34 (.agg #[.int .u64 num,.string foot]) (r:=(fun w' hS=>Zah (ty:=25) (n:=2) (b:=b3) (j:=1) rfl (by exact rfl) hS.2 (by kernel_rfl) (by kernel_rfl) rfl rfl)) (s:=hS0) (h:= ?_)
     try go_frame
     refine Zaa (i:=8) (by kernel_rfl) ?_;refine cY 8 35 223 (fun u w'=>u=.int .i64 rc∧At [Lock.BookP b] _ [Lock.BookP (b.with (b.st.remove path num foot))] w') ((hrm3.out _ (hA.sep1 (A:=Lock.BookP b) sZ)).mono fun e w' ⟨he,hT⟩=>⟨_,he,rfl,hT⟩) ?_;rintro u w3 ⟨rfl,hT⟩;have hB:=hA.call1 (A:=Lock.BookP b) sZ hT;clear hT;simp only[uA] at hB
     refine andH ⟨hB.ci,hB.ci⟩ fun hS0=> ?_
     clear hA;have hA:=hB;clear hB
     try go_frame
     refine Zaa (i:=9) (by kernel_rfl) ?_;refine cY 9 36 117 (fun u w'=>u=ansV rc 0 false∧Ext _ w') ((ZaD _ _).mono fun e w' ⟨he,hx⟩=>⟨_,he,rfl,hx⟩) ?_;rintro u w3 ⟨rfl,hx⟩;have hB:=hA.ext hx;clear hx
     refine andH ⟨hB.ci,hB.ci⟩ fun hS0=> ?_
     clear hA;have hA:=hB;clear hB
     try go_frame
     refine Zaa (i:=10) (by kernel_rfl) ?_;refine stZ 10 b4 0 [.int .i64 rc,.int .u64 0,.bool false] hA ?_;intro w3 hB;simp only[uA] at hB
     refine andH ⟨hB.ci,hB.ci⟩ fun hS0=> ?_
     clear hA;have hA:=hB;clear hB
     try go_frame
     refine wpAnyH_done (by kernel_rfl) ?_ _
     try go_frame
     clear hS0;obtain⟨hA,hF⟩:=fY hA
     go_wp2_with fail
     exact bodyPost_ret (v:=ansV rc 0 false) (by simp[results,Tryz.results169,go_sem,hF]) rfl ⟨by rw[lkV,if_neg (by decide),if_neg (by decide),if_neg (by decide),if_pos rfl,hrc'.out],by rw[lkB,if_neg (by decide),if_neg (by decide),if_neg (by decide),if_pos rfl];exact(Zcd (b:=b.with (b.st.remove path num foot)) hA sZ sZ sZ).pick pZ⟩
   obtain⟨cb,hcb⟩:∃z,Lock.Zbc b.es path n=z:=⟨_,rfl⟩
   have hck2:=hck'.out;simp only[hcb] at hck2;have hck3:=Hd hck2;have hcb':=Hd hcb;clear hck2 hck' hcb;replace hA:=Zbr hA sZ;clear hF;obtain⟨hA,hF⟩:=fY hA
   go_upto_region 11 with fail
   try go_frame
   replace hA:=hA.drew;clear hF;refine wp_region_held (S:=fun w'=>Zab w' t (k2 p b.p) 180∧Zab w' b3 (k8 kind num foot req path mode n time) 27) hm ?_;change wpAnyH _ _ _ _ _ 10 _ _ (World.drew _)
   generalize World.drew _=wd at *
   have hS0:=(⟨hA.get (A:=Part.cells t (k2 p b.p) 180) sZ,hA.get (A:=Part.cells b3 (k8 kind num foot req path mode n time) 27) sZ⟩:(fun w'=>Zab w' t (k2 p b.p) 180∧Zab w' b3 (k8 kind num foot req path mode n time) 27) wd)
   refine tP 0 37 (.pointer (some ⟨t,0,none⟩)) (s:=hS0) (h:= ?_)
   try go_frame
   refine tP 1 38 (.pointer (some ⟨t,0,none⟩)) (s:=hS0) (h:= ?_)
   try go_frame
   refine tP 2 39 (.pointer (some ⟨t,1,none⟩)) (s:=hS0) (h:= ?_)
   try go_frame
   refine tZ 3 40 (.pointer (some ⟨b.p,0,none⟩)) (r:=(fun w' hS=>Zac (ty:=110) (b:=t) (j:=1) rfl (by exact rfl) hS.1 (by kernel_rfl) rfl)) (s:=hS0) (h:= ?_)
   try go_frame
   refine tP 4 41 (.pointer (some ⟨b3,4,none⟩)) (s:=hS0) (h:= ?_)
   try go_frame
   refine tZ 5 42 (.string path) (r:=(fun w' hS=>Zac (ty:=9) (b:=b3) (j:=4) rfl (by exact rfl) hS.2 (by kernel_rfl) rfl)) (s:=hS0) (h:= ?_)
   try go_frame
   refine tP 6 43 (.pointer (some ⟨b3,6,none⟩)) (s:=hS0) (h:= ?_)
   try go_frame
   refine tZ 7 44 (.int .u64 n) (r:=(fun w' hS=>Zac (ty:=23) (b:=b3) (j:=6) rfl (by exact rfl) hS.2 (by kernel_rfl) rfl)) (s:=hS0) (h:= ?_)
   try go_frame
   refine Zaa (i:=8) (by kernel_rfl) ?_;refine cY 8 45 224 (fun u w'=>u=.bool cb∧At [Lock.BookP b] _ [Lock.BookP b] w') ((hck3.out _ (hA.sep1 (A:=Lock.BookP b) sZ)).mono fun e w' ⟨he,hT⟩=>⟨_,he,rfl,hT⟩) ?_;rintro u w3 ⟨rfl,hT⟩;have hB:=hA.call1 (A:=Lock.BookP b) sZ hT;clear hT;simp only[uA] at hB
   refine andH ⟨hB.ci,hB.ci⟩ fun hS0=> ?_
   clear hA;have hA:=hB;clear hB
   try go_frame
   refine tP 9 46 (.bool (!cb)) (s:=hS0) (h:= ?_)
   try go_frame
   refine wpAnyH_done (by kernel_rfl) ?_ _
   try go_frame
   clear hS0;obtain⟨hA,hF⟩:=fY hA;cases cb
   · go_wp2_with fail
     refine(ZaD _ _).mono ?_;rintro e w1 ⟨rfl,hx⟩;replace hA:=hA.ext hx;clear hx hF
     try simp only[uA] at hA
     obtain⟨hA,hF⟩:=fY hA
     go_wp2_with ((with_reducible refine gst ?_);refine wTy hA ?_;clear hF hA;intro w1 hA hF)
     exact bodyPost_ret (v:=ansV 52 0 false) (by simp[results,Tryz.results169,go_sem,hF]) rfl ⟨by rw[lkV,if_neg (by decide),if_neg k4,if_neg k5,if_neg k6,hcb'.out];rfl,by rw[lkB,if_neg (by decide),if_neg k4,if_neg k5,if_neg k6];exact(Zcd hA sZ sZ sZ).pick pZ⟩
   go_wp2_with fail
   refine(ZaD _ _).mono ?_;rintro e w1 ⟨rfl,hx⟩;replace hA:=hA.ext hx;clear hx hF
   try simp only[uA] at hA
   obtain⟨hA,hF⟩:=fY hA
   go_wp2_with ((with_reducible refine gst ?_);refine wTy hA ?_;clear hF hA;intro w1 hA hF)
   exact bodyPost_ret (v:=ansV 0 0 false) (by simp[results,Tryz.results169,go_sem,hF]) rfl ⟨by rw[lkV,if_neg (by decide),if_neg k4,if_neg k5,if_neg k6,hcb'.out];rfl,by rw[lkB,if_neg (by decide),if_neg k4,if_neg k5,if_neg k6];exact(Zcd hA sZ sZ sZ).pick pZ⟩
 go_wp2_with fail
 refine(ZaD _ _).mono ?_;rintro e w1 ⟨rfl,hx⟩;replace hA:=hA.ext hx;clear hx hF
 try simp only[uA] at hA
 obtain⟨hA,hF⟩:=fY hA
 go_wp2_with ((with_reducible refine gst ?_);refine wTy hA ?_;clear hF hA;intro w1 hA hF)
 exact bodyPost_ret (v:=ansV me 0 false) (by simp[results,Tryz.results169,go_sem,hF]) rfl ⟨by rw[lkV,if_pos hz],by rw[lkB,if_pos hz];exact hA.pick pZ⟩
end
end Tab
end
end Go.Proofs.YtkdjkngfnapjcaaGreatDoor
