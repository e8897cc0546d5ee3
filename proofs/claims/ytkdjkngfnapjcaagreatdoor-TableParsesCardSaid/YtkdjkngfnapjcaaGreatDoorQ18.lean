/- LockK, RegG, TabA, WinL, TabN, TabE, TabP, joined. -/
import Derived.Test.YtkdjkngfnapjcaaGreatDoorQ17
import Derived.Test.YtkdjkngfnapjcaaGreatDoorQ3
import Derived.Test.YtkdjkngfnapjcaaGreatDoorQ16
import Derived.Test.YtkdjkngfnapjcaaGreatDoorQ5
import Derived.Test.YtkdjkngfnapjcaaGreatDoorQ12
set_option linter.unusedSimpArgs false
set_option linter.unusedVariables false
set_option maxRecDepth 100000
set_option maxHeartbeats 16000000
namespace Go.Proofs.YtkdjkngfnapjcaaGreatDoor
section
namespace Lock
open Go.RowKit
open Go.Maps (Keyed)
open Path (bl Zad overB)
attribute [-go_sem] run_eql_struct run_neq_struct run_eqGuard_agg
theorem eqlE6 (p1 f1 p2 f2:ByteArray) (n1 m1 k1 s1 n2 m2 k2 s2:Int) (w:World):(binOp .eql 97 (.agg #[.string p1,.int .u64 n1,.string f1,.int .i64 m1,.int .u64 k1,.int .i64 s1]) (.agg #[.string p2,.int .u64 n2,.string f2,.int .i64 m2,.int .u64 k2,.int .i64 s2])).run Tryz.prog w=.ok (.bool (decide ((⟨p1,n1,f1,m1,k1,s1⟩:Ent)=⟨p2,n2,f2,m2,k2,s2⟩))) w:=eqlE ⟨p1,n1,f1,m1,k1,s1⟩ ⟨p2,n2,f2,m2,k2,s2⟩ w
attribute [local go_sem] guardE eqlE6
section
variable {w:World} {b:Bk} {e:Ent}
end
def ChRel (b:Bk) (r:Nat) (p:ByteArray) (n:Int) (w:World) (k:Nat) (wr:World):Prop:=
 ∃ds:List Ent,At [BookP b] w [Part.iter Tryz.prog 203 r b.m (ents b.es) (ents ds),headC b.p b.m b.c b.first,ctrC b.c (ctrs b.cs)] wr∧(∀s ∈ ds,s ∈ b.es∧¬(s.path=p∧s.n=n))∧ds.length + k=b.es.length
theorem ZkV {w:World} {b:Bk} (h:Sep [BookP b] w) (p:ByteArray) (n:Int) (hok:∀x ∈ b.es,x.path.size≤1000000) {c:Bool} (h1:∀e ∈ b.es,e.path=p→e.n=n→ZaP b.es e=c) (h2:(∀e ∈ b.es,¬(e.path=p∧e.n=n))→c=false):
 Calls Tryz.prog 224 #[.pointer (some ⟨b.p,0,none⟩),.string p,.int .u64 n] w fun o w'=>o=.returned (.bool c)∧At [BookP b] w [BookP b] w':=by
 have hA:=begin0 h;have hF:=hA.facts;have h1':=Hd h1;have h2':=Hd h2;clear h1 h2;obtain⟨hA,hF⟩:=fY hA;clear h
 go_enter Tryz.func224,Tryz.ntmps224
 go_wp2_with (refine ZaI rfl rfl rfl hA sR Tryz.underlying201 ?_;intro r w1 hB hr;clear hF hA;have hA:=hB;clear hB;obtain⟨hA,hF⟩:=fY hA)
 try go_frame
 go_loopg [] b.es.length (ChRel b r p n w)
 case atStart=>exact⟨[],hA.pick pZ,nofun,by simp⟩
 case round=>
  obtain⟨ds,hA2,hds,hk⟩:=hrel;clear hF hA;have hA:=hA2;clear hA2;obtain⟨hA,hF⟩:=fY hA
  go_step
  go_step
  refine ZaV rfl rfl rfl hA sR (fun hp=> ?_) (fun q w1 hq hd hB=> ?_)
  · have hpp:=ents_perm hp
    have hc:=Hd (h2'.out (fun e he=>(hds e (hpp.mem_iff.1 he)).2));have hM:=At.ranged hA sR;clear hp hpp hds
    go_wp2_with fail
    go_ret;exact⟨by rw[hc.out];rfl,close0 b hM sR sR sR⟩
  obtain⟨s,hs,rfl⟩:=List.mem_map.1 hq
  have hI:Zam Tryz.prog 203 w1 r b.m (ents b.es) (ents ds++[ent s]):=hB.get (A:=Part.iter _ _ r b.m (ents b.es) (ents ds++[ent s])) sR;have hen:=hI.entry
  have hlen:(ds++[s]).length≤b.es.length:=by have:=hI.len;simpa [ents] using this
  have hsub:¬(s.path=p∧s.n=n)→∀x ∈ ds++[s],x ∈ b.es∧¬(x.path=p∧x.n=n):=fun hn x hx=>by
   rcases List.mem_append.1 hx with hx|hx
   · exact hds x hx
   have:x=s:=by simpa using hx
   rw[this];exact⟨hs,hn⟩
  rw[ents_snoc] at hB;have hs1:=hok s hs;clear hF hA;have hA:=hB;have hk':=Hd hk;have hsub':=Hd hsub;have hc1:=Hd (h1'.out s hs)
  have hcl:=fun(w1:World) (q:Sep [BookP b] w1)=>Zg7 q s hs1 hok
  obtain⟨cc,hcc⟩:∃cc,ZaP b.es s=cc:=⟨_,rfl⟩
  rw[hcc] at hcl;have hcc':=Hd hcc;simp only[List.length_append,List.length_cons,List.length_nil,Nat.zero_add] at hlen;clear hI hB hk hsub hds hq hd hs hcc;obtain⟨hA,hF⟩:=fY hA;simp only[ent,Ent.key,Ent.val,keyV] at hen
  by_cases e1:s.path=p
  · have b1:(s.path.toList==p.toList)=true:=by rw[same_ba];exact decide_eq_true e1
    have e1':=Hd e1
    by_cases e2:s.n=n
    · have b2:(s.n==n)=true:=by simpa using e2
      have e2':=Hd e2;clear e1 e2
      go_wp2_with (first|((with_reducible refine gst ?_);refine wTy hA ?_;clear hF hA;intro w1 hA hF)|((with_reducible refine gal ?_);refine g4 hA ?_;clear hF hA;intro b1 w1 hA hb1 hF))
      have hM:=At.ranged hA sR;replace hA:=fold0 b hM sR sR sR;clear hF hM;refine(hcl _ (hA.sep1 (A:=BookP b) sR)).mono ?_;clear hcl;rintro o w2 ⟨rfl,hT⟩;have hB:=hA.call1 (A:=BookP b) sR hT;have hres:=Hd ((hc1.out e1'.out e2'.out).symm.trans hcc'.out);clear hA hT
      go_wp2_with fail
      go_ret;exact⟨by rw[hres.out];rfl,hB.only1 .here⟩
    have b2:(s.n==n)=false:=by simpa using e2
    have hs3:=Hd (hsub'.out (fun q=>e2 q.2));clear e1 e2
    go_wp2_with (first|((with_reducible refine gst ?_);refine wTy hA ?_;clear hF hA;intro w1 hA hF)|((with_reducible refine gal ?_);refine g4 hA ?_;clear hF hA;intro b1 w1 hA hb1 hF))
    go_roundg (gk - 1)
    case measure=>have:=hk'.out;omega
    case rel=>exact⟨ds++[s],hA.pick pR,hs3.out,by have:=hk'.out;simp;omega⟩
  have b1:(s.path.toList==p.toList)=false:=by rw[same_ba];exact decide_eq_false e1
  have hs3:=Hd (hsub'.out (fun q=>e1 q.1));clear e1
  go_wp2_with (first|((with_reducible refine gst ?_);refine wTy hA ?_;clear hF hA;intro w1 hA hF)|((with_reducible refine gal ?_);refine g4 hA ?_;clear hF hA;intro b1 w1 hA hb1 hF))
  go_roundg (gk - 1)
  case measure=>have:=hk'.out;omega
  case rel=>exact⟨ds++[s],hA.pick pR,hs3.out,by have:=hk'.out;simp;omega⟩
end Lock
end
end Go.Proofs.YtkdjkngfnapjcaaGreatDoor
section
namespace Go
open _root_.Go.Proofs.YtkdjkngfnapjcaaGreatDoor
open Go.RowKit
section
variable {P:Program} {ops:Array Oper} {Q:Exit→Act→World→Prop} {md:Region.Mode} {S:World→Prop} {L0 L F:List Part} {w0 w:World}
theorem Zjo {i:Nat} {d:Option Tmp} {o:Oper} {a:Act} {K:Act→World→Prop} {E:TypeId} (ho:ops[i]? =some o) (hd:o.dst=d) (hw:Region.wanted o (yielded ops a.tmps)=true) (hop:o.op=.alloc E) {z:Value} (hz:(P.info? E).map (·.zero)=some (some z)) {vs:List Value} (hv:z.cells=vs.toArray) (h:At L0 w0 L w)
 (hK:∀b w',At L0 w0 (Part.cells b vs E::L) w'→K (a.put d (.pointer (some ⟨b,0,none⟩))) w'):wpOp P ops Q i K a w:=by
 subst hd;refine Zcl ho hw (v:=.pointer (some ⟨w.heap.size,0,none⟩)) (w':=w.alloc (.cells vs.toArray E)) ?_ (hK _ _ (h.alloc vs E))
 cases hq:P.info? E with
 |none=>simp[hq] at hz
 |some i=>
  have hi:i.zero=some z:=by simpa [hq] using hz
  simp[execOp,hop,Instr.alloc,zeroValue,typeInfo,hq,hi,newVar,newRow,hv,Result.andThen]
end
end Go
section
namespace Go
open _root_.Go.Proofs.YtkdjkngfnapjcaaGreatDoor
open Go.RowKit
theorem aZ {P:Program} {ops:Array Oper} {Q:Exit→Act→World→Prop} {L0 L:List Part} {w0 w:World} {o:Oper} {a:Act} {K:Act→World→Prop} (i d:Nat) (E:TypeId) (vs:List Value) (h:At L0 w0 L w) (hK:∀b w',At L0 w0 (Part.cells b vs E::L) w'→K (a.put (some d) (.pointer (some ⟨b,0,none⟩))) w') (ho:ops[i]? =some o:=by exact rfl) (hd:o.dst=some d:=by exact rfl) (hw:Region.wanted o (yielded ops a.tmps)=true:=by kernel_rfl) (hop:o.op=.alloc E:=by exact rfl) (hz:(P.info? E).map (·.zero)=some (some (.agg vs.toArray)):=by kernel_rfl):wpOp P ops Q i K a w:=Zjo ho hd hw hop hz rfl h hK
end Go
end
end
namespace Go.Proofs.YtkdjkngfnapjcaaGreatDoor
section
namespace Tab
open Go.RowKit
open Path (bl Zad overB Zaw)
open Lease (Ses Ans fresh ZaQ)
open Lock (S3 Ent)
open Cmd (Cm ZaA)
attribute [-go_sem] run_eql_struct run_neq_struct run_eqGuard_agg
abbrev ansV (e n:Int) (g:Bool):Value:=.agg #[.int .i64 e,.int .u64 n,.bool g]
theorem Zaz (e:Int) (w:World):Calls Tryz.prog 117 #[.int .i64 e] w fun r w'=>r=.returned (ansV e 0 false)∧Ext w w':=by
 have hA:At [] w [] w:=At.start (L0:=[]) trivial;obtain⟨hA,hF⟩:=fY hA
 go_enter Tryz.func117,Tryz.ntmps117
 go_wp2_with (first|((with_reducible refine gal ?_);refine g0 hA ?_;clear hF hA;intro b2 w1 hA hb2 hF)|((with_reducible refine gst ?_);refine wTy hA ?_;clear hF hA;intro w1 hA hF)|((with_reducible refine gbx ?_);refine wCy hA ?_;clear hF hA;intro b1 w1 hA hb1 hF))
 exact bodyPost_ret (v:=ansV e 0 false) (by simp[results,Tryz.results117,go_sem,hF]) rfl ⟨rfl,hA.toExt⟩
theorem Zbm {L0 L F:List Part} {w0 w:World} {t p m:Nat} {ss:List Ses} {b:Lock.Bk} (h:At L0 w0 L w) (s:Sel (TabP t p m ss b) L F):At L0 w0 (headT t p b.p::Lease.BookP p m ss::Lock.BookP b::F) w:=(h.take s).to (Zft t p m ss b F)
theorem Zcb {L0 L F G H:List Part} {w0 w:World} {t p m:Nat} {ss:List Ses} {b:Lock.Bk} (h:At L0 w0 L w) (s1:Sel (headT t p b.p) L F) (s2:Sel (Lease.BookP p m ss) F G) (s3:Sel (Lock.BookP b) G H):At L0 w0 (TabP t p m ss b::H) w:=
 (h.perm (s1.perm.trans ((s2.perm.trans (s3.perm.cons _)).cons _))).to (Zft t p m ss b H).symm
structure LkOk (b:Lock.Bk):Prop where
 len:b.es.length≤1000000000
 ctr:∀q,0≤Lock.counter b.first b.cs q
 path:∀x ∈ b.es,x.path.size≤1000
 stamp:∀x ∈ b.es,x.stamp≤1000000000
 num:∀x ∈ b.es,0≤x.num∧x.num < Lock.big64
 foot:∀x ∈ b.es,x.foot.size≤maxLen
 chk:∀p n,(∀e ∈ b.es,e.path=p→e.n=n→Lock.ZaP b.es e=Zbl b.es p n)∧((∀e ∈ b.es,¬(e.path=p∧e.n=n))→Zbl b.es p n=false)
theorem ZjE {es:List Ent} (hn:∀a ∈ es,∀b ∈ es,a.path=b.path→a.n=b.n→a=b) (p:ByteArray) (n:Int):(∀e ∈ es,e.path=p→e.n=n→Lock.ZaP es e=Zbl es p n)∧((∀e ∈ es,¬(e.path=p∧e.n=n))→Zbl es p n=false):=by
 unfold Zbl;refine⟨fun e he e1 e2=> ?_,fun h=> ?_⟩
 · cases hc:Lock.ZaP es e with
   |true=>
    symm
    rw[List.any_eq_true];exact⟨e,he,by rw[hc,decide_eq_true ⟨e1,e2⟩];rfl⟩
   |false=>
    symm
    rw[List.any_eq_false];intro x hx q;obtain⟨q1,q2⟩:=Bool.and_eq_true_iff.1 q;have q1:=of_decide_eq_true q1;have:=hn x hx e he (q1.1.trans e1.symm) (q1.2.trans e2.symm);rw[this,hc] at q2;cases q2
 rw[List.any_eq_false];intro x hx q;exact h x hx (of_decide_eq_true (Bool.and_eq_true_iff.1 q).1)
theorem Zkn {es:List Ent} (h:es.Pairwise (fun a b=>a.path=b.path→a.n < b.n)):∀a ∈ es,∀b ∈ es,a.path=b.path→a.n=b.n→a=b:=by
 intro a ha b hb e1 e2;obtain⟨i,hi⟩:=List.mem_iff_getElem?.1 ha;obtain⟨j,hj⟩:=List.mem_iff_getElem?.1 hb;obtain⟨hi1,hi2⟩:=List.getElem?_eq_some_iff.1 hi;obtain⟨hj1,hj2⟩:=List.getElem?_eq_some_iff.1 hj;have hp:=List.pairwise_iff_getElem.1 h
 rcases Nat.lt_trichotomy i j with q|q|q
 · have:=hp i j hi1 hj1 q
   rw[hi2,hj2] at this;have:=this e1
   omega
 · subst q;rw[hi] at hj;exact Option.some.inj hj
 have:=hp j i hj1 hi1 q
 rw[hi2,hj2] at this;have:=this e1.symm
 omega
theorem LkOk.of {b:Lock.Bk} {k:Nat} (h:Lock.Inv b.st k) (hk:k≤1000000):LkOk b:=
 ⟨by have:=h.len;simp only[Lock.Bk.st] at this;omega,fun q=>by have:=Lock.Zdl h q;have:=h.first0;simp only[Lock.Bk.st] at *;omega,fun x hx=>Nat.le_trans (h.path x hx) (by omega),fun x hx=>by have:=h.stamp1 x hx;omega,fun x hx=>⟨h.num0 x hx,h.num1 x hx⟩,fun x hx=>h.foot x hx,ZjE (Zkn (es:=b.es) h.nums)⟩
section
variable {w:World} {t p m:Nat} {ss:List Ses} {b:Lock.Bk} (h:Sep [TabP t p m ss b] w)
include h
theorem ZgG:Calls Tryz.prog 45 #[.pointer (some ⟨t,0,none⟩)] w fun e w'=>e=.returned (.pointer (some ⟨b.p,0,none⟩))∧At [TabP t p m ss b] w [TabP t p m ss b] w':=by
 have hA:=ZbB h;clear h;obtain⟨hA,hF⟩:=fY hA
 go_enter Tryz.func45,Tryz.ntmps45
 go_wp2_with (first|((with_reducible refine gst ?_);refine wTy hA ?_;clear hF hA;intro w1 hA hF)|((with_reducible refine gbx ?_);refine wCy hA ?_;clear hF hA;intro b1 w1 hA hb1 hF))
 go_ret;exact⟨rfl,Zax (hA.pick pZ)⟩
theorem ZgY (num:Int) (foot:ByteArray) (e:Int) (hok:LkOk b):
 Calls Tryz.prog 113 #[.pointer (some ⟨t,0,none⟩),.agg #[.int .u64 num,.string foot],.int .i64 e] w fun r w'=>r=.returned (ansV e 0 false)∧At [TabP t p m ss b] w [TabP t p m ss (if e=0 then b.with (b.st.dropAll num foot) else b)] w':=by
 have hm:Tryz.prog.follows .mixedOrders=true:=by kernel_rfl
 have hok':=Hd hok;clear hok
 by_cases he:e=0
 · subst he
   rw[if_pos rfl];have hA:=ZbB h;clear h;obtain⟨hA,hF⟩:=fY hA
   go_enter Tryz.func113,Tryz.ntmps113
   go_upto_region 2 with(first|((with_reducible refine gbx ?_);refine wHy 25 [.int .u64 num,.string foot] hA ?_;clear hF hA;intro b4 w1 hA hb4 hF)|((with_reducible refine gal ?_);refine g0 hA ?_;clear hF hA;intro b6 w1 hA hb6 hF)|((with_reducible refine gst ?_);refine wTy hA ?_;clear hF hA;intro w1 hA hF)|((with_reducible refine gbx ?_);refine wCy hA ?_;clear hF hA;intro b1 w1 hA hb1 hF))
   try go_frame
   replace hA:=hA.drew;clear hF;refine wp_region_held (S:=fun w'=>Zaa w' t (k2 p b.p) 180∧Zaa w' b4 [.int .u64 num,.string foot] 25) hm ?_;change wpAnyH _ _ _ _ _ 6 _ _ (World.drew _)
   generalize World.drew _=wd at *
   have hS0:=(⟨hA.get (A:=Part.cells t (k2 p b.p) 180) sZ,hA.get (A:=Part.cells b4 [.int .u64 num,.string foot] 25) sZ⟩:(fun w'=>Zaa w' t (k2 p b.p) 180∧Zaa w' b4 [.int .u64 num,.string foot] 25) wd)
   refine tP 0 9 (.pointer (some ⟨t,0,none⟩)) (s:=hS0) (h:= ?_)
   try go_frame
   refine tP 1 10 (.pointer (some ⟨t,0,none⟩)) (s:=hS0) (h:= ?_)
   try go_frame
   refine tP 2 11 (.pointer (some ⟨t,1,none⟩)) (s:=hS0) (h:= ?_)
   try go_frame
   refine tZ 3 12 (.pointer (some ⟨b.p,0,none⟩)) (r:=(fun w' hS=>Zab (ty:=110) (b:=t) (j:=1) rfl (by exact rfl) hS.1 (by kernel_rfl) rfl)) (s:=hS0) (h:= ?_)
   try go_frame
   refine tZ 4 13 (.agg #[.int .u64 num,.string foot]) (r:=(fun w' hS=>Zag (ty:=25) (n:=2) (b:=b4) (j:=0) rfl (by exact rfl) hS.2 (by kernel_rfl) (by kernel_rfl) rfl rfl)) (s:=hS0) (h:= ?_)
   try go_frame
   refine Zac (i:=5) (by kernel_rfl) ?_;refine cY 5 14 165 (fun u w'=>u=.int .i64 (b.es.length - (b.st.dropAll num foot).es.length)∧At [Lock.BookP b] _ [Lock.BookP (b.with (b.st.dropAll num foot))] w') ((Lock.Zmt (hA.sep1 (A:=Lock.BookP b) sZ) num foot hok'.out.len (fun x hx=>⟨Nat.le_trans (hok'.out.path x hx) (by unfold maxLen;omega),(hok'.out.num x hx).1,(hok'.out.num x hx).2,hok'.out.foot x hx⟩)).mono fun e w' ⟨he,hT⟩=>⟨_,he,rfl,hT⟩) ?_;rintro u w3 ⟨rfl,hT⟩;have hB:=hA.call1 (A:=Lock.BookP b) sZ hT;clear hT;simp only[uA] at hB
   refine andH ⟨hB.ci,hB.ci⟩ fun hS0=> ?_
   clear hA;have hA:=hB;clear hB
   try go_frame
   refine wpAnyH_done (by kernel_rfl) ?_ _
   try go_frame
   clear hS0;obtain⟨hA,hF⟩:=fY hA
   go_wp2_with (first|((with_reducible refine gst ?_);refine wTy hA ?_;clear hF hA;intro w1 hA hF)|((with_reducible refine gbx ?_);refine wCy hA ?_;clear hF hA;intro b1 w1 hA hb1 hF))
   refine(Zaz _ _).mono ?_;rintro e w1 ⟨rfl,hx⟩;replace hA:=hA.ext hx;clear hx hF
   try simp only[uA] at hA
   obtain⟨hA,hF⟩:=fY hA
   go_wp2_with (first|((with_reducible refine gst ?_);refine wTy hA ?_;clear hF hA;intro w1 hA hF)|((with_reducible refine gbx ?_);refine wCy hA ?_;clear hF hA;intro b1 w1 hA hb1 hF))
   exact bodyPost_ret (v:=ansV 0 0 false) (by simp[results,Tryz.results113,go_sem,hF]) rfl ⟨rfl,Zax (b:=b.with (b.st.dropAll num foot)) (hA.pick pZ)⟩
 rw[if_neg he];have hA:=ZbB h;clear h;obtain⟨hA,hF⟩:=fY hA
 go_enter Tryz.func113,Tryz.ntmps113
 go_wp2_with (first|((with_reducible refine gbx ?_);refine wHy 25 [.int .u64 num,.string foot] hA ?_;clear hF hA;intro b4 w1 hA hb4 hF)|((with_reducible refine gal ?_);refine g0 hA ?_;clear hF hA;intro b6 w1 hA hb6 hF)|((with_reducible refine gst ?_);refine wTy hA ?_;clear hF hA;intro w1 hA hF)|((with_reducible refine gbx ?_);refine wCy hA ?_;clear hF hA;intro b1 w1 hA hb1 hF))
 refine(Zaz _ _).mono ?_;rintro e w1 ⟨rfl,hx⟩;replace hA:=hA.ext hx;clear hx hF
 try simp only[uA] at hA
 obtain⟨hA,hF⟩:=fY hA
 go_wp2_with (first|((with_reducible refine gst ?_);refine wTy hA ?_;clear hF hA;intro w1 hA hF)|((with_reducible refine gbx ?_);refine wCy hA ?_;clear hF hA;intro b1 w1 hA hb1 hF))
 exact bodyPost_ret (v:=ansV e 0 false) (by simp[results,Tryz.results113,go_sem,hF]) rfl ⟨rfl,Zax (hA.pick pZ)⟩
theorem may_any (kind num:Int) (foot:ByteArray) (req:Int) (path:ByteArray) (mode n time:Int) (h0:0≤num) (h1:num < Lease.big64) (hf:foot.size≤1000) (hp:path.size≤1000):
 Calls Tryz.prog 220 #[.pointer (some ⟨t,0,none⟩),.agg #[.int .i64 kind,.int .u64 num,.string foot,.int .u64 req,.string path,.int .i64 mode,.int .u64 n,.int .i64 time]] w fun r w'=>r=.returned (.int .i64 (if(Lease.look ss num foot).op=false then 50 else if Zaw (bl foot) (bl path)=false then 55 else 0))∧At [TabP t p m ss b] w [TabP t p m ss b] w':=by
 have hm:Tryz.prog.follows .mixedOrders=true:=by kernel_rfl
 have hin:=fun(w1:World) (q:Sep [Lease.BookP p m ss] w1)=>Lease.ZaM q h0 h1 (show foot.size≤maxLen by unfold maxLen;omega)
 have hab:=fun w1=>Path.Zez foot path w1 (by omega) (by omega)
 obtain⟨lk,hlk⟩:∃z,Lease.look ss num foot=z:=⟨_,rfl⟩
 obtain⟨ab,hab2⟩:∃z,Zaw (bl foot) (bl path)=z:=⟨_,rfl⟩
 rw[hlk] at ⊢;simp only[hlk] at hin;rw[hab2];simp only[hab2] at hab;clear hlk hab2;obtain⟨ln,lf,lo,ld,ldl,lt,ltold,lb,ltm⟩:=lk;simp only[Lease.Ses.info] at hin;have hin':=Hd hin;clear hin;have hA:=ZbB h;clear h;obtain⟨hA,hF⟩:=fY hA
 go_enter Tryz.func220,Tryz.ntmps220
 go_upto_region 1 with(first|((with_reducible refine gbx ?_);refine wHy 27 [.int .i64 kind,.int .u64 num,.string foot,.int .u64 req,.string path,.int .i64 mode,.int .u64 n,.int .i64 time] hA ?_;clear hF hA;intro b3 w1 hA hb3 hF)|((with_reducible refine gst ?_);refine wTy hA ?_;clear hF hA;intro w1 hA hF)|((with_reducible refine gbx ?_);refine wCy hA ?_;clear hF hA;intro b1 w1 hA hb1 hF))
 try go_frame
 replace hA:=hA.drew;clear hF;refine wp_region_held (S:=fun w'=>Zaa w' t (k2 p b.p) 180∧Zaa w' b3 (k8 kind num foot req path mode n time) 27) hm ?_;change wpAnyH _ _ _ _ _ 10 _ _ (World.drew _)
 generalize World.drew _=wd at *
 have hS0:=(⟨hA.get (A:=Part.cells t (k2 p b.p) 180) sZ,hA.get (A:=Part.cells b3 (k8 kind num foot req path mode n time) 27) sZ⟩:(fun w'=>Zaa w' t (k2 p b.p) 180∧Zaa w' b3 (k8 kind num foot req path mode n time) 27) wd)
 refine tP 0 6 (.pointer (some ⟨t,0,none⟩)) (s:=hS0) (h:= ?_)
 try go_frame
 refine tP 1 7 (.pointer (some ⟨t,0,none⟩)) (s:=hS0) (h:= ?_)
 try go_frame
 refine tP 2 8 (.pointer (some ⟨t,0,none⟩)) (s:=hS0) (h:= ?_)
 try go_frame
 refine tZ 3 9 (.pointer (some ⟨p,0,none⟩)) (r:=(fun w' hS=>Zab (ty:=114) (b:=t) (j:=0) rfl (by exact rfl) hS.1 (by kernel_rfl) rfl)) (s:=hS0) (h:= ?_)
 try go_frame
 refine tP 4 10 (.pointer (some ⟨b3,1,none⟩)) (s:=hS0) (h:= ?_)
 try go_frame
 refine tZ 5 11 (.agg #[.int .u64 num,.string foot]) (r:=(fun w' hS=>Zag (ty:=25) (n:=2) (b:=b3) (j:=1) rfl (by exact rfl) hS.2 (by kernel_rfl) (by kernel_rfl) rfl rfl)) (s:=hS0) (h:= ?_)
 try go_frame
 refine Zac (i:=6) (by kernel_rfl) ?_;refine cY 6 12 49 (fun u w'=>u=.agg #[.bool lo,.bool ld,.int .i64 ldl,.int .i64 lt,.int .i64 ltold.length]∧At [Lease.BookP p m ss] _ [Lease.BookP p m ss] w') ((hin'.out _ (hA.sep1 (A:=Lease.BookP p m ss) sZ)).mono fun e w' ⟨he,hT⟩=>⟨_,he,rfl,hT⟩) ?_;rintro u w3 ⟨rfl,hT⟩;have hB:=hA.call1 (A:=Lease.BookP p m ss) sZ hT;clear hT;simp only[uA] at hB
 refine andH ⟨hB.ci,hB.ci⟩ fun hS0=> ?_
 clear hA;have hA:=hB;clear hB
 try go_frame
 refine tP 7 13 (.bool lo) (s:=hS0) (h:= ?_)
 try go_frame
 refine tP 8 14 (.bool (!lo)) (s:=hS0) (h:= ?_)
 try go_frame
 refine tP 9 5 (.bool (!lo)) (s:=hS0) (h:= ?_)
 try go_frame
 refine wpAnyH_done (by kernel_rfl) ?_ _
 try go_frame
 clear hS0;obtain⟨hA,hF⟩:=fY hA;cases lo
 · go_wp2_with (first|((with_reducible refine gst ?_);refine wTy hA ?_;clear hF hA;intro w1 hA hF)|((with_reducible refine gbx ?_);refine wCy hA ?_;clear hF hA;intro b1 w1 hA hb1 hF))
   go_ret;exact⟨rfl,Zax (hA.pick pZ)⟩
 go_wp2_with (first|((with_reducible refine gst ?_);refine wTy hA ?_;clear hF hA;intro w1 hA hF)|((with_reducible refine gbx ?_);refine wCy hA ?_;clear hF hA;intro b1 w1 hA hb1 hF))
 refine(hab _).mono ?_;rintro e w1 ⟨rfl,hx⟩;replace hA:=hA.ext hx;clear hx hF
 try simp only[uA] at hA
 obtain⟨hA,hF⟩:=fY hA;cases ab
 · go_wp2_with (first|((with_reducible refine gst ?_);refine wTy hA ?_;clear hF hA;intro w1 hA hF)|((with_reducible refine gbx ?_);refine wCy hA ?_;clear hF hA;intro b1 w1 hA hb1 hF))
   go_ret;exact⟨rfl,Zax (hA.pick pZ)⟩
 go_wp2_with (first|((with_reducible refine gst ?_);refine wTy hA ?_;clear hF hA;intro w1 hA hF)|((with_reducible refine gbx ?_);refine wCy hA ?_;clear hF hA;intro b1 w1 hA hb1 hF))
 go_ret;exact⟨rfl,Zax (hA.pick pZ)⟩
end
end Tab
end
section
namespace Lock
open Go.RowKit
open _root_.Go.Proofs.YtkdjkngfnapjcaaGreatDoor.Wire
def TakeL (w:World) (i:Nat) (first:Int) (r:Rdr) (e:Ending) (w':World):Prop:=∃(r':Rdr) (p m c:Nat) (es:List Ent) (cs:List (ByteArray × Int)),e=.returned (.pointer (some ⟨p,0,none⟩))∧r'.s=cntsS first (entsS r.s)∧r'.Ok∧
 ((cntsS first (entsS r.s)).e=0→es=entsV r.s∧cs=cntsV first (entsS r.s))∧At [RdP i r] w [RdP i r',BookP ⟨p,m,c,first,es,cs⟩] w'
set_option maxRecDepth 1000000 in
theorem Zja {w:World} {i:Nat} {first:Int} {r:Rdr} (h:Sep [RdP i r] w) (hr:r.Ok):
 Calls Tryz.prog 133 #[.pointer (some ⟨i,0,none⟩),.int .u64 first] w (TakeL w i first r):=by
 have hA:=At.start h;obtain⟨hA,hF⟩:=fZ hA;clear h
 go_enter Tryz.func133,Tryz.ntmps133
 go_wp2_with (first|((with_reducible refine gst ?_);refine wTz hA ?_;clear hF hA;intro w1 hA hF)|((with_reducible refine gbx ?_);refine wCz hA ?_;clear hF hA;intro b1 w1 hA hb1 hF))
 refine(new_any _ first).mono ?_;rintro e w1 ⟨⟨p,m,c,f1,es,cs⟩,rfl,e1,e2,e3,hT⟩;simp only at e1 e2 e3;subst e1 e2 e3;replace hA:=hA.call0 hT;clear hT hF
 try simp only[uA] at hA
 obtain⟨hA,hF⟩:=fZ hA
 go_wp2_with (first|((with_reducible refine gst ?_);refine wTz hA ?_;clear hF hA;intro w1 hA hF)|((with_reducible refine gbx ?_);refine wCz hA ?_;clear hF hA;intro b1 w1 hA hb1 hF))
 refine(ZhN (hA.sep2 (A:=RdP i r) (B:=BookP ⟨p,m,c,f1,[],[]⟩) sZ sZ) hr).mono ?_;rintro e w2 ⟨r1,rfl,hz,hr1,hT⟩;have hs1:=Hd hz;replace hA:=hA.call2 (A:=RdP i r) (B:=BookP ⟨p,m,c,f1,[],[]⟩) sZ sZ hT;clear hT hz hF
 try simp only[uA] at hA
 obtain⟨hA,hF⟩:=fZ hA
 go_wp2_with (first|((with_reducible refine gst ?_);refine wTz hA ?_;clear hF hA;intro w1 hA hF)|((with_reducible refine gbx ?_);refine wCz hA ?_;clear hF hA;intro b1 w1 hA hb1 hF))
 refine(Zg0 (hA.sep2 (A:=RdP i r1) (B:=BookP ⟨p,m,c,f1,entsV r.s,[]⟩) sZ sZ) hr1).mono ?_;rintro e w2 ⟨r2,rfl,hz,hr2,hT⟩;rw[hs1.out] at hz hT;have hs2:=Hd hz;replace hA:=hA.call2 (A:=RdP i r1) (B:=BookP ⟨p,m,c,f1,entsV r.s,[]⟩) sZ sZ hT;clear hT hz hF
 try simp only[uA] at hA
 obtain⟨hA,hF⟩:=fZ hA
 go_wp2_with (first|((with_reducible refine gst ?_);refine wTz hA ?_;clear hF hA;intro w1 hA hF)|((with_reducible refine gbx ?_);refine wCz hA ?_;clear hF hA;intro b1 w1 hA hb1 hF))
 refine(ZaF (hA.sep1 (A:=RdP i r2) sR)).mono ?_;rintro e w7 ⟨rfl,hT⟩;replace hA:=hA.call1 (A:=RdP i r2) sR hT;clear hT hF
 try simp only[uA] at hA
 obtain⟨hA,hF⟩:=fZ hA
 by_cases he:r2.s.e=0
 · have hne:(r2.s.e != 0)=false:=by simpa using he
   clear he
   go_wp2_with (first|((with_reducible refine gst ?_);refine wTz hA ?_;clear hF hA;intro w1 hA hF)|((with_reducible refine gbx ?_);refine wCz hA ?_;clear hF hA;intro b1 w1 hA hb1 hF))
   go_ret;exact⟨r2,p,m,c,_,_,rfl,hs2.out,hr2,fun _=>⟨rfl,rfl⟩,hA.pick pZ⟩
 have he2:=Hd he
 have hne:(r2.s.e != 0)=true:=by simpa using he
 clear he
 go_wp2_with (first|((with_reducible refine gst ?_);refine wTz hA ?_;clear hF hA;intro w1 hA hF)|((with_reducible refine gbx ?_);refine wCz hA ?_;clear hF hA;intro b1 w1 hA hb1 hF))
 refine(new_any _ f1).mono ?_;rintro e w1 ⟨⟨p2,m2,c2,f2,es,cs⟩,rfl,e1,e2,e3,hT⟩;simp only at e1 e2 e3;subst e1 e2 e3;replace hA:=hA.call0 hT;clear hT hF
 try simp only[uA] at hA
 obtain⟨hA,hF⟩:=fZ hA
 go_wp2_with (first|((with_reducible refine gst ?_);refine wTz hA ?_;clear hF hA;intro w1 hA hF)|((with_reducible refine gbx ?_);refine wCz hA ?_;clear hF hA;intro b1 w1 hA hb1 hF))
 go_ret;exact⟨r2,p2,m2,c2,[],[],rfl,hs2.out,hr2,fun q=>absurd (by rw[hs2.out];exact q) he2.out,hA.pick pZ⟩
end Lock
namespace Tab
open Go.RowKit
open _root_.Go.Proofs.YtkdjkngfnapjcaaGreatDoor.Wire
open Lease (Ses SR Srd BookP)
def finL (first:Int) (l:List Int):Int:=(cntsS first (entsS (Zaq ⟨l,0⟩))).fin
def LoadP (R:Part) (first:Int) (l:List Int) (w:World) (e:Ending) (w':World):Prop:=
 (finL first l≠0∧e=.returned (.tuple #[.pointer none,.int .i64 (finL first l)])∧At [R] w [R] w')∨
 (finL first l=0∧∃(t p m q n c:Nat) (ss:List Ses),e=.returned (.tuple #[.pointer (some ⟨t,0,none⟩),.int .i64 0])∧Srd ss (ZaX ⟨l,0⟩)∧
   At [R] w [TabP t p m ss ⟨q,n,c,first,entsV (Zaq ⟨l,0⟩),cntsV first (entsS (Zaq ⟨l,0⟩))⟩,R] w')
theorem ZdH {s:InS} (h:s.fin=0):s.e=0:=by
 unfold InS.fin InS.left at h
 by_cases q:s.e=0
 · exact q
 rw[if_pos q,if_neg (by omega)] at h;exact h
theorem Zf6 {first:Int} {s:InS} (h:(cntsS first s).e=0):s.e=0:=by
 by_cases q:s.e=0
 · exact q
 have z1:s.shortV s.left=0:=by unfold InS.shortV;rw[if_pos q]
 have z2:s.shortS s.left=s:=by unfold InS.shortS;rw[if_pos q]
 unfold cntsS at h;rw[z1,z2] at h;exact h
theorem Zf0 {s:InS} (h:(entsS s).e=0):s.e=0:=by
 by_cases q:s.e=0
 · exact q
 have z1:s.shortV s.left=0:=by unfold InS.shortV;rw[if_pos q]
 have z2:s.shortS s.left=s:=by unfold InS.shortS;rw[if_pos q]
 unfold entsS at h;rw[z1,z2] at h;exact h
set_option maxRecDepth 1000000 in
theorem ZiC {R:Part} {w:World} {v:Value} {l:List Int} {first:Int} (h:Sep [R] w) (hR:∀w,R.holds w→Reads w v l.length (flatY l)) (hb:Byt l) (hl:l.length≤1000000000000):
 Calls Tryz.prog 58 #[.int .u64 first,v] w (LoadP R first l w):=by
 have hA:=At.start h
 have hni:=fun(w1:World) (q:Sep [R] w1)=>Zko q hR hb hl
 obtain⟨ax,cap,hv,_,_⟩:=hR w (hA.get .here);subst hv;obtain⟨hA,hF⟩:=fZ hA;clear h hR
 go_enter Tryz.func58,Tryz.ntmps58
 go_wp2_with (first|((with_reducible refine gst ?_);refine wTz hA ?_;clear hF hA;intro w1 hA hF)|((with_reducible refine gbx ?_);refine wCz hA ?_;clear hF hA;intro b1 w1 hA hb1 hF))
 refine(hni _ (hA.sep1 (A:=R) sZ)).mono ?_;rintro e w1 ⟨i,r,rfl,hz,hr,hT⟩;have hs0:=Hd hz;replace hA:=hA.call1 (A:=R) sZ hT;clear hT hz hni hF
 try simp only[uA] at hA
 obtain⟨hA,hF⟩:=fZ hA
 go_wp2_with (first|((with_reducible refine gst ?_);refine wTz hA ?_;clear hF hA;intro w1 hA hF)|((with_reducible refine gbx ?_);refine wCz hA ?_;clear hF hA;intro b1 w1 hA hb1 hF))
 refine(Lease.ZjU (hA.sep1 (A:=RdP i r) sR) hr).mono ?_;rintro e w1 ⟨r1,p,m,ss,rfl,hz,hr1,hsr,_,hT⟩;rw[hs0.out] at hz hsr;have hs1:=Hd hz;have hsr':=Hd hsr;replace hA:=hA.call1 (A:=RdP i r) sR hT;clear hT hz hsr hF
 try simp only[uA] at hA
 obtain⟨hA,hF⟩:=fZ hA
 go_wp2_with (first|((with_reducible refine gst ?_);refine wTz hA ?_;clear hF hA;intro w1 hA hF)|((with_reducible refine gbx ?_);refine wCz hA ?_;clear hF hA;intro b1 w1 hA hb1 hF))
 refine(Lock.Zja (first:=first) (hA.sep1 (A:=RdP i r1) sR) hr1).mono ?_;rintro e w1 ⟨r2,q,n,c,es,cs,rfl,hz,hr2,hsl,hT⟩;rw[hs1.out] at hz hsl;have hs2:=Hd hz;have hsl':=Hd hsl;replace hA:=hA.call1 (A:=RdP i r1) sR hT;clear hT hz hsl hF
 try simp only[uA] at hA
 obtain⟨hA,hF⟩:=fZ hA
 go_wp2_with (first|((with_reducible refine gbx ?_);refine wHz 180 [.pointer (some ⟨p,0,none⟩),.pointer (some ⟨q,0,none⟩)] hA ?_;clear hF hA;intro t w1 hA ht hF)|((with_reducible refine gst ?_);refine wTz hA ?_;clear hF hA;intro w1 hA hF)|((with_reducible refine gbx ?_);refine wCz hA ?_;clear hF hA;intro b1 w1 hA hb1 hF))
 refine(end_any (hA.sep1 (A:=RdP i r2) sR) hr2).mono ?_;rintro e w1 ⟨rfl,hT⟩;have hB:=hA.call1 (A:=RdP i r2) sR hT;clear hT;have hfi:=Hd (show r2.s.fin=finL first l from by rw[hs2.out];rfl);rw[hfi.out];clear hF hA;have hA:=hB;clear hB
 try simp only[uA] at hA
 obtain⟨hA,hF⟩:=fZ hA
 by_cases hf:finL first l=0
 · have hf1:=Hd hf
   have hf2:(finL first l != 0)=false:=by simpa using hf
   have he2:(cntsS first (entsS (Zaq ⟨l,0⟩))).e=0:=ZdH hf;obtain⟨q1,q2⟩:=hsl'.out he2;subst q1 q2;have hsr2:=hsr'.out (Zf0 (Zf6 he2));clear hf he2
   go_wp2_with (first|((with_reducible refine gst ?_);refine wTz hA ?_;clear hF hA;intro w1 hA hF)|((with_reducible refine gbx ?_);refine wCz hA ?_;clear hF hA;intro b1 w1 hA hb1 hF))
   refine bodyPost_ret (v:=.tuple #[.pointer (some ⟨t,0,none⟩),.int .i64 0]) (by simp[results,Tryz.results58,go_sem]) rfl ?_;exact .inr ⟨hf1.out,t,p,m,q,n,c,ss,rfl,hsr2,(Zcb (ss:=ss) (b:=⟨q,n,c,first,entsV (Zaq ⟨l,0⟩),cntsV first (entsS (Zaq ⟨l,0⟩))⟩) hA sZ sZ sZ).pick pZ⟩
 have hf1:=Hd hf
 have hf2:(finL first l != 0)=true:=by simpa using hf
 clear hf
 go_wp2_with (first|((with_reducible refine gst ?_);refine wTz hA ?_;clear hF hA;intro w1 hA hF)|((with_reducible refine gbx ?_);refine wCz hA ?_;clear hF hA;intro b1 w1 hA hb1 hF))
 refine bodyPost_ret (v:=.tuple #[.pointer none,.int .i64 (finL first l)]) (by simp[results,Tryz.results58,go_sem]) rfl ?_;exact .inl ⟨hf1.out,rfl,hA.pick pZ⟩
end Tab
end
section
namespace Tab
open Path (bl Zad overB Zaw)
open Lease (Ses Ans fresh)
open Lock (S3 Ent)
open Cmd (Cm ZaA)
theorem bl_inj {p q:ByteArray} (h:bl p=bl q):p=q:=by
 unfold Path.bl at h;cases p;cases q
 congr 1
 exact Array.toList_inj.1 h
def updO (g:Option (Ses→Ses)) (n:Int) (f:ByteArray) (S:List Ses):List Ses:=match g with
 |some g=>updA g n f S
 |none=>S
def KeyG (g:Ses→Ses):Prop:=∀s,keyE (g s)=keyE s
theorem KeyG.is {g:Ses→Ses} (h:KeyG g) (s:Ses) (n:Int) (f:ByteArray):(g s).is n f=s.is n f:=by
 rw[Bool.eq_iff_iff,is_key,is_key,h]
theorem Zmh (n:Int) (f:ByteArray) (m:Int) (k:ByteArray) (b t:Nat):(fresh n f b t).is m k=decide (n=m∧f=k):=rfl
theorem ZjJ {g1 g2:Ses→Ses} {n:Int} {f:ByteArray} (h1:KeyG g1):∀S,updA g2 n f (updA g1 n f S)=updA (fun s=>g2 (g1 s)) n f S
 |[]=>by simp[updA,h1.is,Zmh]
 |s::S=>by
  unfold updA
  cases hq:s.is n f with
  |true=>simp[updA,h1.is,hq]
  |false=>simp[updA,hq,ZjJ h1 S]
theorem ZnI {s:Ses} {S:List Ses} (h:Kn (s::S)):(∀x ∈ S,keyE x≠keyE s)∧Kn S:=by
 unfold Kn at *
 rw[List.map_cons,List.nodup_cons] at h;exact⟨fun x hx e=>h.1 (List.mem_map.2 ⟨x,hx,e⟩),h.2⟩
theorem Zfl {g:Ses→Ses} {n:Int} {f:ByteArray}:∀{S},Kn S→(updA g n f S).Perm (g (lookA S n f)::S.filter (fun x=> !x.is n f))
 |[],_=>by simp[updA,lookA,Lease.find]
 |s::S,hk=>by
  obtain⟨h1,h2⟩:=ZnI hk;unfold updA
  cases hq:s.is n f with
  |true=>
   have hf:S.filter (fun x=> !x.is n f)=S:=List.filter_eq_self.2 fun x hx=>by
    cases q:x.is n f with
    |false=>rfl
    |true=>exact absurd ((is_key.1 q).trans (is_key.1 hq).symm) (h1 x hx)
   simp[hq,hf,lookA,Lease.find]
  |false=>
   have ih:=Zfl (g:=g) (n:=n) (f:=f) h2
   have hl:lookA (s::S) n f=lookA S n f:=by simp[lookA,Lease.find,hq]
   rw[hl,List.filter_cons,hq];simp only[Bool.false_eq_true,if_false,Bool.not_false,if_true];exact(ih.cons s).trans (.swap _ _ _)
theorem ZgF {S S':List Ses} (h:S.Perm S') (hk:Kn S) (n:Int) (f:ByteArray):lookA S n f=lookA S' n f:=by
 have hk':Kn S':=by unfold Kn at *;exact(h.map keyE).nodup_iff.1 hk
 unfold lookA
 congr 1
 unfold Lease.find
 cases h1:S.find? (·.is n f) with
 |none=>
  symm
  rw[List.find?_eq_none] at h1 ⊢
  exact fun x hx=>h1 x (h.mem_iff.2 hx)
 |some s=>
  have a1:=List.find?_some h1;have a2:=h.mem_iff.1 (List.mem_of_find?_eq_some h1)
  cases h2:S'.find? (·.is n f) with
  |none=>exact absurd a1 (List.find?_eq_none.1 h2 s a2)
  |some r=>
   have b1:=List.find?_some h2;have b2:=List.mem_of_find?_eq_some h2;have e:keyE s=keyE r:=(is_key.1 a1).trans (is_key.1 b1).symm
   have key:∀{l:List Ses},(l.map keyE).Nodup→∀{x y},x ∈ l→y ∈ l→keyE x=keyE y→x=y:=by
    intro l
    induction l with
    |nil=>intro _ x y hx;cases hx
    |cons z l ih=>
     intro hn x y hx hy hxy;rw[List.map_cons,List.nodup_cons] at hn
     rcases List.mem_cons.1 hx with e1|hx2<;>rcases List.mem_cons.1 hy with e2|hy2
     · rw[e1,e2]
     · subst e1;exact absurd (List.mem_map.2 ⟨y,hy2,hxy.symm⟩) hn.1
     · subst e2;exact absurd (List.mem_map.2 ⟨x,hx2,hxy⟩) hn.1
     exact ih hn.2 hx2 hy2 hxy
   rw[key hk' a2 b2 e]
theorem Zlr {S S':List Ses} (h:S.Perm S') (hk:Kn S) (g:Ses→Ses) (n:Int) (f:ByteArray):(updA g n f S).Perm (updA g n f S'):=by
 have hk':Kn S':=by unfold Kn at *;exact(h.map keyE).nodup_iff.1 hk
 refine(Zfl hk).trans (.trans ?_ (Zfl hk').symm);rw[ZgF h hk];exact(h.filter _).cons _
theorem cnt_perm {S S':List Ses} (h:S.Perm S') (f:ByteArray):Lease.cnt S f=Lease.cnt S' f:=by
 unfold Lease.cnt;exact(h.filter _).length_eq
def ovP (p:ByteArray) (e:Ent):Bool:=overB (bl e.path) (bl p)
structure LocL (l l':S3) (p:ByteArray) (n:Int) (f:ByteArray):Prop where
 first:l.first=l'.first
 own:(l.es.filter (·.of n f)).Perm (l'.es.filter (·.of n f))
 ov:(l.es.filter (ovP p)).Perm (l'.es.filter (ovP p))
 ctr:Lock.counter l.first l.cs p=Lock.counter l'.first l'.cs p
theorem ZeY (es:List Ent) (p:ByteArray) (n:Int) (f:ByteArray):(Lock.find es p n f).isSome=(es.filter (·.of n f)).any (·.is p n f):=by
 unfold Lock.find;rw[List.any_filter,Bool.eq_iff_iff,List.find?_isSome,List.any_eq_true]
 refine exists_congr fun x=>and_congr_right fun _=> ?_
 simp only[Lock.Ent.is,Lock.Ent.of,Bool.and_eq_true,decide_eq_true_eq];exact⟨fun h=>⟨h.2,h⟩,fun h=>h.2⟩
theorem Zkq (es:List Ent) (p:ByteArray):Lock.maxS es p=Lock.maxS (es.filter (ovP p)) p:=by
 unfold Lock.maxS;rw[List.foldl_filter]
 congr 1
 funext m e
 unfold ovP
 cases overB (bl e.path) (bl p)<;>rfl
theorem ZiV (es:List Ent) (p:ByteArray) (mode:Int):Lock.ZaO es p mode=Lock.ZaO (es.filter (ovP p)) p mode:=by
 unfold Lock.ZaO;rw[List.all_filter]
 congr 1
 congr 1
 funext x
 unfold Lock.wayB ovP
 cases overB (bl x.path) (bl p)<;>simp
theorem Zmz (es:List Ent) (p:ByteArray) {e:Ent} (he:e.path=p):Lock.ZaP es e=Lock.ZaP (es.filter (ovP p)) e:=by
 unfold Lock.ZaP;rw[List.all_filter]
 congr 1
 funext x
 unfold Lock.wayB ovP;rw[he]
 cases overB (bl x.path) (bl p)<;>simp
theorem ZiY (es:List Ent) {p:ByteArray} (hp:Zad (bl p)=true) (n:Int):Zbl es p n=Zbl (es.filter (ovP p)) p n:=by
 unfold Zbl;rw[List.any_filter]
 congr 1
 funext e
 by_cases he:e.path=p
 · have h1:ovP p e=true:=by unfold ovP;rw[he];exact Path.ZgA hp
   rw[h1,Bool.true_and,←Zmz es p he]
 rw[decide_eq_false (fun q=>he q.1)];simp
theorem Zcq {l r:List Ent} (h:l.Perm r) (p:ByteArray) (n:Int):Zbl l p n=Zbl r p n:=by
 unfold Zbl;rw[h.any_eq]
 congr 1
 funext e
 rw[Lock.ZcE h]
section
variable {l l':S3} {p:ByteArray} {n:Int} {f:ByteArray} (h:LocL l l' p n f)
include h
theorem LocL.find:(Lock.find l.es p n f).isSome=(Lock.find l'.es p n f).isSome:=by rw[ZeY,ZeY,h.own.any_eq]
theorem LocL.maxS:Lock.maxS l.es p=Lock.maxS l'.es p:=by rw[Zkq,Zkq l'.es,Lock.ZgC h.ov]
theorem LocL.could (mode:Int):Lock.ZaO l.es p mode=Lock.ZaO l'.es p mode:=by
 rw[ZiV,ZiV l'.es];unfold Lock.ZaO;rw[h.ov.all_eq]
theorem LocL.held:Lock.heldN l.es n f=Lock.heldN l'.es n f:=h.own.length_eq
theorem LocL.may (mode:Int):l.may p n f mode=l'.may p n f mode:=by
 unfold S3.may;rw[h.find,h.held,h.ctr]
theorem LocL.newE (mode:Int):l.newE p n f mode=l'.newE p n f mode:=by
 unfold S3.newE;rw[h.ctr,h.maxS]
theorem LocL.check (hp:Zad (bl p)=true) (m:Int):Zbl l.es p m=Zbl l'.es p m:=by
 rw[ZiY _ hp,ZiY l'.es hp,Zcq h.ov]
end
inductive LE where
 |nop
 |add (e:Ent)
 |rem (p:ByteArray) (n:Int) (f:ByteArray)
 |drop (n:Int) (f:ByteArray)
def LE.run (l:S3):LE→S3
 |.nop=>l
 |.add e=>⟨l.first,l.es++[e],Lock.putC l.cs e.path e.n⟩
 |.rem p n f=>l.remove p n f
 |.drop n f=>l.dropAll n f
structure LEq (l l':S3):Prop where
 first:l.first=l'.first
 es:l.es.Perm l'.es
 cs:l.cs.Perm l'.cs
def CK (cs:List (ByteArray × Int)):Prop:=cs.Pairwise (fun a b=>a.1≠b.1)
theorem Zmv {cs cs':List (ByteArray × Int)} (h:cs.Perm cs') (hk:CK cs) (p:ByteArray):Lock.ctr cs p=Lock.ctr cs' p:=by
 have hk':CK cs':=h.pairwise hk fun {_ _} q=>q.symm
 unfold Lock.ctr
 congr 1
 have one:∀{l:List (ByteArray × Int)},CK l→∀{x y},x ∈ l→y ∈ l→x.1=y.1→x=y:=by
  intro l
  induction l with
  |nil=>intro _ x y hx;cases hx
  |cons z l ih=>
   intro hn x y hx hy hxy;have h1:=List.pairwise_cons.1 hn
   rcases List.mem_cons.1 hx with e1|hx2<;>rcases List.mem_cons.1 hy with e2|hy2
   · rw[e1,e2]
   · subst e1;exact absurd hxy (h1.1 y hy2)
   · subst e2;exact absurd hxy.symm (h1.1 x hx2)
   exact ih h1.2 hx2 hy2 hxy
 cases h1:cs.find? (·.1=p) with
 |none=>
  symm
  rw[List.find?_eq_none] at h1 ⊢
  exact fun x hx=>h1 x (h.mem_iff.2 hx)
 |some s=>
  have a1:=List.find?_some h1;have a2:=h.mem_iff.1 (List.mem_of_find?_eq_some h1)
  cases h2:cs'.find? (·.1=p) with
  |none=>exact absurd a1 (List.find?_eq_none.1 h2 s a2)
  |some r=>
   have b1:=List.find?_some h2;have b2:=List.mem_of_find?_eq_some h2;simp only[decide_eq_true_eq] at a1 b1;rw[one hk' a2 b2 (a1.trans b1.symm)]
theorem ZfC {p:ByteArray} {n:Int}:∀{cs},CK cs→(Lock.putC cs p n).Perm ((p,n)::cs.filter (fun c=> !decide (c.1=p)))
 |[],_=>by simp[Lock.putC]
 |c::cs,hk=>by
  have hk':=List.pairwise_cons.1 hk;unfold Lock.putC
  by_cases hc:c.1=p
  · have hf:cs.filter (fun c=> !decide (c.1=p))=cs:=List.filter_eq_self.2 fun x hx=>by
     have:=hk'.1 x hx;simp only[Bool.not_eq_true',decide_eq_false_iff_not]
     exact fun e=>this (hc.trans e.symm)
    rw[if_pos hc,List.filter_cons,decide_eq_true hc,hf];exact .refl _
  rw[if_neg hc,List.filter_cons,decide_eq_false hc]
  exact((ZfC hk'.2).cons c).trans (.swap _ _ _)
theorem ZlQ {cs cs':List (ByteArray × Int)} (h:cs.Perm cs') (hk:CK cs) (p:ByteArray) (n:Int):(Lock.putC cs p n).Perm (Lock.putC cs' p n):=
 (ZfC hk).trans (((h.filter _).cons _).trans (ZfC (h.pairwise hk fun {_ _} q=>q.symm)).symm)
theorem put_comm {p q:ByteArray} {m n:Int} (hne:p≠q):∀cs,(Lock.putC (Lock.putC cs p m) q n).Perm (Lock.putC (Lock.putC cs q n) p m)
 |[]=>by
  simp only[Lock.putC,if_neg hne,if_neg (fun e=>hne (Eq.symm e))];exact .swap _ _ _
 |c::cs=>by
  have ih:=put_comm (m:=m) (n:=n) hne cs
  by_cases h1:c.1=p
  · have h2:¬c.1=q:=fun e=>hne (h1.symm.trans e)
    simp[Lock.putC,h1,h2,hne]
  by_cases h2:c.1=q
  · have hne':¬q=p:=fun e=>hne e.symm
    simp[Lock.putC,h1,h2,hne']
  simp only[Lock.putC,if_neg h1,if_neg h2];exact ih.cons _
theorem LEq.refl (l:S3):LEq l l:=⟨rfl,.refl _,.refl _⟩
theorem LEq.symm {l l':S3} (h:LEq l l'):LEq l' l:=⟨h.first.symm,h.es.symm,h.cs.symm⟩
theorem LEq.trans {l l' l'':S3} (h:LEq l l') (k:LEq l' l''):LEq l l'':=⟨h.first.trans k.first,h.es.trans k.es,h.cs.trans k.cs⟩
theorem LEq.loc {l l':S3} (h:LEq l l') (hk:CK l.cs) (p:ByteArray) (n:Int) (f:ByteArray):LocL l l' p n f:=
 ⟨h.first,h.es.filter _,h.es.filter _,by unfold Lock.counter;rw[Zmv h.cs hk,h.first]⟩
theorem LEq.run {l l':S3} (h:LEq l l') (hk:CK l.cs) (e:LE):LEq (e.run l) (e.run l'):=by
 cases e with
 |nop=>exact h
 |add e=>exact⟨h.first,h.es.append_right _,ZlQ h.cs hk _ _⟩
 |rem p n f=>exact⟨h.first,h.es.filter _,h.cs⟩
 |drop n f=>exact⟨h.first,h.es.filter _,h.cs⟩
end Tab
end
section
namespace Tab
open Lease (Ses Ans fresh)
open Lock (S3 Ent)
open Cmd (Cm ZaA)
theorem ZiB {g:Ses→Ses} {n:Int} {f:ByteArray} (hg:∀s,keyE (g s)=keyE s):∀S:List Ses,lookA (updA g n f S) n f=g (lookA S n f)
 |[]=>by
  have h:(g (fresh n f 0 0)).is n f=true:=is_key.2 (by rw[hg];rfl);simp[lookA,updA,Lease.find,h]
 |s::S=>by
  unfold updA
  cases hq:s.is n f with
  |true=>
   have h:(g s).is n f=true:=is_key.2 (by rw[hg];exact is_key.1 hq);simp[lookA,Lease.find,hq,h]
  |false=>
   have ih:=ZiB (n:=n) (f:=f) hg S;simp only[Bool.false_eq_true,if_false]
   unfold lookA Lease.find at *
   rw[List.find?_cons,List.find?_cons,hq];exact ih
end Tab
end
section
namespace Tab
open Path (bl Zad overB Zaw)
open Lease (Ses Ans fresh)
open Lock (S3 Ent)
open Cmd (Cm ZaA)
def pathK (c:Cm):Prop:=4≤c.kind∧c.kind≤7
theorem ZfQ {c:Cm} (h:ZaA c=true) (h0:c.kind≠0):Zad (bl c.foot)=true∧((pathK c∧Zad (bl c.path)=true∧Cmd.keyC c=some (c.path,c.num))∨(¬pathK c∧Cmd.keyC c=some (c.foot,c.num))):=by
 have h':=h;unfold ZaA at h;unfold Cmd.keyC Cmd.footC;rw[h'];unfold Cmd.hasOf at h ⊢;unfold pathK
 by_cases q1:c.kind=1
 · simp[q1,Cmd.Zcg] at h ⊢;exact h.1.1.1.2
 by_cases q2:c.kind=2
 · simp[q2,Cmd.Zcg] at h ⊢;exact h.1.1.2
 by_cases q3:c.kind=3
 · simp[q3,Cmd.Zcg] at h ⊢;exact h.1.1.2
 by_cases q4:c.kind=4
 · simp[q4,Cmd.Zcg] at h ⊢;exact⟨h.1.1.1.1.2,h.1.1.2⟩
 by_cases q5:c.kind=5
 · simp[q5,Cmd.Zcg] at h ⊢;exact⟨h.1.1.1.1.2,h.1.1.2⟩
 by_cases q6:c.kind=6
 · simp[q6,Cmd.Zcg] at h ⊢;exact⟨h.1.1.1.2,h.1.2⟩
 by_cases q7:c.kind=7
 · simp[q7,Cmd.Zcg] at h ⊢;exact⟨h.1.1.1.1.2,h.1.1.2⟩
 by_cases q8:c.kind=8
 · simp[q8,Cmd.Zcg] at h ⊢;exact h.1.2
 simp[h0,q1,q2,q3,q4,q5,q6,q7,q8] at h
def Zm3 (a b:Cm):Bool:=match Cmd.keyC a,Cmd.keyC b with
 |some x,some y=>(x.2==y.2) || overB (bl x.1) (bl y.1)
 |_,_=>false
structure Live (c:Cm):Prop where
 right:ZaA c=true
 kind:c.kind≠0
theorem Zcp {c:Cm} (h:¬Live c) (t:TS):Zat t c=(t,ans0):=by
 unfold Zat;rw[if_pos]
 by_cases h0:c.kind=0
 · exact .inr h0
 cases hr:ZaA c with
 |false=>exact .inl rfl
 |true=>exact absurd ⟨hr,h0⟩ h
def keyF (c:Cm):ByteArray:=if 4≤c.kind∧c.kind≤7 then c.path else c.foot
theorem Live.key {c:Cm} (h:Live c):Cmd.keyC c=some (keyF c,c.num)∧Zad (bl (keyF c))=true:=by
 obtain⟨h1,h2⟩:=ZfQ h.right h.kind;unfold keyF
 rcases h2 with⟨q,q1,q2⟩|⟨q,q1⟩
 · rw[if_pos (show 4≤c.kind∧c.kind≤7 from q)];exact⟨q2,q1⟩
 rw[if_neg (show ¬(4≤c.kind∧c.kind≤7) from q)];exact⟨q1,h1⟩
theorem Live.apart {a b:Cm} (ha:Live a) (hb:Live b) (hc:Zm3 a b=false):a.num≠b.num∧overB (bl (keyF a)) (bl (keyF b))=false:=by
 unfold Zm3 at hc;rw[ha.key.1,hb.key.1] at hc;simp only[Bool.or_eq_false_iff,beq_eq_false_iff_ne] at hc;exact hc
theorem Zkx {c:Cm} (h:pathK c):keyF c=c.path:=if_pos h
structure Loc (c:Cm) (t t':TS):Prop where
 look:lookA t.S c.num c.foot=lookA t'.S c.num c.foot
 cnt:c.kind=1→Lease.cnt t.S c.foot=Lease.cnt t'.S c.foot
 lock:pathK c→LocL t.L t'.L c.path c.num c.foot
theorem LocL.refl (l:S3) (p:ByteArray) (n:Int) (f:ByteArray):LocL l l p n f:=⟨rfl,.refl _,.refl _,rfl⟩
theorem Loc.refl (c:Cm) (t:TS):Loc c t t:=⟨rfl,fun _=>rfl,fun _=>LocL.refl _ _ _ _⟩
def LE.of (c:Cm):LE→Prop
 |.nop=>True
 |.add e=>pathK c∧e.path=c.path∧e.num=c.num∧e.foot=c.foot∧Zaw (bl c.foot) (bl c.path)=true
 |.rem p n f=>pathK c∧p=c.path∧n=c.num∧f=c.foot
 |.drop n f=>¬pathK c∧n=c.num∧f=c.foot
def GOk (c:Cm) (g:Option (Ses→Ses)):Prop:=∀g',g=some g'→KeyG g'∧(pathK c→∀s,(g' s).op=s.op)
def runE (t:TS) (c:Cm) (g:Option (Ses→Ses)) (e:LE):TS:=⟨updO g c.num c.foot t.S,e.run t.L⟩
theorem ZgE {g:Option (Ses→Ses)} {n:Int} {f:ByteArray} (hg:∀g',g=some g'→KeyG g') (S:List Ses):lookA (updO g n f S) n f=(g.getD id) (lookA S n f):=by
 cases g with
 |none=>rfl
 |some g=>exact ZiB (hg g rfl) S
theorem Zlv {c:Cm} {a:Ans} {g:Option (Ses→Ses)} (hg:GOk c g) (s:Ses):∃g2,GOk c g2∧∀(S:List Ses) (L:S3),lookA S c.num c.foot=s→tellT ⟨updO g c.num c.foot S,L⟩ c a=⟨updO g2 c.num c.foot S,L⟩:=by
 by_cases hq:Lease.tellE ((g.getD id) s) c.req=0
 · refine⟨some (fun s=>((g.getD id) s).tell c.req a),?_,fun S L hs=> ?_⟩
   · intro g' e
     cases e
     cases g with
     |none=>exact⟨fun s=>rfl,fun _ s=>rfl⟩
     |some g=>exact⟨fun s=>(hg g rfl).1 s,fun h s=>(hg g rfl).2 h s⟩
   unfold tellT opT;simp only;rw[ZgE (fun g' e=>(hg g' e).1),hs,if_pos hq]
   cases g with
   |none=>rfl
   |some g=>
    show TS.mk (updA _ _ _ (updA g _ _ S)) L=_;rw[ZjJ (hg g rfl).1]
    rfl
 refine⟨g,hg,fun S L hs=> ?_⟩
 unfold tellT opT;simp only;rw[ZgE (fun g' e=>(hg g' e).1),hs,if_neg hq]
theorem Zkm (t:TS) (c:Cm) (g:Ses→Ses) (e:Int):opT t c g e=runE t c (if e=0 then some g else none) .nop:=by
 unfold opT
 split<;>rfl
theorem ZiU (t:TS) (c:Cm) (e:Int):endT t c e=runE t c (if e=0 then some Ses.ended else none) (if e=0 then .drop c.num c.foot else .nop):=by
 unfold endT
 split<;>rfl
theorem ZbI (c:Cm):GOk c none:=nofun
theorem ZiK {c:Cm} {g:Ses→Ses} (e:Int) (h1:KeyG g) (h2:pathK c→∀s,(g s).op=s.op):GOk c (if e=0 then some g else none):=by
 intro g' q
 split at q
 · cases q;exact⟨h1,h2⟩
 cases q
theorem do_eff {t:TS} {k:Nat} {c:Cm} (hi:Lock.Inv t.L k) (hc:Live c) (h8:c.kind≠8):∃(g:Option (Ses→Ses)) (e:LE) (a:Ans),GOk c g∧e.of c∧∀(t':TS) (k':Nat),Lock.Inv t'.L k'→Loc c t t'→doT t' c=(runE t' c g e,a):=by
 unfold doT
 by_cases q1:c.kind=1
 · refine⟨if Lease.openE (lookA t.S c.num c.foot) (Lease.cnt t.S c.foot)=0 then some (fun s=>s.opened c.n c.time) else none,.nop,ansE (Lease.openE (lookA t.S c.num c.foot) (Lease.cnt t.S c.foot)),ZiK (Lease.openE (lookA t.S c.num c.foot) (Lease.cnt t.S c.foot)) (g:=fun s=>s.opened c.n c.time) (fun s=>rfl) (fun h=>by unfold pathK at h;omega),trivial,fun t' k' _ hl=> ?_⟩
   rw[if_pos q1,←hl.look,←hl.cnt q1,Zkm]
 by_cases q2:c.kind=2
 · refine⟨if(if(lookA t.S c.num c.foot).op then(0:Int) else 50)=0 then some Ses.ended else none,(if(if(lookA t.S c.num c.foot).op then(0:Int) else 50)=0 then .drop c.num c.foot else .nop),ansE (if(lookA t.S c.num c.foot).op then 0 else 50),ZiK (if(lookA t.S c.num c.foot).op then 0 else 50) (g:=Ses.ended) (fun s=>rfl) (fun h=>by unfold pathK at h;omega),?_,fun t' k' _ hl=> ?_⟩
   · split
     · exact⟨by unfold pathK;omega,rfl,rfl⟩
     trivial
   rw[if_neg q1,if_pos q2,←hl.look,ZiU]
 by_cases q3:c.kind=3
 · refine⟨if(if(lookA t.S c.num c.foot).op then(0:Int) else 50)=0 then some (fun s=>s.kept c.time) else none,.nop,ansE (if(lookA t.S c.num c.foot).op then 0 else 50),ZiK (if(lookA t.S c.num c.foot).op then 0 else 50) (g:=fun s=>s.kept c.time) (fun s=>rfl) (fun h=>by unfold pathK at h;omega),trivial,fun t' k' _ hl=> ?_⟩
   rw[if_neg q1,if_neg q2,if_pos q3,←hl.look,Zkm]
 have hk:pathK c:=by
  obtain⟨_,h2⟩:=ZfQ hc.right hc.kind
  rcases h2 with⟨q,_⟩|⟨q,_⟩
  · exact q
  exfalso
  have:=hc.right;unfold ZaA Cmd.hasOf at this;unfold pathK at q;have h0:=hc.kind;rw[if_neg h0,if_neg q1,if_neg q2,if_neg q3,if_neg (by omega),if_neg (by omega),if_neg (by omega),if_neg (by omega),if_neg h8] at this;cases this
 have hp:Zad (bl c.path)=true:=by
  have:=hc.key.2
  rwa [Zkx hk] at this
 have hmay:∀{t':TS},Loc c t t'→mayT t' c=mayT t c:=fun hl=>by unfold mayT;rw[hl.look]
 by_cases hm:mayT t c=0
 case neg=>
  refine⟨none,.nop,ansE (mayT t c),ZbI c,trivial,fun t' k' _ hl=> ?_⟩;rw[if_neg q1,if_neg q2,if_neg q3];unfold ZaN;rw[hmay hl,if_pos hm]
  rfl
 have hab:Zaw (bl c.foot) (bl c.path)=true:=by
  unfold mayT at hm
  split at hm
  · omega
  split at hm
  · omega
  rename_i h
  simpa using h
 have hadd:∃(e:LE) (a:Ans),e.of c∧∀(t':TS),Loc c t t'→addT t' c=(runE t' c none e,a):=by
  by_cases hy:t.L.may c.path c.num c.foot c.mode=0
  · refine⟨.add (t.L.newE c.path c.num c.foot c.mode),⟨0,(t.L.newE c.path c.num c.foot c.mode).n,Lock.ZaO t.L.es c.path c.mode⟩,⟨hk,rfl,rfl,rfl,hab⟩,fun t' hl=> ?_⟩
    have h1:=hl.lock hk;unfold addT S3.add;rw[←h1.may,if_pos hy,if_pos hy,←h1.newE,←h1.could];unfold S3.added runE LE.run;rw[←h1.newE,←h1.ctr]
    rfl
  refine⟨.nop,ansE (t.L.may c.path c.num c.foot c.mode),trivial,fun t' hl=> ?_⟩
  have h1:=hl.lock hk;unfold addT S3.add;rw[←h1.may,if_neg hy,if_neg hy]
  rfl
 obtain⟨ea,aa,hea,hadd⟩:=hadd
 by_cases q4:c.kind=4
 · refine⟨none,ea,aa,ZbI c,hea,fun t' k' _ hl=> ?_⟩
   rw[if_neg q1,if_neg q2,if_neg q3];unfold ZaN;rw[hmay hl,hm,if_neg (by simp),if_pos q4,hadd t' hl]
 by_cases q5:c.kind=5
 · by_cases hcd:Lock.ZaO t.L.es c.path c.mode=true
   · refine⟨none,ea,aa,ZbI c,hea,fun t' k' _ hl=> ?_⟩
     rw[if_neg q1,if_neg q2,if_neg q3];unfold ZaN tryT;rw[hmay hl,hm,if_neg (by simp),if_neg q4,if_pos q5,←(hl.lock hk).could,if_pos hcd,hadd t' hl]
   refine⟨none,.nop,if t.L.may c.path c.num c.foot c.mode=0 then ansE 51 else ansE (t.L.may c.path c.num c.foot c.mode),ZbI c,trivial,fun t' k' _ hl=> ?_⟩
   rw[if_neg q1,if_neg q2,if_neg q3];unfold ZaN tryT;rw[hmay hl,hm,if_neg (by simp),if_neg q4,if_pos q5,←(hl.lock hk).could,if_neg hcd,←(hl.lock hk).may];show _=(t',if t.L.may c.path c.num c.foot c.mode=0 then ansE 51 else ansE (t.L.may c.path c.num c.foot c.mode))
   split<;>rfl
 by_cases q6:c.kind=6
 · refine⟨none,.rem c.path c.num c.foot,ansE (if(Lock.find t.L.es c.path c.num c.foot).isSome then 0 else 52),ZbI c,⟨hk,rfl,rfl,rfl⟩,fun t' k' _ hl=> ?_⟩
   rw[if_neg q1,if_neg q2,if_neg q3];unfold ZaN;rw[hmay hl,hm,if_neg (by simp),if_neg q4,if_neg q5,if_pos q6,←(hl.lock hk).find]
   rfl
 refine⟨none,.nop,ansE (if Zbl t.L.es c.path c.n then 0 else 52),ZbI c,trivial,fun t' k' hi' hl=> ?_⟩
 rw[if_neg q1,if_neg q2,if_neg q3];unfold ZaN;rw[hmay hl,hm,if_neg (by simp),if_neg q4,if_neg q5,if_neg q6,←(hl.lock hk).check hp]
 rfl
theorem eff {t:TS} {k:Nat} {c:Cm} (hi:Lock.Inv t.L k) (hc:Live c):∃(g:Option (Ses→Ses)) (e:LE) (a:Ans),GOk c g∧e.of c∧∀(t':TS) (k':Nat),Lock.Inv t'.L k'→Loc c t t'→Zat t' c=(runE t' c g e,a):=by
 have h1:¬(ZaA c=false∨c.kind=0):=by
  rw[hc.right]
  exact fun h=>h.elim (fun q=>by cases q) hc.kind
 unfold Zat
 by_cases q8:c.kind=8
 · refine⟨if Lease.expB (lookA t.S c.num c.foot) c.time=0 then some Ses.ended else none,(if Lease.expB (lookA t.S c.num c.foot) c.time=0 then .drop c.num c.foot else .nop),ansE (Lease.expB (lookA t.S c.num c.foot) c.time),ZiK (Lease.expB (lookA t.S c.num c.foot) c.time) (g:=Ses.ended) (fun s=>rfl) (fun h=>by unfold pathK at h;omega),?_,fun t' k' _ hl=> ?_⟩
   · split
     · exact⟨by unfold pathK;omega,rfl,rfl⟩
     trivial
   rw[if_neg h1,if_pos q8,←hl.look,ZiU]
 cases hs:Lease.said (lookA t.S c.num c.foot).told c.req with
 |some a=>
  refine⟨none,.nop,a,ZbI c,trivial,fun t' k' _ hl=> ?_⟩;rw[if_neg h1,if_neg q8,←hl.look,hs]
  rfl
 |none=>
  by_cases hf:256≤(lookA t.S c.num c.foot).told.length
  · refine⟨none,.nop,ansE 14,ZbI c,trivial,fun t' k' _ hl=> ?_⟩
    rw[if_neg h1,if_neg q8,←hl.look,hs];simp only;rw[if_pos hf]
    rfl
  obtain⟨g,e,a,hg,he,hd⟩:=do_eff hi hc q8
  obtain⟨g2,hg2,ht⟩:=Zlv (a:=a) hg (lookA t.S c.num c.foot);refine⟨g2,e,a,hg2,he,fun t' k' hi' hl=> ?_⟩;rw[if_neg h1,if_neg q8,←hl.look,hs];simp only;rw[if_neg hf,hd t' k' hi' hl];show(tellT ⟨updO g c.num c.foot t'.S,e.run t'.L⟩ c a,a)=_;rw[ht t'.S _ hl.look.symm]
  rfl
def Ab (t:TS):Prop:=∀e ∈ t.L.es,Zaw (bl e.foot) (bl e.path)=true
structure TEq (t t':TS):Prop where
 S:t.S.Perm t'.S
 L:LEq t.L t'.L
theorem TEq.refl (t:TS):TEq t t:=⟨.refl _,LEq.refl _⟩
theorem TEq.symm {t t':TS} (h:TEq t t'):TEq t' t:=⟨h.S.symm,h.L.symm⟩
theorem TEq.trans {t t' t'':TS} (h:TEq t t') (k:TEq t' t''):TEq t t'':=⟨h.S.trans k.S,h.L.trans k.L⟩
structure Good (t:TS) (k:Nat):Prop where
 inv:TInv t k
 ab:Ab t
theorem Good.apply {t:TS} {k:Nat} {c:Cm} (h:Good t k) (hc:CmOk c):Good (Zat t c).1 (k + 1):=by
 refine⟨Zhc h.inv hc,?_⟩
 by_cases hl:Live c
 · obtain⟨g,e,a,_,he,hr⟩:=eff h.inv.lock hl
   rw[hr t k h.inv.lock (Loc.refl c t)];intro x hx
   cases e with
   |nop=>exact h.ab x hx
   |add e=>
    obtain⟨k1,k2,k3,k4,k5⟩:=he
    rcases List.mem_append.1 hx with hx|hx
    · exact h.ab x hx
    rw[List.mem_singleton.1 hx,k2,k4];exact k5
   |rem p n f=>exact h.ab x (List.mem_filter.1 hx).1
   |drop n f=>exact h.ab x (List.mem_filter.1 hx).1
 rw[Zcp hl];exact h.ab
theorem TEq.apply {t t':TS} {k k':Nat} {c:Cm} (h:TEq t t') (hg:Good t k) (hg':Good t' k'):(Zat t c).2=(Zat t' c).2∧TEq (Zat t c).1 (Zat t' c).1:=by
 by_cases hl:Live c
 · obtain⟨g,e,a,h1,he,hr⟩:=eff hg.inv.lock hl
   have hloc:Loc c t t':=⟨ZgF h.S hg.inv.s.keys _ _,fun _=>cnt_perm h.S _,fun _=>h.L.loc hg.inv.lock.ckeys _ _ _⟩
   rw[hr t k hg.inv.lock (Loc.refl c t),hr t' k' hg'.inv.lock hloc];refine⟨rfl,?_,h.L.run hg.inv.lock.ckeys e⟩
   cases g with
   |none=>exact h.S
   |some g=>exact Zlr h.S hg.inv.s.keys g _ _
 rw[Zcp hl,Zcp hl];exact⟨rfl,h⟩
theorem Good.play {l:List Cm} (hl:∀c ∈ l,CmOk c):∀{t:TS} {k:Nat},Good t k→Good (playT t l) (k + l.length):=by
 induction l with
 |nil=>exact fun h=>h
 |cons c l ih=>
  intro t k h;have h1:=ih (fun x hx=>hl x (by simp[hx])) (h.apply (hl c (by simp)))
  have e:k + 1 + l.length=k + (c::l).length:=by simp only[List.length_cons];omega
  rw[←e];exact h1
theorem TEq.play {l:List Cm} (hl:∀c ∈ l,CmOk c):∀{t t':TS} {k k':Nat},TEq t t'→Good t k→Good t' k'→toldT t l=toldT t' l∧TEq (playT t l) (playT t' l):=by
 induction l with
 |nil=>exact fun h _ _=>⟨rfl,h⟩
 |cons c l ih=>
  intro t t' k k' h hg hg';obtain⟨h1,h2⟩:=h.apply (c:=c) hg hg';obtain⟨h3,h4⟩:=ih (fun x hx=>hl x (by simp[hx])) h2 (hg.apply (hl c (by simp))) (hg'.apply (hl c (by simp)));exact⟨by unfold toldT;rw[h1,h3],h4⟩
end Tab
end
end Go.Proofs.YtkdjkngfnapjcaaGreatDoor
