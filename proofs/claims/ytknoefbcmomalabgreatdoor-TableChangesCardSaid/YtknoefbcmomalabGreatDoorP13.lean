import Derived.Test.YtknoefbcmomalabGreatDoorP12
set_option linter.unusedSimpArgs false
set_option linter.unusedVariables false
set_option maxRecDepth 100000
set_option maxHeartbeats 16000000
namespace Go.Proofs.YtknoefbcmomalabGreatDoor
section
namespace Tab
open Go.RowKit
open Path (bl Zaf overB Zan)
open Lease (Ses Ans fresh ZaN)
open Lock (S3 Ent)
open Cmd (Cm Zaq)
attribute [-go_sem] run_eql_struct run_neq_struct run_eqGuard_agg
theorem below_old {w w':World} {L F:List Part} (h:At [Part.old w] w L w') (s:Sel (Part.old w) L F):Below w.heap.size w w':=by
 have ho:(Part.old w).holds w':=h.get s;exact⟨h.exc.os,h.exc.tape,h.exc.output,h.exc.size,fun b hb=>ho b hb⟩
structure CmV (c:Cm):Prop where
 num:0≤c.num∧c.num < Lease.big64
 foot:c.foot.size≤maxLen
 path:c.path.size≤maxLen
 req:0≤c.req∧c.req < Lease.big64
 n0:0≤c.n
theorem ZmJ {l:List Cm} {k:Nat} (h:ZdL l k=true) (hv:∀c ∈ l,CmV c):l.length≤k∧∀c ∈ l,CmIn c:=by
 unfold ZdL at h;rw[Bool.and_eq_true,List.all_eq_true,decide_eq_true_eq] at h;refine⟨by omega,fun c hc=> ?_⟩;have h1:=h.1 c hc;simp only[okS,Bool.and_eq_true,Bool.not_eq_true',decide_eq_false_iff_not] at h1;exact⟨⟨(hv c hc).num,by omega,by omega⟩,(hv c hc).req.1,(hv c hc).req.2,(hv c hc).n0⟩
theorem Zpn (op:BinOp) (x y:Operand) (c1 c2 c3 d1 d2 d3:Value) (w:World):(eqGuard op 52 x y (.agg #[c1,c2,c3]) (.agg #[d1,d2,d3])).run Tryz.prog w=.ok () w:=run_eqGuard_agg _ _ _ _ _ _ _ (by kernel_rfl)
theorem Zox (a b:Int) (c:Bool) (w:World):(Op.equalIn 10000 52 (.agg #[.int .i64 a,.int .u64 b,.bool c]) (.agg #[.int .i64 a,.int .u64 b,.bool c])).run Tryz.prog w=.ok true w:=by
 rw[run_equalIn_agg _ 9999 _ _ _ (by kernel_rfl) (by kernel_rfl)];simp[go_sem,Op.eqFields]
theorem neqAn (a b:Int) (c:Bool) (w:World):(binOp .neq 52 (.agg #[.int .i64 a,.int .u64 b,.bool c]) (.agg #[.int .i64 a,.int .u64 b,.bool c])).run Tryz.prog w=.ok (.bool false) w:=by
 rw[run_neq_struct,Zox];rfl
theorem eqlAn (a b:Int) (c:Bool) (w:World):(binOp .eql 52 (.agg #[.int .i64 a,.int .u64 b,.bool c]) (.agg #[.int .i64 a,.int .u64 b,.bool c])).run Tryz.prog w=.ok (.bool true) w:=by
 rw[run_eql_struct,Zox];rfl
end Tab
end
section
namespace Tab
open Lease (Ses Ans fresh)
open Lock (S3 Ent)
open Cmd (Cm Zaq)
theorem Zi6 {g:Ses→Ses} {n:Int} {f:ByteArray} (hg:∀s,keyE (g s)=keyE s):∀S:List Ses,lookA (updA g n f S) n f=g (lookA S n f)
 |[]=>by
  have h:(g (fresh n f 0 0)).is n f=true:=is_key.2 (by rw[hg];rfl);simp[lookA,updA,Lease.find,h]
 |s::S=>by
  unfold updA
  cases hq:s.is n f with
  |true=>
   have h:(g s).is n f=true:=is_key.2 (by rw[hg];exact is_key.1 hq);simp[lookA,Lease.find,hq,h]
  |false=>
   have ih:=Zi6 (n:=n) (f:=f) hg S;simp only[Bool.false_eq_true,if_false];unfold lookA Lease.find at *
   rw[List.find?_cons,List.find?_cons,hq];exact ih
end Tab
end
section
namespace Tab
open Go.RowKit
open Path (bl Zaf overB Zan)
open Lease (Ses Ans fresh ZaN)
open Lock (S3 Ent)
open Cmd (Cm Zaq)
attribute [-go_sem] run_eql_struct run_neq_struct run_eqGuard_agg
section
variable {w:World} {t p m:Nat} {ss:List Ses} {b:Lock.Bk} (h:Sep [TabP t p m ss b] w)
include h
theorem ZgK {k:Nat} (hi:Lock.Inv b.st k) (hk:k≤1000000):
 Calls Tryz.prog 21 #[.pointer (some ⟨b.p,0,none⟩)] w fun e w'=>∃(v:Value) (l:List Ent),e=.returned v∧l.Perm b.es∧At [TabP t p m ss b] w [Lock.rowL v l,TabP t p m ss b] w':=by
 have hA:=Zbf h;refine(Lock.Zd1 (hA.sep1 (A:=Lock.BookP b) sZ) hi.sortable (Nat.le_trans hi.len hk) (fun x hx=>Nat.le_trans (hi.path x hx) (by omega))).mono ?_;rintro e w1 ⟨v,l,rfl,hp,_,hT⟩;have hB:=hA.call1 (A:=Lock.BookP b) sZ hT;simp only[uA] at hB;exact⟨v,l,rfl,hp,(Zcl (ss:=ss) hB sZ sZ sZ).pick pZ⟩
end
end Tab
end
section
namespace Tab
open Path (bl Zaf overB Zan)
open Lease (Ses Ans fresh)
open Lock (S3 Ent)
open Cmd (Cm Zaq)
def pathK (c:Cm):Prop:=4≤c.kind∧c.kind≤7
theorem Zi9 {c:Cm} (h:Zaq c=true) (h0:c.kind≠0):Zaf (bl c.foot)=true∧((pathK c∧Zaf (bl c.path)=true∧Cmd.keyC c=some (c.path,c.num))∨(¬pathK c∧Cmd.keyC c=some (c.foot,c.num))):=by
 have h':=h;unfold Zaq at h;unfold Cmd.keyC Cmd.footC;rw[h'];unfold Cmd.hasOf at h ⊢;unfold pathK;by_cases q1:c.kind=1
 · simp[q1,Cmd.Zbe] at h ⊢;exact h.1.1.1.2
 by_cases q2:c.kind=2
 · simp[q2,Cmd.Zbe] at h ⊢;exact h.1.1.2
 by_cases q3:c.kind=3
 · simp[q3,Cmd.Zbe] at h ⊢;exact h.1.1.2
 by_cases q4:c.kind=4
 · simp[q4,Cmd.Zbe] at h ⊢;exact⟨h.1.1.1.1.2,h.1.1.2⟩
 by_cases q5:c.kind=5
 · simp[q5,Cmd.Zbe] at h ⊢;exact⟨h.1.1.1.1.2,h.1.1.2⟩
 by_cases q6:c.kind=6
 · simp[q6,Cmd.Zbe] at h ⊢;exact⟨h.1.1.1.2,h.1.2⟩
 by_cases q7:c.kind=7
 · simp[q7,Cmd.Zbe] at h ⊢;exact⟨h.1.1.1.1.2,h.1.1.2⟩
 by_cases q8:c.kind=8
 · simp[q8,Cmd.Zbe] at h ⊢;exact h.1.2
 simp[h0,q1,q2,q3,q4,q5,q6,q7,q8] at h
def ZoG (a b:Cm):Bool:=match Cmd.keyC a,Cmd.keyC b with
 |some x,some y=>(x.2==y.2) || overB (bl x.1) (bl y.1)
 |_,_=>false
structure Live (c:Cm):Prop where
 right:Zaq c=true
 kind:c.kind≠0
theorem Zkb {c:Cm} (h:¬Live c) (t:TS):Zax t c=(t,ans0):=by
 unfold Zax;rw[if_pos];by_cases h0:c.kind=0
 · exact .inr h0
 cases hr:Zaq c with
 |false=>exact .inl rfl
 |true=>exact absurd ⟨hr,h0⟩ h
def keyF (c:Cm):ByteArray:=if 4≤c.kind∧c.kind≤7 then c.path else c.foot
theorem Live.key {c:Cm} (h:Live c):Cmd.keyC c=some (keyF c,c.num)∧Zaf (bl (keyF c))=true:=by
 obtain⟨h1,h2⟩:=Zi9 h.right h.kind;unfold keyF;rcases h2 with⟨q,q1,q2⟩|⟨q,q1⟩
 · rw[if_pos (show 4≤c.kind∧c.kind≤7 from q)];exact⟨q2,q1⟩
 rw[if_neg (show ¬(4≤c.kind∧c.kind≤7) from q)];exact⟨q1,h1⟩
theorem Live.apart {a b:Cm} (ha:Live a) (hb:Live b) (hc:ZoG a b=false):a.num≠b.num∧overB (bl (keyF a)) (bl (keyF b))=false:=by
 unfold ZoG at hc;rw[ha.key.1,hb.key.1] at hc;simp only[Bool.or_eq_false_iff,beq_eq_false_iff_ne] at hc;exact hc
theorem Zlp {c:Cm} (h:pathK c):keyF c=c.path:=if_pos h
structure Loc (c:Cm) (t t':TS):Prop where
 look:lookA t.S c.num c.foot=lookA t'.S c.num c.foot
 cnt:c.kind=1→Lease.cnt t.S c.foot=Lease.cnt t'.S c.foot
 lock:pathK c→LocL t.L t'.L c.path c.num c.foot
theorem LocL.refl (l:S3) (p:ByteArray) (n:Int) (f:ByteArray):LocL l l p n f:=⟨rfl,.refl _,.refl _,rfl⟩
theorem Loc.refl (c:Cm) (t:TS):Loc c t t:=⟨rfl,fun _=>rfl,fun _=>LocL.refl _ _ _ _⟩
def LE.of (c:Cm):LE→Prop
 |.nop=>True
 |.add e=>pathK c∧e.path=c.path∧e.num=c.num∧e.foot=c.foot∧Zan (bl c.foot) (bl c.path)=true
 |.rem p n f=>pathK c∧p=c.path∧n=c.num∧f=c.foot
 |.drop n f=>¬pathK c∧n=c.num∧f=c.foot
def GOk (c:Cm) (g:Option (Ses→Ses)):Prop:=∀g',g=some g'→KeyG g'∧(pathK c→∀s,(g' s).op=s.op)
def runE (t:TS) (c:Cm) (g:Option (Ses→Ses)) (e:LE):TS:=⟨updO g c.num c.foot t.S,e.run t.L⟩
theorem Zha {g:Option (Ses→Ses)} {n:Int} {f:ByteArray} (hg:∀g',g=some g'→KeyG g') (S:List Ses):lookA (updO g n f S) n f=(g.getD id) (lookA S n f):=by
 cases g with
 |none=>rfl
 |some g=>exact Zi6 (hg g rfl) S
theorem ZmC {c:Cm} {a:Ans} {g:Option (Ses→Ses)} (hg:GOk c g) (s:Ses):∃g2,GOk c g2∧∀(S:List Ses) (L:S3),lookA S c.num c.foot=s→tellT ⟨updO g c.num c.foot S,L⟩ c a=⟨updO g2 c.num c.foot S,L⟩:=by
 by_cases hq:Lease.tellE ((g.getD id) s) c.req=0
 · refine⟨some (fun s=>((g.getD id) s).tell c.req a),?_,fun S L hs=> ?_⟩
   · intro g' e;cases e
     cases g with
     |none=>exact⟨fun s=>rfl,fun _ s=>rfl⟩
     |some g=>exact⟨fun s=>(hg g rfl).1 s,fun h s=>(hg g rfl).2 h s⟩
   unfold tellT opT;simp only;rw[Zha (fun g' e=>(hg g' e).1),hs,if_pos hq]
   cases g with
   |none=>rfl
   |some g=>
    show TS.mk (updA _ _ _ (updA g _ _ S)) L=_;rw[Zkt (hg g rfl).1];rfl
 refine⟨g,hg,fun S L hs=> ?_⟩
 unfold tellT opT;simp only;rw[Zha (fun g' e=>(hg g' e).1),hs,if_neg hq]
theorem Zlf (t:TS) (c:Cm) (g:Ses→Ses) (e:Int):opT t c g e=runE t c (if e=0 then some g else none) .nop:=by
 unfold opT;split<;>rfl
theorem Zjo (t:TS) (c:Cm) (e:Int):endT t c e=runE t c (if e=0 then some Ses.ended else none) (if e=0 then .drop c.num c.foot else .nop):=by
 unfold endT;split<;>rfl
theorem ZbS (c:Cm):GOk c none:=nofun
theorem Zjh {c:Cm} {g:Ses→Ses} (e:Int) (h1:KeyG g) (h2:pathK c→∀s,(g s).op=s.op):GOk c (if e=0 then some g else none):=by
 intro g' q;split at q
 · cases q;exact⟨h1,h2⟩
 cases q
theorem do_eff {t:TS} {k:Nat} {c:Cm} (hi:Lock.Inv t.L k) (hc:Live c) (h8:c.kind≠8):∃(g:Option (Ses→Ses)) (e:LE) (a:Ans),GOk c g∧e.of c∧∀(t':TS) (k':Nat),Lock.Inv t'.L k'→Loc c t t'→doT t' c=(runE t' c g e,a):=by
 unfold doT;by_cases q1:c.kind=1
 · refine⟨if Lease.openE (lookA t.S c.num c.foot) (Lease.cnt t.S c.foot)=0 then some (fun s=>s.opened c.n c.time) else none,.nop,ansE (Lease.openE (lookA t.S c.num c.foot) (Lease.cnt t.S c.foot)),Zjh (Lease.openE (lookA t.S c.num c.foot) (Lease.cnt t.S c.foot)) (g:=fun s=>s.opened c.n c.time) (fun s=>rfl) (fun h=>by unfold pathK at h;omega),trivial,fun t' k' _ hl=> ?_⟩
   rw[if_pos q1,←hl.look,←hl.cnt q1,Zlf]
 by_cases q2:c.kind=2
 · refine⟨if(if(lookA t.S c.num c.foot).op then(0:Int) else 50)=0 then some Ses.ended else none,(if(if(lookA t.S c.num c.foot).op then(0:Int) else 50)=0 then .drop c.num c.foot else .nop),ansE (if(lookA t.S c.num c.foot).op then 0 else 50),Zjh (if(lookA t.S c.num c.foot).op then 0 else 50) (g:=Ses.ended) (fun s=>rfl) (fun h=>by unfold pathK at h;omega),?_,fun t' k' _ hl=> ?_⟩
   · split
     · exact⟨by unfold pathK;omega,rfl,rfl⟩
     trivial
   rw[if_neg q1,if_pos q2,←hl.look,Zjo]
 by_cases q3:c.kind=3
 · refine⟨if(if(lookA t.S c.num c.foot).op then(0:Int) else 50)=0 then some (fun s=>s.kept c.time) else none,.nop,ansE (if(lookA t.S c.num c.foot).op then 0 else 50),Zjh (if(lookA t.S c.num c.foot).op then 0 else 50) (g:=fun s=>s.kept c.time) (fun s=>rfl) (fun h=>by unfold pathK at h;omega),trivial,fun t' k' _ hl=> ?_⟩
   rw[if_neg q1,if_neg q2,if_pos q3,←hl.look,Zlf]
 have hk:pathK c:=by
  obtain⟨_,h2⟩:=Zi9 hc.right hc.kind;rcases h2 with⟨q,_⟩|⟨q,_⟩
  · exact q
  exfalso
  have:=hc.right;unfold Zaq Cmd.hasOf at this;unfold pathK at q;have h0:=hc.kind;rw[if_neg h0,if_neg q1,if_neg q2,if_neg q3,if_neg (by omega),if_neg (by omega),if_neg (by omega),if_neg (by omega),if_neg h8] at this;cases this
 have hp:Zaf (bl c.path)=true:=by
  have:=hc.key.2
  rwa [Zlp hk] at this
 have hmay:∀{t':TS},Loc c t t'→mayT t' c=mayT t c:=fun hl=>by unfold mayT;rw[hl.look]
 by_cases hm:mayT t c=0
 case neg=>
  refine⟨none,.nop,ansE (mayT t c),ZbS c,trivial,fun t' k' _ hl=> ?_⟩;rw[if_neg q1,if_neg q2,if_neg q3];unfold Za4;rw[hmay hl,if_pos hm]
  rfl
 have hab:Zan (bl c.foot) (bl c.path)=true:=by
  unfold mayT at hm;split at hm
  · omega
  split at hm
  · omega
  rename_i h;simpa using h
 have hadd:∃(e:LE) (a:Ans),e.of c∧∀(t':TS),Loc c t t'→addT t' c=(runE t' c none e,a):=by
  by_cases hy:t.L.may c.path c.num c.foot c.mode=0
  · refine⟨.add (t.L.newE c.path c.num c.foot c.mode),⟨0,(t.L.newE c.path c.num c.foot c.mode).n,Lock.ZaJ t.L.es c.path c.mode⟩,⟨hk,rfl,rfl,rfl,hab⟩,fun t' hl=> ?_⟩
    have h1:=hl.lock hk;unfold addT S3.add;rw[←h1.may,if_pos hy,if_pos hy,←h1.newE,←h1.could];unfold S3.added runE LE.run;rw[←h1.newE,←h1.ctr];rfl
  refine⟨.nop,ansE (t.L.may c.path c.num c.foot c.mode),trivial,fun t' hl=> ?_⟩
  have h1:=hl.lock hk;unfold addT S3.add;rw[←h1.may,if_neg hy,if_neg hy];rfl
 obtain⟨ea,aa,hea,hadd⟩:=hadd;by_cases q4:c.kind=4
 · refine⟨none,ea,aa,ZbS c,hea,fun t' k' _ hl=> ?_⟩
   rw[if_neg q1,if_neg q2,if_neg q3];unfold Za4;rw[hmay hl,hm,if_neg (by simp),if_pos q4,hadd t' hl]
 by_cases q5:c.kind=5
 · by_cases hcd:Lock.ZaJ t.L.es c.path c.mode=true
   · refine⟨none,ea,aa,ZbS c,hea,fun t' k' _ hl=> ?_⟩
     rw[if_neg q1,if_neg q2,if_neg q3];unfold Za4 tryT;rw[hmay hl,hm,if_neg (by simp),if_neg q4,if_pos q5,←(hl.lock hk).could,if_pos hcd,hadd t' hl]
   refine⟨none,.nop,if t.L.may c.path c.num c.foot c.mode=0 then ansE 51 else ansE (t.L.may c.path c.num c.foot c.mode),ZbS c,trivial,fun t' k' _ hl=> ?_⟩
   rw[if_neg q1,if_neg q2,if_neg q3];unfold Za4 tryT;rw[hmay hl,hm,if_neg (by simp),if_neg q4,if_pos q5,←(hl.lock hk).could,if_neg hcd,←(hl.lock hk).may];show _=(t',if t.L.may c.path c.num c.foot c.mode=0 then ansE 51 else ansE (t.L.may c.path c.num c.foot c.mode));split<;>rfl
 by_cases q6:c.kind=6
 · refine⟨none,.rem c.path c.num c.foot,ansE (if(Lock.find t.L.es c.path c.num c.foot).isSome then 0 else 52),ZbS c,⟨hk,rfl,rfl,rfl⟩,fun t' k' _ hl=> ?_⟩
   rw[if_neg q1,if_neg q2,if_neg q3];unfold Za4;rw[hmay hl,hm,if_neg (by simp),if_neg q4,if_neg q5,if_pos q6,←(hl.lock hk).find];rfl
 refine⟨none,.nop,ansE (if Zbk t.L.es c.path c.n then 0 else 52),ZbS c,trivial,fun t' k' hi' hl=> ?_⟩
 rw[if_neg q1,if_neg q2,if_neg q3];unfold Za4;rw[hmay hl,hm,if_neg (by simp),if_neg q4,if_neg q5,if_neg q6,←(hl.lock hk).check hp];rfl
theorem eff {t:TS} {k:Nat} {c:Cm} (hi:Lock.Inv t.L k) (hc:Live c):∃(g:Option (Ses→Ses)) (e:LE) (a:Ans),GOk c g∧e.of c∧∀(t':TS) (k':Nat),Lock.Inv t'.L k'→Loc c t t'→Zax t' c=(runE t' c g e,a):=by
 have h1:¬(Zaq c=false∨c.kind=0):=by
  rw[hc.right];exact fun h=>h.elim (fun q=>by cases q) hc.kind
 unfold Zax;by_cases q8:c.kind=8
 · refine⟨if Lease.expB (lookA t.S c.num c.foot) c.time=0 then some Ses.ended else none,(if Lease.expB (lookA t.S c.num c.foot) c.time=0 then .drop c.num c.foot else .nop),ansE (Lease.expB (lookA t.S c.num c.foot) c.time),Zjh (Lease.expB (lookA t.S c.num c.foot) c.time) (g:=Ses.ended) (fun s=>rfl) (fun h=>by unfold pathK at h;omega),?_,fun t' k' _ hl=> ?_⟩
   · split
     · exact⟨by unfold pathK;omega,rfl,rfl⟩
     trivial
   rw[if_neg h1,if_pos q8,←hl.look,Zjo]
 cases hs:Lease.said (lookA t.S c.num c.foot).told c.req with
 |some a=>
  refine⟨none,.nop,a,ZbS c,trivial,fun t' k' _ hl=> ?_⟩;rw[if_neg h1,if_neg q8,←hl.look,hs]
  rfl
 |none=>
  by_cases hf:256≤(lookA t.S c.num c.foot).told.length
  · refine⟨none,.nop,ansE 14,ZbS c,trivial,fun t' k' _ hl=> ?_⟩
    rw[if_neg h1,if_neg q8,←hl.look,hs];simp only;rw[if_pos hf];rfl
  obtain⟨g,e,a,hg,he,hd⟩:=do_eff hi hc q8;obtain⟨g2,hg2,ht⟩:=ZmC (a:=a) hg (lookA t.S c.num c.foot);refine⟨g2,e,a,hg2,he,fun t' k' hi' hl=> ?_⟩;rw[if_neg h1,if_neg q8,←hl.look,hs];simp only;rw[if_neg hf,hd t' k' hi' hl];show(tellT ⟨updO g c.num c.foot t'.S,e.run t'.L⟩ c a,a)=_;rw[ht t'.S _ hl.look.symm];rfl
def Ab (t:TS):Prop:=∀e ∈ t.L.es,Zan (bl e.foot) (bl e.path)=true
structure Good (t:TS) (k:Nat):Prop where
 inv:TInv t k
 ab:Ab t
theorem Good.apply {t:TS} {k:Nat} {c:Cm} (h:Good t k) (hc:CmOk c):Good (Zax t c).1 (k + 1):=by
 refine⟨ZeZ h.inv hc,?_⟩
 by_cases hl:Live c
 · obtain⟨g,e,a,_,he,hr⟩:=eff h.inv.lock hl;rw[hr t k h.inv.lock (Loc.refl c t)];intro x hx
   cases e with
   |nop=>exact h.ab x hx
   |add e=>
    obtain⟨k1,k2,k3,k4,k5⟩:=he;rcases List.mem_append.1 hx with hx|hx
    · exact h.ab x hx
    rw[List.mem_singleton.1 hx,k2,k4];exact k5
   |rem p n f=>exact h.ab x (List.mem_filter.1 hx).1
   |drop n f=>exact h.ab x (List.mem_filter.1 hx).1
 rw[Zkb hl];exact h.ab
theorem Good.play {l:List Cm} (hl:∀c ∈ l,CmOk c):∀{t:TS} {k:Nat},Good t k→Good (playT t l) (k + l.length):=by
 induction l with
 |nil=>exact fun h=>h
 |cons c l ih=>
  intro t k h;have h1:=ih (fun x hx=>hl x (by simp[hx])) (h.apply (hl c (by simp)));have e:k + 1 + l.length=k + (c::l).length:=by simp only[List.length_cons];omega
  rw[←e];exact h1
theorem ZnI {first:Int} (h0:0≤first) (h1:first < Lease.big64):Good ⟨[],⟨first,[],[]⟩⟩ 0:=⟨Zia h0 h1,nofun⟩
end Tab
end
section
namespace Tab
open Path (bl Zaf overB Zan)
open Lease (Ses Ans fresh AR SR Rel RelS RelT)
open Lock (S3 Ent)
open Cmd (Cm Zaq)
structure AnsOk (a:Ans):Prop where
 e: -9223372036854775808≤a.e∧a.e≤9223372036854775807
 n:0≤a.n∧a.n < Lease.big64
structure SesOk (s:Ses):Prop where
 nd:(s.told.map (·.1)).Nodup
 len:s.told.length≤256
 told:∀x ∈ s.told,(0≤x.1∧x.1 < Lease.big64)∧AnsOk x.2
 ttl:0≤s.ttl∧s.ttl≤2199023255552
 dl:0≤s.dl∧s.dl≤2199023255552
theorem ZlV (t:Int):0≤Lease.cutI t∧Lease.cutI t≤2199023255552:=by
 unfold Lease.cutI;split
 · omega
 split<;>omega
theorem ZnJ (n:Int) (f:ByteArray) (b t:Nat):SesOk (fresh n f b t):=⟨by simp[fresh],by simp[fresh],by simp[fresh],by simp[fresh],by simp[fresh]⟩
theorem Zlb {s:Ses} (h:SesOk s) (ttl time:Int):SesOk (s.opened ttl time):=⟨h.nd,h.len,h.told,ZlV _,by unfold Lease.Ses.opened Lease.endI;exact ZlV _⟩
theorem ZnV {s:Ses} (h:SesOk s):SesOk s.ended:=⟨h.nd,h.len,h.told,by simp[Lease.Ses.ended],by simp[Lease.Ses.ended]⟩
theorem Zph {s:Ses} (h:SesOk s) (time:Int):SesOk (s.kept time):=⟨h.nd,h.len,h.told,h.ttl,by
 unfold Lease.Ses.kept Lease.endI;simp only;split
 · exact ZlV _
 exact h.dl⟩
theorem said_none {l:List (Int × Ans)} {r:Int} (h:Lease.said l r=none):r ∉ l.map (·.1):=by
 intro hm;obtain⟨x,hx,rfl⟩:=List.mem_map.1 hm;unfold Lease.said at h;simp only[Option.map_eq_none_iff] at h;exact List.find?_eq_none.1 h x hx (by simp)
theorem ZoP {s:Ses} (h:SesOk s) {r:Int} {a:Ans} (ht:Lease.tellE s r=0) (hr:0≤r∧r < Lease.big64) (ha:AnsOk a):SesOk (s.tell r a):=by
 unfold Lease.tellE at ht
 cases hs:Lease.said s.told r with
 |some x=>rw[hs] at ht;simp at ht
 |none=>
  rw[hs] at ht
  have hl:s.told.length < 256:=by
   rcases Nat.lt_or_ge s.told.length 256 with q|q
   · exact q
   simp[q] at ht
  refine⟨?_,?_,fun x hx=> ?_,h.ttl,h.dl⟩
  · show((s.told++[(r,a)]).map (·.1)).Nodup
    rw[List.map_append,List.map_cons,List.map_nil];refine List.nodup_append.2 ⟨h.nd,by simp,fun x hx y hy e=> ?_⟩;rw[List.mem_singleton.1 hy] at e;subst e;exact said_none hs hx
  · show(s.told++[(r,a)]).length≤256
    simp;omega
  rcases List.mem_append.1 (show x ∈ s.told++[(r,a)] from hx) with hx|hx
  · exact h.told x hx
  rw[List.mem_singleton.1 hx];exact⟨hr,ha⟩
def SAll (S:List Ses):Prop:=∀s ∈ S,SesOk s
theorem Zgk {S:List Ses} (h:SAll S) (n:Int) (f:ByteArray):SesOk (lookA S n f):=by
 unfold lookA
 cases hf:Lease.find S n f with
 |none=>exact ZnJ _ _ _ _
 |some s=>unfold Lease.find at hf;exact h s (List.mem_of_find?_eq_some hf)
theorem Zlh {g:Ses→Ses} {n:Int} {f:ByteArray}:∀{S:List Ses} {x:Ses},x ∈ updA g n f S→x=g (lookA S n f)∨x ∈ S
 |[],x,h=>.inl (by simpa [updA,lookA,Lease.find] using h)
 |s::S,x,h=>by
  unfold updA at h
  cases hq:s.is n f with
  |true=>
   rw[hq,if_pos rfl] at h;rcases List.mem_cons.1 h with h|h
   · exact .inl (by simpa [lookA,Lease.find,hq] using h)
   exact .inr (by simp[h])
  |false=>
   rw[hq,if_neg (by decide)] at h;rcases List.mem_cons.1 h with rfl|h
   · exact .inr (by simp)
   rcases Zlh h with q|q
   · left
     rw[q];simp[lookA,Lease.find,hq]
   exact .inr (by simp[q])
theorem SAll.upd {S:List Ses} (h:SAll S) {g:Ses→Ses} {n:Int} {f:ByteArray} (hg:SesOk (g (lookA S n f))):SAll (updA g n f S):=fun x hx=>by
 rcases Zlh hx with rfl|q
 · exact hg
 exact h x q
theorem SAll.opT {t:TS} {c:Cm} {g:Ses→Ses} {e:Int} (h:SAll t.S) (hg:e=0→SesOk (g (lookA t.S c.num c.foot))):SAll (Tab.opT t c g e).S:=by
 unfold Tab.opT;split
 · rename_i q;exact h.upd (hg q)
 exact h
theorem SAll.endT {t:TS} {c:Cm} {e:Int} (h:SAll t.S):SAll (Tab.endT t c e).S:=by
 unfold Tab.endT;split
 · exact h.upd (ZnV (Zgk h _ _))
 exact h
theorem Zcf {e:Int} (h:0≤e∧e≤1000):AnsOk (ansE e):=⟨by unfold ansE;simp only;omega,by unfold ansE Lease.big64;simp only;omega⟩
theorem Zg6 (s:S3) (p:ByteArray) (n:Int) (f:ByteArray) (mode:Int):0≤s.may p n f mode∧s.may p n f mode≤1000:=by
 unfold S3.may;repeat' split
 all_goals omega
theorem ZjW (t:TS) (c:Cm):0≤mayT t c∧mayT t c≤1000:=by
 unfold mayT;repeat' split
 all_goals omega
theorem Zh7 (s:Ses) (k:Nat):0≤Lease.openE s k∧Lease.openE s k≤1000:=by
 unfold Lease.openE;repeat' split
 all_goals omega
theorem Zmg {t:TS} {k:Nat} (hi:Lock.Inv t.L k) (c:Cm):AnsOk (addT t c).2:=by
 unfold addT;simp only;split
 · rename_i hm;have h1:=(Lock.ZeA hm).2.2.2;have h2:=Lock.ZcH hi c.path;have h3:=hi.first0;unfold S3.newE;refine⟨by simp,?_⟩;simp only;unfold Lock.lastN at h1;unfold Lease.big64;omega
 exact Zcf (Zg6 _ _ _ _ _)
theorem ZlS {t:TS} {k:Nat} (hi:Lock.Inv t.L k) (hs:SAll t.S) (c:Cm):AnsOk (doT t c).2∧SAll (doT t c).1.S:=by
 unfold doT;split
 · exact⟨Zcf (Zh7 _ _),hs.opT fun _=>Zlb (Zgk hs _ _) _ _⟩
 split
 · exact⟨Zcf (by split<;>omega),hs.endT⟩
 split
 · exact⟨Zcf (by split<;>omega),hs.opT fun _=>Zph (Zgk hs _ _) _⟩
 unfold Za4;split
 · exact⟨Zcf (ZjW _ _),hs⟩
 split
 · exact⟨Zmg hi c,hs⟩
 split
 · unfold tryT;split
   · exact⟨Zmg hi c,hs⟩
   split
   · exact⟨Zcf (by omega),hs⟩
   exact⟨Zcf (Zg6 _ _ _ _ _),hs⟩
 split
 · exact⟨Zcf (by split<;>omega),hs⟩
 exact⟨Zcf (by split<;>omega),hs⟩
theorem Zmd {t:TS} {k:Nat} (hi:Lock.Inv t.L k) (hs:SAll t.S) (c:Cm) (hq:0≤c.req∧c.req < Lease.big64):SAll (Zax t c).1.S:=by
 unfold Zax;split
 · exact hs
 split
 · exact hs.endT
 split
 · exact hs
 split
 · exact hs
 obtain⟨h1,h2⟩:=ZlS hi hs c;unfold tellT;exact h2.opT fun e=>ZoP (Zgk h2 _ _) e hq h1
theorem Znd {l:List Cm} (hl:∀c ∈ l,CmOk c∧0≤c.req∧c.req < Lease.big64):∀{t:TS} {k:Nat},Good t k→SAll t.S→SAll (playT t l).S:=by
 induction l with
 |nil=>exact fun _ h=>h
 |cons c l ih=>
  intro t k hg hs;have hc:=hl c (by simp);exact ih (fun x hx=>hl x (by simp[hx])) (hg.apply hc.1) (Zmd hg.inv.lock hs c hc.2)
theorem ZmI {α:Type} {P:List α→Prop} (h0:P []) (h1:∀l x,P l→P (l++[x])):∀l,P l:=fun l=>by
 rw[←List.reverse_reverse l]
 induction l.reverse with
 |nil=>exact h0
 |cons x r ih=>rw[List.reverse_cons];exact h1 _ _ ih
theorem Rel.perm {S S':List Ses} {L:List SR} (h:Rel S L) (hp:S.Perm S'):Rel S' L:=⟨(hp.map Lease.keyE).symm.trans h.keys,h.srt,fun s hs a ha e=>h.each s (hp.mem_iff.2 hs) a ha e⟩
theorem Rel.zs {ss:List Ses} {L:List SR} (h:Rel (ss.map zs) L):Rel ss L:=by
 refine⟨?_,h.srt,fun s hs a ha e=> ?_⟩
 · have:=h.keys
   rw[List.map_map] at this;exact this
 have:=h.each (Tab.zs s) (List.mem_map.2 ⟨s,hs,rfl⟩) a ha e
 exact⟨this.num,this.foot,this.op,this.dead,this.dl,this.ttl,this.told,this.tb,this.db⟩
theorem Rel.bounds {S:List Ses} {L:List SR} {m:Nat} (h:Rel S L) (hi:SInv S m):(∀a ∈ L,0≤a.num∧a.num < Lease.big64∧a.foot.size≤2000000)∧L.length≤m:=by
 refine⟨fun a ha=> ?_,by rw[←h.len];exact hi.len⟩;obtain⟨s,hs,hk⟩:=List.mem_map.1 (h.keys.mem_iff.2 (List.mem_map.2 ⟨a,ha,rfl⟩));have e:=h.each s hs a ha hk;have h1:=hi.num s hs;have h2:=hi.foot s hs;rw[e.num] at h1;rw[e.foot] at h2;exact⟨h1.1,h1.2,by omega⟩
end Tab
end
section
namespace Lease
open Go.RowKit
open _root_.Go.Proofs.YtknoefbcmomalabGreatDoor.SortU (rowI sortI sortI_perm)
theorem Rel.mine {ss:List Ses} {L:List SR} (h:Rel ss L) {x:SR} (hx:x ∈ L):RelS (Lease.look ss x.num x.foot) x:=by
 rcases h.both x.num x.foot with⟨_,h2,_⟩|⟨s,a,h1,_⟩
 · have:=h2 x hx
   simp[SR.is] at this
 obtain⟨l1,l2,e,en,ef,_⟩:=find_split h1;have e2:Lease.look ss x.num x.foot=s:=by unfold Lease.look;rw[h1];rfl
 rw[e2];exact h.each s (by rw[e];simp) x hx (by simp[keyE,keyR,en,ef])
theorem Zlu {w:World} {p m:Nat} {ss:List Ses} (h:Sep [BookP p m ss] w) {n:Int} {f:ByteArray} (h0:0≤n) (h1:n < big64) (hf:f.size≤maxLen) {s:SR} (hrs:RelS (look ss n f) s):
 Calls Tryz.prog 73 #[.pointer (some ⟨p,0,none⟩),.agg #[.int .u64 n,.string f]] w fun e w'=>e=.returned (.agg #[.bool s.op,.bool s.dead,.int .i64 s.dl,.int .i64 s.ttl,.int .i64 s.told.length])∧At [BookP p m ss] w [BookP p m ss] w':=by
 cases hn:find ss n f with
 |none=>
  have hlk:look ss n f=fresh n f 0 0:=by unfold look;rw[hn];rfl
  rw[hlk] at hrs;have e:=Zhi h h0 h1 hf hn;simp only[ZdP] at e;rw[←hrs.op,←hrs.dead,←hrs.dl,←hrs.ttl,←hrs.told.size];exact e
 |some t=>
  have hlk:look ss n f=t:=by unfold look;rw[hn];rfl
  rw[hlk] at hrs;have e:=Zhh h h0 h1 hf hn;simp only[ZdP] at e;rw[←hrs.op,←hrs.dead,←hrs.dl,←hrs.ttl,←hrs.told.size];exact e
theorem RelT.reqs {told:List (Int × Ans)} {l:List AR} (h:RelT told l):sortI (told.map (·.1))=l.map (·.r):=by
 have h1:(told.map (·.1)).Perm (l.map (·.r)):=by
  have:=h.perm.map (·.1);rw[List.map_map] at this;exact this
 rw[sortI_perm h1];unfold sortI;refine List.mergeSort_of_pairwise ?_;rw[List.pairwise_map];exact h.srt.imp fun h=>by simp;omega
theorem Zf4 {w:World} {p m:Nat} {ss:List Ses} (h:Sep [BookP p m ss] w) {n:Int} {f:ByteArray} (h0:0≤n) (h1:n < big64) (hf:f.size≤maxLen) {s:SR} (hrs:RelS (look ss n f) s):
 Calls Tryz.prog 84 #[.pointer (some ⟨p,0,none⟩),.agg #[.int .u64 n,.string f]] w fun e w'=>∃v,e=.returned v∧At [BookP p m ss] w [rowI v (s.told.map (·.r)),BookP p m ss] w':=by
 have hl:=hrs.told.size;have hb:=hrs.told.len;have e:=ZgZ h h0 h1 hf (by omega);unfold Zmj at e;rw[show Lease.reqs (look ss n f)=(look ss n f).told.map (·.1) from rfl,hrs.told.reqs] at e;exact e
theorem Zkx {w:World} {p m:Nat} {ss:List Ses} (h:Sep [BookP p m ss] w) {n:Int} {f:ByteArray} (h0:0≤n) (h1:n < big64) (hf:f.size≤maxLen) {s:SR} (hrs:RelS (look ss n f) s) {x:AR} (hx:x ∈ s.told):
 Calls Tryz.prog 37 #[.pointer (some ⟨p,0,none⟩),.agg #[.int .u64 n,.string f],.int .u64 x.r] w fun e w'=>e=.returned (.tuple #[.agg #[.int .i64 x.e,.int .u64 x.n,.bool x.g],.bool true])∧At [BookP p m ss] w [BookP p m ss] w':=by
 have e:=ZiK h (n:=n) (f:=f) h0 h1 hf (hrs.told.bd x hx).1 (hrs.told.bd x hx).2;rw[hrs.told.said,show saidA s.told x.r=some x from ?_] at e
 · exact e
 unfold saidA
 cases hq:s.told.find? (fun y=>y.r==x.r) with
 |none=>exact absurd (List.find?_eq_none.1 hq x hx) (by simp)
 |some y=>
  have h2:=List.find?_some hq;rw[hrs.told.uniq (List.mem_of_find?_eq_some hq) hx (by simpa using h2)]
end Lease
end
section
namespace Wire
open Go.RowKit
def encY (x:Int):List Value:=[.int .u8 x]
theorem Zd4 (x:Int):(encY x).length=1:=rfl
theorem Zcd (x:Int):∀v ∈ encY x,v.oneCell'=true:=by intro u hu;simp only[encY,List.mem_cons,List.not_mem_nil,or_false] at hu;subst hu;rfl
abbrev flatY (l:List Int):List Value:=l.flatMap encY
abbrev rowY (v:Value) (l:List Int):Part:=.row 5 1 v l.length (flatY l)
theorem Zex (v:Value) (l:List Int) (x:Int):Part.row 5 1 v (l.length + 1) (flatY l++encY x)=rowY v (l++[x]):=Zew (enc:=encY) _ v l x
theorem Zc7 (v:Value) (l r:List Int):Part.row 5 1 v (l.length + r.length) (flatY l++flatY r)=rowY v (l++r):=ZmP (enc:=encY) _ v l r
theorem Zf1 {L0 L:List Part} {w0 w:World} (h:At L0 w0 L w):At L0 w0 (rowY (.slice none 0 0) []::L) w:=h.row_nil 5 1
theorem infoY:(Tryz.prog.info? 5).map (fun i=>(i.zero,i.size,i.bytes))=some (some (.int .u8 0),1,1):=by kernel_rfl
def Zap:Nat→List Int
 |v=>if h:v < 128 then[(v:Int)] else((v % 128 + 128:Nat):Int)::Zap (v / 128)
termination_by v=>v
decreasing_by omega
theorem ZfZ {v:Nat} (h:v < 128):Zap v=[(v:Int)]:=by rw[Zap,dif_pos h]
theorem ZiU {v:Nat} (h:128≤v):Zap v=((v % 128 + 128:Nat):Int)::Zap (v / 128):=by rw[Zap,dif_neg (by omega)]
theorem Zar:∀(k v:Nat),v < 128 ^ (k + 1)→(Zap v).length≤k + 1
 |0,v,h=>by rw[ZfZ (by simpa using h)];simp
 |k + 1,v,h=>by
  by_cases q:v < 128
  · rw[ZfZ q];simp
  rw[ZiU (by omega),List.length_cons];have:=Zar k (v / 128) (by rw[Nat.pow_succ] at h;exact Nat.div_lt_of_lt_mul (by rw[Nat.mul_comm];exact h))
  omega
theorem or_fin:∀n:Fin 256,bits .or .u8 (n.val:Int) 128=((n.val % 128 + 128:Nat):Int):=by decide +kernel
theorem Zo8 (x:Nat):bits .or .u8 ((x:Int) % 256) 128=((x % 128 + 128:Nat):Int):=by
 have:=or_fin ⟨x % 256,Nat.mod_lt _ (by omega)⟩;simp only at this;rw[show((x:Int) % 256)=((x % 256:Nat):Int) from by omega,this]
 omega
def ShRel (w:World) (v:Nat) (k:Nat) (u0 u3:Value) (wr:World):Prop:=
 ∃(x:Nat) (pre:List Int),u0=.int .u64 x∧x < 128 ^ k∧pre.length + k=10∧Zap v=pre++Zap x∧At [] w [rowY u3 pre] wr
theorem ZgS (v:Nat) (w:World) (hv:v < 18446744073709551616):Calls Tryz.prog 123 #[.int .u64 v] w fun e w'=>∃u,e=.returned u∧At [] w [rowY u (Zap v)] w':=by
 obtain⟨i0,hi0,hz0,hz1,hz2⟩:=info_parts infoY;have hA:At [] w [] w:=At.start (L0:=[]) trivial;replace hA:=Zf1 hA;obtain⟨hA,hF⟩:=fZ hA;go_enter Tryz.func123,Tryz.ntmps123;go_wp2_with fail;(try go_frame);go_loopg [0,3] 10 (ShRel w v)
 case atStart=>exact⟨v,[],rfl,by omega,by simp,by simp,hA⟩
 case round=>
  obtain⟨x,pre,rfl,hx,hk,hs,hB⟩:=hrel;replace hA:=hB;clear hF hB;obtain⟨ax,n,cap,hpv,hpn⟩:=hA.row_hid (v:=u3) (n:=pre.length) (xs:=flatY pre) sR;subst hpv;have hpn2:=hpn.out;subst hpn2;clear hpn;obtain⟨hA,hF⟩:=fZ hA;have hone:∀(y:Int) w,(Instr.buildSlice 67 1 #[(0,.int .u8 y)]).run Tryz.prog w=.ok (.slice (some ⟨w.heap.size,0,none⟩) 1 1) (w.alloc (.cells (encY y).toArray 5)):=fun y w=>by kernel_rfl
  have hpl:pre.length≤10:=by omega
  by_cases hq:x < 128
  · have hq':(x:Int) < 128:=by omega
    have hm:(x:Int) % 256=x:=by omega
    have hs':=Hd (hs.trans (by rw[ZfZ hq]));clear hs
    go_wp2_with (first
     |((with_reducible show wpList _ _ _ ({dst:=_,op:=Op.buildSlice _ _ _,type:=_,pos:=_,after:=_,guard:=_}::_) _ _);refine Zao (e:=5) (vs:=encY x) rfl rfl (by(try simp only[Act.eval,eV])<;>exact rfl) (hone x) hA ?_;intro b2 w5 hB hb2;replace hA:=hB;clear hF hB;obtain⟨hA,hF⟩:=fZ hA)
     |((with_reducible show wpList _ _ _ ({dst:=_,op:=Op.call {callee:=Callee.builtin Builtin.append,args:=_,argTypes:=_},type:=_,pos:=_,after:=_,guard:=_}::_) _ _);refine Zad (e:=5) (size:=1) (v:=.slice ax pre.length cap) (xs:=flatY pre) (n:=pre.length) (m:=1) (news:=encY x) rfl _ _ 67 rfl Tryz.underlying67 hi0 hz0 hz1 hz2 rfl (by omega) hA sR (by(try simp only[Act.eval,eV])<;>exact rfl) (by(try simp only[Act.eval,eV])<;>exact rfl) rfl (hA.cells_reads sR _ _) (Zcd _) (by unfold maxLen;omega) (by omega) ?_;intro v2 w7 hB;rw[Zex] at hB;replace hA:=hB;clear hF hB;obtain⟨hA,hF⟩:=fZ hA))
    go_ret;exact⟨v2,rfl,by rw[hs'.out];exact hA.pick pZ⟩
  have hq':¬(x:Int) < 128:=by omega
  have hg0:0 < gk:=by
   rcases Nat.eq_zero_or_pos gk with q|q
   · subst q;simp at hx;omega
   exact q
  have hx':=Hd hx;clear hx;have hor:=Zo8 x;have hs':=Hd (hs.trans (by rw[ZiU (by omega)]));clear hs
  obtain⟨y,hy⟩:∃y:Int,((x % 128 + 128:Nat):Int)=y:=⟨_,rfl⟩
  rw[hy] at hor hs'
  go_wp2_with (first
   |((with_reducible show wpList _ _ _ ({dst:=_,op:=Op.buildSlice _ _ _,type:=_,pos:=_,after:=_,guard:=_}::_) _ _);refine Zao (e:=5) (vs:=encY y) rfl rfl (by(try simp only[Act.eval,eV])<;>exact rfl) (hone y) hA ?_;intro b2 w5 hB hb2;replace hA:=hB;clear hF hB;obtain⟨hA,hF⟩:=fZ hA)
   |((with_reducible show wpList _ _ _ ({dst:=_,op:=Op.call {callee:=Callee.builtin Builtin.append,args:=_,argTypes:=_},type:=_,pos:=_,after:=_,guard:=_}::_) _ _);refine Zad (e:=5) (size:=1) (v:=.slice ax pre.length cap) (xs:=flatY pre) (n:=pre.length) (m:=1) (news:=encY y) rfl _ _ 67 rfl Tryz.underlying67 hi0 hz0 hz1 hz2 rfl (by omega) hA sR (by(try simp only[Act.eval,eV])<;>exact rfl) (by(try simp only[Act.eval,eV])<;>exact rfl) rfl (hA.cells_reads sR _ _) (Zcd _) (by unfold maxLen;omega) (by omega) ?_;intro v2 w7 hB;rw[Zex] at hB;replace hA:=hB;clear hF hB;obtain⟨hA,hF⟩:=fZ hA))
  go_roundg (gk - 1);case measure=>omega
  case rel=>
   refine⟨x / 128,pre++[y],by simp,?_,by simp;omega,by rw[hs'.out];simp,hA.pick pZ⟩;have hx:=hx'.out
   have hg1:gk=(gk - 1) + 1:=by omega
   rw[hg1,Nat.pow_succ,Nat.mul_comm] at hx;exact Nat.div_lt_of_lt_mul hx
def byteN (v k:Nat):Int:=((v / 2 ^ k % 256:Nat):Int)
def fixL (v:Nat):List Int:=[byteN v 56,byteN v 48,byteN v 40,byteN v 32,byteN v 24,byteN v 16,byteN v 8,byteN v 0]
theorem wpList_make_at {P:Program} {ops:Array Oper} {rest:List Oper} {o:Oper} {a:Act} {Q:Exit→Act→World→Prop} {L0 L:List Part} {w0 w:World} {t e:TypeId} {i:TypeInfo} {z:Value} {kl kc:IntKind} (hg:o.guard=none) (l c:Operand) (hop:o.op=.makeSlice t l c)
 (ht:P.underlying t=some (.slice e)) (hi:P.info? e=some i) (hz:i.zero=some z) (hsize:i.size=1) (hz1:z.cells= #[z]) (n:Nat) (hl:a.eval l=.int kl (n:Int)) (hc:a.eval c=.int kc (n:Int)) (hbytes:i.bytes * n≤281474976710656) (h63:n≤9223372036854775807)
 (h:At L0 w0 L w) (hK:∀b w',At L0 w0 (Part.cells b (List.replicate n z) e::L) w'→w0.heap.size≤b→wpList P ops Q rest (a.put o.dst (.slice (some ⟨b,0,none⟩) n n)) w'):wpList P ops Q (o::rest) a w:=by
 have hr:=run_make_row t e i z ht hi hz hsize hz1 kl kc n hbytes h63 w;have hA:=h.alloc (List.replicate n z) e;rw[show(List.replicate n z).toArray=madeCells #[z] n from by rw[←toList_madeCells_one z n]] at hA;refine Zal hg ?_ (hK _ _ hA h.size);simp[execOp,hop,hl,hc,hr,Result.andThen]
def partL (v i:Nat):List Int:=(fixL v).take i++List.replicate (8 - i) 0
def ByRel (w:World) (g v:Nat) (k:Nat) (u:Value) (wr:World):Prop:=∃i:Nat,u=.int .i64 i∧i + k=8∧At [] w [Part.cells g (flatY (partL v i)) 5] wr
theorem ZfD (v:Nat) (w:World) (hv:v < 18446744073709551616):Calls Tryz.prog 124 #[.int .u64 v,.int .i64 8] w fun e w'=>∃u,e=.returned u∧At [] w [rowY u (fixL v)] w':=by
 obtain⟨i0,hi0,hz0,hz1,hz2⟩:=info_parts infoY;have hA:At [] w [] w:=At.start (L0:=[]) trivial;have hF:=hA.facts;go_enter Tryz.func124,Tryz.ntmps124
 go_wp2_with (refine wpList_make_at rfl _ _ rfl Tryz.underlying67 hi0 hz0 hz1 rfl 8 (by(try simp only[Act.eval,eV])<;>exact rfl) (by(try simp only[Act.eval,eV])<;>exact rfl) (by rw[hz2];omega) (by omega) hA ?_;intro g w1 hB hg;replace hA:=hB;clear hF hB;obtain⟨hA,hF⟩:=fZ hA)
 (try go_frame);go_loopg [14] 8 (ByRel w g v)
 case atStart=>exact⟨0,rfl,by simp,hA⟩
 case round=>
  obtain⟨i,rfl,hk,hB⟩:=hrel;clear hF hA;by_cases hi:i < 8
  · have hcase:i=0∨i=1∨i=2∨i=3∨i=4∨i=5∨i=6∨i=7:=by omega
    rcases hcase with rfl|rfl|rfl|rfl|rfl|rfl|rfl|rfl
    · have hA:At [] w [Part.cells g [.int .u8 0,.int .u8 0,.int .u8 0,.int .u8 0,.int .u8 0,.int .u8 0,.int .u8 0,.int .u8 0] 5] wr:=hB;clear hB;have hF:=hA.facts;have hmm:min (max (8:Int) 0) 8=8:=by omega
      obtain⟨hA,hF⟩:=fZ hA
      go_wp2_with ((with_reducible refine gst ?_);refine wTz hA ?_;clear hF hA;intro w1 hA hF)
      have hbb:(v:Int) / 72057594037927936=byteN v 56:=by unfold byteN;omega
      rw[hbb] at hA;go_roundg (gk - 1);case measure=>omega
      case rel=>exact⟨1,by simp,by omega,hA⟩
    · have hA:At [] w [Part.cells g [.int .u8 (byteN v 56),.int .u8 0,.int .u8 0,.int .u8 0,.int .u8 0,.int .u8 0,.int .u8 0,.int .u8 0] 5] wr:=hB;clear hB;have hF:=hA.facts;have hmm:min (max (8:Int) 0) 8=8:=by omega
      obtain⟨hA,hF⟩:=fZ hA
      go_wp2_with ((with_reducible refine gst ?_);refine wTz hA ?_;clear hF hA;intro w1 hA hF)
      have hbb:(v:Int) / 281474976710656 % 256=byteN v 48:=by unfold byteN;omega
      rw[hbb] at hA;go_roundg (gk - 1);case measure=>omega
      case rel=>exact⟨2,by simp,by omega,hA⟩
    · have hA:At [] w [Part.cells g [.int .u8 (byteN v 56),.int .u8 (byteN v 48),.int .u8 0,.int .u8 0,.int .u8 0,.int .u8 0,.int .u8 0,.int .u8 0] 5] wr:=hB;clear hB;have hF:=hA.facts;have hmm:min (max (8:Int) 0) 8=8:=by omega
      obtain⟨hA,hF⟩:=fZ hA
      go_wp2_with ((with_reducible refine gst ?_);refine wTz hA ?_;clear hF hA;intro w1 hA hF)
      have hbb:(v:Int) / 1099511627776 % 256=byteN v 40:=by unfold byteN;omega
      rw[hbb] at hA;go_roundg (gk - 1);case measure=>omega
      case rel=>exact⟨3,by simp,by omega,hA⟩
    · have hA:At [] w [Part.cells g [.int .u8 (byteN v 56),.int .u8 (byteN v 48),.int .u8 (byteN v 40),.int .u8 0,.int .u8 0,.int .u8 0,.int .u8 0,.int .u8 0] 5] wr:=hB;clear hB;have hF:=hA.facts;have hmm:min (max (8:Int) 0) 8=8:=by omega
      obtain⟨hA,hF⟩:=fZ hA
      go_wp2_with ((with_reducible refine gst ?_);refine wTz hA ?_;clear hF hA;intro w1 hA hF)
      have hbb:(v:Int) / 4294967296 % 256=byteN v 32:=by unfold byteN;omega
      rw[hbb] at hA;go_roundg (gk - 1);case measure=>omega
      case rel=>exact⟨4,by simp,by omega,hA⟩
    · have hA:At [] w [Part.cells g [.int .u8 (byteN v 56),.int .u8 (byteN v 48),.int .u8 (byteN v 40),.int .u8 (byteN v 32),.int .u8 0,.int .u8 0,.int .u8 0,.int .u8 0] 5] wr:=hB;clear hB;have hF:=hA.facts;have hmm:min (max (8:Int) 0) 8=8:=by omega
      obtain⟨hA,hF⟩:=fZ hA
      go_wp2_with ((with_reducible refine gst ?_);refine wTz hA ?_;clear hF hA;intro w1 hA hF)
      have hbb:(v:Int) / 16777216 % 256=byteN v 24:=by unfold byteN;omega
      rw[hbb] at hA;go_roundg (gk - 1);case measure=>omega
      case rel=>exact⟨5,by simp,by omega,hA⟩
    · have hA:At [] w [Part.cells g [.int .u8 (byteN v 56),.int .u8 (byteN v 48),.int .u8 (byteN v 40),.int .u8 (byteN v 32),.int .u8 (byteN v 24),.int .u8 0,.int .u8 0,.int .u8 0] 5] wr:=hB;clear hB;have hF:=hA.facts;have hmm:min (max (8:Int) 0) 8=8:=by omega
      obtain⟨hA,hF⟩:=fZ hA
      go_wp2_with ((with_reducible refine gst ?_);refine wTz hA ?_;clear hF hA;intro w1 hA hF)
      have hbb:(v:Int) / 65536 % 256=byteN v 16:=by unfold byteN;omega
      rw[hbb] at hA;go_roundg (gk - 1);case measure=>omega
      case rel=>exact⟨6,by simp,by omega,hA⟩
    · have hA:At [] w [Part.cells g [.int .u8 (byteN v 56),.int .u8 (byteN v 48),.int .u8 (byteN v 40),.int .u8 (byteN v 32),.int .u8 (byteN v 24),.int .u8 (byteN v 16),.int .u8 0,.int .u8 0] 5] wr:=hB;clear hB;have hF:=hA.facts;have hmm:min (max (8:Int) 0) 8=8:=by omega
      obtain⟨hA,hF⟩:=fZ hA
      go_wp2_with ((with_reducible refine gst ?_);refine wTz hA ?_;clear hF hA;intro w1 hA hF)
      have hbb:(v:Int) / 256 % 256=byteN v 8:=by unfold byteN;omega
      rw[hbb] at hA;go_roundg (gk - 1);case measure=>omega
      case rel=>exact⟨7,by simp,by omega,hA⟩
    have hA:At [] w [Part.cells g [.int .u8 (byteN v 56),.int .u8 (byteN v 48),.int .u8 (byteN v 40),.int .u8 (byteN v 32),.int .u8 (byteN v 24),.int .u8 (byteN v 16),.int .u8 (byteN v 8),.int .u8 0] 5] wr:=hB;clear hB;have hF:=hA.facts;have hmm:min (max (8:Int) 0) 8=8:=by omega
    obtain⟨hA,hF⟩:=fZ hA
    go_wp2_with ((with_reducible refine gst ?_);refine wTz hA ?_;clear hF hA;intro w1 hA hF)
    have hbb:(v:Int) % 256=byteN v 0:=by unfold byteN;omega
    rw[hbb] at hA;go_roundg (gk - 1);case measure=>omega
    case rel=>exact⟨8,by simp,by omega,hA⟩
  have h8:i=8:=by omega
  subst h8;have hA:At [] w [Part.cells g (flatY (fixL v)) 5] wr:=hB;clear hB;have hA2:At [] w [rowY (.slice (some ⟨g,0,none⟩) 8 8) (fixL v)] wr:=hA.row_shut (e:=5) (size:=1) (n:=8) (cap:=8) (xs:=flatY (fixL v)) .here rfl (by omega) (by unfold maxLen;omega) rfl;have hmm:min (max (8:Int) 0) 8=8:=by omega
  go_wp2_with fail;go_ret;exact⟨_,rfl,hA2⟩
end Wire
end
section
namespace Wire
open Go.RowKit
abbrev outC (b:Nat) (u:Value):Part:=.cells b [u] 102
def ZaE (w:World) (b:Nat) (u:Value) (l m:List Int) (e:Ending) (w':World):Prop:=∃u',e=.returned (.pointer (some ⟨b,0,none⟩))∧At [outC b u,rowY u l] w [outC b u',rowY u' (l++m)] w'
theorem oneY (y:Int) (w:World):(Instr.buildSlice 67 1 #[(0,.int .u8 y)]).run Tryz.prog w=.ok (.slice (some ⟨w.heap.size,0,none⟩) 1 1) (w.alloc (.cells (encY y).toArray 5)):=by kernel_rfl
theorem Zh6 {w:World} {b:Nat} {u:Value} {l:List Int} (h:Sep [outC b u,rowY u l] w) (y:Int) (hl:l.length≤100000000000000):
 Calls Tryz.prog 85 #[.pointer (some ⟨b,0,none⟩),.int .u8 y] w (ZaE w b u l [y]):=by
 obtain⟨i0,hi0,hz0,hz1,hz2⟩:=info_parts infoY;have hA:=At.start h;have hF:=hA.facts;clear h;obtain⟨ax,cap,rfl,hax,hcap,_⟩:=hA.row_form (v:=u) (n:=l.length) (xs:=flatY l) sR;have hone:=oneY y;obtain⟨hA,hF⟩:=fZ hA;go_enter Tryz.func85,Tryz.ntmps85
 go_wp2_with (first
  |((with_reducible show wpList _ _ _ ({dst:=_,op:=Op.buildSlice _ _ _,type:=_,pos:=_,after:=_,guard:=_}::_) _ _);refine Zao (e:=5) (vs:=encY y) rfl rfl (by(try simp only[Act.eval,eV])<;>exact rfl) hone hA ?_;intro b2 w5 hB hb2;replace hA:=hB;clear hF hB;obtain⟨hA,hF⟩:=fZ hA)
  |((with_reducible show wpList _ _ _ ({dst:=_,op:=Op.call {callee:=Callee.builtin Builtin.append,args:=_,argTypes:=_},type:=_,pos:=_,after:=_,guard:=_}::_) _ _);refine Zad (e:=5) (size:=1) (v:=.slice ax l.length cap) (xs:=flatY l) (n:=l.length) (m:=1) (news:=encY y) rfl _ _ 67 rfl Tryz.underlying67 hi0 hz0 hz1 hz2 rfl (by omega) hA sR (by(try simp only[Act.eval,eV])<;>exact rfl) (by(try simp only[Act.eval,eV])<;>exact rfl) rfl (hA.cells_reads sR _ _) (Zcd _) (by unfold maxLen;omega) (by omega) ?_;intro v2 w7 hB;rw[Zex] at hB;obtain⟨cx,cn,ccap,hcv,hcn⟩:=hB.row_hid (v:=v2) (n:=(l++[y]).length) (xs:=flatY (l++[y])) sR;subst hcv;replace hA:=hB;clear hF hB;obtain⟨hA,hF⟩:=fZ hA)
  |((with_reducible refine gst ?_);refine wTz hA ?_;clear hF hA;intro w1 hA hF)|((with_reducible refine gbx ?_);refine wCz hA ?_;clear hF hA;intro b1 w1 hA hb1 hF))
 go_ret;exact⟨.slice cx cn ccap,rfl,hA.only2 (A:=outC b (.slice cx cn ccap)) (B:=rowY (.slice cx cn ccap) (l++[y])) sR sR⟩
theorem Zge {w:World} {b:Nat} {u:Value} {l:List Int} (h:Sep [outC b u,rowY u l] w) (t:Bool) (hl:l.length≤100000000000000):
 Calls Tryz.prog 83 #[.pointer (some ⟨b,0,none⟩),.bool t] w (ZaE w b u l [if t then 1 else 0]):=by
 cases t
 · go_enter Tryz.func83,Tryz.ntmps83;go_wp2_with fail;refine(Zh6 h 0 hl).mono ?_;rintro e w' ⟨u',rfl,hT⟩;go_wp2_with fail;go_ret;exact⟨u',rfl,hT⟩
 go_enter Tryz.func83,Tryz.ntmps83;go_wp2_with fail;refine(Zh6 h 1 hl).mono ?_;rintro e w' ⟨u',rfl,hT⟩;go_wp2_with fail;go_ret;exact⟨u',rfl,hT⟩
theorem Zbq {w:World} {b:Nat} {u:Value} {l:List Int} (h:Sep [outC b u,rowY u l] w) (v:Nat) (hv:v < 18446744073709551616) (hl:l.length≤100000000000000):
 Calls Tryz.prog 80 #[.pointer (some ⟨b,0,none⟩),.int .u64 v] w (ZaE w b u l (Zap v)):=by
 obtain⟨i0,hi0,hz0,hz1,hz2⟩:=info_parts infoY;have hA:=At.start h;have hF:=hA.facts;clear h;have hnl:(Zap v).length≤10:=Zar 9 v (by omega);obtain⟨ax,cap,rfl,hax,hcap,_⟩:=hA.row_form (v:=u) (n:=l.length) (xs:=flatY l) sR;obtain⟨hA,hF⟩:=fZ hA;go_enter Tryz.func80,Tryz.ntmps80;go_wp2_with fail;have hm:Tryz.prog.follows .mixedOrders=true:=by kernel_rfl
 have hA:=hA.drew;refine wp_region_held (S:=fun _=>True) hm ?_;change wpAnyH _ _ _ _ _ 11 _ _ w.drew;generalize w.drew=w2 at *
 refine tZ 0 5 ((.pointer (some ⟨b,0,none⟩))) (r:=(fun w' hS=>by simp[execOp,go_sem,Act.eval,Act.put])) (s:=trivial) (h:= ?_);go_frame;refine tZ 1 6 ((.pointer (some ⟨b,0,none⟩))) (r:=(fun w' hS=>by simp[execOp,go_sem,Act.eval,Act.put])) (s:=trivial) (h:= ?_);go_frame;refine tZ 2 7 ((.pointer (some ⟨b,0,none⟩))) (r:=(fun w' hS=>by simp[execOp,go_sem,Act.eval,Act.put])) (s:=trivial) (h:= ?_);go_frame;refine tZ 3 8 ((.pointer (some ⟨b,0,none⟩))) (r:=(fun w' hS=>by kernel_rfl)) (s:=trivial) (h:= ?_);go_frame;refine tZ 5 10 ((.int .u64 v)) (r:=(fun w' hS=>by simp[execOp,go_sem,Act.eval,Act.put])) (s:=trivial) (h:= ?_);go_frame;refine ZaH (i:=4) (j:=6) (by kernel_rfl) ?_ ?_
 · skip;refine Zb6 (i:=4) (v:=.slice ax l.length cap) rfl rfl (Zac (b:=b) (j:=0) rfl (by exact rfl) (hA.get (A:=outC b (.slice ax l.length cap)) sR) (by kernel_rfl) rfl) ?_;refine⟨trivial,?_⟩;change wpAnyH _ _ _ _ _ _ _ (Act.put _ (some 9) _) _;go_frame;refine Zab (i:=6) (by kernel_rfl) ?_;refine Zas (i:=6) (d:=some 11) rfl rfl rfl (fn:=123) (args:= #[.int .u64 v]) (by simp[execOp,go_sem,Act.eval,Act.put]) (ZgS v w2 hv) ?_;intro uu z1 hT;have hB:=hA.call0 hT;simp only[uA] at hB;obtain⟨nx,nn,ncap,hnv,hnn⟩:=hB.row_hid (v:=uu) (n:=(Zap v).length) (xs:=flatY (Zap v)) sR;subst hnv;have hnn2:=hnn.out;subst hnn2;refine⟨trivial,?_⟩;go_frame;refine Zab (i:=7) (by kernel_rfl) ?_;refine Zca (k:=7) (d:=some 12) (e:=5) (size:=1) (v:=.slice ax l.length cap) (xs:=flatY l) (n:=l.length) (m:=(Zap v).length) (news:=flatY (Zap v)) rfl rfl rfl rfl (.tmp 9) (.tmp 11) 67 rfl Tryz.underlying67 hi0 hz0 hz1 hz2 rfl (by omega) hB sR (by(try simp only[Act.eval,eV])<;>exact rfl) (by(try simp only[Act.eval,eV])<;>exact rfl) (Zay _ _ Zd4 _) (hB.row_reads (v:=.slice nx (Zap v).length ncap) (n:=(Zap v).length) (xs:=flatY (Zap v)) sR) (ZaI Zcd _) (by unfold maxLen;omega) (by omega) ?_;intro v2 z2 hC;rw[Zc7] at hC;obtain⟨cx,cn,ccap,hcv,hcn⟩:=hC.row_hid (v:=v2) (n:=(l++Zap v).length) (xs:=flatY (l++Zap v)) sR;subst hcv;have hcn2:=hcn.out;clear hcn;refine⟨trivial,?_⟩;go_frame;refine tZ 8 13 ((.pointer (some ⟨b,0,none⟩))) (r:=(fun w' hS=>by simp[execOp,go_sem,Act.eval,Act.put])) (s:=trivial) (h:= ?_);go_frame;refine tZ 9 14 ((.pointer (some ⟨b,0,none⟩))) (r:=(fun w' hS=>by kernel_rfl)) (s:=trivial) (h:= ?_);go_frame;refine Zab (i:=10) (by kernel_rfl) ?_;refine ZbZ (i:=10) (x:=.tmp 14) (y:=.tmp 12) (ty:=67) (b:=b) (j:=0) (v:=.slice cx cn ccap) (vs:=[.slice cx cn ccap]) rfl rfl rfl rfl (by(try simp only[Act.eval,eV])<;>exact rfl) (by(try simp only[Act.eval,eV])<;>exact rfl) rfl hC (c:=[.slice ax l.length cap]) sR (by kernel_rfl) rfl (by simp) ?_;intro z3 hD;simp only[setL,List.set_cons_zero] at hD;refine⟨trivial,?_⟩;refine wpAnyH_done (by kernel_rfl) ?_ _;(try go_frame);go_wp2_with fail;go_ret;exact⟨.slice cx cn ccap,rfl,hD.only2 (A:=outC b (.slice cx cn ccap)) (B:=rowY (.slice cx cn ccap) (l++Zap v)) sR sR⟩
 skip;refine Zas (i:=6) (d:=some 11) rfl rfl rfl (fn:=123) (args:= #[.int .u64 v]) (by simp[execOp,go_sem,Act.eval,Act.put]) (ZgS v w2 hv) ?_;intro uu z1 hT;have hB:=hA.call0 hT;simp only[uA] at hB;obtain⟨nx,nn,ncap,hnv,hnn⟩:=hB.row_hid (v:=uu) (n:=(Zap v).length) (xs:=flatY (Zap v)) sR;subst hnv;have hnn2:=hnn.out;subst hnn2;refine⟨trivial,?_⟩;go_frame;refine Zab (i:=4) (by kernel_rfl) ?_;refine Zb6 (i:=4) (v:=.slice ax l.length cap) rfl rfl (Zac (b:=b) (j:=0) rfl (by exact rfl) (hB.get (A:=outC b (.slice ax l.length cap)) sR) (by kernel_rfl) rfl) ?_;refine⟨trivial,?_⟩;change wpAnyH _ _ _ _ _ _ _ (Act.put _ (some 9) _) _;go_frame;refine Zab (i:=7) (by kernel_rfl) ?_;refine Zca (k:=7) (d:=some 12) (e:=5) (size:=1) (v:=.slice ax l.length cap) (xs:=flatY l) (n:=l.length) (m:=(Zap v).length) (news:=flatY (Zap v)) rfl rfl rfl rfl (.tmp 9) (.tmp 11) 67 rfl Tryz.underlying67 hi0 hz0 hz1 hz2 rfl (by omega) hB sR (by(try simp only[Act.eval,eV])<;>exact rfl) (by(try simp only[Act.eval,eV])<;>exact rfl) (Zay _ _ Zd4 _) (hB.row_reads (v:=.slice nx (Zap v).length ncap) (n:=(Zap v).length) (xs:=flatY (Zap v)) sR) (ZaI Zcd _) (by unfold maxLen;omega) (by omega) ?_;intro v2 z2 hC;rw[Zc7] at hC;obtain⟨cx,cn,ccap,hcv,hcn⟩:=hC.row_hid (v:=v2) (n:=(l++Zap v).length) (xs:=flatY (l++Zap v)) sR;subst hcv;have hcn2:=hcn.out;clear hcn;refine⟨trivial,?_⟩;go_frame;refine tZ 8 13 ((.pointer (some ⟨b,0,none⟩))) (r:=(fun w' hS=>by simp[execOp,go_sem,Act.eval,Act.put])) (s:=trivial) (h:= ?_);go_frame;refine tZ 9 14 ((.pointer (some ⟨b,0,none⟩))) (r:=(fun w' hS=>by kernel_rfl)) (s:=trivial) (h:= ?_);go_frame;refine Zab (i:=10) (by kernel_rfl) ?_;refine ZbZ (i:=10) (x:=.tmp 14) (y:=.tmp 12) (ty:=67) (b:=b) (j:=0) (v:=.slice cx cn ccap) (vs:=[.slice cx cn ccap]) rfl rfl rfl rfl (by(try simp only[Act.eval,eV])<;>exact rfl) (by(try simp only[Act.eval,eV])<;>exact rfl) rfl hC (c:=[.slice ax l.length cap]) sR (by kernel_rfl) rfl (by simp) ?_;intro z3 hD;simp only[setL,List.set_cons_zero] at hD;refine⟨trivial,?_⟩;refine wpAnyH_done (by kernel_rfl) ?_ _;(try go_frame);go_wp2_with fail;go_ret;exact⟨.slice cx cn ccap,rfl,hD.only2 (A:=outC b (.slice cx cn ccap)) (B:=rowY (.slice cx cn ccap) (l++Zap v)) sR sR⟩
theorem Zdd {w:World} {b:Nat} {u:Value} {l:List Int} (h:Sep [outC b u,rowY u l] w) (v:Nat) (hv:v < 18446744073709551616) (hl:l.length≤100000000000000):
 Calls Tryz.prog 81 #[.pointer (some ⟨b,0,none⟩),.int .u64 v] w (ZaE w b u l (fixL v)):=by
 obtain⟨i0,hi0,hz0,hz1,hz2⟩:=info_parts infoY;have hA:=At.start h;have hF:=hA.facts;clear h;have hnl:(fixL v).length≤10:=by simp[fixL]
 obtain⟨ax,cap,rfl,hax,hcap,_⟩:=hA.row_form (v:=u) (n:=l.length) (xs:=flatY l) sR;obtain⟨hA,hF⟩:=fZ hA;go_enter Tryz.func81,Tryz.ntmps81;go_wp2_with fail;have hm:Tryz.prog.follows .mixedOrders=true:=by kernel_rfl
 have hA:=hA.drew;refine wp_region_held (S:=fun _=>True) hm ?_;change wpAnyH _ _ _ _ _ 11 _ _ w.drew;generalize w.drew=w2 at *
 refine tZ 0 5 ((.pointer (some ⟨b,0,none⟩))) (r:=(fun w' hS=>by simp[execOp,go_sem,Act.eval,Act.put])) (s:=trivial) (h:= ?_);go_frame;refine tZ 1 6 ((.pointer (some ⟨b,0,none⟩))) (r:=(fun w' hS=>by simp[execOp,go_sem,Act.eval,Act.put])) (s:=trivial) (h:= ?_);go_frame;refine tZ 2 7 ((.pointer (some ⟨b,0,none⟩))) (r:=(fun w' hS=>by simp[execOp,go_sem,Act.eval,Act.put])) (s:=trivial) (h:= ?_);go_frame;refine tZ 3 8 ((.pointer (some ⟨b,0,none⟩))) (r:=(fun w' hS=>by kernel_rfl)) (s:=trivial) (h:= ?_);go_frame;refine tZ 5 10 ((.int .u64 v)) (r:=(fun w' hS=>by simp[execOp,go_sem,Act.eval,Act.put])) (s:=trivial) (h:= ?_);go_frame;refine ZaH (i:=4) (j:=6) (by kernel_rfl) ?_ ?_
 · skip;refine Zb6 (i:=4) (v:=.slice ax l.length cap) rfl rfl (Zac (b:=b) (j:=0) rfl (by exact rfl) (hA.get (A:=outC b (.slice ax l.length cap)) sR) (by kernel_rfl) rfl) ?_;refine⟨trivial,?_⟩;change wpAnyH _ _ _ _ _ _ _ (Act.put _ (some 9) _) _;go_frame;refine Zab (i:=6) (by kernel_rfl) ?_;refine Zas (i:=6) (d:=some 11) rfl rfl rfl (fn:=124) (args:= #[.int .u64 v,.int .i64 8]) (by simp[execOp,go_sem,Act.eval,Act.put]) (ZfD v w2 hv) ?_;intro uu z1 hT;have hB:=hA.call0 hT;simp only[uA] at hB;obtain⟨nx,nn,ncap,hnv,hnn⟩:=hB.row_hid (v:=uu) (n:=(fixL v).length) (xs:=flatY (fixL v)) sR;subst hnv;have hnn2:=hnn.out;subst hnn2;refine⟨trivial,?_⟩;go_frame;refine Zab (i:=7) (by kernel_rfl) ?_;refine Zca (k:=7) (d:=some 12) (e:=5) (size:=1) (v:=.slice ax l.length cap) (xs:=flatY l) (n:=l.length) (m:=(fixL v).length) (news:=flatY (fixL v)) rfl rfl rfl rfl (.tmp 9) (.tmp 11) 67 rfl Tryz.underlying67 hi0 hz0 hz1 hz2 rfl (by omega) hB sR (by(try simp only[Act.eval,eV])<;>exact rfl) (by(try simp only[Act.eval,eV])<;>exact rfl) (Zay _ _ Zd4 _) (hB.row_reads (v:=.slice nx (fixL v).length ncap) (n:=(fixL v).length) (xs:=flatY (fixL v)) sR) (ZaI Zcd _) (by unfold maxLen;omega) (by omega) ?_;intro v2 z2 hC;rw[Zc7] at hC;obtain⟨cx,cn,ccap,hcv,hcn⟩:=hC.row_hid (v:=v2) (n:=(l++fixL v).length) (xs:=flatY (l++fixL v)) sR;subst hcv;have hcn2:=hcn.out;clear hcn;refine⟨trivial,?_⟩;go_frame;refine tZ 8 13 ((.pointer (some ⟨b,0,none⟩))) (r:=(fun w' hS=>by simp[execOp,go_sem,Act.eval,Act.put])) (s:=trivial) (h:= ?_);go_frame;refine tZ 9 14 ((.pointer (some ⟨b,0,none⟩))) (r:=(fun w' hS=>by kernel_rfl)) (s:=trivial) (h:= ?_);go_frame;refine Zab (i:=10) (by kernel_rfl) ?_;refine ZbZ (i:=10) (x:=.tmp 14) (y:=.tmp 12) (ty:=67) (b:=b) (j:=0) (v:=.slice cx cn ccap) (vs:=[.slice cx cn ccap]) rfl rfl rfl rfl (by(try simp only[Act.eval,eV])<;>exact rfl) (by(try simp only[Act.eval,eV])<;>exact rfl) rfl hC (c:=[.slice ax l.length cap]) sR (by kernel_rfl) rfl (by simp) ?_;intro z3 hD;simp only[setL,List.set_cons_zero] at hD;refine⟨trivial,?_⟩;refine wpAnyH_done (by kernel_rfl) ?_ _;(try go_frame);go_wp2_with fail;go_ret;exact⟨.slice cx cn ccap,rfl,hD.only2 (A:=outC b (.slice cx cn ccap)) (B:=rowY (.slice cx cn ccap) (l++fixL v)) sR sR⟩
 skip;refine Zas (i:=6) (d:=some 11) rfl rfl rfl (fn:=124) (args:= #[.int .u64 v,.int .i64 8]) (by simp[execOp,go_sem,Act.eval,Act.put]) (ZfD v w2 hv) ?_;intro uu z1 hT;have hB:=hA.call0 hT;simp only[uA] at hB;obtain⟨nx,nn,ncap,hnv,hnn⟩:=hB.row_hid (v:=uu) (n:=(fixL v).length) (xs:=flatY (fixL v)) sR;subst hnv;have hnn2:=hnn.out;subst hnn2;refine⟨trivial,?_⟩;go_frame;refine Zab (i:=4) (by kernel_rfl) ?_;refine Zb6 (i:=4) (v:=.slice ax l.length cap) rfl rfl (Zac (b:=b) (j:=0) rfl (by exact rfl) (hB.get (A:=outC b (.slice ax l.length cap)) sR) (by kernel_rfl) rfl) ?_;refine⟨trivial,?_⟩;change wpAnyH _ _ _ _ _ _ _ (Act.put _ (some 9) _) _;go_frame;refine Zab (i:=7) (by kernel_rfl) ?_;refine Zca (k:=7) (d:=some 12) (e:=5) (size:=1) (v:=.slice ax l.length cap) (xs:=flatY l) (n:=l.length) (m:=(fixL v).length) (news:=flatY (fixL v)) rfl rfl rfl rfl (.tmp 9) (.tmp 11) 67 rfl Tryz.underlying67 hi0 hz0 hz1 hz2 rfl (by omega) hB sR (by(try simp only[Act.eval,eV])<;>exact rfl) (by(try simp only[Act.eval,eV])<;>exact rfl) (Zay _ _ Zd4 _) (hB.row_reads (v:=.slice nx (fixL v).length ncap) (n:=(fixL v).length) (xs:=flatY (fixL v)) sR) (ZaI Zcd _) (by unfold maxLen;omega) (by omega) ?_;intro v2 z2 hC;rw[Zc7] at hC;obtain⟨cx,cn,ccap,hcv,hcn⟩:=hC.row_hid (v:=v2) (n:=(l++fixL v).length) (xs:=flatY (l++fixL v)) sR;subst hcv;have hcn2:=hcn.out;clear hcn;refine⟨trivial,?_⟩;go_frame;refine tZ 8 13 ((.pointer (some ⟨b,0,none⟩))) (r:=(fun w' hS=>by simp[execOp,go_sem,Act.eval,Act.put])) (s:=trivial) (h:= ?_);go_frame;refine tZ 9 14 ((.pointer (some ⟨b,0,none⟩))) (r:=(fun w' hS=>by kernel_rfl)) (s:=trivial) (h:= ?_);go_frame;refine Zab (i:=10) (by kernel_rfl) ?_;refine ZbZ (i:=10) (x:=.tmp 14) (y:=.tmp 12) (ty:=67) (b:=b) (j:=0) (v:=.slice cx cn ccap) (vs:=[.slice cx cn ccap]) rfl rfl rfl rfl (by(try simp only[Act.eval,eV])<;>exact rfl) (by(try simp only[Act.eval,eV])<;>exact rfl) rfl hC (c:=[.slice ax l.length cap]) sR (by kernel_rfl) rfl (by simp) ?_;intro z3 hD;simp only[setL,List.set_cons_zero] at hD;refine⟨trivial,?_⟩;refine wpAnyH_done (by kernel_rfl) ?_ _;(try go_frame);go_wp2_with fail;go_ret;exact⟨.slice cx cn ccap,rfl,hD.only2 (A:=outC b (.slice cx cn ccap)) (B:=rowY (.slice cx cn ccap) (l++fixL v)) sR sR⟩
def textL (s:ByteArray):List Int:=s.data.toList.map (fun x=>(x.toNat:Int))
theorem Zej (s:ByteArray):(textL s).length=s.size:=by unfold textL;rw[List.length_map];exact Array.length_toList
theorem ZmE (s:ByteArray):Lib.strCells s=flatY (textL s):=by
 unfold Lib.strCells textL;generalize s.data.toList=r;show _=(r.map _).flatMap encY
 induction r with
 |nil=>rfl
 |cons c r ih=>rw[List.map_cons,List.map_cons,List.flatMap_cons,←ih];rfl
theorem ZiC (w:World) {t u ty e:TypeId} {i:TypeInfo} {P:Program} (ht:P.underlying t=some (.slice e)) (hu:P.underlying u=some .string) (hi:P.info? e=some i) (hz:i.zero=some (.int .u8 0)) (hsize:i.size=1) (hby:i.bytes=1)
 (v:Value) (n:Nat) (xs:List Value) (hown:w.ownsRow 0 e 1 v n xs) (s:ByteArray) (h63:n + s.size≤130000000000000):
 ∃v' w',(Builtin.append_ #[t,u] ty #[v,.string s]).run P w=.ok v' w'∧w'.ownsRow 0 e 1 v' (n + s.size) (xs++Lib.strCells s)∧w.grownBy w' v.ownBlock∧(v'.ownBlock=v.ownBlock∨v'.ownBlock=some w.heap.size):=by
 obtain⟨v',w',h1,h2,h3,h4⟩:=Lib.run_append_own_string (P:=P) w 0 t u ty e i ht hu hi hz hsize hby v n xs hown s (by unfold maxLen;omega) (by omega) (Nat.zero_le _);refine⟨v',w',h1,h2,h3,?_⟩;have hxl:xs.length=n:=by simpa using hown.1
 rcases hown.2 with⟨rfl,rfl⟩|⟨g,cap,cur,rfl,hbg,hg,hnc,hcm,hcs,htake⟩
 · by_cases hm:s.size=0
   · have:=h4.2 ⟨rfl,hm⟩
     subst this;exact .inl rfl
   have hr:=run_append_nil_string (P:=P) w t u ty e i (.int .u8 0) ht hu hi hz s (by omega) (by omega) (by rw[hby];omega);rw[h1] at hr;cases hr;exact .inr rfl
 by_cases hroom:n + s.size≤cap
 · have hr:=Lib.run_append_room_string (P:=P) w t u ty e i ht hu hi hsize g n cap cur hg s hroom (by omega);rw[h1] at hr;cases hr;exact .inl rfl
 have holds:∀j u,xs[j]? =some u→w.cell? ((⟨g,0,none⟩:Addr).add j)=some u:=hown.cells (g:=g) rfl;have hr:=Lib.run_append_grow_string (P:=P) w t u ty e i (.int .u8 0) ht hu hi hz ⟨g,0,none⟩ n cap xs (by rw[hsize];simpa using hxl) holds s (by omega) (by omega) (by rw[hby];exact growslice_fits (by omega) (by omega));rw[h1] at hr;cases hr;exact .inr rfl
theorem Zci {P:Program} {ops:Array Oper} {rest:List Oper} {o:Oper} {a:Act} {Q:Exit→Act→World→Prop} {L0 L F:List Part} {w0 w:World} {e:TypeId} {n:Nat} {v:Value} {xs:List Value} {i:TypeInfo} (hg:o.guard=none) (s' x:Operand) (t u:TypeId) (ho:o.op=.call {callee:=.builtin .append,args:= #[s',x],argTypes:= #[t,u]})
 (ht:P.underlying t=some (.slice e)) (hu:P.underlying u=some .string) (hi:P.info? e=some i) (hz:i.zero=some (.int .u8 0)) (hsize:i.size=1) (hby:i.bytes=1)
 (h:At L0 w0 L w) (s:Sel (Part.row e 1 v n xs) L F) (hs:a.eval s'=v) {tx:ByteArray} (hx:a.eval x=.string tx) (h63:n + tx.size≤130000000000000)
 (hK:∀v' w',At L0 w0 (Part.row e 1 v' (n + tx.size) (xs++Lib.strCells tx)::F) w'→wpList P ops Q rest (a.put o.dst v') w'):wpList P ops Q (o::rest) a w:=by
 obtain⟨v',w',h1,h2,h3,h4⟩:=ZiC (P:=P) (ty:=o.type) w ht hu hi hz hsize hby v n xs (h.get s) tx h63
 refine Zal hg ?_ (hK v' w' (h.turn s _ h2 (fun b hb=>by
  rcases h4 with h4|h4
  · exact .inl (show v.ownBlock=some b from by rw[←h4];exact hb)
  right
  have hb':v'.ownBlock=some b:=hb;rw[h4] at hb';cases hb'
  exact Nat.le_refl _) (Zbv h3)))
 simp[execOp,ho,resolve,invoke,builtin,hs,hx,h1,Result.andThen]
def textB (s:ByteArray):List Int:=Zap s.size++textL s
theorem Zgf {w:World} {b:Nat} {u:Value} {l:List Int} (h:Sep [outC b u,rowY u l] w) (s:ByteArray) (hsz:s.size≤20000000000000) (hl:l.length≤100000000000000):
 Calls Tryz.prog 82 #[.pointer (some ⟨b,0,none⟩),.string s] w (ZaE w b u l (textB s)):=by
 obtain⟨i0,hi0,hz0,hz1,hz2⟩:=info_parts infoY;have hA:=At.start h;have hF:=hA.facts;have hw:IntKind.u64.wrap (s.size:Int)=(s.size:Int):=by rw[IntKind.wrap_u64];omega
 have hnl:(Zap s.size).length≤10:=Zar 9 s.size (by omega);obtain⟨hA,hF⟩:=fZ hA;go_enter Tryz.func82,Tryz.ntmps82;go_wp2_with fail;refine(Zbq h s.size (by omega) hl).mono ?_;clear h hF hA;rintro e w' ⟨u',rfl,hA⟩;have hll:(l++Zap s.size).length≤100000000000010:=by rw[List.length_append];omega
 obtain⟨l2,hl2⟩:∃z,l++Zap s.size=z:=⟨_,rfl⟩
 rw[hl2] at hA hll;obtain⟨ax,an,cap,hav,han⟩:=hA.row_hid (v:=u') (n:=l2.length) (xs:=flatY l2) sR;subst hav;have han2:=han.out;subst han2;clear han;obtain⟨hA,hF⟩:=fZ hA
 go_wp2_with (first
  |(with_reducible show wpList _ _ _ ({dst:=_,op:=Op.call {callee:=Callee.builtin Builtin.append,args:=_,argTypes:=_},type:=_,pos:=_,after:=_,guard:=_}::_) _ _;refine Zci (e:=5) (v:=.slice ax l2.length cap) (xs:=flatY l2) (n:=l2.length) (tx:=s) rfl _ _ 67 9 rfl Tryz.underlying67 Tryz.underlying9 hi0 hz0 hz1 hz2 hA sR (by(try simp only[Act.eval,eV])<;>exact rfl) (by(try simp only[Act.eval,eV])<;>exact rfl) (by omega) ?_;intro v2 w7 hB;rw[ZmE,←Zej,Zc7] at hB;obtain⟨cx,cn,ccap,hcv,hcn⟩:=hB.row_hid (v:=v2) (n:=(l2++textL s).length) (xs:=flatY (l2++textL s)) sR;subst hcv;replace hA:=hB;clear hF hB;obtain⟨hA,hF⟩:=fZ hA)
  |((with_reducible refine gst ?_);refine wTz hA ?_;clear hF hA;intro w1 hA hF)|((with_reducible refine gbx ?_);refine wCz hA ?_;clear hF hA;intro b1 w1 hA hb1 hF))
 go_ret;refine⟨.slice cx cn ccap,rfl,?_⟩;have hE:=hA.only2 (A:=outC b (.slice cx cn ccap)) (B:=rowY (.slice cx cn ccap) (l2++textL s)) sR sR;rw[←hl2,List.append_assoc] at hE;exact hE
end Wire
end
section
namespace Wire
open Go.RowKit
theorem Zho (l:List Int):flatY l=l.map (Value.int .u8):=by
 induction l with
 |nil=>rfl
 |cons x l ih=>show encY x++flatY l=_;rw[ih];rfl
theorem ZeL (l:List Int) (i:Nat) (hi:i < l.length):(flatY l)[i]? =some (.int .u8 l[i]):=by
 rw[Zho,List.getElem?_map,List.getElem?_eq_getElem hi];rfl
theorem Zl3 {L0 L F:List Part} {w0 w:World} {v:Value} {l:List Int} (hA:At L0 w0 L w) (s:Sel (rowY v l) L F) (hl:l.length≤140000000000000):
 Calls Tryz.prog 88 #[v] w fun e w'=>∃v',e=.returned v'∧At L0 w0 (rowY v' l::L) w':=by
 obtain⟨ax,cap,rfl,hax,hcap,_⟩:=hA.row_form (v:=v) (n:=l.length) (xs:=flatY l) s;have hr:=hA.row_reads (v:=.slice ax l.length cap) (n:=l.length) (xs:=flatY l) s
 cases ax with
 |none=>
  have h0:l=[]:=List.eq_nil_of_length_eq_zero (hax rfl);subst h0;refine(Tryz.bytes_Clone_nil _ cap w).mono fun e w' h=> ?_;obtain⟨he,hw⟩:=h;subst he;subst hw;exact⟨_,rfl,Zf1 hA⟩
 |some a=>
  refine(Tryz.bytes_Clone_at a l.length cap l w rfl (by omega) ?_).mono fun e w' h=> ?_
  · intro i hi;obtain⟨ax',c',hv',_,hc⟩:=hr;cases hv';obtain⟨b,off,h,hx⟩:=hc i _ (ZeL l i hi);cases h;rw[List.getD_eq_getElem?_getD,List.getElem?_eq_getElem hi];by_cases q:i=0
    · subst q;simpa [Addr.add] using hx
    simpa [Addr.add,q] using hx
  obtain⟨v',rfl,hown,_,hb⟩:=h;refine⟨v',rfl,?_⟩;have:=hA.row_new (e:=5) (size:=1) (n:=l.length) (xs:=flatY l) (v:=v') hb (by rw[Zho];exact hown);exact this
theorem Zni {w:World} {b:Nat} {u:Value} {l:List Int} (h:Sep [outC b u,rowY u l] w) (hl:l.length≤140000000000000):
 Calls Tryz.prog 44 #[.pointer (some ⟨b,0,none⟩)] w fun e w'=>∃v,e=.returned v∧At [outC b u,rowY u l] w [rowY v l,outC b u,rowY u l] w':=by
 have hA:=At.start h;have hF:=hA.facts;clear h;obtain⟨ax,cap,rfl,hax,hcap,_⟩:=hA.row_form (v:=u) (n:=l.length) (xs:=flatY l) sR;obtain⟨hA,hF⟩:=fZ hA;go_enter Tryz.func44,Tryz.ntmps44;go_wp2_with fail;refine(Zl3 (v:=.slice ax l.length cap) (l:=l) hA sR hl).mono ?_;rintro e w1 ⟨v,rfl,hB⟩;go_wp2_with fail;go_ret;exact⟨v,rfl,hB⟩
def SmRel (w:World) (u v:Value) (a c:List Int) (k:Nat) (x:Value) (wr:World):Prop:=
 ∃i:Nat,x=.int .i64 i∧i + k=a.length∧a.take i=c.take i∧At [rowY u a,rowY v c] w [rowY u a,rowY v c] wr
theorem ZmN {w:World} {u v:Value} {a c:List Int} (h:Sep [rowY u a,rowY v c] w) (hl:a.length≤140000000000000):
 Calls Tryz.prog 17 #[u,v] w fun e w'=>e=.returned (.bool (decide (a=c)))∧At [rowY u a,rowY v c] w [rowY u a,rowY v c] w':=by
 have hA:=At.start h;have hF:=hA.facts;clear h;obtain⟨ax,acap,rfl,hax,hacap,_⟩:=hA.row_form (v:=u) (n:=a.length) (xs:=flatY a) sR;obtain⟨cx,ccap,rfl,hcx,hccap,_⟩:=hA.row_form (v:=v) (n:=c.length) (xs:=flatY c) sR;obtain⟨hA,hF⟩:=fZ hA;go_enter Tryz.func17,Tryz.ntmps17;by_cases hn:a.length=c.length
 · have hn':((a.length:Int) != (c.length:Int))=false:=by simp[hn]
   go_wp2_with fail;(try go_frame);clear hn';go_loopg [5] a.length (SmRel w (.slice ax a.length acap) (.slice cx c.length ccap) a c)
   case atStart=>exact⟨0,rfl,by simp,by simp,hA⟩
   case round=>
    obtain⟨i,rfl,hik,htk,hB⟩:=hrel;have htk':=Hd htk;clear hF hA htk;have hA:=hB;clear hB;have hnx:=Hd hn;by_cases hi:i < a.length
    · have hic:i < c.length:=by omega
      have hy:=ZeL a i hi;have hz:=ZeL c i hic;obtain⟨ga,ca,rfl,ap1,am,al,atk,hB⟩:=hA.row_open (ax:=ax) (cap:=acap) (n:=a.length) (xs:=flatY a) sR (by omega);replace hA:=hB;clear hB;obtain⟨gc,cc,rfl,cp1,cm,cl,ct,hB⟩:=hA.row_open (ax:=cx) (cap:=ccap) (n:=c.length) (xs:=flatY c) sR (by omega);replace hA:=hB;clear hB
      have f1:ca[i]? =some (.int .u8 a[i]):=by
       rw[←hy,←atk,List.getElem?_take_of_lt (by omega)]
      have f2:cc[i]? =some (.int .u8 c[i]):=by
       rw[←hz,←ct,List.getElem?_take_of_lt (by omega)]
      have hstep:=Hd (show a[i]=c[i]→a.take (i + 1)=c.take (i + 1) from fun q=>by
       rw[List.take_succ_eq_append_getElem hi,List.take_succ_eq_append_getElem hic,htk'.out,q])
      have hne:=Hd (show a[i]≠c[i]→a≠c from fun q e=>q (by subst e;rfl))
      obtain⟨y,hyy⟩:∃y,a[i]=y:=⟨_,rfl⟩
      obtain⟨z,hzz⟩:∃z,c[i]=z:=⟨_,rfl⟩
      rw[hyy] at f1 hstep hne;rw[hzz] at f2 hstep hne;clear hy hz hyy hzz hn;obtain⟨hA,hF⟩:=fZ hA;by_cases hq:y=z
      · subst hq;have hs2:=Hd (hstep.out rfl);clear hstep hne;go_wp2_with fail;(try go_frame);refine cl2 hA ?_;clear hF hA;intro w1 hA hF;(try simp only[uZ] at hA hF);go_wp2_with fail;go_roundg (gk - 1);case measure=>omega
        case rel=>
         have hS1:=hA.row_shut (e:=5) (size:=1) (n:=a.length) (cap:=acap) (xs:=flatY a) (g:=ga) (c:=ca) sR al ap1 am atk;have hS2:=hS1.row_shut (e:=5) (size:=1) (n:=c.length) (cap:=ccap) (xs:=flatY c) (g:=gc) (c:=cc) sR cl cp1 cm ct;exact⟨i + 1,by simp,by omega,hs2.out,hS2.pick pZ⟩
      have hq':(y != z)=true:=by simp[hq]
      have hf:decide (a=c)=false:=decide_eq_false (hne.out hq);clear hstep hne;go_wp2_with fail;(try go_frame);refine cl2 hA ?_;clear hF hA;intro w1 hA hF;(try simp only[uZ] at hA hF);go_wp2_with fail;go_ret;have hS1:=hA.row_shut (e:=5) (size:=1) (n:=a.length) (cap:=acap) (xs:=flatY a) (g:=ga) (c:=ca) sR al ap1 am atk;have hS2:=hS1.row_shut (e:=5) (size:=1) (n:=c.length) (cap:=ccap) (xs:=flatY c) (g:=gc) (c:=cc) sR cl cp1 cm ct;exact⟨by rw[hf];rfl,hS2.pick pZ⟩
    have hac:a=c:=by
     have:=htk'.out
     rwa [List.take_of_length_le (by omega),List.take_of_length_le (by omega)] at this
    have hf:decide (a=c)=true:=decide_eq_true hac;have hf':=Hd hf;clear hf hac hn;obtain⟨hA,hF⟩:=fZ hA;go_wp2_with fail;go_ret;exact⟨by rw[hf'.out];rfl,hA⟩
 have hn':((a.length:Int) != (c.length:Int))=true:=by simp;omega
 have hf:decide (a=c)=false:=decide_eq_false (fun e=>hn (by rw[e]));go_wp2_with fail;go_ret;exact⟨by rw[hf];rfl,hA⟩
end Wire
end
section
namespace Lease
open Go.RowKit
open _root_.Go.Proofs.YtknoefbcmomalabGreatDoor.Wire
open _root_.Go.Proofs.YtknoefbcmomalabGreatDoor.Sess (seL sortS)
attribute [-go_sem] run_eql_struct run_neq_struct run_eqGuard_agg
def wrN (e:Int):Nat:=(e % 18446744073709551616).toNat
def bB (t:Bool):List Int:=[if t then(1:Int) else 0]
def encA (a:AR):List Int:=Zap a.r.toNat++Zap (wrN a.e)++fixL a.n.toNat++bB a.g
def encS (s:SR):List Int:=fixL s.num.toNat++textB s.foot++bB s.op++bB s.dead++Zap s.dl.toNat++Zap s.ttl.toNat++Zap s.told.length++s.told.flatMap encA
def encL (L:List SR):List Int:=Zap L.length++L.flatMap encS
theorem ZaE.r {w w':World} {b:Nat} {u:Value} {l m:List Int} {e:Ending} (h:ZaE w b u l m e w'):∃x,e=.returned x∧(x=.pointer (some ⟨b,0,none⟩)∧∃u',At [outC b u,rowY u l] w [outC b u',rowY u' (l++m)] w'):=by
 obtain⟨u',rfl,hT⟩:=h;exact⟨_,rfl,rfl,u',hT⟩
theorem ZgL (s:ByteArray) (h:s.size≤20000000000000):(textB s).length≤10 + s.size:=by
 have h1:=Zar 9 s.size (by omega);unfold textB;rw[List.length_append,Zej];omega
def PvRel (w:World) (p m b g bI bK:Nat) (ss:List Ses) (c cI cK:List Value) (u00:Value) (l00:List Int) (l7:List Int) (told:List AR) (vq:Value) (k:Nat) (x:Value) (wr:World):Prop:=
 ∃(j:Nat) (u:Value) (l:List Int),x=.int .i64 j∧j + k=told.length∧l=l7++(told.take j).flatMap encA∧l.length≤l7.length + j * 29∧At [BookP p m ss,outC b u00,rowY u00 l00] w [Part.row 22 1 vq told.length ((told.map (·.r)).flatMap Unt.seL),outC b u,rowY u l,.cells bI cI 144,BookP p m ss,.cells bK cK 39,.cells g c 39] wr
def PuRel (w:World) (p m b:Nat) (ss:List Ses) (L:List SR) (u0:Value) (l0:List Int) (vl:Value) (k:Nat) (x:Value) (wr:World):Prop:=
 ∃(i:Nat) (u:Value) (l:List Int),x=.int .i64 i∧i + k=L.length∧l=l0++Zap L.length++(L.take i).flatMap encS∧l.length≤l0.length + 10 + i * 2100000∧At [BookP p m ss,outC b u0,rowY u0 l0] w [Part.row 39 2 vl L.length ((L.map keyR).flatMap seL),BookP p m ss,outC b u,rowY u l] wr
theorem put_any {w:World} {p m b:Nat} {ss:List Ses} {L:List SR} {u00:Value} {l00:List Int} (h:Sep [BookP p m ss,outC b u00,rowY u00 l00] w) (hR:Rel ss L) (hk:∀s ∈ L,0≤s.num∧s.num < big64∧s.foot.size≤2000000) (hl:L.length≤100000) (hl0:l00.length≤1000000000000):
 Calls Tryz.prog 42 #[.pointer (some ⟨p,0,none⟩),.pointer (some ⟨b,0,none⟩)] w fun e w'=>e=.returned (.tuple #[])∧∃u,At [BookP p m ss,outC b u00,rowY u00 l00] w [BookP p m ss,outC b u,rowY u (l00++encL L)] w':=by
 have hm:Tryz.prog.follows .mixedOrders=true:=by kernel_rfl
 have hA:=At.start h;have hF:=hA.facts;clear h;have hR':=Hd hR;have hk':=Hd hk;have hss:ss.length≤1000000:=by rw[hR.len];omega
 clear hR hk;obtain⟨hA,hF⟩:=fZ hA;go_enter Tryz.func42,Tryz.ntmps42;go_wp2_with fail;refine(ZgT (hA.sep1 (A:=BookP p m ss) sR) hss).mono ?_;rintro e w1 ⟨vl,rfl,hT⟩;have hB:=hA.call1 (A:=BookP p m ss) sR hT;rw[hR'.out.sessions] at hB;simp only[uA] at hB;clear hF hA hT;have hA:At _ w (Part.row 39 2 vl (L.map keyR).length ((L.map keyR).flatMap seL)::_) _:=hB;clear hB;rw[List.length_map] at hA;obtain⟨lx,lcap,rfl,hlx,hlcap,_⟩:=hA.row_form (v:=vl) (n:=L.length) (xs:=(L.map keyR).flatMap seL) sR;have hwL:IntKind.u64.wrap (L.length:Int)=(L.length:Int):=by rw[IntKind.wrap_u64];omega
 obtain⟨hA,hF⟩:=fZ hA;go_wp2_with fail;refine(Zbq (hA.sep2 (A:=outC b u00) (B:=rowY u00 l00) sR sR) L.length (by omega) (by omega)).mono ?_;rintro e w2 ⟨u1,rfl,hT⟩;have hB:=hA.call2 (A:=outC b u00) (B:=rowY u00 l00) sR sR hT;have hsl:=Zar 9 L.length (by omega);clear hF hA hT;have hA:=hB;clear hB;simp only[uA] at hA;obtain⟨hA,hF⟩:=fZ hA;go_wp2_with fail;(try go_frame);go_loopg [21] L.length (PuRel w p m b ss L u00 l00 (.slice lx L.length lcap))
 case atStart=>exact⟨0,u1,l00++Zap L.length,rfl,by simp,by simp,by rw[List.length_append];omega,hA.pick pZ⟩
 case round=>
  obtain⟨i,u0,l0,rfl,hik,hle,hll,hB⟩:=hrel;have hle':=Hd hle;clear hF hA hle hsl;have hA:=hB;clear hB;by_cases hi:i < L.length
  · have hmem:=List.getElem_mem hi;obtain⟨n0,n1,hfz⟩:=hk'.out _ hmem;have hrs:=hR'.out.mine hmem;have htk:=Hd (List.take_succ_eq_append_getElem hi);obtain⟨g,c,rfl,cp1,cm,cl,ct,hB⟩:=hA.row_open (ax:=lx) (cap:=lcap) (n:=L.length) (xs:=(L.map keyR).flatMap seL) sR (by omega);have hx:(L.map keyR)[i]? =some (keyR L[i]):=by rw[List.getElem?_map,List.getElem?_eq_getElem hi];rfl
    have ct2:c.take ((L.map keyR).length * 2)=(L.map keyR).flatMap seL:=by rw[List.length_map];exact ct
    have c0:c[i * 2]? =some (.int .u64 L[i].num):=Zae Sess.seL_len ct2 hx 0 (by omega);have c1:c[i * 2 + 1]? =some (.string L[i].foot):=Zae Sess.seL_len ct2 hx 1 (by omega)
    obtain⟨s,hs⟩:∃s,L[i]=s:=⟨_,rfl⟩
    rw[hs] at hrs htk c0 c1 n0 n1 hfz;clear hA hx hs hmem;have hA:=hB;clear hB;obtain⟨num,foot,op,dead,dl,ttl,sax,scap,told⟩:=s;simp only at hrs c0 c1 n0 n1 hfz;have htb:=hrs.tb;have hdb:=hrs.db;have htl:=hrs.told.len;simp only at htb hdb htl
    obtain⟨num,rfl⟩:∃k:Nat,num=k:=⟨num.toNat,by omega⟩
    obtain⟨dl,rfl⟩:∃k:Nat,dl=k:=⟨dl.toNat,by omega⟩
    obtain⟨ttl,rfl⟩:∃k:Nat,ttl=k:=⟨ttl.toNat,by omega⟩
    have hn64:num < 18446744073709551616:=by unfold big64 at n1;omega
    have hwd:IntKind.u64.wrap (dl:Int)=(dl:Int):=by rw[IntKind.wrap_u64];omega
    have hwt:IntKind.u64.wrap (ttl:Int)=(ttl:Int):=by rw[IntKind.wrap_u64];omega
    have hws:IntKind.u64.wrap (told.length:Int)=(told.length:Int):=by rw[IntKind.wrap_u64];omega
    have hft:=ZgL foot (by omega);have hmx:foot.size≤maxLen:=by unfold maxLen;omega
    have hrs':=Hd hrs;have hib:i * 2100000≤100000 * 2100000:=Nat.mul_le_mul_right _ (by omega);clear hrs;obtain⟨hA,hF⟩:=fZ hA
    go_wp2_with (first|((with_reducible refine gal ?_);refine wGz 39 [.int .u64 0,.string .empty] hA ?_;clear hF hA;intro bK w1 hA hbK hF)|((with_reducible refine gst ?_);refine wTz hA ?_;clear hF hA;intro w1 hA hF))
    refine(Zlu (hA.sep1 (A:=BookP p m ss) sR) n0 n1 hmx hrs'.out).mono ?_;rintro e w3 ⟨rfl,hT⟩;replace hA:=hA.call1 (A:=BookP p m ss) sR hT;clear hF hT;simp only[uA] at hA;obtain⟨hA,hF⟩:=fZ hA
    go_wp2_with (first|((with_reducible refine gal ?_);refine wGz 144 [.bool false,.bool false,.int .i64 0,.int .i64 0,.int .i64 0] hA ?_;clear hF hA;intro bI w1 hA hbI hF)|((with_reducible refine gst ?_);refine wTz hA ?_;clear hF hA;intro w1 hA hF))
    (try go_frame);have hAd:=hA.drew;clear hF hA;have hA:=hAd;clear hAd;refine wp_region_held (S:=fun w'=>Zaa w' bK [.int .u64 (num:Int),.string foot] 39∧Zaa w' bI [.bool op,.bool dead,.int .i64 (dl:Int),.int .i64 (ttl:Int),.int .i64 (told.length:Int)] 144) hm ?_;change wpAnyH _ _ _ _ _ 25 _ _ (World.drew _);generalize World.drew _=w2 at *
    have hS0:=(show Zaa _ bK [.int .u64 (num:Int),.string foot] 39∧Zaa _ bI [.bool op,.bool dead,.int .i64 (dl:Int),.int .i64 (ttl:Int),.int .i64 (told.length:Int)] 144 from⟨hA.get (A:=.cells bK [.int .u64 (num:Int),.string foot] 39) sR,hA.get (A:=.cells bI [.bool op,.bool dead,.int .i64 (dl:Int),.int .i64 (ttl:Int),.int .i64 (told.length:Int)] 144) sR⟩)
    refine tZ 0 28 ((.pointer (some ⟨b,0,none⟩))) (r:=(fun w' hS=>by simp[execOp,go_sem,Act.eval,Act.put])) (s:=hS0) (h:= ?_);go_frame;refine tZ 1 29 ((.pointer (some ⟨bK,0,none⟩))) (r:=(fun w' hS=>by kernel_rfl)) (s:=hS0) (h:= ?_);go_frame;refine tZ 2 30 ((.int .u64 (num:Int))) (r:=(fun w' hS=>Zac (b:=bK) (j:=0) rfl (by exact rfl) hS.1 (by kernel_rfl) rfl)) (s:=hS0) (h:= ?_);go_frame;refine tZ 4 32 ((.pointer (some ⟨bK,1,none⟩))) (r:=(fun w' hS=>by kernel_rfl)) (s:=hS0) (h:= ?_);go_frame;refine tZ 5 33 ((.string foot)) (r:=(fun w' hS=>Zac (b:=bK) (j:=1) rfl (by exact rfl) hS.1 (by kernel_rfl) rfl)) (s:=hS0) (h:= ?_);go_frame;refine tZ 7 35 ((.pointer (some ⟨bI,0,none⟩))) (r:=(fun w' hS=>by kernel_rfl)) (s:=hS0) (h:= ?_);go_frame;refine tZ 8 36 ((.bool op)) (r:=(fun w' hS=>Zac (b:=bI) (j:=0) rfl (by exact rfl) hS.2 (by kernel_rfl) rfl)) (s:=hS0) (h:= ?_);go_frame;refine tZ 10 38 ((.pointer (some ⟨bI,1,none⟩))) (r:=(fun w' hS=>by kernel_rfl)) (s:=hS0) (h:= ?_);go_frame;refine tZ 11 39 ((.bool dead)) (r:=(fun w' hS=>Zac (b:=bI) (j:=1) rfl (by exact rfl) hS.2 (by kernel_rfl) rfl)) (s:=hS0) (h:= ?_);go_frame;refine tZ 13 41 ((.pointer (some ⟨bI,2,none⟩))) (r:=(fun w' hS=>by kernel_rfl)) (s:=hS0) (h:= ?_);go_frame;refine tZ 14 42 ((.int .i64 (dl:Int))) (r:=(fun w' hS=>Zac (b:=bI) (j:=2) rfl (by exact rfl) hS.2 (by kernel_rfl) rfl)) (s:=hS0) (h:= ?_);go_frame;refine tZ 15 43 ((.int .u64 (dl:Int))) (r:=(fun w' hS=>by simp[execOp,go_sem,Act.eval,Act.put,hwd])) (s:=hS0) (h:= ?_);go_frame;refine tZ 17 45 ((.pointer (some ⟨bI,3,none⟩))) (r:=(fun w' hS=>by kernel_rfl)) (s:=hS0) (h:= ?_);go_frame;refine tZ 18 46 ((.int .i64 (ttl:Int))) (r:=(fun w' hS=>Zac (b:=bI) (j:=3) rfl (by exact rfl) hS.2 (by kernel_rfl) rfl)) (s:=hS0) (h:= ?_);go_frame;refine tZ 19 47 ((.int .u64 (ttl:Int))) (r:=(fun w' hS=>by simp[execOp,go_sem,Act.eval,Act.put,hwt])) (s:=hS0) (h:= ?_);go_frame;refine tZ 21 49 ((.pointer (some ⟨bI,4,none⟩))) (r:=(fun w' hS=>by kernel_rfl)) (s:=hS0) (h:= ?_);go_frame;refine tZ 22 50 ((.int .i64 (told.length:Int))) (r:=(fun w' hS=>Zac (b:=bI) (j:=4) rfl (by exact rfl) hS.2 (by kernel_rfl) rfl)) (s:=hS0) (h:= ?_);go_frame;refine tZ 23 51 ((.int .u64 (told.length:Int))) (r:=(fun w' hS=>by simp[execOp,go_sem,Act.eval,Act.put,hws])) (s:=hS0) (h:= ?_);go_frame;clear hS0;refine Zab (i:=3) (by kernel_rfl) ?_;refine Zas (i:=3) (d:=some 31) rfl rfl rfl (fn:=81) (args:= #[(.pointer (some ⟨b,0,none⟩)),.int .u64 (num:Int)]) (by simp[execOp,go_sem,Act.eval,Act.put]) ((Zdd (hA.sep2 (A:=outC b u0) (B:=rowY u0 l0) sR sR) num hn64 (by omega)).mono (fun e w' h=>ZaE.r h)) ?_;rintro xq zq ⟨rfl,u1,hT⟩;have hB:=hA.call2 (A:=outC b u0) (B:=rowY u0 l0) sR sR hT
    obtain⟨l1,he1⟩:∃z,l0++fixL num=z:=⟨_,rfl⟩
    have hl1:l1.length≤l0.length + 8:=by have:=(show(fixL num).length≤8 from by simp[fixL]);rw[←he1,List.length_append];omega
    rw[he1] at hB;have he1':=Hd he1;clear hA hT he1;have hA:=hB;clear hB;simp only[uA] at hA;refine⟨(show Zaa _ bK [.int .u64 (num:Int),.string foot] 39∧Zaa _ bI [.bool op,.bool dead,.int .i64 (dl:Int),.int .i64 (ttl:Int),.int .i64 (told.length:Int)] 144 from⟨hA.get (A:=.cells bK [.int .u64 (num:Int),.string foot] 39) sR,hA.get (A:=.cells bI [.bool op,.bool dead,.int .i64 (dl:Int),.int .i64 (ttl:Int),.int .i64 (told.length:Int)] 144) sR⟩),?_⟩;go_frame;refine Zab (i:=6) (by kernel_rfl) ?_;refine Zas (i:=6) (d:=some 34) rfl rfl rfl (fn:=82) (args:= #[(.pointer (some ⟨b,0,none⟩)),.string foot]) (by simp[execOp,go_sem,Act.eval,Act.put]) ((Zgf (hA.sep2 (A:=outC b u1) (B:=rowY u1 l1) sR sR) foot (by omega) (by omega)).mono (fun e w' h=>ZaE.r h)) ?_;rintro xq zq ⟨rfl,u2,hT⟩;have hB:=hA.call2 (A:=outC b u1) (B:=rowY u1 l1) sR sR hT
    obtain⟨l2,he2⟩:∃z,l1++textB foot=z:=⟨_,rfl⟩
    have hl2:l2.length≤l1.length + (10 + foot.size):=by have:=hft;rw[←he2,List.length_append];omega
    rw[he2] at hB;have he2':=Hd he2;clear hA hT he2;have hA:=hB;clear hB;simp only[uA] at hA;refine⟨(show Zaa _ bK [.int .u64 (num:Int),.string foot] 39∧Zaa _ bI [.bool op,.bool dead,.int .i64 (dl:Int),.int .i64 (ttl:Int),.int .i64 (told.length:Int)] 144 from⟨hA.get (A:=.cells bK [.int .u64 (num:Int),.string foot] 39) sR,hA.get (A:=.cells bI [.bool op,.bool dead,.int .i64 (dl:Int),.int .i64 (ttl:Int),.int .i64 (told.length:Int)] 144) sR⟩),?_⟩;go_frame;refine Zab (i:=9) (by kernel_rfl) ?_;refine Zas (i:=9) (d:=some 37) rfl rfl rfl (fn:=83) (args:= #[(.pointer (some ⟨b,0,none⟩)),.bool op]) (by simp[execOp,go_sem,Act.eval,Act.put]) ((Zge (hA.sep2 (A:=outC b u2) (B:=rowY u2 l2) sR sR) op (by omega)).mono (fun e w' h=>ZaE.r h)) ?_;rintro xq zq ⟨rfl,u3,hT⟩;have hB:=hA.call2 (A:=outC b u2) (B:=rowY u2 l2) sR sR hT
    obtain⟨l3,he3⟩:∃z,l2++[if op then(1:Int) else 0]=z:=⟨_,rfl⟩
    have hl3:l3.length≤l2.length + 1:=by have:=(show([if op then(1:Int) else 0]:List Int).length≤1 from Nat.le_refl _);rw[←he3,List.length_append];omega
    rw[he3] at hB;have he3':=Hd he3;clear hA hT he3;have hA:=hB;clear hB;simp only[uA] at hA;refine⟨(show Zaa _ bK [.int .u64 (num:Int),.string foot] 39∧Zaa _ bI [.bool op,.bool dead,.int .i64 (dl:Int),.int .i64 (ttl:Int),.int .i64 (told.length:Int)] 144 from⟨hA.get (A:=.cells bK [.int .u64 (num:Int),.string foot] 39) sR,hA.get (A:=.cells bI [.bool op,.bool dead,.int .i64 (dl:Int),.int .i64 (ttl:Int),.int .i64 (told.length:Int)] 144) sR⟩),?_⟩;go_frame;refine Zab (i:=12) (by kernel_rfl) ?_;refine Zas (i:=12) (d:=some 40) rfl rfl rfl (fn:=83) (args:= #[(.pointer (some ⟨b,0,none⟩)),.bool dead]) (by simp[execOp,go_sem,Act.eval,Act.put]) ((Zge (hA.sep2 (A:=outC b u3) (B:=rowY u3 l3) sR sR) dead (by omega)).mono (fun e w' h=>ZaE.r h)) ?_;rintro xq zq ⟨rfl,u4,hT⟩;have hB:=hA.call2 (A:=outC b u3) (B:=rowY u3 l3) sR sR hT
    obtain⟨l4,he4⟩:∃z,l3++[if dead then(1:Int) else 0]=z:=⟨_,rfl⟩
    have hl4:l4.length≤l3.length + 1:=by have:=(show([if dead then(1:Int) else 0]:List Int).length≤1 from Nat.le_refl _);rw[←he4,List.length_append];omega
    rw[he4] at hB;have he4':=Hd he4;clear hA hT he4;have hA:=hB;clear hB;simp only[uA] at hA;refine⟨(show Zaa _ bK [.int .u64 (num:Int),.string foot] 39∧Zaa _ bI [.bool op,.bool dead,.int .i64 (dl:Int),.int .i64 (ttl:Int),.int .i64 (told.length:Int)] 144 from⟨hA.get (A:=.cells bK [.int .u64 (num:Int),.string foot] 39) sR,hA.get (A:=.cells bI [.bool op,.bool dead,.int .i64 (dl:Int),.int .i64 (ttl:Int),.int .i64 (told.length:Int)] 144) sR⟩),?_⟩;go_frame;refine Zab (i:=16) (by kernel_rfl) ?_;refine Zas (i:=16) (d:=some 44) rfl rfl rfl (fn:=80) (args:= #[(.pointer (some ⟨b,0,none⟩)),.int .u64 (dl:Int)]) (by simp[execOp,go_sem,Act.eval,Act.put]) ((Zbq (hA.sep2 (A:=outC b u4) (B:=rowY u4 l4) sR sR) (dl) (by omega) (by omega)).mono (fun e w' h=>ZaE.r h)) ?_;rintro xq zq ⟨rfl,u5,hT⟩;have hB:=hA.call2 (A:=outC b u4) (B:=rowY u4 l4) sR sR hT
    obtain⟨l5,he5⟩:∃z,l4++Zap (dl)=z:=⟨_,rfl⟩
    have hl5:l5.length≤l4.length + 10:=by have:=Zar 9 (dl) (by omega);rw[←he5,List.length_append];omega
    rw[he5] at hB;have he5':=Hd he5;clear hA hT he5;have hA:=hB;clear hB;simp only[uA] at hA;refine⟨(show Zaa _ bK [.int .u64 (num:Int),.string foot] 39∧Zaa _ bI [.bool op,.bool dead,.int .i64 (dl:Int),.int .i64 (ttl:Int),.int .i64 (told.length:Int)] 144 from⟨hA.get (A:=.cells bK [.int .u64 (num:Int),.string foot] 39) sR,hA.get (A:=.cells bI [.bool op,.bool dead,.int .i64 (dl:Int),.int .i64 (ttl:Int),.int .i64 (told.length:Int)] 144) sR⟩),?_⟩;go_frame;refine Zab (i:=20) (by kernel_rfl) ?_;refine Zas (i:=20) (d:=some 48) rfl rfl rfl (fn:=80) (args:= #[(.pointer (some ⟨b,0,none⟩)),.int .u64 (ttl:Int)]) (by simp[execOp,go_sem,Act.eval,Act.put]) ((Zbq (hA.sep2 (A:=outC b u5) (B:=rowY u5 l5) sR sR) (ttl) (by omega) (by omega)).mono (fun e w' h=>ZaE.r h)) ?_;rintro xq zq ⟨rfl,u6,hT⟩;have hB:=hA.call2 (A:=outC b u5) (B:=rowY u5 l5) sR sR hT
    obtain⟨l6,he6⟩:∃z,l5++Zap (ttl)=z:=⟨_,rfl⟩
    have hl6:l6.length≤l5.length + 10:=by have:=Zar 9 (ttl) (by omega);rw[←he6,List.length_append];omega
    rw[he6] at hB;have he6':=Hd he6;clear hA hT he6;have hA:=hB;clear hB;simp only[uA] at hA;refine⟨(show Zaa _ bK [.int .u64 (num:Int),.string foot] 39∧Zaa _ bI [.bool op,.bool dead,.int .i64 (dl:Int),.int .i64 (ttl:Int),.int .i64 (told.length:Int)] 144 from⟨hA.get (A:=.cells bK [.int .u64 (num:Int),.string foot] 39) sR,hA.get (A:=.cells bI [.bool op,.bool dead,.int .i64 (dl:Int),.int .i64 (ttl:Int),.int .i64 (told.length:Int)] 144) sR⟩),?_⟩;go_frame;refine Zab (i:=24) (by kernel_rfl) ?_;refine Zas (i:=24) (d:=some 52) rfl rfl rfl (fn:=80) (args:= #[(.pointer (some ⟨b,0,none⟩)),.int .u64 (told.length:Int)]) (by simp[execOp,go_sem,Act.eval,Act.put]) ((Zbq (hA.sep2 (A:=outC b u6) (B:=rowY u6 l6) sR sR) (told.length) (by omega) (by omega)).mono (fun e w' h=>ZaE.r h)) ?_;rintro xq zq ⟨rfl,u7,hT⟩;have hB:=hA.call2 (A:=outC b u6) (B:=rowY u6 l6) sR sR hT
    obtain⟨l7,he7⟩:∃z,l6++Zap (told.length)=z:=⟨_,rfl⟩
    have hl7:l7.length≤l6.length + 10:=by have:=Zar 9 (told.length) (by omega);rw[←he7,List.length_append];omega
    rw[he7] at hB;have he7':=Hd he7;clear hA hT he7;have hA:=hB;clear hB;simp only[uA] at hA;refine⟨(show Zaa _ bK [.int .u64 (num:Int),.string foot] 39∧Zaa _ bI [.bool op,.bool dead,.int .i64 (dl:Int),.int .i64 (ttl:Int),.int .i64 (told.length:Int)] 144 from⟨hA.get (A:=.cells bK [.int .u64 (num:Int),.string foot] 39) sR,hA.get (A:=.cells bI [.bool op,.bool dead,.int .i64 (dl:Int),.int .i64 (ttl:Int),.int .i64 (told.length:Int)] 144) sR⟩),?_⟩;go_frame;refine wpAnyH_done (by kernel_rfl) ?_ _;(try go_frame);obtain⟨hA,hF⟩:=fZ hA;go_wp2_with fail;refine(Zf4 (hA.sep1 (A:=BookP p m ss) sR) n0 n1 hmx hrs'.out).mono ?_;rintro e w4 ⟨vq,rfl,hT⟩;replace hA:=hA.call1 (A:=BookP p m ss) sR hT;clear hF hT;simp only[uA] at hA;have hB:At _ w (Part.row 22 1 vq (told.map (·.r)).length ((told.map (·.r)).flatMap Unt.seL)::_) _:=hA;rw[List.length_map] at hB;clear hA;have hA:=hB;clear hB;obtain⟨qx,qcap,rfl,hqx,hqcap,_⟩:=hA.row_form (v:=vq) (n:=told.length) (xs:=(told.map (·.r)).flatMap Unt.seL) sR;obtain⟨hA,hF⟩:=fZ hA;go_wp2_with fail;(try go_frame);go_loopg [57] told.length (PvRel w p m b g bI bK ss c [.bool op,.bool dead,.int .i64 (dl:Int),.int .i64 (ttl:Int),.int .i64 (told.length:Int)] [.int .u64 (num:Int),.string foot] u00 l00 l7 told (.slice qx told.length qcap))
    case atStart=>exact⟨0,u7,l7,rfl,by simp,by simp,by omega,hA.pick pZ⟩
    case round=>
     obtain⟨j,u20,l20,rfl,hjk,hje,hjl,hB⟩:=hrel;have hje':=Hd hje;clear hF hA hje;have hA:=hB;clear hB;by_cases hj:j < told.length
     · have hxm:=List.getElem_mem hj;have hxb:=hrs'.out.told.bd _ hxm;have hxa:=hrs'.out.told.an _ hxm;have htj:=Hd (List.take_succ_eq_append_getElem hj);obtain⟨gq,cq,rfl,qp1,qm,ql,qt,hB⟩:=hA.row_open (ax:=qx) (cap:=qcap) (n:=told.length) (xs:=(told.map (·.r)).flatMap Unt.seL) sR (by omega);have hx:(told.map (·.r))[j]? =some told[j].r:=by rw[List.getElem?_map,List.getElem?_eq_getElem hj];rfl
       have qt2:cq.take ((told.map (·.r)).length * 1)=(told.map (·.r)).flatMap Unt.seL:=by rw[List.length_map];exact qt
       have d0:cq[j * 1]? =some (.int .u64 told[j].r):=Zae (enc:=Unt.seL) (size:=1) (fun _=>rfl) qt2 hx 0 (by omega);rw[Nat.mul_one] at d0
       obtain⟨y,hy⟩:∃y,told[j]=y:=⟨_,rfl⟩
       rw[hy] at hxm hxb hxa htj d0;clear hA hx hy;have hA:=hB;clear hB;obtain⟨r,e,n,gg⟩:=y;unfold okA at hxa;simp only at hxb hxa d0;obtain⟨⟨xe0,xe1⟩,xn0,xn1⟩:=hxa;obtain⟨xr0,xr1⟩:=hxb
       obtain⟨r,rfl⟩:∃k:Nat,r=k:=⟨r.toNat,by omega⟩
       obtain⟨n,rfl⟩:∃k:Nat,n=k:=⟨n.toNat,by omega⟩
       have hr64:r < 18446744073709551616:=by unfold big64 at xr1;omega
       have hn64a:n < 18446744073709551616:=by unfold big64 at xn1;omega
       obtain⟨eN,heNe⟩:∃k:Nat,wrN e=k:=⟨_,rfl⟩
       have heN:eN < 18446744073709551616:=by rw[←heNe];unfold wrN;omega
       have hwe:IntKind.u64.wrap e=(eN:Int):=by rw[←heNe,IntKind.wrap_u64];unfold wrN;omega
       have heNe':=Hd heNe;have hjb:j * 29≤256 * 29:=Nat.mul_le_mul_right _ (by omega);have htold:=Zkx (n:=(num:Int)) (f:=foot) (hA.sep1 (A:=BookP p m ss) sR) n0 n1 hmx hrs'.out hxm;simp only at htold;clear heNe xe0 xe1 hxm;obtain⟨hA,hF⟩:=fZ hA;go_wp2_with fail;refine htold.mono ?_;clear htold;rintro e' w5 ⟨rfl,hT⟩;replace hA:=hA.call1 (A:=BookP p m ss) sR hT;clear hF hT;simp only[uA] at hA;obtain⟨hA,hF⟩:=fZ hA
       go_wp2_with (first|((with_reducible refine gal ?_);refine wGz 52 [.int .i64 0,.int .u64 0,.bool false] hA ?_;clear hF hA;intro bA w1 hA hbA hF)|((with_reducible refine gst ?_);refine wTz hA ?_;clear hF hA;intro w1 hA hF))
       (try go_frame);have hAd:=hA.drew;clear hF hA;have hA:=hAd;clear hAd;refine wp_region_held (S:=fun w'=>Zaa w' bA [.int .i64 e,.int .u64 (n:Int),.bool gg] 52) hm ?_;change wpAnyH _ _ _ _ _ 13 _ _ (World.drew _);generalize World.drew _=w2 at *
       have hS0:=(show Zaa _ bA [.int .i64 e,.int .u64 (n:Int),.bool gg] 52 from hA.get (A:=.cells bA [.int .i64 e,.int .u64 (n:Int),.bool gg] 52) sR)
       refine tZ 0 68 ((.pointer (some ⟨b,0,none⟩))) (r:=(fun w' hS=>by simp[execOp,go_sem,Act.eval,Act.put])) (s:=hS0) (h:= ?_);go_frame;refine tZ 1 69 ((.int .u64 (r:Int))) (r:=(fun w' hS=>by simp[execOp,go_sem,Act.eval,Act.put])) (s:=hS0) (h:= ?_);go_frame;refine tZ 3 71 ((.pointer (some ⟨bA,0,none⟩))) (r:=(fun w' hS=>by kernel_rfl)) (s:=hS0) (h:= ?_);go_frame;refine tZ 4 72 ((.int .i64 e)) (r:=(fun w' hS=>Zac (b:=bA) (j:=0) rfl (by exact rfl) hS (by kernel_rfl) rfl)) (s:=hS0) (h:= ?_);go_frame;refine tZ 5 73 ((.int .u64 (eN:Int))) (r:=(fun w' hS=>by simp[execOp,go_sem,Act.eval,Act.put,hwe])) (s:=hS0) (h:= ?_);go_frame;refine tZ 7 75 ((.pointer (some ⟨bA,1,none⟩))) (r:=(fun w' hS=>by kernel_rfl)) (s:=hS0) (h:= ?_);go_frame;refine tZ 8 76 ((.int .u64 (n:Int))) (r:=(fun w' hS=>Zac (b:=bA) (j:=1) rfl (by exact rfl) hS (by kernel_rfl) rfl)) (s:=hS0) (h:= ?_);go_frame;refine tZ 10 78 ((.pointer (some ⟨bA,2,none⟩))) (r:=(fun w' hS=>by kernel_rfl)) (s:=hS0) (h:= ?_);go_frame;refine tZ 11 79 ((.bool gg)) (r:=(fun w' hS=>Zac (b:=bA) (j:=2) rfl (by exact rfl) hS (by kernel_rfl) rfl)) (s:=hS0) (h:= ?_);go_frame;clear hS0;refine Zab (i:=2) (by kernel_rfl) ?_;refine Zas (i:=2) (d:=some 70) rfl rfl rfl (fn:=80) (args:= #[(.pointer (some ⟨b,0,none⟩)),.int .u64 (r:Int)]) (by simp[execOp,go_sem,Act.eval,Act.put]) ((Zbq (hA.sep2 (A:=outC b u20) (B:=rowY u20 l20) sR sR) r hr64 (by omega)).mono (fun e w' h=>ZaE.r h)) ?_;rintro xq zq ⟨rfl,u21,hT⟩;have hB:=hA.call2 (A:=outC b u20) (B:=rowY u20 l20) sR sR hT
       obtain⟨l21,he21⟩:∃z,l20++Zap r=z:=⟨_,rfl⟩
       have hl21:l21.length≤l20.length + 10:=by have:=Zar 9 r (by omega);rw[←he21,List.length_append];omega
       rw[he21] at hB;have he21':=Hd he21;clear hA hT he21;have hA:=hB;clear hB;simp only[uA] at hA;refine⟨(show Zaa _ bA [.int .i64 e,.int .u64 (n:Int),.bool gg] 52 from hA.get (A:=.cells bA [.int .i64 e,.int .u64 (n:Int),.bool gg] 52) sR),?_⟩;go_frame;refine Zab (i:=6) (by kernel_rfl) ?_;refine Zas (i:=6) (d:=some 74) rfl rfl rfl (fn:=80) (args:= #[(.pointer (some ⟨b,0,none⟩)),.int .u64 (eN:Int)]) (by simp[execOp,go_sem,Act.eval,Act.put]) ((Zbq (hA.sep2 (A:=outC b u21) (B:=rowY u21 l21) sR sR) eN heN (by omega)).mono (fun e w' h=>ZaE.r h)) ?_;rintro xq zq ⟨rfl,u22,hT⟩;have hB:=hA.call2 (A:=outC b u21) (B:=rowY u21 l21) sR sR hT
       obtain⟨l22,he22⟩:∃z,l21++Zap eN=z:=⟨_,rfl⟩
       have hl22:l22.length≤l21.length + 10:=by have:=Zar 9 eN (by omega);rw[←he22,List.length_append];omega
       rw[he22] at hB;have he22':=Hd he22;clear hA hT he22;have hA:=hB;clear hB;simp only[uA] at hA;refine⟨(show Zaa _ bA [.int .i64 e,.int .u64 (n:Int),.bool gg] 52 from hA.get (A:=.cells bA [.int .i64 e,.int .u64 (n:Int),.bool gg] 52) sR),?_⟩;go_frame;refine Zab (i:=9) (by kernel_rfl) ?_;refine Zas (i:=9) (d:=some 77) rfl rfl rfl (fn:=81) (args:= #[(.pointer (some ⟨b,0,none⟩)),.int .u64 (n:Int)]) (by simp[execOp,go_sem,Act.eval,Act.put]) ((Zdd (hA.sep2 (A:=outC b u22) (B:=rowY u22 l22) sR sR) n hn64a (by omega)).mono (fun e w' h=>ZaE.r h)) ?_;rintro xq zq ⟨rfl,u23,hT⟩;have hB:=hA.call2 (A:=outC b u22) (B:=rowY u22 l22) sR sR hT
       obtain⟨l23,he23⟩:∃z,l22++fixL n=z:=⟨_,rfl⟩
       have hl23:l23.length≤l22.length + 8:=by have:=(show(fixL n).length≤8 from by simp[fixL]);rw[←he23,List.length_append];omega
       rw[he23] at hB;have he23':=Hd he23;clear hA hT he23;have hA:=hB;clear hB;simp only[uA] at hA;refine⟨(show Zaa _ bA [.int .i64 e,.int .u64 (n:Int),.bool gg] 52 from hA.get (A:=.cells bA [.int .i64 e,.int .u64 (n:Int),.bool gg] 52) sR),?_⟩;go_frame;refine Zab (i:=12) (by kernel_rfl) ?_;refine Zas (i:=12) (d:=some 80) rfl rfl rfl (fn:=83) (args:= #[(.pointer (some ⟨b,0,none⟩)),.bool gg]) (by simp[execOp,go_sem,Act.eval,Act.put]) ((Zge (hA.sep2 (A:=outC b u23) (B:=rowY u23 l23) sR sR) gg (by omega)).mono (fun e w' h=>ZaE.r h)) ?_;rintro xq zq ⟨rfl,u24,hT⟩;have hB:=hA.call2 (A:=outC b u23) (B:=rowY u23 l23) sR sR hT
       obtain⟨l24,he24⟩:∃z,l23++[if gg then(1:Int) else 0]=z:=⟨_,rfl⟩
       have hl24:l24.length≤l23.length + 1:=by have:=(show([if gg then(1:Int) else 0]:List Int).length≤1 from Nat.le_refl _);rw[←he24,List.length_append];omega
       rw[he24] at hB;have he24':=Hd he24;clear hA hT he24;have hA:=hB;clear hB;simp only[uA] at hA;refine⟨(show Zaa _ bA [.int .i64 e,.int .u64 (n:Int),.bool gg] 52 from hA.get (A:=.cells bA [.int .i64 e,.int .u64 (n:Int),.bool gg] 52) sR),?_⟩;go_frame;refine wpAnyH_done (by kernel_rfl) ?_ _;(try go_frame);obtain⟨hA,hF⟩:=fZ hA;go_wp2_with fail;go_roundg (gk - 1);case measure=>omega
       case rel=>
        have hS:=hA.row_shut (e:=22) (size:=1) (n:=told.length) (cap:=qcap) (xs:=(told.map (·.r)).flatMap Unt.seL) (g:=gq) (c:=cq) sR ql qp1 qm qt;refine⟨j + 1,u24,l24,by simp,by omega,?_,by omega,hS.pick pZ⟩;rw[htj.out,←he24'.out,←he23'.out,←he22'.out,←he21'.out,hje'.out];simp only[List.flatMap_append,List.flatMap_cons,List.flatMap_nil,List.append_nil,encA,bB,heNe'.out,Int.toNat_natCast,List.append_assoc]
     have hjt:told.take j=told:=List.take_of_length_le (by omega);have hje2:=hje'.out;rw[hjt] at hje2;have hje3:=Hd hje2;clear hje2 hjt hje';obtain⟨hA,hF⟩:=fZ hA;go_wp2_with fail;go_roundg (L.length - (i + 1));case measure=>omega
     case rel=>
      have hS:=hA.row_shut (e:=39) (size:=2) (n:=L.length) (cap:=lcap) (xs:=(L.map keyR).flatMap seL) (g:=g) (c:=c) sR cl cp1 cm ct;refine⟨i + 1,u20,l20,by simp,by omega,?_,by omega,hS.pick pZ⟩;rw[hje3.out,htk.out,←he7'.out,←he6'.out,←he5'.out,←he4'.out,←he3'.out,←he2'.out,←he1'.out,hle'.out];simp only[List.flatMap_append,List.flatMap_cons,List.flatMap_nil,List.append_nil,encS,bB,Int.toNat_natCast,List.append_assoc]
  have hle2:=hle'.out;rw[List.take_of_length_le (by omega)] at hle2;obtain⟨hA,hF⟩:=fZ hA;go_wp2_with fail;first|go_ret|go_end0
  refine⟨rfl,u0,?_⟩;have hE:=hA.pick (K:=[BookP p m ss,outC b u0,rowY u0 l0]) pZ;rw[hle2,List.append_assoc] at hE;exact hE
end Lease
end
section
namespace Lock
open Go.RowKit
open Go.Maps (Keyed)
open Path (bl Zaf overB)
theorem old_cell {W w:World} (h:(Part.old W).holds w) {b off:Nat} {u:Value} (hc:W.cell? ⟨b,off,none⟩=some u):w.cell? ⟨b,off,none⟩=some u:=by
 have hb:b < W.heap.size:=by
  rcases Nat.lt_or_ge b W.heap.size with q|q
  · exact q
  simp[World.cell?,Array.getElem?_eq_none q] at hc
 have:=h b hb;rw[←hc];simp[World.cell?,this]
theorem below_old {w w':World} {L F:List Part} (h:At [Part.old w] w L w') (s:Sel (Part.old w) L F):Below w.heap.size w w':=by
 have ho:(Part.old w).holds w':=h.get s;exact⟨h.exc.os,h.exc.tape,h.exc.output,h.exc.size,fun b hb=>ho b hb⟩
def pAB:ByteArray:=⟨#[97,47,98]⟩
def pA:ByteArray:=⟨#[97]⟩
def pAC:ByteArray:=⟨#[97,47,99]⟩
def e1:Ent:=⟨pAB,1,pA,2,1,1⟩
def e2:Ent:=⟨pA,1,pA,2,1,2⟩
def e3:Ent:=⟨pAC,1,pA,1,1,3⟩
def s0:S3:=⟨0,[],[]⟩
def s1:S3:=⟨0,[e1],[(pAB,1)]⟩
def s2:S3:=⟨0,[e1,e2],[(pAB,1),(pA,1)]⟩
def s3:S3:=⟨0,[e1,e2,e3],[(pAB,1),(pA,1),(pAC,1)]⟩
def s4:S3:=⟨0,[e2,e3],[(pAB,1),(pA,1),(pAC,1)]⟩
theorem ex2:s1.may pA 1 pA 2=0∧s1.addE pA 1 pA 2=e2∧s1.add pA 1 pA 2=s2:=⟨by kernel_rfl,by kernel_rfl,by kernel_rfl⟩
end Lock
end
section
namespace Lock
open Go.RowKit
open Go.Maps (Keyed)
open Path (bl Zaf overB)
structure Pl where
 p:Nat
 m:Nat
 c:Nat
def Pl.at (a:Pl) (s:S3):Bk:=⟨a.p,a.m,a.c,s.first,s.es,s.cs⟩
abbrev bookS (a:Pl) (s:S3):Part:=BookP (a.at s)
section
variable {a:Pl} {s:S3} {k:Nat} {w:World} {p f:ByteArray} {n mode:Int}
def Zms (w:World) (a:Pl) (s:S3) (e:Ending) (w':World):Prop:=∃(v:Value) (l:List Ent),e=.returned v∧l.Perm s.es∧l.Pairwise ltE∧At [bookS a s] w [rowL v l,bookS a s] w'
end
end Lock
end
section
namespace Enc
open _root_.Go.Proofs.YtknoefbcmomalabGreatDoor.Wire
end Enc
end
section
namespace Lock
open _root_.Go.Proofs.YtknoefbcmomalabGreatDoor.Wire
open _root_.Go.Proofs.YtknoefbcmomalabGreatDoor.Enc
def encE (e:Ent):List Int:=textB e.path++fixL e.num.toNat++textB e.foot++[e.mode]++fixL e.n.toNat++Zap e.stamp.toNat
def encC (c:ByteArray × Int):List Int:=textB c.1++fixL c.2.toNat
def encB (es:List Ent) (cs:List (ByteArray × Int)):List Int:=Zap es.length++es.flatMap encE++Zap cs.length++cs.flatMap encC
structure okE (e:Ent):Prop where
 n0:0≤e.num
 n1:e.num < 18446744073709551616
 k0:0≤e.n
 k1:e.n < 18446744073709551616
 s0:0≤e.stamp
def okC (c:ByteArray × Int):Prop:=0≤c.2∧c.2 < 18446744073709551616
end Lock
end
section
namespace Lock
end Lock
end
section
namespace Lock
open _root_.Go.Proofs.YtknoefbcmomalabGreatDoor.Wire
open _root_.Go.Proofs.YtknoefbcmomalabGreatDoor.Enc
theorem Zbz (s:ByteArray) (h:s.size≤20000000000000):(textB s).length≤10 + s.size:=by
 have h1:=Zar 9 s.size (by omega);unfold textB;rw[List.length_append,Zej];omega
theorem Zgr {α:Type} {f:α→List Int} {P:α→Prop} {k:Nat} (hf:∀a,P a→(f a).length≤k):∀l:List α,(∀a ∈ l,P a)→(l.flatMap f).length≤l.length * k
 |[],_=>by simp
 |x::l,h=>by
  have q1:=hf x (h x (by simp));have q2:=Zgr hf l (fun a ha=>h a (by simp[ha]));rw[List.flatMap_cons,List.length_append,List.length_cons,Nat.add_mul];omega
structure okW (e:Ent):Prop where
 ok:okE e
 pb:e.path.size≤100
 fb:e.foot.size≤2000000
 sb:e.stamp≤4611686018427387904
 m:e.mode=1∨e.mode=2
structure okV (c:ByteArray × Int):Prop where
 ok:okC c
 pb:c.1.size≤100
theorem encE_len {e:Ent} (h:okW e):(encE e).length≤2100000:=by
 have q1:=Zbz e.path (by have:=h.pb;omega);have q2:=Zbz e.foot (by have:=h.fb;omega);have q3:(fixL e.num.toNat).length=8:=by simp[fixL]
 have q4:(fixL e.n.toNat).length=8:=by simp[fixL]
 have q5:=Zar 9 e.stamp.toNat (by have:=h.sb;omega);have q6:=h.pb;have q7:=h.fb;unfold encE;simp only[List.length_append,List.length_cons,List.length_nil];omega
theorem encC_len {c:ByteArray × Int} (h:okV c):(encC c).length≤200:=by
 have q1:=Zbz c.1 (by have:=h.pb;omega);have q3:(fixL c.2.toNat).length=8:=by simp[fixL]
 have q6:=h.pb;unfold encC;simp only[List.length_append];omega
theorem encB_len {es:List Ent} {cs:List (ByteArray × Int)} (h:∀e ∈ es,okW e) (k:∀c ∈ cs,okV c) (hl:es.length≤1000) (hm:cs.length≤1000):(encB es cs).length≤3000000000:=by
 have q1:=Zar 9 es.length (by omega);have q2:=Zgr (f:=encE) (P:=okW) (k:=2100000) (fun a ha=>encE_len ha) es h;have q3:=Zar 9 cs.length (by omega);have q4:=Zgr (f:=encC) (P:=okV) (k:=200) (fun a ha=>encC_len ha) cs k;unfold encB;simp only[List.length_append];omega
def Feet (s:S3):Prop:=∀e ∈ s.es,e.foot.size≤2000000
theorem Inv.okW {s:S3} {k:Nat} (h:Inv s k) (hf:Feet s) (hk:k≤1000):∀e ∈ s.es,okW e:=fun e he=>
 {ok:={n0:=h.num0 e he,n1:=h.num1 e he,k0:=h.n0 e he,k1:=by have:=h.n1 e he;unfold lastN at this;omega,s0:=by have:=h.stamp0 e he;omega}
  pb:=h.path e he,fb:=hf e he,sb:=by have:=h.stamp1 e he;omega,m:=h.mode e he}
theorem Inv.okV {s:S3} {k:Nat} (h:Inv s k):∀c ∈ s.cs,okV c:=fun c hc=>
 {ok:=⟨by have:=h.c0 c hc;have:=h.first0;omega,by have:=h.c1 c hc;unfold lastN at this;omega⟩,pb:=h.cpath c hc}
end Lock
end
end Go.Proofs.YtknoefbcmomalabGreatDoor
