import Derived.Test.YtbeckijoabapkaaGreatDoorP10
import Derived.Test.YtbeckijoabapkaaGreatDoorSortt
import Derived.Sort.OwnSorted
set_option linter.unusedSimpArgs false
set_option linter.unusedVariables false
set_option maxRecDepth 100000
set_option maxHeartbeats 16000000
namespace Go.Proofs.YtbeckijoabapkaaGreatDoor
section
namespace Tab
open Path (bl Zag overB ZaB)
open Lease (Ses Ans fresh)
open Lock (S3 Ent)
open Cmd (Cm Zar)
def pathK (c:Cm):Prop:=4≤c.kind∧c.kind≤7
theorem ZiN {c:Cm} (h:Zar c=true) (h0:c.kind≠0):Zag (bl c.foot)=true∧((pathK c∧Zag (bl c.path)=true∧Cmd.keyC c=some (c.path,c.num))∨(¬pathK c∧Cmd.keyC c=some (c.foot,c.num))):=by
 have h':=h;unfold Zar at h;unfold Cmd.keyC Cmd.footC;rw[h'];unfold Cmd.hasOf at h ⊢;unfold pathK;by_cases q1:c.kind=1
 · simp[q1,Cmd.Zcm] at h ⊢;exact h.1.1.1.2
 by_cases q2:c.kind=2
 · simp[q2,Cmd.Zcm] at h ⊢;exact h.1.1.2
 by_cases q3:c.kind=3
 · simp[q3,Cmd.Zcm] at h ⊢;exact h.1.1.2
 by_cases q4:c.kind=4
 · simp[q4,Cmd.Zcm] at h ⊢;exact⟨h.1.1.1.1.2,h.1.1.2⟩
 by_cases q5:c.kind=5
 · simp[q5,Cmd.Zcm] at h ⊢;exact⟨h.1.1.1.1.2,h.1.1.2⟩
 by_cases q6:c.kind=6
 · simp[q6,Cmd.Zcm] at h ⊢;exact⟨h.1.1.1.2,h.1.2⟩
 by_cases q7:c.kind=7
 · simp[q7,Cmd.Zcm] at h ⊢;exact⟨h.1.1.1.1.2,h.1.1.2⟩
 by_cases q8:c.kind=8
 · simp[q8,Cmd.Zcm] at h ⊢;exact h.1.2
 simp[h0,q1,q2,q3,q4,q5,q6,q7,q8] at h
def Za4 (a b:Cm):Bool:=match Cmd.keyC a,Cmd.keyC b with
 |some x,some y=>(x.2==y.2) || overB (bl x.1) (bl y.1)
 |_,_=>false
theorem ZfN (a b:Cm):Za4 a b=Za4 b a:=by
 unfold Za4;cases Cmd.keyC a<;>cases Cmd.keyC b<;>try rfl
 rename_i x y;simp only;rw[Path.Zkx];congr 1
 rw[Bool.eq_iff_iff,beq_iff_eq,beq_iff_eq];exact eq_comm
structure Live (c:Cm):Prop where
 right:Zar c=true
 kind:c.kind≠0
theorem Zbo {c:Cm} (h:¬Live c) (t:TS):Zap t c=(t,ans0):=by
 unfold Zap;rw[if_pos];by_cases h0:c.kind=0
 · exact .inr h0
 cases hr:Zar c with
 |false=>exact .inl rfl
 |true=>exact absurd ⟨hr,h0⟩ h
def keyF (c:Cm):ByteArray:=if 4≤c.kind∧c.kind≤7 then c.path else c.foot
theorem Live.key {c:Cm} (h:Live c):Cmd.keyC c=some (keyF c,c.num)∧Zag (bl (keyF c))=true:=by
 obtain⟨h1,h2⟩:=ZiN h.right h.kind;unfold keyF;rcases h2 with⟨q,q1,q2⟩|⟨q,q1⟩
 · rw[if_pos (show 4≤c.kind∧c.kind≤7 from q)];exact⟨q2,q1⟩
 rw[if_neg (show ¬(4≤c.kind∧c.kind≤7) from q)];exact⟨q1,h1⟩
theorem Live.apart {a b:Cm} (ha:Live a) (hb:Live b) (hc:Za4 a b=false):a.num≠b.num∧overB (bl (keyF a)) (bl (keyF b))=false:=by
 unfold Za4 at hc;rw[ha.key.1,hb.key.1] at hc;simp only[Bool.or_eq_false_iff,beq_eq_false_iff_ne] at hc;exact hc
theorem Zbs {c:Cm} (h:pathK c):keyF c=c.path:=if_pos h
theorem Zdq {c:Cm} (h:¬pathK c):keyF c=c.foot:=if_neg h
structure Loc (c:Cm) (t t':TS):Prop where
 look:lookA t.S c.num c.foot=lookA t'.S c.num c.foot
 cnt:c.kind=1→Lease.cnt t.S c.foot=Lease.cnt t'.S c.foot
 lock:pathK c→LocL t.L t'.L c.path c.num c.foot
theorem LocL.refl (l:S3) (p:ByteArray) (n:Int) (f:ByteArray):LocL l l p n f:=⟨rfl,.refl _,.refl _,rfl⟩
theorem Loc.refl (c:Cm) (t:TS):Loc c t t:=⟨rfl,fun _=>rfl,fun _=>LocL.refl _ _ _ _⟩
def LE.of (c:Cm):LE→Prop
 |.nop=>True
 |.add e=>pathK c∧e.path=c.path∧e.num=c.num∧e.foot=c.foot∧ZaB (bl c.foot) (bl c.path)=true
 |.rem p n f=>pathK c∧p=c.path∧n=c.num∧f=c.foot
 |.drop n f=>¬pathK c∧n=c.num∧f=c.foot
def GOk (c:Cm) (g:Option (Ses→Ses)):Prop:=∀g',g=some g'→KeyG g'∧(pathK c→∀s,(g' s).op=s.op)
def runE (t:TS) (c:Cm) (g:Option (Ses→Ses)) (e:LE):TS:=⟨updO g c.num c.foot t.S,e.run t.L⟩
theorem ZgZ {g:Option (Ses→Ses)} {n:Int} {f:ByteArray} (hg:∀g',g=some g'→KeyG g') (S:List Ses):lookA (updO g n f S) n f=(g.getD id) (lookA S n f):=by
 cases g with
 |none=>rfl
 |some g=>exact ZiH (hg g rfl) S
theorem Zl2 {c:Cm} {a:Ans} {g:Option (Ses→Ses)} (hg:GOk c g) (s:Ses):∃g2,GOk c g2∧∀(S:List Ses) (L:S3),lookA S c.num c.foot=s→tellT ⟨updO g c.num c.foot S,L⟩ c a=⟨updO g2 c.num c.foot S,L⟩:=by
 by_cases hq:Lease.tellE ((g.getD id) s) c.req=0
 · refine⟨some (fun s=>((g.getD id) s).tell c.req a),?_,fun S L hs=> ?_⟩
   · intro g' e;cases e
     cases g with
     |none=>exact⟨fun s=>rfl,fun _ s=>rfl⟩
     |some g=>exact⟨fun s=>(hg g rfl).1 s,fun h s=>(hg g rfl).2 h s⟩
   unfold tellT opT;simp only;rw[ZgZ (fun g' e=>(hg g' e).1),hs,if_pos hq]
   cases g with
   |none=>rfl
   |some g=>
    show TS.mk (updA _ _ _ (updA g _ _ S)) L=_;rw[ZjU (hg g rfl).1];rfl
 refine⟨g,hg,fun S L hs=> ?_⟩
 unfold tellT opT;simp only;rw[ZgZ (fun g' e=>(hg g' e).1),hs,if_neg hq]
theorem ZkD (t:TS) (c:Cm) (g:Ses→Ses) (e:Int):opT t c g e=runE t c (if e=0 then some g else none) .nop:=by
 unfold opT;split<;>rfl
theorem ZiZ (t:TS) (c:Cm) (e:Int):endT t c e=runE t c (if e=0 then some Ses.ended else none) (if e=0 then .drop c.num c.foot else .nop):=by
 unfold endT;split<;>rfl
theorem ZbL (c:Cm):GOk c none:=nofun
theorem ZiV {c:Cm} {g:Ses→Ses} (e:Int) (h1:KeyG g) (h2:pathK c→∀s,(g s).op=s.op):GOk c (if e=0 then some g else none):=by
 intro g' q;split at q
 · cases q;exact⟨h1,h2⟩
 cases q
theorem do_eff {t:TS} {k:Nat} {c:Cm} (hi:Lock.Inv t.L k) (hc:Live c) (h8:c.kind≠8):∃(g:Option (Ses→Ses)) (e:LE) (a:Ans),GOk c g∧e.of c∧∀(t':TS) (k':Nat),Lock.Inv t'.L k'→Loc c t t'→doT t' c=(runE t' c g e,a):=by
 unfold doT;by_cases q1:c.kind=1
 · refine⟨if Lease.openE (lookA t.S c.num c.foot) (Lease.cnt t.S c.foot)=0 then some (fun s=>s.opened c.n c.time) else none,.nop,ansE (Lease.openE (lookA t.S c.num c.foot) (Lease.cnt t.S c.foot)),ZiV (Lease.openE (lookA t.S c.num c.foot) (Lease.cnt t.S c.foot)) (g:=fun s=>s.opened c.n c.time) (fun s=>rfl) (fun h=>by unfold pathK at h;omega),trivial,fun t' k' _ hl=> ?_⟩
   rw[if_pos q1,←hl.look,←hl.cnt q1,ZkD]
 by_cases q2:c.kind=2
 · refine⟨if(if(lookA t.S c.num c.foot).op then(0:Int) else 50)=0 then some Ses.ended else none,(if(if(lookA t.S c.num c.foot).op then(0:Int) else 50)=0 then .drop c.num c.foot else .nop),ansE (if(lookA t.S c.num c.foot).op then 0 else 50),ZiV (if(lookA t.S c.num c.foot).op then 0 else 50) (g:=Ses.ended) (fun s=>rfl) (fun h=>by unfold pathK at h;omega),?_,fun t' k' _ hl=> ?_⟩
   · split
     · exact⟨by unfold pathK;omega,rfl,rfl⟩
     trivial
   rw[if_neg q1,if_pos q2,←hl.look,ZiZ]
 by_cases q3:c.kind=3
 · refine⟨if(if(lookA t.S c.num c.foot).op then(0:Int) else 50)=0 then some (fun s=>s.kept c.time) else none,.nop,ansE (if(lookA t.S c.num c.foot).op then 0 else 50),ZiV (if(lookA t.S c.num c.foot).op then 0 else 50) (g:=fun s=>s.kept c.time) (fun s=>rfl) (fun h=>by unfold pathK at h;omega),trivial,fun t' k' _ hl=> ?_⟩
   rw[if_neg q1,if_neg q2,if_pos q3,←hl.look,ZkD]
 have hk:pathK c:=by
  obtain⟨_,h2⟩:=ZiN hc.right hc.kind;rcases h2 with⟨q,_⟩|⟨q,_⟩
  · exact q
  exfalso
  have:=hc.right;unfold Zar Cmd.hasOf at this;unfold pathK at q;have h0:=hc.kind;rw[if_neg h0,if_neg q1,if_neg q2,if_neg q3,if_neg (by omega),if_neg (by omega),if_neg (by omega),if_neg (by omega),if_neg h8] at this;cases this
 have hp:Zag (bl c.path)=true:=by
  have:=hc.key.2
  rwa [Zbs hk] at this
 have hmay:∀{t':TS},Loc c t t'→mayT t' c=mayT t c:=fun hl=>by unfold mayT;rw[hl.look]
 by_cases hm:mayT t c=0
 case neg=>
  refine⟨none,.nop,ansE (mayT t c),ZbL c,trivial,fun t' k' _ hl=> ?_⟩;rw[if_neg q1,if_neg q2,if_neg q3];unfold ZbD;rw[hmay hl,if_pos hm]
  rfl
 have hab:ZaB (bl c.foot) (bl c.path)=true:=by
  unfold mayT at hm;split at hm
  · omega
  split at hm
  · omega
  rename_i h;simpa using h
 have hadd:∃(e:LE) (a:Ans),e.of c∧∀(t':TS),Loc c t t'→addT t' c=(runE t' c none e,a):=by
  by_cases hy:t.L.may c.path c.num c.foot c.mode=0
  · refine⟨.add (t.L.newE c.path c.num c.foot c.mode),⟨0,(t.L.newE c.path c.num c.foot c.mode).n,Lock.Za3 t.L.es c.path c.mode⟩,⟨hk,rfl,rfl,rfl,hab⟩,fun t' hl=> ?_⟩
    have h1:=hl.lock hk;unfold addT S3.add;rw[←h1.may,if_pos hy,if_pos hy,←h1.newE,←h1.could];unfold S3.added runE LE.run;rw[←h1.newE,←h1.ctr];rfl
  refine⟨.nop,ansE (t.L.may c.path c.num c.foot c.mode),trivial,fun t' hl=> ?_⟩
  have h1:=hl.lock hk;unfold addT S3.add;rw[←h1.may,if_neg hy,if_neg hy];rfl
 obtain⟨ea,aa,hea,hadd⟩:=hadd;by_cases q4:c.kind=4
 · refine⟨none,ea,aa,ZbL c,hea,fun t' k' _ hl=> ?_⟩
   rw[if_neg q1,if_neg q2,if_neg q3];unfold ZbD;rw[hmay hl,hm,if_neg (by simp),if_pos q4,hadd t' hl]
 by_cases q5:c.kind=5
 · by_cases hcd:Lock.Za3 t.L.es c.path c.mode=true
   · refine⟨none,ea,aa,ZbL c,hea,fun t' k' _ hl=> ?_⟩
     rw[if_neg q1,if_neg q2,if_neg q3];unfold ZbD tryT;rw[hmay hl,hm,if_neg (by simp),if_neg q4,if_pos q5,←(hl.lock hk).could,if_pos hcd,hadd t' hl]
   refine⟨none,.nop,if t.L.may c.path c.num c.foot c.mode=0 then ansE 51 else ansE (t.L.may c.path c.num c.foot c.mode),ZbL c,trivial,fun t' k' _ hl=> ?_⟩
   rw[if_neg q1,if_neg q2,if_neg q3];unfold ZbD tryT;rw[hmay hl,hm,if_neg (by simp),if_neg q4,if_pos q5,←(hl.lock hk).could,if_neg hcd,←(hl.lock hk).may];show _=(t',if t.L.may c.path c.num c.foot c.mode=0 then ansE 51 else ansE (t.L.may c.path c.num c.foot c.mode));split<;>rfl
 by_cases q6:c.kind=6
 · refine⟨none,.rem c.path c.num c.foot,ansE (if(Lock.find t.L.es c.path c.num c.foot).isSome then 0 else 52),ZbL c,⟨hk,rfl,rfl,rfl⟩,fun t' k' _ hl=> ?_⟩
   rw[if_neg q1,if_neg q2,if_neg q3];unfold ZbD;rw[hmay hl,hm,if_neg (by simp),if_neg q4,if_neg q5,if_pos q6,←(hl.lock hk).find];rfl
 refine⟨none,.nop,ansE (if Zbu t.L.es c.path c.n then 0 else 52),ZbL c,trivial,fun t' k' hi' hl=> ?_⟩
 rw[if_neg q1,if_neg q2,if_neg q3];unfold ZbD;rw[hmay hl,hm,if_neg (by simp),if_neg q4,if_neg q5,if_neg q6,←(hl.lock hk).check hp];rfl
theorem eff {t:TS} {k:Nat} {c:Cm} (hi:Lock.Inv t.L k) (hc:Live c):∃(g:Option (Ses→Ses)) (e:LE) (a:Ans),GOk c g∧e.of c∧∀(t':TS) (k':Nat),Lock.Inv t'.L k'→Loc c t t'→Zap t' c=(runE t' c g e,a):=by
 have h1:¬(Zar c=false∨c.kind=0):=by
  rw[hc.right];exact fun h=>h.elim (fun q=>by cases q) hc.kind
 unfold Zap;by_cases q8:c.kind=8
 · refine⟨if Lease.expB (lookA t.S c.num c.foot) c.time=0 then some Ses.ended else none,(if Lease.expB (lookA t.S c.num c.foot) c.time=0 then .drop c.num c.foot else .nop),ansE (Lease.expB (lookA t.S c.num c.foot) c.time),ZiV (Lease.expB (lookA t.S c.num c.foot) c.time) (g:=Ses.ended) (fun s=>rfl) (fun h=>by unfold pathK at h;omega),?_,fun t' k' _ hl=> ?_⟩
   · split
     · exact⟨by unfold pathK;omega,rfl,rfl⟩
     trivial
   rw[if_neg h1,if_pos q8,←hl.look,ZiZ]
 cases hs:Lease.said (lookA t.S c.num c.foot).told c.req with
 |some a=>
  refine⟨none,.nop,a,ZbL c,trivial,fun t' k' _ hl=> ?_⟩;rw[if_neg h1,if_neg q8,←hl.look,hs]
  rfl
 |none=>
  by_cases hf:256≤(lookA t.S c.num c.foot).told.length
  · refine⟨none,.nop,ansE 14,ZbL c,trivial,fun t' k' _ hl=> ?_⟩
    rw[if_neg h1,if_neg q8,←hl.look,hs];simp only;rw[if_pos hf];rfl
  obtain⟨g,e,a,hg,he,hd⟩:=do_eff hi hc q8;obtain⟨g2,hg2,ht⟩:=Zl2 (a:=a) hg (lookA t.S c.num c.foot);refine⟨g2,e,a,hg2,he,fun t' k' hi' hl=> ?_⟩;rw[if_neg h1,if_neg q8,←hl.look,hs];simp only;rw[if_neg hf,hd t' k' hi' hl];show(tellT ⟨updO g c.num c.foot t'.S,e.run t'.L⟩ c a,a)=_;rw[ht t'.S _ hl.look.symm];rfl
def Ab (t:TS):Prop:=∀e ∈ t.L.es,ZaB (bl e.foot) (bl e.path)=true
theorem Zb8 {es:List Ent} {p q:Ent→Bool} (h:∀x ∈ es,p x=true→q x=true):(es.filter q).filter p=es.filter p:=by
 rw[List.filter_filter]
 exact List.filter_congr fun x hx=>by
  cases hp:p x with
  |false=>rfl
  |true=>rw[h x hx hp];rfl
theorem Zg1 {t:TS} {a b:Cm} (ha:Live a) (hb:Live b) (hc:Za4 a b=false) (hab:Ab t) {g:Option (Ses→Ses)} {e:LE} (hg:GOk a g) (he:e.of a):Loc b t (runE t a g e):=by
 obtain⟨hn,ho⟩:=ha.apart hb hc;refine⟨?_,fun h1=> ?_,fun hk=> ?_⟩
 · cases g with
   |none=>rfl
   |some g=>exact(Zfp (hg g rfl).1 (fun q=>hn q.1.symm) t.S).symm
 · have hb':¬pathK b:=by unfold pathK;omega
   cases g with
   |none=>rfl
   |some g=>
    refine(Zhu (hg g rfl).1 ?_ t.S).symm;by_cases hk:pathK a
    · exact .inr ((hg g rfl).2 hk)
    refine .inl fun e=> ?_;rw[Zdq hk,Zdq hb',e] at ho;have:=hb.key.2;rw[Zdq hb'] at this;rw[Path.Zdl this] at ho;cases ho
 rw[Zbs hk] at ho;have hrp:=hb.key.2;rw[Zbs hk] at hrp
 cases e with
 |nop=>exact LocL.refl _ _ _ _
 |add e=>
  obtain⟨k1,k2,k3,k4,k5⟩:=he;rw[Zbs k1] at ho
  have hne:¬e.path=b.path:=fun q=>by
   rw[←k2,q,Path.Zdl hrp] at ho;cases ho
  have h1:e.of b.num b.foot=false:=by unfold Lock.Ent.of;rw[k3];exact decide_eq_false fun q=>hn q.1
  have h2:ovP b.path e=false:=by unfold ovP;rw[k2];exact ho
  refine⟨rfl,?_,?_,?_⟩
  · simp[runE,LE.run,List.filter_append,List.filter_cons,h1]
  · simp[runE,LE.run,List.filter_append,List.filter_cons,h2]
  simp only[runE,LE.run];unfold Lock.Zat;rw[Lock.Zlt,if_neg hne]
 |rem p n f=>
  obtain⟨k1,k2,k3,k4⟩:=he;rw[Zbs k1] at ho;refine⟨rfl,?_,?_,rfl⟩
  · rw[show(runE t a g (.rem p n f)).L.es=t.L.es.filter (fun x=> !x.is p n f) from rfl,Zb8];intro x _ hx;simp only[Lock.Ent.of,decide_eq_true_eq] at hx;simp only[Lock.Ent.is,Bool.not_eq_true',decide_eq_false_iff_not];exact fun q=>hn (by rw[←k3,←q.2.1,hx.1])
  rw[show(runE t a g (.rem p n f)).L.es=t.L.es.filter (fun x=> !x.is p n f) from rfl,Zb8];intro x _ hx;unfold ovP at hx;simp only[Lock.Ent.is,Bool.not_eq_true',decide_eq_false_iff_not];intro q;rw[q.1,k2,ho] at hx;cases hx
 |drop n f=>
  obtain⟨k1,k2,k3⟩:=he;rw[Zdq k1] at ho;refine⟨rfl,?_,?_,rfl⟩
  · rw[show(runE t a g (.drop n f)).L.es=t.L.es.filter (fun x=> !x.of n f) from rfl,Zb8];intro x _ hx;simp only[Lock.Ent.of,decide_eq_true_eq] at hx;simp only[Lock.Ent.of,Bool.not_eq_true',decide_eq_false_iff_not];exact fun q=>hn (by rw[←k2,←q.1,hx.1])
  rw[show(runE t a g (.drop n f)).L.es=t.L.es.filter (fun x=> !x.of n f) from rfl,Zb8];intro x hm hx;unfold ovP at hx;simp only[Lock.Ent.of,Bool.not_eq_true',decide_eq_false_iff_not];intro q;have h1:=ZjO (hab x hm) hx;rw[q.2,k3,ho] at h1;cases h1
theorem ZbN {es:List Ent} (p q:Ent→Bool):(es.filter p).filter q=(es.filter q).filter p:=by
 rw[List.filter_filter,List.filter_filter];exact List.filter_congr fun x _=>Bool.and_comm _ _
theorem Zoo {l:S3} {a b:Cm} (ha:Live a) (hb:Live b) (hc:Za4 a b=false) {e e2:LE} (he:e.of a) (hf:e2.of b):LEq (e2.run (e.run l)) (e.run (e2.run l)):=by
 obtain⟨hn,ho⟩:=ha.apart hb hc
 cases e with
 |nop=>exact LEq.refl _
 |add x=>
  obtain⟨k1,k2,k3,k4,k5⟩:=he
  cases e2 with
  |nop=>exact LEq.refl _
  |add y=>
   obtain⟨j1,j2,j3,j4,j5⟩:=hf
   have hne:x.path≠y.path:=fun q=>by
    rw[Zbs k1,Zbs j1,←k2,←j2,q] at ho;have:=hb.key.2;rw[Zbs j1,←j2] at this;rw[Path.Zdl this] at ho;cases ho
   refine⟨rfl,?_,put_comm hne _⟩;simp only[LE.run,List.append_assoc];exact List.Perm.append_left _ (.swap _ _ _)
  |rem p n f=>
   obtain⟨j1,j2,j3,j4⟩:=hf;have h1:x.is p n f=false:=by unfold Lock.Ent.is;exact decide_eq_false fun q=>hn (by rw[←k3,q.2.1,j3])
   refine⟨rfl,?_,.refl _⟩;simp[LE.run,S3.remove,List.filter_append,List.filter_cons,h1]
  |drop n f=>
   obtain⟨j1,j2,j3⟩:=hf;have h1:x.of n f=false:=by unfold Lock.Ent.of;exact decide_eq_false fun q=>hn (by rw[←k3,q.1,j2])
   refine⟨rfl,?_,.refl _⟩;simp[LE.run,S3.dropAll,List.filter_append,List.filter_cons,h1]
 |rem p n f=>
  obtain⟨k1,k2,k3,k4⟩:=he
  cases e2 with
  |nop=>exact LEq.refl _
  |add y=>
   obtain⟨j1,j2,j3,j4,j5⟩:=hf;have h1:y.is p n f=false:=by unfold Lock.Ent.is;exact decide_eq_false fun q=>hn (by rw[←k3,←q.2.1,j3])
   refine⟨rfl,?_,.refl _⟩;simp[LE.run,S3.remove,List.filter_append,List.filter_cons,h1]
  |rem p' n' f'=>exact⟨rfl,by simp only[LE.run,S3.remove];rw[ZbN],.refl _⟩
  |drop n' f'=>exact⟨rfl,by simp only[LE.run,S3.remove,S3.dropAll];rw[ZbN],.refl _⟩
 |drop n f=>
  obtain⟨k1,k2,k3⟩:=he
  cases e2 with
  |nop=>exact LEq.refl _
  |add y=>
   obtain⟨j1,j2,j3,j4,j5⟩:=hf;have h1:y.of n f=false:=by unfold Lock.Ent.of;exact decide_eq_false fun q=>hn (by rw[←k2,←q.1,j3])
   refine⟨rfl,?_,.refl _⟩;simp[LE.run,S3.dropAll,List.filter_append,List.filter_cons,h1]
  |rem p' n' f'=>exact⟨rfl,by simp only[LE.run,S3.remove,S3.dropAll];rw[ZbN],.refl _⟩
  |drop n' f'=>exact⟨rfl,by simp only[LE.run,S3.dropAll];rw[ZbN],.refl _⟩
structure TEq (t t':TS):Prop where
 S:t.S.Perm t'.S
 L:LEq t.L t'.L
theorem TEq.refl (t:TS):TEq t t:=⟨.refl _,LEq.refl _⟩
theorem TEq.symm {t t':TS} (h:TEq t t'):TEq t' t:=⟨h.S.symm,h.L.symm⟩
theorem TEq.trans {t t' t'':TS} (h:TEq t t') (k:TEq t' t''):TEq t t'':=⟨h.S.trans k.S,h.L.trans k.L⟩
structure Good (t:TS) (k:Nat):Prop where
 inv:TInv t k
 ab:Ab t
theorem Good.apply {t:TS} {k:Nat} {c:Cm} (h:Good t k) (hc:CmOk c):Good (Zap t c).1 (k + 1):=by
 refine⟨Zhx h.inv hc,?_⟩
 by_cases hl:Live c
 · obtain⟨g,e,a,_,he,hr⟩:=eff h.inv.lock hl;rw[hr t k h.inv.lock (Loc.refl c t)];intro x hx
   cases e with
   |nop=>exact h.ab x hx
   |add e=>
    obtain⟨k1,k2,k3,k4,k5⟩:=he;rcases List.mem_append.1 hx with hx|hx
    · exact h.ab x hx
    rw[List.mem_singleton.1 hx,k2,k4];exact k5
   |rem p n f=>exact h.ab x (List.mem_filter.1 hx).1
   |drop n f=>exact h.ab x (List.mem_filter.1 hx).1
 rw[Zbo hl];exact h.ab
theorem TEq.apply {t t':TS} {k k':Nat} {c:Cm} (h:TEq t t') (hg:Good t k) (hg':Good t' k'):(Zap t c).2=(Zap t' c).2∧TEq (Zap t c).1 (Zap t' c).1:=by
 by_cases hl:Live c
 · obtain⟨g,e,a,h1,he,hr⟩:=eff hg.inv.lock hl
   have hloc:Loc c t t':=⟨Zg0 h.S hg.inv.s.keys _ _,fun _=>cnt_perm h.S _,fun _=>h.L.loc hg.inv.lock.ckeys _ _ _⟩
   rw[hr t k hg.inv.lock (Loc.refl c t),hr t' k' hg'.inv.lock hloc];refine⟨rfl,?_,h.L.run hg.inv.lock.ckeys e⟩
   cases g with
   |none=>exact h.S
   |some g=>exact ZlW h.S hg.inv.s.keys g _ _
 rw[Zbo hl,Zbo hl];exact⟨rfl,h⟩
theorem Zi4 {t:TS} {k:Nat} {a b:Cm} (h:Good t k) (ha:CmOk a) (hb:CmOk b) (hc:Za4 a b=false):
 (Zap (Zap t a).1 b).2=(Zap t b).2∧(Zap (Zap t b).1 a).2=(Zap t a).2∧TEq (Zap (Zap t a).1 b).1 (Zap (Zap t b).1 a).1:=by
 by_cases la:Live a
 case neg=>rw[Zbo la,Zbo la];exact⟨rfl,rfl,TEq.refl _⟩
 by_cases lb:Live b
 case neg=>rw[Zbo lb,Zbo lb];exact⟨rfl,rfl,TEq.refl _⟩
 obtain⟨g,e,x,hg,he,hr⟩:=eff h.inv.lock la;obtain⟨g',e',y,hg',he',hr'⟩:=eff h.inv.lock lb;have q1:=hr t k h.inv.lock (Loc.refl a t);have q2:=hr' t k h.inv.lock (Loc.refl b t);have i1:=(h.apply ha).inv.lock;have i2:=(h.apply hb).inv.lock;rw[q1] at i1;rw[q2] at i2;rw[q1,q2];simp only;rw[hr' _ _ i1 (Zg1 la lb hc h.ab hg he),hr _ _ i2 (Zg1 lb la (by rw[ZfN];exact hc) h.ab hg' he')];refine⟨rfl,rfl,?_,Zoo la lb hc he he'⟩;have hn:=(la.apart lb hc).1
 cases g with
 |none=>exact .refl _
 |some g=>
  cases g' with
  |none=>exact .refl _
  |some g'=>exact Ziq (hg' g' rfl).1 (hg g rfl).1 (fun q=>hn q.1.symm) t.S
theorem Good.play {l:List Cm} (hl:∀c ∈ l,CmOk c):∀{t:TS} {k:Nat},Good t k→Good (playT t l) (k + l.length):=by
 induction l with
 |nil=>exact fun h=>h
 |cons c l ih=>
  intro t k h;have h1:=ih (fun x hx=>hl x (by simp[hx])) (h.apply (hl c (by simp)));have e:k + 1 + l.length=k + (c::l).length:=by simp only[List.length_cons];omega
  rw[←e];exact h1
theorem TEq.play {l:List Cm} (hl:∀c ∈ l,CmOk c):∀{t t':TS} {k k':Nat},TEq t t'→Good t k→Good t' k'→toldT t l=toldT t' l∧TEq (playT t l) (playT t' l):=by
 induction l with
 |nil=>exact fun h _ _=>⟨rfl,h⟩
 |cons c l ih=>
  intro t t' k k' h hg hg';obtain⟨h1,h2⟩:=h.apply (c:=c) hg hg';obtain⟨h3,h4⟩:=ih (fun x hx=>hl x (by simp[hx])) h2 (hg.apply (hl c (by simp))) (hg'.apply (hl c (by simp)));exact⟨by unfold toldT;rw[h1,h3],h4⟩
theorem past {c:Cm} (hc:CmOk c):∀{us:List Cm} (hu:∀u ∈ us,CmOk u∧Za4 u c=false) {t:TS} {k:Nat},Good t k→
 (Zap (playT t us) c).2=(Zap t c).2∧TEq (Zap (playT t us) c).1 (playT (Zap t c).1 us)
 |[],_,t,k,h=>⟨rfl,TEq.refl _⟩
 |u::us,hu,t,k,h=>by
  obtain⟨o1,o2⟩:=hu u (by simp);obtain⟨h1,h2⟩:=past hc (us:=us) (fun x hx=>hu x (by simp[hx])) (h.apply o1);obtain⟨c1,_,c3⟩:=Zi4 h o1 hc o2;refine⟨h1.trans c1,h2.trans ?_⟩;exact(TEq.play (l:=us) (fun x hx=>(hu x (by simp[hx])).1) c3 ((h.apply o1).apply hc) ((h.apply hc).apply o1)).2
end Tab
end
section
namespace Tab
open Lease (Ans)
open Cmd (Cm)
theorem ZgQ (t:TS) (l m:List Cm):playT t (l++m)=playT (playT t l) m:=by unfold playT;rw[List.foldl_append]
theorem Zgy:∀(l m:List Cm) (t:TS),toldT t (l++m)=toldT t l++toldT (playT t l) m
 |[],_,_=>rfl
 |c::l,m,t=>by
  show _::toldT _ (l++m)=_;rw[Zgy l m];rfl
theorem Zdb:∀(l:List Cm) (t:TS),(toldT t l).length=l.length
 |[],_=>rfl
 |c::l,t=>by simp[toldT,Zdb l]
theorem ZgR {c:Cm} (hc:CmOk c):∀{us:List Cm} (hu:∀u ∈ us,CmOk u∧Za4 u c=false) {t:TS} {k:Nat},Good t k→toldT (Zap t c).1 us=toldT t us
 |[],_,_,_,_=>rfl
 |u::us,hu,t,k,h=>by
  obtain⟨o1,o2⟩:=hu u (by simp);have ih:=ZgR hc (us:=us) (fun x hx=>hu x (by simp[hx])) (h.apply o1);obtain⟨_,c2,c3⟩:=Zi4 h o1 hc o2;have h2:=(TEq.play (l:=us) (fun x hx=>(hu x (by simp[hx])).1) c3 ((h.apply o1).apply hc) ((h.apply hc).apply o1)).1;show(Zap (Zap t c).1 u).2::toldT (Zap (Zap t c).1 u).1 us=(Zap t u).2::toldT (Zap t u).1 us;rw[c2,←h2,ih]
section
variable {α:Type} (cmd:α→Cm)
def ansZ (t:TS) (X:List α):List (α × Ans):=X.zip (toldT t (X.map cmd))
theorem ZcD (t:TS) (X Y:List α):ansZ cmd t (X++Y)=ansZ cmd t X++ansZ cmd (playT t (X.map cmd)) Y:=by
 unfold ansZ;rw[List.map_append,Zgy,List.zip_append (by rw[Zdb,List.length_map])]
theorem Zhz (t:TS) (a:α) (X:List α):ansZ cmd t (a::X)=(a,(Zap t (cmd a)).2)::ansZ cmd (Zap t (cmd a)).1 X:=rfl
variable {cmd}
theorem Zf4:∀{X Y:List α} {t:TS} {k:Nat},Good t k→(∀a ∈ Y,CmOk (cmd a))→X.Nodup→Y.Nodup→(∀a ∈ X,a ∈ Y)→
 (∀a ∈ X,∀b,[b,a].Sublist Y→Za4 (cmd b) (cmd a)=true→[b,a].Sublist X)→∀p ∈ ansZ cmd t X,p ∈ ansZ cmd t Y
 |[],_,_,_,_,_,_,_,_,_=>nofun
 |c::X,Y,t,k,hg,hok,hX,hY,hsub,hord=>by
  obtain⟨U,V,rfl⟩:=List.append_of_mem (hsub c (by simp));have hcX:=(List.nodup_cons.1 hX).1;have hX':=(List.nodup_cons.1 hX).2;have hY2:=List.nodup_append.1 hY;have hcU:c ∉ U:=fun h=>hY2.2.2 c h c (by simp) rfl;have hcV:c ∉ V:=(List.nodup_cons.1 hY2.2.1).1;have hc:=hok c (by simp)
  have hu:∀u ∈ U.map cmd,CmOk u∧Za4 u (cmd c)=false:=by
   intro u hu;obtain⟨b,hb,rfl⟩:=List.mem_map.1 hu;refine⟨hok b (by simp[hb]),?_⟩;cases q:Za4 (cmd b) (cmd c)
   · rfl
   exfalso
   have h1:[b,c].Sublist (U++c::V):=(List.singleton_sublist.2 hb).append ((List.Sublist.refl [c]).trans (by simp));have h2:=hord c (by simp) b h1 q;rcases List.sublist_cons_iff.1 h2 with h3|⟨r,h3,h4⟩
   · exact hcX (h3.subset (by simp))
   cases h3;exact hcX (h4.subset (by simp))
  have hgU:=hg.play (l:=U.map cmd) (fun x hx=>(hu x hx).1);have hok':∀a ∈ U++V,CmOk (cmd a):=fun a ha=>hok a (by rcases List.mem_append.1 ha with q|q<;>simp[q]);obtain⟨p1,p2⟩:=past hc hu hg;have hV:=(TEq.play (l:=V.map cmd) (fun x hx=>by obtain⟨b,hb,rfl⟩:=List.mem_map.1 hx;exact hok b (by simp[hb])) p2 (hgU.apply hc) ((hg.apply hc).play (fun x hx=>(hu x hx).1))).1
  have ih:=Zf4 (X:=X) (Y:=U++V) (hg.apply hc) hok' hX'
   (hY.sublist ((List.Sublist.refl U).append (List.sublist_cons_self c V)))
   (fun a ha=>by
     have:=hsub a (by simp[ha])
     rcases List.mem_append.1 this with q|q
     · simp[q]
     rcases List.mem_cons.1 q with rfl|q
     · exact absurd ha hcX
     simp[q])
   (fun a ha b hb q=>by
     have h2:=hord a (by simp[ha]) b (hb.trans ((List.Sublist.refl U).append (List.sublist_cons_self c V))) q;rcases List.sublist_cons_iff.1 h2 with h3|⟨r,h3,h4⟩
     · exact h3
     cases h3;have:c ∈ U++V:=hb.subset (by simp)
     rcases List.mem_append.1 this with w|w
     · exact absurd w hcU
     exact absurd w hcV)
  intro p hp;rw[Zhz] at hp;rw[ZcD,Zhz];rcases List.mem_cons.1 hp with rfl|hp
  · rw[←p1];simp
  have h1:=ih p hp;rw[ZcD] at h1;rcases List.mem_append.1 h1 with h2|h2
  · refine List.mem_append_left _ ?_;unfold ansZ at h2 ⊢;rw[ZgR hc hu hg] at h2;exact h2
  refine List.mem_append_right _ (List.mem_cons_of_mem _ ?_);unfold ansZ at h2 ⊢;rw[hV];exact h2
theorem ZhT:∀{L:List α} {b a:α},[b,a].Sublist L→∃i k:Nat,L[i]? =some b∧L[k]? =some a∧i < k
 |[],_,_,h=>by cases h
 |x::L,b,a,h=>by
  rcases List.sublist_cons_iff.1 h with h|⟨r,h1,h2⟩
  · obtain⟨i,k,q1,q2,q3⟩:=ZhT h;exact⟨i + 1,k + 1,by simpa using q1,by simpa using q2,by omega⟩
  cases h1;obtain⟨k,hk⟩:=List.mem_iff_getElem?.1 (h2.subset (show a ∈ [a] by simp));exact⟨0,k + 1,by simp,by simpa using hk,by omega⟩
theorem Zif:∀{L:List α} {b a:α} {i k:Nat},L[i]? =some b→L[k]? =some a→i < k→[b,a].Sublist L
 |[],_,_,_,_,h,_,_=>by simp at h
 |x::L,b,a,0,k + 1,h1,h2,_=>by
  have e:x=b:=by simpa using h1
  subst e;exact List.Sublist.cons_cons x (List.singleton_sublist.2 (List.mem_of_getElem? (by simpa using h2)))
 |x::L,b,a,i + 1,k + 1,h1,h2,h3=>List.Sublist.cons x (Zif (by simpa using h1) (by simpa using h2) (by omega))
end
end Tab
end
section
namespace Mark
open Go.RowKit
open Go.Sort Go.Shelf
def orI (a b:Int):Int:=if a=0 then b else a
theorem or2 (a b:Int) (g:Nat) (w:World) (h0:w.cell? ⟨g,0,none⟩=some (.int .i64 a)) (h1:w.cell? ⟨g,1,none⟩=some (.int .i64 b)):
 Calls Tryz.prog 80 #[.slice (some ⟨g,0,none⟩) 2 2] w fun e w'=>e=.returned (.int .i64 (orI a b))∧w=w':=by
 by_cases ha:a=0
 · subst ha;by_cases hb:b=0
   · subst hb;go_enter Tryz.func80,Tryz.ntmps80;go_wp2
     refine wp_loop_rounds 3 ?_;rw[rounds_succ];go_wp2
     rw[rounds_succ];go_wp2
     rw[rounds_succ];go_wp2
     go_ret;exact⟨rfl,rfl⟩
   have hb':(b==0)=false:=by simpa using hb
   go_enter Tryz.func80,Tryz.ntmps80;go_wp2
   refine wp_loop_rounds 2 ?_;rw[rounds_succ];go_wp2
   rw[rounds_succ];go_wp2
   refine bodyPost_ret (results_tmp rfl _ _ _) rfl ?_;exact⟨rfl,rfl⟩
 have ha':(a==0)=false:=by simpa using ha
 have e:orI a b=a:=by simp[orI,ha]
 rw[e];go_enter Tryz.func80,Tryz.ntmps80;go_wp2
 refine wp_loop_rounds 1 ?_;rw[rounds_succ];go_wp2
 refine bodyPost_ret (results_tmp rfl _ _ _) rfl ?_;exact⟨rfl,rfl⟩
def cmpID (x y:Int × Int):Int:=orI (Lib.compareInt x.1 y.1) (Lib.compareInt x.2 y.2)
theorem Zi9 (W:World) (A B C:Obj) (n:Nat):(((W.alloc A).alloc B).drewN n).alloc C=grow (W.drewN n) #[A,B,C]:=by
 rw[alloc_eq_grow W,alloc_eq_grow _ B,alloc_eq_grow _ C,grow_grow];show grow (grow (W.drewN n) _) _=_;rw[grow_grow];rfl
theorem Zdn (X:World) (n:Nat) (h:X.heap.size=n) (cs:Array Value) (t:TypeId) (j:Nat) (v:Value) (hv:cs[j]? =some v):(X.alloc (.cells cs t)).cell? ⟨n,j,none⟩=some v:=by
 subst h;rw[World.cell?,World.alloc_heap_new];exact hv
theorem ZdC (x y:Int × Int) (W:World):Calls Tryz.prog 72 #[.agg #[.int .i64 x.1,.int .i64 x.2],.agg #[.int .i64 y.1,.int .i64 y.2]] W fun e w'=>e=.returned (.int .i64 (cmpID x y))∧∃q os',w'=grow (W.drewN q) os':=by
 unfold cmpID;go_enter Tryz.func72,Tryz.ntmps72;go_wp2_with fail;(refine Zaj 10 (fun w'=>∃n,w'=World.drewN _ n) (by kernel_rfl) (by kernel_rfl) ⟨1,rfl⟩ ?_);(simp only[List.take_succ_cons,List.take_zero,List.drop_succ_cons,List.drop_zero]);(repeat(first|go_big_quiet_step (exact(Tryz.cmp_Compare_int _ _ _).mono fun _ _ ⟨he,hw⟩=>⟨he,_,hw⟩)|quiet_step (exact(Tryz.cmp_Compare_int _ _ _).mono fun _ _ ⟨he,hw⟩=>⟨he,_,hw⟩)));(refine wpQuiet_nil ?_);(rintro _ ⟨nq,rfl⟩)
 go_wp2_with fail;refine(or2 (Lib.compareInt x.1 y.1) (Lib.compareInt x.2 y.2) _ _ ?h0 ?h1).mono ?_;case h0=>exact Zdn _ _ (by simp) _ _ _ _ rfl
 case h1=>exact Zdn _ _ (by simp) _ _ _ _ rfl
 rintro e _ ⟨rfl,rfl⟩;go_wp2_with fail;go_ret;exact⟨rfl,nq,_,Zi9 _ _ _ _ _⟩
def ltID (x y:Int × Int):Prop:=x.1 < y.1∨(x.1=y.1∧x.2 < y.2)
instance (x y:Int × Int):Decidable (ltID x y):=by unfold ltID;infer_instance
theorem Za1 (x y:Int × Int):ltOf cmpID x y=decide (ltID x y):=by
 unfold ltOf cmpID orI Lib.compareInt ltID;by_cases h1:x.1 < y.1
 · simp[h1]
 by_cases h2:y.1 < x.1
 · have:x.1≠y.1:=by omega
   simp[h1,h2,this]
 have:x.1=y.1:=by omega
 by_cases h3:x.2 < y.2
 · simp[this,h3]
 by_cases h4:y.2 < x.2<;>simp[this,h3,h4]
theorem swoID:SWO (ltOf cmpID) where
 irrefl x:=by rw[Za1];simp[ltID]
 trans x y z h1 h2:=by rw[Za1] at *;simp only[decide_eq_true_eq,decide_eq_false_iff_not] at *;unfold ltID at *;omega
 ntrans x y z h1 h2:=by rw[Za1] at *;simp only[decide_eq_true_eq,decide_eq_false_iff_not] at *;unfold ltID at *;omega
theorem totID (x y:Int × Int) (h1:ltOf cmpID x y=false) (h2:ltOf cmpID y x=false):x=y:=by
 rw[Za1] at *
 simp only[decide_eq_true_eq,decide_eq_false_iff_not] at *
 obtain⟨a,b⟩:=x;obtain⟨c,d⟩:=y;unfold ltID at *
 simp only[Prod.mk.injEq];simp only at h1 h2;omega
def Zay (l:List (Int × Int)):List (Int × Int):=l.mergeSort fun x y=> !ltOf cmpID y x
theorem Zh7 (blk off size:Nat) (w:World):CmpLays Tryz.prog 72 #[] idL 2 cmpID blk off size w:=fun _ _ _ _ x y=>ZdC x y _
end Mark
end
section
namespace Mark
open Go.RowKit Go.Shelf Go.Sort
open Go.Maps (Keyed)
section
variable {α:Type} [Inhabited α]
theorem ZfA (enc:α→List Value) (k:Nat) (hk:∀x,(enc x).length=k) (l:List α):(flatK enc k l.toArray).toList=l.flatMap enc:=by
 apply List.ext_getElem?;intro t;by_cases ht:t < l.length * k
 · have hk0:0 < k:=by
    rcases Nat.eq_zero_or_pos k with h|h
    · subst h;omega
    exact h
   have hq:t / k < l.length:=Nat.div_lt_of_lt_mul (by rw[Nat.mul_comm];exact ht);have e:=ZcZ enc k hk l (t / k) l[t / k] (List.getElem?_eq_getElem hq) (t % k) (Nat.mod_lt _ hk0);rw[Nat.mul_comm,Nat.div_add_mod] at e;rw[e,Array.getElem?_toList];have hm:t % k < (enc l[t / k]).length:=by rw[hk];exact Nat.mod_lt _ hk0
   simp[flatK,ht,hq,hm]
 rw[List.getElem?_eq_none (by simp;omega),List.getElem?_eq_none (by rw[Zbl enc k hk];omega)]
theorem Zha {w:World} {g n:Nat} {os:Array Obj} {cur:Array Value} {e:TypeId} {fr:Nat × Nat} (F:Array Value) (hb:w.heap[g]? =some (.cells cur e fr)):
 (grow (putRow id (Sort.ahead w n) g 0 F) os).heap[g]? =some (.cells (putCells id 0 F cur) e fr):=by
 have hg:g < w.heap.size:=(Array.getElem?_eq_some_iff.1 hb).1;rw[heap_grow_old _ _ (by simpa using hg)];simp[putRow,mapBlock,Sort.ahead,Array.getElem?_modify,hb,onCells]
theorem Za2 {w:World} {g n:Nat} {os:Array Obj} (F:Array Value):w.grownBy (grow (putRow id (Sort.ahead w n) g 0 F) os) (some g):=by
 refine⟨rfl,rfl,rfl,by simp,fun k hk hne=> ?_⟩;rw[heap_grow_old _ _ (by simpa using hk)]
 have:g≠k:=fun e=>hne (by rw[e])
 simp[putRow,mapBlock,Sort.ahead,Array.getElem?_modify,this]
theorem Zj2 (cur F:Array Value) (h:F.size≤cur.size):(putCells id 0 F cur).toList.take F.size=F.toList:=by
 apply List.ext_getElem?;intro j;by_cases hj:j < F.size
 · rw[List.getElem?_take_of_lt hj,Array.getElem?_toList];simp[putCells,hj,show j < cur.size by omega]
 rw[List.getElem?_take_eq_none (by omega),List.getElem?_eq_none (by simp;omega)]
theorem ZcB (enc:α→List Value) (k:Nat) (hk:∀x,(enc x).length=k) {w:World} {base g cap n:Nat} {e:TypeId} {os:Array Obj} {cur:Array Value} {ss ts:List α} (hl:ts.length=ss.length) (hbase:base≤g) (hb:w.heap[g]? =some (.cells cur e (0,0)))
 (h1:ss.length≤cap) (h2:cap≤maxLen) (h3:cur.size=cap * k):
 (sortWorldK enc k w g 0 n ts.toArray os).ownsRow base e k (.slice (some ⟨g,0,none⟩) ss.length cap) ss.length (ts.flatMap enc):=by
 have hsz:(flatK enc k ts.toArray).size=ss.length * k:=by simp[hl]
 refine⟨by rw[Zbl enc k hk,hl],.inr ⟨g,cap,_,rfl,hbase,Zha (flatK enc k ts.toArray) hb,h1,h2,by simp[putCells,h3],?_⟩⟩;have:=Zj2 cur (flatK enc k ts.toArray) (by rw[hsz,h3];exact Nat.mul_le_mul_right _ h1);rw[hsz,ZfA enc k hk] at this;exact this
theorem Zds (enc:α→List Value) (k:Nat) (hk:∀x,(enc x).length=k) {w:World} {g:Nat} {cur:Array Value} {e:TypeId} {ss:List α} (hb:w.heap[g]? =some (.cells cur e (0,0))) (ht:cur.toList.take (ss.length * k)=ss.flatMap enc):HoldsK enc k w g 0 ss.toArray:=by
 intro j hj;have hj':j < ss.length * k:=by simpa using hj
 refine⟨?_,by simp[World.frozen?,hb]⟩
 have h1:(cur.toList.take (ss.length * k))[j]? =(flatK enc k ss.toArray).toList[j]? :=by rw[ht,ZfA enc k hk]
 rw[List.getElem?_take_of_lt hj',Array.getElem?_toList,Array.getElem?_toList,Array.getElem?_eq_getElem hj] at h1;simp only[World.cell?,hb,Nat.zero_add];simp only[Option.isSome_none,Bool.false_eq_true,if_false];rw[h1,getElem!_pos _ j hj];rfl
end
theorem idL_len (x:Int × Int):(idL x).length=2:=rfl
theorem idL_one (x:Int × Int):∀v ∈ idL x,v.oneCell'=true:=by
 intro u hu;simp only[idL,List.mem_cons,List.not_mem_nil,or_false] at hu;rcases hu with rfl|rfl<;>rfl
theorem Zcx (l:List (Int × Int)):(Zay l).length=l.length:=List.length_mergeSort l
theorem ZgH {l m:List (Int × Int)} (h:l.Perm m):Zay l=Zay m:=by
 have hp:(Zay l).Perm (Zay m):=(List.mergeSort_perm l _).trans (h.trans (List.mergeSort_perm m _).symm)
 have tr:∀a b c:Int × Int,(!ltOf cmpID b a)=true→(!ltOf cmpID c b)=true→(!ltOf cmpID c a)=true:=by
  intro a b c h1 h2;rw[Za1] at *
  simp only[Bool.not_eq_true',decide_eq_false_iff_not] at *
  unfold ltID at *
  omega
 have tot:∀a b:Int × Int,((!ltOf cmpID b a) || !ltOf cmpID a b)=true:=by
  intro a b;rw[Za1,Za1];simp only[Bool.or_eq_true,Bool.not_eq_true',decide_eq_false_iff_not];unfold ltID;omega
 refine List.Perm.eq_of_pairwise (le:=fun a b=>(!ltOf cmpID b a)=true) ?_ (List.pairwise_mergeSort tr tot l) (List.pairwise_mergeSort tr tot m) hp;intro a b _ _ h1 h2;exact totID a b (by simpa using h2) (by simpa using h1)
end Mark
end
section
namespace Gr
open Go.RowKit
open Go.Maps (Keyed)
open Attr (A8 Zaz thro Zk7 ZbE Zc0 ZkK)
attribute [-go_sem] run_eql_struct run_neq_struct run_eqGuard_agg
attribute [local go_sem] ZbE Zc0 ZkK
def NewPost (w:World) (e:Ending) (w':World):Prop:=∃p m,e=.returned (.pointer (some ⟨p,0,none⟩))∧At [] w [GrP p m []] w'
theorem new_any (w:World):Calls Tryz.prog 20 #[] w (NewPost w):=by
 have hA:At [] w [] w:=At.start (L0:=[]) trivial;have hF:=hA.facts;go_enter Tryz.func20,Tryz.ntmps20
 go_wp2_with (first|((with_reducible refine gbx ?_);refine wCz (E:=81) hA ?_;clear hF hA;intro p w1 hA hp hF)|(refine Zav Tryz.prog 33 rfl rfl hA ?_;intro m w1 hB hm;replace hA:=hB;clear hF hB;obtain⟨hA,hF⟩:=fZ hA))
 go_ret;exact⟨p,m,rfl,close0 (es:=[]) hA sZ sZ⟩
theorem Zgh {w:World} {p m:Nat} {es:List (I2 × A8)} (h:Sep [GrP p m es] w) (x:I2) (hx:okD x):Calls Tryz.prog 25 #[.pointer (some ⟨p,0,none⟩),idV x] w fun e w'=>e=.returned (.bool (getA es x).isSome)∧At [GrP p m es] w [GrP p m es] w':=by
 have hA:=begin0 h;have hF:=hA.facts;obtain⟨kl,hk⟩:=keyI hx;clear h hx
 cases hg:getA es x with
 |none=>
  have hq:=Hd hg;clear hg;obtain⟨r,t⟩:=x;simp only[idV] at *
  obtain⟨hA,hF⟩:=fZ hA;go_enter Tryz.func25,Tryz.ntmps25
  go_wp2_with ((with_reducible refine gbx ?_);refine wHz 33 [.int .i64 r,.int .i64 t] hA ?_;clear hF hA;intro bI w1 hA hbI hF)
  (try go_frame);(refine Zau (a1:= ?a1_q1) (v:= ?v_q1) 9 5 51 _ (.agg #[.int .i64 0,.int .i64 0,.int .i64 0,.int .i64 0,.int .i64 0,.int .i64 0,.int .i64 0,.int .i64 0]) [.int .i64 0,.int .i64 0,.int .i64 0,.int .i64 0,.int .i64 0,.int .i64 0,.int .i64 0,.int .i64 0] ([.int .i64 0,.int .i64 0,.int .i64 0,.int .i64 0,.int .i64 0,.int .i64 0,.int .i64 0,.int .i64 0]) (by kernel_rfl) (by kernel_rfl) rfl rfl ?hyd_q1 (by kernel_rfl) rfl hA ?h1_q1 ?hd_q1 ?hy_q1 ?hu_q1 ?hsz_q1 ?hus_q1 ?hl_q1 ?h2_q1);(case h1_q1=>(intro R wR hR;(try clear hF);(simp only[List.take_succ_cons,List.take_zero,List.drop_succ_cons,List.drop_zero]);(have hn1:=Cl.none hR);(have hn2:=Cl.none2 hR);(repeat(first|go_big_quiet_skip|(go_big_quiet_want;(first|(refine qM 33 2 ?_;go_frame;go_big_quiet_on)|((refine ZaH rfl rfl (by(try simp only[Act.eval,eV])<;>exact rfl) (k:=33) (es:=ents es) sR lawI Tryz.underlying79 hk (Zdu hq.out) (z:=A8.zero.val) (fun _=>by kernel_rfl) ?_);go_frame;go_big_quiet_on)|(refine qL ?_;go_frame;go_big_quiet_on)|(go_big_quiet_op;(first|go_big_quiet_on))))));(refine wpQuiet_nil ?_);exact rfl));(case hyd_q1=>rfl);(case hd_q1=>(first|decide|simp));(case hy_q1=>((try simp only[Act.eval,Array.getD_eq_getD_getElem?,List.getElem?_toArray,List.getElem?_cons_succ,List.getElem?_cons_zero,Option.getD_some]);exact rfl));(case hu_q1=>exact rfl);(case hsz_q1=>kernel_rfl);(case hus_q1=>rfl);(case hl_q1=>rfl);(intro b1 w1 hB hb1;replace hA:=hB;clear hF hB;(simp only[List.drop_succ_cons,List.drop_zero]);obtain⟨hA,hF⟩:=fZ hA;(try go_frame))
  go_wp2_with fail;go_ret;exact⟨rfl,close0 hA sZ sZ⟩
 |some b=>
  have hq:=Hd (Zgi hg);clear hg;obtain⟨r,t⟩:=x;obtain⟨bs,b0,b1,b2,b3,b4,b5,b6⟩:=b;simp only[idV,A8.val] at *
  obtain⟨hA,hF⟩:=fZ hA;go_enter Tryz.func25,Tryz.ntmps25
  go_wp2_with ((with_reducible refine gbx ?_);refine wHz 33 [.int .i64 r,.int .i64 t] hA ?_;clear hF hA;intro bI w1 hA hbI hF)
  (try go_frame);(refine Zau (a1:= ?a1_q2) (v:= ?v_q2) 9 5 51 _ (.agg #[.int .i64 0,.int .i64 0,.int .i64 0,.int .i64 0,.int .i64 0,.int .i64 0,.int .i64 0,.int .i64 0]) [.int .i64 0,.int .i64 0,.int .i64 0,.int .i64 0,.int .i64 0,.int .i64 0,.int .i64 0,.int .i64 0] ([.int .i64 bs,.int .i64 b0,.int .i64 b1,.int .i64 b2,.int .i64 b3,.int .i64 b4,.int .i64 b5,.int .i64 b6]) (by kernel_rfl) (by kernel_rfl) rfl rfl ?hyd_q2 (by kernel_rfl) rfl hA ?h1_q2 ?hd_q2 ?hy_q2 ?hu_q2 ?hsz_q2 ?hus_q2 ?hl_q2 ?h2_q2);(case h1_q2=>(intro R wR hR;(try clear hF);(simp only[List.take_succ_cons,List.take_zero,List.drop_succ_cons,List.drop_zero]);(have hn1:=Cl.none hR);(have hn2:=Cl.none2 hR);(repeat(first|go_big_quiet_skip|(go_big_quiet_want;(first|(refine qM 33 2 ?_;go_frame;go_big_quiet_on)|((refine ZaG rfl rfl (by(try simp only[Act.eval,eV])<;>exact rfl) (k:=33) (es:=ents es) sR lawI Tryz.underlying79 hk (hq.out) ?_);go_frame;go_big_quiet_on)|(refine qL ?_;go_frame;go_big_quiet_on)|(go_big_quiet_op;(first|go_big_quiet_on))))));(refine wpQuiet_nil ?_);exact rfl));(case hyd_q2=>rfl);(case hd_q2=>(first|decide|simp));(case hy_q2=>((try simp only[Act.eval,Array.getD_eq_getD_getElem?,List.getElem?_toArray,List.getElem?_cons_succ,List.getElem?_cons_zero,Option.getD_some]);exact rfl));(case hu_q2=>exact rfl);(case hsz_q2=>kernel_rfl);(case hus_q2=>rfl);(case hl_q2=>rfl);(intro b1 w1 hB hb1;replace hA:=hB;clear hF hB;(simp only[List.drop_succ_cons,List.drop_zero]);obtain⟨hA,hF⟩:=fZ hA;(try go_frame))
  go_wp2_with fail;go_ret;exact⟨rfl,close0 hA sZ sZ⟩
theorem Zl7 {es:List (I2 × A8)} {x:I2} {a:A8} (h:getA es x=some a):∃l1 l2,ents es=ents l1++(idV x,a.val)::ents l2:=by
 obtain⟨l1,l2,e⟩:=List.append_of_mem (ZbM h);exact⟨l1,l2,by rw[e];simp[ents,ent]⟩
theorem add_any {w:World} {p m:Nat} {es:List (I2 × A8)} (h:Sep [GrP p m es] w) (x:I2) (hx:okD x) (a:A8):Calls Tryz.prog 22 #[.pointer (some ⟨p,0,none⟩),idV x,a.val] w fun e w'=>e=.returned (.int .i64 (addG es x a).2)∧At [GrP p m es] w [GrP p m (addG es x a).1] w':=by
 have hA:=begin0 h;have hF:=hA.facts;obtain⟨kl,hk⟩:=keyI hx;have how:=fun w=>Attr.Zdk a x.1 x.2 w;clear h hx;unfold addG;generalize Attr.ownsB a x.1 x.2=ow at *
 cases hg:getA es x with
 |none=>
  have hq:=Hd hg;clear hg;have hne:ents es++[(idV x,a.val)]=ents (es++[(x,a)]):=by simp[ents,ent]
  obtain⟨r,t⟩:=x;obtain⟨us,u0,u1,u2,u3,u4,u5,u6⟩:=a;simp only[idV,A8.val] at *
  obtain⟨hA,hF⟩:=fZ hA;go_enter Tryz.func22,Tryz.ntmps22
  go_wp2_with (first|((with_reducible refine gbx ?_);refine wHz 33 [.int .i64 r,.int .i64 t] hA ?_;clear hF hA;intro bI w1 hA hbI hF)|((with_reducible refine gbx ?_);refine wHz 51 [.int .i64 us,.int .i64 u0,.int .i64 u1,.int .i64 u2,.int .i64 u3,.int .i64 u4,.int .i64 u5,.int .i64 u6] hA ?_;clear hF hA;intro bA w1 hA hbA hF))
  (try go_frame);(refine Zau (a1:= ?a1_q3) (v:= ?v_q3) 9 7 51 _ (.agg #[.int .i64 0,.int .i64 0,.int .i64 0,.int .i64 0,.int .i64 0,.int .i64 0,.int .i64 0,.int .i64 0]) [.int .i64 0,.int .i64 0,.int .i64 0,.int .i64 0,.int .i64 0,.int .i64 0,.int .i64 0,.int .i64 0] ([.int .i64 0,.int .i64 0,.int .i64 0,.int .i64 0,.int .i64 0,.int .i64 0,.int .i64 0,.int .i64 0]) (by kernel_rfl) (by kernel_rfl) rfl rfl ?hyd_q3 (by kernel_rfl) rfl hA ?h1_q3 ?hd_q3 ?hy_q3 ?hu_q3 ?hsz_q3 ?hus_q3 ?hl_q3 ?h2_q3);(case h1_q3=>(intro R wR hR;(try clear hF);(simp only[List.take_succ_cons,List.take_zero,List.drop_succ_cons,List.drop_zero]);(have hn1:=Cl.none hR);(have hn2:=Cl.none2 hR);(repeat(first|go_big_quiet_skip|(go_big_quiet_want;(first|(refine qM 33 2 ?_;go_frame;go_big_quiet_on)|((refine ZaH rfl rfl (by(try simp only[Act.eval,eV])<;>exact rfl) (k:=33) (es:=ents es) sR lawI Tryz.underlying79 hk (Zdu hq.out) (z:=A8.zero.val) (fun _=>by kernel_rfl) ?_);go_frame;go_big_quiet_on)|(refine qL ?_;go_frame;go_big_quiet_on)|(go_big_quiet_op;(first|go_big_quiet_on))))));(refine wpQuiet_nil ?_);exact rfl));(case hyd_q3=>rfl);(case hd_q3=>(first|decide|simp));(case hy_q3=>((try simp only[Act.eval,Array.getD_eq_getD_getElem?,List.getElem?_toArray,List.getElem?_cons_succ,List.getElem?_cons_zero,Option.getD_some]);exact rfl));(case hu_q3=>exact rfl);(case hsz_q3=>kernel_rfl);(case hus_q3=>rfl);(case hl_q3=>rfl);(intro b1 w1 hB hb1;replace hA:=hB;clear hF hB;(simp only[List.drop_succ_cons,List.drop_zero]);obtain⟨hA,hF⟩:=fZ hA;(try go_frame))
  go_wp2_with fail;refine(how _).mono ?_;rintro e w1 ⟨rfl,hx⟩;replace hA:=hA.ext hx;clear hF hx how;obtain⟨hA,hF⟩:=fZ hA;cases ow
  · go_wp2_with fail;go_ret;exact⟨rfl,close0 hA sZ sZ⟩
  skip;go_wp2_with fail;(try go_frame);(refine Zaj 6 (Cl _ _ _) (by kernel_rfl) (by kernel_rfl) (Cl.drew hA) ?_);(simp only[List.take_succ_cons,List.take_zero,List.drop_succ_cons,List.drop_zero]);(have hn1:=Cl.none hA);(have hn2:=Cl.none2 hA);(repeat(first|go_big_quiet_skip|(go_big_quiet_want;(first|(refine qM 33 2 ?_;go_frame;go_big_quiet_on)|(refine qM 51 8 ?_;go_frame;go_big_quiet_on)|(refine qL ?_;go_frame;go_big_quiet_on)|(go_big_quiet_op;(first|go_big_quiet_on))))))
  (refine wpQuiet_nil ?_);(intro w1 hB);(clear hF hA hn1 hn2);(have hA:=Cl.out hB);(clear hB);obtain⟨hA,hF⟩:=fZ hA
  refine Zao (b:=m) (key:=.agg #[.int .i64 r,.int .i64 t]) (val:=.agg #[.int .i64 us,.int .i64 u0,.int .i64 u1,.int .i64 u2,.int .i64 u3,.int .i64 u4,.int .i64 u5,.int .i64 u6]) (es:=ents es) rfl rfl (by(try simp only[Act.eval,eV])<;>exact rfl) (by(try simp only[Act.eval,eV])<;>exact rfl) (by(try simp only[Act.eval,eV])<;>exact rfl) hA sR lawI Tryz.underlying79 hk (Zdu hq.out) ?_;intro w1 hB;replace hA:=hB;clear hF hB;rw[hne] at hA;obtain⟨hA,hF⟩:=fZ hA;go_wp2_with fail;go_ret;exact⟨rfl,close0 hA sZ sZ⟩
 |some b=>
  have hsp:=Hd (show Attr.eqA b a=true→∃l1 l2,ents es=ents l1++(idV x,a.val)::ents l2 from fun e=>by rw[Attr.Zb9.1 e] at hg;exact Zl7 hg);have hq:=Hd (Zgi hg);clear hg;simp only
  obtain⟨ee,hee⟩:∃e,Attr.eqA b a=e:=⟨_,rfl⟩
  rw[hee] at hsp;obtain⟨r,t⟩:=x;obtain⟨us,u0,u1,u2,u3,u4,u5,u6⟩:=a;obtain⟨bs,b0,b1,b2,b3,b4,b5,b6⟩:=b;rw[hee];simp only[idV,A8.val] at *
  obtain⟨hA,hF⟩:=fZ hA;go_enter Tryz.func22,Tryz.ntmps22
  go_wp2_with (first|((with_reducible refine gbx ?_);refine wHz 33 [.int .i64 r,.int .i64 t] hA ?_;clear hF hA;intro bI w1 hA hbI hF)|((with_reducible refine gbx ?_);refine wHz 51 [.int .i64 us,.int .i64 u0,.int .i64 u1,.int .i64 u2,.int .i64 u3,.int .i64 u4,.int .i64 u5,.int .i64 u6] hA ?_;clear hF hA;intro bA w1 hA hbA hF))
  (try go_frame);(refine Zau (a1:= ?a1_q4) (v:= ?v_q4) 9 7 51 _ (.agg #[.int .i64 0,.int .i64 0,.int .i64 0,.int .i64 0,.int .i64 0,.int .i64 0,.int .i64 0,.int .i64 0]) [.int .i64 0,.int .i64 0,.int .i64 0,.int .i64 0,.int .i64 0,.int .i64 0,.int .i64 0,.int .i64 0] ([.int .i64 bs,.int .i64 b0,.int .i64 b1,.int .i64 b2,.int .i64 b3,.int .i64 b4,.int .i64 b5,.int .i64 b6]) (by kernel_rfl) (by kernel_rfl) rfl rfl ?hyd_q4 (by kernel_rfl) rfl hA ?h1_q4 ?hd_q4 ?hy_q4 ?hu_q4 ?hsz_q4 ?hus_q4 ?hl_q4 ?h2_q4);(case h1_q4=>(intro R wR hR;(try clear hF);(simp only[List.take_succ_cons,List.take_zero,List.drop_succ_cons,List.drop_zero]);(have hn1:=Cl.none hR);(have hn2:=Cl.none2 hR);(repeat(first|go_big_quiet_skip|(go_big_quiet_want;(first|(refine qM 33 2 ?_;go_frame;go_big_quiet_on)|((refine ZaG rfl rfl (by(try simp only[Act.eval,eV])<;>exact rfl) (k:=33) (es:=ents es) sR lawI Tryz.underlying79 hk (hq.out) ?_);go_frame;go_big_quiet_on)|(refine qL ?_;go_frame;go_big_quiet_on)|(go_big_quiet_op;(first|go_big_quiet_on))))));(refine wpQuiet_nil ?_);exact rfl));(case hyd_q4=>rfl);(case hd_q4=>(first|decide|simp));(case hy_q4=>((try simp only[Act.eval,Array.getD_eq_getD_getElem?,List.getElem?_toArray,List.getElem?_cons_succ,List.getElem?_cons_zero,Option.getD_some]);exact rfl));(case hu_q4=>exact rfl);(case hsz_q4=>kernel_rfl);(case hus_q4=>rfl);(case hl_q4=>rfl);(intro b1 w1 hB hb1;replace hA:=hB;clear hF hB;(simp only[List.drop_succ_cons,List.drop_zero]);obtain⟨hA,hF⟩:=fZ hA;(try go_frame))
  go_wp2_with fail;refine(how _).mono ?_;rintro e w1 ⟨rfl,hx⟩;replace hA:=hA.ext hx;clear hF hx how;obtain⟨hA,hF⟩:=fZ hA;cases ow
  · go_wp2_with fail;go_ret;exact⟨rfl,close0 hA sZ sZ⟩
  cases ee
  · go_wp2_with fail;go_ret;exact⟨rfl,close0 hA sZ sZ⟩
  obtain⟨l1,l2,hl⟩:=hsp.out (by rfl);have hl':=Hd hl;rw[hl] at hA;clear hl;go_wp2_with fail;(try go_frame);(refine Zaj 6 (Cl _ _ _) (by kernel_rfl) (by kernel_rfl) (Cl.drew hA) ?_);(simp only[List.take_succ_cons,List.take_zero,List.drop_succ_cons,List.drop_zero]);(have hn1:=Cl.none hA);(have hn2:=Cl.none2 hA);(repeat(first|go_big_quiet_skip|(go_big_quiet_want;(first|(refine qM 33 2 ?_;go_frame;go_big_quiet_on)|(refine qM 51 8 ?_;go_frame;go_big_quiet_on)|(refine qL ?_;go_frame;go_big_quiet_on)|(go_big_quiet_op;(first|go_big_quiet_on))))))
  (refine wpQuiet_nil ?_);(intro w1 hB);(clear hF hA hn1 hn2);(have hA:=Cl.out hB);(clear hB);obtain⟨hA,hF⟩:=fZ hA
  refine ZaV (b:=m) (key:=.agg #[.int .i64 r,.int .i64 t]) (val:=.agg #[.int .i64 us,.int .i64 u0,.int .i64 u1,.int .i64 u2,.int .i64 u3,.int .i64 u4,.int .i64 u5,.int .i64 u6]) (u:=.agg #[.int .i64 us,.int .i64 u0,.int .i64 u1,.int .i64 u2,.int .i64 u3,.int .i64 u4,.int .i64 u5,.int .i64 u6]) (l1:=ents l1) (l2:=ents l2) rfl rfl (by(try simp only[Act.eval,eV])<;>exact rfl) (by(try simp only[Act.eval,eV])<;>exact rfl) (by(try simp only[Act.eval,eV])<;>exact rfl) hA sR lawI Tryz.underlying79 hk ?_;intro w1 hB;replace hA:=hB;clear hF hB;rw[←hl'.out] at hA;obtain⟨hA,hF⟩:=fZ hA;go_wp2_with fail;go_ret;exact⟨rfl,close0 hA sZ sZ⟩
theorem ZmV (f:F7) (x:I2) (w:World):Calls Tryz.prog 69 #[f.val,idV x] w fun e w'=>e=.returned (.bool (behind f x))∧Ext w w':=by
 have hA:At [] w [] w:=At.start (L0:=[]) trivial;have hF:=hA.facts;have hri:=fun w=>Attr.ZaY x.1 x.2 w;obtain⟨r,t⟩:=x;obtain⟨f0,f1,f2,f3,f4,f5,f6⟩:=f;unfold behind;simp only[F7.val,idV] at *
 cases hp:Zaz r t with
 |false=>
  rw[hp] at hri;clear hp;obtain⟨hA,hF⟩:=fZ hA;go_enter Tryz.func69,Tryz.ntmps69
  go_wp2_with (first|((with_reducible refine gbx ?_);refine wHz 62 [.int .i64 f0,.int .i64 f1,.int .i64 f2,.int .i64 f3,.int .i64 f4,.int .i64 f5,.int .i64 f6] hA ?_;clear hF hA;intro bF w1 hA hbF hF)|((with_reducible refine gbx ?_);refine wHz 33 [.int .i64 r,.int .i64 t] hA ?_;clear hF hA;intro bI w1 hA hbI hF))
  (try go_frame);refine cl1 hA ?_;clear hF hA;intro w1 hA hF;(try simp only[uZ] at hA hF);go_wp2_with fail;go_ret;exact⟨rfl,hA.toExt⟩
 |true=>
  have h7:=Attr.Zas.1 hp;rw[hp] at hri;clear hp;obtain⟨hA,hF⟩:=fZ hA;rcases(show r=0∨r=1∨r=2∨r=3∨r=4∨r=5∨r=6 by omega) with rfl|rfl|rfl|rfl|rfl|rfl|rfl
  · clear h7;go_enter Tryz.func69,Tryz.ntmps69
    go_wp2_with (first|((with_reducible refine gbx ?_);refine wHz 62 [.int .i64 f0,.int .i64 f1,.int .i64 f2,.int .i64 f3,.int .i64 f4,.int .i64 f5,.int .i64 f6] hA ?_;clear hF hA;intro bF w1 hA hbF hF)|((with_reducible refine gbx ?_);refine wHz 33 [.int .i64 0,.int .i64 t] hA ?_;clear hF hA;intro bI w1 hA hbI hF))
    (try go_frame);refine cl1 hA ?_;clear hF hA;intro w1 hA hF;(try simp only[uZ] at hA hF);go_wp2_with fail;go_ret;exact⟨rfl,hA.toExt⟩
  · clear h7;go_enter Tryz.func69,Tryz.ntmps69
    go_wp2_with (first|((with_reducible refine gbx ?_);refine wHz 62 [.int .i64 f0,.int .i64 f1,.int .i64 f2,.int .i64 f3,.int .i64 f4,.int .i64 f5,.int .i64 f6] hA ?_;clear hF hA;intro bF w1 hA hbF hF)|((with_reducible refine gbx ?_);refine wHz 33 [.int .i64 1,.int .i64 t] hA ?_;clear hF hA;intro bI w1 hA hbI hF))
    (try go_frame);refine cl1 hA ?_;clear hF hA;intro w1 hA hF;(try simp only[uZ] at hA hF);go_wp2_with fail;go_ret;exact⟨rfl,hA.toExt⟩
  · clear h7;go_enter Tryz.func69,Tryz.ntmps69
    go_wp2_with (first|((with_reducible refine gbx ?_);refine wHz 62 [.int .i64 f0,.int .i64 f1,.int .i64 f2,.int .i64 f3,.int .i64 f4,.int .i64 f5,.int .i64 f6] hA ?_;clear hF hA;intro bF w1 hA hbF hF)|((with_reducible refine gbx ?_);refine wHz 33 [.int .i64 2,.int .i64 t] hA ?_;clear hF hA;intro bI w1 hA hbI hF))
    (try go_frame);refine cl1 hA ?_;clear hF hA;intro w1 hA hF;(try simp only[uZ] at hA hF);go_wp2_with fail;go_ret;exact⟨rfl,hA.toExt⟩
  · clear h7;go_enter Tryz.func69,Tryz.ntmps69
    go_wp2_with (first|((with_reducible refine gbx ?_);refine wHz 62 [.int .i64 f0,.int .i64 f1,.int .i64 f2,.int .i64 f3,.int .i64 f4,.int .i64 f5,.int .i64 f6] hA ?_;clear hF hA;intro bF w1 hA hbF hF)|((with_reducible refine gbx ?_);refine wHz 33 [.int .i64 3,.int .i64 t] hA ?_;clear hF hA;intro bI w1 hA hbI hF))
    (try go_frame);refine cl1 hA ?_;clear hF hA;intro w1 hA hF;(try simp only[uZ] at hA hF);go_wp2_with fail;go_ret;exact⟨rfl,hA.toExt⟩
  · clear h7;go_enter Tryz.func69,Tryz.ntmps69
    go_wp2_with (first|((with_reducible refine gbx ?_);refine wHz 62 [.int .i64 f0,.int .i64 f1,.int .i64 f2,.int .i64 f3,.int .i64 f4,.int .i64 f5,.int .i64 f6] hA ?_;clear hF hA;intro bF w1 hA hbF hF)|((with_reducible refine gbx ?_);refine wHz 33 [.int .i64 4,.int .i64 t] hA ?_;clear hF hA;intro bI w1 hA hbI hF))
    (try go_frame);refine cl1 hA ?_;clear hF hA;intro w1 hA hF;(try simp only[uZ] at hA hF);go_wp2_with fail;go_ret;exact⟨rfl,hA.toExt⟩
  · clear h7;go_enter Tryz.func69,Tryz.ntmps69
    go_wp2_with (first|((with_reducible refine gbx ?_);refine wHz 62 [.int .i64 f0,.int .i64 f1,.int .i64 f2,.int .i64 f3,.int .i64 f4,.int .i64 f5,.int .i64 f6] hA ?_;clear hF hA;intro bF w1 hA hbF hF)|((with_reducible refine gbx ?_);refine wHz 33 [.int .i64 5,.int .i64 t] hA ?_;clear hF hA;intro bI w1 hA hbI hF))
    (try go_frame);refine cl1 hA ?_;clear hF hA;intro w1 hA hF;(try simp only[uZ] at hA hF);go_wp2_with fail;go_ret;exact⟨rfl,hA.toExt⟩
  clear h7;go_enter Tryz.func69,Tryz.ntmps69
  go_wp2_with (first|((with_reducible refine gbx ?_);refine wHz 62 [.int .i64 f0,.int .i64 f1,.int .i64 f2,.int .i64 f3,.int .i64 f4,.int .i64 f5,.int .i64 f6] hA ?_;clear hF hA;intro bF w1 hA hbF hF)|((with_reducible refine gbx ?_);refine wHz 33 [.int .i64 6,.int .i64 t] hA ?_;clear hF hA;intro bI w1 hA hbI hF))
  (try go_frame);refine cl1 hA ?_;clear hF hA;intro w1 hA hF;(try simp only[uZ] at hA hF);go_wp2_with fail;go_ret;exact⟨rfl,hA.toExt⟩
theorem ZnD (d:Nat→Int) (q:Nat) (hq:q < 7) (w:World):(Instr.index 49 (.agg #[.int .i64 (d 0),.int .i64 (d 1),.int .i64 (d 2),.int .i64 (d 3),.int .i64 (d 4),.int .i64 (d 5),.int .i64 (d 6)]) (.int .i64 q)).run Tryz.prog w=.ok (.int .i64 (d q)) w:=by
 rcases(show q=0∨q=1∨q=2∨q=3∨q=4∨q=5∨q=6 by omega) with rfl|rfl|rfl|rfl|rfl|rfl|rfl<;>kernel_rfl
theorem f7_get (f:F7) {q:Nat} (hq:q < 7):f.cells[q]? =some (.int .i64 (f.at q)):=by
 rcases(show q=0∨q=1∨q=2∨q=3∨q=4∨q=5∨q=6 by omega) with rfl|rfl|rfl|rfl|rfl|rfl|rfl<;>rfl
def LdRel (w:World) (p m bA bI bF:Nat) (es:List (I2 × A8)) (f:F7) (a:A8) (r t:Int) (k:Nat) (u v:Value) (wr:World):Prop:=
 ∃q:Nat,u=.int .i64 q∧q + k=7∧At [GrP p m es] w [rowI2 v (ZcO f a q),Part.cells bF f.cells 62,headC p m,mapC m (ents es)] wr
def ZlP (p m:Nat) (es:List (I2 × A8)) (l:List I2) (w:World) (e:Ending) (w':World):Prop:=∃v,e=.returned v∧At [GrP p m es] w [rowI2 v l,GrP p m es] w'
theorem Zg4 {w:World} {p m:Nat} {es:List (I2 × A8)} (h:Sep [GrP p m es] w) (f:F7) (x:I2) (hx:okD x) (hd:∀a,getA es x=some a→∀q,q < 7→0≤a.dep q∧a.dep q≤1024):
 Calls Tryz.prog 70 #[.pointer (some ⟨p,0,none⟩),f.val,idV x] w (ZlP p m es (ZaA es f x) w):=by
 obtain⟨i0,hi0,hz0,hz1,hz2⟩:=info_parts infoI;have hA:=begin0 h;have hF:=hA.facts;obtain⟨kl,hk⟩:=keyI hx;clear h hx;unfold ZaA
 cases hg:getA es x with
 |none=>
  have hq:=Hd hg;clear hg hd;obtain⟨r,t⟩:=x;obtain⟨f0,f1,f2,f3,f4,f5,f6⟩:=f;simp only[F7.val,idV] at *
  obtain⟨hA,hF⟩:=fZ hA;go_enter Tryz.func70,Tryz.ntmps70
  go_wp2_with (first|((with_reducible refine gbx ?_);refine wHz 33 [.int .i64 r,.int .i64 t] hA ?_;clear hF hA;intro bI w1 hA hbI hF)|((with_reducible refine gbx ?_);refine wHz 62 [.int .i64 f0,.int .i64 f1,.int .i64 f2,.int .i64 f3,.int .i64 f4,.int .i64 f5,.int .i64 f6] hA ?_;clear hF hA;intro bF w1 hA hbF hF))
  (try go_frame);(refine Zau (a1:= ?a1_q5) (v:= ?v_q5) 9 7 51 _ (.agg #[.int .i64 0,.int .i64 0,.int .i64 0,.int .i64 0,.int .i64 0,.int .i64 0,.int .i64 0,.int .i64 0]) [.int .i64 0,.int .i64 0,.int .i64 0,.int .i64 0,.int .i64 0,.int .i64 0,.int .i64 0,.int .i64 0] ([.int .i64 0,.int .i64 0,.int .i64 0,.int .i64 0,.int .i64 0,.int .i64 0,.int .i64 0,.int .i64 0]) (by kernel_rfl) (by kernel_rfl) rfl rfl ?hyd_q5 (by kernel_rfl) rfl hA ?h1_q5 ?hd_q5 ?hy_q5 ?hu_q5 ?hsz_q5 ?hus_q5 ?hl_q5 ?h2_q5);(case h1_q5=>(intro R wR hR;(try clear hF);(simp only[List.take_succ_cons,List.take_zero,List.drop_succ_cons,List.drop_zero]);(have hn1:=Cl.none hR);(have hn2:=Cl.none2 hR);(repeat(first|go_big_quiet_skip|(go_big_quiet_want;(first|(refine qM 33 2 ?_;go_frame;go_big_quiet_on)|((refine ZaH rfl rfl (by(try simp only[Act.eval,eV])<;>exact rfl) (k:=33) (es:=ents es) sR lawI Tryz.underlying79 hk (Zdu hq.out) (z:=A8.zero.val) (fun _=>by kernel_rfl) ?_);go_frame;go_big_quiet_on)|(refine qL ?_;go_frame;go_big_quiet_on)|(go_big_quiet_op;(first|go_big_quiet_on))))));(refine wpQuiet_nil ?_);exact rfl));(case hyd_q5=>rfl);(case hd_q5=>(first|decide|simp));(case hy_q5=>((try simp only[Act.eval,Array.getD_eq_getD_getElem?,List.getElem?_toArray,List.getElem?_cons_succ,List.getElem?_cons_zero,Option.getD_some]);exact rfl));(case hu_q5=>exact rfl);(case hsz_q5=>kernel_rfl);(case hus_q5=>rfl);(case hl_q5=>rfl);(intro b1 w1 hB hb1;replace hA:=hB;clear hF hB;(simp only[List.drop_succ_cons,List.drop_zero]);obtain⟨hA,hF⟩:=fZ hA;(try go_frame))
  go_wp2_with fail;go_ret;exact⟨_,rfl,(fold0 (hA.row_nil 33 2) sZ sZ).only2 sZ sZ⟩
 |some b=>
  have hq:=Hd (Zgi hg);have hd':=Hd (hd b hg);clear hg hd;have hlen:=fun q=>Zft f b q;have hlen':=Hd hlen;clear hlen;obtain⟨r,t⟩:=x;have hfe:f=⟨f.f0,f.f1,f.f2,f.f3,f.f4,f.f5,f.f6⟩:=rfl;have hbe:b=⟨b.s,b.d0,b.d1,b.d2,b.d3,b.d4,b.d5,b.d6⟩:=rfl;simp only[F7.val,idV,A8.val] at *
  obtain⟨hA,hF⟩:=fZ hA;go_enter Tryz.func70,Tryz.ntmps70
  go_wp2_with (first|((with_reducible refine gbx ?_);refine wHz 33 [.int .i64 r,.int .i64 t] hA ?_;clear hF hA;intro bI w1 hA hbI hF)|((with_reducible refine gbx ?_);refine wHz 62 [.int .i64 f.f0,.int .i64 f.f1,.int .i64 f.f2,.int .i64 f.f3,.int .i64 f.f4,.int .i64 f.f5,.int .i64 f.f6] hA ?_;clear hF hA;intro bF w1 hA hbF hF))
  (try go_frame);(refine Zau (a1:= ?a1_q6) (v:= ?v_q6) 9 7 51 _ (.agg #[.int .i64 0,.int .i64 0,.int .i64 0,.int .i64 0,.int .i64 0,.int .i64 0,.int .i64 0,.int .i64 0]) [.int .i64 0,.int .i64 0,.int .i64 0,.int .i64 0,.int .i64 0,.int .i64 0,.int .i64 0,.int .i64 0] ([.int .i64 (b.s),.int .i64 (b.d0),.int .i64 (b.d1),.int .i64 (b.d2),.int .i64 (b.d3),.int .i64 (b.d4),.int .i64 (b.d5),.int .i64 (b.d6)]) (by kernel_rfl) (by kernel_rfl) rfl rfl ?hyd_q6 (by kernel_rfl) rfl hA ?h1_q6 ?hd_q6 ?hy_q6 ?hu_q6 ?hsz_q6 ?hus_q6 ?hl_q6 ?h2_q6);(case h1_q6=>(intro R wR hR;(try clear hF);(simp only[List.take_succ_cons,List.take_zero,List.drop_succ_cons,List.drop_zero]);(have hn1:=Cl.none hR);(have hn2:=Cl.none2 hR);(repeat(first|go_big_quiet_skip|(go_big_quiet_want;(first|(refine qM 33 2 ?_;go_frame;go_big_quiet_on)|((refine ZaG rfl rfl (by(try simp only[Act.eval,eV])<;>exact rfl) (k:=33) (es:=ents es) sR lawI Tryz.underlying79 hk (hq.out) ?_);go_frame;go_big_quiet_on)|(refine qL ?_;go_frame;go_big_quiet_on)|(go_big_quiet_op;(first|go_big_quiet_on))))));(refine wpQuiet_nil ?_);exact rfl));(case hyd_q6=>rfl);(case hd_q6=>(first|decide|simp));(case hy_q6=>((try simp only[Act.eval,Array.getD_eq_getD_getElem?,List.getElem?_toArray,List.getElem?_cons_succ,List.getElem?_cons_zero,Option.getD_some]);exact rfl));(case hu_q6=>exact rfl);(case hsz_q6=>kernel_rfl);(case hus_q6=>rfl);(case hl_q6=>rfl);(intro b1 w1 hB hb1;replace hA:=hB;clear hF hB;(simp only[List.drop_succ_cons,List.drop_zero]);obtain⟨hA,hF⟩:=fZ hA;(try go_frame))
  go_wp2_with fail;replace hA:=hA.row_nil 33 2;clear hF;go_loopg [25,9] 7 (LdRel w p m b1 bI bF es f b r t)
  case atStart=>exact⟨0,rfl,rfl,hA.pick pZ⟩
  case round=>
   obtain⟨q,rfl,hqk,hB⟩:=hrel;clear hF hA;have hA:=hB;clear hB;by_cases hq7:q < 7
   · have hix:∀w,(Instr.index 49 (.agg #[.int .i64 b.d0,.int .i64 b.d1,.int .i64 b.d2,.int .i64 b.d3,.int .i64 b.d4,.int .i64 b.d5,.int .i64 b.d6]) (.int .i64 q)).run Tryz.prog w=.ok (.int .i64 (b.dep q)) w:=fun w=>ZnD (fun q=>b.dep q) q hq7 w
     have hcf:wr.cell? ⟨bF,q,none⟩=some (.int .i64 (f.at q)):=by
      have hb:Zaa wr bF f.cells 62:=hA.get (A:=Part.cells bF f.cells 62) sR;rw[hb.cell];exact f7_get f hq7
     have hdq:=hd'.out q hq7;have hsc:=Hd (ZhZ f b q);have hll:=hlen'.out q;generalize b.dep q=dq at *
     generalize f.at q=fq at *
     generalize ZcO f b q=l at *
     obtain⟨ax,cap,hv9,hax,hcp,_⟩:=hA.row_form .here;have hax':=Hd hax;subst hv9;clear hax;obtain⟨hA,hF⟩:=fZ hA;by_cases hlt:fq < dq
     · have hwr:IntKind.i64.wrap (dq - 1)=dq - 1:=by rw[IntKind.wrap_i64]<;>omega
       rw[if_pos hlt] at hsc
       go_wp2_with (first|((with_reducible show wpList _ _ _ ({dst:=_,op:=Op.buildSlice _ _ _,type:=_,pos:=_,after:=_,guard:=_}::_) _ _);refine ZaO (e:=33) (vs:=idL ((q:Int),dq - 1)) rfl rfl (by(try simp only[Act.eval,eV])<;>exact rfl) (fun _=>by kernel_rfl) hA ?_;intro b39 w1 hB hb39;replace hA:=hB;clear hF hB;obtain⟨hA,hF⟩:=fZ hA)|((with_reducible show wpList _ _ _ ({dst:=_,op:=Op.call {callee:=Callee.builtin Builtin.append,args:=_,argTypes:=_},type:=_,pos:=_,after:=_,guard:=_}::_) _ _);refine Zal (e:=33) (size:=2) (v:=.slice ax l.length cap) (xs:=flatI l) (n:=l.length) (m:=1) (news:=idL ((q:Int),dq - 1)) rfl _ _ 55 rfl Tryz.underlying55 hi0 hz0 hz1 hz2 rfl (by omega) hA sR (by(try simp only[Act.eval,eV])<;>exact rfl) (by(try simp only[Act.eval,eV])<;>exact rfl) rfl (hA.cells_reads sR _ _) (idL_one _) (by unfold maxLen;omega) (by omega) ?_;intro v1 w1 hB;rw[ZdK] at hB;replace hA:=hB;clear hF hB;obtain⟨hA,hF⟩:=fZ hA))
       go_roundg (gk - 1);case measure=>omega
       case rel=>exact⟨q + 1,by simp,by omega,by rw[hsc.out];exact hA.pick pZ⟩
     rw[if_neg hlt,List.append_nil] at hsc;go_wp2_with fail;go_roundg (gk - 1);case measure=>omega
     case rel=>exact⟨q + 1,by simp,by omega,by rw[hsc.out];exact hA.pick pZ⟩
   have hq2:q=7:=by omega
   subst hq2;obtain⟨hA,hF⟩:=fZ hA;go_wp2_with fail;go_ret;exact⟨_,rfl,(fold0 hA sZ sZ).only2 sZ sZ⟩
end Gr
end
end Go.Proofs.YtbeckijoabapkaaGreatDoor
