/- LeaseG, TabDa, LodB, LodC, LodD, joined. -/
import Derived.Test.YtkdjkngfnapjcaaGreatDoorQ9
import Derived.Test.YtkdjkngfnapjcaaGreatDoorQ17
import Derived.Test.YtkdjkngfnapjcaaGreatDoorQ24
import Derived.Test.YtkdjkngfnapjcaaGreatDoorQ23
set_option linter.unusedSimpArgs false
set_option linter.unusedVariables false
set_option maxRecDepth 100000
set_option maxHeartbeats 16000000
namespace Go.Proofs.YtkdjkngfnapjcaaGreatDoor
section
namespace Lease
open Go.RowKit
theorem Rel.turned {ss ss':List Ses} {L:List SR} {n:Int} {f:ByteArray} {g:Ses→Ses} {ga:SR→SR} (h:Rel ss L) (ht:ZaQ ss n f g ss') (hg:∀s,keyE (g s)=keyE s) (hr:∀s a,RelS s a→s=Lease.look ss n f∨find ss n f=none→a=findR L n f→RelS (g s) (ga a)):Rel ss' (putR L (ga (findR L n f))):=by
 rcases ht with⟨l1,s,l2,hf,rfl,rfl⟩|⟨hf,b,t,rfl⟩
 · rcases h.both n f with⟨q,_,_⟩|⟨s',a,q1,q2,q3,q4,q5⟩
   · rw[q] at hf;cases hf
   rw[q1] at hf;cases hf;rw[q4];exact h.put_old (hg s) (hr s a q5 (.inl (by unfold Lease.look;rw[q1];rfl)) q4.symm)
 rcases h.both n f with⟨q,_,q3⟩|⟨s',a,q1,_⟩
 · rw[q3]
   have hk:=hg (fresh n f b t);have h1:(g (fresh n f b t)).num=n:=congrArg Prod.fst hk;have h2:(g (fresh n f b t)).foot=f:=congrArg Prod.snd hk;exact h.put_new (by rw[h1,h2];exact hf) (hr _ _ (RelS.none n f b t) (.inr q) q3.symm)
 rw[q1] at hf;cases hf
section
variable {ss:List Ses} {L:List SR} {n:Int} {f:ByteArray} (h:Rel ss L)
include h
theorem Rel.openE:Lease.openE (Lease.look ss n f) (Lease.cnt ss f)=ZiA (findR L n f) (cntR L f):=by
 have r:=h.look n f;unfold Lease.openE ZiA;rw[r.dead,r.op,h.cnt]
theorem Rel.expE (time:Int):expB (Lease.look ss n f) time=Lease.expE (findR L n f) time:=by
 have r:=h.look n f;unfold expB Lease.expE;rw[r.op,r.dl]
end
theorem RelS.opened {s:Ses} {a:SR} (h:RelS s a) (ttl time:Int) (hd:a.dead=false):RelS (s.opened ttl time) (a.opened ttl time):=
 ⟨h.num,h.foot,rfl,hd.symm,rfl,rfl,h.told,Zer ttl,Zer _⟩
theorem ZkR {t:Int} (h:0≤t∧t≤2199023255552):cutI t=t:=by unfold cutI;rw[if_neg (by omega),if_neg (by omega)]
theorem RelS.kept {s:Ses} {a:SR} (h:RelS s a) (time:Int):RelS (s.kept time) (a.kept time):=by
 have e:endI time s.ttl=cutI (cutI time + a.ttl):=by unfold endI;rw[h.ttl,ZkR h.tb]
 refine⟨h.num,h.foot,h.op,h.dead,?_,h.ttl,h.told,h.tb,by
  have h1:=h.db;have h2:=Zer (cutI time + a.ttl);unfold SR.kept;simp only
  split<;>omega⟩
 show(if s.dl < endI time s.ttl then endI time s.ttl else s.dl)=_;rw[e,h.dl]
 rfl
theorem RelS.ended {s:Ses} {a:SR} (h:RelS s a):RelS s.ended a.ended:=⟨h.num,h.foot,rfl,rfl,rfl,rfl,h.told,by simp[SR.ended],by simp[SR.ended]⟩
theorem RelS.tell {s:Ses} {a:SR} (h:RelS s a) {x:AR} (hn:saidA a.told x.r=Option.none) (hl:a.told.length < 256) (hb:0≤x.r∧x.r < big64) (ha:okA x) (ax:Option Addr) (cap:Nat):RelS (s.tell x.r (arP x).2) {a with ax:=ax,cap:=cap,told:=insA a.told x}:=
 ⟨h.num,h.foot,h.op,h.dead,h.dl,h.ttl,h.told.tell hn hl hb ha,h.tb,h.db⟩
theorem RelS.tellE {s:Ses} {a:SR} (h:RelS s a) (r:Int):Lease.tellE s r=if(saidA a.told r).isSome then 1 else if 256≤a.told.length then 1 else 0:=by
 unfold Lease.tellE;rw[h.told.said,h.told.size]
 cases saidA a.told r<;>rfl
end Lease
end
section
namespace Tab
open Lease (Ses Ans fresh ZaQ SR AR Rel RelS putR findR saidA insA arP okA)
open Lock (S3 Ent)
open Cmd (Cm ZaA)
theorem Zho (S:List Ses) (n:Int) (f:ByteArray) (g:Ses→Ses):ZaQ S n f g (updA g n f S):=by
 cases h:Lease.find S n f with
 |none=>exact .inr ⟨h,0,0,Zfj h⟩
 |some s=>
  obtain⟨l1,l2,rfl,h1,h2,h3⟩:=Lease.find_split h;exact .inl ⟨l1,s,l2,h,rfl,Zhm (by unfold Lease.Ses.is;simp[h1,h2]) h3⟩
section
variable {S:List Ses} {L:List SR} {n:Int} {f:ByteArray} (h:Rel S L)
include h
theorem Zfy {g:Ses→Ses} {ga:SR→SR} (hg:∀s,Lease.keyE (g s)=Lease.keyE s) (hr:∀s a,RelS s a→s=lookA S n f∨Lease.find S n f=none→a=findR L n f→RelS (g s) (ga a)):Rel (updA g n f S) (putR L (ga (findR L n f))):=
 h.turned (Zho S n f g) hg hr
theorem Zcn:RelS (lookA S n f) (findR L n f):=h.look n f
theorem Ziq (ttl time:Int) (he:Lease.openE (lookA S n f) (Lease.cnt S f)=0):Rel (updA (fun s=>s.opened ttl time) n f S) (putR L ((findR L n f).opened ttl time)):=by
 have hd:(findR L n f).dead=false:=by
  have h1:Lease.openE (Lease.look S n f) (Lease.cnt S f)=0:=he;rw[h.openE] at h1;unfold Lease.ZiA at h1
  cases hq:(findR L n f).dead with
  |false=>rfl
  |true=>rw[hq,if_pos rfl] at h1;cases h1
 exact Zfy (ga:=fun a=>a.opened ttl time) h (fun _=>rfl) fun s a q _ e=>q.opened ttl time (by rw[e];exact hd)
theorem Zir (time:Int):Rel (updA (fun s=>s.kept time) n f S) (putR L ((findR L n f).kept time)):=
 Zfy (ga:=fun a=>a.kept time) h (fun _=>rfl) fun s a q _ _=>q.kept time
theorem Zj8:Rel (updA Ses.ended n f S) (putR L (findR L n f).ended):=
 Zfy (ga:=SR.ended) h (fun _=>rfl) fun s a q _ _=>q.ended
theorem Zim {x:AR} (hn:saidA (findR L n f).told x.r=none) (hl:(findR L n f).told.length < 256) (hb:0≤x.r∧x.r < Lease.big64) (ha:okA x) (ax:Option Addr) (cap:Nat):
 Rel (updA (fun s=>s.tell x.r (arP x).2) n f S) (putR L {findR L n f with ax:=ax,cap:=cap,told:=insA (findR L n f).told x}):=
 Zfy (ga:=fun a=>{a with ax:=ax,cap:=cap,told:=insA a.told x}) h (fun _=>rfl) fun s a q _ e=>q.tell (by rw[e];exact hn) (by rw[e];exact hl) hb ha ax cap
theorem Zgw:Lease.openE (lookA S n f) (Lease.cnt S f)=Lease.ZiA (findR L n f) (Lease.cntR L f):=h.openE
theorem Zis (time:Int):Lease.expB (lookA S n f) time=Lease.expE (findR L n f) time:=h.expE time
theorem ZmW:(lookA S n f).op=(findR L n f).op:=(Zcn h).op
theorem Zip (r:Int):Lease.said (lookA S n f).told r=(saidA (findR L n f).told r).map (fun x=>(arP x).2):=(Zcn h).told.said r
theorem Zio:(lookA S n f).told.length=(findR L n f).told.length:=(Zcn h).told.size
end
def arA (r:Int) (a:Ans):AR:=⟨r,a.e,a.n,a.g⟩
end Tab
end
section
namespace Tab
open Path (bl Zad overB Zaw)
open Lease (Ses Ans fresh SR AR Rel RelS putR findR saidA insA arP okA Srd serd)
open Lock (S3 Ent)
open Cmd (Cm ZaA)
open Wire (nz SzOk ArOk EntOk CntOk ZaX Zaq entsV entsS cntsV cntsS Byt)
def SEq (S S':List Ses):Prop:=∃L,Rel S L∧Rel S' L
structure UEq (t u:TS):Prop where
 S:SEq t.S u.S
 L:LEq t.L u.L
theorem SEq.op {S S':List Ses} (h:SEq S S') (n:Int) (f:ByteArray):(lookA S n f).op=(lookA S' n f).op:=by
 obtain⟨L,r1,r2⟩:=h;rw[ZmW r1,ZmW r2]
theorem SEq.opened {S S':List Ses} (h:SEq S S') (n:Int) (f:ByteArray):Lease.openE (lookA S n f) (Lease.cnt S f)=Lease.openE (lookA S' n f) (Lease.cnt S' f):=by
 obtain⟨L,r1,r2⟩:=h;rw[Zgw r1,Zgw r2]
theorem SEq.exp {S S':List Ses} (h:SEq S S') (n:Int) (f:ByteArray) (time:Int):Lease.expB (lookA S n f) time=Lease.expB (lookA S' n f) time:=by
 obtain⟨L,r1,r2⟩:=h;rw[Zis r1,Zis r2]
theorem SEq.said {S S':List Ses} (h:SEq S S') (n:Int) (f:ByteArray) (r:Int):Lease.said (lookA S n f).told r=Lease.said (lookA S' n f).told r:=by
 obtain⟨L,r1,r2⟩:=h;rw[Zip r1,Zip r2]
theorem SEq.size {S S':List Ses} (h:SEq S S') (n:Int) (f:ByteArray):(lookA S n f).told.length=(lookA S' n f).told.length:=by
 obtain⟨L,r1,r2⟩:=h;rw[Zio r1,Zio r2]
theorem SEq.tellE {S S':List Ses} (h:SEq S S') (n:Int) (f:ByteArray) (r:Int):Lease.tellE (lookA S n f) r=Lease.tellE (lookA S' n f) r:=by
 obtain⟨L,r1,r2⟩:=h;rw[(Zcn r1).tellE,(Zcn r2).tellE]
theorem ZiS {t u:TS} (h:UEq t u) (hk:CK t.L.cs) (c:Cm) (e:Int):UEq (endT t c e) (endT u c e):=by
 unfold endT
 split
 · obtain⟨L,r1,r2⟩:=h.S
   exact⟨⟨_,Zj8 r1,Zj8 r2⟩,h.L.run hk (.drop c.num c.foot)⟩
 exact h
theorem ZmL {t u:TS} (h:UEq t u) (hk:CK t.L.cs) (c:Cm):(addT t c).2=(addT u c).2∧UEq (addT t c).1 (addT u c).1:=by
 have h1:=h.L.loc hk c.path c.num c.foot;unfold addT S3.add;rw[←h1.may,←h1.newE,←h1.could]
 by_cases hy:t.L.may c.path c.num c.foot c.mode=0
 · rw[if_pos hy,if_pos hy,if_pos hy]
   refine⟨rfl,h.S,?_⟩;have h2:=h.L.run hk (.add (t.L.newE c.path c.num c.foot c.mode));unfold LE.run at h2;unfold S3.added;rw[←h1.newE,←h1.ctr];exact h2
 rw[if_neg hy,if_neg hy,if_neg hy]
 exact⟨rfl,h⟩
theorem Zjq {t u:TS} (h:UEq t u) (hk:CK t.L.cs) (c:Cm):(ZaN t c).2=(ZaN u c).2∧UEq (ZaN t c).1 (ZaN u c).1:=by
 have h1:=h.L.loc hk c.path c.num c.foot
 have hm:mayT t c=mayT u c:=by unfold mayT;rw[h.S.op]
 have ha:=ZmL h hk c;unfold ZaN;rw[←hm]
 by_cases q0:mayT t c≠0
 · rw[if_pos q0,if_pos q0];exact⟨rfl,h⟩
 rw[if_neg q0,if_neg q0]
 by_cases q4:c.kind=4
 · rw[if_pos q4,if_pos q4];exact ha
 rw[if_neg q4,if_neg q4]
 by_cases q5:c.kind=5
 · rw[if_pos q5,if_pos q5]
   unfold tryT;rw[←h1.could,←h1.may]
   by_cases qc:Lock.ZaO t.L.es c.path c.mode=true
   · rw[if_pos qc,if_pos qc];exact ha
   rw[if_neg qc,if_neg qc]
   by_cases qm:t.L.may c.path c.num c.foot c.mode=0
   · rw[if_pos qm,if_pos qm];exact⟨rfl,h⟩
   rw[if_neg qm,if_neg qm];exact⟨rfl,h⟩
 rw[if_neg q5,if_neg q5]
 by_cases q6:c.kind=6
 · rw[if_pos q6,if_pos q6,←h1.find]
   exact⟨rfl,h.S,h.L.run hk (.rem c.path c.num c.foot)⟩
 rw[if_neg q6,if_neg q6,Zcq h.L.es]
 exact⟨rfl,h⟩
theorem ZnV {t u:TS} (h:UEq t u) (hk:CK t.L.cs) (c:Cm):(doT t c).2=(doT u c).2∧UEq (doT t c).1 (doT u c).1:=by
 unfold doT
 by_cases q1:c.kind=1
 · rw[if_pos q1,if_pos q1,←h.S.opened]
   refine⟨rfl,?_⟩;unfold opT;simp only
   by_cases he:Lease.openE (lookA t.S c.num c.foot) (Lease.cnt t.S c.foot)=0
   · rw[if_pos he,if_pos he]
     have he2:=h.S.opened c.num c.foot ▸ he;obtain⟨L,r1,r2⟩:=h.S;exact⟨⟨_,Ziq r1 _ _ he,Ziq r2 _ _ he2⟩,h.L⟩
   rw[if_neg he,if_neg he];exact h
 rw[if_neg q1,if_neg q1]
 by_cases q2:c.kind=2
 · rw[if_pos q2,if_pos q2,←h.S.op]
   exact⟨rfl,ZiS h hk c _⟩
 rw[if_neg q2,if_neg q2]
 by_cases q3:c.kind=3
 · rw[if_pos q3,if_pos q3,←h.S.op]
   refine⟨rfl,?_⟩;unfold opT;simp only
   by_cases he:(if(lookA t.S c.num c.foot).op=true then(0:Int) else 50)=0
   · rw[if_pos he,if_pos he]
     obtain⟨L,r1,r2⟩:=h.S;exact⟨⟨_,Zir r1 _,Zir r2 _⟩,h.L⟩
   rw[if_neg he,if_neg he];exact h
 rw[if_neg q3,if_neg q3];exact Zjq h hk c
theorem Zhb {t u:TS} (h:UEq t u) {k:Nat} (hi:Lock.Inv t.L k) (hs:SAll t.S) {c:Cm} (hq:0≤c.req∧c.req < Lease.big64):(Zat t c).2=(Zat u c).2∧UEq (Zat t c).1 (Zat u c).1:=by
 have hd:=ZnV h hi.ckeys c;obtain⟨ha,_⟩:=Zm2 hi hs c;unfold Zat
 by_cases q0:ZaA c=false∨c.kind=0
 · rw[if_pos q0,if_pos q0];exact⟨rfl,h⟩
 rw[if_neg q0,if_neg q0]
 by_cases q8:c.kind=8
 · rw[if_pos q8,if_pos q8,←h.S.exp]
   exact⟨rfl,ZiS h hi.ckeys c _⟩
 rw[if_neg q8,if_neg q8,←h.S.said,←h.S.size]
 cases Lease.said (lookA t.S c.num c.foot).told c.req with
 |some a=>exact⟨rfl,h⟩
 |none=>
  simp only
  by_cases q:256≤(lookA t.S c.num c.foot).told.length
  · rw[if_pos q,if_pos q];exact⟨rfl,h⟩
  rw[if_neg q,if_neg q];refine⟨hd.1,?_⟩;obtain⟨hS,hL⟩:=hd.2;unfold tellT opT;rw[←hS.tellE]
  by_cases he:Lease.tellE (lookA (doT t c).1.S c.num c.foot) c.req=0
  · rw[if_pos he,if_pos he,←hd.1]
    obtain⟨L,r1,r2⟩:=hS;have h3:=(Zcn r1 (n:=c.num) (f:=c.foot)).tellE c.req;rw[he] at h3
    have hn:saidA (findR L c.num c.foot).told c.req=none:=by
     cases hx:saidA (findR L c.num c.foot).told c.req with
     |none=>rfl
     |some x=>rw[hx] at h3;simp at h3
    have hl:(findR L c.num c.foot).told.length < 256:=by
     rw[hn] at h3;simp only[Option.isSome_none,Bool.false_eq_true,if_false] at h3
     by_cases z:256≤(findR L c.num c.foot).told.length
     · rw[if_pos z] at h3;omega
     omega
    have hoa:okA (arA c.req (doT t c).2):=⟨ha.e,ha.n⟩
    exact⟨⟨_,Zim r1 (x:=arA c.req (doT t c).2) hn hl hq hoa none 0,Zim r2 (x:=arA c.req (doT t c).2) hn hl hq hoa none 0⟩,hL⟩
  rw[if_neg he,if_neg he];exact⟨hS,hL⟩
theorem ZlS {l:List Cm} (hl:∀c ∈ l,CmOk c∧0≤c.req∧c.req < Lease.big64):∀{t u:TS} {k:Nat},UEq t u→Good t k→SAll t.S→toldT t l=toldT u l∧UEq (playT t l) (playT u l):=by
 induction l with
 |nil=>exact fun h _ _=>⟨rfl,h⟩
 |cons c l ih=>
  intro t u k h hg hs;have hc:=hl c (by simp);obtain⟨h1,h2⟩:=Zhb (c:=c) h hg.inv.lock hs hc.2;obtain⟨h3,h4⟩:=ih (fun x hx=>hl x (by simp[hx])) h2 (hg.apply hc.1) (Zhd hg.inv.lock hs c hc.2);exact⟨by unfold toldT;rw[h1,h3],h4⟩
structure LdS (s:Ses):Prop where
 foot:Zad (bl s.foot)=true
 od:(s.op&&s.dead)=false
 no:s.op=false→s.dl=0∧s.ttl=0
 ans:∀x ∈ s.told,0≤x.2.e∧x.2.e≤1000
structure LdT (t:TS):Prop where
 S:∀s ∈ t.S,LdS s
 E:∀e ∈ t.L.es,Zad (bl e.foot)=true
theorem ZhH {S:List Ses} (h:∀s ∈ S,LdS s) {n:Int} {f:ByteArray} (hf:Zad (bl f)=true):LdS (lookA S n f):=by
 unfold lookA
 cases hq:Lease.find S n f with
 |none=>exact⟨hf,rfl,fun _=>⟨rfl,rfl⟩,nofun⟩
 |some s=>exact h s (List.mem_of_find?_eq_some hq)
theorem Zia {S:List Ses} (h:∀s ∈ S,LdS s) {g:Ses→Ses} {n:Int} {f:ByteArray} (hg:LdS (g (lookA S n f))):∀s ∈ updA g n f S,LdS s:=fun s hs=>by
 rcases ZhG hs with rfl|hs
 · exact hg
 exact h s hs
theorem ZkN {t:TS} (h:LdT t) {c:Cm} (hf:Zad (bl c.foot)=true) (e:Int):LdT (endT t c e):=by
 unfold endT
 split
 · have hl:=ZhH h.S (n:=c.num) hf
   exact⟨Zia h.S ⟨hl.foot,rfl,fun _=>⟨rfl,rfl⟩,hl.ans⟩,fun e he=>h.E e (List.mem_filter.1 he).1⟩
 exact h
theorem Zld {t:TS} (h:LdT t) {c:Cm} (hf:Zad (bl c.foot)=true):LdT (addT t c).1:=by
 refine⟨h.S,fun e he=> ?_⟩;have he:e ∈ (t.L.add c.path c.num c.foot c.mode).es:=he;unfold S3.add at he
 split at he
 · rcases List.mem_append.1 he with he|he
   · exact h.E e he
   rw[List.mem_singleton.1 he];exact hf
 exact h.E e he
theorem doT_ld {t:TS} (h:LdT t) {c:Cm} (hf:Zad (bl c.foot)=true):LdT (doT t c).1:=by
 have hl:=ZhH h.S (n:=c.num) hf;unfold doT
 split
 · unfold opT
   simp only
   split
   · rename_i he
     have hd:(lookA t.S c.num c.foot).dead=false:=by
      unfold Lease.openE at he
      cases q:(lookA t.S c.num c.foot).dead with
      |false=>rfl
      |true=>rw[q,if_pos rfl] at he;cases he
     exact⟨Zia h.S ⟨hl.foot,(by unfold Lease.Ses.opened;simp[hd]),(fun q=>by unfold Lease.Ses.opened at q;cases q),hl.ans⟩,h.E⟩
   exact h
 split
 · exact ZkN h hf _
 split
 · unfold opT
   simp only
   split
   · rename_i he
     have ho:(lookA t.S c.num c.foot).op=true:=by
      cases q:(lookA t.S c.num c.foot).op with
      |true=>rfl
      |false=>rw[q] at he;simp at he
     exact⟨Zia h.S ⟨hl.foot,hl.od,(fun q=>by have q:(lookA t.S c.num c.foot).op=false:=q;rw[ho] at q;cases q),hl.ans⟩,h.E⟩
   exact h
 unfold ZaN
 split
 · exact h
 split
 · exact Zld h hf
 split
 · unfold tryT
   split
   · exact Zld h hf
   split
   · exact h
   exact h
 split
 · exact⟨h.S,fun e he=>h.E e (List.mem_filter.1 he).1⟩
 exact h
theorem doT_e {t:TS} (c:Cm):0≤(doT t c).2.e∧(doT t c).2.e≤1000:=by
 have hE:∀e:Int,0≤e∧e≤1000→0≤(ansE e).e∧(ansE e).e≤1000:=fun e h=>h
 have hadd:0≤(addT t c).2.e∧(addT t c).2.e≤1000:=by
  unfold addT;simp only
  split
  · simp
  exact hE _ (ZcT _ _ _ _ _)
 unfold doT
 split
 · exact hE _ (Zeg _ _)
 split
 · exact hE _ (by split<;>omega)
 split
 · exact hE _ (by split<;>omega)
 unfold ZaN
 split
 · exact hE _ (ZeU _ _)
 split
 · exact hadd
 split
 · unfold tryT
   split
   · exact hadd
   split
   · exact hE _ (by omega)
   exact hE _ (ZcT _ _ _ _ _)
 split
 · exact hE _ (by split<;>omega)
 exact hE _ (by split<;>omega)
theorem ZmF {t:TS} (h:LdT t) (c:Cm):LdT (Zat t c).1:=by
 by_cases hl:Live c
 case neg=>rw[Zcp hl];exact h
 have hf:=(ZfQ hl.right hl.kind).1;unfold Zat
 split
 · exact h
 split
 · exact ZkN h hf _
 split
 · exact h
 split
 · exact h
 have hd:=doT_ld h hf (c:=c);have hk:=ZhH hd.S (n:=c.num) hf;unfold tellT opT
 split
 · refine⟨Zia hd.S ⟨hk.foot,hk.od,hk.no,fun x hx=> ?_⟩,hd.E⟩
   have hx:x ∈ (lookA (doT t c).1.S c.num c.foot).told++[(c.req,(doT t c).2)]:=hx
   rcases List.mem_append.1 hx with hx|hx
   · exact hk.ans x hx
   rw[List.mem_singleton.1 hx];exact doT_e c
 exact hd
theorem Zhz:∀(l:List Cm) {t:TS},LdT t→LdT (playT t l)
 |[],_,h=>h
 |c::l,_,h=>Zhz l (ZmF h c)
theorem new_ld (first:Int):LdT ⟨[],⟨first,[],[]⟩⟩:=⟨nofun,nofun⟩
theorem ZbP {p:ByteArray} (h:Zad (bl p)=true):p.size≤64:=by
 unfold Zad at h;have h1:=of_decide_eq_true (Bool.and_eq_true_iff.1 h).2;exact h1
theorem sz_of {S:List Ses} {L:List SR} (h:Rel S L) (hs:∀s ∈ S,LdS s) (hn:∀s ∈ S,0≤s.num∧s.num < Lease.big64):∀a ∈ L,SzOk a:=fun a ha=>by
 obtain⟨s,hm,hk⟩:=List.mem_map.1 (h.keys.mem_iff.2 (List.mem_map.2 ⟨a,ha,rfl⟩));have e:=h.each s hm a ha hk;have l:=hs s hm;have n:=hn s hm;refine⟨by rw[←e.num];exact n,by rw[←e.foot];exact ZbP l.foot,e.db,e.tb,e.told.len,e.told.srt,fun x hx=> ?_,by rw[←e.op,←e.dead];exact l.od,fun q=>by rw[←e.dl,←e.ttl];exact l.no (by rw[e.op];exact q)⟩;have h1:=e.told.bd x hx;have h2:=e.told.an x hx;have h3:=l.ans (arP x) (e.told.perm.mem_iff.2 (List.mem_map.2 ⟨x,hx,rfl⟩));have h3:0≤x.e∧x.e≤1000:=h3;exact⟨h1,by omega,h2.2⟩
theorem back {T:TS} {k:Nat} (hi:TInv T k) (hl:LdT T) (hk:k≤400) {L:List SR} (hL:Rel T.S L) {lb:List Int} (hb:Za8 T L lb):
 ∃(es:List Ent) (cs:List (ByteArray × Int)),(es.Perm T.L.es∧es.Pairwise Lock.ltE∧cs.Perm T.L.cs∧cs.Pairwise Lock.ltC)∧finL T.L.first lb=0∧ZaX ⟨lb,0⟩=L.map nz∧entsV (Zaq ⟨lb,0⟩)=es∧cntsV T.L.first (entsS (Zaq ⟨lb,0⟩))=cs:=by
 obtain⟨es,cs,⟨p1,p2,p3,p4⟩,rfl⟩:=hb
 have hlen:L.length≤800:=by have h1:=hi.s.len;have h2:=hL.len;omega
 have hel:es.length≤400:=by rw[p1.length_eq];have:=hi.lock.len;omega
 have hcl:cs.length≤400:=by rw[p3.length_eq];have:=hi.lock.clen;omega
 obtain⟨a1,a2⟩:=Wire.Zl8 (r:=Lock.encB es cs) hL.srt (sz_of hL hl.S hi.s.num) (by omega)
 have hEo:∀e ∈ es,EntOk e:=fun e he=>by
  have hm:=p1.mem_iff.1 he;have i:=hi.lock;have h1:=i.stamp0 e hm;have h2:=i.stamp1 e hm;have h3:=i.n1 e hm;have h4:=i.right e hm;refine⟨?_,ZbP h4,⟨i.num0 e hm,i.num1 e hm⟩,ZbP (hl.E e hm),⟨i.n0 e hm,by unfold Lock.lastN at h3;omega⟩,by omega,by omega⟩;unfold Lock.ZaR;rw[h4]
  rcases i.mode e hm with q|q<;>rw[q]<;>rfl
 have hCo:∀c ∈ cs,CntOk T.L.first c:=fun c hc=>by
  have hm:=p3.mem_iff.1 hc;have i:=hi.lock;have h1:=i.c0 c hm;have h2:=i.c1 c hm;have h3:=i.first0;exact⟨i.cright c hm,ZbP (i.cright c hm),⟨by omega,by unfold Lock.lastN at h2;omega⟩,by omega⟩
 have hkk:es.Pairwise (fun a b=>¬(a.path=b.path∧a.num=b.num∧a.foot=b.foot)):=
  hi.lock.keys.perm p1.symm fun {a b} q e=>q ⟨e.1.symm,e.2.1.symm,e.2.2.symm⟩
 obtain⟨b1,b2,b3⟩:=Wire.Zl6 p2 hkk hEo p4 hCo (by omega) (by omega);refine⟨es,cs,⟨p1,p2,p3,p4⟩,?_,a1,by rw[a2];exact b1,by rw[a2];exact b2⟩;unfold finL;rw[a2,b3]
 rfl
theorem ZmX {S:List Ses} {L:List SR} (h:Rel S L):Rel S (L.map nz) where
 keys:=by rw[List.map_map];exact h.keys
 srt:=List.pairwise_map.2 h.srt
 each:=fun s hs a ha e=>by
  obtain⟨x,hx,rfl⟩:=List.mem_map.1 ha;have r:=h.each s hs x hx e;exact⟨r.num,r.foot,r.op,r.dead,r.dl,r.ttl,r.told,r.tb,r.db⟩
theorem rel_zs {S:List Ses} {L:List SR} (h:Rel S L):Rel (S.map zs) L where
 keys:=by rw[List.map_map];exact h.keys
 srt:=h.srt
 each:=fun s hs a ha e=>by
  obtain⟨x,hx,rfl⟩:=List.mem_map.1 hs;have r:=h.each x hx a ha e;exact⟨r.num,r.foot,r.op,r.dead,r.dl,r.ttl,r.told,r.tb,r.db⟩
theorem Zjr {T:TS} {L:List SR} (hL:Rel T.S L) (hz:∀a ∈ L,SzOk a) {ss:List Ses} (h:Srd ss (L.map nz)) {es:List Ent} {cs:List (ByteArray × Int)} (p1:es.Perm T.L.es) (p3:cs.Perm T.L.cs):UEq T ⟨ss.map zs,⟨T.L.first,es,cs⟩⟩:=by
 have hz2:∀a ∈ L.map nz,Wire.SrOk a:=fun a ha=>by
  obtain⟨x,hx,rfl⟩:=List.mem_map.1 ha;have o:=hz x hx;refine⟨o.num,o.foot,o.dl,o.ttl,o.len,o.told,fun y hy=> ?_,?_⟩
  · have:=o.ans y hy
    exact⟨this.r.1,this.r.2,this.e.1,this.e.2,this.n.1,this.n.2⟩
  show Wire.badI x.op x.dead x.dl.toNat x.ttl.toNat=false;unfold Wire.badI;rw[o.od]
  cases ho:x.op with
  |true=>rfl
  |false=>
   obtain⟨z1,z2⟩:=o.no ho;rw[z1,z2]
   rfl
 exact⟨⟨L.map nz,ZmX hL,rel_zs (ZjW h (ZmX hL).srt hz2)⟩,rfl,p1.symm,p3.symm⟩
theorem SInv.seq {S S':List Ses} {m:Nat} (h:SInv S m) (e:SEq S S'):SInv S' m:=by
 obtain⟨L,r1,r2⟩:=e;have hp:(S'.map Lease.keyE).Perm (S.map Lease.keyE):=r2.keys.trans r1.keys.symm
 have hk:∀s ∈ S',∃x ∈ S,Lease.keyE x=Lease.keyE s:=fun s hs=>List.mem_map.1 (hp.mem_iff.1 (List.mem_map.2 ⟨s,hs,rfl⟩))
 exact⟨hp.nodup_iff.2 h.keys,fun s hs=>by
  obtain⟨x,hx,e⟩:=hk s hs
  rw[←(show x.num=s.num from congrArg Prod.fst e)];exact h.num x hx,fun s hs=>by
  obtain⟨x,hx,e⟩:=hk s hs
  rw[←(show x.foot=s.foot from congrArg Prod.snd e)];exact h.foot x hx,by
  have h1:=hp.length_eq;rw[List.length_map,List.length_map] at h1;have:=h.len
  omega⟩
theorem ZjC {l r:List Ent} (h:l.Perm r) (e:Ent):Lock.ZaP l e=Lock.ZaP r e:=Lock.ZcE h e
theorem LkOk.eq {b b':Lock.Bk} (h:LkOk b) (e:LEq b.st b'.st) (hk:CK b.st.cs):LkOk b':=by
 have p:b.es.Perm b'.es:=e.es;refine⟨by rw[←p.length_eq];exact h.len,fun q=> ?_,fun x hx=>h.path x (p.mem_iff.2 hx),fun x hx=>h.stamp x (p.mem_iff.2 hx),fun x hx=>h.num x (p.mem_iff.2 hx),fun x hx=>h.foot x (p.mem_iff.2 hx),fun q n=> ?_⟩
 · have h1:=(e.loc hk q 0 .empty).ctr
   have h2:=h.ctr q;have h1:Lock.counter b.first b.cs q=Lock.counter b'.first b'.cs q:=h1
   omega
 obtain⟨h1,h2⟩:=h.chk q n
 refine⟨fun x hx e1 e2=> ?_,fun hn=> ?_⟩
 · rw[←ZjC p,←Zcq p]
   exact h1 x (p.mem_iff.2 hx) e1 e2
 rw[←Zcq p]
 exact h2 fun x hx=>hn x (p.mem_iff.1 hx)
theorem wk_eq {s s':S3} (h:Lock.Wk s) (e:LEq s s'):Lock.Wk s':=
 ⟨⟨fun x hx=>h.so.right x (e.es.mem_iff.2 hx),fun a ha b hb=>h.so.one a (e.es.mem_iff.2 ha) b (e.es.mem_iff.2 hb)⟩,by rw[←e.es.length_eq];exact h.el,by rw[←e.cs.length_eq];exact h.cl,
  fun x hx=>h.ok x (e.es.mem_iff.2 hx),fun x hx=>h.okc x (e.cs.mem_iff.2 hx),e.cs.pairwise h.ck fun {_ _} q=>q.symm,fun x hx=>h.cr x (e.cs.mem_iff.2 hx)⟩
theorem WkT.eq {ss ss':List Ses} {b b':Lock.Bk} {L:List SR} (h:WkT ss b L) (hr:Rel ss' L) (e:LEq b.st b'.st):WkT ss' b' L:=
 ⟨hr,h.bd,h.len,h.el,wk_eq h.wk e,fun es cs h1 h2=>h.eb es cs (h1.trans e.es.symm) (h2.trans e.cs.symm)⟩
end Tab
end
section
namespace Wire
open Lease (SR AR encA encS encL bB)
open Lock (Ent encE encC encB)
theorem Byt.app {l r:List Int} (h:Byt l) (k:Byt r):Byt (l++r):=fun x hx=>(List.mem_append.1 hx).elim (h x) (k x)
theorem ZdL {α:Type} {f:α→List Int} {l:List α} (h:∀a ∈ l,Byt (f a)):Byt (l.flatMap f):=fun x hx=>by
 obtain⟨a,ha,q⟩:=List.mem_flatMap.1 hx;exact h a ha x q
theorem Za0:∀(k:Nat),Byt (Zaf k):=fun k=>by
 induction k using Nat.strongRecOn with
 |ind k ih=>
  by_cases h:k < 128
  · rw[ZbY h]
    intro x hx;rw[List.mem_singleton.1 hx]
    omega
  rw[Zcm (by omega)];intro x hx
  rcases List.mem_cons.1 hx with rfl|hx
  · omega
  exact ih (k / 128) (by omega) x hx
theorem Zew (v:Nat):Byt (fixL v):=by
 intro x hx;unfold fixL byteN at hx;simp only[List.mem_cons,List.not_mem_nil,or_false] at hx
 rcases hx with rfl|rfl|rfl|rfl|rfl|rfl|rfl|rfl<;>omega
theorem ZdK (s:ByteArray):Byt (textB s):=by
 unfold textB
 refine(Za0 _).app fun x hx=> ?_
 unfold textL at hx;obtain⟨y,_,rfl⟩:=List.mem_map.1 hx;have:=y.toNat_lt
 omega
theorem byt_b (t:Bool):Byt (bB t):=by
 intro x hx;unfold bB at hx;rw[List.mem_singleton.1 hx]
 split<;>omega
theorem Zn2 (s:SR):Byt (encS s):=by
 unfold encS;refine((((((((Zew _).app (ZdK _)).app (byt_b _)).app (byt_b _)).app (Za0 _)).app (Za0 _)).app (Za0 _)).app (ZdL fun a _=> ?_));unfold encA;exact(((Za0 _).app (Za0 _)).app (Zew _)).app (byt_b _)
theorem Zk1 (L:List SR):Byt (encL L):=by
 unfold encL;exact(Za0 _).app (ZdL fun a _=>Zn2 a)
theorem ZmC {es:List Ent} (h:∀e ∈ es,e.mode=1∨e.mode=2) (cs:List (ByteArray × Int)):Byt (encB es cs):=by
 unfold encB;refine(((Za0 _).app (ZdL fun e he=> ?_)).app (Za0 _)).app (ZdL fun c _=> ?_)
 · unfold encE
   refine(((((ZdK _).app (Zew _)).app (ZdK _)).app fun x hx=> ?_).app (Zew _)).app (Za0 _);rw[List.mem_singleton.1 hx]
   rcases h e he with q|q<;>omega
 unfold encC
 exact(ZdK _).app (Zew _)
end Wire
namespace Tab
open Go.RowKit
open _root_.Go.Proofs.YtkdjkngfnapjcaaGreatDoor.Wire
open Path (bl Zad)
open Lease (Ses SR Rel Srd)
open Lock (Ent S3)
open Cmd (Cm ZaA)
theorem ZkY {T:TS} {k:Nat} (hi:Lock.Inv T.L k) {L:List SR} {lb:List Int} (hb:Za8 T L lb):Byt lb:=by
 obtain⟨es,cs,⟨p1,_⟩,rfl⟩:=hb;exact(Zk1 L).app (ZmC (fun e he=>hi.mode e (p1.mem_iff.1 he)) cs)
theorem Zh1 (t:TS) (c:Cm):(Zat t c).1.L.first=t.L.first:=by
 have hop:∀(t:TS) (g:Ses→Ses) (e:Int),(opT t c g e).L.first=t.L.first:=fun t g e=>by unfold opT;split<;>rfl
 have hend:∀(t:TS) (e:Int),(endT t c e).L.first=t.L.first:=fun t e=>by unfold endT;split<;>rfl
 have hadd:(addT t c).1.L.first=t.L.first:=by
  show(t.L.add c.path c.num c.foot c.mode).first=_;unfold S3.add
  split<;>rfl
 have hdo:(doT t c).1.L.first=t.L.first:=by
  unfold doT
  split
  · exact hop _ _ _
  split
  · exact hend _ _
  split
  · exact hop _ _ _
  unfold ZaN
  split
  · rfl
  split
  · exact hadd
  split
  · unfold tryT
    split
    · exact hadd
    split<;>rfl
  split<;>rfl
 unfold Zat
 split
 · rfl
 split
 · exact hend _ _
 split
 · rfl
 split
 · rfl
 exact(hop _ _ _).trans hdo
theorem ZeS:∀(l:List Cm) (t:TS),(playT t l).L.first=t.L.first
 |[],_=>rfl
 |c::l,t=>(ZeS l _).trans (Zh1 t c)
structure Ldk (T:TS) (k:Nat) (first:Int) (L:List SR):Prop where
 inv:TInv T k
 ld:LdT T
 hk:k≤400
 rel:Rel T.S L
 fst:T.L.first=first
theorem Ldk.feet {T:TS} {k:Nat} {first:Int} {L:List SR} (h:Ldk T k first L):Lock.Feet T.L:=fun e he=>by
 have:=ZbP (h.ld.E e he)
 omega
def LdOut (T:TS) (first:Int) (L:List SR) (R:Part) (w:World) (x:Nat→Value) (e:Ending) (w':World):Prop:=
 ∃(t p m q n c:Nat) (ss:List Ses) (es:List Ent) (cs:List (ByteArray × Int)),e=.returned (x t)∧UEq T ⟨ss.map zs,⟨first,es,cs⟩⟩∧At [R] w [TabP t p m ss ⟨q,n,c,first,es,cs⟩,R] w'
theorem ZgH {T:TS} {k:Nat} {first:Int} {L:List SR} (H:Ldk T k first L) {w:World} {v:Value} {lb:List Int} (h:Sep [rowY v lb] w) (hb:Za8 T L lb) (hl:lb.length≤1000000000000):
 Calls Tryz.prog 58 #[.int .u64 first,v] w (LdOut T first L (rowY v lb) w (fun t=>.tuple #[.pointer (some ⟨t,0,none⟩),.int .i64 0])):=by
 obtain⟨es,cs,⟨p1,p2,p3,p4⟩,hf,hV,hE,hC⟩:=back H.inv H.ld H.hk H.rel hb;rw[H.fst] at hf hC;refine(ZiC (first:=first) h (fun w' hw=>ZcR (hw:w'.ownsRow 0 5 1 v lb.length (flatY lb))) (ZkY H.inv.lock hb) hl).mono ?_;rintro e w' (⟨q,_⟩|⟨_,t,p,m,q,n,c,ss,rfl,hs,hT⟩)
 · exact absurd hf q
 rw[hV] at hs;rw[hE,hC] at hT;have hu:=Zjr H.rel (sz_of H.rel H.ld.S H.inv.s.num) hs p1 p3;rw[H.fst] at hu;exact⟨t,p,m,q,n,c,ss,es,cs,rfl,hu,hT⟩
theorem Zmw {T:TS} {k:Nat} {first:Int} {L:List SR} (H:Ldk T k first L) {w:World} {t p m:Nat} {ss:List Ses} {b:Lock.Bk} (h:Sep [TabP t p m ss b] w) (hR:TRel ss b T):
 Calls Tryz.prog 59 #[.pointer (some ⟨t,0,none⟩),.int .u64 first] w (LdOut T first L (TabP t p m ss b) w (fun t=>.pointer (some ⟨t,0,none⟩))):=by
 have hA:=At.start h;have hby:=Hd (fun(w1:World) (q:Sep [TabP t p m ss b] w1)=>Zg8 q hR H.rel H.inv H.feet H.hk);have H':=Hd H;clear h H hR;obtain⟨hA,hF⟩:=fZ hA
 go_enter Tryz.func59,Tryz.ntmps59
 go_wp2_with (first|((with_reducible refine gst ?_);refine wTz hA ?_;clear hF hA;intro w1 hA hF)|((with_reducible refine gbx ?_);refine wCz hA ?_;clear hF hA;intro b1 w1 hA hb1 hF))
 refine(hby.out _ (hA.sep1 (A:=TabP t p m ss b) sZ)).mono ?_;rintro e w1 ⟨v1,lb,rfl,hbo,hlb,hT⟩;have hB:=hA.call1 (A:=TabP t p m ss b) sZ hT;have hld:=Hd (fun(w1:World) (q:Sep [rowY v1 lb] w1)=>ZgH H'.out q hbo (by omega))
 clear hT hbo hlb hby
 clear hF hA;have hA:=hB;clear hB
 try simp only[uA] at hA
 obtain⟨hA,hF⟩:=fZ hA
 go_wp2_with (first|((with_reducible refine gst ?_);refine wTz hA ?_;clear hF hA;intro w1 hA hF)|((with_reducible refine gbx ?_);refine wCz hA ?_;clear hF hA;intro b1 w1 hA hb1 hF))
 refine(hld.out _ (hA.sep1 (A:=rowY v1 lb) sZ)).mono ?_;rintro e w1 ⟨t2,p2,m2,q2,n2,c2,ss2,es,cs,rfl,hu,hT⟩;have hB:=hA.call1 (A:=rowY v1 lb) sZ hT;have hu':=Hd hu;clear hT hu hld H';clear hF hA;have hA:=hB;clear hB
 try simp only[uA] at hA
 obtain⟨hA,hF⟩:=fZ hA
 go_wp2_with (first|((with_reducible refine gst ?_);refine wTz hA ?_;clear hF hA;intro w1 hA hF)|((with_reducible refine gbx ?_);refine wCz hA ?_;clear hF hA;intro b1 w1 hA hb1 hF))
 go_ret;exact⟨t2,p2,m2,q2,n2,c2,ss2,es,cs,rfl,hu'.out,hA.pick pZ⟩
end Tab
end
section
namespace Tab
open Go.RowKit
open Path (bl Zad overB Zaw)
open Lease (Ses Ans fresh ZaQ)
open Lock (S3 Ent)
open Cmd (Cm ZaA)
attribute [-go_sem] run_eql_struct run_neq_struct run_eqGuard_agg
open Wire (rowY)
open Lease (SR Rel)
attribute [local go_sem] ZkE eqlAn neqAn ZnO neqSe
def LoRel (w:World) (t p m t2 p2 m2 tc pc mc:Nat) (sc:List Ses) (dc:Lock.Bk) (v5:Value) (lb:List Int) (T U:TS) (more:List Cm) (k:Nat) (u:Value) (wr:World):Prop:=
 ∃(i:Nat) (ss:List Ses) (b:Lock.Bk) (s2:List Ses) (b2:Lock.Bk),u=.int .i64 i∧i + k=more.length∧TRel ss b (playT T (more.take i))∧TRel s2 b2 (playT U (more.take i))∧At [Part.old w] w [TabP t p m ss b,TabP t2 p2 m2 s2 b2,TabP tc pc mc sc dc,rowY v5 lb,Part.old w] wr
def ApQ (t p m:Nat) (ss:List Ses) (b:Lock.Bk) (T:TS) (x:Value) (w:World) (u:Value) (w':World):Prop:=∃(ss':List Ses) (b':Lock.Bk),u=x∧TRel ss' b' T∧At [TabP t p m ss b] w [TabP t p m ss' b'] w'
theorem TPost.ap {P:Program} {f:FuncId} {args:Array Value} {t p m:Nat} {ss:List Ses} {b:Lock.Bk} {w:World} {T:TS} {x1 x2:Int} {x3:Bool} (h:Calls P f args w (TPost t p m ss b w T ⟨x1,x2,x3⟩)):Calls P f args w fun e w'=>∃u,e=.returned u∧ApQ t p m ss b T (.agg #[.int .i64 x1,.int .u64 x2,.bool x3]) w u w':=
 h.mono fun e w' ⟨ss',b',he,hr,hT⟩=>⟨_,he,ss',b',rfl,hr,hT⟩
theorem Zc8 {T:TS} {k:Nat} {first:Int} {L:List SR} (H:Ldk T k first L) {ss:List Ses} {b:Lock.Bk} (hR:TRel ss b T) {U:TS} (hu:UEq T U) {s2:List Ses} {b2:Lock.Bk} (hR2:TRel s2 b2 U):∃L2,WkT s2 b2 L2∧WkT ss b L2∧Rel T.S L2:=by
 obtain⟨L2,r1,r2⟩:=hu.S;have h1:WkT ss b L2:=ZmS hR r1 H.inv H.feet H.hk;exact⟨L2,h1.eq (Rel.zs (by rw[hR2.S];exact r2)) (by rw[hR.L,hR2.L];exact hu.L),h1,r1⟩
theorem Znu {S:List Ses} {L L2:List SR} (h1:Rel S L) (h2:Rel S L2):Lease.encL L=Lease.encL L2:=by
 have hk:L.map Lease.keyR=L2.map Lease.keyR:=(h1.keys.symm.trans h2.keys).eq_of_pairwise (le:=Sess.ltS) (fun a b _ _ q1 q2=>absurd (Sess.ZaW q1 q2) (Sess.Zbb _)) (List.pairwise_map.2 h1.srt) (List.pairwise_map.2 h2.srt)
 have hl:L.length=L2.length:=by have:=congrArg List.length hk;simpa using this
 unfold Lease.encL;rw[hl]
 congr 1
 rw[List.flatMap_def,List.flatMap_def]
 congr 1
 refine List.ext_getElem (by simpa using hl) fun i q1 q2=> ?_
 rw[List.length_map] at q1 q2;rw[List.getElem_map,List.getElem_map];have ha:L[i] ∈ L:=List.getElem_mem q1;have hb:L2[i] ∈ L2:=List.getElem_mem q2
 have e1:Lease.keyR L[i]=Lease.keyR L2[i]:=by
  have:=congrArg (fun z=>z[i]?) hk
  simpa [q1,q2] using this
 obtain⟨s,hs,hsk⟩:=List.mem_map.1 (h1.keys.mem_iff.2 (List.mem_map.2 ⟨L[i],ha,rfl⟩));have x1:=h1.each s hs _ ha hsk;have x2:=h2.each s hs _ hb (hsk.trans e1)
 have ht:L[i].told=L2[i].told:=by
  have hp:(L[i].told.map Lease.arP).Perm (L2[i].told.map Lease.arP):=x1.told.perm.symm.trans x2.told.perm
  have hi:∀a b:Lease.AR,Lease.arP a=Lease.arP b→a=b:=fun a b q=>by
   obtain⟨a1,a2,a3,a4⟩:=a;obtain⟨b1,b2,b3,b4⟩:=b;unfold Lease.arP at q
   simp at q
   simp[q]
  have hp2:L[i].told.Perm L2[i].told:=by
   have h3:=hp.map (fun z:Int × Ans=>(⟨z.1,z.2.e,z.2.n,z.2.g⟩:Lease.AR));rw[List.map_map,List.map_map] at h3
   have hid:∀l:List Lease.AR,l.map ((fun z:Int × Ans=>(⟨z.1,z.2.e,z.2.n,z.2.g⟩:Lease.AR)) ∘ Lease.arP)=l:=fun l=>by
    conv=>rhs;rw[←List.map_id l]
    exact List.map_congr_left fun _ _=>rfl
   rwa [hid,hid] at h3
  exact hp2.eq_of_pairwise (le:=fun a b:Lease.AR=>a.r < b.r) (fun a b _ _ q1 q2=>by omega) x1.told.srt x2.told.srt
 unfold Lease.encS;rw[ht,←x1.num,←x2.num,←x1.foot,←x2.foot,←x1.op,←x2.op,←x1.dead,←x2.dead,←x1.dl,←x2.dl,←x1.ttl,←x2.ttl]
theorem Zc5 {T U:TS} (hu:LEq T.L U.L) {S:List Ses} {L L2:List SR} (h1:Rel S L) (h2:Rel S L2) {l l2:List Int} (b1:Za8 T L l) (b2:Za8 U L2 l2):l=l2:=by
 refine Ze7 hu (L:=L2) ?_ b2;obtain⟨es,cs,q,rfl⟩:=b1;exact⟨es,cs,q,by rw[Znu h1 h2]⟩
set_option maxRecDepth 1000000 in
theorem loads_law {w:World} {v:Value} {l:List Cm} (hr:ZeA (Part.old w) v l) (hl:l.length≤9223372036854775807) (hv:∀c ∈ l,CmV c) {first:Int} (f0:0≤first) (f1:first < Lock.big64)
 {v3:Value} {more:List Cm} (hr3:ZeA (Part.old w) v3 more) (hl3:more.length≤9223372036854775807) (hv3:∀c ∈ more,CmV c):
 Calls Tryz.prog 9 #[.int .u64 first,v,v3] w fun e w'=>e=.returned (.bool true)∧Below w.heap.size w w':=by
 have hm:Tryz.prog.follows .mixedOrders=true:=by kernel_rfl
 have hA:At [Part.old w] w [Part.old w] w:=At.start ⟨fun _ _=>rfl,trivial,nofun⟩
 have hsm:=fun(w1:World) (q:Sep [Part.old w] w1)=>Zgq q hr hl (fun c hc=>⟨(hv c hc).path,(hv c hc).foot⟩) 40
 have hsm3:=fun(w1:World) (q:Sep [Part.old w] w1)=>Zgq q hr3 hl3 (fun c hc=>⟨(hv3 c hc).path,(hv3 c hc).foot⟩) 20
 have hpl:=fun(hs:Zcd l 40=true) (w1:World) (q:Sep [Part.old w] w1)=>Ziw q f0 f1 hr (by have:=(ZdA (k:=40) hs hv).1;omega) (ZdA (k:=40) hs hv).2
 have hin:=fun(hs:Zcd l 40=true)=>ZdA (k:=40) hs hv
 have hin3:=fun(hs:Zcd more 20=true)=>ZdA (k:=20) hs hv3
 obtain⟨ax,cap,rfl,_,_⟩:=hr w (hA.get .here);obtain⟨ax3,cap3,rfl,_,_⟩:=hr3 w (hA.get .here)
 obtain⟨sb,hsb⟩:∃z,Zcd l 40=z:=⟨_,rfl⟩
 obtain⟨sb3,hsb3⟩:∃z,Zcd more 20=z:=⟨_,rfl⟩
 rw[hsb] at hsm hpl hin;rw[hsb3] at hsm3 hin3;have hsm':=Hd hsm;have hsm3':=Hd hsm3;have hpl':=Hd hpl;have hin':=Hd hin;have hin3':=Hd hin3;have hr3':=Hd hr3;have hf':=Hd (show 0≤first∧first < Lock.big64 from⟨f0,f1⟩);clear hsm hsm3 hpl hin hin3 hsb hsb3 hv hv3 hr hr3 f0 f1;obtain⟨hA,hF⟩:=fZ hA
 go_enter Tryz.func9,Tryz.ntmps9
 go_wp2_with (first|((with_reducible refine gst ?_);refine wTz hA ?_;clear hF hA;intro w1 hA hF)|((with_reducible refine gbx ?_);refine wCz hA ?_;clear hF hA;intro b1 w1 hA hb1 hF))
 refine(Zfb _).mono ?_;rintro e w1 ⟨rfl,hx⟩;replace hA:=hA.ext hx;clear hx hF
 try simp only[uA] at hA
 obtain⟨hA,hF⟩:=fZ hA
 go_wp2_with (first|((with_reducible refine gst ?_);refine wTz hA ?_;clear hF hA;intro w1 hA hF)|((with_reducible refine gbx ?_);refine wCz hA ?_;clear hF hA;intro b1 w1 hA hb1 hF))
 refine(hsm'.out _ (hA.sep1 (A:=Part.old w) sZ)).mono ?_;rintro e w1 ⟨rfl,hT⟩;replace hA:=hA.call1 (A:=Part.old w) sZ hT;clear hT hF
 try simp only[uA] at hA
 obtain⟨hA,hF⟩:=fZ hA;clear hsm';cases sb
 · go_wp2_with (first|((with_reducible refine gst ?_);refine wTz hA ?_;clear hF hA;intro w1 hA hF)|((with_reducible refine gbx ?_);refine wCz hA ?_;clear hF hA;intro b1 w1 hA hb1 hF))
   go_ret;exact⟨rfl,below_old hA sZ⟩
 go_wp2_with (first|((with_reducible refine gst ?_);refine wTz hA ?_;clear hF hA;intro w1 hA hF)|((with_reducible refine gbx ?_);refine wCz hA ?_;clear hF hA;intro b1 w1 hA hb1 hF))
 refine(hsm3'.out _ (hA.sep1 (A:=Part.old w) sZ)).mono ?_;rintro e w1 ⟨rfl,hT⟩;replace hA:=hA.call1 (A:=Part.old w) sZ hT;clear hT hF
 try simp only[uA] at hA
 obtain⟨hA,hF⟩:=fZ hA;clear hsm3';cases sb3
 · go_wp2_with (first|((with_reducible refine gst ?_);refine wTz hA ?_;clear hF hA;intro w1 hA hF)|((with_reducible refine gbx ?_);refine wCz hA ?_;clear hF hA;intro b1 w1 hA hb1 hF))
   go_ret;exact⟨rfl,below_old hA sZ⟩
 go_wp2_with (first|((with_reducible refine gst ?_);refine wTz hA ?_;clear hF hA;intro w1 hA hF)|((with_reducible refine gbx ?_);refine wCz hA ?_;clear hF hA;intro b1 w1 hA hb1 hF))
 refine(hpl'.out (by trivial) _ (hA.sep1 (A:=Part.old w) sZ)).mono ?_;rintro e w1 ⟨t,p,m,ss,b,av,rfl,hR,hT⟩;replace hA:=hA.call1 (A:=Part.old w) sZ hT;clear hT hpl' hF
 try simp only[uA] at hA
 obtain⟨hA,hF⟩:=fZ hA
 obtain⟨T,hTT⟩:∃z,playT ⟨[],⟨first,[],[]⟩⟩ l=z:=⟨_,rfl⟩
 have hi1:=hin'.out (by trivial)
 have hg0:Good ⟨[],⟨first,[],[]⟩⟩ 0:=⟨ZhF hf'.out.1 hf'.out.2,nofun⟩
 have hg:=hg0.play (l:=l) (fun c hc=>(hi1.2 c hc).ok);have hsa:=Zix (l:=l) (fun c hc=>⟨(hi1.2 c hc).ok,(hi1.2 c hc).r0,(hi1.2 c hc).r1⟩) hg0 (fun _ q=>nomatch q);have hld:=Zhz l (new_ld first);have hfs:=ZeS l ⟨[],⟨first,[],[]⟩⟩;rw[hTT] at hR hg hsa hld hfs
 generalize toldT ⟨[],⟨first,[],[]⟩⟩ l=TL at *
 have hll:l.length≤40:=hi1.1;have hml:=(hin3'.out (by trivial)).1;have hin3':=Hd (hin3'.out (by trivial)).2;obtain⟨L,hL⟩:=Zin hg.inv.s.keys hsa
 have H:Ldk T (0 + l.length) first L:=⟨hg.inv,hld,by omega,hL,hfs⟩
 have H':=Hd H;have hg':=Hd hg;have hsa':=Hd hsa;have hR':=Hd hR;have hby:=Hd (fun(w1:World) (q:Sep [TabP t p m ss b] w1)=>Zg8 q hR H.rel H.inv H.feet H.hk);clear hi1 hg0 hg hsa hld hfs hL H hR hin' hf' hTT
 go_wp2_with (first|((with_reducible refine gst ?_);refine wTz hA ?_;clear hF hA;intro w1 hA hF)|((with_reducible refine gbx ?_);refine wCz hA ?_;clear hF hA;intro b1 w1 hA hb1 hF))
 refine(hby.out _ (hA.sep1 (A:=TabP t p m ss b) sZ)).mono ?_;rintro e w1 ⟨v1,lb,rfl,hbo,hbl,hT⟩;have hB:=hA.call1 (A:=TabP t p m ss b) sZ hT;clear hT;have hlb':=Hd hbl;have hbo':=Hd hbo;have hlo:=Hd (fun(w1:World) (q:Sep [rowY v1 lb] w1)=>ZgH H'.out q hbo (by omega));clear hbo hbl;clear hF hA;have hA:=hB;clear hB
 try simp only[uA] at hA
 obtain⟨hA,hF⟩:=fZ hA
 go_wp2_with (first|((with_reducible refine gst ?_);refine wTz hA ?_;clear hF hA;intro w1 hA hF)|((with_reducible refine gbx ?_);refine wCz hA ?_;clear hF hA;intro b1 w1 hA hb1 hF))
 refine(hlo.out _ (hA.sep1 (A:=rowY v1 lb) sZ)).mono ?_;rintro e w1 ⟨t2,p2,m2,q2,nn2,cc2,s2,es,cs,rfl,hu,hT⟩;have hB:=hA.call1 (A:=rowY v1 lb) sZ hT;clear hT hlo
 try simp only[uA] at hB
 obtain⟨b2,hb2⟩:∃z,(⟨q2,nn2,cc2,first,es,cs⟩:Lock.Bk)=z:=⟨_,rfl⟩
 have hR2:TRel s2 b2 ⟨s2.map zs,⟨first,es,cs⟩⟩:=⟨rfl,by rw[←hb2];rfl⟩
 obtain⟨U,hU⟩:∃z,(⟨s2.map zs,⟨first,es,cs⟩⟩:TS)=z:=⟨_,rfl⟩
 rw[hU] at hR2 hu;rw[hb2] at hB;obtain⟨L2,hw2,hw1,hr12⟩:=Zc8 H'.out hR'.out hu hR2;have hbU:=Hd (fun(w1:World) (q:Sep [TabP t2 p2 m2 s2 b2] w1)=>Zcr q hw2);have hoU:=Hd (fun(l2:List Int) (q:Za8 ⟨s2,b2.st⟩ L2 l2)=>Zc5 (U:=⟨s2,b2.st⟩) (by show LEq T.L b2.st;rw[hR2.L];exact hu.L) H'.out.rel hr12 hbo'.out q);have hu':=Hd hu;have hR2':=Hd hR2;clear hb2 hU hu hR2 hw2 hw1 hr12;clear hF hA;have hA:=hB;clear hB
 try simp only[uA] at hA
 obtain⟨hA,hF⟩:=fZ hA
 go_wp2_with (first|((with_reducible refine gst ?_);refine wTz hA ?_;clear hF hA;intro w1 hA hF)|((with_reducible refine gbx ?_);refine wCz hA ?_;clear hF hA;intro b1 w1 hA hb1 hF))
 refine(hbU.out _ (hA.sep1 (A:=TabP t2 p2 m2 s2 b2) sZ)).mono ?_;rintro e w1 ⟨v2,l2,rfl,hbo,hbl,hT⟩;have hB:=hA.call1 (A:=TabP t2 p2 m2 s2 b2) sZ hT;clear hT;have hl2:=hoU.out l2 hbo;subst hl2;clear hbo hbl hbU hoU;clear hF hA;have hA:=hB;clear hB
 try simp only[uA] at hA
 obtain⟨hA,hF⟩:=fZ hA
 go_wp2_with (first|((with_reducible refine gst ?_);refine wTz hA ?_;clear hF hA;intro w1 hA hF)|((with_reducible refine gbx ?_);refine wCz hA ?_;clear hF hA;intro b1 w1 hA hb1 hF))
 refine(hby.out _ (hA.sep1 (A:=TabP t p m ss b) sZ)).mono ?_;rintro e w1 ⟨v4,l4,rfl,hbo,hbl,hT⟩;have hB:=hA.call1 (A:=TabP t p m ss b) sZ hT;clear hT;have hl4:=Zc5 (LEq.refl _) H'.out.rel H'.out.rel hbo'.out hbo;subst hl4;clear hbo hbl;clear hF hA;have hA:=hB;clear hB
 try simp only[uA] at hA
 obtain⟨hA,hF⟩:=fZ hA
 go_wp2_with (first|((with_reducible refine gst ?_);refine wTz hA ?_;clear hF hA;intro w1 hA hF)|((with_reducible refine gbx ?_);refine wCz hA ?_;clear hF hA;intro b1 w1 hA hb1 hF))
 refine(Wire.Zfu (hA.sep2 (A:=Wire.rowY v2 lb) (B:=Wire.rowY v4 lb) sZ sZ) (by have:=hlb'.out;omega)).mono ?_;rw[decide_eq_true (rfl:lb=lb)];rintro e w1 ⟨rfl,hT⟩;replace hA:=hA.call2 (A:=Wire.rowY v2 lb) (B:=Wire.rowY v4 lb) sZ sZ hT;clear hT hF
 try simp only[uA] at hA
 obtain⟨hA,hF⟩:=fZ hA
 go_wp2_with (first|((with_reducible refine gst ?_);refine wTz hA ?_;clear hF hA;intro w1 hA hF)|((with_reducible refine gbx ?_);refine wCz hA ?_;clear hF hA;intro b1 w1 hA hb1 hF))
 refine(Zmw H'.out (hA.sep1 (A:=TabP t p m ss b) sZ) hR'.out).mono ?_;rintro e w1 ⟨tc,pc,mc,qc,nc,cc,sc,ec,kc,rfl,huc,hT⟩;have hB:=hA.call1 (A:=TabP t p m ss b) sZ hT;clear hT
 try simp only[uA] at hB
 obtain⟨dc,hdc⟩:∃z,(⟨qc,nc,cc,first,ec,kc⟩:Lock.Bk)=z:=⟨_,rfl⟩
 have hRc:TRel sc dc ⟨sc.map zs,⟨first,ec,kc⟩⟩:=⟨rfl,by rw[←hdc];rfl⟩
 rw[hdc] at hB;obtain⟨L3,hw2,hw1,hr12⟩:=Zc8 H'.out hR'.out huc hRc;have hbC:=Hd (fun(w1:World) (q:Sep [TabP tc pc mc sc dc] w1)=>Zcr q hw2);have hoC:=Hd (fun(l2:List Int) (q:Za8 ⟨sc,dc.st⟩ L3 l2)=>Zc5 (U:=⟨sc,dc.st⟩) (by show LEq T.L dc.st;rw[hRc.L];exact huc.L) H'.out.rel hr12 hbo'.out q);clear hdc hRc huc hw2 hw1 hr12;clear hF hA;have hA:=hB;clear hB
 try simp only[uA] at hA
 obtain⟨hA,hF⟩:=fZ hA
 go_wp2_with (first|((with_reducible refine gst ?_);refine wTz hA ?_;clear hF hA;intro w1 hA hF)|((with_reducible refine gbx ?_);refine wCz hA ?_;clear hF hA;intro b1 w1 hA hb1 hF))
 refine(hby.out _ (hA.sep1 (A:=TabP t p m ss b) sZ)).mono ?_;rintro e w1 ⟨v5,l5,rfl,hbo,hbl,hT⟩;have hB:=hA.call1 (A:=TabP t p m ss b) sZ hT;clear hT;have hl5:=Zc5 (LEq.refl _) H'.out.rel H'.out.rel hbo'.out hbo;subst hl5
 clear hbo hbl hby
 clear hF hA;have hA:=hB;clear hB
 try simp only[uA] at hA
 obtain⟨hA,hF⟩:=fZ hA
 have hok3:=fun(i:Nat)=>(fun c hc=>⟨(hin3'.out c (List.take_subset i more hc)).ok,(hin3'.out c (List.take_subset i more hc)).r0,(hin3'.out c (List.take_subset i more hc)).r1⟩:∀c ∈ more.take i,CmOk c∧0≤c.req∧c.req < Lease.big64)
 have hgi:=Hd (fun(i:Nat)=>hg'.out.play (l:=more.take i) (fun c hc=>(hok3 i c hc).1));have hsi:=Hd (fun(i:Nat)=>Zix (hok3 i) hg'.out hsa'.out);have hui:=Hd (fun(i:Nat)=>(ZlS (hok3 i) hu'.out hg'.out hsa'.out).2);have hli:=Hd (fun(i:Nat)=>Zhz (more.take i) H'.out.ld);clear hok3
 go_wp2_with (first|((with_reducible refine gst ?_);refine wTz hA ?_;clear hF hA;intro w1 hA hF)|((with_reducible refine gbx ?_);refine wCz hA ?_;clear hF hA;intro b1 w1 hA hb1 hF))
 try go_frame
 go_loopg [60] more.length (LoRel w t p m t2 p2 m2 tc pc mc sc dc v5 lb T U more)
 case atStart=>exact⟨0,ss,b,s2,b2,rfl,by omega,hR'.out,hR2'.out,hA.pick pZ⟩
 case round=>
  obtain⟨i,ss,b,s2,b2,rfl,hik,hRi,hRj,hB⟩:=hrel;clear hF hA hR' hR2' hu' hsa' hg';have hA:=hB;clear hB;have hRi':=Hd hRi;have hRj':=Hd hRj;clear hRi hRj
  by_cases hi:i < more.length
  · obtain⟨c,hc⟩:∃c,more[i]? =some c:=⟨_,List.getElem?_eq_getElem hi⟩
    have hci:=hin3'.out c (List.mem_of_getElem? hc)
    have htk:more.take (i + 1)=more.take i++[c]:=by rw[List.take_add_one,hc];rfl
    have hp1:=Hd (show playT T (more.take (i + 1))=(Zat (playT T (more.take i)) c).1 by rw[htk,Zdb]);have hp2:=Hd (show playT U (more.take (i + 1))=(Zat (playT U (more.take i)) c).1 by rw[htk,Zdb])
    have hti:(more.take i).length≤20:=by rw[List.length_take];omega
    obtain⟨bl0,ofl,hax⟩:∃b0 o0,ax3=some ⟨b0,o0,none⟩:=by
     obtain⟨ax2,c2,e2,_,hr2⟩:=hr3'.out _ (hA.get (A:=Part.old w) sZ);cases e2;have hf:=Zb1 Cm.cells 8 (fun _=>rfl) more i c hc 0 (by omega);obtain⟨b0,o0,e3,_⟩:=hr2 (i * 8 + 0) _ hf;exact⟨b0,o0,e3⟩
    subst hax;have hrc:=Zfz hr3'.out hc _ (hA.get (A:=Part.old w) sZ);have hok:LkOk b:=LkOk.of (k:=0 + l.length + (more.take i).length) (by rw[hRi'.out.L];exact(hgi.out i).inv.lock) (by omega);have hae:=(Zhb (c:=c) (hui.out i) (hgi.out i).inv.lock (hsi.out i) ⟨hci.r0,hci.r1⟩).1
    have hap:=fun(w1:World) (q:Sep [TabP t p m ss b] w1)=>Zf8 q c.kind c.num c.foot c.req c.path c.mode c.n c.time hRi'.out (hgi.out i).inv.s (by omega) hok hci.ok hci.r0 hci.r1 hci.n0
    have hap2:=fun(w1:World) (q:Sep [TabP t2 p2 m2 s2 b2] w1)=>Zf8 q c.kind c.num c.foot c.req c.path c.mode c.n c.time hRj'.out ((hgi.out i).inv.s.seq (hui.out i).S) (by omega) (hok.eq (by rw[hRi'.out.L,hRj'.out.L];exact(hui.out i).L) (by rw[hRi'.out.L];exact(hgi.out i).inv.lock.ckeys)) hci.ok hci.r0 hci.r1 hci.n0
    have hcc:(⟨c.kind,c.num,c.foot,c.req,c.path,c.mode,c.n,c.time⟩:Cm)=c:=rfl
    obtain⟨R1,hR1⟩:∃z,Zat (playT T (more.take i)) c=z:=⟨_,rfl⟩
    obtain⟨R2,hR2⟩:∃z,Zat (playT U (more.take i)) c=z:=⟨_,rfl⟩
    simp only[hcc,hR1] at hap;simp only[hcc,hR2] at hap2;rw[hR1] at hp1;rw[hR2] at hp2;rw[hR1,hR2] at hae;obtain⟨R1,⟨ae,an,ag⟩⟩:=R1;obtain⟨R2,R3⟩:=R2;simp only at hae;subst hae;clear hR1 hR2 hcc hc htk hci hti hok;obtain⟨k2,n2,f2,r2,pa2,mo2,nn2,ti2⟩:=c;simp only at hap hap2;have hap':=Hd hap;have hap2':=Hd hap2;have hrc':=Hd (show ∀(k:Nat) u,([.int .i64 k2,.int .u64 n2,.string f2,.int .u64 r2,.string pa2,.int .i64 mo2,.int .u64 nn2,.int .i64 ti2]:List Value)[k]? =some u→wr.cell? ⟨bl0,ofl + i * 8 + k,none⟩=some u from hrc);clear hap hap2 hrc;obtain⟨hA,hF⟩:=fZ hA
    go_wp2_with (first|(((with_reducible show wpList _ _ _ ({dst:=some 14,op:=Op.alloc _,type:=_,pos:=_,after:=_,guard:=_}::_) _ _));((with_reducible refine gal ?_);refine g6 hA ?_;clear hF hA;intro bX w1 hA hbX hF))|((with_reducible show wpList _ _ _ ({dst:=some 63,op:=Op.load _ _,type:=_,pos:=_,after:=_,guard:=_}::_) _ _);refine Zav (vs:=[.int .i64 k2,.int .u64 n2,.string f2,.int .u64 r2,.string pa2,.int .i64 mo2,.int .u64 nn2,.int .i64 ti2]) rfl rfl (by(try simp only[Act.eval,eV])<;>exact rfl) hrc'.out (by kernel_rfl) (by kernel_rfl) ?_)|((with_reducible show wpList _ _ _ ({dst:=some 65,op:=Op.load 27 _,type:=_,pos:=_,after:=_,guard:=_}::_) _ _);refine Zav (vs:=[.int .i64 k2,.int .u64 n2,.string f2,.int .u64 r2,.string pa2,.int .i64 mo2,.int .u64 nn2,.int .i64 ti2]) rfl rfl (by(try simp only[Act.eval,eV])<;>exact rfl) (fun k u hk=>by rw[Nat.zero_add];exact((hA.get (A:=Part.cells bX [.int .i64 k2,.int .u64 n2,.string f2,.int .u64 r2,.string pa2,.int .i64 mo2,.int .u64 nn2,.int .i64 ti2] 27) sZ:Zaa _ _ _ _).cell k).trans hk) (by kernel_rfl) (by kernel_rfl) ?_)|((with_reducible refine gst ?_);refine wTz hA ?_;clear hF hA;intro w1 hA hF)|((with_reducible refine gbx ?_);refine wCz hA ?_;clear hF hA;intro b1 w1 hA hb1 hF))
    refine(hap'.out _ (hA.sep1 (A:=TabP t p m ss b) sZ)).mono ?_;rintro e w1 ⟨s3,d3,rfl,hR3,hT⟩;replace hA:=hA.call1 (A:=TabP t p m ss b) sZ hT;clear hT hF
    try simp only[uA] at hA
    obtain⟨hA,hF⟩:=fZ hA;have hR3':=Hd hR3;clear hR3 hap'
    go_upto_region 15 with(first|(((with_reducible show wpList _ _ _ ({dst:=some 15,op:=Op.alloc _,type:=_,pos:=_,after:=_,guard:=_}::_) _ _));((with_reducible refine gal ?_);refine g7 hA ?_;clear hF hA;intro bA w1 hA hbA hF))|((with_reducible refine gst ?_);refine wTz hA ?_;clear hF hA;intro w1 hA hF)|((with_reducible refine gbx ?_);refine wCz hA ?_;clear hF hA;intro b1 w1 hA hb1 hF))
    try go_frame
    replace hA:=hA.drew;clear hF;refine wp_region_held (S:=fun w'=>Zaa w' bX (k8 k2 n2 f2 r2 pa2 mo2 nn2 ti2) 27∧Zaa w' bA [.int .i64 ae,.int .u64 an,.bool ag] 107) hm ?_;change wpAnyH _ _ _ _ _ 5 _ _ (World.drew _)
    generalize World.drew _=wd at *
    have hS0:=(⟨hA.get (A:=Part.cells bX (k8 k2 n2 f2 r2 pa2 mo2 nn2 ti2) 27) sZ,hA.get (A:=Part.cells bA [.int .i64 ae,.int .u64 an,.bool ag] 107) sZ⟩:(fun w'=>Zaa w' bX (k8 k2 n2 f2 r2 pa2 mo2 nn2 ti2) 27∧Zaa w' bA [.int .i64 ae,.int .u64 an,.bool ag] 107) wd)
    refine tP 0 67 (.pointer (some ⟨t2,0,none⟩)) (s:=hS0) (h:= ?_)
    try go_frame
    refine tZ 1 68 (.agg #[.int .i64 k2,.int .u64 n2,.string f2,.int .u64 r2,.string pa2,.int .i64 mo2,.int .u64 nn2,.int .i64 ti2]) (r:=(fun w' hS=>Zag (ty:=27) (n:=8) (b:=bX) (j:=0) rfl (by exact rfl) hS.1 (by kernel_rfl) (by kernel_rfl) rfl rfl)) (s:=hS0) (h:= ?_)
    try go_frame
    refine tZ 3 70 (.agg #[.int .i64 ae,.int .u64 an,.bool ag]) (r:=(fun w' hS=>Zag (ty:=107) (n:=3) (b:=bA) (j:=0) rfl (by exact rfl) hS.2 (by kernel_rfl) (by kernel_rfl) rfl rfl)) (s:=hS0) (h:= ?_)
    try go_frame
    refine Zac (i:=2) (by kernel_rfl) ?_;refine cY 2 69 43 (ApQ t2 p2 m2 s2 b2 R2 (.agg #[.int .i64 ae,.int .u64 an,.bool ag]) _) (TPost.ap (hap2'.out _ (hA.sep1 (A:=TabP t2 p2 m2 s2 b2) sZ))) ?_;rintro u w3 ⟨s4,d4,rfl,hR4,hT⟩;have hR4':=Hd hR4;have hB:=hA.call1 (A:=TabP t2 p2 m2 s2 b2) sZ hT;clear hT hR4;simp only[uA] at hB
    refine andH ⟨hB.ci,hB.ci⟩ fun hS0=> ?_
    clear hA;have hA:=hB;clear hB
    try go_frame
    refine tZ 4 71 (.bool false) (r:=(fun w' hS=>by first|(simp[execOp,go_sem,Act.eval,Act.put,ZkE,neqAn];done)|kernel_rfl)) (s:=hS0) (h:= ?_)
    try go_frame
    refine wpAnyH_done (by kernel_rfl) ?_ _
    try go_frame
    clear hS0;obtain⟨hA,hF⟩:=fZ hA
    go_wp2_with (first|((with_reducible refine gst ?_);refine wTz hA ?_;clear hF hA;intro w1 hA hF)|((with_reducible refine gbx ?_);refine wCz hA ?_;clear hF hA;intro b1 w1 hA hb1 hF))
    go_roundg (gk - 1)
    case measure=>omega
    case rel=>exact⟨i + 1,s3,d3,s4,d4,by simp,by omega,by rw[hp1.out];exact hR3'.out,by rw[hp2.out];exact hR4'.out,hA.pick pZ⟩
  have hie:more.take i=more:=List.take_of_length_le (by omega);have hg1:=hgi.out i;have hu1:=hui.out i;have hs1:=hsi.out i;have hl1:=hli.out i;rw[hie] at hg1 hu1 hs1 hl1;have hRi2:=hRi'.out;have hRj2:=hRj'.out;rw[hie] at hRi2 hRj2
  generalize playT T more=TM at *
  generalize playT U more=UM at *
  obtain⟨LM,hLM⟩:=Zin hg1.inv.s.keys hs1
  have HM:Ldk TM (0 + l.length + more.length) TM.L.first LM:=⟨hg1.inv,hl1,by omega,hLM,rfl⟩
  obtain⟨L4,hw2,hw1,hr12⟩:=Zc8 HM hRi2 hu1 hRj2;have hbM:=Hd (fun(w1:World) (q:Sep [TabP t p m ss b] w1)=>Zcr q hw1);have hbN:=Hd (fun(w1:World) (q:Sep [TabP t2 p2 m2 s2 b2] w1)=>Zcr q hw2);have hoM:=Hd (fun(x y:List Int) (q1:Za8 ⟨s2,b2.st⟩ L4 x) (q2:Za8 ⟨ss,b.st⟩ L4 y)=>Ze7 (T:=⟨s2,b2.st⟩) (T':=⟨ss,b.st⟩) (by show LEq b2.st b.st;rw[hRi2.L,hRj2.L];exact hu1.L.symm) q1 q2);clear hie hg1 hu1 hs1 hl1 hRi2 hRj2 hLM HM hw2 hw1 hr12 hgi hui hsi hli hRi' hRj';obtain⟨hA,hF⟩:=fZ hA
  go_wp2_with (first|((with_reducible refine gst ?_);refine wTz hA ?_;clear hF hA;intro w1 hA hF)|((with_reducible refine gbx ?_);refine wCz hA ?_;clear hF hA;intro b1 w1 hA hb1 hF))
  refine(hbN.out _ (hA.sep1 (A:=TabP t2 p2 m2 s2 b2) sZ)).mono ?_;rintro e w1 ⟨v6,l6,rfl,hbo,hbl,hT⟩;have hB:=hA.call1 (A:=TabP t2 p2 m2 s2 b2) sZ hT;clear hT;have hlx:=Hd hbl;have hbx:=Hd hbo;clear hbo hbl;clear hF hA;have hA:=hB;clear hB
  try simp only[uA] at hA
  obtain⟨hA,hF⟩:=fZ hA
  go_wp2_with (first|((with_reducible refine gst ?_);refine wTz hA ?_;clear hF hA;intro w1 hA hF)|((with_reducible refine gbx ?_);refine wCz hA ?_;clear hF hA;intro b1 w1 hA hb1 hF))
  refine(hbM.out _ (hA.sep1 (A:=TabP t p m ss b) sZ)).mono ?_;rintro e w1 ⟨v7,l7,rfl,hbo,hbl,hT⟩;have hB:=hA.call1 (A:=TabP t p m ss b) sZ hT;clear hT;have hly:=hoM.out _ _ hbx.out hbo;subst hly;clear hbo hbl hoM hbx;clear hF hA;have hA:=hB;clear hB
  try simp only[uA] at hA
  obtain⟨hA,hF⟩:=fZ hA
  go_wp2_with (first|((with_reducible refine gst ?_);refine wTz hA ?_;clear hF hA;intro w1 hA hF)|((with_reducible refine gbx ?_);refine wCz hA ?_;clear hF hA;intro b1 w1 hA hb1 hF))
  refine(Wire.Zfu (hA.sep2 (A:=rowY v6 l6) (B:=rowY v7 l6) sZ sZ) (by have:=hlx.out;omega)).mono ?_;rw[decide_eq_true (rfl:l6=l6)];rintro e w1 ⟨rfl,hT⟩;replace hA:=hA.call2 (A:=rowY v6 l6) (B:=rowY v7 l6) sZ sZ hT;clear hT hF
  try simp only[uA] at hA
  obtain⟨hA,hF⟩:=fZ hA
  go_wp2_with (first|((with_reducible refine gst ?_);refine wTz hA ?_;clear hF hA;intro w1 hA hF)|((with_reducible refine gbx ?_);refine wCz hA ?_;clear hF hA;intro b1 w1 hA hb1 hF))
  refine(hbC.out _ (hA.sep1 (A:=TabP tc pc mc sc dc) sZ)).mono ?_;rintro e w1 ⟨v8,l8,rfl,hbo,hbl,hT⟩;have hB:=hA.call1 (A:=TabP tc pc mc sc dc) sZ hT;clear hT;have hl8:=hoC.out _ hbo;subst hl8;clear hbo hbl;clear hF hA;have hA:=hB;clear hB
  try simp only[uA] at hA
  obtain⟨hA,hF⟩:=fZ hA
  go_wp2_with (first|((with_reducible refine gst ?_);refine wTz hA ?_;clear hF hA;intro w1 hA hF)|((with_reducible refine gbx ?_);refine wCz hA ?_;clear hF hA;intro b1 w1 hA hb1 hF))
  refine(Wire.Zfu (hA.sep2 (A:=Wire.rowY v8 lb) (B:=Wire.rowY v5 lb) sZ sZ) (by have:=hlb'.out;omega)).mono ?_;rw[decide_eq_true (rfl:lb=lb)];rintro e w1 ⟨rfl,hT⟩;replace hA:=hA.call2 (A:=Wire.rowY v8 lb) (B:=Wire.rowY v5 lb) sZ sZ hT;clear hT hF
  try simp only[uA] at hA
  obtain⟨hA,hF⟩:=fZ hA
  go_wp2_with (first|((with_reducible refine gst ?_);refine wTz hA ?_;clear hF hA;intro w1 hA hF)|((with_reducible refine gbx ?_);refine wCz hA ?_;clear hF hA;intro b1 w1 hA hb1 hF))
  go_ret;exact⟨rfl,below_old hA sZ⟩
end Tab
end
end Go.Proofs.YtkdjkngfnapjcaaGreatDoor
