/- WinI, LeaseGa, LockI, CmdM, TabM, LockJ, joined. -/
import Derived.Test.YtkdjkngfnapjcaaGreatDoorQ14
import Derived.Test.YtkdjkngfnapjcaaGreatDoorQ9
import Derived.Test.YtkdjkngfnapjcaaGreatDoorQ5
import Derived.Test.YtkdjkngfnapjcaaGreatDoorQ6
import Derived.Test.YtkdjkngfnapjcaaGreatDoorQ16
import Derived.Test.YtkdjkngfnapjcaaGreatDoorQ12
import Derived.Test.YtkdjkngfnapjcaaGreatDoorQ11
set_option linter.unusedSimpArgs false
set_option linter.unusedVariables false
set_option maxRecDepth 100000
set_option maxHeartbeats 16000000
namespace Go.Proofs.YtkdjkngfnapjcaaGreatDoor
section
namespace Lease
open Go.RowKit
open Go.Sort (grow heap_grow_old)
open Go.Maps (Keyed)
open _root_.Go.Proofs.YtkdjkngfnapjcaaGreatDoor.Wire
open _root_.Go.Proofs.YtkdjkngfnapjcaaGreatDoor.Sess (ltS cmpS Zbf)
inductive Srd:List Ses→List SR→Prop
 |nil:Srd [] []
 |snoc {ss:List Ses} {l:List SR} (h:Srd ss l) (a:SR) (b t:Nat):Srd (ss++[serd a b t]) (l++[a])
theorem Zif {ss:List Ses} {l:List SR} (h:Srd ss l):ss.map keyE=l.map keyR:=by
 induction h with
 |nil=>rfl
 |snoc h a b t ih=>rw[List.map_append,List.map_append,ih];rfl
theorem ZlB {ss:List Ses} {l:List SR} (h:Srd ss l) {n:Int} {f:ByteArray} (hn:∀a ∈ l,keyR a≠(n,f)):find ss n f=none:=by
 unfold find;rw[List.find?_eq_none];intro s hs q;have h1:keyE s ∈ ss.map keyE:=List.mem_map.2 ⟨s,hs,rfl⟩;rw[Zif h] at h1;obtain⟨a,ha,e⟩:=List.mem_map.1 h1;refine hn a ha (e.trans ?_);unfold Ses.is at q;have q:=of_decide_eq_true q;unfold keyE;rw[q.1,q.2]
theorem Znf {ss:List Ses} {l:List SR} (h:Srd ss l) (e:l=[]):ss=[]:=by
 cases h with
 |nil=>rfl
 |snoc h a b t=>simp at e
def lastK (j:Nat) (last:Int × ByteArray):Option (Int × ByteArray):=if j=0 then none else some last
def badK (last:Option (Int × ByteArray)) (k:Int × ByteArray):Bool:=last.any (fun q=>decide (0≤cmpS q k))
theorem Ze9 {n:Nat} (hn:0 < n) (last:Option (Int × ByteArray)) (s:InS):bookD n last s=(if(if badK last (keyR (sesV s)) then(sesS s).fail 10 else sesS s).e≠0 then([],if badK last (keyR (sesV s)) then(sesS s).fail 10 else sesS s) else((sesV s)::(bookD (n - 1) (some (keyR (sesV s))) (if badK last (keyR (sesV s)) then(sesS s).fail 10 else sesS s)).1,(bookD (n - 1) (some (keyR (sesV s))) (if badK last (keyR (sesV s)) then(sesS s).fail 10 else sesS s)).2)):=by
 obtain⟨k,rfl⟩:∃k,n=k + 1:=⟨n - 1,by omega⟩
 rfl
def TakeB (w:World) (i:Nat) (r:Rdr) (e:Ending) (w':World):Prop:=∃(r':Rdr) (p m:Nat) (ss:List Ses),e=.returned (.pointer (some ⟨p,0,none⟩))∧r'.s=Zaq r.s∧r'.Ok∧
 ((Zaq r.s).e=0→Srd ss (ZaX r.s))∧((Zaq r.s).e≠0→ss=[])∧At [RdP i r] w [RdP i r',BookP p m ss] w'
def BkRel (w:World) (i p m bL:Nat) (r r0:Rdr) (n:Nat) (k:Nat) (u:Value) (wr:World):Prop:=∃(r1:Rdr) (ss:List Ses) (acc:List SR) (last:Int × ByteArray) (j:Nat),u=.int .u64 j∧j + k=n∧r1.Ok∧Srd ss acc∧
 bookD n none r0.s=(acc++(bookD k (lastK j last) r1.s).1,(bookD k (lastK j last) r1.s).2)∧(j=0→acc=[])∧(j≠0→r1.s.e=0)∧(∀a ∈ acc,keyR a=last∨ltS (keyR a) last)∧
 At [RdP i r] w [Part.cells bL [.int .u64 last.1,.string last.2] 25,RdP i r1,BookP p m ss] wr
theorem ZiN {W w':World} {q:Nat} {os':Array Obj} (h:w'=grow (W.drewN q) os'):Ext W w':=by
 subst h;exact⟨rfl,rfl,rfl,by simp,fun k hk=>by rw[heap_grow_old _ _ (by simpa using hk)];rfl⟩
set_option maxRecDepth 1000000 in
theorem ZjU {w:World} {i:Nat} {r:Rdr} (h:Sep [RdP i r] w) (hr:r.Ok):
 Calls Tryz.prog 132 #[.pointer (some ⟨i,0,none⟩)] w (TakeB w i r):=by
 have hA:=At.start h;obtain⟨hA,hF⟩:=fZ hA;clear h
 go_enter Tryz.func132,Tryz.ntmps132
 go_wp2_with (first|((with_reducible refine gst ?_);refine wTz hA ?_;clear hF hA;intro w1 hA hF)|((with_reducible refine gbx ?_);refine wCz hA ?_;clear hF hA;intro b1 w1 hA hb1 hF))
 refine(new_any _).mono ?_;rintro e w1 ⟨p,m,rfl,hT⟩;replace hA:=hA.call0 hT;clear hT hF
 try simp only[uA] at hA
 obtain⟨hA,hF⟩:=fZ hA
 go_wp2_with (first|((with_reducible refine gal ?_);refine g5 hA ?_;clear hF hA;intro bL w1 hA hbL hF)|((with_reducible refine gst ?_);refine wTz hA ?_;clear hF hA;intro w1 hA hF)|((with_reducible refine gbx ?_);refine wCz hA ?_;clear hF hA;intro b1 w1 hA hb1 hF))
 refine(ZdE (hA.sep1 (A:=RdP i r) sR) hr).mono ?_;rintro e w2 ⟨rfl,hT⟩;replace hA:=hA.call1 sR hT;clear hT hF
 try simp only[uA] at hA
 obtain⟨hA,hF⟩:=fZ hA
 have hll:r.s.left≤1000000000000:=by
  have h1:=hr.len;have h2:r.s.b.length=r.l.length - r.pos:=List.length_drop;unfold InS.left
  split<;>omega
 obtain⟨lf,hlf⟩:∃z,r.s.left=z:=⟨_,rfl⟩
 rw[hlf] at hll;have hlf':=Hd hlf
 have hwl:IntKind.u64.wrap (lf:Int)=(lf:Int):=by rw[IntKind.wrap_u64];omega
 rw[hlf];clear hlf
 go_wp2_with (first|((with_reducible refine gst ?_);refine wTz hA ?_;clear hF hA;intro w1 hA hF)|((with_reducible refine gbx ?_);refine wCz hA ?_;clear hF hA;intro b1 w1 hA hb1 hF))
 refine(Zbe (hA.sep1 (A:=RdP i r) sR) hr lf (by omega)).mono ?_;rintro e w3 ⟨r0,rfl,hz,hr0,hT⟩;have hsr0:=Hd hz;clear hz;replace hA:=hA.call1 sR hT;clear hT hF
 try simp only[uA] at hA
 obtain⟨hA,hF⟩:=fZ hA;have hnb:=Za6 r.s lf
 obtain⟨n,hn⟩:∃z,r.s.shortV lf=z:=⟨_,rfl⟩
 rw[hn] at hnb;rw[hn]
 have eB:ZaX r.s=(bookD n none r0.s).1∧Zaq r.s=(bookD n none r0.s).2:=by
  unfold ZaX Zaq;rw[hlf'.out,hn,hsr0.out];exact⟨rfl,rfl⟩
 have eB':=Hd eB;clear eB hn hsr0 hlf'
 go_wp2_with (first|((with_reducible refine gst ?_);refine wTz hA ?_;clear hF hA;intro w1 hA hF)|((with_reducible refine gbx ?_);refine wCz hA ?_;clear hF hA;intro b1 w1 hA hb1 hF))
 try go_frame
 go_loopg [13] n (BkRel w i p m bL r r0 n)
 case atStart=>exact⟨r0,[],[],(0,.empty),0,rfl,by omega,hr0,.nil,rfl,fun _=>rfl,fun q=>absurd rfl q,nofun,hA.pick pZ⟩
 case round=>
  obtain⟨r1,ss,acc,⟨ln,lfo⟩,j,rfl,hjk,hr1,hSr,hD,hj0,hje,hacc,hB⟩:=hrel;have hD':=Hd hD;have hacc':=Hd hacc;have hj0':=Hd hj0;have hje':=Hd hje;clear hD hacc hj0 hje hr0;simp only at hB;clear hF hA;have hA:=hB;clear hB
  try simp only[uA] at hA
  obtain⟨hA,hF⟩:=fZ hA
  by_cases hj:j < n
  · have hst:=Ze9 (n:=gk) (by omega) (lastK j (ln,lfo)) r1.s
    go_wp2_with (first|((with_reducible refine gst ?_);refine wTz hA ?_;clear hF hA;intro w1 hA hF)|((with_reducible refine gbx ?_);refine wCz hA ?_;clear hF hA;intro b1 w1 hA hb1 hF))
    refine(Znz (hA.sep2 (A:=RdP i r1) (B:=BookP p m ss) sR sR) hr1).mono ?_;rintro e w2 ⟨r2,rfl,hz,hr2,hOr⟩
    generalize sesV r1.s=sv at *
    generalize sesS r1.s=sS at *
    have hs2:=Hd hz;have hst':=Hd hst;clear hz hr1 hst
    by_cases hgood:sS.e=0∧badK (lastK j (ln,lfo)) (keyR sv)=false
    · have hfn:find ss sv.num sv.foot=none:=ZlB hSr fun a ha=>by
       intro q
       by_cases z:j=0
       · rw[hj0'.out z] at ha;cases ha
       have hb:=hgood.2;unfold badK lastK at hb;rw[if_neg z] at hb;have hlt:ltS (ln,lfo) (keyR sv):=ZkT (by simpa using hb)
       rcases hacc'.out a ha with q1|q1
       · rw[←q1,q] at hlt;exact Sess.Zbb _ hlt
       have:=Sess.ZaW q1 hlt;rw[q] at this;exact Sess.Zbb _ this
      obtain⟨bS,tS,hT⟩:∃b t,At [RdP i r1,BookP p m ss] wr [RdP i r2,BookP p m (ss++[serd sv b t])] w2:=by
       rcases hOr with⟨_,_,h3⟩|⟨h1,_⟩
       · exact h3
       exact absurd ⟨hgood.1,hfn⟩ h1
      replace hA:=hA.call2 (A:=RdP i r1) (B:=BookP p m ss) sR sR hT;clear hT hOr hF
      try simp only[uA] at hA
      obtain⟨hA,hF⟩:=fZ hA;have hne:=hgood.1;have hbd:=hgood.2
      have hst1:bookD gk (lastK j (ln,lfo)) r1.s=(sv::(bookD (gk - 1) (some (keyR sv)) sS).1,(bookD (gk - 1) (some (keyR sv)) sS).2):=by
       rw[hst'.out,hbd];simp only[if_neg Bool.false_ne_true];rw[if_neg (fun q=>q hne)]
      have hst2:=Hd hst1
      have hne2:(r2.s.e != 0)=false:=by rw[hs2.out];simpa using hne
      have hrel1:∀j2:Nat,j2=j + 1→BkRel w i p m bL r r0 n (gk - 1) (.int .u64 (j2:Nat))=BkRel w i p m bL r r0 n (gk - 1) (.int .u64 ((j + 1:Nat))):=fun j2 q=>by rw[q]
      clear hrel1
      have hin:∀wz,At [RdP i r] w [Part.cells bL [.int .u64 sv.num,.string sv.foot] 25,RdP i r2,BookP p m (ss++[serd sv bS tS])] wz→BkRel w i p m bL r r0 n (gk - 1) (.int .u64 ((j:Int) + 1)) wz:=fun wz hz=>by
       refine⟨r2,ss++[serd sv bS tS],acc++[sv],(sv.num,sv.foot),j + 1,rfl,by omega,hr2,hSr.snoc _ _ _,?_,fun q=>by omega,fun _=>by rw[hs2.out];exact hne,?_,hz⟩
       · rw[hD'.out,hst2.out,show lastK (j + 1) (sv.num,sv.foot)=some (keyR sv) from if_neg (by omega),hs2.out]
         simp
       intro a ha
       rcases List.mem_append.1 ha with ha|ha
       · right
         by_cases z:j=0
         · rw[hj0'.out z] at ha;cases ha
         have hb:=hbd;unfold badK lastK at hb;rw[if_neg z] at hb;have hlt:ltS (ln,lfo) (keyR sv):=ZkT (by simpa using hb)
         rcases hacc'.out a ha with q1|q1
         · rw[q1];exact hlt
         exact Sess.ZaW q1 hlt
       rw[List.mem_singleton.1 ha];exact .inl rfl
      have hin':=Hd hin;have hbd':=Hd hbd;clear hin hst1 hgood hfn hne hbd
      have hwj:IntKind.u64.wrap ((j:Int) + 1)=(j:Int) + 1:=by rw[IntKind.wrap_u64];omega
      obtain⟨num,hnum⟩:∃z,sv.num=z:=⟨_,rfl⟩
      obtain⟨foot,hfoot⟩:∃z,sv.foot=z:=⟨_,rfl⟩
      have hkk:=Hd (show keyR sv=(num,foot) from by rw[←hnum,←hfoot];rfl);rw[hnum,hfoot] at hin';rw[hnum,hfoot];unfold keyV;clear hnum hfoot
      by_cases hj1:j=0
      · have hjz:¬(0:Int) < (j:Int):=by omega
        go_wp2_with (first|((with_reducible refine gal ?_);refine g5 hA ?_;clear hF hA;intro bC w1 hA hbC hF)|((with_reducible refine gst ?_);refine wTz hA ?_;clear hF hA;intro w1 hA hF)|((with_reducible refine gbx ?_);refine wCz hA ?_;clear hF hA;intro b1 w1 hA hb1 hF))
        refine(ZaF (hA.sep1 (A:=RdP i r2) sR)).mono ?_;rintro e w7 ⟨rfl,hT⟩;replace hA:=hA.call1 sR hT;clear hT hF
        try simp only[uA] at hA
        obtain⟨hA,hF⟩:=fZ hA
        go_wp2_with (first|((with_reducible refine gst ?_);refine wTz hA ?_;clear hF hA;intro w1 hA hF)|((with_reducible refine gbx ?_);refine wCz hA ?_;clear hF hA;intro b1 w1 hA hb1 hF))
        go_roundg (gk - 1)
        case rel=>exact(show((j:Int) + 1)=1 from by rw[hj1];rfl) ▸ hin'.out _ (hA.pick pZ)
        case measure=>omega
      have hjz:(0:Int) < (j:Int):=by omega
      have hnc:¬(0:Int)≤cmpS (ln,lfo) (num,foot):=by
       have hb:=hbd'.out;unfold badK lastK at hb;rw[if_neg hj1,hkk.out] at hb
       simpa using hb
      have hse:=Zbf (ln,lfo) (num,foot)
      generalize cmpS (ln,lfo) (num,foot)=cq at *
      go_upto_region 7 with(first|((with_reducible refine gal ?_);refine g5 hA ?_;clear hF hA;intro bC w1 hA hbC hF)|((with_reducible refine gst ?_);refine wTz hA ?_;clear hF hA;intro w1 hA hF)|((with_reducible refine gbx ?_);refine wCz hA ?_;clear hF hA;intro b1 w1 hA hb1 hF))
      have hcL:=(hA.get (A:=Part.cells bL [.int .u64 ln,.string lfo] 25) sZ:Zaa _ _ _ _)
      have hcC:=(hA.get (A:=Part.cells bC [.int .u64 num,.string foot] 25) sZ:Zaa _ _ _ _)
      have hc0:=hcL.cell 0;have hc1:=hcL.cell 1;have hc2:=hcC.cell 0;have hc3:=hcC.cell 1;clear hcL hcC
      go_wp2_with (first|((with_reducible refine gst ?_);refine wTz hA ?_;clear hF hA;intro w1 hA hF)|((with_reducible refine gbx ?_);refine wCz hA ?_;clear hF hA;intro b1 w1 hA hb1 hF))
      refine(hse _).mono ?_;rintro e wq ⟨rfl,q,os',hg⟩;replace hA:=hA.ext (ZiN hg);clear hg hse hc0 hc1 hc2 hc3 hF
      try simp only[uA] at hA
      obtain⟨hA,hF⟩:=fZ hA
      go_wp2_with (first|((with_reducible refine gst ?_);refine wTz hA ?_;clear hF hA;intro w1 hA hF)|((with_reducible refine gbx ?_);refine wCz hA ?_;clear hF hA;intro b1 w1 hA hb1 hF))
      refine(ZaF (hA.sep1 (A:=RdP i r2) sR)).mono ?_;rintro e w7 ⟨rfl,hT⟩;replace hA:=hA.call1 sR hT;clear hT hF
      try simp only[uA] at hA
      obtain⟨hA,hF⟩:=fZ hA
      go_wp2_with (first|((with_reducible refine gst ?_);refine wTz hA ?_;clear hF hA;intro w1 hA hF)|((with_reducible refine gbx ?_);refine wCz hA ?_;clear hF hA;intro b1 w1 hA hb1 hF))
      go_roundg (gk - 1)
      case rel=>exact hin'.out _ (hA.pick pZ)
      case measure=>omega
    have hT:At [RdP i r1,BookP p m ss] wr [RdP i r2] w2:=by
     rcases hOr with⟨_,_,b,t,h3⟩|⟨_,h2⟩
     · exact h3.pick pZ
     exact h2
    replace hA:=hA.call2 (A:=RdP i r1) (B:=BookP p m ss) sR sR hT;clear hT hOr hF
    try simp only[uA] at hA
    obtain⟨hA,hF⟩:=fZ hA
    have hfin:∀(r3:Rdr) (p2 m2:Nat) (wz:World),r3.s=(if badK (lastK j (ln,lfo)) (keyR sv) then sS.fail 10 else sS)→r3.s.e≠0→r3.Ok→At [RdP i r] w [RdP i r3,BookP p2 m2 []] wz→TakeB w i r (.returned (.pointer (some ⟨p2,0,none⟩))) wz:=fun r3 p2 m2 wz q1 q2 q3 hz=>by
     have e1:bookD n none r0.s=(acc,r3.s):=by
      rw[hD'.out,hst'.out,←q1,if_pos q2,List.append_nil]
     refine⟨r3,p2,m2,[],rfl,by rw[eB'.out.2,e1],q3,fun q=> ?_,fun _=>rfl,hz⟩;rw[eB'.out.2,e1] at q;exact absurd q q2
    have hfin':=Hd hfin;have hgood':=Hd hgood;clear hfin hgood
    obtain⟨num,hnum⟩:∃z,sv.num=z:=⟨_,rfl⟩
    obtain⟨foot,hfoot⟩:∃z,sv.foot=z:=⟨_,rfl⟩
    have hkk:=Hd (show keyR sv=(num,foot) from by rw[←hnum,←hfoot];rfl);rw[hnum,hfoot];unfold keyV;clear hnum hfoot
    by_cases hj1:j=0
    · have hjz:¬(0:Int) < (j:Int):=by omega
      have hbk:=Hd (show badK (lastK j (ln,lfo)) (keyR sv)=false from by unfold lastK;rw[if_pos hj1];rfl);have he2:=Hd (show r2.s.e≠0 from by rw[hs2.out];exact fun q=>hgood'.out ⟨q,hbk.out⟩)
      have hne2:(r2.s.e != 0)=true:=by simpa using he2.out
      go_wp2_with (first|((with_reducible refine gal ?_);refine g5 hA ?_;clear hF hA;intro bC w1 hA hbC hF)|((with_reducible refine gst ?_);refine wTz hA ?_;clear hF hA;intro w1 hA hF)|((with_reducible refine gbx ?_);refine wCz hA ?_;clear hF hA;intro b1 w1 hA hb1 hF))
      refine(ZaF (hA.sep1 (A:=RdP i r2) sR)).mono ?_;rintro e w7 ⟨rfl,hT⟩;replace hA:=hA.call1 sR hT;clear hT hF
      try simp only[uA] at hA
      obtain⟨hA,hF⟩:=fZ hA
      go_wp2_with (first|((with_reducible refine gst ?_);refine wTz hA ?_;clear hF hA;intro w1 hA hF)|((with_reducible refine gbx ?_);refine wCz hA ?_;clear hF hA;intro b1 w1 hA hb1 hF))
      refine(new_any _).mono ?_;rintro e w8 ⟨p2,m2,rfl,hT⟩;replace hA:=hA.call0 hT;clear hT hF
      try simp only[uA] at hA
      obtain⟨hA,hF⟩:=fZ hA
      go_wp2_with (first|((with_reducible refine gst ?_);refine wTz hA ?_;clear hF hA;intro w1 hA hF)|((with_reducible refine gbx ?_);refine wCz hA ?_;clear hF hA;intro b1 w1 hA hb1 hF))
      go_ret;exact hfin'.out r2 p2 m2 _ (by rw[hbk.out];exact hs2.out) he2.out hr2 (hA.pick pZ)
    have hjz:(0:Int) < (j:Int):=by omega
    have hse:=Zbf (ln,lfo) (num,foot);have hbq:=Hd (show badK (lastK j (ln,lfo)) (keyR sv)=decide (0≤cmpS (ln,lfo) (num,foot)) from by unfold badK lastK;rw[if_neg hj1,hkk.out];rfl)
    generalize cmpS (ln,lfo) (num,foot)=cq at *
    go_upto_region 7 with(first|((with_reducible refine gal ?_);refine g5 hA ?_;clear hF hA;intro bC w1 hA hbC hF)|((with_reducible refine gst ?_);refine wTz hA ?_;clear hF hA;intro w1 hA hF)|((with_reducible refine gbx ?_);refine wCz hA ?_;clear hF hA;intro b1 w1 hA hb1 hF))
    have hcL:=(hA.get (A:=Part.cells bL [.int .u64 ln,.string lfo] 25) sZ:Zaa _ _ _ _)
    have hcC:=(hA.get (A:=Part.cells bC [.int .u64 num,.string foot] 25) sZ:Zaa _ _ _ _)
    have hc0:=hcL.cell 0;have hc1:=hcL.cell 1;have hc2:=hcC.cell 0;have hc3:=hcC.cell 1;clear hcL hcC
    go_wp2_with (first|((with_reducible refine gst ?_);refine wTz hA ?_;clear hF hA;intro w1 hA hF)|((with_reducible refine gbx ?_);refine wCz hA ?_;clear hF hA;intro b1 w1 hA hb1 hF))
    refine(hse _).mono ?_;rintro e wq ⟨rfl,q,os',hg⟩;replace hA:=hA.ext (ZiN hg);clear hg hse hc0 hc1 hc2 hc3 hF
    try simp only[uA] at hA
    obtain⟨hA,hF⟩:=fZ hA
    by_cases hcq:(0:Int)≤cq
    · have hbk:=Hd (show badK (lastK j (ln,lfo)) (keyR sv)=true from by rw[hbq.out];exact decide_eq_true hcq)
      go_wp2_with (first|((with_reducible refine gst ?_);refine wTz hA ?_;clear hF hA;intro w1 hA hF)|((with_reducible refine gbx ?_);refine wCz hA ?_;clear hF hA;intro b1 w1 hA hb1 hF))
      refine(Zck (hA.sep1 (A:=RdP i r2) sR) hr2 10).mono ?_;rintro e w6 ⟨r3,rfl,hz3,hr3,hT⟩;have hs3:=Hd hz3;clear hz3;replace hA:=hA.call1 sR hT;clear hT hF
      try simp only[uA] at hA
      obtain⟨hA,hF⟩:=fZ hA;have he3:=Hd (show r3.s.e≠0 from by rw[hs3.out];exact Zbj (by decide))
      have hne2:(r3.s.e != 0)=true:=by simpa using he3.out
      go_wp2_with (first|((with_reducible refine gst ?_);refine wTz hA ?_;clear hF hA;intro w1 hA hF)|((with_reducible refine gbx ?_);refine wCz hA ?_;clear hF hA;intro b1 w1 hA hb1 hF))
      refine(ZaF (hA.sep1 (A:=RdP i r3) sR)).mono ?_;rintro e w7 ⟨rfl,hT⟩;replace hA:=hA.call1 sR hT;clear hT hF
      try simp only[uA] at hA
      obtain⟨hA,hF⟩:=fZ hA
      go_wp2_with (first|((with_reducible refine gst ?_);refine wTz hA ?_;clear hF hA;intro w1 hA hF)|((with_reducible refine gbx ?_);refine wCz hA ?_;clear hF hA;intro b1 w1 hA hb1 hF))
      refine(new_any _).mono ?_;rintro e w8 ⟨p2,m2,rfl,hT⟩;replace hA:=hA.call0 hT;clear hT hF
      try simp only[uA] at hA
      obtain⟨hA,hF⟩:=fZ hA
      go_wp2_with (first|((with_reducible refine gst ?_);refine wTz hA ?_;clear hF hA;intro w1 hA hF)|((with_reducible refine gbx ?_);refine wCz hA ?_;clear hF hA;intro b1 w1 hA hb1 hF))
      go_ret;exact hfin'.out r3 p2 m2 _ (by rw[hbk.out,←hs2.out];exact hs3.out) he3.out hr3 (hA.pick pZ)
    have hbk:=Hd (show badK (lastK j (ln,lfo)) (keyR sv)=false from by rw[hbq.out];exact decide_eq_false hcq);have he2:=Hd (show r2.s.e≠0 from by rw[hs2.out];exact fun q=>hgood'.out ⟨q,hbk.out⟩)
    have hne2:(r2.s.e != 0)=true:=by simpa using he2.out
    go_wp2_with (first|((with_reducible refine gst ?_);refine wTz hA ?_;clear hF hA;intro w1 hA hF)|((with_reducible refine gbx ?_);refine wCz hA ?_;clear hF hA;intro b1 w1 hA hb1 hF))
    refine(ZaF (hA.sep1 (A:=RdP i r2) sR)).mono ?_;rintro e w7 ⟨rfl,hT⟩;replace hA:=hA.call1 sR hT;clear hT hF
    try simp only[uA] at hA
    obtain⟨hA,hF⟩:=fZ hA
    go_wp2_with (first|((with_reducible refine gst ?_);refine wTz hA ?_;clear hF hA;intro w1 hA hF)|((with_reducible refine gbx ?_);refine wCz hA ?_;clear hF hA;intro b1 w1 hA hb1 hF))
    refine(new_any _).mono ?_;rintro e w8 ⟨p2,m2,rfl,hT⟩;replace hA:=hA.call0 hT;clear hT hF
    try simp only[uA] at hA
    obtain⟨hA,hF⟩:=fZ hA
    go_wp2_with (first|((with_reducible refine gst ?_);refine wTz hA ?_;clear hF hA;intro w1 hA hF)|((with_reducible refine gbx ?_);refine wCz hA ?_;clear hF hA;intro b1 w1 hA hb1 hF))
    go_ret;exact hfin'.out r2 p2 m2 _ (by rw[hbk.out];exact hs2.out) he2.out hr2 (hA.pick pZ)
  go_wp2_with (first|((with_reducible refine gst ?_);refine wTz hA ?_;clear hF hA;intro w1 hA hF)|((with_reducible refine gbx ?_);refine wCz hA ?_;clear hF hA;intro b1 w1 hA hb1 hF))
  have hk0:gk=0:=by omega
  have e1:bookD n none r0.s=(acc,r1.s):=by rw[hD'.out,hk0];simp[bookD]
  go_ret;refine⟨r1,p,m,ss,rfl,by rw[eB'.out.2,e1],hr1,fun _=>by rw[eB'.out.1,e1];exact hSr,fun q=> ?_,hA.pick pZ⟩
  have h1:j=0:=by
   by_cases z:j=0
   · exact z
   exact absurd (hje'.out z) (by rw[eB'.out.2,e1] at q;exact q)
  exact Znf hSr (hj0'.out h1)
end Lease
end
section
namespace Lease
open Go.RowKit
def ZaQ (ss:List Ses) (n:Int) (f:ByteArray) (g:Ses→Ses) (ss':List Ses):Prop:=
 (∃l1 s l2,find ss n f=some s∧ss=l1++s::l2∧ss'=l1++g s::l2)∨(find ss n f=none∧∃b t,ss'=ss++[g (fresh n f b t)])
def Zhh (w:World) (p m:Nat) (ss:List Ses) (n:Int) (f:ByteArray) (g:Ses→Ses) (ret:Value) (code:Int) (e:Ending) (w':World):Prop:=
 ∃ss',e=.returned ret∧At [BookP p m ss] w [BookP p m ss'] w'∧(code≠0∧ss'=ss∨code=0∧ZaQ ss n f g ss')
section
variable {w:World} {p m:Nat} {ss:List Ses} {n:Int} {f:ByteArray}
theorem Zk5 (h:Sep [BookP p m ss] w) (h0:0≤n) (h1:n < big64) (hf:f.size≤maxLen) (hl:ss.length≤1000000) (ttl time:Int):
 Calls Tryz.prog 167 #[.pointer (some ⟨p,0,none⟩),.agg #[.int .u64 n,.string f],.int .i64 ttl,.int .i64 time] w (Zhh w p m ss n f (fun s=>s.opened ttl time) (.int .i64 (openE (look ss n f) (cnt ss f))) (openE (look ss n f) (cnt ss f))):=by
 by_cases he:openE (look ss n f) (cnt ss f)=0
 · rw[he]
   have hd:(look ss n f).dead=false:=by
    cases q:(look ss n f).dead
    · rfl
    simp[openE,q] at he
   have ho:(look ss n f).op=false:=by
    cases q:(look ss n f).op
    · rfl
    simp[openE,hd,q] at he
   have hc:cnt ss f < 32:=by
    rcases Nat.lt_or_ge (cnt ss f) 32 with q|q
    · exact q
    simp[openE,hd,ho,q] at he
   cases hn:find ss n f with
   |none=>
    refine(ZlZ h h0 h1 hf (by omega) ttl time hn hc).mono ?_;rintro e w' ⟨b,t,rfl,hT⟩;exact⟨_,rfl,hT,.inr ⟨rfl,.inr ⟨hn,b,t,rfl⟩⟩⟩
   |some s=>
    have hk:look ss n f=s:=by unfold look;rw[hn];rfl
    rw[hk] at hd ho;obtain⟨l1,l2,rfl,_,_,_⟩:=find_split hn;refine(ZlY h h0 h1 hf (by omega) ttl time hn hc hd ho).mono ?_;rintro e w' ⟨rfl,hT⟩;exact⟨_,rfl,hT,.inr ⟨rfl,.inl ⟨l1,s,l2,hn,rfl,rfl⟩⟩⟩
 refine(Zny h h0 h1 hf (by omega) ttl time he).mono ?_
 rintro e w' ⟨rfl,hT⟩;exact⟨_,rfl,hT,.inl ⟨he,rfl⟩⟩
theorem Zdh {b:Bool} (φ:Ses→Bool) (h0:φ (fresh n f 0 0)≠b) (h:φ (look ss n f)=b):∃s l1 l2,find ss n f=some s∧ss=l1++s::l2∧φ s=b∧look ss n f=s:=by
 cases hn:find ss n f with
 |none=>
  unfold look at h;rw[hn] at h;exact absurd h h0
 |some s=>
  obtain⟨l1,l2,e,_,_,_⟩:=find_split hn
  have hk:look ss n f=s:=by unfold look;rw[hn];rfl
  exact⟨s,l1,l2,rfl,e,by rw[←hk];exact h,hk⟩
theorem Zk6 (h:Sep [BookP p m ss] w) (h0:0≤n) (h1:n < big64) (hf:f.size≤maxLen) (time:Int):
 Calls Tryz.prog 168 #[.pointer (some ⟨p,0,none⟩),.agg #[.int .u64 n,.string f],.int .i64 time] w (Zhh w p m ss n f (fun s=>s.kept time) (.int .i64 (if(look ss n f).op then 0 else 50)) (if(look ss n f).op then 0 else 50)):=by
 cases ho:(look ss n f).op
 · refine(ZnK h h0 h1 hf time ho).mono ?_
   rintro e w' ⟨rfl,hT⟩;exact⟨_,rfl,hT,.inl ⟨by simp,rfl⟩⟩
 obtain⟨s,l1,l2,hn,rfl,hs,_⟩:=Zdh (fun s=>s.op) (by simp[fresh]) ho
 refine(Zmc h h0 h1 hf time hn hs).mono ?_;rintro e w' ⟨rfl,hT⟩;exact⟨_,rfl,hT,.inr ⟨rfl,.inl ⟨l1,s,l2,hn,rfl,rfl⟩⟩⟩
theorem ZmD (h:Sep [BookP p m ss] w) (h0:0≤n) (h1:n < big64) (hf:f.size≤maxLen):
 Calls Tryz.prog 166 #[.pointer (some ⟨p,0,none⟩),.agg #[.int .u64 n,.string f]] w (Zhh w p m ss n f Ses.ended (.int .i64 (if(look ss n f).op then 0 else 50)) (if(look ss n f).op then 0 else 50)):=by
 cases ho:(look ss n f).op
 · refine(Zm1 h h0 h1 hf ho).mono ?_
   rintro e w' ⟨rfl,hT⟩;exact⟨_,rfl,hT,.inl ⟨by simp,rfl⟩⟩
 obtain⟨s,l1,l2,hn,rfl,hs,_⟩:=Zdh (fun s=>s.op) (by simp[fresh]) ho
 refine(ZkL h h0 h1 hf hn hs).mono ?_;rintro e w' ⟨rfl,hT⟩;exact⟨_,rfl,hT,.inr ⟨rfl,.inl ⟨l1,s,l2,hn,rfl,rfl⟩⟩⟩
def expB (s:Ses) (time:Int):Int:=if s.op then(if time < s.dl then 54 else 0) else 50
theorem Zh0 (h:Sep [BookP p m ss] w) (h0:0≤n) (h1:n < big64) (hf:f.size≤maxLen) (time:Int):
 Calls Tryz.prog 114 #[.pointer (some ⟨p,0,none⟩),.agg #[.int .u64 n,.string f],.int .i64 time] w (Zhh w p m ss n f Ses.ended (.int .i64 (expB (look ss n f) time)) (expB (look ss n f) time)):=by
 cases ho:(look ss n f).op
 · refine(ZkH h h0 h1 hf time ho).mono ?_
   rintro e w' ⟨rfl,hT⟩
   have he:expB (look ss n f) time=50:=by simp[expB,ho]
   rw[he];exact⟨_,rfl,hT,.inl ⟨by simp,rfl⟩⟩
 by_cases ht:time < (look ss n f).dl
 · refine(ZgX h h0 h1 hf time ho ht).mono ?_
   rintro e w' ⟨rfl,hT⟩
   have he:expB (look ss n f) time=54:=by simp[expB,ho,ht]
   rw[he];exact⟨_,rfl,hT,.inl ⟨by simp,rfl⟩⟩
 have he:expB (look ss n f) time=0:=by simp[expB,ho,ht]
 rw[he];obtain⟨s,l1,l2,hn,rfl,hs,hk⟩:=Zdh (fun s=>s.op) (by simp[fresh]) ho;rw[hk] at ht;refine(Zjz h h0 h1 hf time hn hs (by omega)).mono ?_;rintro e w' ⟨rfl,hT⟩;exact⟨_,rfl,hT,.inr ⟨rfl,.inl ⟨l1,s,l2,hn,rfl,rfl⟩⟩⟩
def Ses.tell (s:Ses) (r:Int) (c:Ans):Ses:={s with told:=s.told++[(r,c)]}
def tellE (s:Ses) (r:Int):Int:=if(said s.told r).isSome then 1 else if 256≤s.told.length then 1 else 0
theorem Zk4 (h:Sep [BookP p m ss] w) (h0:0≤n) (h1:n < big64) (hf:f.size≤maxLen) {r:Int} (r0:0≤r) (r1:r < big64) (c:Ans):
 Calls Tryz.prog 119 #[.pointer (some ⟨p,0,none⟩),.agg #[.int .u64 n,.string f],.int .u64 r,.agg #[.int .i64 c.e,.int .u64 c.n,.bool c.g]] w (Zhh w p m ss n f (fun s=>s.tell r c) (.tuple #[]) (tellE (look ss n f) r)):=by
 cases hn:find ss n f with
 |none=>
  have hk:look ss n f=fresh n f 0 0:=by unfold look;rw[hn];rfl
  refine(Zgj h h0 h1 hf hn r0 r1 c).mono ?_;rintro e w' ⟨b,t,rfl,hT⟩;exact⟨_,rfl,hT,.inr ⟨by rw[hk];simp[tellE,fresh,said],.inr ⟨hn,b,t,rfl⟩⟩⟩
 |some s=>
  have hk:look ss n f=s:=by unfold look;rw[hn];rfl
  rw[hk]
  cases hs:said s.told r with
  |some a=>
   refine(Zlt h h0 h1 hf hn r0 r1 hs c).mono ?_;rintro e w' ⟨rfl,hT⟩;exact⟨_,rfl,hT,.inl ⟨by simp[tellE,hs],rfl⟩⟩
  |none=>
   by_cases hl:s.told.length < 256
   · obtain⟨l1,l2,rfl,_,_,_⟩:=find_split hn
     refine(Zlu h h0 h1 hf hn r0 r1 hs hl c).mono ?_;rintro e w' ⟨rfl,hT⟩;exact⟨_,rfl,hT,.inr ⟨by simp[tellE,hs,Nat.not_le.2 hl],.inl ⟨l1,s,l2,hn,rfl,rfl⟩⟩⟩
   refine(ZjP h h0 h1 hf hn r0 r1 hs hl c).mono ?_
   rintro e w' ⟨rfl,hT⟩;exact⟨_,rfl,hT,.inl ⟨by simp[tellE,hs,Nat.le_of_not_lt hl],rfl⟩⟩
end
end Lease
end
section
namespace Lock
open Go.RowKit
open Go.Maps (Keyed)
open Path (bl Zad overB)
section
variable {w:World} {b:Bk} {p f:ByteArray} {n mode:Int}
theorem Zhy (h:find b.es p n f=none):b.st.remove p n f=b.st:=by
 unfold S3.remove Bk.st
 congr 1
 rw[List.filter_eq_self];intro e he;have:=ZcZ.1 h e he;simp only[Ent.is,Bool.not_eq_true',decide_eq_false_iff_not];exact this
theorem ZhK {es:List Ent} (h:(ents es).Pairwise (fun p q=>p.1≠q.1)):es.Pairwise (fun a b=>a.key≠b.key):=by
 unfold ents at h;rw[List.pairwise_map] at h;exact h
theorem is_key {a e:Ent} (h:a.is e.path e.num e.foot=true):a.key=e.key:=by
 simp[Ent.is] at h;simp[Ent.key,keyV,h]
theorem Zjk {l1 l2:List Ent} {e:Ent} (hk:(l1++e::l2).Pairwise (fun a b=>a.key≠b.key)):(l1++e::l2).filter (fun x=> !x.is e.path e.num e.foot)=l1++l2:=by
 have h1:=List.pairwise_append.1 hk;have h2:=List.pairwise_cons.1 h1.2.1
 have he:e.is e.path e.num e.foot=true:=by simp[Ent.is]
 have f1:l1.filter (fun x=> !x.is e.path e.num e.foot)=l1:=by
  rw[List.filter_eq_self];intro x hx
  cases hq:x.is e.path e.num e.foot with
  |false=>rfl
  |true=>exact absurd (is_key hq) (h1.2.2 x hx e (by simp))
 have f2:l2.filter (fun x=> !x.is e.path e.num e.foot)=l2:=by
  rw[List.filter_eq_self];intro x hx
  cases hq:x.is e.path e.num e.foot with
  |false=>rfl
  |true=>exact absurd (is_key hq).symm (h2.1 x hx)
 rw[List.filter_append,List.filter_cons,he,f1,f2]
 rfl
theorem Zj7 (h:Sep [BookP b] w) (hp:p.size≤maxLen) (h0:0≤n) (h1:n < big64) (hf:f.size≤maxLen) (hfi:find b.es p n f=none):
 Calls Tryz.prog 223 #[.pointer (some ⟨b.p,0,none⟩),.string p,.agg #[.int .u64 n,.string f]] w fun e w'=>e=.returned (.int .i64 52)∧At [BookP b] w [BookP b] w':=by
 obtain⟨kl,hk⟩:=keyP hp h0 h1 hf;have hA:=begin0 h;have hF:=hA.facts;have hmiss:=Hd (find_none hfi);clear h hfi
 unfold keyV at *
 obtain⟨hA,hF⟩:=fY hA
 go_enter Tryz.func223,Tryz.ntmps223
 go_wp2_with ((with_reducible refine gbx ?_);refine wCy (E:=25) hA ?_;clear hF hA;intro bS w1 hA hbS hF)
 (refine Za4 (a1:= ?a1_q1) (v:= ?v_q1) 11 7 97 _ (.agg #[.string .empty,.int .u64 0,.string .empty,.int .i64 0,.int .u64 0,.int .i64 0]) [.string .empty,.int .u64 0,.string .empty,.int .i64 0,.int .u64 0,.int .i64 0] ([.string .empty,.int .u64 0,.string .empty,.int .i64 0,.int .u64 0,.int .i64 0]) (by kernel_rfl) (by kernel_rfl) rfl rfl ?hyd_q1 (by kernel_rfl) rfl hA ?h1_q1 ?hd_q1 ?hy_q1 ?hu_q1 ?hsz_q1 ?hus_q1 ?hl_q1 ?h2_q1);(case h1_q1=>(intro R wR hR;(try clear hF);(simp only[List.take_succ_cons,List.take_zero,List.drop_succ_cons,List.drop_zero]);(have hn1:=Cl.none hR);(have hn2:=Cl.none2 hR);(repeat(first|go_big_quiet_skip|(go_big_quiet_want;(first|(refine qM 25 2 ?_;go_frame;go_big_quiet_on)|((refine ZbH rfl rfl (by(try simp only[Act.eval,eV])<;>exact rfl) (k:=203) (es:=ents b.es) sR lawP Tryz.underlying201 hk hmiss.out (z:=nullE.val) (fun _=>by kernel_rfl) ?_);go_frame;go_big_quiet_on)|(refine qL ?_;go_frame;go_big_quiet_on)|(go_big_quiet_op;(first|go_big_quiet_on))))));(refine wpQuiet_nil ?_);exact rfl));(case hyd_q1=>rfl);(case hd_q1=>(first|decide|simp));(case hy_q1=>((try simp only[Act.eval,Array.getD_eq_getD_getElem?,List.getElem?_toArray,List.getElem?_cons_succ,List.getElem?_cons_zero,Option.getD_some]);exact rfl));(case hu_q1=>exact rfl);(case hsz_q1=>kernel_rfl);(case hus_q1=>rfl);(case hl_q1=>rfl);(intro b1 w1 hB hb1;clear hF hA;have hA:=hB;clear hB;(simp only[List.drop_succ_cons,List.drop_zero]);obtain⟨hA,hF⟩:=fY hA;(try go_frame))
 go_wp2_with fail
 go_ret;exact⟨rfl,close0 b hA sR sR sR⟩
theorem Zjj (h:Sep [BookP b] w) (hp:p.size≤maxLen) (h0:0≤n) (h1:n < big64) (hf:f.size≤maxLen) {x:Ent} (hfi:find b.es p n f=some x):
 Calls Tryz.prog 223 #[.pointer (some ⟨b.p,0,none⟩),.string p,.agg #[.int .u64 n,.string f]] w fun e w'=>e=.returned (.int .i64 0)∧At [BookP b] w [BookP (b.with (b.st.remove p n f))] w':=by
 obtain⟨kl,hk⟩:=keyP hp h0 h1 hf;have hA:=begin0 h;have hmem:=Hd (find_mem hfi);obtain⟨l1,l2,hes,rfl,rfl,rfl,_⟩:=find_split hfi;have hkeys:=ZhK (MapAt.keys (hA.get (A:=mapC b.m (ents b.es)) sR));rw[hes] at hkeys
 have hrem:b.st.remove x.path x.num x.foot=⟨b.first,l1++l2,b.cs⟩:=by
  unfold S3.remove Bk.st;simp only[hes];rw[Zjk hkeys]
 rw[hrem];have hF:=hA.facts
 have hents:ents b.es=ents l1++(x.key,x.val)::ents l2:=by rw[hes];simp[ents,ent]
 have hes':=Hd hents;clear h hfi hkeys hrem hes hents;unfold Ent.val keyV at hmem;unfold keyV at hk;obtain⟨hA,hF⟩:=fY hA
 go_enter Tryz.func223,Tryz.ntmps223
 go_wp2_with ((with_reducible refine gbx ?_);refine wCy (E:=25) hA ?_;clear hF hA;intro bS w1 hA hbS hF)
 (refine Za4 (a1:= ?a1_q2) (v:= ?v_q2) 11 7 97 _ (.agg #[.string .empty,.int .u64 0,.string .empty,.int .i64 0,.int .u64 0,.int .i64 0]) [.string .empty,.int .u64 0,.string .empty,.int .i64 0,.int .u64 0,.int .i64 0] ([.string x.path,.int .u64 x.num,.string x.foot,.int .i64 x.mode,.int .u64 x.n,.int .i64 x.stamp]) (by kernel_rfl) (by kernel_rfl) rfl rfl ?hyd_q2 (by kernel_rfl) rfl hA ?h1_q2 ?hd_q2 ?hy_q2 ?hu_q2 ?hsz_q2 ?hus_q2 ?hl_q2 ?h2_q2);(case h1_q2=>(intro R wR hR;(try clear hF);(simp only[List.take_succ_cons,List.take_zero,List.drop_succ_cons,List.drop_zero]);(have hn1:=Cl.none hR);(have hn2:=Cl.none2 hR);(repeat(first|go_big_quiet_skip|(go_big_quiet_want;(first|(refine qM 25 2 ?_;go_frame;go_big_quiet_on)|((refine ZbG rfl rfl (by(try simp only[Act.eval,eV])<;>exact rfl) (k:=203) (es:=ents b.es) sR lawP Tryz.underlying201 hk hmem.out ?_);go_frame;go_big_quiet_on)|(refine qL ?_;go_frame;go_big_quiet_on)|(go_big_quiet_op;(first|go_big_quiet_on))))));(refine wpQuiet_nil ?_);exact rfl));(case hyd_q2=>rfl);(case hd_q2=>(first|decide|simp));(case hy_q2=>((try simp only[Act.eval,Array.getD_eq_getD_getElem?,List.getElem?_toArray,List.getElem?_cons_succ,List.getElem?_cons_zero,Option.getD_some]);exact rfl));(case hu_q2=>exact rfl);(case hsz_q2=>kernel_rfl);(case hus_q2=>rfl);(case hl_q2=>rfl);(intro b1 w1 hB hb1;clear hF hA;have hA:=hB;clear hB;(simp only[List.drop_succ_cons,List.drop_zero]);obtain⟨hA,hF⟩:=fY hA;(try go_frame))
 go_wp2_with fail
 try go_frame
 (refine Zaj 7 (Cl _ _ _) (by kernel_rfl) (by kernel_rfl) (Cl.drew hA) ?_);(simp only[List.take_succ_cons,List.take_zero,List.drop_succ_cons,List.drop_zero]);(have hn1:=Cl.none hA);(have hn2:=Cl.none2 hA);(repeat(first|go_big_quiet_skip|(go_big_quiet_want;(first|(refine qM 25 2 ?_;go_frame;go_big_quiet_on)|(refine qL ?_;go_frame;go_big_quiet_on)|(go_big_quiet_op;(first|go_big_quiet_on))))))
 (refine wpQuiet_nil ?_);(intro w1 hB);(clear hF hA hn1 hn2);(have hA:=Cl.out hB);(clear hB);obtain⟨hA,hF⟩:=fY hA
 unfold mapC at hA;rw[hes'.out] at hA;unfold Ent.key keyV at hA;obtain⟨hA,hF⟩:=fY hA
 go_wp2_with (refine ZcD rfl rfl rfl (by(try simp only[Act.eval,eV])<;>exact rfl) hA (k:=203) sR lawP Tryz.underlying201 hk ?_;intro w1 hB;clear hF hA;have hA:=hB;clear hB;obtain⟨hA,hF⟩:=fY hA)
 go_ret
 have hel:ents l1++ents l2=ents (l1++l2):=by simp[ents]
 rw[hel] at hA;exact⟨rfl,close0 ⟨b.p,b.m,b.c,b.first,l1++l2,b.cs⟩ hA sR sR sR⟩
theorem Zjl (h:Sep [BookP b] w) (hp:p.size≤maxLen) (h0:0≤n) (h1:n < big64) (hf:f.size≤maxLen):
 Calls Tryz.prog 223 #[.pointer (some ⟨b.p,0,none⟩),.string p,.agg #[.int .u64 n,.string f]] w fun e w'=>e=.returned (.int .i64 (if(find b.es p n f).isSome=true then 0 else 52))∧At [BookP b] w [BookP (b.with (b.st.remove p n f))] w':=by
 cases hfi:find b.es p n f with
 |none=>
  have:=Zj7 h hp h0 h1 hf hfi;rw[Zhy hfi];exact this
 |some x=>exact Zjj h hp h0 h1 hf hfi
theorem Zg3 (h:Sep [BookP b] w) (hp:p.size≤1000000) (hok:∀x ∈ b.es,x.path.size≤1000000∧x.stamp≤1000000000):
 Calls Tryz.prog 260 #[.pointer (some ⟨b.p,0,none⟩),.string p,.int .i64 mode] w fun e w'=>e=.returned (.bool (ZaO b.es p mode))∧At [BookP b] w [BookP b] w':=by
 have hA:=At.start h;have hF:=hA.facts;have hr:=right_any p mode
 have hcd:ZaO b.es p mode=(ZaR p mode&&ZaP b.es ⟨p,0,.empty,mode,0,maxS b.es p + 1⟩):=by
  rw[ZhT,Bool.and_comm];rfl
 rw[hcd]
 have hst:=fun(w1:World) (q:Sep [BookP b] w1)=>Zgm q p hp hok
 have hcl:=fun(w1:World) (q:Sep [BookP b] w1)=>Zg7 q ⟨p,0,.empty,mode,0,maxS b.es p + 1⟩ hp (fun x hx=>(hok x hx).1)
 generalize ZaP b.es ⟨p,0,.empty,mode,0,maxS b.es p + 1⟩=c at *
 simp only at hcl
 generalize maxS b.es p=ss at *
 generalize ZaR p mode=r at *
 clear h hok hcd;obtain⟨hA,hF⟩:=fY hA
 go_enter Tryz.func260,Tryz.ntmps260
 go_wp2_with fail
 refine(hr w hp).mono ?_;clear hr;rintro e w2 ⟨rfl,hx⟩;replace hA:=hA.ext hx;clear hF hx;obtain⟨hA,hF⟩:=fY hA;cases r
 · go_wp2_with fail
   go_ret;exact⟨rfl,hA.only1 sR⟩
 go_wp2_with fail
 refine(hst _ (hA.sep1 (A:=BookP b) sR)).mono ?_;clear hst;rintro e w1 ⟨rfl,hT⟩;replace hA:=hA.call1 sR hT;clear hF hT;obtain⟨hA,hF⟩:=fY hA
 go_wp2_with fail
 refine(hcl _ (hA.sep1 (A:=BookP b) sR)).mono ?_;clear hcl;rintro e w1 ⟨rfl,hT⟩;replace hA:=hA.call1 sR hT;clear hF hT;obtain⟨hA,hF⟩:=fY hA
 go_wp2_with fail
 go_ret;exact⟨rfl,hA.only1 sR⟩
end
end Lock
end
end Go.Proofs.YtkdjkngfnapjcaaGreatDoor
section
namespace Go.Proofs.YtkdjkngfnapjcaaGreatDoor.Cmd
open Path (bl Zad overB)
structure Cm where
 kind:Int
 num:Int
 foot:ByteArray
 req:Int
 path:ByteArray
 mode:Int
 n:Int
 time:Int
deriving DecidableEq
def Cm.cells (c:Cm):List Value:=[.int .i64 c.kind,.int .u64 c.num,.string c.foot,.int .u64 c.req,.string c.path,.int .i64 c.mode,.int .u64 c.n,.int .i64 c.time]
def Cm.val (c:Cm):Value:=.agg #[.int .i64 c.kind,.int .u64 c.num,.string c.foot,.int .u64 c.req,.string c.path,.int .i64 c.mode,.int .u64 c.n,.int .i64 c.time]
structure Hs where
 session:Bool
 request:Bool
 path:Bool
 mode:Bool
 n:Bool
 time:Bool
def hasOf (k:Int):Option Hs:=
 if k=0 then some ⟨false,false,false,false,false,false⟩
 else if k=1 then some ⟨true,true,false,false,true,true⟩
 else if k=2 then some ⟨true,true,false,false,false,false⟩
 else if k=3 then some ⟨true,true,false,false,false,true⟩
 else if k=4 then some ⟨true,true,true,true,false,false⟩
 else if k=5 then some ⟨true,true,true,true,false,false⟩
 else if k=6 then some ⟨true,true,true,false,false,false⟩
 else if k=7 then some ⟨true,true,true,false,true,false⟩
 else if k=8 then some ⟨true,false,false,false,false,true⟩
 else none
def bareC (c:Cm) (h:Hs):Cm:=⟨c.kind,if h.session then c.num else 0,if h.session then c.foot else .empty,if h.request then c.req else 0,if h.path then c.path else .empty,if h.mode then c.mode else 0,if h.n then c.n else 0,if h.time then c.time else 0⟩
def mostN (k:Int):Int:=if k=1 then 1048576 else 9223372036854775807
def Zcg (c:Cm) (h:Hs):Bool:=decide (c=bareC c h)&&(!h.session || Zad (bl c.foot))&&(!h.request || !(c.req==0))&&(!h.path || Zad (bl c.path))&&(!h.mode || !((c.mode != 1)&&(c.mode != 2)))&&(!h.n || !((c.n==0) || decide (mostN c.kind < c.n)))&&(decide (0≤c.time)&&decide (c.time≤1099511627776))
def ZaA (c:Cm):Bool:=match hasOf c.kind with
 |some h=>Zcg c h
 |none=>false
def footC (c:Cm):ByteArray × Bool:=if ZaA c then(match hasOf c.kind with
 |some h=>if h.path then(c.path,true) else(c.foot,h.session)
 |none=>(.empty,false)) else(.empty,false)
def keyC (c:Cm):Option (ByteArray × Int):=if(footC c).2 then some ((footC c).1,c.num) else none
end Go.Proofs.YtkdjkngfnapjcaaGreatDoor.Cmd
namespace Go
abbrev k8 (k n:Int) (f:ByteArray) (r:Int) (p:ByteArray) (m u t:Int):List Value:=[.int .i64 k,.int .u64 n,.string f,.int .u64 r,.string p,.int .i64 m,.int .u64 u,.int .i64 t]
abbrev k2 (p q:Nat):List Value:=[.pointer (some ⟨p,0,none⟩),.pointer (some ⟨q,0,none⟩)]
end Go
end
namespace Go.Proofs.YtkdjkngfnapjcaaGreatDoor
section
namespace Tab
open Go.RowKit
open Path (bl Zad overB Zaw)
open Lease (Ses Ans fresh ZaQ)
open Lock (S3 Ent)
open Cmd (Cm ZaA)
def zs (s:Ses):Ses:={s with blk:=0,tm:=0}
theorem zs_is (s:Ses) (n:Int) (f:ByteArray):(zs s).is n f=s.is n f:=rfl
def lookA (S:List Ses) (n:Int) (f:ByteArray):Ses:=(Lease.find S n f).getD (fresh n f 0 0)
def updA (g:Ses→Ses) (n:Int) (f:ByteArray):List Ses→List Ses
 |[]=>[g (fresh n f 0 0)]
 |s::S=>if s.is n f then g s::S else s::updA g n f S
structure TS where
 S:List Ses
 L:S3
def ans0:Ans:=⟨0,0,false⟩
def ansE (e:Int):Ans:=⟨e,0,false⟩
def mayT (t:TS) (c:Cm):Int:=if(lookA t.S c.num c.foot).op=false then 50 else if Zaw (bl c.foot) (bl c.path)=false then 55 else 0
def addT (t:TS) (c:Cm):TS × Ans:=
 (⟨t.S,t.L.add c.path c.num c.foot c.mode⟩,if t.L.may c.path c.num c.foot c.mode=0 then⟨0,(t.L.newE c.path c.num c.foot c.mode).n,Lock.ZaO t.L.es c.path c.mode⟩ else ansE (t.L.may c.path c.num c.foot c.mode))
def tryT (t:TS) (c:Cm):TS × Ans:=
 if Lock.ZaO t.L.es c.path c.mode then addT t c else if t.L.may c.path c.num c.foot c.mode=0 then(t,ansE 51) else(t,ansE (t.L.may c.path c.num c.foot c.mode))
def Zbl (l:List Ent) (p:ByteArray) (n:Int):Bool:=l.any (fun e=>decide (e.path=p∧e.n=n)&&Lock.ZaP l e)
def ZaN (t:TS) (c:Cm):TS × Ans:=
 if mayT t c≠0 then(t,ansE (mayT t c))
 else if c.kind=4 then addT t c
 else if c.kind=5 then tryT t c
 else if c.kind=6 then(⟨t.S,t.L.remove c.path c.num c.foot⟩,ansE (if(Lock.find t.L.es c.path c.num c.foot).isSome then 0 else 52))
 else(t,ansE (if Zbl t.L.es c.path c.n then 0 else 52))
def opT (t:TS) (c:Cm) (g:Ses→Ses) (e:Int):TS:=if e=0 then⟨updA g c.num c.foot t.S,t.L⟩ else t
def endT (t:TS) (c:Cm) (e:Int):TS:=if e=0 then⟨updA Ses.ended c.num c.foot t.S,t.L.dropAll c.num c.foot⟩ else t
def doT (t:TS) (c:Cm):TS × Ans:=
 if c.kind=1 then(opT t c (fun s=>s.opened c.n c.time) (Lease.openE (lookA t.S c.num c.foot) (Lease.cnt t.S c.foot)),ansE (Lease.openE (lookA t.S c.num c.foot) (Lease.cnt t.S c.foot)))
 else if c.kind=2 then(endT t c (if(lookA t.S c.num c.foot).op then 0 else 50),ansE (if(lookA t.S c.num c.foot).op then 0 else 50))
 else if c.kind=3 then(opT t c (fun s=>s.kept c.time) (if(lookA t.S c.num c.foot).op then 0 else 50),ansE (if(lookA t.S c.num c.foot).op then 0 else 50))
 else ZaN t c
def tellT (t:TS) (c:Cm) (a:Ans):TS:=opT t c (fun s=>s.tell c.req a) (Lease.tellE (lookA t.S c.num c.foot) c.req)
def Zat (t:TS) (c:Cm):TS × Ans:=
 if ZaA c=false∨c.kind=0 then(t,ans0)
 else if c.kind=8 then(endT t c (Lease.expB (lookA t.S c.num c.foot) c.time),ansE (Lease.expB (lookA t.S c.num c.foot) c.time))
 else match Lease.said (lookA t.S c.num c.foot).told c.req with
  |some a=>(t,a)
  |none=>if 256≤(lookA t.S c.num c.foot).told.length then(t,ansE 14) else(tellT (doT t c).1 c (doT t c).2,(doT t c).2)
theorem ZkG (ss:List Ses) (n:Int) (f:ByteArray):Lease.find (ss.map zs) n f=(Lease.find ss n f).map zs:=by
 unfold Lease.find
 induction ss with
 |nil=>rfl
 |cons s ss ih=>
  rw[List.map_cons,List.find?_cons,List.find?_cons,zs_is];cases s.is n f
  · exact ih
  rfl
theorem ZnD (ss:List Ses) (n:Int) (f:ByteArray):lookA (ss.map zs) n f=zs (Lease.look ss n f):=by
 unfold lookA Lease.look;rw[ZkG]
 cases Lease.find ss n f<;>rfl
theorem cnt_zs (ss:List Ses) (f:ByteArray):Lease.cnt (ss.map zs) f=Lease.cnt ss f:=by
 unfold Lease.cnt;rw[List.filter_map,List.length_map]
 rfl
def keyE (s:Ses):Int × ByteArray:=(s.num,s.foot)
theorem is_key {s:Ses} {n:Int} {f:ByteArray}:s.is n f=true↔keyE s=(n,f):=by unfold Lease.Ses.is keyE;simp
theorem Zfj {g:Ses→Ses} {n:Int} {f:ByteArray}:∀{S:List Ses},Lease.find S n f=none→updA g n f S=S++[g (fresh n f 0 0)]
 |[],_=>rfl
 |s::S,h=>by
  unfold Lease.find at h;rw[List.find?_cons] at h
  cases hq:s.is n f with
  |true=>rw[hq] at h;cases h
  |false=>
   rw[hq] at h;unfold updA;rw[hq,if_neg (by decide),Zfj (S:=S) h]
   rfl
theorem Zhm {g:Ses→Ses} {n:Int} {f:ByteArray} {s:Ses} {l2:List Ses} (hs:s.is n f=true):∀{l1:List Ses},(∀x ∈ l1,x.is n f=false)→updA g n f (l1++s::l2)=l1++g s::l2
 |[],_=>by simp[updA,hs]
 |x::l1,h=>by
  have h1:=h x (by simp)
  have ih:=Zhm (g:=g) (l2:=l2) hs (l1:=l1) fun y hy=>h y (by simp[hy])
  simp[updA,h1,ih]
def Kn (ss:List Ses):Prop:=(ss.map keyE).Nodup
theorem ZeJ {ss ss':List Ses} {n:Int} {f:ByteArray} {g:Ses→Ses} (hk:Kn ss) (ht:ZaQ ss n f g ss') (hg:∀s,zs (g s)=g (zs s)):ss'.map zs=updA g n f (ss.map zs):=by
 rcases ht with⟨l1,s,l2,hf,rfl,rfl⟩|⟨hf,b,t,rfl⟩
 · have hs:s.is n f=true:=by unfold Lease.find at hf;simpa using List.find?_some hf
   have hl:∀x ∈ l1.map zs,x.is n f=false:=fun x hx=>by
    obtain⟨y,hy,rfl⟩:=List.mem_map.1 hx
    cases q:(zs y).is n f with
    |false=>rfl
    |true=>
     unfold Kn at hk;rw[List.map_append,List.map_cons] at hk;have h1:=(List.nodup_append.1 hk).2.2 (keyE y) (List.mem_map.2 ⟨y,hy,rfl⟩) (keyE s) (by simp);exact absurd ((is_key.1 q).trans (is_key.1 hs).symm) h1
   rw[List.map_append,List.map_cons,List.map_append,List.map_cons,Zhm (s:=zs s) (by rw[zs_is];exact hs) hl,hg]
 rw[List.map_append,List.map_cons,List.map_nil,hg,Zfj (by rw[ZkG,hf];rfl)]
 rfl
abbrev headT (t p q:Nat):Part:=Part.cells t [.pointer (some ⟨p,0,none⟩),.pointer (some ⟨q,0,none⟩)] 180
def TabP (t p m:Nat) (ss:List Ses) (b:Lock.Bk):Part:=Part.all [headT t p b.p,Lease.BookP p m ss,Lock.BookP b]
theorem Zft (t p m:Nat) (ss:List Ses) (b:Lock.Bk) (F:List Part):Eqv (TabP t p m ss b::F) (headT t p b.p::Lease.BookP p m ss::Lock.BookP b::F):=Eqv.all [headT t p b.p,Lease.BookP p m ss,Lock.BookP b] F
theorem ZbB {w:World} {t p m:Nat} {ss:List Ses} {b:Lock.Bk} (h:Sep [TabP t p m ss b] w):At [TabP t p m ss b] w [headT t p b.p,Lease.BookP p m ss,Lock.BookP b] w:=(At.start h).to (Zft t p m ss b [])
theorem Zax {L0:List Part} {w0 w:World} {t p m:Nat} {ss:List Ses} {b:Lock.Bk} (h:At L0 w0 [headT t p b.p,Lease.BookP p m ss,Lock.BookP b] w):At L0 w0 [TabP t p m ss b] w:=h.to (Zft t p m ss b []).symm
structure TRel (ss:List Ses) (b:Lock.Bk) (t:TS):Prop where
 S:ss.map zs=t.S
 L:b.st=t.L
structure SInv (S:List Ses) (m:Nat):Prop where
 keys:Kn S
 num:∀s ∈ S,0≤s.num∧s.num < Lease.big64
 foot:∀s ∈ S,s.foot.size≤1000
 len:S.length≤m
structure TInv (t:TS) (k:Nat):Prop where
 s:SInv t.S (2 * k)
 lock:Lock.Inv t.L k
structure CmOk (c:Cm):Prop where
 num:0≤c.num∧c.num < Lease.big64
 foot:c.foot.size≤100
 path:c.path.size≤100
theorem Zfk {g:Ses→Ses} {n:Int} {f:ByteArray} (hg:∀s,keyE (g s)=keyE s):∀{S:List Ses} {x:Ses},x ∈ updA g n f S→keyE x=(n,f)∨∃y ∈ S,keyE y=keyE x
 |[],x,h=>by rw[List.mem_singleton.1 h,hg];exact .inl rfl
 |s::S,x,h=>by
  unfold updA at h
  split at h
  · rcases List.mem_cons.1 h with rfl|h
    · exact .inr ⟨s,by simp,(hg s).symm⟩
    exact .inr ⟨x,by simp[h],rfl⟩
  rcases List.mem_cons.1 h with rfl|h
  · exact .inr ⟨x,by simp,rfl⟩
  rcases Zfk hg h with q|⟨y,h1,h2⟩
  · exact .inl q
  exact .inr ⟨y,by simp[h1],h2⟩
theorem ZjK (g:Ses→Ses) (n:Int) (f:ByteArray):∀S:List Ses,(updA g n f S).length≤S.length + 1
 |[]=>by simp[updA]
 |s::S=>by
  unfold updA
  split
  · simp
  have:=ZjK g n f S
  simp only[List.length_cons]
  omega
theorem ZmT {g:Ses→Ses} {n:Int} {f:ByteArray} (hg:∀s,keyE (g s)=keyE s):∀{S:List Ses},Kn S→Kn (updA g n f S)
 |[],_=>by simp[updA,Kn]
 |s::S,h=>by
  unfold Kn at h;rw[List.map_cons,List.nodup_cons] at h;unfold updA
  split
  · unfold Kn
    rw[List.map_cons,hg,List.nodup_cons];exact h
  rename_i hq
  unfold Kn;rw[List.map_cons,List.nodup_cons];refine⟨fun q=> ?_,ZmT hg h.2⟩;obtain⟨x,hx,e⟩:=List.mem_map.1 q
  rcases Zfk hg hx with q2|⟨y,h1,h2⟩
  · exact hq (is_key.2 (e.symm.trans q2))
  exact h.1 (List.mem_map.2 ⟨y,h1,h2.trans e⟩)
theorem ZiF {x y:Ses} (h:keyE x=keyE y):x.num=y.num∧x.foot=y.foot:=⟨congrArg Prod.fst h,congrArg Prod.snd h⟩
theorem SInv.mono {S:List Ses} {m j:Nat} (h:SInv S m) (hj:m≤j):SInv S j:={h with len:=Nat.le_trans h.len hj}
theorem SInv.upd {S:List Ses} {m:Nat} {c:Cm} {g:Ses→Ses} (h:SInv S m) (hc:CmOk c) (hg:∀s,keyE (g s)=keyE s):SInv (updA g c.num c.foot S) (m + 1):=by
 refine⟨ZmT hg h.keys,fun s hs=> ?_,fun s hs=> ?_,Nat.le_trans (ZjK g c.num c.foot S) (Nat.succ_le_succ h.len)⟩
 · rcases Zfk hg hs with q|⟨y,q1,q2⟩
   · rw[show s.num=c.num from congrArg Prod.fst q];exact hc.num
   rw[←(ZiF q2).1];exact h.num y q1
 rcases Zfk hg hs with q|⟨y,q1,q2⟩
 · rw[show s.foot=c.foot from congrArg Prod.snd q];exact Nat.le_trans hc.foot (by omega)
 rw[←(ZiF q2).2];exact h.foot y q1
theorem op_ok {c:Cm} (hc:CmOk c) (kind mode:Int):(⟨kind,mode,c.path,c.num,c.foot⟩:Lock.Op).ok:=⟨hc.path,hc.num.1,hc.num.2,Nat.le_trans hc.foot (by unfold maxLen;omega)⟩
theorem ZnM {l:S3} {k:Nat} {c:Cm} (h:Lock.Inv l k) (hc:CmOk c):Lock.Inv (l.add c.path c.num c.foot c.mode) (k + 1):=Lock.ZfS h (op_ok hc 1 c.mode)
theorem Zju {l:S3} {k:Nat} {c:Cm} (h:Lock.Inv l k) (hc:CmOk c):Lock.Inv (l.remove c.path c.num c.foot) (k + 1):=Lock.ZfS h (op_ok hc 2 c.mode)
theorem Zmd {l:S3} {k:Nat} {c:Cm} (h:Lock.Inv l k) (hc:CmOk c):Lock.Inv (l.dropAll c.num c.foot) (k + 1):=Lock.ZfS h (op_ok hc 3 c.mode)
theorem Zeh {t:TS} {m:Nat} {c:Cm} {g:Ses→Ses} (e:Int) (h:SInv t.S m) (hc:CmOk c) (hg:∀s,keyE (g s)=keyE s):SInv (opT t c g e).S (m + 1)∧(opT t c g e).L=t.L:=by
 unfold opT
 split
 · exact⟨h.upd hc hg,rfl⟩
 exact⟨h.mono (by omega),rfl⟩
theorem ZiT {t:TS} {m k:Nat} {c:Cm} (e:Int) (h:SInv t.S m) (hl:Lock.Inv t.L k) (hc:CmOk c):SInv (endT t c e).S (m + 1)∧Lock.Inv (endT t c e).L (k + 1):=by
 unfold endT
 split
 · exact⟨h.upd hc fun s=>rfl,Zmd hl hc⟩
 exact⟨h.mono (by omega),hl.mono (by omega)⟩
theorem Zi5 {t:TS} {m k:Nat} {c:Cm} (h:SInv t.S m) (hl:Lock.Inv t.L k) (hc:CmOk c):SInv (addT t c).1.S (m + 1)∧Lock.Inv (addT t c).1.L (k + 1):=⟨h.mono (by omega),ZnM hl hc⟩
theorem ZnW {t:TS} {m k:Nat} {c:Cm} (h:SInv t.S m) (hl:Lock.Inv t.L k) (hc:CmOk c):SInv (doT t c).1.S (m + 1)∧Lock.Inv (doT t c).1.L (k + 1):=by
 have h0:SInv t.S (m + 1)∧Lock.Inv t.L (k + 1):=⟨h.mono (by omega),hl.mono (by omega)⟩
 unfold doT
 split
 · obtain⟨q1,q2⟩:=Zeh (Lease.openE (lookA t.S c.num c.foot) (Lease.cnt t.S c.foot)) (g:=fun s=>s.opened c.n c.time) h hc fun s=>rfl
   exact⟨q1,by rw[q2];exact h0.2⟩
 split
 · exact ZiT _ h hl hc
 split
 · obtain⟨q1,q2⟩:=Zeh (if(lookA t.S c.num c.foot).op then 0 else 50) (g:=fun s=>s.kept c.time) h hc fun s=>rfl
   exact⟨q1,by rw[q2];exact h0.2⟩
 unfold ZaN
 split
 · exact h0
 split
 · exact Zi5 h hl hc
 split
 · unfold tryT
   split
   · exact Zi5 h hl hc
   split
   · exact h0
   exact h0
 split
 · exact⟨h0.1,Zju hl hc⟩
 exact h0
theorem Zmu {t:TS} {m:Nat} {c:Cm} (h:SInv t.S m) (hc:CmOk c):SInv (doT t c).1.S (m + 1):=by
 have h0:SInv t.S (m + 1):=h.mono (by omega);unfold doT
 split
 · exact(Zeh _ (g:=fun s=>s.opened c.n c.time) h hc fun s=>rfl).1
 split
 · unfold endT
   split
   · exact h.upd hc fun s=>rfl
   exact h0
 split
 · exact(Zeh _ (g:=fun s=>s.kept c.time) h hc fun s=>rfl).1
 unfold ZaN
 split
 · exact h0
 split
 · exact h0
 split
 · unfold tryT
   split
   · exact h0
   split
   · exact h0
   exact h0
 split
 · exact h0
 exact h0
theorem Zhc {t:TS} {k:Nat} {c:Cm} (h:TInv t k) (hc:CmOk c):TInv (Zat t c).1 (k + 1):=by
 have h0:TInv t (k + 1):=⟨h.s.mono (by omega),h.lock.mono (by omega)⟩
 unfold Zat
 split
 · exact h0
 split
 · obtain⟨q1,q2⟩:=ZiT (Lease.expB (lookA t.S c.num c.foot) c.time) h.s h.lock hc
   exact⟨q1.mono (by omega),q2⟩
 split
 · exact h0
 split
 · exact h0
 obtain⟨q1,q2⟩:=ZnW h.s h.lock hc
 obtain⟨q3,q4⟩:=Zeh (t:=(doT t c).1) (Lease.tellE (lookA (doT t c).1.S c.num c.foot) c.req) (g:=fun s=>s.tell c.req (doT t c).2) q1 hc fun s=>rfl
 exact⟨q3.mono (by omega),by
  show Lock.Inv (opT _ _ _ _).L _
  rw[q4];exact q2⟩
def playT (t:TS) (l:List Cm):TS:=l.foldl (fun t c=>(Zat t c).1) t
def toldT:TS→List Cm→List Ans
 |_,[]=>[]
 |t,c::l=>(Zat t c).2::toldT (Zat t c).1 l
theorem Zdb (t:TS) (l:List Cm) (c:Cm):playT t (l++[c])=(Zat (playT t l) c).1:=by unfold playT;rw[List.foldl_append];rfl
theorem ZeK:∀(l:List Cm) (t:TS) (c:Cm),toldT t (l++[c])=toldT t l++[(Zat (playT t l) c).2]
 |[],_,_=>rfl
 |x::l,t,c=>by
  show(Zat t x).2::toldT _ (l++[c])=_;rw[ZeK l]
  rfl
theorem Ziv {l:List Cm} (hl:∀c ∈ l,CmOk c):∀{t:TS} {k:Nat},TInv t k→TInv (playT t l) (k + l.length):=by
 induction l with
 |nil=>exact fun h=>h
 |cons c l ih=>
  intro t k h;have h1:=ih (fun x hx=>hl x (by simp[hx])) (Zhc h (hl c (by simp)))
  have e:k + 1 + l.length=k + (c::l).length:=by simp only[List.length_cons];omega
  rw[←e];exact h1
theorem ZhF {first:Int} (h0:0≤first) (h1:first < Lock.big64):TInv ⟨[],⟨first,[],[]⟩⟩ 0:=⟨⟨by simp[Kn],nofun,nofun,by simp⟩,Lock.ZnL h0 h1⟩
end Tab
end
section
namespace Lock
open Go.RowKit
open Go.Maps (Keyed)
open Path (bl Zad overB)
attribute [-go_sem] run_eql_struct run_neq_struct run_eqGuard_agg
attribute [local go_sem] ZmZ eqlS
structure Kept (es cur dn:List Ent) (D:Ent→Bool):Prop where
 sub:cur.Sublist es
 kept:∀x ∈ es,x ∈ cur∨(D x=true∧x ∈ dn)
 done:∀x ∈ cur,x ∈ dn→D x=false
 inn:∀x ∈ dn,x ∈ es
 nd:dn.Nodup
theorem Kept.len {es cur dn:List Ent} {D:Ent→Bool} (h:Kept es cur dn D):dn.length≤es.length:=h.nd.length_le_of_subset (fun x hx=>h.inn x hx)
theorem ZgB {l1 l2:List Ent} {x:Ent} (h:(l1++x::l2).Nodup):x ∉ l1++l2:=(List.nodup_cons.1 (List.perm_middle.nodup h)).1
theorem Kept.next {es cur dn:List Ent} {D:Ent→Bool} (h:Kept es cur dn D) {x:Ent} (hx:x ∈ cur) (hn:x ∉ dn):(D x=false→Kept es cur (dn++[x]) D)∧
 (D x=true→∀l1 l2,cur=l1++x::l2→x ∉ l1++l2→Kept es (l1++l2) (dn++[x]) D):=by
 have hpw:(dn++[x]).Nodup:=List.nodup_append.2 ⟨h.nd,by simp,fun a ha c hc=>by rw[List.mem_singleton.1 hc];intro e;subst e;exact hn ha⟩
 have hdm:∀y ∈ dn++[x],y ∈ es:=fun y hy=>by
  rcases List.mem_append.1 hy with hy|hy
  · exact h.inn y hy
  rw[List.mem_singleton.1 hy];exact h.sub.subset hx
 constructor
 · intro hl
   refine⟨h.sub,fun y hy=> ?_,fun y hy hz=> ?_,hdm,hpw⟩
   · rcases h.kept y hy with q|⟨q,r⟩
     · exact .inl q
     exact .inr ⟨q,by simp[r]⟩
   rcases List.mem_append.1 hz with hz|hz
   · exact h.done y hy hz
   rw[List.mem_singleton.1 hz];exact hl
 intro hl l1 l2 e hne;subst e;refine⟨(List.Sublist.append (List.Sublist.refl _) (List.sublist_cons_self _ _)).trans h.sub,fun y hy=> ?_,fun y hy hz=> ?_,hdm,hpw⟩
 · rcases h.kept y hy with q|⟨q,r⟩
   · by_cases hyx:y=x
     · subst hyx;exact .inr ⟨hl,by simp⟩
     left
     simp only[List.mem_append,List.mem_cons] at q ⊢
     rcases q with q|q|q
     · exact .inl q
     · exact absurd q hyx
     exact .inr q
   exact .inr ⟨q,by simp[r]⟩
 rcases List.mem_append.1 hz with hz|hz
 · exact h.done y (by simp only[List.mem_append,List.mem_cons] at hy ⊢;rcases hy with hy|hy<;>simp[hy]) hz
 rw[List.mem_singleton.1 hz] at hy;exact absurd hy hne
theorem Kept.end {es cur dn:List Ent} {D:Ent→Bool} (h:Kept es cur dn D) (hnd:es.Nodup) (hall:∀x ∈ cur,x ∈ dn):cur=es.filter (fun x=> !D x):=by
 have hs:cur.Sublist (es.filter (fun x=> !D x)):=by
  have:=h.sub.filter (fun x=> !D x)
  rwa [List.filter_eq_self.2 (fun x hx=>by rw[h.done x hx (hall x hx)];rfl)] at this
 refine hs.eq_of_length ?_;refine(List.Perm.length_eq ?_)
 refine(List.perm_ext_iff_of_nodup (h.sub.nodup hnd) (hnd.sublist List.filter_sublist)).2 fun x=> ?_
 rw[List.mem_filter]
 constructor
 · intro hx
   exact⟨h.sub.subset hx,by rw[h.done x hx (hall x hx)];rfl⟩
 rintro⟨h1,h2⟩
 rcases h.kept x h1 with q|⟨q,_⟩
 · exact q
 rw[q] at h2;cases h2
theorem Zmj (l1 l2:List Ent) (e:Ent):ents (l1++e::l2)=ents l1++(e.key,e.val)::ents l2:=by simp[ents,ent]
theorem Zml (l1 l2:List Ent):ents l1++ents l2=ents (l1++l2):=by simp[ents]
theorem ZgZ {w:World} {bS:Nat} {n k:Int} {f p g:ByteArray} {v:List Value} (h:Sep [boxS bS n f] w) {c:Bool} (hc:decide (k=n∧g=f)=c) {c1 c2 c3 c4 c5 c6:Value}:
 Calls Tryz.prog 216 #[.agg #[.string p,.int .u64 k,.string g],.agg #[c1,c2,c3,c4,c5,c6],.pointer (some ⟨bS,0,none⟩)] w fun e w'=>e=.returned (.bool c)∧At [boxS bS n f] w [boxS bS n f] w':=by
 have hA:=At.start h;obtain⟨hA,hF⟩:=fY hA;clear h;have hc':=Hd hc;clear hc
 go_enter Tryz.func216,Tryz.ntmps216
 go_wp2_with ((with_reducible refine gbx ?_);refine wCy hA ?_;clear hF hA;intro b1 w1 hA hb1 hF)
 go_ret;exact⟨by rw[←hc'.out,Bool.decide_and];rfl,hA.only1 sR⟩
abbrev iterE (r b:Nat) (cur dn:List Ent):Part:=.iterD Tryz.prog 203 r b (ents cur) (ents dn)
def DelRel (L0:List Part) (w:World) (m r bS:Nat) (n:Int) (f:ByteArray) (es:List Ent) (k:Nat) (wr:World):Prop:=
 ∃cur dn:List Ent,Kept es cur dn (·.of n f)∧dn.length + k=es.length∧At L0 w [iterE r m cur dn,boxS bS n f] wr
theorem ZnX {w:World} {m bS:Nat} {n:Int} {f:ByteArray} {es:List Ent} (h:Sep [mapC m (ents es),boxS bS n f] w) (hok:∀x ∈ es,x.path.size≤maxLen∧0≤x.num∧x.num < big64∧x.foot.size≤maxLen):
 Calls Tryz.prog 215 #[.map (some m),.func (.func 216) #[] #[.pointer (some ⟨bS,0,none⟩)]] w fun e w'=>e=.returned (.tuple #[])∧At [mapC m (ents es),boxS bS n f] w [mapC m (ents (es.filter (fun x=> !x.of n f))),boxS bS n f] w':=by
 have hA:=At.start h;have hkeys:=ZhK (MapAt.keys (hA.get (A:=mapC m (ents es)) sR));have hnde:es.Nodup:=hkeys.imp (fun h e=>h (by rw[e]));obtain⟨hA,hF⟩:=fY hA;clear h hkeys
 go_enter Tryz.func215,Tryz.ntmps215
 go_wp2_with (refine ZaI rfl rfl rfl hA sR Tryz.underlying201 ?_;intro r w1 hB hr;replace hA:=hB.rangeD sR;clear hF;obtain⟨hA,hF⟩:=fY hA)
 try go_frame
 go_loopg [5] es.length (fun k _ wr=>DelRel [mapC m (ents es),boxS bS n f] w m r bS n f es k wr)
 case atStart=>exact⟨es,[],⟨List.Sublist.refl _,fun x hx=>.inl hx,fun x _ hx=>(by cases hx),nofun,List.nodup_nil⟩,by simp,hA⟩
 case round=>
  obtain⟨cur,dn,hL,hk,hB⟩:=hrel;clear hF hA;have hA:=hB;clear hB;obtain⟨hA,hF⟩:=fY hA
  go_step
  go_step
  refine ZdO rfl rfl rfl hA sR (fun hp=> ?_) (fun q w1 hq hd hB=> ?_)
  · have hM:=hA.rangedD sR
    have hfin:=Hd (hL.end hnde (fun x hx=>ZnU (hp _ (List.mem_map.2 ⟨x,hx,rfl⟩))));clear hp hL
    go_wp2_with fail
    go_end0
    exact⟨rfl,by rw[←hfin.out];exact hM.only2 sR sR⟩
  obtain⟨x,hx,rfl⟩:=List.mem_map.1 hq
  have hI:IterD Tryz.prog 203 w1 r m (ents cur) (ents dn++[ent x]):=hB.get (A:=Part.iterD Tryz.prog 203 r m (ents cur) (ents dn++[ent x])) sR;have hen:=hI.entry hq
  have hnot:x ∉ dn:=fun q=>hd (ent x) (List.mem_map.2 ⟨x,q,rfl⟩) rfl
  obtain⟨hn1,hn2⟩:=hL.next hx hnot;obtain⟨o1,o2,o3,o4⟩:=hok x (hL.sub.subset hx);obtain⟨kl,hkl⟩:=keyP o1 o2 o3 o4;have hnd:cur.Nodup:=hL.sub.nodup hnde
  have hlen:dn.length < es.length:=by
   cases hin:x.of n f with
   |false=>have:=(hn1 hin).len;simp at this;omega
   |true=>
    obtain⟨l1,l2,e⟩:=List.append_of_mem hx;have:=(hn2 hin l1 l2 e (by rw[e] at hnd;exact ZgB hnd)).len
    simp at this;omega
  rw[show ents dn++[ent x]=ents (dn++[x]) by simp[ents]] at hB;clear hF hA;have hA:=hB;simp only[ent,Ent.key,keyV,Ent.val] at hen;unfold keyV at hkl;have hok':=Hd hok;clear hB hI hd hq hok o1 o2 o3 o4 hnot;have hL':=Hd hL;clear hL;obtain⟨hA,hF⟩:=fY hA
  cases hin:x.of n f with
  |false=>
   have hK:=Hd (hn1 hin);have hnde':=Hd hnde;clear hn1 hn2 hnde hnd
   go_wp2_with (first|((with_reducible refine gst ?_);refine wTy hA ?_;clear hF hA;intro w1 hA hF)|((with_reducible refine gal ?_);refine wGy 203 [.string .empty,.int .u64 0,.string .empty] hA ?_;clear hF hA;intro b1 w1 hA hb1 hF)|((with_reducible refine gal ?_);refine g4 hA ?_;clear hF hA;intro b1 w1 hA hb1 hF))
   refine(ZgZ (v:=[]) (hA.sep1 (A:=boxS bS n f) sR) hin).mono ?_;rintro e w1 ⟨rfl,hT⟩;replace hA:=hA.call1 sR hT;clear hF hT;obtain⟨hA,hF⟩:=fY hA
   go_wp2_with fail
   go_roundg (gk - 1)
   case measure=>omega
   case rel=>exact⟨cur,dn++[x],hK.out,by simp;omega,hA.only2 sR sR⟩
  |true=>
   obtain⟨l1,l2,e⟩:=List.append_of_mem hx;subst e;have hK:=Hd (hn2 hin l1 l2 rfl (ZgB hnd));have hnde':=Hd hnde;clear hn1 hn2 hx hnd hnde
   unfold iterE at *
   rw[Zmj] at hA;unfold Ent.key keyV at hA
   go_wp2_with (first|((with_reducible refine gst ?_);refine wTy hA ?_;clear hF hA;intro w1 hA hF)|((with_reducible refine gal ?_);refine wGy 203 [.string .empty,.int .u64 0,.string .empty] hA ?_;clear hF hA;intro b1 w1 hA hb1 hF)|((with_reducible refine gal ?_);refine g4 hA ?_;clear hF hA;intro b1 w1 hA hb1 hF))
   refine(ZgZ (v:=[]) (hA.sep1 (A:=boxS bS n f) sR) hin).mono ?_;rintro e w1 ⟨rfl,hT⟩;replace hA:=hA.call1 sR hT;clear hF hT;obtain⟨hA,hF⟩:=fY hA
   go_wp2_with (refine ZcG rfl rfl rfl (by(try simp only[Act.eval,eV])<;>exact rfl) hA (k:=203) sR lawP Tryz.underlying201 hkl ?_;intro w1 hB;rw[Zml l1 l2] at hB;clear hF hA;have hA:=hB;clear hB;obtain⟨hA,hF⟩:=fY hA)
   go_roundg (gk - 1)
   case measure=>omega
   case rel=>exact⟨l1++l2,dn++[x],hK.out,by simp;omega,hA.only2 sR sR⟩
theorem Zmt {w:World} {b:Bk} (h:Sep [BookP b] w) (n:Int) (f:ByteArray) (hl:b.es.length≤1000000000) (hok:∀x ∈ b.es,x.path.size≤maxLen∧0≤x.num∧x.num < big64∧x.foot.size≤maxLen):
 Calls Tryz.prog 165 #[.pointer (some ⟨b.p,0,none⟩),.agg #[.int .u64 n,.string f]] w fun e w'=>e=.returned (.int .i64 (b.es.length - (b.st.dropAll n f).es.length))∧At [BookP b] w [BookP (b.with (b.st.dropAll n f))] w':=by
 have hA:=begin0 h;have hF:=hA.facts;have hle:(b.es.filter (fun x=> !x.of n f)).length≤b.es.length:=List.length_filter_le _ _
 show Calls _ _ _ _ fun e w'=>e=.returned (.int .i64 (b.es.length - (b.es.filter (fun x=> !x.of n f)).length))∧At [BookP b] w [BookP ⟨b.p,b.m,b.c,b.first,b.es.filter (fun x=> !x.of n f),b.cs⟩] w'
 have hdel:=fun(w1:World) (bS:Nat) (q:Sep [mapC b.m (ents b.es),boxS bS n f] w1)=>ZnX q hok
 generalize b.es.filter (fun x=> !x.of n f)=es' at *
 have e1:(ents b.es).length=b.es.length:=by simp[ents]
 have e2:(ents es').length=es'.length:=by simp[ents]
 obtain⟨hA,hF⟩:=fY hA;clear h hok
 go_enter Tryz.func165,Tryz.ntmps165
 go_wp2_with (first|((with_reducible refine gbx ?_);refine wCy (E:=25) hA ?_;clear hF hA;intro bS w1 hA hbS hF)|(refine Za9 (k:=203) (es:=ents b.es) rfl rfl rfl hA sR Tryz.underlying201 ?_;rw[e1]))
 refine(hdel _ bS (hA.sep2 (A:=mapC b.m (ents b.es)) (B:=boxS bS n f) sR sR)).mono ?_;clear hdel;rintro e w2 ⟨rfl,hT⟩;replace hA:=hA.call2 (A:=mapC b.m (ents b.es)) (B:=boxS bS n f) sR sR hT;clear hF hT;obtain⟨hA,hF⟩:=fY hA
 have hw:IntKind.i64.wrap ((b.es.length:Int) - (es'.length:Int))=(b.es.length:Int) - (es'.length:Int):=by rw[IntKind.wrap_i64]<;>omega
 go_wp2_with (refine Za9 (k:=203) (es:=ents es') rfl rfl rfl hA sR Tryz.underlying201 ?_;rw[e2])
 go_ret;exact⟨rfl,close0 ⟨b.p,b.m,b.c,b.first,es',b.cs⟩ hA sR sR sR⟩
end Lock
end
end Go.Proofs.YtkdjkngfnapjcaaGreatDoor
