/- WinM, WinO, LodA, joined. -/
import Derived.Test.YtkdjkngfnapjcaaGreatDoorQ18
import Derived.Test.YtkdjkngfnapjcaaGreatDoorQ23
import Derived.ProofKit
import Derived.OpenShut
import Derived.Lib.SmallJoins
import Derived.Test.YtkdjkngfnapjcaaGreatDoorQ17
import Derived.Test.YtkdjkngfnapjcaaGreatDoorQ16
set_option linter.unusedSimpArgs false
set_option linter.unusedVariables false
set_option maxRecDepth 100000
set_option maxHeartbeats 16000000
namespace Go.Proofs.YtkdjkngfnapjcaaGreatDoor
section
namespace Wire
open Go.RowKit
def SoRel (w W:World) (u:Value) (a:List Int) (k:Nat) (x:Value) (wr:World):Prop:=
 ∃i:Nat,x=.int .i64 i∧i + k=a.length∧At [rowY u a,Part.old W] w [rowY u a,Part.old W] wr
theorem ZlH {w W:World} {u v:Value} {a:List Int} (h:Sep [rowY u a,Part.old W] w) (hR:Reads W v a.length (flatY a)) (hl:a.length≤140000000000000):
 Calls Tryz.prog 53 #[u,v] w fun e w'=>e=.returned (.bool true)∧At [rowY u a,Part.old W] w [rowY u a,Part.old W] w':=by
 have hA:=At.start h;have hF:=hA.facts;clear h;obtain⟨ax,acap,rfl,hax,hacap,_⟩:=hA.row_form (v:=u) (n:=a.length) (xs:=flatY a) sR;obtain⟨cx,ccap,rfl,_,hcell⟩:=hR;have hcell':=Hd hcell;clear hcell;obtain⟨hA,hF⟩:=fZ hA
 go_enter Tryz.func53,Tryz.ntmps53
 go_wp2_with fail
 try go_frame
 go_loopg [5] a.length (SoRel w W (.slice ax a.length acap) a)
 case atStart=>exact⟨0,rfl,by simp,hA⟩
 case round=>
  obtain⟨i,rfl,hik,hB⟩:=hrel;clear hF hA;have hA:=hB;clear hB
  by_cases hi:i < a.length
  · have hy:=ZbE a i hi
    obtain⟨gc,oc,rfl,hold⟩:=hcell'.out i _ hy;obtain⟨ga,ca,rfl,ap1,am,al,atk,hB⟩:=hA.row_open (ax:=ax) (cap:=acap) (n:=a.length) (xs:=flatY a) sR (by omega)
    replace hA:=hB
    clear hB
    have f1:ca[i]? =some (.int .u8 a[i]):=by
     rw[←hy,←atk,List.getElem?_take_of_lt (by omega)]
    obtain⟨y,hyy⟩:∃y,a[i]=y:=⟨_,rfl⟩
    rw[hyy] at f1 hold;have hold':=Hd hold;clear hy hyy hold;obtain⟨hA,hF⟩:=fZ hA
    go_wp2_with fail
    try go_frame
    (refine cA hA ?_);(have hn1:=Cl.none hA);(have hn2:=Cl.none2 hA);(repeat(first|go_big_quiet_skip|(go_big_quiet_want;(first|((first|refine Zdy rfl rfl sR (by kernel_rfl) hold'.out ?_);go_frame;go_big_quiet_on)|(refine qL ?_;go_frame;go_big_quiet_on)|(go_big_quiet_op;(first|go_big_quiet_on|((apply Exists.intro);(refine⟨fun w1 hw=> ?_,?_⟩);(focus((have hw:=Cl.out hw);(fail)));(go_big_quiet_on))))))))
    (refine wpQuiet_nil ?_);(intro w1 hB);(clear hF hA hn1 hn2);(have hA:=Cl.out hB);(clear hB);obtain⟨hA,hF⟩:=fZ hA
    go_wp2_with fail
    go_roundg (gk - 1)
    case measure=>omega
    case rel=>
     have hS1:=hA.row_shut (e:=5) (size:=1) (n:=a.length) (cap:=acap) (xs:=flatY a) (g:=ga) (c:=ca) sR al ap1 am atk;exact⟨i + 1,by simp,by omega,hS1.pick pZ⟩
  have hF:=hA.facts;obtain⟨hA,hF⟩:=fZ hA
  go_wp2_with fail
  go_ret;exact⟨rfl,hA⟩
end Wire
namespace Tab
open Go.RowKit
open _root_.Go.Proofs.YtkdjkngfnapjcaaGreatDoor.Wire
open Path (bl Zad)
open Lease (Ses SR AR Srd serd arP keyE keyR Rel RelS RelT)
open Lock (Ent okW okV okE)
theorem Zng {ss:List Ses} {l:List SR} (h:Srd ss l):∀s ∈ ss,∃a ∈ l,∃b t,s=serd a b t:=by
 induction h with
 |nil=>nofun
 |snoc h a b t ih=>
  intro s hs
  rcases List.mem_append.1 hs with hs|hs
  · obtain⟨a2,h2,b2,t2,e⟩:=ih s hs
    exact⟨a2,List.mem_append_left _ h2,b2,t2,e⟩
  rw[List.mem_singleton.1 hs]
  exact⟨a,List.mem_append_right _ (by simp),b,t,rfl⟩
theorem ZjW {ss:List Ses} {l:List SR} (h:Srd ss l) (hp:l.Pairwise Lease.ltR) (ho:∀a ∈ l,Wire.SrOk a):Rel ss l where
 keys:=by rw[Lease.Zif h]
 srt:=hp
 each:=fun s hs a ha e=>by
  obtain⟨a2,h2,b,t,rfl⟩:=Zng h s hs;have e2:a2=a:=Lease.Zkw (Lease.Zdd hp) h2 ha e;subst e2;have o:=ho a2 ha;exact⟨rfl,rfl,rfl,rfl,rfl,rfl,⟨.refl _,o.told,fun x hx=>by have:=o.ans x hx;unfold Lease.big64;omega,o.len,fun x hx=>by have:=o.ans x hx;unfold Lease.okA Lease.big64;omega⟩,o.ttl,o.dl⟩
theorem ZeR {p:ByteArray} {m:Int} (h:Lock.ZaR p m=true):Zad (bl p)=true∧(m=1∨m=2):=by
 unfold Lock.ZaR at h
 simpa using h
theorem ZkJ {es:List Ent} (h:es.Pairwise Lock.ltE):∀a ∈ es,∀b ∈ es,a.path=b.path→a.stamp=b.stamp→a=b:=by
 intro a ha b hb e1 e2;obtain⟨i,hi⟩:=List.mem_iff_getElem?.1 ha;obtain⟨j,hj⟩:=List.mem_iff_getElem?.1 hb;obtain⟨hi1,hi2⟩:=List.getElem?_eq_some_iff.1 hi;obtain⟨hj1,hj2⟩:=List.getElem?_eq_some_iff.1 hj;have hp:=List.pairwise_iff_getElem.1 h
 have key:∀x y:Ent,x.path=y.path→x.stamp=y.stamp→¬Lock.ltE x y:=by
  intro x y q1 q2 q;unfold Lock.ltE Lock.keyL at q;rw[q1,q2] at q
  rcases q with q|q
  · rw[Path.Zb3] at q;omega
  omega
 rcases Nat.lt_trichotomy i j with q|q|q
 · have:=hp i j hi1 hj1 q
   rw[hi2,hj2] at this;exact absurd this (key _ _ e1 e2)
 · subst q;rw[hi] at hj;exact Option.some.inj hj
 have:=hp j i hj1 hi1 q
 rw[hi2,hj2] at this;exact absurd this (key _ _ e1.symm e2.symm)
theorem Zm7 {first:Int} {l:List Int} (hb:Byt l) (hl:l.length≤400) (hf:finL first l=0) (q n c:Nat):Lock.Wk (⟨q,n,c,first,entsV (Zaq ⟨l,0⟩),cntsV first (entsS (Zaq ⟨l,0⟩))⟩:Lock.Bk).st:=by
 have he:=ZdH hf;have hby:Byt (Zaq ⟨l,0⟩).b:=Zdi hb;have hle:=Zf0 (Zf6 he);obtain⟨_,_,_,k1,_⟩:=ZfP (s:=⟨l,0⟩) hb hle;obtain⟨_,_,h1,h2,h3,h4,h5,h6,h7⟩:=ZfO (first:=first) hby he;have k1:(Zaq ⟨l,0⟩).b.length≤l.length:=k1
 exact {
  so:=⟨fun e h=>(ZeR (h5 e h).right).1,ZkJ h3⟩
  el:=by show(entsV (Zaq ⟨l,0⟩)).length≤1000;omega
  cl:=by show(cntsV first (entsS (Zaq ⟨l,0⟩))).length≤1000;omega
  ok:=fun e h=>⟨⟨(h5 e h).num.1,(h5 e h).num.2,(h5 e h).n.1,(h5 e h).n.2,by have:=(h5 e h).stamp;omega⟩,by have:=(h5 e h).path;omega,by have:=(h5 e h).foot;omega,by have:=(h5 e h).stamp;omega,(ZeR (h5 e h).right).2⟩
  okc:=fun x h=>⟨⟨(h7 x h).n.1,(h7 x h).n.2⟩,by have:=(h7 x h).path;omega⟩
  ck:=h6.imp (fun {a b} q e=>by unfold Wire.ltC at q;rw[e,Path.Zb3] at q;omega)
  cr:=fun x h=>(h7 x h).right}
theorem Zln {first:Int} {l:List Int} (hb:Byt l) (hl:l.length≤400) (hf:finL first l=0) {ss:List Ses} (h:Srd ss (ZaX ⟨l,0⟩)) (q n c:Nat):
 WkT ss ⟨q,n,c,first,entsV (Zaq ⟨l,0⟩),cntsV first (entsS (Zaq ⟨l,0⟩))⟩ (ZaX ⟨l,0⟩):=by
 have he:=ZdH hf;have hle:=Zf0 (Zf6 he);obtain⟨e1,_,_,k1,k2,k3,k4⟩:=ZfP (s:=⟨l,0⟩) hb hle;have k2:(ZaX ⟨l,0⟩).length≤l.length:=k2;have hw:=Zm7 hb hl hf q n c
 exact {
  rel:=ZjW h k3 k4
  bd:=fun a ha=>by have h1:=(k4 a ha).num;have h2:=(k4 a ha).foot;unfold Lease.big64;omega
  len:=by omega
  el:=by
   have e1:l=Lease.encL (ZaX ⟨l,0⟩)++(Zaq ⟨l,0⟩).b:=e1;have:=congrArg List.length e1;rw[List.length_append] at this
   omega
  wk:=hw
  eb:=fun es cs h1 h2=>Lock.encB_len (fun e k=>hw.ok e (h1.mem_iff.1 k)) (fun x k=>hw.okc x (h2.mem_iff.1 k)) (by rw[h1.length_eq];exact hw.el) (by rw[h2.length_eq];exact hw.cl)}
theorem ZjF {first:Int} {l:List Int} (hb:Byt l) (hf:finL first l=0) {ss:List Ses} {q n c:Nat} {l2:List Int}
 (h:Za8 ⟨ss,(⟨q,n,c,first,entsV (Zaq ⟨l,0⟩),cntsV first (entsS (Zaq ⟨l,0⟩))⟩:Lock.Bk).st⟩ (ZaX ⟨l,0⟩) l2):l2=l:=by
 obtain⟨es,cs,⟨p1,p2,p3,p4⟩,rfl⟩:=h;have he:=ZdH hf;obtain⟨_,_,_,_,h3,_,_,h6,_⟩:=ZfO (first:=first) (Zdi hb) he;have q1:=Lock.ZeN p2 h3 p1;have q2:=Zd4 p4 h6 p3;rw[q1,q2];exact(ZnE hb hf).symm
set_option maxRecDepth 1000000 in
theorem parses_law {w:World} {v:Value} {l:List Int} (hr:∀w',(Part.old w).holds w'→Reads w' v l.length (flatY l)) (hb:Byt l) (hl:l.length≤9223372036854775807) (first:Int):
 Calls Tryz.prog 8 #[.int .u64 first,v] w fun e w'=>e=.returned (.bool true)∧Below w.heap.size w w':=by
 have hA:At [Part.old w] w [Part.old w] w:=At.start ⟨fun _ _=>rfl,trivial,nofun⟩;have hRw:=Hd (hr w (hA.get .here))
 have hlo:=fun(hs:l.length≤400) (w1:World) (q:Sep [Part.old w] w1)=>ZiC (first:=first) q hr hb (by omega)
 have hlo':=Hd hlo;have hwk':=Hd (fun hs hf (ss:List Ses) (h:Srd ss (ZaX ⟨l,0⟩)) q n c=>Zln (first:=first) hb hs hf h q n c);have hbr':=Hd (fun hf (ss:List Ses) (q n c:Nat) (l2:List Int) h=>ZjF (first:=first) (l:=l) hb hf (ss:=ss) (q:=q) (n:=n) (c:=c) (l2:=l2) h);clear hlo;obtain⟨ax,cap,rfl,_,_⟩:=hr w (hA.get .here);clear hr;obtain⟨hA,hF⟩:=fZ hA
 go_enter Tryz.func8,Tryz.ntmps8
 go_wp2_with (first|((with_reducible refine gst ?_);refine wTz hA ?_;clear hF hA;intro w1 hA hF)|((with_reducible refine gbx ?_);refine wCz hA ?_;clear hF hA;intro b1 w1 hA hb1 hF))
 refine(Zfb _).mono ?_;rintro e w1 ⟨rfl,hx⟩;replace hA:=hA.ext hx;clear hx hF
 try simp only[uA] at hA
 obtain⟨hA,hF⟩:=fZ hA
 by_cases hs:l.length≤400
 · have hs':¬(400:Int) < (l.length:Int):=by omega
   have hs1:=Hd hs;clear hs
   go_wp2_with (first|((with_reducible refine gst ?_);refine wTz hA ?_;clear hF hA;intro w1 hA hF)|((with_reducible refine gbx ?_);refine wCz hA ?_;clear hF hA;intro b1 w1 hA hb1 hF))
   refine(hlo'.out hs1.out _ (hA.sep1 (A:=Part.old w) sZ)).mono ?_;rintro e w2 (⟨hf,rfl,hT⟩|⟨hf,t,p,m,q,n,c,ss,rfl,hsr,hT⟩)
   · have hB:=hA.call1 (A:=Part.old w) sZ hT
     clear hT;clear hF hA;have hA:=hB;clear hB
     try simp only[uA] at hA
     obtain⟨hA,hF⟩:=fZ hA
     have hf2:(finL first l != 0)=true:=by simpa using hf
     generalize finL first l=fi at *
     clear hf
     go_wp2_with (first|((with_reducible refine gst ?_);refine wTz hA ?_;clear hF hA;intro w1 hA hF)|((with_reducible refine gbx ?_);refine wCz hA ?_;clear hF hA;intro b1 w1 hA hb1 hF))
     go_ret;exact⟨rfl,below_old hA sZ⟩
   have hB:=hA.call1 (A:=Part.old w) sZ hT;have hwk:=Hd (hwk'.out hs1.out hf ss hsr q n c);have hbr:=Hd (hbr'.out hf ss q n c);clear hT hf hsr hlo' hwk' hbr';clear hF hA;have hA:=hB;clear hB
   try simp only[uA] at hA
   obtain⟨hA,hF⟩:=fZ hA
   go_wp2_with (first|((with_reducible refine gst ?_);refine wTz hA ?_;clear hF hA;intro w1 hA hF)|((with_reducible refine gbx ?_);refine wCz hA ?_;clear hF hA;intro b1 w1 hA hb1 hF))
   refine(Zcr (hA.sep1 (A:=TabP t p m ss ⟨q,n,c,first,entsV (Zaq ⟨l,0⟩),cntsV first (entsS (Zaq ⟨l,0⟩))⟩) sZ) hwk.out).mono ?_;rintro e w3 ⟨v2,l2,rfl,hbo,_,hT⟩;have hB:=hA.call1 (A:=TabP t p m ss ⟨q,n,c,first,entsV (Zaq ⟨l,0⟩),cntsV first (entsS (Zaq ⟨l,0⟩))⟩) sZ hT;have hl2:=hbr.out l2 hbo;subst hl2;clear hT hbo hwk hbr;clear hF hA;have hA:=hB;clear hB
   try simp only[uA] at hA
   obtain⟨hA,hF⟩:=fZ hA
   go_wp2_with (first|((with_reducible refine gst ?_);refine wTz hA ?_;clear hF hA;intro w1 hA hF)|((with_reducible refine gbx ?_);refine wCz hA ?_;clear hF hA;intro b1 w1 hA hb1 hF))
   refine(ZlH (hA.sep2 (A:=rowY v2 l2) (B:=Part.old w) sZ sZ) hRw.out (by have:=hs1.out;omega)).mono ?_;rintro e w4 ⟨rfl,hT⟩;replace hA:=hA.call2 (A:=rowY v2 l2) (B:=Part.old w) sZ sZ hT;clear hT hF
   try simp only[uA] at hA
   obtain⟨hA,hF⟩:=fZ hA
   go_wp2_with (first|((with_reducible refine gst ?_);refine wTz hA ?_;clear hF hA;intro w1 hA hF)|((with_reducible refine gbx ?_);refine wCz hA ?_;clear hF hA;intro b1 w1 hA hb1 hF))
   go_ret;exact⟨rfl,below_old hA sZ⟩
 have hs':(400:Int) < (l.length:Int):=by omega
 clear hs
 go_wp2_with (first|((with_reducible refine gst ?_);refine wTz hA ?_;clear hF hA;intro w1 hA hF)|((with_reducible refine gbx ?_);refine wCz hA ?_;clear hF hA;intro b1 w1 hA hb1 hF))
 go_ret;exact⟨rfl,below_old hA sZ⟩
end Tab
end
section
namespace Wire
open Go.RowKit Go.Joins Go.ChangeShapes
theorem open_bytesY {H:Type} {enc:TypeId × Value→H} {W:World} {base:Nat} {spare:Nat→Bool} {held:Bool} {fuel:Nat} {v:Value} {y:DataW H × List MemPlace} (hsp:∀b,spare b=true)
 (h:DataW.trod enc Tryz.prog W base spare held fuel 62 [v]=some y):∃l:List Int,(∀w,(Part.old W).holds w→Reads w v l.length (flatY l))∧l.length≤maxLen∧Byt l:=by
 rcases open_ints Tryz.underlying62 Tryz.underlying5 (by kernel_rfl) h with⟨hcs,hx⟩|⟨a,len,cap,zs,hcs,_,hl,hm,hz,hx,hcell,hwz⟩
 · simp at hcs
   subst hcs;exact⟨[],fun w hw=>⟨none,0,rfl,fun _=>rfl,fun j u hj=>by simp[flatY] at hj⟩,by simp,nofun⟩
 simp at hcs
 subst hcs;rw[hsp,if_pos rfl] at hz
 have hlen:(zs.take len).length=len:=by simp;omega
 refine⟨zs.take len,fun w hw=>⟨some a,cap,by rw[hlen],nofun,fun j u hu=> ?_⟩,by omega,fun x hx=> ?_⟩
 · obtain⟨hj,_⟩:=List.getElem?_eq_some_iff.1 hu
   have hj2:j < (zs.take len).length:=by rw[ZcX,List.length_map] at hj;exact hj
   have hu2:=ZbE (zs.take len) j hj2;rw[hu] at hu2;cases hu2;rw[hlen] at hj2;obtain⟨b,off,h1,h2⟩:=row_at hcell j (by omega);cases h1;refine⟨b,off,rfl,?_⟩
   have hlt:b < W.heap.size:=by
    cases hq:W.heap[b]? with
    |none=>simp[World.cell?,hq] at h2
    |some o=>exact(Array.getElem?_eq_some_iff.1 hq).1
   have e:w.cell? ⟨b,off + j,none⟩=W.cell? ⟨b,off + j,none⟩:=by
    unfold World.cell?;simp only;rw[hw b hlt]
   have hjz:j < zs.length:=by have hq:=hlen;rw[List.length_take] at hq;omega
   rw[e,h2];simp[List.getD,List.getElem_take,List.getElem?_eq_getElem hjz]
 have:=bounds_u8 (hwz x (List.mem_of_mem_take hx))
 omega
end Wire
end
section
namespace Wire
open Lease (SR AR encA encS encL wrN bB keyR ltR badK)
open Sess (ltS cmpS Zbn)
open Lock (Ent encE encC encB ZaR ltE)
open Path (bl Zad cmpP cmpL Zae)
structure ArOk (a:AR):Prop where
 r:0≤a.r∧a.r < 18446744073709551616
 e:0≤a.e∧a.e≤1048576
 n:0≤a.n∧a.n < 18446744073709551616
theorem ans_on {s:InS} {a:AR} {r:List Int} (he:s.e=0) (hb:s.b=encA a++r) (h:ArOk a):ansV s=a∧ansS s=⟨r,0⟩:=by
 obtain⟨ar,ae,an,ag⟩:=a;obtain⟨⟨r0,r1⟩,⟨e0,e1⟩,n0,n1⟩:=h;simp only at r0 r1 e0 e1 n0 n1
 obtain⟨ar,rfl⟩:∃k:Nat,ar=k:=⟨ar.toNat,by omega⟩
 obtain⟨ae,rfl⟩:∃k:Nat,ae=k:=⟨ae.toNat,by omega⟩
 obtain⟨an,rfl⟩:∃k:Nat,an=k:=⟨an.toNat,by omega⟩
 unfold encA at hb;simp only[List.append_assoc,Int.toNat_natCast] at hb;rw[Zh7 (by omega)] at hb;obtain⟨v1,q1⟩:=Zbc (most:=18446744073709551615) he hb (by omega) (by omega);obtain⟨v2,q2⟩:=Zbc (s:=s.shortS 18446744073709551615) (most:=1048576) (by rw[q1]) (by rw[q1]) (by omega) (by omega);obtain⟨v3,q3⟩:=ZgR (s:=(s.shortS 18446744073709551615).shortS 1048576) (by rw[q2]) (by rw[q2]) (by omega);obtain⟨v4,q4⟩:=Zfm (s:=((s.shortS 18446744073709551615).shortS 1048576).takeS 8) (t:=ag) (r:=r) (by rw[q3]) (by rw[q3];rfl);unfold ansV ansS;rw[v1,v2,v3,v4,q4];exact⟨rfl,rfl⟩
theorem Zk8 (r:List Int):∀(l:List AR) (last:Option Int),l.Pairwise (fun a b=>a.r < b.r)→(∀a ∈ l,ArOk a)→(∀q,last=some q→∀a ∈ l,q < a.r)→ansD l.length last ⟨l.flatMap encA++r,0⟩=(l,⟨r,0⟩)
 |[],_,_,_,_=>rfl
 |a::l,last,hp,ho,hl=>by
  obtain⟨h1,h2⟩:=List.pairwise_cons.1 hp;obtain⟨q1,q2⟩:=ans_on (s:=⟨(a::l).flatMap encA++r,0⟩) (a:=a) (r:=l.flatMap encA++r) rfl (by simp) (ho a (by simp))
  have hb:(last.any (fun q=>decide (a.r≤q)))=false:=by
   cases last with
   |none=>rfl
   |some q=>
    have:=hl q rfl a (by simp)
    simp;omega
  rw[List.length_cons];unfold ansD;simp only[q1,q2,hb,if_neg Bool.false_ne_true];rw[if_neg (fun q=>q rfl)];rw[Zk8 r l (some a.r) h2 (fun x hx=>ho x (by simp[hx])) (fun q e x hx=>by cases e;exact h1 x hx)]
def nz (a:SR):SR:={a with ax:=none,cap:=0}
structure SzOk (a:SR):Prop where
 num:0≤a.num∧a.num < 18446744073709551616
 foot:a.foot.size≤64
 dl:0≤a.dl∧a.dl≤2199023255552
 ttl:0≤a.ttl∧a.ttl≤2199023255552
 len:a.told.length≤256
 told:a.told.Pairwise (fun a b=>a.r < b.r)
 ans:∀x ∈ a.told,ArOk x
 od:(a.op&&a.dead)=false
 no:a.op=false→a.dl=0∧a.ttl=0
theorem ses_on {s:InS} {a:SR} {r:List Int} (he:s.e=0) (hb:s.b=encS a++r) (h:SzOk a):sesV s=nz a∧sesS s=⟨r,0⟩:=by
 have hnum:=h.num;have hdl:=h.dl;have httl:=h.ttl;have hft:=h.foot;have hln:=h.len;unfold encS at hb;simp only[List.append_assoc] at hb;obtain⟨v1,q1⟩:=ZgR he hb (by omega);obtain⟨v2,q2⟩:=Zfq (s:=s.takeS 8) (most:=64) (by rw[q1]) (by rw[q1]) h.foot (by omega);have q2:s1 s=_:=q2;obtain⟨v3,q3⟩:=Zfm (s:=s1 s) (t:=a.op) (r:=bB a.dead++(Zaf a.dl.toNat++(Zaf a.ttl.toNat++(Zaf a.told.length++(a.told.flatMap encA++r))))) (by rw[q2]) (by rw[q2];rfl);have q3:s2 s=_:=q3;obtain⟨v4,q4⟩:=Zfm (s:=s2 s) (t:=a.dead) (r:=Zaf a.dl.toNat++(Zaf a.ttl.toNat++(Zaf a.told.length++(a.told.flatMap encA++r)))) (by rw[q3]) (by rw[q3];rfl);have q4:s3 s=_:=q4;obtain⟨v5,q5⟩:=Zbc (s:=s3 s) (most:=2199023255552) (by rw[q4]) (by rw[q4]) (by omega) (by omega);have q5:s4 s=_:=q5;obtain⟨v6,q6⟩:=Zbc (s:=s4 s) (most:=2199023255552) (by rw[q5]) (by rw[q5]) (by omega) (by omega);have q6:s5 s=_:=q6
 have hbad:badI (s1 s).truthV (s2 s).truthV ((s3 s).shortV 2199023255552) ((s4 s).shortV 2199023255552)=false:=by
  rw[v3,v4,v5,v6];unfold badI;rw[h.od]
  cases ho:a.op with
  |true=>rfl
  |false=>
   obtain⟨z1,z2⟩:=h.no ho;rw[z1,z2]
   rfl
 have q7:s6 s=s5 s:=by unfold s6;rw[hbad];rfl
 obtain⟨v8,q8⟩:=Zbc (s:=s6 s) (most:=256) (by rw[q7,q6]) (by rw[q7,q6]) (by omega) (by omega);have q8:s7 s=_:=q8;have q9:=Zk8 r a.told none h.told h.ans (fun _ e=>nomatch e);unfold sesV sesS;rw[v8,q8,q9,v1,v2,v3,v4,v5,v6];refine⟨?_,rfl⟩;unfold nz;rw[Int.toNat_of_nonneg hnum.1,Int.toNat_of_nonneg hdl.1,Int.toNat_of_nonneg httl.1]
theorem Zmn (a:SR):1≤(encS a).length:=by
 have h1:(fixL a.num.toNat).length=8:=by simp[fixL]
 unfold encS;simp only[List.length_append]
 omega
theorem ZfW {α:Type} {f:α→List Int} (hf:∀a,1≤(f a).length):∀l:List α,l.length≤(l.flatMap f).length
 |[]=>by simp
 |x::l=>by
  have q1:=hf x;have q2:=ZfW hf l;rw[List.flatMap_cons,List.length_append,List.length_cons]
  omega
theorem Zi0 (r:List Int):∀(l:List SR) (last:Option (Int × ByteArray)),l.Pairwise ltR→(∀a ∈ l,SzOk a)→(∀q,last=some q→∀a ∈ l,ltS q (keyR a))→bookD l.length last ⟨l.flatMap encS++r,0⟩=(l.map nz,⟨r,0⟩)
 |[],_,_,_,_=>rfl
 |a::l,last,hp,ho,hl=>by
  obtain⟨h1,h2⟩:=List.pairwise_cons.1 hp;obtain⟨q1,q2⟩:=ses_on (s:=⟨(a::l).flatMap encS++r,0⟩) (a:=a) (r:=l.flatMap encS++r) rfl (by simp) (ho a (by simp))
  have hb:badK last (keyR (nz a))=false:=by
   unfold badK
   cases last with
   |none=>rfl
   |some q=>
    have h3:=hl q rfl a (by simp);have h4:=Zbn q (keyR a);rw[decide_eq_true h3] at h4;unfold ltOf at h4;have h5:=of_decide_eq_true h4;show(Option.any (fun q=>decide (0≤cmpS q (keyR a))) (some q))=false;simp only[Option.any_some,decide_eq_false_iff_not]
    omega
  rw[List.length_cons,Lease.Ze9 (by omega)];simp only[q1,q2,hb,Nat.add_sub_cancel,if_neg Bool.false_ne_true];rw[if_neg (fun q=>q rfl)];rw[show keyR (nz a)=keyR a from rfl,Zi0 r l (some (keyR a)) h2 (fun x hx=>ho x (by simp[hx])) (fun q e x hx=>by cases e;exact h1 x hx)]
  rfl
theorem Zl8 {L:List SR} {r:List Int} (hp:L.Pairwise ltR) (ho:∀a ∈ L,SzOk a) (hl:L.length < 18446744073709551616):ZaX ⟨encL L++r,0⟩=L.map nz∧Zaq ⟨encL L++r,0⟩=⟨r,0⟩:=by
 have hb:(⟨encL L++r,0⟩:InS).b=Zaf L.length++(L.flatMap encS++r):=by unfold encL;simp only[List.append_assoc]
 have hle:L.length≤(⟨encL L++r,0⟩:InS).left:=by
  have:=ZfW Zmn L;show L.length≤(if(0:Int)≠0 then 0 else(encL L++r).length);rw[if_neg (by simp)];unfold encL;simp only[List.length_append]
  omega
 obtain⟨v1,q1⟩:=Zbc (s:=⟨encL L++r,0⟩) rfl hb hle hl;unfold ZaX Zaq;rw[v1,q1,Zi0 r L none hp ho (fun _ e=>nomatch e)];exact⟨rfl,rfl⟩
theorem ent_on {s:InS} {e:Ent} {r:List Int} (he:s.e=0) (hb:s.b=encE e++r) (h:EntOk e):entV s=e∧t6 s=⟨r,0⟩:=by
 have h1:=h.path;have h2:=h.num;have h3:=h.foot;have h4:=h.n;have h5:=h.stamp;unfold encE at hb;simp only[List.append_assoc] at hb;obtain⟨v1,q1⟩:=Zfq (most:=64) he hb h1 (by omega);have q1:t1 s=_:=q1;obtain⟨v2,q2⟩:=ZgR (s:=t1 s) (by rw[q1]) (by rw[q1]) (by omega);have q2:t2 s=_:=q2;obtain⟨v3,q3⟩:=Zfq (s:=t2 s) (most:=64) (by rw[q2]) (by rw[q2]) h3 (by omega);have q3:t3 s=_:=q3;obtain⟨v4,q4⟩:=ZkZ (s:=t3 s) (x:=e.mode) (r:=fixL e.n.toNat++(Zaf e.stamp.toNat++r)) (by rw[q3]) (by rw[q3];rfl);have q4:t4 s=_:=q4;obtain⟨v5,q5⟩:=ZgR (s:=t4 s) (by rw[q4]) (by rw[q4]) (by omega);have q5:t5 s=_:=q5;obtain⟨v6,q6⟩:=Zbc (s:=t5 s) (most:=4611686018427387903) (by rw[q5]) (by rw[q5]) (by omega) (by omega);have q6:t6 s=_:=q6;unfold entV;rw[v1,v2,v3,v4,v5,v6,q6];refine⟨?_,rfl⟩;rw[Int.toNat_of_nonneg h2.1,Int.toNat_of_nonneg h4.1,Int.toNat_of_nonneg (by omega)]
theorem lt_aft {x y:Ent} (hx:Zad (bl x.path)=true) (hy:Zad (bl y.path)=true) (h:ltE x y):aftB x y=true:=by
 have hcp:cmpP (bl x.path) (bl y.path)=cmpL (Zae (bl x.path)) (Zae (bl y.path)):=by simp[cmpP,hx,hy]
 unfold aftB;rw[hcp];unfold ltE Lock.keyL at h
 rcases h with h|⟨h1,h2⟩
 · rw[decide_eq_true h];rfl
 rw[h1,Path.Zb3,decide_eq_true h2];rfl
theorem Zil {p:ByteArray} {m:Int} (h:ZaR p m=true):Zad (bl p)=true:=by
 unfold ZaR at h;exact(Bool.and_eq_true .. ▸ h).1
theorem ZiP (r:List Int):∀(l acc:List Ent) (last:Option Ent),(acc++l).Pairwise ltE→(acc++l).Pairwise (fun a b=>¬(a.path=b.path∧a.num=b.num∧a.foot=b.foot))→(∀e ∈ acc++l,EntOk e)→last=acc.getLast? →entsD l.length acc last ⟨l.flatMap encE++r,0⟩=(acc++l,⟨r,0⟩)
 |[],acc,_,_,_,_,_=>by simp[entsD]
 |a::l,acc,last,hp,hk,ho,hl=>by
  have hoa:=ho a (by simp);obtain⟨q1,q2⟩:=ent_on (s:=⟨(a::l).flatMap encE++r,0⟩) (e:=a) (r:=l.flatMap encE++r) rfl (by simp) hoa
  have hb:badE acc last a=false:=by
   unfold badE;have h1:=hoa.right;have h2:decide (a.stamp=0)=false:=decide_eq_false (by have:=hoa.stamp;omega)
   have h3:(Lock.find acc a.path a.num a.foot).isSome=false:=by
    cases hq:Lock.find acc a.path a.num a.foot with
    |none=>rfl
    |some x=>
     exfalso
     obtain⟨l1,l2,e,e1,e2,e3,_⟩:=Lock.find_split hq
     have hx:x ∈ acc:=by rw[e];simp
     exact(List.pairwise_append.1 hk).2.2 x hx a (by simp) ⟨e1,e2,e3⟩
   have h4:last.any (fun q=> !aftB q a)=false:=by
    cases hq:last with
    |none=>rfl
    |some q=>
     have hm:q ∈ acc:=List.mem_of_getLast? (hl ▸ hq);have h5:=(List.pairwise_append.1 hp).2.2 q hm a (by simp);have h6:=lt_aft (Zil (ho q (by simp[hm])).right) (Zil hoa.right) h5;simp[h6]
   rw[h1,h2,h3,h4]
   rfl
  rw[List.length_cons,Lock.Ze4 (by omega)];simp only[q1,q2,hb,Nat.add_sub_cancel,if_neg Bool.false_ne_true];rw[if_neg (fun q=>q rfl)]
  have e1:acc++a::l=(acc++[a])++l:=by simp
  rw[e1] at hp hk ho ⊢;exact ZiP r l (acc++[a]) (some a) hp hk ho (by simp)
theorem Zmq (a:Ent):1≤(encE a).length:=by
 have h1:(fixL a.num.toNat).length=8:=by simp[fixL]
 unfold encE;simp only[List.length_append]
 omega
theorem Zmr (a:ByteArray × Int):1≤(encC a).length:=by
 have h1:(fixL a.2.toNat).length=8:=by simp[fixL]
 unfold encC;simp only[List.length_append]
 omega
theorem cnt_on {s:InS} {c:ByteArray × Int} {r:List Int} {first:Int} (he:s.e=0) (hb:s.b=encC c++r) (h:CntOk first c):cntV s=c∧c2 s=⟨r,0⟩:=by
 have h1:=h.path;have h2:=h.n;unfold encC at hb;simp only[List.append_assoc] at hb;obtain⟨v1,q1⟩:=Zfq (most:=64) he hb h1 (by omega);have q1:c1 s=_:=q1;obtain⟨v2,q2⟩:=ZgR (s:=c1 s) (by rw[q1]) (by rw[q1]) (by omega);have q2:c2 s=_:=q2;unfold cntV;rw[v1,v2,q2];refine⟨?_,rfl⟩;rw[Int.toNat_of_nonneg h2.1]
theorem ZiW (first:Int) (r:List Int):∀(l:List (ByteArray × Int)) (last:Option ByteArray),l.Pairwise ltC→(∀a ∈ l,CntOk first a)→(∀q,last=some q→Zad (bl q)=true∧∀a ∈ l,cmpL (Zae (bl q)) (Zae (bl a.1)) < 0)→cntsD first l.length last ⟨l.flatMap encC++r,0⟩=(l,⟨r,0⟩)
 |[],_,_,_,_=>rfl
 |a::l,last,hp,ho,hl=>by
  obtain⟨h1,h2⟩:=List.pairwise_cons.1 hp;have hoa:=ho a (by simp);obtain⟨q1,q2⟩:=cnt_on (s:=⟨(a::l).flatMap encC++r,0⟩) (c:=a) (r:=l.flatMap encC++r) rfl (by simp) hoa
  have hb:badC first last a=false:=by
   unfold badC
   have h4:last.any (fun q=>decide (0≤cmpP (bl q) (bl a.1)))=false:=by
    cases hq:last with
    |none=>rfl
    |some q=>
     obtain⟨h5,h6⟩:=hl q hq;have h7:=h6 a (by simp)
     have hcp:cmpP (bl q) (bl a.1)=cmpL (Zae (bl q)) (Zae (bl a.1)):=by simp[cmpP,h5,hoa.right]
     simp only[Option.any_some,decide_eq_false_iff_not]
     omega
   rw[hoa.right,h4,decide_eq_false hoa.ne]
   rfl
  rw[List.length_cons,Lock.Ze5 (by omega)];simp only[q1,q2,hb,Nat.add_sub_cancel,if_neg Bool.false_ne_true];rw[if_neg (fun q=>q rfl)];rw[ZiW first r l (some a.1) h2 (fun x hx=>ho x (by simp[hx])) (fun q e=>by cases e;exact⟨hoa.right,h1⟩)]
theorem Zl6 {first:Int} {es:List Ent} {cs:List (ByteArray × Int)} (h1:es.Pairwise ltE) (h2:es.Pairwise (fun a b=>¬(a.path=b.path∧a.num=b.num∧a.foot=b.foot))) (h3:∀e ∈ es,EntOk e) (h4:cs.Pairwise ltC) (h5:∀c ∈ cs,CntOk first c) (hl:es.length < 18446744073709551616) (hm:cs.length < 18446744073709551616):
 entsV ⟨encB es cs,0⟩=es∧cntsV first (entsS ⟨encB es cs,0⟩)=cs∧cntsS first (entsS ⟨encB es cs,0⟩)=⟨[],0⟩:=by
 have hb:(⟨encB es cs,0⟩:InS).b=Zaf es.length++(es.flatMap encE++(Zaf cs.length++cs.flatMap encC)):=by unfold encB;simp only[List.append_assoc]
 have hle:es.length≤(⟨encB es cs,0⟩:InS).left:=by
  have:=ZfW Zmq es;show es.length≤(if(0:Int)≠0 then 0 else(encB es cs).length);rw[if_neg (by simp)];unfold encB;simp only[List.length_append]
  omega
 obtain⟨v1,q1⟩:=Zbc (s:=⟨encB es cs,0⟩) rfl hb hle hl
 have e1:entsV ⟨encB es cs,0⟩=es∧entsS ⟨encB es cs,0⟩=⟨Zaf cs.length++cs.flatMap encC,0⟩:=by
  unfold entsV entsS;rw[v1,q1,ZiP _ es [] none (by simpa using h1) (by simpa using h2) (by simpa using h3) rfl];exact⟨rfl,rfl⟩
 rw[e1.2]
 have hb2:(⟨Zaf cs.length++cs.flatMap encC,0⟩:InS).b=Zaf cs.length++(cs.flatMap encC++[]):=by simp
 have hle2:cs.length≤(⟨Zaf cs.length++cs.flatMap encC,0⟩:InS).left:=by
  have:=ZfW Zmr cs;show cs.length≤(if(0:Int)≠0 then 0 else(Zaf cs.length++cs.flatMap encC).length);rw[if_neg (by simp)];simp only[List.length_append]
  omega
 obtain⟨v2,q2⟩:=Zbc (s:=⟨Zaf cs.length++cs.flatMap encC,0⟩) rfl hb2 hle2 hm;unfold cntsV cntsS;rw[v2,q2,ZiW first [] cs none h4 h5 (fun _ e=>nomatch e)];exact⟨e1.1,rfl,rfl⟩
end Wire
end
end Go.Proofs.YtkdjkngfnapjcaaGreatDoor
