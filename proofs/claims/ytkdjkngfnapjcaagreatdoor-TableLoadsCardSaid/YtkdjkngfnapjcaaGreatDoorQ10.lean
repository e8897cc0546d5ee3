/- PutL, PathP, joined. -/
import Derived.Test.YtkdjkngfnapjcaaGreatDoorQ9
import Derived.Lib.Join
import Derived.Lib.Bytealg
import Derived.Lib.Strings
import Derived.Lib.Small
import Derived.Lib.IndexLaws
set_option linter.unusedSimpArgs false
set_option linter.unusedVariables false
set_option maxRecDepth 100000
set_option maxHeartbeats 16000000
namespace Go.Proofs.YtkdjkngfnapjcaaGreatDoor
section
namespace Lease
open Go.RowKit
open _root_.Go.Proofs.YtkdjkngfnapjcaaGreatDoor.Wire
open _root_.Go.Proofs.YtkdjkngfnapjcaaGreatDoor.Sess (seL sortS)
attribute [-go_sem] run_eql_struct run_neq_struct run_eqGuard_agg
def wrN (e:Int):Nat:=(e % 18446744073709551616).toNat
def bB (t:Bool):List Int:=[if t then(1:Int) else 0]
def encA (a:AR):List Int:=Zaf a.r.toNat++Zaf (wrN a.e)++fixL a.n.toNat++bB a.g
def encS (s:SR):List Int:=fixL s.num.toNat++textB s.foot++bB s.op++bB s.dead++Zaf s.dl.toNat++Zaf s.ttl.toNat++Zaf s.told.length++s.told.flatMap encA
def encL (L:List SR):List Int:=Zaf L.length++L.flatMap encS
theorem Zay.r {w w':World} {b:Nat} {u:Value} {l m:List Int} {e:Ending} (h:Zay w b u l m e w'):∃x,e=.returned x∧(x=.pointer (some ⟨b,0,none⟩)∧∃u',At [outC b u,rowY u l] w [outC b u',rowY u' (l++m)] w'):=by
 obtain⟨u',rfl,hT⟩:=h;exact⟨_,rfl,rfl,u',hT⟩
theorem Zgi (s:ByteArray) (h:s.size≤20000000000000):(textB s).length≤10 + s.size:=by
 have h1:=Zal 9 s.size (by omega);unfold textB;rw[List.length_append,ZcL]
 omega
def PvRel (w:World) (p m b g bI bK:Nat) (ss:List Ses) (c cI cK:List Value) (u00:Value) (l00:List Int) (l7:List Int) (told:List AR) (vq:Value) (k:Nat) (x:Value) (wr:World):Prop:=
 ∃(j:Nat) (u:Value) (l:List Int),x=.int .i64 j∧j + k=told.length∧l=l7++(told.take j).flatMap encA∧l.length≤l7.length + j * 29∧At [BookP p m ss,outC b u00,rowY u00 l00] w [Part.row 23 1 vq told.length ((told.map (·.r)).flatMap Unt.seL),outC b u,rowY u l,.cells bI cI 121,BookP p m ss,.cells bK cK 25,.cells g c 25] wr
def PuRel (w:World) (p m b:Nat) (ss:List Ses) (L:List SR) (u0:Value) (l0:List Int) (vl:Value) (k:Nat) (x:Value) (wr:World):Prop:=
 ∃(i:Nat) (u:Value) (l:List Int),x=.int .i64 i∧i + k=L.length∧l=l0++Zaf L.length++(L.take i).flatMap encS∧l.length≤l0.length + 10 + i * 2100000∧At [BookP p m ss,outC b u0,rowY u0 l0] w [Part.row 25 2 vl L.length ((L.map keyR).flatMap seL),BookP p m ss,outC b u,rowY u l] wr
theorem put_any {w:World} {p m b:Nat} {ss:List Ses} {L:List SR} {u00:Value} {l00:List Int} (h:Sep [BookP p m ss,outC b u00,rowY u00 l00] w) (hR:Rel ss L) (hk:∀s ∈ L,0≤s.num∧s.num < big64∧s.foot.size≤2000000) (hl:L.length≤100000) (hl0:l00.length≤1000000000000):
 Calls Tryz.prog 130 #[.pointer (some ⟨p,0,none⟩),.pointer (some ⟨b,0,none⟩)] w fun e w'=>e=.returned (.tuple #[])∧∃u,At [BookP p m ss,outC b u00,rowY u00 l00] w [BookP p m ss,outC b u,rowY u (l00++encL L)] w':=by
 have hm:Tryz.prog.follows .mixedOrders=true:=by kernel_rfl
 have hA:=At.start h;have hF:=hA.facts;clear h;have hR':=Hd hR;have hk':=Hd hk
 have hss:ss.length≤1000000:=by rw[hR.len];omega
 clear hR hk;obtain⟨hA,hF⟩:=fZ hA
 go_enter Tryz.func130,Tryz.ntmps130
 go_wp2_with fail
 refine(Zgs (hA.sep1 (A:=BookP p m ss) sR) hss).mono ?_;rintro e w1 ⟨vl,rfl,hT⟩;have hB:=hA.call1 (A:=BookP p m ss) sR hT;rw[hR'.out.sessions] at hB;simp only[uA] at hB;clear hF hA hT;have hA:At _ w (Part.row 25 2 vl (L.map keyR).length ((L.map keyR).flatMap seL)::_) _:=hB;clear hB;rw[List.length_map] at hA;obtain⟨lx,lcap,rfl,hlx,hlcap,_⟩:=hA.row_form (v:=vl) (n:=L.length) (xs:=(L.map keyR).flatMap seL) sR
 have hwL:IntKind.u64.wrap (L.length:Int)=(L.length:Int):=by rw[IntKind.wrap_u64];omega
 obtain⟨hA,hF⟩:=fZ hA
 go_wp2_with fail
 refine(Zbg (hA.sep2 (A:=outC b u00) (B:=rowY u00 l00) sR sR) L.length (by omega) (by omega)).mono ?_;rintro e w2 ⟨u1,rfl,hT⟩;have hB:=hA.call2 (A:=outC b u00) (B:=rowY u00 l00) sR sR hT;have hsl:=Zal 9 L.length (by omega);clear hF hA hT;have hA:=hB;clear hB;simp only[uA] at hA;obtain⟨hA,hF⟩:=fZ hA
 go_wp2_with fail
 try go_frame
 go_loopg [21] L.length (PuRel w p m b ss L u00 l00 (.slice lx L.length lcap))
 case atStart=>exact⟨0,u1,l00++Zaf L.length,rfl,by simp,by simp,by rw[List.length_append];omega,hA.pick pZ⟩
 case round=>
  obtain⟨i,u0,l0,rfl,hik,hle,hll,hB⟩:=hrel;have hle':=Hd hle;clear hF hA hle hsl;have hA:=hB;clear hB
  by_cases hi:i < L.length
  · have hmem:=List.getElem_mem hi
    obtain⟨n0,n1,hfz⟩:=hk'.out _ hmem;have hrs:=hR'.out.mine hmem;have htk:=Hd (List.take_succ_eq_append_getElem hi);obtain⟨g,c,rfl,cp1,cm,cl,ct,hB⟩:=hA.row_open (ax:=lx) (cap:=lcap) (n:=L.length) (xs:=(L.map keyR).flatMap seL) sR (by omega)
    have hx:(L.map keyR)[i]? =some (keyR L[i]):=by rw[List.getElem?_map,List.getElem?_eq_getElem hi];rfl
    have ct2:c.take ((L.map keyR).length * 2)=(L.map keyR).flatMap seL:=by rw[List.length_map];exact ct
    have c0:c[i * 2]? =some (.int .u64 L[i].num):=Za7 Sess.seL_len ct2 hx 0 (by omega);have c1:c[i * 2 + 1]? =some (.string L[i].foot):=Za7 Sess.seL_len ct2 hx 1 (by omega)
    obtain⟨s,hs⟩:∃s,L[i]=s:=⟨_,rfl⟩
    rw[hs] at hrs htk c0 c1 n0 n1 hfz;clear hA hx hs hmem;have hA:=hB;clear hB;obtain⟨num,foot,op,dead,dl,ttl,sax,scap,told⟩:=s;simp only at hrs c0 c1 n0 n1 hfz;have htb:=hrs.tb;have hdb:=hrs.db;have htl:=hrs.told.len;simp only at htb hdb htl
    obtain⟨num,rfl⟩:∃k:Nat,num=k:=⟨num.toNat,by omega⟩
    obtain⟨dl,rfl⟩:∃k:Nat,dl=k:=⟨dl.toNat,by omega⟩
    obtain⟨ttl,rfl⟩:∃k:Nat,ttl=k:=⟨ttl.toNat,by omega⟩
    have hn64:num < 18446744073709551616:=by unfold big64 at n1;omega
    have hwd:IntKind.u64.wrap (dl:Int)=(dl:Int):=by rw[IntKind.wrap_u64];omega
    have hwt:IntKind.u64.wrap (ttl:Int)=(ttl:Int):=by rw[IntKind.wrap_u64];omega
    have hws:IntKind.u64.wrap (told.length:Int)=(told.length:Int):=by rw[IntKind.wrap_u64];omega
    have hft:=Zgi foot (by omega)
    have hmx:foot.size≤maxLen:=by unfold maxLen;omega
    have hrs':=Hd hrs;have hib:i * 2100000≤100000 * 2100000:=Nat.mul_le_mul_right _ (by omega);clear hrs;obtain⟨hA,hF⟩:=fZ hA
    go_wp2_with (first|((with_reducible refine gal ?_);refine g5 hA ?_;clear hF hA;intro bK w1 hA hbK hF)|((with_reducible refine gst ?_);refine wTz hA ?_;clear hF hA;intro w1 hA hF))
    refine(ZkA (hA.sep1 (A:=BookP p m ss) sR) n0 n1 hmx hrs'.out).mono ?_;rintro e w3 ⟨rfl,hT⟩;replace hA:=hA.call1 (A:=BookP p m ss) sR hT;clear hF hT;simp only[uA] at hA;obtain⟨hA,hF⟩:=fZ hA
    go_wp2_with (first|((with_reducible refine gal ?_);refine wGz 121 [.bool false,.bool false,.int .i64 0,.int .i64 0,.int .i64 0] hA ?_;clear hF hA;intro bI w1 hA hbI hF)|((with_reducible refine gst ?_);refine wTz hA ?_;clear hF hA;intro w1 hA hF))
    try go_frame
    have hAd:=hA.drew;clear hF hA;have hA:=hAd;clear hAd;refine wp_region_held (S:=fun w'=>Zaa w' bK [.int .u64 (num:Int),.string foot] 25∧Zaa w' bI [.bool op,.bool dead,.int .i64 (dl:Int),.int .i64 (ttl:Int),.int .i64 (told.length:Int)] 121) hm ?_;change wpAnyH _ _ _ _ _ 25 _ _ (World.drew _)
    generalize World.drew _=w2 at *
    have hS0:=(show Zaa _ bK [.int .u64 (num:Int),.string foot] 25∧Zaa _ bI [.bool op,.bool dead,.int .i64 (dl:Int),.int .i64 (ttl:Int),.int .i64 (told.length:Int)] 121 from⟨hA.get (A:=.cells bK [.int .u64 (num:Int),.string foot] 25) sR,hA.get (A:=.cells bI [.bool op,.bool dead,.int .i64 (dl:Int),.int .i64 (ttl:Int),.int .i64 (told.length:Int)] 121) sR⟩)
    refine tZ 0 28 ((.pointer (some ⟨b,0,none⟩))) (r:=(fun w' hS=>by simp[execOp,go_sem,Act.eval,Act.put])) (s:=hS0) (h:= ?_);go_frame;refine tZ 1 29 ((.pointer (some ⟨bK,0,none⟩))) (r:=(fun w' hS=>by kernel_rfl)) (s:=hS0) (h:= ?_);go_frame;refine tZ 2 30 ((.int .u64 (num:Int))) (r:=(fun w' hS=>Zab (b:=bK) (j:=0) rfl (by exact rfl) hS.1 (by kernel_rfl) rfl)) (s:=hS0) (h:= ?_);go_frame;refine tZ 4 32 ((.pointer (some ⟨bK,1,none⟩))) (r:=(fun w' hS=>by kernel_rfl)) (s:=hS0) (h:= ?_);go_frame;refine tZ 5 33 ((.string foot)) (r:=(fun w' hS=>Zab (b:=bK) (j:=1) rfl (by exact rfl) hS.1 (by kernel_rfl) rfl)) (s:=hS0) (h:= ?_);go_frame;refine tZ 7 35 ((.pointer (some ⟨bI,0,none⟩))) (r:=(fun w' hS=>by kernel_rfl)) (s:=hS0) (h:= ?_);go_frame;refine tZ 8 36 ((.bool op)) (r:=(fun w' hS=>Zab (b:=bI) (j:=0) rfl (by exact rfl) hS.2 (by kernel_rfl) rfl)) (s:=hS0) (h:= ?_);go_frame;refine tZ 10 38 ((.pointer (some ⟨bI,1,none⟩))) (r:=(fun w' hS=>by kernel_rfl)) (s:=hS0) (h:= ?_);go_frame;refine tZ 11 39 ((.bool dead)) (r:=(fun w' hS=>Zab (b:=bI) (j:=1) rfl (by exact rfl) hS.2 (by kernel_rfl) rfl)) (s:=hS0) (h:= ?_);go_frame;refine tZ 13 41 ((.pointer (some ⟨bI,2,none⟩))) (r:=(fun w' hS=>by kernel_rfl)) (s:=hS0) (h:= ?_);go_frame;refine tZ 14 42 ((.int .i64 (dl:Int))) (r:=(fun w' hS=>Zab (b:=bI) (j:=2) rfl (by exact rfl) hS.2 (by kernel_rfl) rfl)) (s:=hS0) (h:= ?_);go_frame;refine tZ 15 43 ((.int .u64 (dl:Int))) (r:=(fun w' hS=>by simp[execOp,go_sem,Act.eval,Act.put,hwd])) (s:=hS0) (h:= ?_);go_frame;refine tZ 17 45 ((.pointer (some ⟨bI,3,none⟩))) (r:=(fun w' hS=>by kernel_rfl)) (s:=hS0) (h:= ?_);go_frame;refine tZ 18 46 ((.int .i64 (ttl:Int))) (r:=(fun w' hS=>Zab (b:=bI) (j:=3) rfl (by exact rfl) hS.2 (by kernel_rfl) rfl)) (s:=hS0) (h:= ?_);go_frame;refine tZ 19 47 ((.int .u64 (ttl:Int))) (r:=(fun w' hS=>by simp[execOp,go_sem,Act.eval,Act.put,hwt])) (s:=hS0) (h:= ?_);go_frame;refine tZ 21 49 ((.pointer (some ⟨bI,4,none⟩))) (r:=(fun w' hS=>by kernel_rfl)) (s:=hS0) (h:= ?_);go_frame;refine tZ 22 50 ((.int .i64 (told.length:Int))) (r:=(fun w' hS=>Zab (b:=bI) (j:=4) rfl (by exact rfl) hS.2 (by kernel_rfl) rfl)) (s:=hS0) (h:= ?_);go_frame;refine tZ 23 51 ((.int .u64 (told.length:Int))) (r:=(fun w' hS=>by simp[execOp,go_sem,Act.eval,Act.put,hws])) (s:=hS0) (h:= ?_);go_frame;clear hS0;refine Zac (i:=3) (by kernel_rfl) ?_;refine Zan (i:=3) (d:=some 31) rfl rfl rfl (fn:=81) (args:= #[(.pointer (some ⟨b,0,none⟩)),.int .u64 (num:Int)]) (by simp[execOp,go_sem,Act.eval,Act.put]) ((ZcS (hA.sep2 (A:=outC b u0) (B:=rowY u0 l0) sR sR) num hn64 (by omega)).mono (fun e w' h=>Zay.r h)) ?_;rintro xq zq ⟨rfl,u1,hT⟩;have hB:=hA.call2 (A:=outC b u0) (B:=rowY u0 l0) sR sR hT
    obtain⟨l1,he1⟩:∃z,l0++fixL num=z:=⟨_,rfl⟩
    have hl1:l1.length≤l0.length + 8:=by have:=(show(fixL num).length≤8 from by simp[fixL]);rw[←he1,List.length_append];omega
    rw[he1] at hB;have he1':=Hd he1;clear hA hT he1;have hA:=hB;clear hB;simp only[uA] at hA;refine⟨(show Zaa _ bK [.int .u64 (num:Int),.string foot] 25∧Zaa _ bI [.bool op,.bool dead,.int .i64 (dl:Int),.int .i64 (ttl:Int),.int .i64 (told.length:Int)] 121 from⟨hA.get (A:=.cells bK [.int .u64 (num:Int),.string foot] 25) sR,hA.get (A:=.cells bI [.bool op,.bool dead,.int .i64 (dl:Int),.int .i64 (ttl:Int),.int .i64 (told.length:Int)] 121) sR⟩),?_⟩;go_frame;refine Zac (i:=6) (by kernel_rfl) ?_;refine Zan (i:=6) (d:=some 34) rfl rfl rfl (fn:=80) (args:= #[(.pointer (some ⟨b,0,none⟩)),.string foot]) (by simp[execOp,go_sem,Act.eval,Act.put]) ((ZfH (hA.sep2 (A:=outC b u1) (B:=rowY u1 l1) sR sR) foot (by omega) (by omega)).mono (fun e w' h=>Zay.r h)) ?_;rintro xq zq ⟨rfl,u2,hT⟩;have hB:=hA.call2 (A:=outC b u1) (B:=rowY u1 l1) sR sR hT
    obtain⟨l2,he2⟩:∃z,l1++textB foot=z:=⟨_,rfl⟩
    have hl2:l2.length≤l1.length + (10 + foot.size):=by have:=hft;rw[←he2,List.length_append];omega
    rw[he2] at hB;have he2':=Hd he2;clear hA hT he2;have hA:=hB;clear hB;simp only[uA] at hA;refine⟨(show Zaa _ bK [.int .u64 (num:Int),.string foot] 25∧Zaa _ bI [.bool op,.bool dead,.int .i64 (dl:Int),.int .i64 (ttl:Int),.int .i64 (told.length:Int)] 121 from⟨hA.get (A:=.cells bK [.int .u64 (num:Int),.string foot] 25) sR,hA.get (A:=.cells bI [.bool op,.bool dead,.int .i64 (dl:Int),.int .i64 (ttl:Int),.int .i64 (told.length:Int)] 121) sR⟩),?_⟩;go_frame;refine Zac (i:=9) (by kernel_rfl) ?_;refine Zan (i:=9) (d:=some 37) rfl rfl rfl (fn:=181) (args:= #[(.pointer (some ⟨b,0,none⟩)),.bool op]) (by simp[execOp,go_sem,Act.eval,Act.put]) ((ZfG (hA.sep2 (A:=outC b u2) (B:=rowY u2 l2) sR sR) op (by omega)).mono (fun e w' h=>Zay.r h)) ?_;rintro xq zq ⟨rfl,u3,hT⟩;have hB:=hA.call2 (A:=outC b u2) (B:=rowY u2 l2) sR sR hT
    obtain⟨l3,he3⟩:∃z,l2++[if op then(1:Int) else 0]=z:=⟨_,rfl⟩
    have hl3:l3.length≤l2.length + 1:=by have:=(show([if op then(1:Int) else 0]:List Int).length≤1 from Nat.le_refl _);rw[←he3,List.length_append];omega
    rw[he3] at hB;have he3':=Hd he3;clear hA hT he3;have hA:=hB;clear hB;simp only[uA] at hA;refine⟨(show Zaa _ bK [.int .u64 (num:Int),.string foot] 25∧Zaa _ bI [.bool op,.bool dead,.int .i64 (dl:Int),.int .i64 (ttl:Int),.int .i64 (told.length:Int)] 121 from⟨hA.get (A:=.cells bK [.int .u64 (num:Int),.string foot] 25) sR,hA.get (A:=.cells bI [.bool op,.bool dead,.int .i64 (dl:Int),.int .i64 (ttl:Int),.int .i64 (told.length:Int)] 121) sR⟩),?_⟩;go_frame;refine Zac (i:=12) (by kernel_rfl) ?_;refine Zan (i:=12) (d:=some 40) rfl rfl rfl (fn:=181) (args:= #[(.pointer (some ⟨b,0,none⟩)),.bool dead]) (by simp[execOp,go_sem,Act.eval,Act.put]) ((ZfG (hA.sep2 (A:=outC b u3) (B:=rowY u3 l3) sR sR) dead (by omega)).mono (fun e w' h=>Zay.r h)) ?_;rintro xq zq ⟨rfl,u4,hT⟩;have hB:=hA.call2 (A:=outC b u3) (B:=rowY u3 l3) sR sR hT
    obtain⟨l4,he4⟩:∃z,l3++[if dead then(1:Int) else 0]=z:=⟨_,rfl⟩
    have hl4:l4.length≤l3.length + 1:=by have:=(show([if dead then(1:Int) else 0]:List Int).length≤1 from Nat.le_refl _);rw[←he4,List.length_append];omega
    rw[he4] at hB;have he4':=Hd he4;clear hA hT he4;have hA:=hB;clear hB;simp only[uA] at hA;refine⟨(show Zaa _ bK [.int .u64 (num:Int),.string foot] 25∧Zaa _ bI [.bool op,.bool dead,.int .i64 (dl:Int),.int .i64 (ttl:Int),.int .i64 (told.length:Int)] 121 from⟨hA.get (A:=.cells bK [.int .u64 (num:Int),.string foot] 25) sR,hA.get (A:=.cells bI [.bool op,.bool dead,.int .i64 (dl:Int),.int .i64 (ttl:Int),.int .i64 (told.length:Int)] 121) sR⟩),?_⟩;go_frame;refine Zac (i:=16) (by kernel_rfl) ?_;refine Zan (i:=16) (d:=some 44) rfl rfl rfl (fn:=142) (args:= #[(.pointer (some ⟨b,0,none⟩)),.int .u64 (dl:Int)]) (by simp[execOp,go_sem,Act.eval,Act.put]) ((Zbg (hA.sep2 (A:=outC b u4) (B:=rowY u4 l4) sR sR) (dl) (by omega) (by omega)).mono (fun e w' h=>Zay.r h)) ?_;rintro xq zq ⟨rfl,u5,hT⟩;have hB:=hA.call2 (A:=outC b u4) (B:=rowY u4 l4) sR sR hT
    obtain⟨l5,he5⟩:∃z,l4++Zaf (dl)=z:=⟨_,rfl⟩
    have hl5:l5.length≤l4.length + 10:=by have:=Zal 9 (dl) (by omega);rw[←he5,List.length_append];omega
    rw[he5] at hB;have he5':=Hd he5;clear hA hT he5;have hA:=hB;clear hB;simp only[uA] at hA;refine⟨(show Zaa _ bK [.int .u64 (num:Int),.string foot] 25∧Zaa _ bI [.bool op,.bool dead,.int .i64 (dl:Int),.int .i64 (ttl:Int),.int .i64 (told.length:Int)] 121 from⟨hA.get (A:=.cells bK [.int .u64 (num:Int),.string foot] 25) sR,hA.get (A:=.cells bI [.bool op,.bool dead,.int .i64 (dl:Int),.int .i64 (ttl:Int),.int .i64 (told.length:Int)] 121) sR⟩),?_⟩;go_frame;refine Zac (i:=20) (by kernel_rfl) ?_;refine Zan (i:=20) (d:=some 48) rfl rfl rfl (fn:=142) (args:= #[(.pointer (some ⟨b,0,none⟩)),.int .u64 (ttl:Int)]) (by simp[execOp,go_sem,Act.eval,Act.put]) ((Zbg (hA.sep2 (A:=outC b u5) (B:=rowY u5 l5) sR sR) (ttl) (by omega) (by omega)).mono (fun e w' h=>Zay.r h)) ?_;rintro xq zq ⟨rfl,u6,hT⟩;have hB:=hA.call2 (A:=outC b u5) (B:=rowY u5 l5) sR sR hT
    obtain⟨l6,he6⟩:∃z,l5++Zaf (ttl)=z:=⟨_,rfl⟩
    have hl6:l6.length≤l5.length + 10:=by have:=Zal 9 (ttl) (by omega);rw[←he6,List.length_append];omega
    rw[he6] at hB;have he6':=Hd he6;clear hA hT he6;have hA:=hB;clear hB;simp only[uA] at hA;refine⟨(show Zaa _ bK [.int .u64 (num:Int),.string foot] 25∧Zaa _ bI [.bool op,.bool dead,.int .i64 (dl:Int),.int .i64 (ttl:Int),.int .i64 (told.length:Int)] 121 from⟨hA.get (A:=.cells bK [.int .u64 (num:Int),.string foot] 25) sR,hA.get (A:=.cells bI [.bool op,.bool dead,.int .i64 (dl:Int),.int .i64 (ttl:Int),.int .i64 (told.length:Int)] 121) sR⟩),?_⟩;go_frame;refine Zac (i:=24) (by kernel_rfl) ?_;refine Zan (i:=24) (d:=some 52) rfl rfl rfl (fn:=142) (args:= #[(.pointer (some ⟨b,0,none⟩)),.int .u64 (told.length:Int)]) (by simp[execOp,go_sem,Act.eval,Act.put]) ((Zbg (hA.sep2 (A:=outC b u6) (B:=rowY u6 l6) sR sR) (told.length) (by omega) (by omega)).mono (fun e w' h=>Zay.r h)) ?_;rintro xq zq ⟨rfl,u7,hT⟩;have hB:=hA.call2 (A:=outC b u6) (B:=rowY u6 l6) sR sR hT
    obtain⟨l7,he7⟩:∃z,l6++Zaf (told.length)=z:=⟨_,rfl⟩
    have hl7:l7.length≤l6.length + 10:=by have:=Zal 9 (told.length) (by omega);rw[←he7,List.length_append];omega
    rw[he7] at hB;have he7':=Hd he7;clear hA hT he7;have hA:=hB;clear hB;simp only[uA] at hA;refine⟨(show Zaa _ bK [.int .u64 (num:Int),.string foot] 25∧Zaa _ bI [.bool op,.bool dead,.int .i64 (dl:Int),.int .i64 (ttl:Int),.int .i64 (told.length:Int)] 121 from⟨hA.get (A:=.cells bK [.int .u64 (num:Int),.string foot] 25) sR,hA.get (A:=.cells bI [.bool op,.bool dead,.int .i64 (dl:Int),.int .i64 (ttl:Int),.int .i64 (told.length:Int)] 121) sR⟩),?_⟩;go_frame;refine wpAnyH_done (by kernel_rfl) ?_ _
    try go_frame
    obtain⟨hA,hF⟩:=fZ hA
    go_wp2_with fail
    refine(Zfx (hA.sep1 (A:=BookP p m ss) sR) n0 n1 hmx hrs'.out).mono ?_;rintro e w4 ⟨vq,rfl,hT⟩;replace hA:=hA.call1 (A:=BookP p m ss) sR hT;clear hF hT;simp only[uA] at hA;have hB:At _ w (Part.row 23 1 vq (told.map (·.r)).length ((told.map (·.r)).flatMap Unt.seL)::_) _:=hA;rw[List.length_map] at hB;clear hA;have hA:=hB;clear hB;obtain⟨qx,qcap,rfl,hqx,hqcap,_⟩:=hA.row_form (v:=vq) (n:=told.length) (xs:=(told.map (·.r)).flatMap Unt.seL) sR;obtain⟨hA,hF⟩:=fZ hA
    go_wp2_with fail
    try go_frame
    go_loopg [57] told.length (PvRel w p m b g bI bK ss c [.bool op,.bool dead,.int .i64 (dl:Int),.int .i64 (ttl:Int),.int .i64 (told.length:Int)] [.int .u64 (num:Int),.string foot] u00 l00 l7 told (.slice qx told.length qcap))
    case atStart=>exact⟨0,u7,l7,rfl,by simp,by simp,by omega,hA.pick pZ⟩
    case round=>
     obtain⟨j,u20,l20,rfl,hjk,hje,hjl,hB⟩:=hrel;have hje':=Hd hje;clear hF hA hje;have hA:=hB;clear hB
     by_cases hj:j < told.length
     · have hxm:=List.getElem_mem hj
       have hxb:=hrs'.out.told.bd _ hxm;have hxa:=hrs'.out.told.an _ hxm;have htj:=Hd (List.take_succ_eq_append_getElem hj);obtain⟨gq,cq,rfl,qp1,qm,ql,qt,hB⟩:=hA.row_open (ax:=qx) (cap:=qcap) (n:=told.length) (xs:=(told.map (·.r)).flatMap Unt.seL) sR (by omega)
       have hx:(told.map (·.r))[j]? =some told[j].r:=by rw[List.getElem?_map,List.getElem?_eq_getElem hj];rfl
       have qt2:cq.take ((told.map (·.r)).length * 1)=(told.map (·.r)).flatMap Unt.seL:=by rw[List.length_map];exact qt
       have d0:cq[j * 1]? =some (.int .u64 told[j].r):=Za7 (enc:=Unt.seL) (size:=1) (fun _=>rfl) qt2 hx 0 (by omega);rw[Nat.mul_one] at d0
       obtain⟨y,hy⟩:∃y,told[j]=y:=⟨_,rfl⟩
       rw[hy] at hxm hxb hxa htj d0;clear hA hx hy;have hA:=hB;clear hB;obtain⟨r,e,n,gg⟩:=y;unfold okA at hxa;simp only at hxb hxa d0;obtain⟨⟨xe0,xe1⟩,xn0,xn1⟩:=hxa;obtain⟨xr0,xr1⟩:=hxb
       obtain⟨r,rfl⟩:∃k:Nat,r=k:=⟨r.toNat,by omega⟩
       obtain⟨n,rfl⟩:∃k:Nat,n=k:=⟨n.toNat,by omega⟩
       have hr64:r < 18446744073709551616:=by unfold big64 at xr1;omega
       have hn64a:n < 18446744073709551616:=by unfold big64 at xn1;omega
       obtain⟨eN,heNe⟩:∃k:Nat,wrN e=k:=⟨_,rfl⟩
       have heN:eN < 18446744073709551616:=by rw[←heNe];unfold wrN;omega
       have hwe:IntKind.u64.wrap e=(eN:Int):=by rw[←heNe,IntKind.wrap_u64];unfold wrN;omega
       have heNe':=Hd heNe;have hjb:j * 29≤256 * 29:=Nat.mul_le_mul_right _ (by omega);have htold:=ZjN (n:=(num:Int)) (f:=foot) (hA.sep1 (A:=BookP p m ss) sR) n0 n1 hmx hrs'.out hxm;simp only at htold;clear heNe xe0 xe1 hxm;obtain⟨hA,hF⟩:=fZ hA
       go_wp2_with fail
       refine htold.mono ?_;clear htold;rintro e' w5 ⟨rfl,hT⟩;replace hA:=hA.call1 (A:=BookP p m ss) sR hT;clear hF hT;simp only[uA] at hA;obtain⟨hA,hF⟩:=fZ hA
       go_wp2_with (first|((with_reducible refine gal ?_);refine g7 hA ?_;clear hF hA;intro bA w1 hA hbA hF)|((with_reducible refine gst ?_);refine wTz hA ?_;clear hF hA;intro w1 hA hF))
       try go_frame
       have hAd:=hA.drew;clear hF hA;have hA:=hAd;clear hAd;refine wp_region_held (S:=fun w'=>Zaa w' bA [.int .i64 e,.int .u64 (n:Int),.bool gg] 107) hm ?_;change wpAnyH _ _ _ _ _ 13 _ _ (World.drew _)
       generalize World.drew _=w2 at *
       have hS0:=(show Zaa _ bA [.int .i64 e,.int .u64 (n:Int),.bool gg] 107 from hA.get (A:=.cells bA [.int .i64 e,.int .u64 (n:Int),.bool gg] 107) sR)
       refine tZ 0 68 ((.pointer (some ⟨b,0,none⟩))) (r:=(fun w' hS=>by simp[execOp,go_sem,Act.eval,Act.put])) (s:=hS0) (h:= ?_);go_frame;refine tZ 1 69 ((.int .u64 (r:Int))) (r:=(fun w' hS=>by simp[execOp,go_sem,Act.eval,Act.put])) (s:=hS0) (h:= ?_);go_frame;refine tZ 3 71 ((.pointer (some ⟨bA,0,none⟩))) (r:=(fun w' hS=>by kernel_rfl)) (s:=hS0) (h:= ?_);go_frame;refine tZ 4 72 ((.int .i64 e)) (r:=(fun w' hS=>Zab (b:=bA) (j:=0) rfl (by exact rfl) hS (by kernel_rfl) rfl)) (s:=hS0) (h:= ?_);go_frame;refine tZ 5 73 ((.int .u64 (eN:Int))) (r:=(fun w' hS=>by simp[execOp,go_sem,Act.eval,Act.put,hwe])) (s:=hS0) (h:= ?_);go_frame;refine tZ 7 75 ((.pointer (some ⟨bA,1,none⟩))) (r:=(fun w' hS=>by kernel_rfl)) (s:=hS0) (h:= ?_);go_frame;refine tZ 8 76 ((.int .u64 (n:Int))) (r:=(fun w' hS=>Zab (b:=bA) (j:=1) rfl (by exact rfl) hS (by kernel_rfl) rfl)) (s:=hS0) (h:= ?_);go_frame;refine tZ 10 78 ((.pointer (some ⟨bA,2,none⟩))) (r:=(fun w' hS=>by kernel_rfl)) (s:=hS0) (h:= ?_);go_frame;refine tZ 11 79 ((.bool gg)) (r:=(fun w' hS=>Zab (b:=bA) (j:=2) rfl (by exact rfl) hS (by kernel_rfl) rfl)) (s:=hS0) (h:= ?_);go_frame;clear hS0;refine Zac (i:=2) (by kernel_rfl) ?_;refine Zan (i:=2) (d:=some 70) rfl rfl rfl (fn:=142) (args:= #[(.pointer (some ⟨b,0,none⟩)),.int .u64 (r:Int)]) (by simp[execOp,go_sem,Act.eval,Act.put]) ((Zbg (hA.sep2 (A:=outC b u20) (B:=rowY u20 l20) sR sR) r hr64 (by omega)).mono (fun e w' h=>Zay.r h)) ?_;rintro xq zq ⟨rfl,u21,hT⟩;have hB:=hA.call2 (A:=outC b u20) (B:=rowY u20 l20) sR sR hT
       obtain⟨l21,he21⟩:∃z,l20++Zaf r=z:=⟨_,rfl⟩
       have hl21:l21.length≤l20.length + 10:=by have:=Zal 9 r (by omega);rw[←he21,List.length_append];omega
       rw[he21] at hB;have he21':=Hd he21;clear hA hT he21;have hA:=hB;clear hB;simp only[uA] at hA;refine⟨(show Zaa _ bA [.int .i64 e,.int .u64 (n:Int),.bool gg] 107 from hA.get (A:=.cells bA [.int .i64 e,.int .u64 (n:Int),.bool gg] 107) sR),?_⟩;go_frame;refine Zac (i:=6) (by kernel_rfl) ?_;refine Zan (i:=6) (d:=some 74) rfl rfl rfl (fn:=142) (args:= #[(.pointer (some ⟨b,0,none⟩)),.int .u64 (eN:Int)]) (by simp[execOp,go_sem,Act.eval,Act.put]) ((Zbg (hA.sep2 (A:=outC b u21) (B:=rowY u21 l21) sR sR) eN heN (by omega)).mono (fun e w' h=>Zay.r h)) ?_;rintro xq zq ⟨rfl,u22,hT⟩;have hB:=hA.call2 (A:=outC b u21) (B:=rowY u21 l21) sR sR hT
       obtain⟨l22,he22⟩:∃z,l21++Zaf eN=z:=⟨_,rfl⟩
       have hl22:l22.length≤l21.length + 10:=by have:=Zal 9 eN (by omega);rw[←he22,List.length_append];omega
       rw[he22] at hB;have he22':=Hd he22;clear hA hT he22;have hA:=hB;clear hB;simp only[uA] at hA;refine⟨(show Zaa _ bA [.int .i64 e,.int .u64 (n:Int),.bool gg] 107 from hA.get (A:=.cells bA [.int .i64 e,.int .u64 (n:Int),.bool gg] 107) sR),?_⟩;go_frame;refine Zac (i:=9) (by kernel_rfl) ?_;refine Zan (i:=9) (d:=some 77) rfl rfl rfl (fn:=81) (args:= #[(.pointer (some ⟨b,0,none⟩)),.int .u64 (n:Int)]) (by simp[execOp,go_sem,Act.eval,Act.put]) ((ZcS (hA.sep2 (A:=outC b u22) (B:=rowY u22 l22) sR sR) n hn64a (by omega)).mono (fun e w' h=>Zay.r h)) ?_;rintro xq zq ⟨rfl,u23,hT⟩;have hB:=hA.call2 (A:=outC b u22) (B:=rowY u22 l22) sR sR hT
       obtain⟨l23,he23⟩:∃z,l22++fixL n=z:=⟨_,rfl⟩
       have hl23:l23.length≤l22.length + 8:=by have:=(show(fixL n).length≤8 from by simp[fixL]);rw[←he23,List.length_append];omega
       rw[he23] at hB;have he23':=Hd he23;clear hA hT he23;have hA:=hB;clear hB;simp only[uA] at hA;refine⟨(show Zaa _ bA [.int .i64 e,.int .u64 (n:Int),.bool gg] 107 from hA.get (A:=.cells bA [.int .i64 e,.int .u64 (n:Int),.bool gg] 107) sR),?_⟩;go_frame;refine Zac (i:=12) (by kernel_rfl) ?_;refine Zan (i:=12) (d:=some 80) rfl rfl rfl (fn:=181) (args:= #[(.pointer (some ⟨b,0,none⟩)),.bool gg]) (by simp[execOp,go_sem,Act.eval,Act.put]) ((ZfG (hA.sep2 (A:=outC b u23) (B:=rowY u23 l23) sR sR) gg (by omega)).mono (fun e w' h=>Zay.r h)) ?_;rintro xq zq ⟨rfl,u24,hT⟩;have hB:=hA.call2 (A:=outC b u23) (B:=rowY u23 l23) sR sR hT
       obtain⟨l24,he24⟩:∃z,l23++[if gg then(1:Int) else 0]=z:=⟨_,rfl⟩
       have hl24:l24.length≤l23.length + 1:=by have:=(show([if gg then(1:Int) else 0]:List Int).length≤1 from Nat.le_refl _);rw[←he24,List.length_append];omega
       rw[he24] at hB;have he24':=Hd he24;clear hA hT he24;have hA:=hB;clear hB;simp only[uA] at hA;refine⟨(show Zaa _ bA [.int .i64 e,.int .u64 (n:Int),.bool gg] 107 from hA.get (A:=.cells bA [.int .i64 e,.int .u64 (n:Int),.bool gg] 107) sR),?_⟩;go_frame;refine wpAnyH_done (by kernel_rfl) ?_ _
       try go_frame
       obtain⟨hA,hF⟩:=fZ hA
       go_wp2_with fail
       go_roundg (gk - 1)
       case measure=>omega
       case rel=>
        have hS:=hA.row_shut (e:=23) (size:=1) (n:=told.length) (cap:=qcap) (xs:=(told.map (·.r)).flatMap Unt.seL) (g:=gq) (c:=cq) sR ql qp1 qm qt;refine⟨j + 1,u24,l24,by simp,by omega,?_,by omega,hS.pick pZ⟩;rw[htj.out,←he24'.out,←he23'.out,←he22'.out,←he21'.out,hje'.out];simp only[List.flatMap_append,List.flatMap_cons,List.flatMap_nil,List.append_nil,encA,bB,heNe'.out,Int.toNat_natCast,List.append_assoc]
     have hjt:told.take j=told:=List.take_of_length_le (by omega);have hje2:=hje'.out;rw[hjt] at hje2;have hje3:=Hd hje2;clear hje2 hjt hje';obtain⟨hA,hF⟩:=fZ hA
     go_wp2_with fail
     go_roundg (L.length - (i + 1))
     case measure=>omega
     case rel=>
      have hS:=hA.row_shut (e:=25) (size:=2) (n:=L.length) (cap:=lcap) (xs:=(L.map keyR).flatMap seL) (g:=g) (c:=c) sR cl cp1 cm ct;refine⟨i + 1,u20,l20,by simp,by omega,?_,by omega,hS.pick pZ⟩;rw[hje3.out,htk.out,←he7'.out,←he6'.out,←he5'.out,←he4'.out,←he3'.out,←he2'.out,←he1'.out,hle'.out];simp only[List.flatMap_append,List.flatMap_cons,List.flatMap_nil,List.append_nil,encS,bB,Int.toNat_natCast,List.append_assoc]
  have hle2:=hle'.out;rw[List.take_of_length_le (by omega)] at hle2;obtain⟨hA,hF⟩:=fZ hA
  go_wp2_with fail
  first|go_ret|go_end0
  refine⟨rfl,u0,?_⟩;have hE:=hA.pick (K:=[BookP p m ss,outC b u0,rowY u0 l0]) pZ;rw[hle2,List.append_assoc] at hE;exact hE
end Lease
end
section
namespace Path
open Go.Lib (compareBytes)
abbrev Bs:=List UInt8
def letB (c:UInt8):Bool:=(decide (97≤c.toNat)&&decide (c.toNat≤122)) || (decide (48≤c.toNat)&&decide (c.toNat≤57)) || decide (c.toNat=45) || decide (c.toNat=95)
def partB (p:Bs):Bool:= !p.isEmpty&&p.all letB
def Zae:Bs→List Bs
 |[]=>[[]]
 |c::r=>if c=47 then[]::Zae r else((c::(Zae r).headD [])::(Zae r).tail)
def joinS (l:List Bs):Bs:=Lib.join l [47]
def Zad (s:Bs):Bool:=(Zae s).all partB&&decide ((Zae s).length≤8)&&decide (s.length≤64)
def stepW (acc:List Bs) (p:Bs):Option (List Bs):=
 if p=[]∨p=[46] then some acc else if p=[46,46] then(if acc=[] then none else some acc.dropLast) else if p.all letB=true then some (acc++[p]) else none
def walkL:List Bs→List Bs→Option (List Bs)
 |acc,[]=>some acc
 |acc,p::ps=>match stepW acc p with
  |none=>none
  |some a=>walkL a ps
def normL (s:Bs):Bs × Int:=match walkL [] (Zae s) with
 |none=>([],30)
 |some l=>if l=[] then([],13) else if 8 < l.length then([],31) else if 64 < (joinS l).length then([],11) else(joinS l,0)
def ZbC (s:Bs):List Bs:=if Zad s=true then Zae s else[]
def Zaw (p q:Bs):Bool:=Zad p&&Zad q&&(decide (p=q) || (p++[47]).isPrefixOf q)
def overB (p q:Bs):Bool:=Zaw p q || Zaw q p
theorem Za2 (c:UInt8) (r:Bs):Zae (c::r)=if c=47 then[]::Zae r else((c::(Zae r).headD [])::(Zae r).tail):=rfl
theorem ZbN (s:Bs):Zae s≠[]:=by
 cases s with
 |nil=>simp[Zae]
 |cons c r=>rw[Za2];split<;>simp
theorem ZbO (s:Bs):1≤(Zae s).length:=by have:=ZbN s;cases h:Zae s<;>simp_all
theorem ZcU (p:Bs) (l:List Bs) (h:l≠[]):joinS (p::l)=p++47::joinS l:=by
 cases l with
 |nil=>exact absurd rfl h
 |cons q r=>simp[joinS,Lib.join,List.intercalate,List.intersperse]
theorem join_one (p:Bs):joinS [p]=p:=by simp[joinS,Lib.join_one]
theorem ZbD:∀s:Bs,joinS (Zae s)=s
 |[]=>by simp[Zae,join_one]
 |c::r=>by
  have ih:=ZbD r;rw[Za2]
  split
  · rename_i h;subst h
    rw[ZcU _ _ (ZbN r),ih];rfl
  cases h:Zae r with
  |nil=>exact absurd h (ZbN r)
  |cons p ps=>
   rw[h] at ih;simp only[List.headD_cons,List.tail_cons]
   cases ps with
   |nil=>rw[join_one] at ih ⊢;rw[ih]
   |cons q qs=>
    rw[ZcU _ _ (by simp)] at ih ⊢;rw[List.cons_append,ih]
theorem ZbL:∀p:Bs,(∀c ∈ p,c≠47)→Zae p=[p]
 |[],_=>rfl
 |c::r,h=>by
  have ih:=ZbL r (fun x hx=>h x (by simp[hx]));rw[Za2];rw[if_neg (h c (by simp)),ih];rfl
theorem Zc9:∀(p r:Bs),(∀c ∈ p,c≠47)→Zae (p++47::r)=p::Zae r
 |[],r,_=>by simp[Zae]
 |c::p,r,h=>by
  have ih:=Zc9 p r (fun x hx=>h x (by simp[hx]));rw[List.cons_append];rw[Za2];rw[if_neg (h c (by simp)),ih];rfl
theorem Zd3:∀(l:List Bs),l≠[]→(∀p ∈ l,∀c ∈ p,c≠47)→Zae (joinS l)=l
 |[],h,_=>absurd rfl h
 |[p],_,h=>by rw[join_one];exact ZbL p (h p (by simp))
 |p::q::r,_,h=>by
  rw[ZcU _ _ (by simp),Zc9 _ _ (h p (by simp)),Zd3 (q::r) (by simp) (fun x hx=>h x (by simp[hx]))]
theorem ZhI {c:UInt8} (h:letB c=true):c≠47:=by
 intro e;subst e;simp[letB] at h
theorem ZeM {s t:Bs} (h:Zae s=Zae t):s=t:=by rw[←ZbD s,h,ZbD]
theorem ZcQ {p:Bs}:partB p=true↔p≠[]∧p.all letB=true:=by
 unfold partB;cases p<;>simp
theorem Zgl {acc:List Bs} {p:Bs} (h:partB p=true):stepW acc p=some (acc++[p]):=by
 obtain⟨h1,h2⟩:=ZcQ.1 h;unfold stepW;rw[if_neg,if_neg,if_pos h2]
 · intro e;subst e;simp[letB] at h2
 rintro(e|e)
 · exact h1 e
 subst e;simp[letB] at h2
theorem ZeH:∀(l acc:List Bs),(∀p ∈ l,partB p=true)→walkL acc l=some (acc++l)
 |[],acc,_=>by simp[walkL]
 |p::r,acc,h=>by
  rw[walkL,Zgl (h p (by simp))];simp only;rw[ZeH r _ (fun x hx=>h x (by simp[hx]))]
  simp
theorem Zjb {acc a:List Bs} {p:Bs} (h:stepW acc p=some a) (hacc:∀q ∈ acc,partB q=true):∀q ∈ a,partB q=true:=by
 unfold stepW at h
 split at h
 · cases h;exact hacc
 split at h
 · split at h
   · cases h
   cases h;exact fun q hq=>hacc q (List.dropLast_subset _ hq)
 split at h
 · cases h
   rename_i h1 h2 h3
   intro q hq
   rcases List.mem_append.1 hq with hq|hq
   · exact hacc q hq
   rw[List.mem_singleton.1 hq,ZcQ]
   exact⟨fun e=>h1 (.inl e),h3⟩
 cases h
theorem ZeI:∀{l acc a:List Bs},walkL acc l=some a→(∀q ∈ acc,partB q=true)→∀q ∈ a,partB q=true
 |[],acc,a,h,hacc=>by simp[walkL] at h;subst h;exact hacc
 |p::r,acc,a,h,hacc=>by
  rw[walkL] at h
  cases hs:stepW acc p with
  |none=>simp[hs] at h
  |some b=>simp only[hs] at h;exact ZeI h (Zjb hs hacc)
theorem Zkh {p:Bs} (h:partB p=true):∀c ∈ p,c≠47:=fun c hc=>ZhI (List.all_eq_true.1 (ZcQ.1 h).2 c hc)
theorem Zji (s:Bs):((normL s).2=0∧(normL s).1=s)↔Zad s=true:=by
 constructor
 · rintro⟨h1,h2⟩
   unfold normL at h1 h2
   cases hw:walkL [] (Zae s) with
   |none=>simp[hw] at h1
   |some l=>
    simp only[hw] at h1 h2
    by_cases e1:l=[]
    · simp[e1] at h1
    rw[if_neg e1] at h1 h2
    by_cases e2:8 < l.length
    · simp[e2] at h1
    rw[if_neg e2] at h1 h2
    by_cases e3:64 < (joinS l).length
    · simp[e3] at h1
    rw[if_neg e3] at h1 h2;simp only at h2;have hp:=ZeI hw (by simp)
    have hs:Zae s=l:=by rw[←h2];exact Zd3 l e1 (fun p hp'=>Zkh (hp p hp'))
    unfold Zad;rw[hs];simp only[Bool.and_eq_true,decide_eq_true_eq,List.all_eq_true];rw[h2] at e3;exact⟨⟨hp,by omega⟩,by omega⟩
 intro h;unfold Zad at h;simp only[Bool.and_eq_true,decide_eq_true_eq,List.all_eq_true] at h;obtain⟨⟨h1,h2⟩,h3⟩:=h;have hw:=ZeH (Zae s) [] h1;unfold normL;rw[hw];simp only[List.nil_append];rw[if_neg (ZbN s),if_neg (by omega),ZbD,if_neg (by omega)];exact⟨rfl,rfl⟩
theorem ZgA {p:Bs} (h:Zad p=true):overB p p=true:=by simp[overB,Zaw,h]
def cmpL:List Bs→List Bs→Int
 |[],[]=>0
 |[],_::_=> -1
 |_::_,[]=>1
 |a::r,b::t=>if compareBytes a b=0 then cmpL r t else compareBytes a b
def cmpP (p q:Bs):Int:=if Zad p=true∧Zad q=true then cmpL (Zae p) (Zae q) else compareBytes p q
theorem u8_eq {x y:UInt8} (h1:¬x < y) (h2:¬y < x):x=y:=by
 apply UInt8.toNat_inj.1
 have a1:¬x.toNat < y.toNat:=fun q=>h1 (UInt8.lt_iff_toNat_lt.2 q)
 have a2:¬y.toNat < x.toNat:=fun q=>h2 (UInt8.lt_iff_toNat_lt.2 q)
 omega
theorem cb_eq:∀{a b:Bs},compareBytes a b=0→a=b
 |[],[],_=>rfl
 |[],_::_,h=>by simp[compareBytes] at h
 |_::_,[],h=>by simp[compareBytes] at h
 |x::a,y::b,h=>by
  rw[compareBytes] at h
  by_cases h1:x < y
  · simp[h1] at h
  by_cases h2:y < x
  · simp[h1,h2] at h
  rw[if_neg h1,if_neg h2] at h
  have:x=y:=u8_eq h1 h2;rw[this,cb_eq h]
theorem ZhW:∀a:Bs,compareBytes a a=0
 |[]=>rfl
 |x::a=>by
  rw[compareBytes,if_neg (fun q=>by have:=UInt8.lt_iff_toNat_lt.1 q;omega),if_neg (fun q=>by have:=UInt8.lt_iff_toNat_lt.1 q;omega),ZhW a]
theorem ZhY:∀a b:Bs,compareBytes a b= - compareBytes b a
 |[],[]=>rfl
 |[],_::_=>rfl
 |_::_,[]=>rfl
 |x::a,y::b=>by
  rw[compareBytes,compareBytes,ZhY a b]
  by_cases h1:x < y
  · have h2:¬y < x:=fun q=>by have:=UInt8.lt_iff_toNat_lt.1 q;have:=UInt8.lt_iff_toNat_lt.1 h1;omega
    simp[h1,h2]
  by_cases h2:y < x<;>simp[h1,h2]
theorem cb_three (a b:Bs):compareBytes a b= -1∨compareBytes a b=0∨compareBytes a b=1:=by
 induction a generalizing b with
 |nil=>cases b<;>simp[compareBytes]
 |cons x a ih=>
  cases b with
  |nil=>simp[compareBytes]
  |cons y b=>
   rw[compareBytes]
   split
   · simp
   split
   · simp
   exact ih b
theorem cb_trans:∀{a b c:Bs},compareBytes a b < 0→compareBytes b c < 0→compareBytes a c < 0
 |[],_::_,_::_,_,_=>by simp[compareBytes]
 |[],[],_,h,_=>by simp[compareBytes] at h
 |_::_,[],_,h,_=>by simp[compareBytes] at h
 |_,_::_,[],_,h=>by simp[compareBytes] at h
 |x::a,y::b,z::c,h1,h2=>by
  rw[compareBytes] at h1 h2 ⊢
  by_cases q1:x < y
  · by_cases q2:y < z
    · have:x < z:=UInt8.lt_iff_toNat_lt.2 (by have:=UInt8.lt_iff_toNat_lt.1 q1;have:=UInt8.lt_iff_toNat_lt.1 q2;omega)
      simp[this]
    by_cases q3:z < y
    · simp[q2,q3] at h2
    have:y=z:=u8_eq q2 q3
    subst this;simp[q1]
  by_cases q4:y < x
  · simp[q1,q4] at h1
  have:x=y:=u8_eq q1 q4
  subst this;rw[if_neg q1,if_neg q1] at h1
  by_cases q2:x < z
  · simp[q2]
  by_cases q3:z < x
  · simp[q2,q3] at h2
  rw[if_neg q2,if_neg q3] at h2 ⊢;exact cb_trans h1 h2
theorem cl_eq:∀{a b:List Bs},cmpL a b=0→a=b
 |[],[],_=>rfl
 |[],_::_,h=>by simp[cmpL] at h
 |_::_,[],h=>by simp[cmpL] at h
 |x::a,y::b,h=>by
  rw[cmpL] at h
  by_cases h1:compareBytes x y=0
  · rw[if_pos h1] at h
    rw[cb_eq h1,cl_eq h]
  rw[if_neg h1] at h;exact absurd h h1
theorem Zb3:∀a:List Bs,cmpL a a=0
 |[]=>rfl
 |x::a=>by rw[cmpL,if_pos (ZhW x),Zb3 a]
theorem ZhV:∀a b:List Bs,cmpL a b= - cmpL b a
 |[],[]=>rfl
 |[],_::_=>rfl
 |_::_,[]=>rfl
 |x::a,y::b=>by
  rw[cmpL,cmpL,ZhV a b,ZhY x y]
  by_cases h:compareBytes y x=0<;>simp[h]
theorem Zc3:∀{a b c:List Bs},cmpL a b < 0→cmpL b c < 0→cmpL a c < 0
 |[],_::_,_::_,_,_=>by simp[cmpL]
 |[],[],_,h,_=>by simp[cmpL] at h
 |_::_,[],_,h,_=>by simp[cmpL] at h
 |_,_::_,[],_,h=>by simp[cmpL] at h
 |x::a,y::b,z::c,h1,h2=>by
  rw[cmpL] at h1 h2 ⊢
  by_cases q1:compareBytes x y=0
  · have:=cb_eq q1
    subst this;rw[if_pos q1] at h1
    by_cases q2:compareBytes x z=0
    · rw[if_pos q2] at h2 ⊢
      exact Zc3 h1 h2
    rw[if_neg q2] at h2 ⊢;exact h2
  rw[if_neg q1] at h1
  by_cases q2:compareBytes y z=0
  · have:=cb_eq q2
    subst this;rw[if_neg q1];exact h1
  rw[if_neg q2] at h2;have h3:=cb_trans h1 h2;rw[if_neg (by omega)];exact h3
end Path
end
end Go.Proofs.YtkdjkngfnapjcaaGreatDoor
