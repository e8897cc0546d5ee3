/- LockPu, TabW, TabH, TabI, RegJ, TabQa, Grow, joined. -/
import Derived.Test.YtkdjkngfnapjcaaGreatDoorQ22
import Derived.Test.YtkdjkngfnapjcaaGreatDoorQ9
import Derived.Test.YtkdjkngfnapjcaaGreatDoorQ19
import Derived.Test.YtkdjkngfnapjcaaGreatDoorQ10
import Derived.Test.YtkdjkngfnapjcaaGreatDoorQ18
import Derived.Test.YtkdjkngfnapjcaaGreatDoorQ21
import Derived.Test.YtkdjkngfnapjcaaGreatDoorQ1
import Derived.Test.YtkdjkngfnapjcaaGreatDoorQ15
import Derived.Test.YtkdjkngfnapjcaaGreatDoorQ3
import Derived.Lib.QuietBelow
import Derived.Sort.Grow
set_option linter.unusedSimpArgs false
set_option linter.unusedVariables false
set_option maxRecDepth 100000
set_option maxHeartbeats 16000000
namespace Go.Proofs.YtkdjkngfnapjcaaGreatDoor
section
namespace Lock
open Go.RowKit Go.Shelf
open _root_.Go.Proofs.YtkdjkngfnapjcaaGreatDoor.Wire
open _root_.Go.Proofs.YtkdjkngfnapjcaaGreatDoor.Txt (ltP)
open Path (bl Zad)
attribute [-go_sem] run_eql_struct run_neq_struct run_eqGuard_agg
theorem Zay.r {w w':World} {b:Nat} {u:Value} {l m:List Int} {e:Ending} (h:Zay w b u l m e w'):∃x,e=.returned x∧(x=.pointer (some ⟨b,0,none⟩)∧∃u',At [outC b u,rowY u l] w [outC b u',rowY u' (l++m)] w'):=by
 obtain⟨u',rfl,hT⟩:=h;exact⟨_,rfl,rfl,u',hT⟩
def withC (cs:List (ByteArray × Int)) (p:ByteArray):ByteArray × Int:=(p,(ctr cs p).getD 0)
theorem Zdk:∀{cs:List (ByteArray × Int)},cs.Pairwise (fun a b=>a.1≠b.1)→∀{c:ByteArray × Int},c ∈ cs→ctr cs c.1=some c.2
 |d::cs,hk,c,hc=>by
  have h1:=List.pairwise_cons.1 hk;unfold ctr;rw[List.find?_cons]
  rcases List.mem_cons.1 hc with rfl|hc
  · simp
  have hne:d.1≠c.1:=h1.1 c hc
  have:=Zdk h1.2 hc;unfold ctr at this
  simpa [hne] using this
theorem Zi8 {cs:List (ByteArray × Int)} (hk:cs.Pairwise (fun a b=>a.1≠b.1)) {l:List ByteArray} (h:l.Perm (cs.map (·.1))):(l.map (withC cs)).Perm cs:=by
 have h1:=h.map (withC cs)
 have e:(cs.map (·.1)).map (withC cs)=cs:=by
  rw[List.map_map]
  conv=>rhs;rw[←List.map_id cs]
  refine List.map_congr_left fun c hc=> ?_
  show(c.1,(ctr cs c.1).getD 0)=c;rw[Zdk hk hc]
  rfl
 rw[e] at h1;exact h1
def ltC (x y:ByteArray × Int):Prop:=ltP x.1 y.1
def Zlf (w:World) (a:Pl) (s:S3) (b:Nat) (u00:Value) (l00:List Int) (e:Ending) (w':World):Prop:=
 ∃(l:List Ent) (m:List (ByteArray × Int)) (u:Value),e=.returned (.tuple #[])∧l.Perm s.es∧l.Pairwise ltE∧m.Perm s.cs∧m.Pairwise ltC∧At [bookS a s,outC b u00,rowY u00 l00] w [bookS a s,outC b u,rowY u (l00++encB l m)] w'
def PuRel (w:World) (a:Pl) (s:S3) (b:Nat) (u0:Value) (l0:List Int) (vl:Value) (L:List Ent) (k:Nat) (x:Value) (wr:World):Prop:=
 ∃(i:Nat) (u:Value) (l:List Int),x=.int .i64 i∧i + k=L.length∧l=l0++Zaf L.length++(L.take i).flatMap encE∧l.length≤l0.length + 10 + i * 2100000∧At [bookS a s,outC b u0,rowY u0 l0] w [rowL vl L,bookS a s,outC b u,rowY u l] wr
def PvRel (w:World) (a:Pl) (s:S3) (b N:Nat) (u0:Value) (l0:List Int) (l7:List Int) (vm:Value) (M:List ByteArray) (k:Nat) (x:Value) (wr:World):Prop:=
 ∃(i:Nat) (u:Value) (l:List Int),x=.int .i64 i∧i + k=M.length∧l=l7++Zaf M.length++((M.map (withC s.cs)).take i).flatMap encC∧l.length≤l7.length + 10 + i * 200∧At [bookS a s,outC b u0,rowY u0 l0] w [Part.row 9 1 vm M.length (M.flatMap Txt.seL),headC a.p a.m a.c s.first,mapC a.m (ents s.es),ctrC a.c (ctrs s.cs),outC b u,rowY u l] wr
theorem seL_len (x:ByteArray):(Txt.seL x).length=1:=rfl
structure Wk (s:S3):Prop where
 so:Sortable s.es
 el:s.es.length≤1000
 cl:s.cs.length≤1000
 ok:∀e ∈ s.es,okW e
 okc:∀c ∈ s.cs,okV c
 ck:s.cs.Pairwise (fun a b=>a.1≠b.1)
 cr:∀c ∈ s.cs,Zad (bl c.1)=true
theorem ZnG {w:World} {a:Pl} {s:S3} (h:Sep [bookS a s] w) (hW:Wk s):Calls Tryz.prog 46 #[.pointer (some ⟨a.p,0,none⟩)] w (Zlj w a s):=
 ZiD (b:=a.at s) h hW.so (by have h1:s.es.length≤1000:=hW.el;show s.es.length≤1000000;omega) (fun x hx=>by have:=(hW.ok x hx).pb;omega)
theorem Inv.wk {s:S3} {k:Nat} (h:Inv s k) (hf:Feet s) (hk:k≤1000):Wk s:=⟨h.sortable,by have:=h.len;omega,by have:=h.clen;omega,h.okW hf hk,h.okV,h.ckeys,h.cright⟩
theorem ZmY {w:World} {a:Pl} {s:S3} {b:Nat} {u00:Value} {l00:List Int} (h:Sep [bookS a s,outC b u00,rowY u00 l00] w) (hW:Wk s) (hl0:l00.length≤100000000000):
 Calls Tryz.prog 131 #[.pointer (some ⟨a.p,0,none⟩),.pointer (some ⟨b,0,none⟩)] w (Zlf w a s b u00 l00):=by
 have hm:Tryz.prog.follows .mixedOrders=true:=by kernel_rfl
 have hA:=At.start h;have hF:=hA.facts;clear h;have hI':=Hd hW;have hok:=Hd hW.ok;have hokC:=Hd hW.okc;have hel:s.es.length≤1000:=hW.el;have hcl0:s.cs.length≤1000:=hW.cl;clear hW;obtain⟨hA,hF⟩:=fZ hA
 go_enter Tryz.func131,Tryz.ntmps131
 go_wp2_with fail
 refine(ZnG (hA.sep1 (A:=bookS a s) sR) hI'.out).mono ?_;rintro e w1 ⟨vl,L,rfl,hperm,hpw,hT⟩;have hB:=hA.call1 (A:=bookS a s) sR hT
 have hLl:L.length≤1000:=by rw[hperm.length_eq];exact hel
 have hLm:=Hd (fun x=>(hperm.mem_iff (a:=x)).1);have hperm':=Hd hperm;have hpw':=Hd hpw;clear hF hA hT hperm hpw;have hA:=hB;clear hB;simp only[uA] at hA;obtain⟨lx,lcap,rfl,hlx,hlcap,_⟩:=hA.row_form (v:=vl) (n:=L.length) (xs:=L.flatMap Ent.cells) sR
 have hwL:IntKind.u64.wrap (L.length:Int)=(L.length:Int):=by rw[IntKind.wrap_u64];omega
 obtain⟨hA,hF⟩:=fZ hA
 go_wp2_with fail
 refine(Zbg (hA.sep2 (A:=outC b u00) (B:=rowY u00 l00) sR sR) L.length (by omega) (by omega)).mono ?_;rintro e w2 ⟨u1,rfl,hT⟩;have hB:=hA.call2 (A:=outC b u00) (B:=rowY u00 l00) sR sR hT;have hsl:=Zal 9 L.length (by omega);clear hF hA hT;have hA:=hB;clear hB;simp only[uA] at hA;obtain⟨hA,hF⟩:=fZ hA
 go_wp2_with fail
 try go_frame
 go_loopg [19] L.length (PuRel w a s b u00 l00 (.slice lx L.length lcap) L)
 case atStart=>exact⟨0,u1,l00++Zaf L.length,rfl,by simp,by simp,by rw[List.length_append];omega,hA.pick pZ⟩
 case round=>
  obtain⟨i,u0,l0,rfl,hik,hle,hll,hB⟩:=hrel;have hle':=Hd hle;clear hF hA hle hsl;have hA:=hB;clear hB
  by_cases hi:i < L.length
  · have hmem:=hLm.out _ (List.getElem_mem hi)
    obtain⟨⟨n0,n1,k0,k1,s0⟩,hpb,hfz,hsb,hmo⟩:=hok.out _ hmem;have htk:=Hd (List.take_succ_eq_append_getElem hi);obtain⟨g,c,rfl,cp1,cm,cl,ct,hB⟩:=hA.row_open (ax:=lx) (cap:=lcap) (n:=L.length) (xs:=L.flatMap Ent.cells) sR (by omega);have hx:L[i]? =some L[i]:=List.getElem?_eq_getElem hi;have hct:=ct
    (have c0:c[i * 6]? =some (.string L[i].path):=Za7 Ent.cells_len hct hx 0 (by omega));(have c1:c[i * 6 + 1]? =some (.int .u64 L[i].num):=Za7 Ent.cells_len hct hx 1 (by omega));(have c2:c[i * 6 + 2]? =some (.string L[i].foot):=Za7 Ent.cells_len hct hx 2 (by omega));(have c3:c[i * 6 + 3]? =some (.int .i64 L[i].mode):=Za7 Ent.cells_len hct hx 3 (by omega));(have c4:c[i * 6 + 4]? =some (.int .u64 L[i].n):=Za7 Ent.cells_len hct hx 4 (by omega));(have c5:c[i * 6 + 5]? =some (.int .i64 L[i].stamp):=Za7 Ent.cells_len hct hx 5 (by omega))
    obtain⟨x,hs⟩:∃x,L[i]=x:=⟨_,rfl⟩
    rw[hs] at htk c0 c1 c2 c3 c4 c5 n0 n1 k0 k1 s0 hpb hfz hsb hmo;clear hA hx hs hmem hct;have hA:=hB;clear hB;obtain⟨path,num,foot,mode,n,stamp⟩:=x;simp only at c0 c1 c2 c3 c4 c5 n0 n1 k0 k1 s0 hpb hfz hsb hmo
    obtain⟨num,rfl⟩:∃k:Nat,num=k:=⟨num.toNat,by omega⟩
    obtain⟨n,rfl⟩:∃k:Nat,n=k:=⟨n.toNat,by omega⟩
    obtain⟨stamp,rfl⟩:∃k:Nat,stamp=k:=⟨stamp.toNat,by omega⟩
    have hn64:num < 18446744073709551616:=by omega
    have hk64:n < 18446744073709551616:=by omega
    have hwm:IntKind.u8.wrap mode=mode:=by rcases hmo with rfl|rfl<;>rfl
    have hws:IntKind.u64.wrap (stamp:Int)=(stamp:Int):=by rw[IntKind.wrap_u64];omega
    have hft:=Zbs foot (by omega);have hpt:=Zbs path (by omega);have hib:i * 2100000≤1000 * 2100000:=Nat.mul_le_mul_right _ (by omega);clear hmo;obtain⟨hA,hF⟩:=fZ hA
    go_wp2_with (first|((with_reducible refine gal ?_);refine g8 hA ?_;clear hF hA;intro bE w1 hA hbE hF)|((with_reducible refine gst ?_);refine wTz hA ?_;clear hF hA;intro w1 hA hF)|((with_reducible refine gbx ?_);refine wCz hA ?_;clear hF hA;intro b1 w1 hA hb1 hF))
    try go_frame
    have hAd:=hA.drew;clear hF hA;have hA:=hAd;clear hAd;refine wp_region_held (S:=fun w'=>Zaa w' bE [.string path,.int .u64 (num:Int),.string foot,.int .i64 mode,.int .u64 (n:Int),.int .i64 (stamp:Int)] 97) hm ?_;change wpAnyH _ _ _ _ _ 23 _ _ (World.drew _)
    generalize World.drew _=w2 at *
    have hS0:=(show Zaa _ bE [.string path,.int .u64 (num:Int),.string foot,.int .i64 mode,.int .u64 (n:Int),.int .i64 (stamp:Int)] 97 from hA.get (A:=.cells bE [.string path,.int .u64 (num:Int),.string foot,.int .i64 mode,.int .u64 (n:Int),.int .i64 (stamp:Int)] 97) sR)
    refine tZ 0 23 ((.pointer (some ⟨b,0,none⟩))) (r:=(fun w' hS=>by simp[execOp,go_sem,Act.eval,Act.put])) (s:=hS0) (h:= ?_);go_frame;refine tZ 1 24 ((.pointer (some ⟨bE,0,none⟩))) (r:=(fun w' hS=>by kernel_rfl)) (s:=hS0) (h:= ?_);go_frame;refine tZ 2 25 ((.string path)) (r:=(fun w' hS=>Zab (b:=bE) (j:=0) rfl (by exact rfl) hS (by kernel_rfl) rfl)) (s:=hS0) (h:= ?_);go_frame;refine tZ 4 27 ((.pointer (some ⟨bE,1,none⟩))) (r:=(fun w' hS=>by kernel_rfl)) (s:=hS0) (h:= ?_);go_frame;refine tZ 5 28 ((.pointer (some ⟨bE,1,none⟩))) (r:=(fun w' hS=>by kernel_rfl)) (s:=hS0) (h:= ?_);go_frame;refine tZ 6 29 ((.int .u64 (num:Int))) (r:=(fun w' hS=>Zab (b:=bE) (j:=1) rfl (by exact rfl) hS (by kernel_rfl) rfl)) (s:=hS0) (h:= ?_);go_frame;refine tZ 8 31 ((.pointer (some ⟨bE,1,none⟩))) (r:=(fun w' hS=>by kernel_rfl)) (s:=hS0) (h:= ?_);go_frame;refine tZ 9 32 ((.pointer (some ⟨bE,2,none⟩))) (r:=(fun w' hS=>by kernel_rfl)) (s:=hS0) (h:= ?_);go_frame;refine tZ 10 33 ((.string foot)) (r:=(fun w' hS=>Zab (b:=bE) (j:=2) rfl (by exact rfl) hS (by kernel_rfl) rfl)) (s:=hS0) (h:= ?_);go_frame;refine tZ 12 35 ((.pointer (some ⟨bE,3,none⟩))) (r:=(fun w' hS=>by kernel_rfl)) (s:=hS0) (h:= ?_);go_frame;refine tZ 13 36 ((.int .i64 mode)) (r:=(fun w' hS=>Zab (b:=bE) (j:=3) rfl (by exact rfl) hS (by kernel_rfl) rfl)) (s:=hS0) (h:= ?_);go_frame;refine tZ 14 37 ((.int .u8 mode)) (r:=(fun w' hS=>by simp[execOp,go_sem,Act.eval,Act.put,hwm])) (s:=hS0) (h:= ?_);go_frame;refine tZ 16 39 ((.pointer (some ⟨bE,4,none⟩))) (r:=(fun w' hS=>by kernel_rfl)) (s:=hS0) (h:= ?_);go_frame;refine tZ 17 40 ((.int .u64 (n:Int))) (r:=(fun w' hS=>Zab (b:=bE) (j:=4) rfl (by exact rfl) hS (by kernel_rfl) rfl)) (s:=hS0) (h:= ?_);go_frame;refine tZ 19 42 ((.pointer (some ⟨bE,5,none⟩))) (r:=(fun w' hS=>by kernel_rfl)) (s:=hS0) (h:= ?_);go_frame;refine tZ 20 43 ((.int .i64 (stamp:Int))) (r:=(fun w' hS=>Zab (b:=bE) (j:=5) rfl (by exact rfl) hS (by kernel_rfl) rfl)) (s:=hS0) (h:= ?_);go_frame;refine tZ 21 44 ((.int .u64 (stamp:Int))) (r:=(fun w' hS=>by simp[execOp,go_sem,Act.eval,Act.put,hws])) (s:=hS0) (h:= ?_);go_frame;clear hS0;refine Zac (i:=3) (by kernel_rfl) ?_;refine Zan (i:=3) (d:=some 26) rfl rfl rfl (fn:=80) (args:= #[(.pointer (some ⟨b,0,none⟩)),.string path]) (by simp[execOp,go_sem,Act.eval,Act.put]) ((ZfH (hA.sep2 (A:=outC b u0) (B:=rowY u0 l0) sR sR) path (by omega) (by omega)).mono (fun e w' h=>Zay.r h)) ?_;rintro xq zq ⟨rfl,u1,hT⟩;have hB:=hA.call2 (A:=outC b u0) (B:=rowY u0 l0) sR sR hT
    obtain⟨l1,he1⟩:∃z,l0++textB path=z:=⟨_,rfl⟩
    have hl1:l1.length≤l0.length + (10 + path.size):=by have:=hpt;rw[←he1,List.length_append];omega
    rw[he1] at hB;have he1':=Hd he1;clear hA hT he1;have hA:=hB;clear hB;simp only[uA] at hA;refine⟨(show Zaa _ bE [.string path,.int .u64 (num:Int),.string foot,.int .i64 mode,.int .u64 (n:Int),.int .i64 (stamp:Int)] 97 from hA.get (A:=.cells bE [.string path,.int .u64 (num:Int),.string foot,.int .i64 mode,.int .u64 (n:Int),.int .i64 (stamp:Int)] 97) sR),?_⟩;go_frame;refine Zac (i:=7) (by kernel_rfl) ?_;refine Zan (i:=7) (d:=some 30) rfl rfl rfl (fn:=81) (args:= #[(.pointer (some ⟨b,0,none⟩)),.int .u64 (num:Int)]) (by simp[execOp,go_sem,Act.eval,Act.put]) ((ZcS (hA.sep2 (A:=outC b u1) (B:=rowY u1 l1) sR sR) num hn64 (by omega)).mono (fun e w' h=>Zay.r h)) ?_;rintro xq zq ⟨rfl,u2,hT⟩;have hB:=hA.call2 (A:=outC b u1) (B:=rowY u1 l1) sR sR hT
    obtain⟨l2,he2⟩:∃z,l1++fixL num=z:=⟨_,rfl⟩
    have hl2:l2.length≤l1.length + 8:=by have:=(show(fixL num).length≤8 from by simp[fixL]);rw[←he2,List.length_append];omega
    rw[he2] at hB;have he2':=Hd he2;clear hA hT he2;have hA:=hB;clear hB;simp only[uA] at hA;refine⟨(show Zaa _ bE [.string path,.int .u64 (num:Int),.string foot,.int .i64 mode,.int .u64 (n:Int),.int .i64 (stamp:Int)] 97 from hA.get (A:=.cells bE [.string path,.int .u64 (num:Int),.string foot,.int .i64 mode,.int .u64 (n:Int),.int .i64 (stamp:Int)] 97) sR),?_⟩;go_frame;refine Zac (i:=11) (by kernel_rfl) ?_;refine Zan (i:=11) (d:=some 34) rfl rfl rfl (fn:=80) (args:= #[(.pointer (some ⟨b,0,none⟩)),.string foot]) (by simp[execOp,go_sem,Act.eval,Act.put]) ((ZfH (hA.sep2 (A:=outC b u2) (B:=rowY u2 l2) sR sR) foot (by omega) (by omega)).mono (fun e w' h=>Zay.r h)) ?_;rintro xq zq ⟨rfl,u3,hT⟩;have hB:=hA.call2 (A:=outC b u2) (B:=rowY u2 l2) sR sR hT
    obtain⟨l3,he3⟩:∃z,l2++textB foot=z:=⟨_,rfl⟩
    have hl3:l3.length≤l2.length + (10 + foot.size):=by have:=hft;rw[←he3,List.length_append];omega
    rw[he3] at hB;have he3':=Hd he3;clear hA hT he3;have hA:=hB;clear hB;simp only[uA] at hA;refine⟨(show Zaa _ bE [.string path,.int .u64 (num:Int),.string foot,.int .i64 mode,.int .u64 (n:Int),.int .i64 (stamp:Int)] 97 from hA.get (A:=.cells bE [.string path,.int .u64 (num:Int),.string foot,.int .i64 mode,.int .u64 (n:Int),.int .i64 (stamp:Int)] 97) sR),?_⟩;go_frame;refine Zac (i:=15) (by kernel_rfl) ?_;refine Zan (i:=15) (d:=some 38) rfl rfl rfl (fn:=183) (args:= #[(.pointer (some ⟨b,0,none⟩)),.int .u8 mode]) (by simp[execOp,go_sem,Act.eval,Act.put]) ((ZhE (hA.sep2 (A:=outC b u3) (B:=rowY u3 l3) sR sR) mode (by omega)).mono (fun e w' h=>Zay.r h)) ?_;rintro xq zq ⟨rfl,u4,hT⟩;have hB:=hA.call2 (A:=outC b u3) (B:=rowY u3 l3) sR sR hT
    obtain⟨l4,he4⟩:∃z,l3++[mode]=z:=⟨_,rfl⟩
    have hl4:l4.length≤l3.length + 1:=by have:=(show([mode]:List Int).length≤1 from Nat.le_refl _);rw[←he4,List.length_append];omega
    rw[he4] at hB;have he4':=Hd he4;clear hA hT he4;have hA:=hB;clear hB;simp only[uA] at hA;refine⟨(show Zaa _ bE [.string path,.int .u64 (num:Int),.string foot,.int .i64 mode,.int .u64 (n:Int),.int .i64 (stamp:Int)] 97 from hA.get (A:=.cells bE [.string path,.int .u64 (num:Int),.string foot,.int .i64 mode,.int .u64 (n:Int),.int .i64 (stamp:Int)] 97) sR),?_⟩;go_frame;refine Zac (i:=18) (by kernel_rfl) ?_;refine Zan (i:=18) (d:=some 41) rfl rfl rfl (fn:=81) (args:= #[(.pointer (some ⟨b,0,none⟩)),.int .u64 (n:Int)]) (by simp[execOp,go_sem,Act.eval,Act.put]) ((ZcS (hA.sep2 (A:=outC b u4) (B:=rowY u4 l4) sR sR) n hk64 (by omega)).mono (fun e w' h=>Zay.r h)) ?_;rintro xq zq ⟨rfl,u5,hT⟩;have hB:=hA.call2 (A:=outC b u4) (B:=rowY u4 l4) sR sR hT
    obtain⟨l5,he5⟩:∃z,l4++fixL n=z:=⟨_,rfl⟩
    have hl5:l5.length≤l4.length + 8:=by have:=(show(fixL n).length≤8 from by simp[fixL]);rw[←he5,List.length_append];omega
    rw[he5] at hB;have he5':=Hd he5;clear hA hT he5;have hA:=hB;clear hB;simp only[uA] at hA;refine⟨(show Zaa _ bE [.string path,.int .u64 (num:Int),.string foot,.int .i64 mode,.int .u64 (n:Int),.int .i64 (stamp:Int)] 97 from hA.get (A:=.cells bE [.string path,.int .u64 (num:Int),.string foot,.int .i64 mode,.int .u64 (n:Int),.int .i64 (stamp:Int)] 97) sR),?_⟩;go_frame;refine Zac (i:=22) (by kernel_rfl) ?_;refine Zan (i:=22) (d:=some 45) rfl rfl rfl (fn:=142) (args:= #[(.pointer (some ⟨b,0,none⟩)),.int .u64 (stamp:Int)]) (by simp[execOp,go_sem,Act.eval,Act.put]) ((Zbg (hA.sep2 (A:=outC b u5) (B:=rowY u5 l5) sR sR) stamp (by omega) (by omega)).mono (fun e w' h=>Zay.r h)) ?_;rintro xq zq ⟨rfl,u6,hT⟩;have hB:=hA.call2 (A:=outC b u5) (B:=rowY u5 l5) sR sR hT
    obtain⟨l6,he6⟩:∃z,l5++Zaf stamp=z:=⟨_,rfl⟩
    have hl6:l6.length≤l5.length + 10:=by have:=Zal 9 stamp (by omega);rw[←he6,List.length_append];omega
    rw[he6] at hB;have he6':=Hd he6;clear hA hT he6;have hA:=hB;clear hB;simp only[uA] at hA;refine⟨(show Zaa _ bE [.string path,.int .u64 (num:Int),.string foot,.int .i64 mode,.int .u64 (n:Int),.int .i64 (stamp:Int)] 97 from hA.get (A:=.cells bE [.string path,.int .u64 (num:Int),.string foot,.int .i64 mode,.int .u64 (n:Int),.int .i64 (stamp:Int)] 97) sR),?_⟩;go_frame;refine wpAnyH_done (by kernel_rfl) ?_ _
    try go_frame
    obtain⟨hA,hF⟩:=fZ hA
    go_wp2_with (first|((with_reducible refine gst ?_);refine wTz hA ?_;clear hF hA;intro w1 hA hF)|((with_reducible refine gbx ?_);refine wCz hA ?_;clear hF hA;intro b1 w1 hA hb1 hF))
    go_roundg (gk - 1)
    case measure=>omega
    case rel=>
     have hS:=hA.row_shut (e:=97) (size:=6) (n:=L.length) (cap:=lcap) (xs:=L.flatMap Ent.cells) (g:=g) (c:=c) sR cl cp1 cm ct;refine⟨i + 1,u6,l6,by simp,by omega,?_,by omega,hS.pick pZ⟩;rw[htk.out,←he6'.out,←he5'.out,←he4'.out,←he3'.out,←he2'.out,←he1'.out,hle'.out];simp only[List.flatMap_append,List.flatMap_cons,List.flatMap_nil,List.append_nil,encE,Int.toNat_natCast,List.append_assoc]
  have hle2:=hle'.out;rw[List.take_of_length_le (by omega)] at hle2;have hle3:=Hd hle2
  have hl7:l0.length≤l00.length + 3000000000:=by
   have:i * 2100000≤1000 * 2100000:=Nat.mul_le_mul_right _ (by omega)
   omega
  clear hle2 hle' hll hik;have hB:=open0 hA (b:=a.at s) sR;simp only[Pl.at] at hB;clear hA;have hA:=hB;clear hB;obtain⟨hA,hF⟩:=fZ hA
  go_wp2_with fail
  refine(callsIn_wide.1 (Txt.keys_in Fence.wide 1 trivial rfl (some a.c) wr)).mono ?_;rintro e _ ⟨rfl,rfl⟩;have hB:=hA.alloc [.map (some a.c)] 204;have hnd:(s.cs.map (·.1)).Nodup:=List.pairwise_map.2 hI'.out.ck;have hkm:=Hd (show(ctrs s.cs).map (·.1)=(s.cs.map (·.1)).map Txt.seV from by simp[ctrs,ctrE,Txt.seV])
  go_wp2_with fail
  refine(Txt.sorted_any wr.heap.size a.c (ctrs s.cs) (s.cs.map (·.1)) hkm.out hnd _ (by simp) ((Zaa.alloc wr [.map (some a.c)] 204).cell 0) (hB.get (A:=ctrC a.c (ctrs s.cs)) sR) (by simp;omega)
   (fun k hk=>by obtain⟨c,hc,rfl⟩:=List.mem_map.1 hk;exact hI'.out.cr c hc) (fun k hk=>by obtain⟨c,hc,rfl⟩:=List.mem_map.1 hk;have:=(hI'.out.okc c hc).pb;omega)).mono ?_
  clear hkm;rintro e w4 ⟨vm,M,rfl,hMp,hMw,hown,hbw⟩;have hC:=hB.row_new hbw hown;clear hB hown hbw hA hF;have hA:=hC;clear hC
  have hMl:M.length≤1000:=by rw[hMp.length_eq,List.length_map];exact hcl0
  have hMp':=Hd hMp;have hMw':=Hd hMw;clear hMp hMw hnd;obtain⟨mx,mcap,rfl,hmx,hmcap,_⟩:=hA.row_form (v:=vm) (n:=M.length) (xs:=M.flatMap Txt.seL) sR
  have hwM:IntKind.u64.wrap (M.length:Int)=(M.length:Int):=by rw[IntKind.wrap_u64];omega
  obtain⟨hA,hF⟩:=fZ hA
  go_wp2_with fail
  refine(Zbg (hA.sep2 (A:=outC b u0) (B:=rowY u0 l0) sR sR) M.length (by omega) (by omega)).mono ?_;rintro e w5 ⟨u9,rfl,hT⟩;have hB:=hA.call2 (A:=outC b u0) (B:=rowY u0 l0) sR sR hT;have hsl:=Zal 9 M.length (by omega);clear hF hA hT;have hA:=hB;clear hB;simp only[uA] at hA;obtain⟨hA,hF⟩:=fZ hA
  go_wp2_with fail
  try go_frame
  go_loopg [60] M.length (PvRel w a s b 0 u00 l00 l0 (.slice mx M.length mcap) M)
  case atStart=>exact⟨0,u9,l0++Zaf M.length,rfl,by simp,by simp,by rw[List.length_append];omega,hA.pick pZ⟩
  case round=>
   obtain⟨j,u20,l20,rfl,hjk,hje,hjl,hB⟩:=hrel;have hje':=Hd hje;clear hF hA hje hsl;have hA:=hB;clear hB
   by_cases hj:j < M.length
   · have hjm:j < (M.map (withC s.cs)).length:=by rw[List.length_map];exact hj
     have hpm:M[j] ∈ s.cs.map (·.1):=hMp'.out.mem_iff.1 (List.getElem_mem hj);obtain⟨q,hq,hqp⟩:=List.mem_map.1 hpm;have hcq:=Zdk hI'.out.ck hq;have hoq:=hokC.out q hq;obtain⟨⟨q0,q1⟩,qp⟩:=hoq
     have hgj:(M.map (withC s.cs))[j]=(M[j],q.2):=by rw[List.getElem_map];unfold withC;rw[←hqp,hcq];rfl
     obtain⟨p,n⟩:=q;simp only at hqp hcq q0 q1 qp hgj;obtain⟨g,c,rfl,cp1,cm,cl,ct,hB⟩:=hA.row_open (ax:=mx) (cap:=mcap) (n:=M.length) (xs:=M.flatMap Txt.seL) sR (by omega)
     have c0:c[j]? =some (.string M[j]):=by have:=Za7 seL_len ct (List.getElem?_eq_getElem hj) 0 (by omega);simpa [Txt.seL] using this
     rw[←hqp] at c0 hgj
     obtain⟨n,rfl⟩:∃k:Nat,n=k:=⟨n.toNat,by omega⟩
     have hn64:n < 18446744073709551616:=by omega
     have hmem':=Hd (ZkS hcq);have htj:=Hd (show(M.map (withC s.cs)).take (j + 1)=(M.map (withC s.cs)).take j++[(p,(n:Int))] from by rw[List.take_succ_eq_append_getElem hjm,hgj]);obtain⟨kl,hkl⟩:=keyT (p:=p) (by unfold maxLen;omega);have hpt:=Zbs p (by omega);have hjb:j * 200≤1000 * 200:=Nat.mul_le_mul_right _ (by omega);clear hA hq hqp hcq hgj hpm q0 q1 hjm;have hA:=hB;clear hB;obtain⟨hA,hF⟩:=fZ hA
     go_wp2_with (first|((with_reducible refine gst ?_);refine wTz hA ?_;clear hF hA;intro w1 hA hF)|((with_reducible refine gbx ?_);refine wCz hA ?_;clear hF hA;intro b1 w1 hA hb1 hF))
     try go_frame
     have hAd:=hA.drew;clear hF hA;have hA:=hAd;clear hAd;refine wp_region_held (S:=fun w'=>Zaa w' a.p [.int .u64 s.first,.map (some a.m),.map (some a.c)] 206∧MapAt Tryz.prog 9 w' a.c (ctrs s.cs)) hm ?_;change wpAnyH _ _ _ _ _ 10 _ _ (World.drew _)
     generalize World.drew _=w2 at *
     have hS0:=(show Zaa _ a.p [.int .u64 s.first,.map (some a.m),.map (some a.c)] 206∧MapAt Tryz.prog 9 _ a.c (ctrs s.cs) from⟨hA.get (A:=headC a.p a.m a.c s.first) sR,hA.get (A:=ctrC a.c (ctrs s.cs)) sR⟩)
     refine tZ 0 64 ((.pointer (some ⟨b,0,none⟩))) (r:=(fun w' hS=>by simp[execOp,go_sem,Act.eval,Act.put])) (s:=hS0) (h:= ?_);go_frame;refine tZ 1 65 ((.string p)) (r:=(fun w' hS=>by simp[execOp,go_sem,Act.eval,Act.put])) (s:=hS0) (h:= ?_);go_frame;refine tZ 3 67 ((.pointer (some ⟨a.p,0,none⟩))) (r:=(fun w' hS=>by simp[execOp,go_sem,Act.eval,Act.put])) (s:=hS0) (h:= ?_);go_frame;refine tZ 4 68 ((.pointer (some ⟨a.p,0,none⟩))) (r:=(fun w' hS=>by kernel_rfl)) (s:=hS0) (h:= ?_);go_frame;refine tZ 5 69 ((.pointer (some ⟨a.p,2,none⟩))) (r:=(fun w' hS=>by kernel_rfl)) (s:=hS0) (h:= ?_);go_frame;refine tZ 6 70 ((.map (some a.c))) (r:=(fun w' hS=>Zab (b:=a.p) (j:=2) rfl (by exact rfl) hS.1 (by kernel_rfl) rfl)) (s:=hS0) (h:= ?_);go_frame;refine tZ 7 71 ((.string p)) (r:=(fun w' hS=>by simp[execOp,go_sem,Act.eval,Act.put])) (s:=hS0) (h:= ?_);go_frame;refine tZ 8 72 ((.int .u64 (n:Int))) (r:=(fun w' hS=>by have q:=MapAt.look_some hS.2 lawT Tryz.underlying204 hkl hmem'.out false;simp only[Bool.false_eq_true,if_false] at q;simp[execOp,go_sem,Act.eval,Act.put,q,Result.andThen])) (s:=hS0) (h:= ?_);go_frame;clear hS0;refine Zac (i:=2) (by kernel_rfl) ?_;refine Zan (i:=2) (d:=some 66) rfl rfl rfl (fn:=80) (args:= #[(.pointer (some ⟨b,0,none⟩)),.string p]) (by simp[execOp,go_sem,Act.eval,Act.put]) ((ZfH (hA.sep2 (A:=outC b u20) (B:=rowY u20 l20) sR sR) p (by omega) (by omega)).mono (fun e w' h=>Zay.r h)) ?_;rintro xq zq ⟨rfl,u21,hT⟩;have hB:=hA.call2 (A:=outC b u20) (B:=rowY u20 l20) sR sR hT
     obtain⟨l21,he21⟩:∃z,l20++textB p=z:=⟨_,rfl⟩
     have hl21:l21.length≤l20.length + (10 + p.size):=by have:=hpt;rw[←he21,List.length_append];omega
     rw[he21] at hB;have he21':=Hd he21;clear hA hT he21;have hA:=hB;clear hB;simp only[uA] at hA;refine⟨(show Zaa _ a.p [.int .u64 s.first,.map (some a.m),.map (some a.c)] 206∧MapAt Tryz.prog 9 _ a.c (ctrs s.cs) from⟨hA.get (A:=headC a.p a.m a.c s.first) sR,hA.get (A:=ctrC a.c (ctrs s.cs)) sR⟩),?_⟩;go_frame;refine Zac (i:=9) (by kernel_rfl) ?_;refine Zan (i:=9) (d:=some 73) rfl rfl rfl (fn:=81) (args:= #[(.pointer (some ⟨b,0,none⟩)),.int .u64 (n:Int)]) (by simp[execOp,go_sem,Act.eval,Act.put]) ((ZcS (hA.sep2 (A:=outC b u21) (B:=rowY u21 l21) sR sR) n hn64 (by omega)).mono (fun e w' h=>Zay.r h)) ?_;rintro xq zq ⟨rfl,u22,hT⟩;have hB:=hA.call2 (A:=outC b u21) (B:=rowY u21 l21) sR sR hT
     obtain⟨l22,he22⟩:∃z,l21++fixL n=z:=⟨_,rfl⟩
     have hl22:l22.length≤l21.length + 8:=by have:=(show(fixL n).length≤8 from by simp[fixL]);rw[←he22,List.length_append];omega
     rw[he22] at hB;have he22':=Hd he22;clear hA hT he22;have hA:=hB;clear hB;simp only[uA] at hA;refine⟨(show Zaa _ a.p [.int .u64 s.first,.map (some a.m),.map (some a.c)] 206∧MapAt Tryz.prog 9 _ a.c (ctrs s.cs) from⟨hA.get (A:=headC a.p a.m a.c s.first) sR,hA.get (A:=ctrC a.c (ctrs s.cs)) sR⟩),?_⟩;go_frame;refine wpAnyH_done (by kernel_rfl) ?_ _
     try go_frame
     obtain⟨hA,hF⟩:=fZ hA
     go_wp2_with (first|((with_reducible refine gst ?_);refine wTz hA ?_;clear hF hA;intro w1 hA hF)|((with_reducible refine gbx ?_);refine wCz hA ?_;clear hF hA;intro b1 w1 hA hb1 hF))
     go_roundg (gk - 1)
     case measure=>omega
     case rel=>
      have hS:=hA.row_shut (e:=9) (size:=1) (n:=M.length) (cap:=mcap) (xs:=M.flatMap Txt.seL) (g:=g) (c:=c) sR cl cp1 cm ct;refine⟨j + 1,u22,l22,by simp,by omega,?_,by omega,hS.pick pZ⟩;rw[htj.out,←he22'.out,←he21'.out,hje'.out];simp only[List.flatMap_append,List.flatMap_cons,List.flatMap_nil,List.append_nil,encC,Int.toNat_natCast,List.append_assoc]
   have hje2:=hje'.out;rw[List.take_of_length_le (by rw[List.length_map];omega)] at hje2;obtain⟨hA,hF⟩:=fZ hA
   go_wp2_with fail
   first|go_ret|go_end0
   refine⟨L,M.map (withC s.cs),u20,rfl,hperm'.out,hpw'.out,Zi8 hI'.out.ck hMp'.out,List.pairwise_map.2 hMw'.out,?_⟩;have hE:=fold0 (a.at s) hA sZ sZ sZ;have hE2:=hE.pick (K:=[bookS a s,outC b u20,rowY u20 l20]) pZ;rw[hje2,hle3.out] at hE2
   have e:l00++Zaf L.length++L.flatMap encE++Zaf M.length++(M.map (withC s.cs)).flatMap encC=l00++encB L (M.map (withC s.cs)):=by
    unfold encB;rw[List.length_map];simp only[List.append_assoc]
   rw[e] at hE2;exact hE2
theorem put_any {w:World} {a:Pl} {s:S3} {kI b:Nat} {u00:Value} {l00:List Int} (h:Sep [bookS a s,outC b u00,rowY u00 l00] w) (hI:Inv s kI) (hFt:Feet s) (hkI:kI≤1000) (hl0:l00.length≤100000000000):
 Calls Tryz.prog 131 #[.pointer (some ⟨a.p,0,none⟩),.pointer (some ⟨b,0,none⟩)] w (Zlf w a s b u00 l00):=ZmY h (hI.wk hFt hkI) hl0
end Lock
end
section
namespace Tab
open Go.RowKit
open Path (bl Zad overB Zaw)
open Lease (Ses Ans fresh ZaQ)
open Lock (S3 Ent)
open Cmd (Cm ZaA)
attribute [-go_sem] run_eql_struct run_neq_struct run_eqGuard_agg
open Lease (SR Rel encL)
open Lock (encB ltE ltC)
open Wire (outC rowY)
theorem Zen {α:Type} {f:α→List Int} {P:α→Prop} {k:Nat} (hf:∀a,P a→(f a).length≤k):∀l:List α,(∀a ∈ l,P a)→(l.flatMap f).length≤l.length * k
 |[],_=>by simp
 |x::l,h=>by
  have q1:=hf x (h x (by simp));have q2:=Zen hf l (fun a ha=>h a (by simp[ha]));rw[List.flatMap_cons,List.length_append,List.length_cons,Nat.add_mul]
  omega
theorem Zms {a:Lease.AR} (h:0≤a.r∧a.r < Lease.big64):(Lease.encA a).length≤29:=by
 have q1:=Wire.Zal 9 a.r.toNat (by unfold Lease.big64 at h;omega);have q2:=Wire.Zal 9 (Lease.wrN a.e) (by unfold Lease.wrN;omega)
 have q3:(Wire.fixL a.n.toNat).length=8:=by simp[Wire.fixL]
 have q4:(Lease.bB a.g).length=1:=rfl;unfold Lease.encA;simp only[List.length_append]
 omega
structure SrOk (s:SR):Prop where
 foot:s.foot.size≤2000000
 dl:s.dl≤2199023255552
 ttl:s.ttl≤2199023255552
 tl:s.told.length≤256
 bd:∀x ∈ s.told,0≤x.r∧x.r < Lease.big64
theorem Zmo {s:SR} (h:SrOk s):(Lease.encS s).length≤2100000:=by
 have q1:(Wire.fixL s.num.toNat).length=8:=by simp[Wire.fixL]
 have q2:=Lease.Zgi s.foot (by have:=h.foot;omega);have q3:(Lease.bB s.op).length=1:=rfl;have q4:(Lease.bB s.dead).length=1:=rfl;have q5:=Wire.Zal 9 s.dl.toNat (by have:=h.dl;omega);have q6:=Wire.Zal 9 s.ttl.toNat (by have:=h.ttl;omega);have q7:=Wire.Zal 9 s.told.length (by have:=h.tl;omega);have q8:=Zen (f:=Lease.encA) (P:=fun a=>0≤a.r∧a.r < Lease.big64) (k:=29) (fun a ha=>Zms ha) s.told h.bd;have q9:=h.foot;have q10:=h.tl;unfold Lease.encS;simp only[List.length_append]
 omega
theorem Zmp {L:List SR} (h:∀a ∈ L,SrOk a) (hl:L.length≤1000):(encL L).length≤3000000000:=by
 have q1:=Wire.Zal 9 L.length (by omega);have q2:=Zen (f:=Lease.encS) (P:=SrOk) (k:=2100000) (fun a ha=>Zmo ha) L h;unfold Lease.encL;rw[List.length_append]
 omega
theorem sr_ok {S:List Ses} {L:List SR} {m:Nat} (h:Rel S L) (hi:SInv S m):∀a ∈ L,SrOk a:=fun a ha=>by
 have hb:=(Rel.bounds h hi).1 a ha;obtain⟨s,hs,hk⟩:=List.mem_map.1 (h.keys.mem_iff.2 (List.mem_map.2 ⟨a,ha,rfl⟩));have e:=h.each s hs a ha hk;exact⟨hb.2.2,e.db.2,e.tb.2,e.told.len,e.told.bd⟩
theorem encE_len {e:Ent} (hp:e.path.size≤100) (hf:e.foot.size≤2000000) (hs:e.stamp≤1000):(Lock.encE e).length≤2100000:=by
 have q1:=Lock.Zbs e.path (by omega);have q2:=Lock.Zbs e.foot (by omega)
 have q3:(Wire.fixL e.num.toNat).length=8:=by simp[Wire.fixL]
 have q4:(Wire.fixL e.n.toNat).length=8:=by simp[Wire.fixL]
 have q5:=Wire.Zal 9 e.stamp.toNat (by omega);unfold Lock.encE;simp only[List.length_append,List.length_cons,List.length_nil]
 omega
theorem encC_len {c:ByteArray × Int} (hp:c.1.size≤100):(Lock.encC c).length≤200:=by
 have q1:=Lock.Zbs c.1 (by omega)
 have q3:(Wire.fixL c.2.toNat).length=8:=by simp[Wire.fixL]
 unfold Lock.encC;simp only[List.length_append]
 omega
theorem encB_len {T:TS} {k:Nat} (hi:Lock.Inv T.L k) (hf:Lock.Feet T.L) (hk:k≤1000) {es:List Ent} {cs:List (ByteArray × Int)} (h1:es.Perm T.L.es) (h2:cs.Perm T.L.cs):(encB es cs).length≤3000000000:=by
 have l1:es.length≤1000:=by rw[h1.length_eq];have:=hi.len;omega
 have l2:cs.length≤1000:=by rw[h2.length_eq];have:=hi.clen;omega
 have q1:=Wire.Zal 9 es.length (by omega);have q2:=Zen (f:=Lock.encE) (P:=fun e=>e ∈ T.L.es) (k:=2100000) (fun a ha=>encE_len (hi.path a ha) (hf a ha) (by have:=hi.stamp1 a ha;omega)) es (fun a ha=>h1.mem_iff.1 ha);have q3:=Wire.Zal 9 cs.length (by omega);have q4:=Zen (f:=Lock.encC) (P:=fun c=>c ∈ T.L.cs) (k:=200) (fun a ha=>encC_len (hi.cpath a ha)) cs (fun a ha=>h2.mem_iff.1 ha);unfold Lock.encB;simp only[List.length_append]
 omega
theorem Zd4 {l r:List (ByteArray × Int)} (h1:l.Pairwise ltC) (h2:r.Pairwise ltC) (hp:l.Perm r):l=r:=
 hp.eq_of_pairwise (le:=ltC) (fun a b _ _ h3 h4=>absurd (Txt.Zch h3 h4) (Txt.Zdf _)) h1 h2
def Za8 (T:TS) (L:List SR) (l:List Int):Prop:=∃(es:List Ent) (cs:List (ByteArray × Int)),(es.Perm T.L.es∧es.Pairwise ltE∧cs.Perm T.L.cs∧cs.Pairwise ltC)∧l=encL L++encB es cs
theorem Ze7 {T T':TS} (h:LEq T.L T'.L) {L:List SR} {l l':List Int} (h1:Za8 T L l) (h2:Za8 T' L l'):l=l':=by
 obtain⟨es,cs,⟨a1,a2,a3,a4⟩,rfl⟩:=h1;obtain⟨fs,ds,⟨b1,b2,b3,b4⟩,rfl⟩:=h2;rw[Lock.ZeN a2 b2 (a1.trans (h.es.trans b1.symm)),Zd4 a4 b4 (a3.trans (h.cs.trans b3.symm))]
def Zm5 (w:World) (t p m:Nat) (ss:List Ses) (b:Lock.Bk) (T:TS) (L:List SR) (e:Ending) (w':World):Prop:=
 ∃(v:Value) (l:List Int),e=.returned v∧Za8 T L l∧l.length≤100000000000∧At [TabP t p m ss b] w [rowY v l,TabP t p m ss b] w'
structure WkT (ss:List Ses) (b:Lock.Bk) (L:List SR):Prop where
 rel:Rel ss L
 bd:∀a ∈ L,0≤a.num∧a.num < Lease.big64∧a.foot.size≤2000000
 len:L.length≤100000
 el:(encL L).length≤3000000000
 wk:Lock.Wk b.st
 eb:∀(es:List Ent) (cs:List (ByteArray × Int)),es.Perm b.st.es→cs.Perm b.st.cs→(encB es cs).length≤3000000000
theorem Zcr {w:World} {t p m:Nat} {ss:List Ses} {b:Lock.Bk} (h:Sep [TabP t p m ss b] w) {L:List SR} (hW:WkT ss b L):
 Calls Tryz.prog 54 #[.pointer (some ⟨t,0,none⟩)] w (Zm5 w t p m ss b ⟨ss,b.st⟩ L):=by
 have hbs:(⟨b.p,b.m,b.c⟩:Lock.Pl).at b.st=b:=rfl;have hb':=Hd hW.bd;have hLn':=Hd hW.len;have hLl':=Hd hW.el;have hRs':=Hd hW.rel;have hwk':=Hd hW.wk;have hB0':=Hd hW.eb;clear hW hbs;have hA:=ZbB h;clear h;obtain⟨hA,hF⟩:=fZ hA
 go_enter Tryz.func54,Tryz.ntmps54
 go_wp2_with (first|((with_reducible refine gbx ?_);refine wHz 64 [.slice none 0 0] hA ?_;clear hF hA;intro b5 w1 hA hb5 hF)|((with_reducible refine gst ?_);refine wTz hA ?_;clear hF hA;intro w1 hA hF)|((with_reducible refine gbx ?_);refine wCz hA ?_;clear hF hA;intro b1 w1 hA hb1 hF))
 have hC:=Wire.ZdB hA;refine(Lease.put_any (hC.sep3 (A:=Lease.BookP p m ss) (B:=outC b5 (.slice none 0 0)) (C:=rowY (.slice none 0 0) []) sZ sZ sZ) hRs'.out hb'.out hLn'.out (by simp)).mono ?_;rintro e w1 ⟨rfl,u1,hT⟩;replace hA:=hC.call3 (A:=Lease.BookP p m ss) (B:=outC b5 (.slice none 0 0)) (C:=rowY (.slice none 0 0) []) sZ sZ sZ hT;clear hT hC hF
 try simp only[uA] at hA
 obtain⟨hA,hF⟩:=fZ hA
 go_wp2_with (first|((with_reducible refine gst ?_);refine wTz hA ?_;clear hF hA;intro w1 hA hF)|((with_reducible refine gbx ?_);refine wCz hA ?_;clear hF hA;intro b1 w1 hA hb1 hF))
 refine(Lock.ZmY (a:=⟨b.p,b.m,b.c⟩) (s:=b.st) (hA.sep3 (A:=Lock.BookP b) (B:=outC b5 u1) (C:=rowY u1 (encL L)) sZ sZ sZ) hwk'.out (by have:=hLl'.out;omega)).mono ?_;rintro e w1 ⟨es,cs,u2,rfl,p1,p2,p3,p4,hT⟩;replace hA:=hA.call3 (A:=Lock.BookP b) (B:=outC b5 u1) (C:=rowY u1 (encL L)) sZ sZ sZ hT;clear hT hF
 try simp only[uA] at hA
 obtain⟨hA,hF⟩:=fZ hA
 have hll:(encL L++encB es cs).length≤100000000000:=by
  have h1:=hB0'.out es cs p1 p3;have h2:=hLl'.out;rw[List.length_append]
  omega
 have hbo:Za8 ⟨ss,b.st⟩ L (encL L++encB es cs):=⟨es,cs,⟨p1,p2,p3,p4⟩,rfl⟩
 have hll':=Hd hll;have hbo':=Hd hbo;clear hll hbo p1 p2 p3 p4
 generalize encL L++encB es cs=l at *
 go_wp2_with (first|((with_reducible refine gst ?_);refine wTz hA ?_;clear hF hA;intro w1 hA hF)|((with_reducible refine gbx ?_);refine wCz hA ?_;clear hF hA;intro b1 w1 hA hb1 hF))
 refine(Wire.ZlX (hA.sep2 (A:=outC b5 u2) (B:=rowY u2 l) sZ sZ) (by have:=hll'.out;omega)).mono ?_;rintro e w1 ⟨v,rfl,hT⟩;replace hA:=hA.call2 (A:=outC b5 u2) (B:=rowY u2 l) sZ sZ hT;clear hT hF
 try simp only[uA] at hA
 obtain⟨hA,hF⟩:=fZ hA
 go_wp2_with (first|((with_reducible refine gst ?_);refine wTz hA ?_;clear hF hA;intro w1 hA hF)|((with_reducible refine gbx ?_);refine wCz hA ?_;clear hF hA;intro b1 w1 hA hb1 hF))
 go_ret;exact⟨v,l,rfl,hbo'.out,hll'.out,(Zcb (ss:=ss) (b:=b) hA sZ sZ sZ).pick pZ⟩
theorem ZmS {ss:List Ses} {b:Lock.Bk} {T:TS} (hR:TRel ss b T) {L:List SR} (hL:Rel T.S L) {k:Nat} (hi:TInv T k) (hf:Lock.Feet T.L) (hk:k≤400):WkT ss b L where
 rel:=Rel.zs (by rw[hR.S];exact hL)
 bd:=(Rel.bounds hL hi.s).1
 len:=by have:=(Rel.bounds hL hi.s).2;omega
 el:=Zmp (sr_ok hL hi.s) (by have:=(Rel.bounds hL hi.s).2;omega)
 wk:=by rw[hR.L];exact hi.lock.wk hf (by omega)
 eb:=fun es cs h1 h2=>encB_len (T:=T) hi.lock hf (by omega) (es:=es) (cs:=cs) (by rw[←hR.L];exact h1) (by rw[←hR.L];exact h2)
theorem Zg8 {w:World} {t p m:Nat} {ss:List Ses} {b:Lock.Bk} (h:Sep [TabP t p m ss b] w) {T:TS} (hR:TRel ss b T) {L:List SR} (hL:Rel T.S L) {k:Nat} (hi:TInv T k) (hf:Lock.Feet T.L) (hk:k≤400):
 Calls Tryz.prog 54 #[.pointer (some ⟨t,0,none⟩)] w (Zm5 w t p m ss b T L):=(Zcr h (ZmS hR hL hi hf hk)).mono fun e w' ⟨v,l,e1,⟨es,cs,⟨p1,p2,p3,p4⟩,e2⟩,e3,hT⟩=>⟨v,l,e1,⟨es,cs,⟨by rw[←hR.L];exact p1,p2,by rw[←hR.L];exact p3,p4⟩,e2⟩,e3,hT⟩
end Tab
end
section
namespace Tab
open Go.RowKit
open Path (bl Zad overB Zaw)
open Lease (Ses Ans fresh ZaQ)
open Lock (S3 Ent)
open Cmd (Cm ZaA)
attribute [-go_sem] run_eql_struct run_neq_struct run_eqGuard_agg
def okS (c:Cm):Bool:= !decide (100 < c.path.size)&& !decide (100 < c.foot.size)
def Zcd (l:List Cm) (most:Int):Bool:=l.all okS&&decide ((l.length:Int)≤most)
def SmRel (w:World) (R:Part) (l:List Cm) (k:Nat) (u:Value) (wr:World):Prop:=
 ∃i:Nat,u=.int .i64 i∧i + k=l.length∧(l.take i).all okS=true∧At [R] w [R] wr
theorem Zgq {w:World} {R:Part} (h:Sep [R] w) {v:Value} {l:List Cm} (hr:ZeA R v l) (hl:l.length≤9223372036854775807) (hsz:∀c ∈ l,c.path.size≤maxLen∧c.foot.size≤maxLen) (most:Int):
 Calls Tryz.prog 28 #[v,.int .i64 most] w fun e w'=>e=.returned (.bool (Zcd l most))∧At [R] w [R] w':=by
 have hA:=At.start h;obtain⟨ax,cap,rfl,_,_⟩:=hr w (hA.get .here);have hr':=Hd hr;have hsz':=Hd hsz;clear h hr hsz;obtain⟨hA,hF⟩:=fZ hA
 go_enter Tryz.func28,Tryz.ntmps28
 go_wp2_with fail
 try go_frame
 clear hF
 go_loopg [9] l.length (SmRel w R l)
 case atStart=>exact⟨0,rfl,by omega,rfl,hA⟩
 case round=>
  obtain⟨i,rfl,hik,hal,hB⟩:=hrel;clear hA;have hA:=hB;clear hB;have hal':=Hd hal;clear hal
  by_cases hi:i < l.length
  · skip
    have hiI:(i:Int) < l.length:=by omega
    obtain⟨c,hc⟩:∃c,l[i]? =some c:=⟨_,List.getElem?_eq_getElem hi⟩
    have hcm:=List.mem_of_getElem? hc;have hcs:=hsz'.out c hcm
    have htk:l.take (i + 1)=l.take i++[c]:=by rw[List.take_add_one,hc];rfl
    have hnx:=Hd (show(l.take (i + 1)).all okS=okS c by rw[htk,List.all_append,hal'.out];simp)
    have hbad:=Hd (show okS c=false→Zcd l most=false from fun q=>by
     unfold Zcd
     rw[show l.all okS=false from by
      cases h:l.all okS with
      |false=>rfl
      |true=>rw[List.all_eq_true.1 h c hcm] at q;cases q]
     rfl)
    obtain⟨bl0,ofl,hax⟩:∃b0 o0,ax=some ⟨b0,o0,none⟩:=by
     obtain⟨ax2,c2,e2,_,hr2⟩:=hr'.out _ (hA.get (A:=R) sZ);cases e2;have hf:=Zb1 Cm.cells 8 (fun _=>rfl) l i c hc 0 (by omega);obtain⟨b0,o0,e3,_⟩:=hr2 (i * 8 + 0) _ hf;exact⟨b0,o0,e3⟩
    subst hax;have hrc:=Zfz hr'.out hc _ (hA.get (A:=R) sZ);clear htk hc hcm;obtain⟨kind,num,foot,req,path,mode,n,time⟩:=c;have hrc':=Hd (show ∀(k:Nat) u,([.int .i64 kind,.int .u64 num,.string foot,.int .u64 req,.string path,.int .i64 mode,.int .u64 n,.int .i64 time]:List Value)[k]? =some u→wr.cell? ⟨bl0,ofl + i * 8 + k,none⟩=some u from hrc);clear hrc;simp only[okS] at hnx hbad hcs
    obtain⟨d1,hd1⟩:∃d,decide (100 < path.size)=d:=⟨_,rfl⟩
    obtain⟨d2,hd2⟩:∃d,decide (100 < foot.size)=d:=⟨_,rfl⟩
    simp only[hd1,hd2] at hnx hbad
    have hI1:decide ((100:Int) < (path.size:Int))=d1:=by rw[←hd1,decide_eq_decide];omega
    have hI2:decide ((100:Int) < (foot.size:Int))=d2:=by rw[←hd2,decide_eq_decide];omega
    obtain⟨hA,hF⟩:=fZ hA;cases d1
    · cases d2
      · have hp1:¬(100:Int) < path.size:=of_decide_eq_false hI1
        have hp2:¬(100:Int) < foot.size:=of_decide_eq_false hI2
        go_wp2_with (first|((with_reducible refine gal ?_);refine g6 hA ?_;clear hF hA;intro b6 w1 hA hb6 hF)|((with_reducible show wpList _ _ _ ({dst:=some 12,op:=Op.load _ _,type:=_,pos:=_,after:=_,guard:=_}::_) _ _);refine Zav (vs:=[.int .i64 kind,.int .u64 num,.string foot,.int .u64 req,.string path,.int .i64 mode,.int .u64 n,.int .i64 time]) rfl rfl (by(try simp only[Act.eval,eV])<;>exact rfl) hrc'.out (by kernel_rfl) (by kernel_rfl) ?_)|((with_reducible refine gst ?_);refine wTz hA ?_;clear hF hA;intro w1 hA hF))
        go_roundg (gk - 1)
        case measure=>omega
        case rel=>exact⟨i + 1,by simp,by omega,by rw[hnx.out];rfl,hA.pick pZ⟩
      have hp1:¬(100:Int) < path.size:=of_decide_eq_false hI1
      have hp2:(100:Int) < foot.size:=of_decide_eq_true hI2
      go_wp2_with (first|((with_reducible refine gal ?_);refine g6 hA ?_;clear hF hA;intro b6 w1 hA hb6 hF)|((with_reducible show wpList _ _ _ ({dst:=some 12,op:=Op.load _ _,type:=_,pos:=_,after:=_,guard:=_}::_) _ _);refine Zav (vs:=[.int .i64 kind,.int .u64 num,.string foot,.int .u64 req,.string path,.int .i64 mode,.int .u64 n,.int .i64 time]) rfl rfl (by(try simp only[Act.eval,eV])<;>exact rfl) hrc'.out (by kernel_rfl) (by kernel_rfl) ?_)|((with_reducible refine gst ?_);refine wTz hA ?_;clear hF hA;intro w1 hA hF))
      go_ret;exact⟨by rw[hbad.out rfl];rfl,hA.pick pZ⟩
    have hp1:(100:Int) < path.size:=of_decide_eq_true hI1
    go_wp2_with (first|((with_reducible refine gal ?_);refine g6 hA ?_;clear hF hA;intro b6 w1 hA hb6 hF)|((with_reducible show wpList _ _ _ ({dst:=some 12,op:=Op.load _ _,type:=_,pos:=_,after:=_,guard:=_}::_) _ _);refine Zav (vs:=[.int .i64 kind,.int .u64 num,.string foot,.int .u64 req,.string path,.int .i64 mode,.int .u64 n,.int .i64 time]) rfl rfl (by(try simp only[Act.eval,eV])<;>exact rfl) hrc'.out (by kernel_rfl) (by kernel_rfl) ?_)|((with_reducible refine gst ?_);refine wTz hA ?_;clear hF hA;intro w1 hA hF))
    go_ret;exact⟨by rw[hbad.out (by cases d2<;>rfl)];rfl,hA.pick pZ⟩
  have hi2:i=l.length:=by omega
  subst hi2;rw[List.take_of_length_le (Nat.le_refl _)] at hal';obtain⟨hA,hF⟩:=fZ hA
  go_wp2_with fail
  go_ret;refine⟨?_,hA.pick pZ⟩;unfold Zcd;rw[hal'.out,Bool.true_and]
  rfl
end Tab
end
end Go.Proofs.YtkdjkngfnapjcaaGreatDoor
section
namespace Go
open _root_.Go.Proofs.YtkdjkngfnapjcaaGreatDoor
open Go.RowKit
section
variable {P:Program} {ops:Array Oper} {rest:List Oper} {o:Oper} {a:Act} {Q:Exit→Act→World→Prop} {L0 L:List Part} {w0 w:World} {e:TypeId}
theorem Zfe {t:TypeId} {n size:Nat} {args:Array (Nat × Operand)} {avs:Array (Nat × Value)} (hg:o.guard=none) (hop:o.op=.buildSlice t n args) (hx:args.map (fun p=>(p.1,a.eval p.2))=avs) {vs:List Value}
 (hrun:∀w,(Instr.buildSlice t n avs).run P w=.ok (.slice (some ⟨w.heap.size,0,none⟩) n n) (w.alloc (.cells vs.toArray e))) (hl:vs.length=n * size) (hn:n≤maxLen)
 (h:At L0 w0 L w)
 (hK:∀v w',At L0 w0 (Part.row e size v n vs::L) w'→(∃b,v=.slice (some ⟨b,0,none⟩) n n)→wpList P ops Q rest (a.put o.dst v) w'):wpList P ops Q (o::rest) a w:=by
 refine Zak hg ?_ (hK (.slice (some ⟨w.heap.size,0,none⟩) n n) (w.alloc (.cells vs.toArray e)) ((h.alloc vs e).row_shut .here hl (Nat.le_refl _) hn (by rw[←hl,List.take_length])) ⟨_,rfl⟩);simp[execOp,hop,hx,hrun,Result.andThen]
end
end Go
namespace Go.Proofs.YtkdjkngfnapjcaaGreatDoor.Tab
open Go.RowKit
open Path (bl Zad overB Zaw)
open Lease (Ses Ans fresh ZaQ)
open Lock (S3 Ent)
open Cmd (Cm ZaA)
attribute [-go_sem] run_eql_struct run_neq_struct run_eqGuard_agg
abbrev rowCm (v:Value) (l:List Cm):Part:=Part.row 27 8 v l.length (l.flatMap Cm.cells)
theorem Zj9 (v:Value) (l:List Cm):ZeA (rowCm v l) v l:=fun w h=>ZcR h
def ftA:ByteArray:=⟨#[97]⟩
def pA:ByteArray:=⟨#[97,47,98]⟩
def lA:List Cm:=[⟨1,1,ftA,1,⟨#[]⟩,0,5,0⟩,⟨4,1,ftA,2,pA,2,0,0⟩,⟨4,1,ftA,2,pA,2,0,0⟩]
theorem lA_in:∀c ∈ lA,CmIn c:=by
 intro c hc;simp only[lA,List.mem_cons,List.not_mem_nil,or_false] at hc
 rcases hc with rfl|rfl|rfl<;>exact⟨⟨by simp[Lease.big64],by decide,by decide⟩,by simp,by simp[Lease.big64],by simp⟩
theorem ZnH:toldT ⟨[],⟨0,[],[]⟩⟩ lA=[⟨0,0,false⟩,⟨0,1,true⟩,⟨0,1,true⟩]:=by kernel_rfl
theorem lA_one:(playT ⟨[],⟨0,[],[]⟩⟩ lA).L.es.length=1:=by kernel_rfl
theorem Zfb (w:World):Calls Tryz.prog 27 #[] w fun e w'=>e=.returned (.bool true)∧Ext w w':=by
 have hm:Tryz.prog.follows .mixedOrders=true:=by kernel_rfl
 have hA:At [] w [] w:=At.start (L0:=[]) trivial;obtain⟨hA,hF⟩:=fZ hA
 go_enter Tryz.func27,Tryz.ntmps27
 go_wp2_with (first|((with_reducible refine gal ?_);refine g5 hA ?_;clear hF hA;intro b1 w1 hA hb1 hF)|((with_reducible refine gal ?_);refine g6 hA ?_;clear hF hA;intro b2 w1 hA hb2 hF)|((with_reducible show wpList _ _ _ ({dst:=_,op:=Op.load 25 _,type:=_,pos:=_,after:=_,guard:=_}::_) _ _);refine Zav (vs:=[.int .u64 1,.string ftA]) rfl rfl (by(try simp only[Act.eval,eV])<;>exact rfl) (fun k u hk=>by rw[Nat.zero_add];exact((hA.get (A:=Part.cells b1 [.int .u64 1,.string ftA] 25) sZ:Zaa _ _ _ _).cell k).trans hk) (by kernel_rfl) (by kernel_rfl) ?_)|((with_reducible show wpList _ _ _ ({dst:=_,op:=Op.load 27 _,type:=_,pos:=_,after:=_,guard:=_}::_) _ _);refine Zav (vs:=[.int .i64 4,.int .u64 1,.string ftA,.int .u64 2,.string pA,.int .i64 2,.int .u64 0,.int .i64 0]) rfl rfl (by(try simp only[Act.eval,eV])<;>exact rfl) (fun k u hk=>by rw[Nat.zero_add];exact((hA.get (A:=Part.cells b2 [.int .i64 4,.int .u64 1,.string ftA,.int .u64 2,.string pA,.int .i64 2,.int .u64 0,.int .i64 0] 27) sZ:Zaa _ _ _ _).cell k).trans hk) (by kernel_rfl) (by kernel_rfl) ?_)|((with_reducible show wpList _ _ _ ({dst:=_,op:=Op.buildSlice _ _ _,type:=_,pos:=_,after:=_,guard:=_}::_) _ _);refine Zfe (e:=27) (size:=8) (vs:=lA.flatMap Cm.cells) rfl rfl (by(try simp only[Act.eval,eV])<;>exact rfl) (fun _=>by kernel_rfl) (by kernel_rfl) (by unfold maxLen;omega) hA ?_;intro v13 w1 hB hb13;clear hF hA;have hA:=hB;clear hB;obtain⟨hA,hF⟩:=fZ hA)|((with_reducible refine gst ?_);refine wTz hA ?_;clear hF hA;intro w1 hA hF))
 refine(Ziw (hA.sep1 (A:=rowCm v13 lA) sZ) (first:=0) (by omega) (by unfold Lock.big64;omega) (Zj9 v13 lA) (by decide) lA_in).mono ?_;rintro e w1 ⟨t,p,m,ss,b,av,rfl,hR,hT⟩;replace hA:=hA.call1 (A:=rowCm v13 lA) sZ hT;clear hT hF
 try simp only[uA] at hA
 rw[ZnH] at hA;obtain⟨hA,hF⟩:=fZ hA
 go_wp2_with fail
 obtain⟨ax,cap,rfl,_,_,_⟩:=hA.row_form (e:=107) (size:=3) .here;obtain⟨g,c,rfl,_,_,_,hct,hB⟩:=hA.row_open .here (by decide)
 obtain⟨r,rfl⟩:∃r,c=([.int .i64 0,.int .u64 0,.bool false,.int .i64 0,.int .u64 1,.bool true,.int .i64 0,.int .u64 1,.bool true]:List Value)++r:=⟨c.drop 9,by rw[show([.int .i64 0,.int .u64 0,.bool false,.int .i64 0,.int .u64 1,.bool true,.int .i64 0,.int .u64 1,.bool true]:List Value)=c.take 9 from hct.symm];exact(List.take_append_drop _ _).symm⟩
 clear hF hA hct;have hA:=hB;clear hB;have hti:TInv (playT ⟨[],⟨0,[],[]⟩⟩ lA) (0 + lA.length):=Ziv (fun x hx=>(lA_in x hx).ok) (ZhF (by omega) (by unfold Lock.big64;omega))
 have hli:Lock.Inv b.st 3:=by rw[hR.L];exact hti.lock
 have hlen:b.es.length=1:=by have:=lA_one;rw[←hR.L] at this;exact this
 have hls:=fun(w1:World) (q:Sep [Lock.BookP b] w1)=>Lock.ZiD q hli.sortable (by omega) (fun x hx=>Nat.le_trans (hli.path x hx) (by omega))
 have hll:=Hd hlen;clear hlen hti hli hR;replace hA:=hA.drew;refine wp_region_held (S:=fun w'=>Zaa w' g (([.int .i64 0,.int .u64 0,.bool false,.int .i64 0,.int .u64 1,.bool true,.int .i64 0,.int .u64 1,.bool true]:List Value)++r) 107) hm ?_;change wpAnyH _ _ _ _ _ 27 _ _ (World.drew _)
 generalize World.drew _=wd at *
 have hS0:=(hA.get (A:=Part.cells g (([.int .i64 0,.int .u64 0,.bool false,.int .i64 0,.int .u64 1,.bool true,.int .i64 0,.int .u64 1,.bool true]:List Value)++r) 107) sZ:(fun w'=>Zaa w' g (([.int .i64 0,.int .u64 0,.bool false,.int .i64 0,.int .u64 1,.bool true,.int .i64 0,.int .u64 1,.bool true]:List Value)++r) 107) wd)
 refine tP 0 17 (.slice (some ⟨g,0,none⟩) 3 cap) (s:=hS0) (h:= ?_)
 try go_frame
 refine tP 1 18 (.int .i64 3) (s:=hS0) (h:= ?_)
 try go_frame
 refine tP 2 19 (.bool true) (s:=hS0) (h:= ?_)
 try go_frame
 refine tP 3 20 (.bool true) (s:=hS0) (h:= ?_)
 try go_frame
 refine tP 4 21 (.slice (some ⟨g,0,none⟩) 3 cap) (s:=hS0) (h:= ?_)
 try go_frame
 refine tP 5 22 (.pointer (some ⟨g,3,none⟩)) (s:=hS0) (h:= ?_)
 try go_frame
 refine tZ 6 23 (.agg #[.int .i64 0,.int .u64 1,.bool true]) (r:=(fun w' hS=>Zag (ty:=107) (n:=3) (b:=g) (j:=3) rfl (by exact rfl) hS (by kernel_rfl) (by kernel_rfl) rfl rfl)) (s:=hS0) (h:= ?_)
 try go_frame
 refine tP 7 24 (.agg #[.int .i64 0,.int .u64 1,.bool true]) (s:=hS0) (h:= ?_)
 try go_frame
 refine tP 8 25 (.bool true) (s:=hS0) (h:= ?_)
 try go_frame
 refine tP 9 26 (.bool true) (s:=hS0) (h:= ?_)
 try go_frame
 refine tP 10 27 (.bool true) (s:=hS0) (h:= ?_)
 try go_frame
 refine tP 11 28 (.slice (some ⟨g,0,none⟩) 3 cap) (s:=hS0) (h:= ?_)
 try go_frame
 refine tP 12 29 (.pointer (some ⟨g,6,none⟩)) (s:=hS0) (h:= ?_)
 try go_frame
 refine tZ 13 30 (.agg #[.int .i64 0,.int .u64 1,.bool true]) (r:=(fun w' hS=>Zag (ty:=107) (n:=3) (b:=g) (j:=6) rfl (by exact rfl) hS (by kernel_rfl) (by kernel_rfl) rfl rfl)) (s:=hS0) (h:= ?_)
 try go_frame
 refine tP 14 31 (.slice (some ⟨g,0,none⟩) 3 cap) (s:=hS0) (h:= ?_)
 try go_frame
 refine tP 15 32 (.pointer (some ⟨g,3,none⟩)) (s:=hS0) (h:= ?_)
 try go_frame
 refine tZ 16 33 (.agg #[.int .i64 0,.int .u64 1,.bool true]) (r:=(fun w' hS=>Zag (ty:=107) (n:=3) (b:=g) (j:=3) rfl (by exact rfl) hS (by kernel_rfl) (by kernel_rfl) rfl rfl)) (s:=hS0) (h:= ?_)
 try go_frame
 refine tP 17 34 (.bool true) (s:=hS0) (h:= ?_)
 try go_frame
 refine tP 18 35 (.bool true) (s:=hS0) (h:= ?_)
 try go_frame
 refine tP 19 36 (.bool true) (s:=hS0) (h:= ?_)
 try go_frame
 refine tP 20 37 (.pointer (some ⟨t,0,none⟩)) (s:=hS0) (h:= ?_)
 try go_frame
 refine Zac (i:=21) (by kernel_rfl) ?_;refine cY 21 38 45 (fun u w'=>u=.pointer (some ⟨b.p,0,none⟩)∧At [TabP t p m ss b] _ [TabP t p m ss b] w') ((ZgG (hA.sep1 (A:=TabP t p m ss b) sZ)).mono fun e w' ⟨he,hT⟩=>⟨_,he,rfl,hT⟩) ?_;rintro u w3 ⟨rfl,hT⟩;have hB:=hA.call1 (A:=TabP t p m ss b) sZ hT;clear hT hA;simp only[uA] at hB;have hA:=Zbm hB sZ;clear hB;refine⟨hA.get (A:=Part.cells g (([.int .i64 0,.int .u64 0,.bool false,.int .i64 0,.int .u64 1,.bool true,.int .i64 0,.int .u64 1,.bool true]:List Value)++r) 107) sZ,?_⟩;clear hS0
 try go_frame
 refine Zac (i:=22) (by kernel_rfl) ?_
 refine Zan (i:=22) (d:=some 39) (R:=fun u w'=>∃cp:Option Addr × Nat,u=.slice cp.1 1 cp.2∧∃l,At [Lock.BookP b] _ [Lock.rowL (.slice cp.1 1 cp.2) l,Lock.BookP b] w') rfl rfl (by kernel_rfl) (fn:=46) (args:= #[.pointer (some ⟨b.p,0,none⟩)]) (by simp[execOp,go_sem,Act.eval,Act.put]) ((hls _ (hA.sep1 (A:=Lock.BookP b) sZ)).mono fun e w' ⟨v,l,he,hp,_,hT⟩=>by
  obtain⟨ax2,cap2,rfl,_,_,_⟩:=hT.row_form (e:=97) (size:=6) .here;have h1:l.length=1:=hp.length_eq.trans hll.out
  exact⟨_,he,(ax2,cap2),by rw[h1],l,by rw[h1] at hT;exact hT⟩) ?_
 rintro u w4 ⟨⟨ax2,cap2⟩,rfl,l2,hT⟩;have hB:=hA.call1 (A:=Lock.BookP b) sZ hT;clear hT hA;simp only[uA] at hB;have hA:=hB;clear hB
 have hS0:=(hA.get (A:=Part.cells g (([.int .i64 0,.int .u64 0,.bool false,.int .i64 0,.int .u64 1,.bool true,.int .i64 0,.int .u64 1,.bool true]:List Value)++r) 107) sZ:(fun w'=>Zaa w' g (([.int .i64 0,.int .u64 0,.bool false,.int .i64 0,.int .u64 1,.bool true,.int .i64 0,.int .u64 1,.bool true]:List Value)++r) 107) w4)
 refine⟨hS0,?_⟩
 try go_frame
 refine tP 23 40 (.int .i64 1) (s:=hS0) (h:= ?_)
 try go_frame
 refine tP 24 41 (.bool true) (s:=hS0) (h:= ?_)
 try go_frame
 refine tP 25 42 (.bool true) (s:=hS0) (h:= ?_)
 try go_frame
 refine tP 26 0 (.bool true) (s:=hS0) (h:= ?_)
 try go_frame
 refine wpAnyH_done (by kernel_rfl) ?_ _
 try go_frame
 clear hS0;obtain⟨hA,hF⟩:=fZ hA
 go_wp2_with fail
 go_ret;exact⟨rfl,hA.toExt⟩
end Go.Proofs.YtkdjkngfnapjcaaGreatDoor.Tab
end
section
namespace Go
open _root_.Go.Proofs.YtkdjkngfnapjcaaGreatDoor
open Go.RowKit
section
variable {P:Program} {ops:Array Oper} {rest:List Oper} {o:Oper} {a:Act} {Q:Exit→Act→World→Prop} {L0 L F:List Part} {w0 w:World}
end
end Go
namespace Go.Proofs.YtkdjkngfnapjcaaGreatDoor
open Go.RowKit
theorem through1 {L0 L F:List Part} {w0 w:World} {A:Part} {P:Program} {f:FuncId} {args:Array Value} {v:Value} (s:Sel A L F) (h:At L0 w0 L w) (hc:∀w1,Sep [A] w1→Calls P f args w1 fun e w'=>e=.returned v∧At [A] w1 [A] w'):
 Calls P f args w fun e w'=>e=.returned v∧At L0 w0 L w':=h.through (Eqv.perm s.perm) (hc w)
end Go.Proofs.YtkdjkngfnapjcaaGreatDoor
end
namespace Go.Proofs.YtkdjkngfnapjcaaGreatDoor
section
namespace Tab
open Go.RowKit
open Path (bl Zad overB Zaw)
open Lease (Ses Ans fresh ZaQ)
open Lock (S3 Ent)
open Cmd (Cm ZaA)
attribute [-go_sem] run_eql_struct run_neq_struct run_eqGuard_agg
theorem below_old {w w':World} {L F:List Part} (h:At [Part.old w] w L w') (s:Sel (Part.old w) L F):Below w.heap.size w w':=by
 have ho:(Part.old w).holds w':=h.get s;exact⟨h.exc.os,h.exc.tape,h.exc.output,h.exc.size,fun b hb=>ho b hb⟩
structure CmV (c:Cm):Prop where
 num:0≤c.num∧c.num < Lease.big64
 foot:c.foot.size≤maxLen
 path:c.path.size≤maxLen
 req:0≤c.req∧c.req < Lease.big64
 n0:0≤c.n
theorem ZdA {l:List Cm} {k:Nat} (h:Zcd l k=true) (hv:∀c ∈ l,CmV c):l.length≤k∧∀c ∈ l,CmIn c:=by
 unfold Zcd at h;rw[Bool.and_eq_true,List.all_eq_true,decide_eq_true_eq] at h;refine⟨by omega,fun c hc=> ?_⟩;have h1:=h.1 c hc;simp only[okS,Bool.and_eq_true,Bool.not_eq_true',decide_eq_false_iff_not] at h1;exact⟨⟨(hv c hc).num,by omega,by omega⟩,(hv c hc).req.1,(hv c hc).req.2,(hv c hc).n0⟩
theorem ZkE (op:BinOp) (x y:Operand) (c1 c2 c3 d1 d2 d3:Value) (w:World):(eqGuard op 107 x y (.agg #[c1,c2,c3]) (.agg #[d1,d2,d3])).run Tryz.prog w=.ok () w:=run_eqGuard_agg _ _ _ _ _ _ _ (by kernel_rfl)
theorem ZmV (a b:Int) (c:Bool) (w:World):(Op.equalIn 10000 107 (.agg #[.int .i64 a,.int .u64 b,.bool c]) (.agg #[.int .i64 a,.int .u64 b,.bool c])).run Tryz.prog w=.ok true w:=by
 rw[run_equalIn_agg _ 9999 _ _ _ (by kernel_rfl) (by kernel_rfl)];simp[go_sem,Op.eqFields]
theorem neqAn (a b:Int) (c:Bool) (w:World):(binOp .neq 107 (.agg #[.int .i64 a,.int .u64 b,.bool c]) (.agg #[.int .i64 a,.int .u64 b,.bool c])).run Tryz.prog w=.ok (.bool false) w:=by
 rw[run_neq_struct,ZmV];rfl
theorem eqlAn (a b:Int) (c:Bool) (w:World):(binOp .eql 107 (.agg #[.int .i64 a,.int .u64 b,.bool c]) (.agg #[.int .i64 a,.int .u64 b,.bool c])).run Tryz.prog w=.ok (.bool true) w:=by
 rw[run_eql_struct,ZmV];rfl
theorem ZnO (op:BinOp) (x y:Operand) (a c:Int) (f g:ByteArray) (w:World):(eqGuard op 25 x y (.agg #[.int .u64 a,.string f]) (.agg #[.int .u64 c,.string g])).run Tryz.prog w=.ok () w:=run_eqGuard_agg _ _ _ _ _ _ _ (by kernel_rfl)
theorem neqSe (a c:Int) (f g:ByteArray) (w:World):(binOp .neq 25 (.agg #[.int .u64 a,.string f]) (.agg #[.int .u64 c,.string g])).run Tryz.prog w=.ok (.bool (!decide (a=c∧f=g))) w:=by
 rw[run_neq_struct,Lock.sameS];rfl
theorem row_at {α:Type} {enc:α→List Value} {size:Nat} (hs:∀x,(enc x).length=size) (h0:0 < size) {E:TypeId} {v:Value} {l:List α} {w:World} (h:(Part.row E size v l.length (l.flatMap enc)).holds w) {i:Nat} {x:α} (hx:l[i]? =some x):
 ∃b0 o0 cap,v=.slice (some ⟨b0,o0,none⟩) l.length cap∧∀(k:Nat) u,(enc x)[k]? =some u→w.cell? ⟨b0,o0 + i * size + k,none⟩=some u:=by
 obtain⟨ax,c,e,_,hr⟩:=ZcR h
 have hf:∀k,k < size→∀u,(enc x)[k]? =some u→∃b off,ax=some ⟨b,off,none⟩∧w.cell? ⟨b,off + (i * size + k),none⟩=some u:=fun k hk u hu=>by
  have:=Zb1 enc size hs l i x hx k hk;rw[hu] at this;exact hr (i * size + k) u this
 have hlt:∀{k:Nat} {u},(enc x)[k]? =some u→k < size:=fun hu=>by
  have:=(List.getElem?_eq_some_iff.1 hu).1
  rwa [hs] at this
 obtain⟨u0,hu0⟩:∃u,(enc x)[0]? =some u:=⟨_,List.getElem?_eq_getElem (by rw[hs];exact h0)⟩
 obtain⟨b,off,e2,_⟩:=hf 0 h0 u0 hu0;subst e2;refine⟨b,off,c,e,fun k u hu=> ?_⟩;obtain⟨b',off',e3,hc⟩:=hf k (hlt hu) u hu;cases e3;rw[Nat.add_assoc];exact hc
end Tab
end
section
section
open Go.RowKit
open Go.Sort (grow heap_grow_old)
section
variable {P:Program} {o:Oper} {a:Act} {L0 L F:List Part} {w0 W:World} {K:Act→Prop}
theorem Zdy {ty:TypeId} {x:Operand} (hop:o.op=.load ty x) {b j:Nat} (hx:a.eval x=.pointer (some ⟨b,j,none⟩)) (s:Sel (Part.old W) L F) (hu:(P.underlying ty).map (·.isRow)=some false) {v:Value} (hv:W.cell? ⟨b,j,none⟩=some v)
 (hk:K (a.put o.dst v)):o.quiet P a (Cl L0 w0 L) K:=ZcN v (fun w' hw=>by
 have ho:(Part.old W).holds w':=hw.get s
 have hb:b < W.heap.size:=by
  rcases Nat.lt_or_ge b W.heap.size with q|q
  · exact q
  simp[World.cell?,Array.getElem?_eq_none q] at hv
 have hc:w'.cell? ⟨b,j,none⟩=some v:=by
  rw[←hv];simp[World.cell?,ho b hb]
 obtain⟨d,hu,hd⟩:=Option.map_eq_some_iff.1 hu
 have hagg:(isAgg ty).run P w'=.ok false w':=by
  unfold isAgg;rw[Sem.run_bind,run_underlying hu w']
  cases d<;>simp_all
 simp[execOp,hop,hx,Instr.loadAt,Instr.sureAddr,loadVar,Sem.run_bind,hagg,Result.andThen,run_load,hc]) hk
end
end
end
end Go.Proofs.YtkdjkngfnapjcaaGreatDoor
