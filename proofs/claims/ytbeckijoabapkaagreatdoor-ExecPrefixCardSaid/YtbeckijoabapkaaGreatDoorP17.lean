import Derived.Test.YtbeckijoabapkaaGreatDoorP16
import Derived.Deep.CutBlock
set_option linter.unusedSimpArgs false
set_option linter.unusedVariables false
set_option maxRecDepth 100000
set_option maxHeartbeats 16000000
section
namespace Go
open _root_.Go.Proofs.YtbeckijoabapkaaGreatDoor
open Go.RowKit
section
variable {P:Program} {ops:Array Oper} {Q:Exit→Act→World→Prop} {L0 L F:List Part} {w0 w:World}
theorem ZbK {j:Nat} {d:Option Tmp} {o:Oper} {a:Act} {K:Act→World→Prop} {t e:TypeId} {i:TypeInfo} {z:Value} {size:Nat} {kl kc:IntKind} (ho:ops[j]? =some o) (hd:o.dst=d) (hw:Region.wanted o (yielded ops a.tmps)=true) (l c:Operand) (hop:o.op=.makeSlice t l c) (ht:P.underlying t=some (.slice e)) (hi:P.info? e=some i) (hz:i.zero=some z) (hsize:i.size=size)
 (n:Nat) (hl:a.eval l=.int kl (n:Int)) (hc:a.eval c=.int kc (n:Int)) (hbytes:i.bytes * n≤281474976710656) (h63:n≤maxLen) (h:At L0 w0 L w)
 (hK:∀b w',At L0 w0 (Part.row e size (.slice (some ⟨b,0,none⟩) n n) n (madeCells z.cells (n * size)).toList::L) w'→K (a.put d (.slice (some ⟨b,0,none⟩) n n)) w'):wpOp P ops Q j K a w:=by
 subst hd;obtain⟨w',h1,h2,h3⟩:=run_make_full (P:=P) w w.heap.size t e i z size ht hi hz hsize kl kc n hbytes h63 (Nat.le_refl _);exact Zc4 ho hw (v:=.slice (some ⟨w.heap.size,0,none⟩) n n) (w':=w') (by simp[execOp,hop,hl,hc,h1,Result.andThen]) (hK _ w' (h.row_new (Zhk h3) h2))
end
end Go
namespace Go.Proofs.YtbeckijoabapkaaGreatDoor.Gr
open Go.RowKit
open Attr (A8 thro)
attribute [-go_sem] run_eql_struct run_neq_struct run_eqGuard_agg
theorem infoM:(Tryz.prog.info? 132).map (fun i=>(i.zero,i.size,i.bytes))=some (some (.map none),1,8):=by kernel_rfl
theorem infoS:(Tryz.prog.info? 24).map (fun i=>(i.zero,i.size,i.bytes))=some (some (.slice none 0 0),1,24):=by kernel_rfl
def zeroO:Wt:=⟨none,[]⟩
def zeroH:Hs:=⟨none,0,[]⟩
theorem nilO {L0 L:List Part} {w0 w:World} (h:At L0 w0 L w):∀n,At L0 w0 (restO (List.replicate n zeroO)::L) w
 |0=>h.to (Eqv.all [] L).symm
 |n + 1=>by
  have h1:=nilO h n;have h2:At L0 w0 (zeroO.part::restO (List.replicate n zeroO)::L) w:=h1.to (Eqv.all [] _).symm;rw[List.replicate_succ];exact h2.to (eqvO [] (List.replicate n zeroO) zeroO L).symm
theorem nilH {L0 L:List Part} {w0 w:World} (h:At L0 w0 L w):∀n,At L0 w0 (restH (List.replicate n zeroH)::L) w
 |0=>h.to (Eqv.all [] L).symm
 |n + 1=>by
  have h1:=nilH h n;have h2:At L0 w0 (rowX zeroH.v zeroH.hs::restH (List.replicate n zeroH)::L) w:=h1.row_nil 3 1;rw[List.replicate_succ];exact h2.to (eqvH [] (List.replicate n zeroH) zeroH L).symm
theorem madeO {L0 F:List Part} {w0 w:World} {v:Value} {n:Nat} (h:At L0 w0 (Part.row 132 1 v n (madeCells (Value.cells (.map none)) (n * 1)).toList::F) w):At L0 w0 (rowO v (List.replicate n zeroO)::restO (List.replicate n zeroO)::F) w:=by
 rw[ZeL Wt.cells 1 (fun _=>rfl) zeroO (Value.cells (.map none)) rfl n] at h;have h1:=nilO h n;have e:rowO v (List.replicate n zeroO)=Part.row 132 1 v n ((List.replicate n zeroO).flatMap Wt.cells):=by unfold rowO;rw[List.length_replicate];rfl
 rw[e];exact h1.perm (List.Perm.swap _ _ _)
theorem madeH {L0 F:List Part} {w0 w:World} {v:Value} {n:Nat} (h:At L0 w0 (Part.row 24 1 v n (madeCells (Value.cells (.slice none 0 0)) (n * 1)).toList::F) w):At L0 w0 (rowH v (List.replicate n zeroH)::restH (List.replicate n zeroH)::F) w:=by
 rw[ZeL Hs.cells 1 (fun _=>rfl) zeroH (Value.cells (.slice none 0 0)) rfl n] at h;have h1:=nilH h n;have e:rowH v (List.replicate n zeroH)=Part.row 24 1 v n ((List.replicate n zeroH).flatMap Hs.cells):=by unfold rowH;rw[List.length_replicate];rfl
 rw[e];exact h1.perm (List.Perm.swap _ _ _)
theorem Zoj (a:Option Nat) (w:World):(binOp .eql 132 (.map a) (.map none)).run Tryz.prog w=.ok (.bool a.isNone) w:=run_eql_map_nil w _ _ _ _ Tryz.underlying132
def CutW (w:World) (nv:Value) (N:List Nd) (n:Nat) (u4 u5:Value) (wc:World):Prop:=
 ∃bO bH:Nat,u4=.slice (some ⟨bO,0,none⟩) (n + 1) (n + 1)∧u5=.slice (some ⟨bH,0,none⟩) (n + 1) (n + 1)∧At [rowNd nv N,restX N] w [rowO u4 (List.replicate (n + 1) zeroO),rowH u5 (List.replicate (n + 1) zeroH),restO (List.replicate (n + 1) zeroO),restH (List.replicate (n + 1) zeroH),rowNd nv N,restX N] wc
def CutH (w:World) (nv ov hv:Value) (N:List Nd) (n b7 i:Nat) (d:Nd) (O:List Wt) (H:List Hs) (hs:List Nat) (wc:World):Prop:=
 ∃(ha2:Option Addr) (kc2:Nat) (H1:List Hs),ha2≠none∧H.set d.knot ⟨ha2,kc2,hs++[i]⟩=H1∧At [rowNd nv N,restX N] w [restH H1,Part.row 24 1 hv (n + 1) (flatH H1),Part.cells b7 [.int .i64 d.id.1,.int .i64 d.id.2,.slice d.na d.nx.length d.nc,.int .i64 d.low,.int .i64 d.num,.bool d.on,.int .i64 d.knot] 131,Part.row 132 1 ov (n + 1) (flatO O),restO O,rowNd nv N,restX N] wc
def CutO (w:World) (nv ov hv:Value) (N:List Nd) (n b7:Nat) (d:Nd) (O:List Wt) (H1:List Hs) (ws:List Nat) (wc:World):Prop:=
 ∃(mm:Nat) (O1:List Wt),O.set d.knot ⟨some mm,ws⟩=O1∧At [rowNd nv N,restX N] w [restO O1,Part.row 132 1 ov (n + 1) (flatO O1),restH H1,Part.row 24 1 hv (n + 1) (flatH H1),Part.cells b7 [.int .i64 d.id.1,.int .i64 d.id.2,.slice d.na d.nx.length d.nc,.int .i64 d.low,.int .i64 d.num,.bool d.on,.int .i64 d.knot] 131,rowNd nv N,restX N] wc
theorem lawN:Go.Maps.Keyed Tryz.prog 3:=Go.Maps.int_keyed Tryz.underlying3
def knF (N:List Nd) (i:Nat):Nat:=match N[i]? with
 |some d=>d.knot
 |none=>0
def ZnO (N:List Nd) (i k z:Nat):Prop:=∃j,j < i∧knF N j=k∧∃y ∈ nxF N j,knF N y=z∧z≠k
structure WtIn (N:List Nd) (n i:Nat) (O:List Wt) (H:List Hs):Prop where
 lo:O.length=n + 1
 lh:H.length=n + 1
 has:∀k x,H[k]? =some x→x.hs=(List.range i).filter (fun j=>knF N j==k)∧(x.ha=none↔x.hs=[])
 open_:∀k o,O[k]? =some o→(∀z,z ∈ o.ws↔ZnO N i k z)∧(o.mb=none→o.ws=[])
def WtRel (w:World) (nv:Value) (N:List Nd) (n:Nat) (ov hv:Value) (k:Nat) (u:Value) (wr:World):Prop:=
 ∃(i:Nat) (O:List Wt) (H:List Hs),u=.int .i64 i∧i + k=N.length∧WtIn N n i O H∧At [rowNd nv N,restX N] w [rowO ov O,rowH hv H,restO O,restH H,rowNd nv N,restX N] wr
def Zd2 (w:World) (nv:Value) (N:List Nd) (n:Nat) (e:Ending) (w':World):Prop:=
 ∃(ov hv:Value) (O:List Wt) (H:List Hs),e=.returned (.tuple #[ov,hv])∧WtIn N n N.length O H∧At [rowNd nv N,restX N] w [rowO ov O,rowH hv H,restO O,restH H,rowNd nv N,restX N] w'
theorem Zkl {α:Type} {n k:Nat} {x y:α} (h:(List.replicate n x)[k]? =some y):y=x:=by
 rw[List.getElem?_replicate] at h;split at h
 · exact(Option.some.inj h).symm
 cases h
theorem ZlR (N:List Nd) (n:Nat):WtIn N n 0 (List.replicate (n + 1) zeroO) (List.replicate (n + 1) zeroH):=by
 refine⟨by simp,by simp,fun k x h=> ?_,fun k o h=> ?_⟩
 · cases Zkl h;exact⟨rfl,⟨fun _=>rfl,fun _=>rfl⟩⟩
 cases Zkl h;refine⟨fun z=>⟨nofun,?_⟩,fun _=>rfl⟩;rintro⟨j,hj,_⟩
 omega
theorem Zdv (O:List Wt):flatO O=(O.map Wt.mb).map Value.map:=by
 unfold flatO
 induction O with
 |nil=>rfl
 |cons x l ih=>rw[List.flatMap_cons,ih];rfl
theorem Zlc {O:List Wt} {k:Nat} {o:Wt} (h:O[k]? =some o) (ws1:List Nat):flatO (O.set k ⟨o.mb,ws1⟩)=flatO O:=by
 rw[Zdv,Zdv,List.map_set,Zdf (by rw[List.getElem?_map,h];rfl)]
theorem keyN {k:Nat} (h:k≤100000):∃l,keyOf Tryz.prog 3 (.int .i64 (k:Int))=some l:=
 ⟨_,Go.Maps.keyOf_int_mk Tryz.underlying3 (by simp[Lit.wf,IntKind.min,IntKind.max,IntKind.signed,IntKind.bits];omega)⟩
theorem ZlT (l:List Nat) (k:Nat):wsE l++[(.int .i64 (k:Int),.int .i64 1)]=wsE (l++[k]):=by simp[wsE]
theorem Znt {l:List Nat} {k:Nat} (h:k ∉ l):∀p ∈ wsE l,p.1≠.int .i64 (k:Int):=by
 intro p hp e;obtain⟨z,hz,rfl⟩:=List.mem_map.1 hp;injection e with _ e2
 exact h (by rw[←Int.ofNat.inj e2];exact hz)
theorem ZnR {l:List Nat} {k:Nat} (h:k ∈ l):∃l1 l2,wsE l=l1++(.int .i64 (k:Int),.int .i64 1)::l2:=by
 obtain⟨a,b,e⟩:=List.append_of_mem h;exact⟨wsE a,wsE b,by rw[e];simp[wsE]⟩
def WsIn (N:List Nd) (d:Nd) (ws ws1:List Nat) (j:Nat):Prop:=∀z,z ∈ ws1↔z ∈ ws∨∃y ∈ d.nx.take j,knF N y=z∧z≠d.knot
def WiRel (w:World) (nv ov hv:Value) (N:List Nd) (n b7:Nat) (d:Nd) (O1:List Wt) (H1:List Hs) (mm:Nat) (ws:List Nat) (k:Nat) (u:Value) (wr:World):Prop:=
 ∃(j:Nat) (ws1:List Nat),u=.int .i64 j∧j + k=d.nx.length∧WsIn N d ws ws1 j∧At [rowNd nv N,restX N] w [restO (O1.set d.knot ⟨some mm,ws1⟩),Part.row 132 1 ov (n + 1) (flatO O1),restH H1,Part.row 24 1 hv (n + 1) (flatH H1),Part.cells b7 [.int .i64 d.id.1,.int .i64 d.id.2,.slice d.na d.nx.length d.nc,.int .i64 d.low,.int .i64 d.num,.bool d.on,.int .i64 d.knot] 131,rowNd nv N,restX N] wr
theorem ZnQ {N:List Nd} {n i:Nat} {O:List Wt} {H:List Hs} (h:WtIn N n i O H) {d:Nd} {x:Hs} {mb:Option Nat} {ws ws1:List Nat} {ha2:Option Addr} {kc2 mm:Nat} (hd:N[i]? =some d) (hx:H[d.knot]? =some x) (ho:O[d.knot]? =some ⟨mb,ws⟩)
 (hws:∀z,z ∈ ws1↔z ∈ ws∨∃y ∈ d.nx,knF N y=z∧z≠d.knot) (hh:ha2≠none):WtIn N n (i + 1) (O.set d.knot ⟨some mm,ws1⟩) (H.set d.knot ⟨ha2,kc2,x.hs++[i]⟩):=by
 have hkn:knF N i=d.knot:=by unfold knF;rw[hd]
 have hnx:nxF N i=d.nx:=by unfold nxF;rw[hd]
 refine⟨by rw[List.length_set,h.lo],by rw[List.length_set,h.lh],fun k x' hx'=> ?_,fun k o' ho'=> ?_⟩
 · rw[List.range_succ,List.filter_append];by_cases hk:d.knot=k
   · subst hk;rw[List.getElem?_set_self (List.getElem?_eq_some_iff.1 hx).1] at hx';cases hx';refine⟨?_,⟨fun e=>absurd e hh,fun e=>by simp at e⟩⟩;rw[(h.has _ _ hx).1];simp[hkn]
   rw[List.getElem?_set_ne hk] at hx';have:=h.has _ _ hx';refine⟨?_,this.2⟩;rw[this.1];simp[hkn,hk]
 by_cases hk:d.knot=k
 · subst hk;rw[List.getElem?_set_self (List.getElem?_eq_some_iff.1 ho).1] at ho';cases ho';refine⟨fun z=> ?_,nofun⟩;rw[hws z,(h.open_ _ _ ho).1 z];constructor
   · rintro(⟨j,hj,h1,h2⟩|⟨y,hy,h1,h2⟩)
     · exact⟨j,by omega,h1,h2⟩
     exact⟨i,by omega,hkn,y,by rw[hnx];exact hy,h1,h2⟩
   rintro⟨j,hj,h1,y,hy,h2,h3⟩
   by_cases e:j=i
   · subst e;exact .inr ⟨y,by rw[hnx] at hy;exact hy,h2,h3⟩
   exact .inl ⟨j,by omega,h1,y,hy,h2,h3⟩
 rw[List.getElem?_set_ne hk] at ho';have:=h.open_ _ _ ho';refine⟨fun z=> ?_,this.2⟩;rw[this.1 z]
 constructor
 · rintro⟨j,hj,h1,h2⟩
   exact⟨j,by omega,h1,h2⟩
 rintro⟨j,hj,h1,h2⟩
 by_cases e:j=i
 · subst e;exact absurd (hkn.symm.trans h1) hk
 exact⟨j,by omega,h1,h2⟩
theorem Zch {w:World} {nv:Value} {N:List Nd} (h:Sep [rowNd nv N,restX N] w) (n:Nat) (hk:∀(i:Nat) (d:Nd),N[i]? =some d→d.knot≤n) (hn:∀i,i < N.length→∀y ∈ nxF N i,y < N.length) (hnx:∀(i:Nat) (d:Nd),N[i]? =some d→d.nx.length≤7) (hl:N.length≤1000) (hn9:n≤9000):
 Calls Tryz.prog 56 #[nv,.int .i64 n] w (Zd2 w nv N n):=by
 have hm:Tryz.prog.follows .mixedOrders=true:=by kernel_rfl
 obtain⟨i0,hi0,hz0,hz1,hz2⟩:=info_parts infoM;obtain⟨i1,hi1,hz3,hz4,hz5⟩:=info_parts infoS;obtain⟨i2,hi2,hz6,hz7,hz8⟩:=info_parts infoX;have hA:=At.start h;have hk0:=Hd hk;have hn0:=Hd hn;have hnx0:=Hd hnx;clear h hk hn hnx;obtain⟨axn,capn,hnv,haxn,hcpn,_⟩:=hA.row_form (e:=131) (size:=7) (n:=N.length) (v:=nv) (xs:=flatN N) sZ;have haxn':=Hd haxn;subst hnv;clear haxn;have hw1:IntKind.i64.wrap ((n:Int) + 1)=((n + 1:Nat):Int):=by rw[IntKind.wrap_i64]<;>omega
 obtain⟨hA,hF⟩:=fZ hA;go_enter Tryz.func56,Tryz.ntmps56;go_upto_region 1 with fail
 go_cut [4,5] from 10 to 15 (CutW w (.slice axn N.length capn) N n)
 case first=>
  (try go_frame);replace hA:=hA.drew;clear hF;refine wp_region_held (S:=fun _=>True) hm ?_;change wpAnyH _ _ _ _ _ 8 _ _ (World.drew _);generalize World.drew _=wd at *
  refine tP 0 10 (.int .i64 n) (s:=trivial) (h:= ?_);go_frame;refine tZ 1 11 (.int .i64 ((n + 1:Nat):Int)) (r:=(fun w' hS=>by simp[execOp,go_sem,Act.eval,Act.put,hw1])) (s:=trivial) (h:= ?_);go_frame;refine tP 3 13 (.int .i64 n) (s:=trivial) (h:= ?_);go_frame;refine tZ 4 14 (.int .i64 ((n + 1:Nat):Int)) (r:=(fun w' hS=>by simp[execOp,go_sem,Act.eval,Act.put,hw1])) (s:=trivial) (h:= ?_);go_frame;refine ZaF (i:=2) (j:=5) (by kernel_rfl) ?_ ?_
  · skip;refine ZbK (j:=2) (d:=some 12) (t:=125) (e:=132) rfl rfl (by kernel_rfl) _ _ rfl Tryz.underlying125 hi0 hz0 hz1 (n + 1) rfl rfl (by rw[hz2];omega) (by unfold maxLen;omega) hA ?_;intro bO w1 hB;have hC:=madeO hB;clear hA hB;have hA:=hC;clear hC;refine⟨trivial,?_⟩;(try go_frame);refine tP 6 4 (.slice (some ⟨bO,0,none⟩) (n + 1) (n + 1)) (s:=trivial) (h:= ?_);go_frame;refine Zab (i:=5) (by kernel_rfl) ?_;refine ZbK (j:=5) (d:=some 15) (t:=126) (e:=24) rfl rfl (by kernel_rfl) _ _ rfl Tryz.underlying126 hi1 hz3 hz4 (n + 1) rfl rfl (by rw[hz5];omega) (by unfold maxLen;omega) hA ?_;intro bH w1 hB;have hC:=madeH hB;clear hA hB;have hA:=hC;clear hC;refine⟨trivial,?_⟩;(try go_frame);refine tP 7 5 (.slice (some ⟨bH,0,none⟩) (n + 1) (n + 1)) (s:=trivial) (h:= ?_);go_frame;refine wpAnyH_done (by kernel_rfl) ?_ _;go_wp2_with fail;go_meet;case rel=>exact⟨bO,bH,rfl,rfl,hA.pick pZ⟩
  skip;refine ZbK (j:=5) (d:=some 15) (t:=126) (e:=24) rfl rfl (by kernel_rfl) _ _ rfl Tryz.underlying126 hi1 hz3 hz4 (n + 1) rfl rfl (by rw[hz5];omega) (by unfold maxLen;omega) hA ?_;intro bH w1 hB;have hC:=madeH hB;clear hA hB;have hA:=hC;clear hC;refine⟨trivial,?_⟩;(try go_frame);refine Zab (i:=2) (by kernel_rfl) ?_;refine ZbK (j:=2) (d:=some 12) (t:=125) (e:=132) rfl rfl (by kernel_rfl) _ _ rfl Tryz.underlying125 hi0 hz0 hz1 (n + 1) rfl rfl (by rw[hz2];omega) (by unfold maxLen;omega) hA ?_;intro bO w1 hB;have hC:=madeO hB;clear hA hB;have hA:=hC;clear hC;refine⟨trivial,?_⟩;(try go_frame);refine tP 6 4 (.slice (some ⟨bO,0,none⟩) (n + 1) (n + 1)) (s:=trivial) (h:= ?_);go_frame;refine tP 7 5 (.slice (some ⟨bH,0,none⟩) (n + 1) (n + 1)) (s:=trivial) (h:= ?_);go_frame;refine wpAnyH_done (by kernel_rfl) ?_ _;go_wp2_with fail;go_meet;case rel=>exact⟨bO,bH,rfl,rfl,hA.pick pZ⟩
 case rest=>
  obtain⟨bO,bH,rfl,rfl,hB⟩:=hcut;replace hA:=hB;clear hF hB;obtain⟨hA,hF⟩:=fZ hA;go_wp2_with fail;(try go_frame);go_loopg [18] N.length (WtRel w (.slice axn N.length capn) N n (.slice (some ⟨bO,0,none⟩) (n + 1) (n + 1)) (.slice (some ⟨bH,0,none⟩) (n + 1) (n + 1)))
  case atStart=>exact⟨0,_,_,rfl,by omega,ZlR N n,hA.pick pZ⟩
  case round=>
   obtain⟨i,O,H,rfl,hik,hwt,hB⟩:=hrel;have hwt':=Hd hwt;have hlo:=hwt.lo;have hlh:=hwt.lh;clear hF hA hwt;have hA:=hB;clear hB;by_cases hi:i < N.length
   · skip
     obtain⟨d,hd⟩:∃d,N[i]? =some d:=⟨_,List.getElem?_eq_getElem hi⟩
     have hkn:=hk0.out i d hd;have hd7:=hnx0.out i d hd
     obtain⟨x,hx⟩:∃x,H[d.knot]? =some x:=⟨_,List.getElem?_eq_getElem (by omega)⟩
     obtain⟨o,ho⟩:∃o,O[d.knot]? =some o:=⟨_,List.getElem?_eq_getElem (by omega)⟩
     have hxl:=Hd (show x.hs.length≤1000 from by rw[(hwt'.out.has _ _ hx).1];have:=List.length_filter_le (fun j=>knF N j==d.knot) (List.range i);rw[List.length_range] at this;omega);have hkI:(d.knot:Int) < ((n + 1:Nat):Int):=by omega
     obtain⟨bn,offn,hax2,hce2⟩:=ZaZ Nd.cells_len (by omega) (l:=N) (x:=d) (hA.row_reads (v:=.slice axn N.length capn) (n:=N.length) (xs:=flatN N) sZ) hd;subst hax2;obtain rfl:offn=0:=by obtain⟨g0,c0,hg0,_⟩:=hA.row_open (e:=131) (size:=7) (ax:=some ⟨bn,offn,none⟩) (cap:=capn) (n:=N.length) (xs:=flatN N) sZ (by omega);cases hg0;rfl
     have hr2:=Hd (show ∀(k:Nat) u,([.int .i64 d.id.1,.int .i64 d.id.2,.slice d.na d.nx.length d.nc,.int .i64 d.low,.int .i64 d.num,.bool d.on,.int .i64 d.knot]:List Value)[k]? =some u→wr.cell? ⟨bn,i * 7 + k,none⟩=some u from fun k u hk=>by have:=hce2 k u hk;rw[Nat.zero_add] at this;exact this);clear hce2;have hrh:rowH (.slice (some ⟨bH,0,none⟩) (n + 1) (n + 1)) H=Part.row 24 1 (.slice (some ⟨bH,0,none⟩) (n + 1) (n + 1)) (n + 1) (flatH H):=by unfold rowH;rw[hlh]
     have hro:rowO (.slice (some ⟨bO,0,none⟩) (n + 1) (n + 1)) O=Part.row 132 1 (.slice (some ⟨bO,0,none⟩) (n + 1) (n + 1)) (n + 1) (flatO O):=by unfold rowO;rw[hlo]
     rw[hrh,hro] at hA;obtain⟨gH,c,hg1,hc1,hc2,hc3,hc4,hB⟩:=hA.row_open (e:=24) (size:=1) (ax:=some ⟨bH,0,none⟩) (cap:=n + 1) (n:=n + 1) (xs:=flatH H) sZ (by omega);cases hg1;replace hA:=hB;clear hB;have hcx:c[d.knot]? =some (.slice x.ha x.hs.length x.hc):=by have:=Zaq (enc:=Hs.cells) (size:=1) (fun _=>rfl) (c:=c) (l:=H) (by rw[hlh];exact hc4) hx 0 (by omega);simpa [Hs.cells] using this
     have hsp:=Hd (ZbH hx);replace hA:=outH hsp.out hA sZ;simp only[Hs.v] at hA;have hd':=Hd hd;have hx':=Hd hx;have ho':=Hd ho;have hlo':=Hd hlo;have hlh':=Hd hlh;have hc4':=Hd hc4;clear hd hx ho hlo hlh hc4 hrh hro;obtain⟨hA,hF⟩:=fZ hA
     go_upto_region 5 with(first|((with_reducible refine gal ?_);refine g9 hA ?_;clear hF hA;intro b7 w1 hA hb7 hF)|((with_reducible show wpList _ _ _ ({dst:=some 22,op:=Op.load _ _,type:=_,pos:=_,after:=_,guard:=_}::_) _ _);refine Zad (vs:=[.int .i64 d.id.1,.int .i64 d.id.2,.slice d.na d.nx.length d.nc,.int .i64 d.low,.int .i64 d.num,.bool d.on,.int .i64 d.knot]) rfl rfl (by(try simp only[Act.eval,eV])<;>exact rfl) hr2.out (by kernel_rfl) (by kernel_rfl) ?_)|((with_reducible refine gst ?_);refine wTz hA ?_;clear hF hA;intro w1 hA hF))
     go_frame;go_cut [] from 23 to 34 (CutH w (.slice (some ⟨bn,0,none⟩) N.length capn) (.slice (some ⟨bO,0,none⟩) (n + 1) (n + 1)) (.slice (some ⟨bH,0,none⟩) (n + 1) (n + 1)) N n b7 i d O H x.hs)
     case first=>
      (try go_frame);replace hA:=hA.drew;clear hF;refine wp_region_held (S:=fun w'=>Zaa w' b7 [.int .i64 d.id.1,.int .i64 d.id.2,.slice d.na d.nx.length d.nc,.int .i64 d.low,.int .i64 d.num,.bool d.on,.int .i64 d.knot] 131) hm ?_;change wpAnyH _ _ _ _ _ 13 _ _ (World.drew _);generalize World.drew _=w2 at *
      have hS0:(fun w'=>Zaa w' b7 [.int .i64 d.id.1,.int .i64 d.id.2,.slice d.na d.nx.length d.nc,.int .i64 d.low,.int .i64 d.num,.bool d.on,.int .i64 d.knot] 131) w2:=hA.get (A:=Part.cells b7 [.int .i64 d.id.1,.int .i64 d.id.2,.slice d.na d.nx.length d.nc,.int .i64 d.low,.int .i64 d.num,.bool d.on,.int .i64 d.knot] 131) sZ;refine tP 0 23 (.slice (some ⟨bH,0,none⟩) (n + 1) (n + 1)) (s:=hS0) (h:= ?_);go_frame;refine tP 1 24 (.pointer (some ⟨b7,6,none⟩)) (s:=hS0) (h:= ?_);go_frame;refine tZ 2 25 (.int .i64 d.knot) (r:=(fun w' hS=>Zac (ty:=3) (b:=b7) (j:=6) rfl (by exact rfl) hS (by kernel_rfl) rfl)) (s:=hS0) (h:= ?_);go_frame;refine tP 3 26 (.slice (some ⟨bH,0,none⟩) (n + 1) (n + 1)) (s:=hS0) (h:= ?_);go_frame;refine tP 4 27 (.pointer (some ⟨b7,6,none⟩)) (s:=hS0) (h:= ?_);go_frame;refine tZ 5 28 (.int .i64 d.knot) (r:=(fun w' hS=>Zac (ty:=3) (b:=b7) (j:=6) rfl (by exact rfl) hS (by kernel_rfl) rfl)) (s:=hS0) (h:= ?_);go_frame;refine tZ 6 29 (.pointer (some ⟨bH,d.knot,none⟩)) (r:=(fun w' hS=>by simp[execOp,go_sem,Act.eval,Act.put];omega)) (s:=hS0) (h:= ?_);go_frame;refine tP 8 31 (.int .i64 i) (s:=hS0) (h:= ?_);go_frame;refine ZaF (i:=7) (j:=9) (by kernel_rfl) ?_ ?_
      · skip;refine Zai (i:=7) (d:=some 30) (b:=bH) (j:=d.knot) rfl rfl (by kernel_rfl) rfl (by exact rfl) hA sZ (by kernel_rfl) hcx ?_;refine⟨hS0,?_⟩;(try go_frame);refine Zab (i:=9) (by kernel_rfl) ?_;refine Zgc (i:=9) (d:=some 32) (e:=3) rfl rfl rfl rfl (by(try simp only[Act.eval,eV])<;>exact rfl) (vs:=[.int .i64 i]) (fun _=>by kernel_rfl) hA ?_;intro b32 w1 hB;have hS0:Zaa w1 b7 [.int .i64 d.id.1,.int .i64 d.id.2,.slice d.na d.nx.length d.nc,.int .i64 d.low,.int .i64 d.num,.bool d.on,.int .i64 d.knot] 131:=hB.get (A:=Part.cells b7 [.int .i64 d.id.1,.int .i64 d.id.2,.slice d.na d.nx.length d.nc,.int .i64 d.low,.int .i64 d.num,.bool d.on,.int .i64 d.knot] 131) sZ;clear hA;have hA:=hB;clear hB;refine⟨hS0,?_⟩;(try go_frame);refine Zab (i:=10) (by kernel_rfl) ?_;refine Zb3 (k:=10) (d:=some 33) (e:=3) (size:=1) (v:=.slice x.ha x.hs.length x.hc) (xs:=intL x.hs) (n:=x.hs.length) (m:=1) (news:=[.int .i64 i]) rfl rfl rfl rfl _ _ 24 rfl Tryz.underlying24 hi2 hz6 hz7 hz8 rfl (by omega) hA sR (by(try simp only[Act.eval,eV])<;>exact rfl) (by(try simp only[Act.eval,eV])<;>exact rfl) rfl (hA.cells_reads sR _ _) (fun u hu=>by rw[List.mem_singleton.1 hu];rfl) (by have:=hxl.out;unfold maxLen;omega) (by have:=hxl.out;omega) ?_;intro v33 w1 hB;rw[Zdh] at hB;obtain⟨ha2,kc2,hv33,ha2n,_,_⟩:=hB.row_form .here;subst hv33;have hS0:Zaa w1 b7 [.int .i64 d.id.1,.int .i64 d.id.2,.slice d.na d.nx.length d.nc,.int .i64 d.low,.int .i64 d.num,.bool d.on,.int .i64 d.knot] 131:=hB.get (A:=Part.cells b7 [.int .i64 d.id.1,.int .i64 d.id.2,.slice d.na d.nx.length d.nc,.int .i64 d.low,.int .i64 d.num,.bool d.on,.int .i64 d.knot] 131) sZ;clear hA;have hA:=hB;clear hB;refine⟨hS0,?_⟩;(try go_frame);refine tZ 11 34 (.pointer (some ⟨bH,d.knot,none⟩)) (r:=(fun w' hS=>by simp[execOp,go_sem,Act.eval,Act.put];omega)) (s:=hS0) (h:= ?_);go_frame;refine Zab (i:=12) (by kernel_rfl) ?_;refine Zaf (b:=bH) (j:=d.knot) (vs:=[.slice ha2 (x.hs++[i]).length kc2]) rfl rfl (by kernel_rfl) rfl (by exact rfl) (by exact rfl) rfl hA sZ (by kernel_rfl) rfl (by show d.knot + 1≤c.length;omega) ?_;intro w3 hB;have hS0:Zaa w3 b7 [.int .i64 d.id.1,.int .i64 d.id.2,.slice d.na d.nx.length d.nc,.int .i64 d.low,.int .i64 d.num,.bool d.on,.int .i64 d.knot] 131:=hB.get (A:=Part.cells b7 [.int .i64 d.id.1,.int .i64 d.id.2,.slice d.na d.nx.length d.nc,.int .i64 d.low,.int .i64 d.num,.bool d.on,.int .i64 d.knot] 131) sZ;clear hA;have hA:=hB;clear hB;refine⟨hS0,?_⟩;(try go_frame);refine wpAnyH_done (by kernel_rfl) ?_ _;(try go_frame);clear hS0;have hw5:=ZaL (enc:=Hs.cells) (size:=1) (fun _=>rfl) (c:=c) (l:=H) (by rw[hlh'.out];exact hc4'.out) (o:=0) (x':=(⟨ha2,kc2,x.hs++[i]⟩:Hs)) (vs:=[.slice ha2 (x.hs++[i]).length kc2]) hx'.out rfl (by show 0 + 1≤1;omega);rw[show d.knot * 1 + 0=d.knot from by omega] at hw5
        obtain⟨H1,hH1⟩:∃z,H.set d.knot (⟨ha2,kc2,x.hs++[i]⟩:Hs)=z:=⟨_,rfl⟩
        have hl1:H1.length=n + 1:=by rw[←hH1,List.length_set,hlh'.out]
        rw[hH1,hlh'.out] at hw5;have hB:=hA.row_shut (e:=24) (size:=1) (g:=bH) (n:=n + 1) (cap:=n + 1) (xs:=flatH H1) sZ (by rw[Zan];exact hc3) (Nat.le_refl _) hc2 hw5;have hsp2:H1=H.take d.knot++⟨ha2,kc2,x.hs++[i]⟩::H.drop (d.knot + 1):=by rw[←hH1,ZdX hx'.out]
        have hC:=inH (d:=⟨ha2,kc2,x.hs++[i]⟩) hsp2 hB sZ sZ;have hH1':=Hd hH1;clear hA hB hw5 hH1 hsp2;have hA:=hC;clear hC;go_wp2_with fail;go_meet;case rel=>exact⟨ha2,kc2,H1,fun e=>by have:=ha2n e;simp at this,hH1'.out,hA.pick pZ⟩
      skip;refine Zgc (i:=9) (d:=some 32) (e:=3) rfl rfl rfl rfl (by(try simp only[Act.eval,eV])<;>exact rfl) (vs:=[.int .i64 i]) (fun _=>by kernel_rfl) hA ?_;intro b32 w1 hB;have hS0:Zaa w1 b7 [.int .i64 d.id.1,.int .i64 d.id.2,.slice d.na d.nx.length d.nc,.int .i64 d.low,.int .i64 d.num,.bool d.on,.int .i64 d.knot] 131:=hB.get (A:=Part.cells b7 [.int .i64 d.id.1,.int .i64 d.id.2,.slice d.na d.nx.length d.nc,.int .i64 d.low,.int .i64 d.num,.bool d.on,.int .i64 d.knot] 131) sZ;clear hA;have hA:=hB;clear hB;refine⟨hS0,?_⟩;(try go_frame);refine Zab (i:=7) (by kernel_rfl) ?_;refine Zai (i:=7) (d:=some 30) (b:=bH) (j:=d.knot) rfl rfl (by kernel_rfl) rfl (by exact rfl) hA sZ (by kernel_rfl) hcx ?_;refine⟨hS0,?_⟩;(try go_frame);refine Zab (i:=10) (by kernel_rfl) ?_;refine Zb3 (k:=10) (d:=some 33) (e:=3) (size:=1) (v:=.slice x.ha x.hs.length x.hc) (xs:=intL x.hs) (n:=x.hs.length) (m:=1) (news:=[.int .i64 i]) rfl rfl rfl rfl _ _ 24 rfl Tryz.underlying24 hi2 hz6 hz7 hz8 rfl (by omega) hA sR (by(try simp only[Act.eval,eV])<;>exact rfl) (by(try simp only[Act.eval,eV])<;>exact rfl) rfl (hA.cells_reads sR _ _) (fun u hu=>by rw[List.mem_singleton.1 hu];rfl) (by have:=hxl.out;unfold maxLen;omega) (by have:=hxl.out;omega) ?_;intro v33 w1 hB;rw[Zdh] at hB;obtain⟨ha2,kc2,hv33,ha2n,_,_⟩:=hB.row_form .here;subst hv33;have hS0:Zaa w1 b7 [.int .i64 d.id.1,.int .i64 d.id.2,.slice d.na d.nx.length d.nc,.int .i64 d.low,.int .i64 d.num,.bool d.on,.int .i64 d.knot] 131:=hB.get (A:=Part.cells b7 [.int .i64 d.id.1,.int .i64 d.id.2,.slice d.na d.nx.length d.nc,.int .i64 d.low,.int .i64 d.num,.bool d.on,.int .i64 d.knot] 131) sZ;clear hA;have hA:=hB;clear hB;refine⟨hS0,?_⟩;(try go_frame);refine tZ 11 34 (.pointer (some ⟨bH,d.knot,none⟩)) (r:=(fun w' hS=>by simp[execOp,go_sem,Act.eval,Act.put];omega)) (s:=hS0) (h:= ?_);go_frame;refine Zab (i:=12) (by kernel_rfl) ?_;refine Zaf (b:=bH) (j:=d.knot) (vs:=[.slice ha2 (x.hs++[i]).length kc2]) rfl rfl (by kernel_rfl) rfl (by exact rfl) (by exact rfl) rfl hA sZ (by kernel_rfl) rfl (by show d.knot + 1≤c.length;omega) ?_;intro w3 hB;have hS0:Zaa w3 b7 [.int .i64 d.id.1,.int .i64 d.id.2,.slice d.na d.nx.length d.nc,.int .i64 d.low,.int .i64 d.num,.bool d.on,.int .i64 d.knot] 131:=hB.get (A:=Part.cells b7 [.int .i64 d.id.1,.int .i64 d.id.2,.slice d.na d.nx.length d.nc,.int .i64 d.low,.int .i64 d.num,.bool d.on,.int .i64 d.knot] 131) sZ;clear hA;have hA:=hB;clear hB;refine⟨hS0,?_⟩;(try go_frame);refine wpAnyH_done (by kernel_rfl) ?_ _;(try go_frame);clear hS0;have hw5:=ZaL (enc:=Hs.cells) (size:=1) (fun _=>rfl) (c:=c) (l:=H) (by rw[hlh'.out];exact hc4'.out) (o:=0) (x':=(⟨ha2,kc2,x.hs++[i]⟩:Hs)) (vs:=[.slice ha2 (x.hs++[i]).length kc2]) hx'.out rfl (by show 0 + 1≤1;omega);rw[show d.knot * 1 + 0=d.knot from by omega] at hw5
      obtain⟨H1,hH1⟩:∃z,H.set d.knot (⟨ha2,kc2,x.hs++[i]⟩:Hs)=z:=⟨_,rfl⟩
      have hl1:H1.length=n + 1:=by rw[←hH1,List.length_set,hlh'.out]
      rw[hH1,hlh'.out] at hw5;have hB:=hA.row_shut (e:=24) (size:=1) (g:=bH) (n:=n + 1) (cap:=n + 1) (xs:=flatH H1) sZ (by rw[Zan];exact hc3) (Nat.le_refl _) hc2 hw5;have hsp2:H1=H.take d.knot++⟨ha2,kc2,x.hs++[i]⟩::H.drop (d.knot + 1):=by rw[←hH1,ZdX hx'.out]
      have hC:=inH (d:=⟨ha2,kc2,x.hs++[i]⟩) hsp2 hB sZ sZ;have hH1':=Hd hH1;clear hA hB hw5 hH1 hsp2;have hA:=hC;clear hC;go_wp2_with fail;go_meet;case rel=>exact⟨ha2,kc2,H1,fun e=>by have:=ha2n e;simp at this,hH1'.out,hA.pick pZ⟩
     case rest=>
      obtain⟨ha2,kc2,H1,hha2,hH1,hB⟩:=hcut;clear hA;have hA:=hB;clear hB;have hH1':=Hd hH1;have hha2':=Hd hha2;clear hH1 hha2;obtain⟨gO,cO,hg1,ho1,ho2,ho3,ho4,hB⟩:=hA.row_open (e:=132) (size:=1) (ax:=some ⟨bO,0,none⟩) (cap:=n + 1) (n:=n + 1) (xs:=flatO O) sZ (by omega);cases hg1;replace hA:=hB;clear hB;have hco:cO[d.knot]? =some (.map o.mb):=by have:=Zaq (enc:=Wt.cells) (size:=1) (fun _=>rfl) (c:=cO) (l:=O) (by rw[hlo'.out];exact ho4) ho'.out 0 (by omega);simpa [Wt.cells] using this
      have ho4':=Hd ho4;clear ho4;have hempty:=Hd ((hwt'.out.open_ _ _ ho'.out).2);obtain⟨mb,ws⟩:=o;have hspO:=Hd (ZbH ho'.out);replace hA:=outO hspO.out hA sZ;have hnq:∀w,(binOp .eql 132 (.map mb) (.map none)).run Tryz.prog w=.ok (.bool mb.isNone) w:=fun w=>Zoj mb w;have hkI2:(d.knot:Int) < (n:Int) + 1:=by omega
      obtain⟨hA,hF⟩:=fZ hA;go_upto_if 40 with fail
      (try go_frame);go_cut [] from 41 to 45 (CutO w (.slice (some ⟨bn,0,none⟩) N.length capn) (.slice (some ⟨bO,0,none⟩) (n + 1) (n + 1)) (.slice (some ⟨bH,0,none⟩) (n + 1) (n + 1)) N n b7 d O H1 ws)
      case first=>
       cases mb with
       |none=>
        go_wp2_with (first|((with_reducible refine gmm ?_);refine Zav Tryz.prog 3 rfl rfl hA ?_;intro ms w1 hB hms;replace hA:=hB;clear hF hB;obtain⟨hA,hF⟩:=fZ hA)|((with_reducible show wpList _ _ _ ({dst:=none,op:=Op.store _ (Operand.tmp 45) _,type:=_,pos:=_,after:=_,guard:=_}::_) _ _);refine Zax (b:=bO) (j:=d.knot) (c:=cO) (vs:=[.map (some ms)]) rfl rfl rfl (by(try simp only[Act.eval,eV])<;>exact rfl) (by exact rfl) hA sZ (by kernel_rfl) rfl (by show d.knot + 1≤cO.length;omega) ?_;intro w1 hB;replace hA:=hB;clear hF hB;obtain⟨hA,hF⟩:=fZ hA))
        go_meet
        case rel=>
         obtain rfl:ws=[]:=hempty.out (by trivial);have hw:=ZaL (enc:=Wt.cells) (size:=1) (fun _=>rfl) (c:=cO) (l:=O) (by rw[hlo'.out];exact ho4'.out) (o:=0) (x':=(⟨some ms,[]⟩:Wt)) (vs:=[.map (some ms)]) ho'.out rfl (by show 0 + 1≤1;omega);rw[show d.knot * 1 + 0=d.knot from by omega] at hw;simp only[uA] at hw
         obtain⟨O1,hO1⟩:∃z,O.set d.knot (⟨some ms,[]⟩:Wt)=z:=⟨_,rfl⟩
         rw[hO1,hlo'.out] at hw;have hB:=hA.row_shut (e:=132) (size:=1) (g:=bO) (n:=n + 1) (cap:=n + 1) (xs:=flatO O1) sZ (by rw[List.length_set];exact ho3) (Nat.le_refl _) ho2 hw;have hsp2:O1=O.take d.knot++⟨some ms,[]⟩::O.drop (d.knot + 1):=by rw[←hO1,ZdX ho'.out]
         have hD:=hB.take (A:=Part.map Tryz.prog 3 ms []) sZ;have hC:=inO (d:=⟨some ms,[]⟩) hsp2 hD .here sZ;exact⟨ms,O1,hO1,hC.pick pZ⟩
       |some bM=>
        go_wp2_with fail;go_meet
        case rel=>
         have hB:=hA.row_shut (e:=132) (size:=1) (g:=bO) (n:=n + 1) (cap:=n + 1) (xs:=flatO O) sZ ho3 (Nat.le_refl _) ho2 ho4'.out;have hC:=inO (d:=⟨some bM,ws⟩) hspO.out hB sZ sZ;exact⟨bM,O,Zdf ho'.out,hC.pick pZ⟩
      case rest=>
       obtain⟨mm,O1,hO1,hB⟩:=hcut;clear hA hco hnq;have hA:=hB;clear hB;have hlO1:O1.length=n + 1:=by rw[←hO1,List.length_set,hlo'.out]
       have hO1k:O1[d.knot]? =some ⟨some mm,ws⟩:=by rw[←hO1];exact Zb1 ho'.out
       have hO1':=Hd hO1;have hO1k':=Hd hO1k;have hlO1':=Hd hlO1;clear hO1 hO1k hlO1;obtain⟨hA,hF⟩:=fZ hA;go_wp2_with fail;(try go_frame);have hik2:i + 1 + (gk - 1)=N.length:=by omega
       have hGk:gk - 1 < gk:=by omega
       obtain⟨G,hG⟩:∃G,gk - 1=G:=⟨_,rfl⟩
       rw[hG] at hik2 hGk;have hGk':=Hd hGk;have hik2':=Hd hik2;clear hG hik2 hGk hik;go_loopg [49] d.nx.length (WiRel w (.slice (some ⟨bn,0,none⟩) N.length capn) (.slice (some ⟨bO,0,none⟩) (n + 1) (n + 1)) (.slice (some ⟨bH,0,none⟩) (n + 1) (n + 1)) N n b7 d O1 H1 mm ws)
       case atStart=>exact⟨0,ws,rfl,by omega,fun z=>by simp,by rw[Zdf hO1k'.out];exact hA.pick pZ⟩
       case round=>
        obtain⟨j,ws1,rfl,hjk,hws,hB⟩:=hrel;have hws':=Hd hws;clear hF hA hws;have hA:=hB;clear hB;by_cases hj:j < d.nx.length
        · skip
          obtain⟨y,hy⟩:∃y,d.nx[j]? =some y:=⟨_,List.getElem?_eq_getElem hj⟩
          have hyN:y < N.length:=hn0.out i hi y (by unfold nxF;rw[hd'.out];exact List.mem_of_getElem? hy);have hyI:(y:Int) < N.length:=by omega
          obtain⟨e,he⟩:∃e,N[y]? =some e:=⟨_,List.getElem?_eq_getElem hyN⟩
          have hke:=hk0.out y e he;have hkf:knF N y=e.knot:=by unfold knF;rw[he]
          have htk:d.nx.take (j + 1)=d.nx.take j++[y]:=by rw[List.take_add_one,hy];rfl
          have hspN:=Hd (ZbH hd'.out);replace hA:=outX hspN.out hA sZ;simp only[Nd.nv] at hA;obtain⟨bx,offx,hna,hcx0⟩:=ZaZ (enc:=fun(k:Nat)=>[Value.int .i64 (k:Int)]) (size:=1) (fun _=>rfl) (by omega) (l:=d.nx) (x:=y) (by rw[←Zg8];exact hA.row_reads (v:=.slice d.na d.nx.length d.nc) (n:=d.nx.length) (xs:=intL d.nx) sZ) hy;have hcx:wr.cell? ⟨bx,offx + j,none⟩=some (.int .i64 y):=by have:=hcx0 0 _ rfl;simpa using this
          have hna':=Hd hna;clear hna hcx0 hy;obtain⟨gn,c7,hg7,_,hm7,hl7,ht7,hB⟩:=hA.row_open (e:=131) (size:=7) (ax:=some ⟨bn,0,none⟩) (cap:=capn) (n:=N.length) (xs:=flatN N) sZ (by omega);cases hg7;clear hA;have hA:=hB;clear hB;have hce:c7[y * 7 + 6]? =some (.int .i64 e.knot):=Zaq Nd.cells_len ht7 he 6 (by omega);obtain⟨gO2,c2,hg2,hm2,hn2,hl2,ht2,hB⟩:=hA.row_open (e:=132) (size:=1) (ax:=some ⟨bO,0,none⟩) (cap:=n + 1) (n:=n + 1) (xs:=flatO O1) sZ (by omega);cases hg2;replace hA:=hB;clear hB;have hc2m:c2[d.knot]? =some (.map (some mm)):=by have:=Zaq (enc:=Wt.cells) (size:=1) (fun _=>rfl) (c:=c2) (l:=O1) (by rw[hlO1'.out];exact ht2) hO1k'.out 0 (by omega);simpa [Wt.cells] using this
          have hO2:(O1.set d.knot (⟨some mm,ws1⟩:Wt))[d.knot]? =some ⟨some mm,ws1⟩:=Zb1 hO1k'.out;have hspW:=Hd (ZbH hO2);have hB:=outO hspW.out hA sZ;simp only[Wt.part] at hB;clear hA hO2;have hA:=hB;clear hB;have ht2':=Hd ht2;have ht7':=Hd ht7;have he':=Hd he;have hkf':=Hd hkf;have htk':=Hd htk;clear ht2 ht7 he hkf htk;obtain⟨hA,hF⟩:=fZ hA;by_cases hne:(e.knot:Int)=d.knot
          · skip
            go_wp2_with ((with_reducible show wpList _ _ _ ({dst:=some 51,op:=_,type:=_,pos:=_,after:=_,guard:=_}::_) _ _);refine Zah (v:=.pointer (some ⟨bx,offx + j,none⟩)) rfl (w':=wr) (by simp[execOp,go_sem,Act.eval,Act.put,hna'.out]<;>omega) ?_)
            (try go_frame);refine cl0 hA ?_;clear hF hA;intro w1 hA hF;(try simp only[uZ] at hA hF);go_wp2_with fail;go_roundg (gk - 1);case measure=>omega
            case rel=>
             have hsp2:O1.set d.knot (⟨some mm,ws1⟩:Wt)=(O1.set d.knot (⟨some mm,ws1⟩:Wt)).take d.knot++⟨some mm,ws1⟩::(O1.set d.knot (⟨some mm,ws1⟩:Wt)).drop (d.knot + 1):=by rw[←ZdX (Zb1 hO1k'.out),set_set]
             have hB:=hA.row_shut (e:=132) (size:=1) (g:=bO) (n:=n + 1) (cap:=n + 1) (xs:=flatO O1) sZ hl2 (Nat.le_refl _) hn2 ht2'.out;have hC:=hB.row_shut (e:=131) (size:=7) (g:=bn) (n:=N.length) (cap:=capn) (xs:=flatN N) sZ hl7 hcpn hm7 ht7'.out;have hD:=inX (d:=d) hspN.out hC sZ sZ;have hE:=hD.take (A:=Part.map Tryz.prog 3 mm (wsE ws1)) sZ;have hG:=inO (d:=⟨some mm,ws1⟩) hsp2 hE .here sZ;refine⟨j + 1,ws1,by simp,by omega,fun z=> ?_,hG.pick pZ⟩;rw[htk'.out];have:=hws'.out z;constructor
             · intro h;rcases this.1 h with h|⟨q,hq,h1,h2⟩
               · exact .inl h
               exact .inr ⟨q,List.mem_append_left _ hq,h1,h2⟩
             rintro(h|⟨q,hq,h1,h2⟩)
             · exact this.2 (.inl h)
             rcases List.mem_append.1 hq with hq|hq
             · exact this.2 (.inr ⟨q,hq,h1,h2⟩)
             rw[List.mem_singleton.1 hq,hkf'.out] at h1;exact absurd (by omega) h2
          skip
          go_wp2_with ((with_reducible show wpList _ _ _ ({dst:=some 51,op:=_,type:=_,pos:=_,after:=_,guard:=_}::_) _ _);refine Zah (v:=.pointer (some ⟨bx,offx + j,none⟩)) rfl (w':=wr) (by simp[execOp,go_sem,Act.eval,Act.put,hna'.out]<;>omega) ?_)
          (try go_frame);refine cl0 hA ?_;clear hF hA;intro w1 hA hF;(try simp only[uZ] at hA hF);go_wp2_with fail;(try go_frame);(refine Zaj 10 (Cl _ _ _) (by kernel_rfl) (by kernel_rfl) (Cl.drew hA) ?_);(simp only[List.take_succ_cons,List.take_zero,List.drop_succ_cons,List.drop_zero]);(have hn1:=Cl.none hA);(have hn2:=Cl.none2 hA);(repeat(first|go_big_quiet_skip|(go_big_quiet_want;(first|(refine qL ?_;go_frame;go_big_quiet_on)|(go_big_quiet_op;(first|go_big_quiet_on|((apply Exists.intro);(refine⟨fun w1 hw=> ?_,?_⟩);(focus((have hw:=Cl.out hw);(fail)));(go_big_quiet_on))))))))
          (refine wpQuiet_nil ?_);(intro w1 hB);(clear hF hA hn1 hn2);(have hA:=Cl.out hB);(clear hB);obtain⟨hA,hF⟩:=fZ hA
          obtain⟨kl,hkl⟩:=keyN (k:=e.knot) (by omega);by_cases hz0:e.knot ∈ ws1
          · skip;have hz:=Hd hz0;clear hz0;obtain⟨l1,l2,hl12⟩:=ZnR hz.out;rw[hl12] at hA;have hl12':=Hd hl12;clear hl12;obtain⟨hA,hF⟩:=fZ hA
            go_wp2_with ((with_reducible refine gmu ?_);refine ZaV (b:=mm) (key:=.int .i64 e.knot) (val:=.int .i64 1) (u:=.int .i64 1) (l1:=l1) (l2:=l2) rfl rfl (by(try simp only[Act.eval,eV])<;>exact rfl) (by(try simp only[Act.eval,eV])<;>exact rfl) (by(try simp only[Act.eval,eV])<;>exact rfl) hA sR lawN Tryz.underlying132 hkl ?_;intro w1 hB;rw[←hl12'.out] at hB;replace hA:=hB;clear hF hB;obtain⟨hA,hF⟩:=fZ hA)
            go_roundg (gk - 1);case measure=>omega
            case rel=>
             have hsp2:O1.set d.knot (⟨some mm,ws1⟩:Wt)=(O1.set d.knot (⟨some mm,ws1⟩:Wt)).take d.knot++⟨some mm,ws1⟩::(O1.set d.knot (⟨some mm,ws1⟩:Wt)).drop (d.knot + 1):=by rw[←ZdX (Zb1 hO1k'.out),set_set]
             have hB:=hA.row_shut (e:=132) (size:=1) (g:=bO) (n:=n + 1) (cap:=n + 1) (xs:=flatO O1) sZ hl2 (Nat.le_refl _) hn2 ht2'.out;have hC:=hB.row_shut (e:=131) (size:=7) (g:=bn) (n:=N.length) (cap:=capn) (xs:=flatN N) sZ hl7 hcpn hm7 ht7'.out;have hD:=inX (d:=d) hspN.out hC sZ sZ;have hE:=hD.take (A:=Part.map Tryz.prog 3 mm (wsE ws1)) sZ;have hG:=inO (d:=⟨some mm,ws1⟩) hsp2 hE .here sZ;refine⟨j + 1,ws1,by simp,by omega,fun z=> ?_,hG.pick pZ⟩;rw[htk'.out];have:=hws'.out z;constructor
             · intro h;rcases this.1 h with h|⟨q,hq,h1,h2⟩
               · exact .inl h
               exact .inr ⟨q,List.mem_append_left _ hq,h1,h2⟩
             rintro(h|⟨q,hq,h1,h2⟩)
             · exact this.2 (.inl h)
             rcases List.mem_append.1 hq with hq|hq
             · exact this.2 (.inr ⟨q,hq,h1,h2⟩)
             rw[List.mem_singleton.1 hq,hkf'.out] at h1;exact h1 ▸ hz.out
          skip;have hz:=Hd hz0;clear hz0
          go_wp2_with ((with_reducible refine gmu ?_);refine Zao (b:=mm) (key:=.int .i64 e.knot) (val:=.int .i64 1) (es:=wsE ws1) rfl rfl (by(try simp only[Act.eval,eV])<;>exact rfl) (by(try simp only[Act.eval,eV])<;>exact rfl) (by(try simp only[Act.eval,eV])<;>exact rfl) hA sR lawN Tryz.underlying132 hkl (Znt hz.out) ?_;intro w1 hB;rw[ZlT] at hB;replace hA:=hB;clear hF hB;obtain⟨hA,hF⟩:=fZ hA)
          go_roundg (gk - 1);case measure=>omega
          case rel=>
           have hsp2:O1.set d.knot (⟨some mm,(ws1++[e.knot])⟩:Wt)=(O1.set d.knot (⟨some mm,ws1⟩:Wt)).take d.knot++⟨some mm,(ws1++[e.knot])⟩::(O1.set d.knot (⟨some mm,ws1⟩:Wt)).drop (d.knot + 1):=by rw[←ZdX (Zb1 hO1k'.out),set_set]
           have hB:=hA.row_shut (e:=132) (size:=1) (g:=bO) (n:=n + 1) (cap:=n + 1) (xs:=flatO O1) sZ hl2 (Nat.le_refl _) hn2 ht2'.out;have hC:=hB.row_shut (e:=131) (size:=7) (g:=bn) (n:=N.length) (cap:=capn) (xs:=flatN N) sZ hl7 hcpn hm7 ht7'.out;have hD:=inX (d:=d) hspN.out hC sZ sZ;have hE:=hD.take (A:=Part.map Tryz.prog 3 mm (wsE (ws1++[e.knot]))) sZ;have hG:=inO (d:=⟨some mm,(ws1++[e.knot])⟩) hsp2 hE .here sZ;refine⟨j + 1,(ws1++[e.knot]),by simp,by omega,fun z=> ?_,hG.pick pZ⟩;rw[htk'.out];rw[List.mem_append,List.mem_singleton];have:=hws'.out z;constructor
           · rintro(h|h)
             · rcases this.1 h with h|⟨q,hq,h1,h2⟩
               · exact .inl h
               exact .inr ⟨q,List.mem_append_left _ hq,h1,h2⟩
             exact .inr ⟨y,List.mem_append_right _ (by simp),by rw[hkf'.out,h],by omega⟩
           rintro(h|⟨q,hq,h1,h2⟩)
           · exact .inl (this.2 (.inl h))
           rcases List.mem_append.1 hq with hq|hq
           · exact .inl (this.2 (.inr ⟨q,hq,h1,h2⟩))
           rw[List.mem_singleton.1 hq,hkf'.out] at h1;exact .inr h1.symm
        skip;have hj2:j=d.nx.length:=by omega
        subst hj2;obtain⟨hA,hF⟩:=fZ hA;go_wp2_with fail;go_roundg G;case measure=>exact hGk'.out
        case rel=>
         have hwt2:=ZnQ (ws1:=ws1) (ha2:=ha2) (kc2:=kc2) (mm:=mm) hwt'.out hd'.out hx'.out ho'.out (fun z=>by rw[hws'.out z,List.take_of_length_le (Nat.le_refl _)]) hha2'.out;have e1:O1.set d.knot ⟨some mm,ws1⟩=O.set d.knot ⟨some mm,ws1⟩:=by rw[←hO1'.out,set_set]
         have e2:=Zlc hO1k'.out ws1;have hl2:(O.set d.knot (⟨some mm,ws1⟩:Wt)).length=n + 1:=by rw[List.length_set,hlo'.out]
         have hl3:H1.length=n + 1:=by rw[←hH1'.out,List.length_set,hlh'.out]
         rw[hH1'.out] at hwt2;rw[←e2,e1] at hA;refine⟨i + 1,O.set d.knot ⟨some mm,ws1⟩,H1,by simp,hik2'.out,hwt2,?_⟩;unfold rowO rowH;rw[hl2,hl3];exact hA.pick pZ
   skip;have hi2:i=N.length:=by omega
   subst hi2;obtain⟨hA,hF⟩:=fZ hA;go_wp2_with fail;refine bodyPost_ret (v:=.tuple #[.slice (some ⟨bO,0,none⟩) (n + 1) (n + 1),.slice (some ⟨bH,0,none⟩) (n + 1) (n + 1)]) (by simp[results,Tryz.results56,go_sem]) rfl ?_;exact⟨_,_,O,H,rfl,hwt'.out,hA.pick pZ⟩
end Go.Proofs.YtbeckijoabapkaaGreatDoor.Gr
end
namespace Go.Proofs.YtbeckijoabapkaaGreatDoor
section
namespace Gr
open Go.RowKit
open Tar (freeP Zbk knotL)
structure OrIn (N:List Nd) (n:Nat) (gone:List Nat) (O:List Wt) (H:List Hs):Prop where
 lo:O.length=n + 1
 lh:H.length=n + 1
 come:∀k x,H[k]? =some x→k ∈ gone→x.ha=none
 has:∀k x,H[k]? =some x→k ∉ gone→x.hs=knotL N.length (knF N) k∧(x.ha=none↔x.hs=[])
 open_:∀k o,O[k]? =some o→(∀z,z ∈ o.ws↔ZnO N N.length k z∧z ∉ gone)∧(o.mb=none→o.ws=[])
theorem WtIn.start {N:List Nd} {n:Nat} {O:List Wt} {H:List Hs} (h:WtIn N n N.length O H):OrIn N n [] O H:=by
 refine⟨h.lo,h.lh,nofun,fun k x hx _=> ?_,fun k o ho=>⟨fun z=>by rw[(h.open_ k o ho).1 z];simp,(h.open_ k o ho).2⟩⟩;exact h.has k x hx
theorem ZkX {N:List Nd} {i:Nat} {d:Nd} (h:N[i]? =some d):knF N i=d.knot:=by unfold knF;rw[h]
theorem OrIn.free {N:List Nd} {n:Nat} {gone:List Nat} {O:List Wt} {H:List Hs} (h:OrIn N n gone O H) {i:Nat} {d:Nd} (hd:N[i]? =some d) (hk:d.knot≤n):
 freeN O H d=freeP (nxF N) N.length (knF N) gone i:=by
 obtain⟨x,hx⟩:∃x,H[d.knot]? =some x:=⟨_,List.getElem?_eq_getElem (by rw[h.lh];omega)⟩
 obtain⟨o,ho⟩:∃o,O[d.knot]? =some o:=⟨_,List.getElem?_eq_getElem (by rw[h.lo];omega)⟩
 have hkn:=ZkX hd;have hi:=(List.getElem?_eq_some_iff.1 hd).1;rw[Bool.eq_iff_iff,Zbk,hkn];unfold freeN;rw[hx,ho];simp only[freeV,Bool.and_eq_true,Bool.or_eq_true,decide_eq_true_eq]
 have hws:(o.mb.isNone=true∨(o.ws.length:Int)=0)↔o.ws=[]:=by
  constructor
  · rintro(q|q)
    · exact(h.open_ _ _ ho).2 (by simpa using q)
    exact List.eq_nil_of_length_eq_zero (by omega)
  intro q;right
  rw[q];rfl
 have hnil:o.ws=[]↔∀j,j < N.length→knF N j=d.knot→∀y ∈ nxF N j,knF N y=d.knot∨knF N y ∈ gone:=by
  constructor
  · intro q j hj e y hy;by_cases hg:knF N y ∈ gone
    · exact .inr hg
    by_cases hz:knF N y=d.knot
    · exact .inl hz
    have:=((h.open_ _ _ ho).1 (knF N y)).2 ⟨⟨j,hj,e,y,hy,rfl,hz⟩,hg⟩
    rw[q] at this;cases this
  intro q;refine List.eq_nil_iff_forall_not_mem.2 fun z hz=> ?_;obtain⟨⟨j,hj,e,y,hy,h1,h2⟩,hg⟩:=((h.open_ _ _ ho).1 z).1 hz;rcases q j hj e y hy with r|r
  · exact h2 (by rw[←h1,r])
  exact hg (by rw[←h1];exact r)
 rw[hws,hnil];refine and_congr ?_ Iff.rfl;constructor
 · intro q hg;rw[h.come _ _ hx hg] at q;cases q
 intro hg;have h2:=h.has _ _ hx hg
 have hne:x.hs≠[]:=by
  rw[h2.1];intro e;have:i ∈ knotL N.length (knF N) d.knot:=by unfold knotL;simp[hi,hkn]
  rw[e] at this;cases this
 cases hh:x.ha with
 |none=>exact absurd (h2.2.1 hh) hne
 |some _=>rfl
theorem ZjF {p:Nat→Bool} {n i:Nat} (hi:i < n) (h:p i=true) (hno:∀j,j < i→p j=false):(List.range n).find? p=some i:=by
 rw[List.find?_range_eq_some];exact⟨h,List.mem_range.2 hi,fun j hj=>by rw[hno j hj];rfl⟩
theorem OrIn.next {N:List Nd} {n:Nat} {gone:List Nat} {O:List Wt} {H:List Hs} (h:OrIn N n gone O H) (hk:∀(i:Nat) (d:Nd),N[i]? =some d→d.knot≤n) {i:Nat} {d:Nd} (hd:N[i]? =some d) (hf:freeN O H d=true) (hno:∀y ∈ N.take i,freeN O H y=false):
 (List.range N.length).find? (freeP (nxF N) N.length (knF N) gone)=some i:=by
 refine ZjF (List.getElem?_eq_some_iff.1 hd).1 (by rw[←h.free hd (hk i d hd)];exact hf) fun j hj=> ?_;have hjN:j < N.length:=by have:=(List.getElem?_eq_some_iff.1 hd).1;omega
 have e:N[j]? =some N[j]:=List.getElem?_eq_getElem hjN;rw[←h.free e (hk j _ e)];refine hno _ (List.mem_of_getElem? (i:=j) ?_);rw[List.getElem?_take_of_lt hj,e]
theorem OrIn.go {N:List Nd} {n:Nat} {gone:List Nat} {O O2:List Wt} {H:List Hs} (h:OrIn N n gone O H) {k:Nat} (hO:∀(j:Nat) (o:Wt),O2[j]? =some o→∃o1:Wt,O[j]? =some o1∧o.mb=o1.mb∧∀z,z ∈ o.ws↔z ∈ o1.ws∧z≠k) (hl:O2.length=O.length) (c:Nat) (hs:List Nat):
 OrIn N n (k::gone) O2 (H.set k ⟨none,c,hs⟩):=by
 refine⟨by rw[hl,h.lo],by rw[List.length_set,h.lh],fun j x hx hj=> ?_,fun j x hx hj=> ?_,fun j o ho=> ?_⟩
 · by_cases e:k=j
   · subst e;rw[List.getElem?_set_self (by have:=(List.getElem?_eq_some_iff.1 hx).1;rwa [List.length_set] at this)] at hx;cases hx;rfl
   rw[List.getElem?_set_ne e] at hx;rcases List.mem_cons.1 hj with q|q
   · exact absurd q.symm e
   exact h.come j x hx q
 · have e:k≠j:=fun e=>hj (by simp[e]);rw[List.getElem?_set_ne e] at hx;exact h.has j x hx fun q=>hj (by simp[q])
 obtain⟨o1,h1,h2,h3⟩:=hO j o ho;have h4:=h.open_ j o1 h1;refine⟨fun z=> ?_,fun q=> ?_⟩
 · rw[h3 z,h4.1 z];simp only[List.mem_cons,not_or];constructor
   · rintro⟨⟨a,b⟩,c⟩;exact⟨a,c,b⟩
   rintro⟨a,c,b⟩;exact⟨⟨a,b⟩,c⟩
 refine List.eq_nil_iff_forall_not_mem.2 fun z hz=> ?_;have:=((h3 z).1 hz).1;rw[h4.2 (by rw[←h2];exact q)] at this;cases this
def Wt.less (k:Nat) (o:Wt):Wt:=⟨o.mb,o.ws.filter fun z=>z != k⟩
theorem ZnS {l:List Nat} {k:Nat} (hk:k ∈ l) (hn:l.Nodup):∃l1 l2,wsE l=wsE l1++(.int .i64 (k:Int),.int .i64 1)::wsE l2∧wsE (l.filter fun z=>z != k)=wsE l1++wsE l2:=by
 obtain⟨a,b,e⟩:=List.append_of_mem hk;subst e;have h1:=List.nodup_append.1 hn;have ha:k ∉ a:=fun q=>h1.2.2 k q k (by simp) rfl;have hb:k ∉ b:=(List.nodup_cons.1 h1.2.1).1;have fa:a.filter (fun z=>z != k)=a:=List.filter_eq_self.2 fun z hz=>by have:z≠k:=fun e=>ha (by rw[←e];exact hz);simpa using this
 have fb:b.filter (fun z=>z != k)=b:=List.filter_eq_self.2 fun z hz=>by have:z≠k:=fun e=>hb (by rw[←e];exact hz);simpa using this
 refine⟨a,b,by simp[wsE],?_⟩;rw[List.filter_append,List.filter_cons,fa,fb];simp[wsE]
theorem Zon {l:List Nat} {k:Nat} (hk:k ∉ l):(l.filter fun z=>z != k)=l:=List.filter_eq_self.2 fun z hz=>by have:z≠k:=fun e=>hk (by rw[←e];exact hz);simpa using this
theorem OrIn.gone {N:List Nd} {n:Nat} {gone:List Nat} {O:List Wt} {H:List Hs} (h:OrIn N n gone O H) (k:Nat):OrIn N n (k::gone) (O.map (Wt.less k)) (H.set k ⟨none,0,[]⟩):=
 h.go (fun j o ho=>by
  rw[List.getElem?_map] at ho;obtain⟨o1,h1,rfl⟩:=Option.map_eq_some_iff.1 ho
  exact⟨o1,h1,rfl,fun z=>by simp[Wt.less]⟩) (by simp) 0 []
end Gr
end
section
namespace Gr
open _root_.Go.Proofs.YtbeckijoabapkaaGreatDoor.Mark (ltID Zay)
open Go.RowKit
open Attr (A8)
open Tar (TS ordR OrdS knotL sortS)
def lstG (es:List (I2 × A8)) (l:List I2):List I2:=dd (Zay (keepF (lackF es) l))
theorem ZeM (es:List (I2 × A8)) (l:List I2):(lstG es l).Pairwise ltID:=Zhq (Zew _)
theorem ZiG {es:List (I2 × A8)} {l:List I2} {x:I2}:x ∈ lstG es l↔x ∈ l∧(getA es x).isSome=true:=by
 unfold lstG;rw[ZnJ,Zd5];unfold keepF lackF;rw[List.mem_filter];simp
theorem Zmw (es:List (I2 × A8)) (l:List I2):(lstG es l).length≤l.length:=by
 unfold lstG;have h1:=ZnK (Zay (keepF (lackF es) l));have h2:(Zay (keepF (lackF es) l)).length=(keepF (lackF es) l).length:=Mark.Zcx _;have h3:(keepF (lackF es) l).length≤l.length:=List.length_filter_le _ _;omega
def nxL (es:List (I2 × A8)) (f:F7) (Lk:List I2) (i:Nat):List Nat:=match Lk[i]? with
 |some x=>nextP Lk (ZaA es f x)
 |none=>[]
def enL (es:List (I2 × A8)) (Lk:List I2) (i:Nat):I2 × A8:=match Lk[i]? with
 |some x=>(x,(getA es x).getD A8.zero)
 |none=>((0,0),A8.zero)
theorem ZfJ {es:List (I2 × A8)} {Lk:List I2} {i:Nat} {x:I2} (h:Lk[i]? =some x):(enL es Lk i).1=x:=by unfold enL;rw[h]
noncomputable def ordN (es:List (I2 × A8)) (f:F7) (Lk:List I2):List Nat:=ordR (nxL es f Lk) Lk.length (sqE (enL es Lk))
noncomputable def ordG (es:List (I2 × A8)) (f:F7) (Lk:List I2):List I2:=(ordN es f Lk).map (idK (enL es Lk))
structure NdIn (es:List (I2 × A8)) (f:F7) (Lk:List I2) (N:List Nd):Prop where
 len:N.length=Lk.length
 at_:∀(j:Nat) x,Lk[j]? =some x→∃d,N[j]? =some d∧DoneN es f Lk x d
theorem Zmu {Lk ls:List I2} {y:Nat} (h:y ∈ nextP Lk ls):y < Lk.length:=by
 unfold nextP at h;obtain⟨z,_,hz⟩:=List.mem_filterMap.1 h;split at hz
 · rename_i q;cases hz;exact List.idxOf_lt_length_of_mem q
 cases hz
theorem NdIn.nx {es:List (I2 × A8)} {f:F7} {Lk:List I2} {N:List Nd} (h:NdIn es f Lk N):nxF N=nxL es f Lk:=by
 funext i
 unfold nxL
 cases hx:Lk[i]? with
 |none=>
  unfold nxF;rw[List.getElem?_eq_none (by rw[h.len];exact List.getElem?_eq_none_iff.1 hx)]
 |some x=>
  obtain⟨d,hd,hdn⟩:=h.at_ i x hx;rw[Zb4 hd,hdn.2.1]
theorem ZkG {es:List (I2 × A8)} {f:F7} {Lk:List I2} {x y:Nat} (h:y ∈ nxL es f Lk x):y < Lk.length:=by
 unfold nxL at h;split at h
 · exact Zmu h
 cases h
theorem Zoi (es:List (I2 × A8)) (f:F7) (Lk:List I2) (i:Nat):(nxL es f Lk i).length≤7:=by
 unfold nxL;split
 · exact Nat.le_trans (ZgV _ _) (ZdO _ _ _)
 simp
theorem NdIn.back {es:List (I2 × A8)} {f:F7} {Lk:List I2} {N:List Nd} (h:NdIn es f Lk N) {i:Nat} {d:Nd} (hd:N[i]? =some d):∃x,Lk[i]? =some x∧DoneN es f Lk x d:=by
 have hi:=(List.getElem?_eq_some_iff.1 hd).1
 obtain⟨x,hx⟩:∃x,Lk[i]? =some x:=⟨_,List.getElem?_eq_getElem (by rw[←h.len];exact hi)⟩
 obtain⟨d',hd',hdn⟩:=h.at_ i x hx;rw[hd] at hd';cases hd';exact⟨x,hx,hdn⟩
theorem NdIn.zero {es:List (I2 × A8)} {f:F7} {Lk:List I2} {N:List Nd} (h:NdIn es f Lk N):∀d ∈ N,d.low=0∧d.num=0∧d.on=false∧d.knot=0:=by
 intro d hd;obtain⟨i,hi⟩:=List.mem_iff_getElem?.1 hd;obtain⟨x,_,hdn⟩:=h.back hi;exact hdn.2.2
theorem NdIn.seven {es:List (I2 × A8)} {f:F7} {Lk:List I2} {N:List Nd} (h:NdIn es f Lk N) (i:Nat) (d:Nd) (hd:N[i]? =some d):d.nx.length≤7:=by
 have:=Zoi es f Lk i;rw[←h.nx,Zb4 hd] at this;exact this
theorem NdIn.lt {es:List (I2 × A8)} {f:F7} {Lk:List I2} {N:List Nd} (h:NdIn es f Lk N):∀x,x < N.length→∀y ∈ nxF N x,y < N.length:=by
 intro x _ y hy;rw[h.nx] at hy;rw[h.len];exact ZkG hy
theorem ZiF {N:List Nd} {s:TS} {i:Nat} {e:Nd} (h:(ndL N s)[i]? =some e):∃d,N[i]? =some d∧e=⟨d.id,d.na,d.nc,d.nx,s.low i,s.num i,s.on i,s.knot i⟩:=by
 have hi:=(List.getElem?_eq_some_iff.1 h).1;rw[ZaN] at hi
 obtain⟨d,hd⟩:∃d,N[i]? =some d:=⟨_,List.getElem?_eq_getElem hi⟩
 refine⟨d,hd,?_⟩;rw[Za8 hd] at h;cases h
 rfl
theorem ZnB (N:List Nd) (s:TS):nxF (ndL N s)=nxF N:=by
 funext i
 unfold nxF
 cases hd:N[i]? with
 |none=>rw[List.getElem?_eq_none (by rw[ZaN];exact List.getElem?_eq_none_iff.1 hd)]
 |some d=>rw[Za8 hd]
theorem ZeK (N:List Nd) (s:TS) {i:Nat} (hi:i < N.length):knF (ndL N s) i=s.knot i:=by
 obtain⟨d,hd⟩:∃d,N[i]? =some d:=⟨_,List.getElem?_eq_getElem hi⟩
 exact ZkX (Za8 hd s)
theorem kn_nd {N:List Nd} {s:TS} {n:Nat} (h:Tar.Kn (nxF N) N.length s.knot n):Tar.Kn (nxF (ndL N s)) (ndL N s).length (knF (ndL N s)) n:=by
 rw[ZnB,ZaN];refine⟨h.hn,fun x hx=>by rw[ZeK N s hx];exact h.pos x hx,fun x=> ?_,fun x hx y hy=>by rw[ZeK N s hx,ZeK N s (h.hn x hx y hy)];exact h.edge x hx y hy,fun x y hx e=> ?_⟩
 · by_cases hx:x < N.length
   · rw[ZeK N s hx];exact h.le x
   unfold knF;rw[List.getElem?_eq_none (by rw[ZaN];omega)];exact Nat.zero_le _
 by_cases hy:y < N.length
 · rw[ZeK N s hx,ZeK N s hy] at e;exact h.same x y hx e
 rw[ZeK N s hx] at e
 have:knF (ndL N s) y=0:=by
  unfold knF;rw[List.getElem?_eq_none (by rw[ZaN];omega)]
 rw[this] at e;exact absurd e (h.pos x hx)
theorem NdIn.kt {es:List (I2 × A8)} {f:F7} {Lk:List I2} {N:List Nd} (h:NdIn es f Lk N) (hs:Lk.Pairwise ltID) (hg:∀x ∈ Lk,(getA es x).isSome=true) (s:TS) {ks:List Nat} (hk:ks.Pairwise (· < ·)) (hl:∀i ∈ ks,i < N.length):
 KtIn es (ndL N s) ks (enL es Lk):=by
 have ha:∀i ∈ ks,∃x,Lk[i]? =some x:=fun i hi=>⟨_,List.getElem?_eq_getElem (by rw[←h.len];exact hl i hi)⟩
 refine⟨fun i hi=> ?_,fun i hi=> ?_,hk,fun i hi j hj hij=> ?_⟩
 · obtain⟨x,hx⟩:=ha i hi;obtain⟨d,hd,hdn⟩:=h.at_ i x hx;exact⟨_,Za8 hd s,by rw[ZfJ hx];exact hdn.1⟩
 · obtain⟨x,hx⟩:=ha i hi;have h1:=hg x (List.mem_of_getElem? hx);unfold enL;rw[hx]
   cases hq:getA es x with
   |none=>rw[hq] at h1;cases h1
   |some a=>simpa [hq] using ZbM hq
 obtain⟨x,hx⟩:=ha i hi;obtain⟨y,hy⟩:=ha j hj;rw[ZfJ hx,ZfJ hy];obtain⟨hi',rfl⟩:=List.getElem?_eq_some_iff.1 hx;obtain⟨hj',rfl⟩:=List.getElem?_eq_some_iff.1 hy;exact List.pairwise_iff_getElem.1 hs i j hi' hj' hij
structure LIn (es:List (I2 × A8)) (f:F7) (Lk:List I2) (L:List Nd) (n:Nat):Prop where
 len:L.length=Lk.length
 kn:Tar.Kn (nxF L) L.length (knF L) n
 nx:nxF L=nxL es f Lk
 kt:∀ks:List Nat,ks.Pairwise (· < ·)→(∀i ∈ ks,i < L.length)→KtIn es L ks (enL es Lk)
 seven:∀(i:Nat) (d:Nd),L[i]? =some d→d.nx.length≤7
 kle:∀(i:Nat) (d:Nd),L[i]? =some d→d.knot≤n
theorem NdIn.after {es:List (I2 × A8)} {f:F7} {Lk:List I2} {N:List Nd} (h:NdIn es f Lk N) (hs:Lk.Pairwise ltID) (hg:∀x ∈ Lk,(getA es x).isSome=true) {s:TS} (hk:Tar.Kn (nxF N) N.length s.knot s.found):LIn es f Lk (ndL N s) s.found:=by
 refine⟨by rw[ZaN,h.len],kn_nd hk,by rw[ZnB,h.nx],fun ks h1 h2=>h.kt hs hg s h1 fun i hi=>by have:=h2 i hi;rwa [ZaN] at this,fun i d hd=> ?_,fun i d hd=> ?_⟩
 · obtain⟨d',hd',rfl⟩:=ZiF hd;exact h.seven i d' hd'
 obtain⟨d',hd',rfl⟩:=ZiF hd;exact hk.le i
theorem LIn.order {es:List (I2 × A8)} {f:F7} {Lk:List I2} {L:List Nd} {n:Nat} (h:LIn es f Lk L n):Tar.ordP (nxF L) L.length (knF L) (sqE (enL es Lk)) L.length []=ordN es f Lk:=by
 rw[Tar.ZkA h.kn];unfold ordN;rw[h.nx,h.len]
section
variable {es:List (I2 × A8)}
theorem Zjl {Lk:List I2} {f:F7} {i k:Nat} {x y:I2} (hx:Lk[i]? =some x) (hy:y ∈ ZaA es f x) (hk:Lk[k]? =some y) (hn:Lk.Nodup):k ∈ nxL es f Lk i:=by
 unfold nxL;rw[hx];unfold nextP;refine List.mem_filterMap.2 ⟨y,hy,?_⟩;rw[if_pos (List.mem_of_getElem? hk)];obtain⟨hl,rfl⟩:=List.getElem?_eq_some_iff.1 hk;rw[List.Nodup.idxOf_getElem hn]
theorem ZjI {Lk:List I2} {f:F7} {i k:Nat} (h:k ∈ nxL es f Lk i):∃x y,Lk[i]? =some x∧Lk[k]? =some y∧y ∈ ZaA es f x:=by
 unfold nxL at h;split at h
 · rename_i x hx;unfold nextP at h;obtain⟨y,hy,e⟩:=List.mem_filterMap.1 h;split at e
   · rename_i hm;cases e;exact⟨x,y,hx,by rw[List.getElem?_eq_getElem (List.idxOf_lt_length_of_mem hm),List.getElem_idxOf],hy⟩
   cases e
 cases h
end
end Gr
end
section
namespace Gr
open _root_.Go.Proofs.YtbeckijoabapkaaGreatDoor.Mark (ltID Zay)
open Go.RowKit
open Attr (A8 Zaz thro)
attribute [-go_sem] run_eql_struct run_neq_struct run_eqGuard_agg
theorem Zou (d:Nat→Int) (q:Nat) (hq:q < 7) (w:World):(Instr.index 62 (.agg #[.int .i64 (d 0),.int .i64 (d 1),.int .i64 (d 2),.int .i64 (d 3),.int .i64 (d 4),.int .i64 (d 5),.int .i64 (d 6)]) (.int .i64 q)).run Tryz.prog w=.ok (.int .i64 (d q)) w:=by
 rcases(show q=0∨q=1∨q=2∨q=3∨q=4∨q=5∨q=6 by omega) with rfl|rfl|rfl|rfl|rfl|rfl|rfl<;>kernel_rfl
def Zcd (f:F7) (q:Nat):I2:=((q:Int),f.at q)
def ZaM (es:List (I2 × A8)) (f:F7):Option (List I2)→Prop
 |some l=>∃q,q < 7∧(∀k,k < q→Zcw es f (Zcd f k) none)∧Zcw es f (Zcd f q) (some l)
 |none=>∀k,k < 7→Zcw es f (Zcd f k) none
def ZlK (p m:Nat) (es:List (I2 × A8)) (f:F7) (w:World) (e:Ending) (w':World):Prop:=
 (∃l v,e=.returned (.tuple #[v,.bool true])∧ZaM es f (some l)∧At [GrP p m es] w [rowI2 v l,GrP p m es] w')∨
 (e=.returned (.tuple #[.slice none 0 0,.bool false])∧ZaM es f none∧At [GrP p m es] w [GrP p m es] w')
def RyRel (w:World) (p m bF:Nat) (es:List (I2 × A8)) (f:F7) (k:Nat) (u:Value) (wr:World):Prop:=
 ∃q:Nat,u=.int .i64 q∧q + k=7∧(∀j,j < q→Zcw es f (Zcd f j) none)∧At [GrP p m es] w [Part.cells bF [.int .i64 f.f0,.int .i64 f.f1,.int .i64 f.f2,.int .i64 f.f3,.int .i64 f.f4,.int .i64 f.f5,.int .i64 f.f6] 62,GrP p m es] wr
theorem Zkn {w:World} {p m:Nat} {es:List (I2 × A8)} (h:Sep [GrP p m es] w) (f:F7) (hf:∀q,q < 7→okI (f.at q)) (hd:Deps es) (hn:es.length≤1000):
 Calls Tryz.prog 34 #[.pointer (some ⟨p,0,none⟩),f.val] w (ZlK p m es f w):=by
 have hA:=At.start h;have hd0:=Hd hd;have hf0:=Hd hf;clear h hd hf;simp only[F7.val] at *
 obtain⟨hA,hF⟩:=fZ hA;go_enter Tryz.func34,Tryz.ntmps34
 go_wp2_with ((with_reducible refine gbx ?_);refine wHz 62 [.int .i64 f.f0,.int .i64 f.f1,.int .i64 f.f2,.int .i64 f.f3,.int .i64 f.f4,.int .i64 f.f5,.int .i64 f.f6] hA ?_;clear hF hA;intro bF w1 hA hbF hF)
 (try go_frame);go_loopg [11] 7 (RyRel w p m bF es f)
 case atStart=>exact⟨0,rfl,rfl,nofun,hA.pick pZ⟩
 case round=>
  obtain⟨q,rfl,hqk,hno,hB⟩:=hrel;have hno':=Hd hno;clear hF hA hno;have hA:=hB;clear hB;by_cases hq7:q < 7
  · have hix:∀w,(Instr.index 62 (.agg #[.int .i64 f.f0,.int .i64 f.f1,.int .i64 f.f2,.int .i64 f.f3,.int .i64 f.f4,.int .i64 f.f5,.int .i64 f.f6]) (.int .i64 q)).run Tryz.prog w=.ok (.int .i64 (f.at q)) w:=fun w=>Zou (fun q=>f.at q) q hq7 w;have hqo:okI (q:Int):=by unfold okI;omega
    have hnd:=fun(w1:World) (h1:Sep [GrP p m es] w1)=>ZkL h1 f ((q:Int),f.at q) ⟨hqo,hf0.out q hq7⟩ hd0.out hn;simp only[F7.val,idV] at hnd;have hnx:=Hd (show Zcd f q=((q:Int),f.at q) from rfl);generalize f.at q=fq at *
    obtain⟨hA,hF⟩:=fZ hA;go_wp2_with fail;refine(hnd _ (hA.sep1 (A:=GrP p m es) sZ)).mono ?_;rintro e w1 (⟨l,v,rfl,hnl,hT⟩|⟨rfl,hnl,hT⟩)
    · have hB:=hA.call1 (A:=GrP p m es) sZ hT;clear hF hA hT;have hA:=hB;clear hB;simp only[uA] at hA;obtain⟨hA,hF⟩:=fZ hA;go_wp2_with fail;refine bodyPost_ret (v:=.tuple #[v,.bool true]) (by simp[results,Tryz.results34,go_sem]) rfl ?_;exact .inl ⟨l,v,rfl,⟨q,hq7,hno'.out,by rw[hnx.out];exact hnl⟩,hA.only2 sZ sZ⟩
    replace hA:=hA.call1 (A:=GrP p m es) sZ hT;clear hF hT;simp only[uA] at hA;have hnl':=Hd hnl;clear hnl;obtain⟨hA,hF⟩:=fZ hA;go_wp2_with fail;go_roundg (gk - 1);case measure=>omega
    case rel=>
     refine⟨q + 1,by simp,by omega,fun j hj=> ?_,hA.pick pZ⟩
     rcases Nat.lt_succ_iff_lt_or_eq.1 hj with hj|rfl
     · exact hno'.out j hj
     rw[hnx.out];exact hnl'.out
  have hq:q=7:=by omega
  subst hq;obtain⟨hA,hF⟩:=fZ hA;go_wp2_with fail;refine bodyPost_ret (v:=.tuple #[.slice none 0 0,.bool false]) (by simp[results,Tryz.results34,go_sem]) rfl ?_;exact .inr ⟨rfl,hno'.out,hA.only1 sZ⟩
end Gr
end
end Go.Proofs.YtbeckijoabapkaaGreatDoor
