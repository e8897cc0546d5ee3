import Derived.Test.YtbeckijoabapkaaGreatDoorP18
set_option linter.unusedSimpArgs false
set_option linter.unusedVariables false
set_option maxRecDepth 100000
set_option maxHeartbeats 16000000
namespace Go.Proofs.YtbeckijoabapkaaGreatDoor
section
namespace Gr
open _root_.Go.Proofs.YtbeckijoabapkaaGreatDoor.Mark (ltID Zay)
open Go.RowKit
open Attr (A8 thro)
attribute [-go_sem] run_eql_struct run_neq_struct run_eqGuard_agg
def RuRel (w:World) (p m:Nat) (es:List (I2 × A8)) (f0:F7) (b3 b5:Nat) (k:Nat) (u:Value) (wr:World):Prop:=
 ∃(f:F7) (out:List I2),FOk f∧mF f≤k∧out.length + 1000 * mF f≤7168000∧(∀r g,RunR es f r g→RunR es f0 (out++r) g)∧At [GrP p m es] w [rowI2 u out,Part.cells b3 [.int .i64 f.f0,.int .i64 f.f1,.int .i64 f.f2,.int .i64 f.f3,.int .i64 f.f4,.int .i64 f.f5,.int .i64 f.f6] 62,Part.cells b5 [.int .i64 0,.int .i64 0,.int .i64 0,.int .i64 0,.int .i64 0,.int .i64 0,.int .i64 0] 62,GrP p m es] wr
def RvRel (w:World) (p m:Nat) (es:List (I2 × A8)) (f:F7) (l out:List I2) (vl vo:Value) (b3 b5:Nat) (k:Nat) (u:Value) (wr:World):Prop:=
 ∃j:Nat,u=.int .i64 j∧j + k=l.length∧At [GrP p m es] w [Part.cells b3 (upF f (l.take j)).cells 62,rowI2 vo out,rowI2 vl l,Part.cells b5 [.int .i64 0,.int .i64 0,.int .i64 0,.int .i64 0,.int .i64 0,.int .i64 0,.int .i64 0] 62,GrP p m es] wr
def ZlH (p m:Nat) (es:List (I2 × A8)) (f:F7) (w:World) (e:Ending) (w':World):Prop:=
 ∃(u:Value) (r:List I2) (g:F7),e=.returned (.tuple #[u,g.val])∧RunR es f r g∧FOk g∧r.length≤7168000∧At [GrP p m es] w [rowI2 u r,GrP p m es] w'
theorem F7.cell (f:F7) {q:Nat} (hq:q < 7):f.cells[q]? =some (.int .i64 (f.at q)):=by
 rcases(show q=0∨q=1∨q=2∨q=3∨q=4∨q=5∨q=6 by omega) with rfl|rfl|rfl|rfl|rfl|rfl|rfl<;>rfl
theorem F7.cells_set (f:F7) {q:Nat} (hq:q < 7) (v:Int):setL f.cells q [.int .i64 v]=(f.set q v).cells:=by
 rcases(show q=0∨q=1∨q=2∨q=3∨q=4∨q=5∨q=6 by omega) with rfl|rfl|rfl|rfl|rfl|rfl|rfl<;>rfl
theorem ZiU {w:World} {p m:Nat} {es:List (I2 × A8)} (h:Sep [GrP p m es] w) (f:F7) (hf:FOk f) (ho:Own es) (hn:es.length≤1000):
 Calls Tryz.prog 23 #[.pointer (some ⟨p,0,none⟩),f.val] w (ZlH p m es f w):=by
 have hm:Tryz.prog.follows .mixedOrders=true:=by kernel_rfl
 obtain⟨i0,hi0,hz0,hz1,hz2⟩:=info_parts infoI;have hA:=At.start h;have hF:=hA.facts;have hf':=Hd hf;have ho':=Hd ho;clear h hf ho;simp only[F7.val] at *
 obtain⟨hA,hF⟩:=fZ hA;go_enter Tryz.func23,Tryz.ntmps23
 go_wp2_with (first|((with_reducible refine gbx ?_);refine wHz 62 [.int .i64 f.f0,.int .i64 f.f1,.int .i64 f.f2,.int .i64 f.f3,.int .i64 f.f4,.int .i64 f.f5,.int .i64 f.f6] hA ?_;clear hF hA;intro b3 w1 hA hb3 hF)|((with_reducible refine gal ?_);refine wGz 62 [.int .i64 0,.int .i64 0,.int .i64 0,.int .i64 0,.int .i64 0,.int .i64 0,.int .i64 0] hA ?_;clear hF hA;intro b5 w1 hA hb5 hF))
 (try go_frame);replace hA:=hA.row_nil 33 2;clear hF;go_loopg [6] (mF f) (RuRel w p m es f b3 b5)
 case atStart=>exact⟨f,[],hf'.out,Nat.le_refl _,by have:=mF_max hf'.out;simp only[List.length_nil];omega,fun r g h=>h,hA.pick pZ⟩
 case round=>
  obtain⟨f1,out,hf1,hmk,hol,hru,hB⟩:=hrel;have hf1':=Hd hf1;have hmk':=Hd hmk;have hol':=Hd hol;have hru':=Hd hru;clear hA hf1 hmk hol hru;have hA:=hB;clear hB;obtain⟨hA,hF⟩:=fZ hA;go_wp2_with fail;refine(Zkn (hA.sep1 (A:=GrP p m es) sZ) f1 (fun q hq=>by have:=hf1'.out q hq;unfold okI;omega) ho'.out.deps hn).mono ?_;rintro e w1 (⟨l,v,rfl,hfi,hT⟩|⟨rfl,hfi,hT⟩)
  · have hB:=hA.call1 (A:=GrP p m es) sZ hT;clear hF hA hT;have hA:=hB;clear hB;simp only[uA] at hA;obtain⟨hp1,hg1,hq1⟩:=Zdx hfi;have hll:=in_len hp1 hg1;have hup:=Hd (ZhF ho'.out hf1'.out hfi);have hrt:=Hd (show ∀x ∈ l,RtI x from fun x hx=>ho'.out.of_get (hg1 x hx));have hls:=Zok hp1 hg1;have hfi':=Hd hfi;clear hp1 hg1 hq1 hfi;obtain⟨axl,capl,hvl,haxl,hcpl,_⟩:=hA.row_form (e:=33) (size:=2) (n:=l.length) (v:=v) (xs:=flatI l) sZ;obtain⟨axo,capo,hvo,haxo,hcpo,_⟩:=hA.row_form (e:=33) (size:=2) (n:=out.length) (v:=u6) (xs:=flatI out) sZ;clear haxl haxo;subst hvl;subst hvo;obtain⟨hA,hF⟩:=fZ hA;go_wp2_with fail;refine(Zky (R:=rowI2 (.slice axl l.length capl) l) (v:=.slice axl l.length capl) (l:=l) (p:=p) (m:=m) (es:=es) (hA.sep2 (A:=rowI2 (.slice axl l.length capl) l) (B:=GrP p m es) sZ sZ) (fun w' hw=>ZbU (base:=0) hw) (by omega) (fun x hx=>(hrt.out x hx).ok) f1 ho'.out.deps ho'.out.ok ho'.out.uq).mono ?_;rintro e w2 ⟨vq,rfl,hT⟩;have hB:=hA.call2 (A:=rowI2 (.slice axl l.length capl) l) (B:=GrP p m es) sZ sZ hT;rw[hls] at hB;have hQl:=(ZbV es f1 l).length_eq;clear hF hA hT hls;have hA:=hB;clear hB;simp only[uA] at hA;generalize hQ:ordG es f1 l=QQ at *
    have hQ':=Hd hQ;have hQl':=Hd hQl;clear hQ hQl;obtain⟨hA,hF⟩:=fZ hA
    go_wp2_with ((with_reducible show wpList _ _ _ ({dst:=_,op:=Op.call {callee:=Callee.builtin Builtin.append,args:=_,argTypes:=_},type:=_,pos:=_,after:=_,guard:=_}::_) _ _);refine Zal (e:=33) (size:=2) (v:=.slice axo out.length capo) (xs:=flatI out) (n:=out.length) (m:=QQ.length) (news:=flatI QQ) rfl _ _ 55 rfl Tryz.underlying55 hi0 hz0 hz1 hz2 rfl (by omega) hA sZ (by(try simp only[Act.eval,eV])<;>exact rfl) (by(try simp only[Act.eval,eV])<;>exact rfl) (ZeU _) (hA.row_reads (v:=vq) (n:=QQ.length) (xs:=flatI QQ) sZ) (Zdw _) (by have:=hQl'.out;have:=hol'.out;unfold maxLen;omega) (by have:=hQl'.out;have:=hol'.out;omega) ?_;intro vo w1 hB;rw[ZgM] at hB;replace hA:=hB;clear hF hB;obtain⟨hA,hF⟩:=fZ hA)
    try go_frame
    obtain⟨G,hG⟩:∃G,mF (upF f1 l)=G:=⟨_,rfl⟩
    have hGk:=Hd (show G < gk from by have:=hup.out.2;have:=hmk'.out;omega);have hG':=Hd hG;clear hG;have hA0:At [GrP p m es] w [Part.cells b3 (upF f1 (l.take 0)).cells 62,rowI2 vo (out++QQ),rowI2 (.slice axl l.length capl) l,Part.cells b5 [.int .i64 0,.int .i64 0,.int .i64 0,.int .i64 0,.int .i64 0,.int .i64 0,.int .i64 0] 62,GrP p m es] _:=hA.pick pZ;clear hF hA;go_loopg [29] l.length (RvRel w p m es f1 l (out++QQ) (.slice axl l.length capl) vo b3 b5)
    case atStart=>exact⟨0,rfl,by omega,hA0⟩
    case round=>
     obtain⟨j,rfl,hjk,hB⟩:=hrel;clear hA0;have hA:=hB;clear hB;by_cases hj:j < l.length
     · skip
       obtain⟨x,hx⟩:∃x,l[j]? =some x:=⟨_,List.getElem?_eq_getElem hj⟩
       have hxr:=hrt.out x (List.mem_of_getElem? hx);have htk:=Hd (show upF f1 (l.take (j + 1))=upF1 (upF f1 (l.take j)) x from by unfold upF;rw[List.take_add_one,hx,List.foldl_append];rfl);generalize upF f1 (l.take j)=f2 at *
       have hrr:=ZbI (hA.row_reads (v:=.slice axl l.length capl) (n:=l.length) (xs:=flatI l) sZ) hx;clear hx;obtain⟨r,t⟩:=x
       obtain⟨q,rfl⟩:∃q:Nat,r=q:=⟨r.toNat,by have:=hxr.1;simp only at this;omega⟩
       have hq7:q < 7:=by have:=hxr.2.1;simp only at this;omega
       have ht0:0≤t:=hxr.2.2.1;have ht1:t < 1024:=hxr.2.2.2;have hwt:IntKind.i64.wrap (t + 1)=t + 1:=by rw[IntKind.wrap_i64]<;>omega
       obtain⟨bt,offt,hax2,hce⟩:=hrr;have hr2':=Hd (show ∀(k:Nat) u,([.int .i64 (q:Int),.int .i64 t]:List Value)[k]? =some u→wr.cell? ⟨bt,offt + j * 2 + k,none⟩=some u from hce);clear hce;subst hax2;obtain⟨hA,hF⟩:=fZ hA
       go_upto_region 9 with(first|((with_reducible refine gal ?_);refine g3 hA ?_;clear hF hA;intro b10 w1 hA hb10 hF)|((with_reducible show wpList _ _ _ ({dst:=some 32,op:=Op.load _ _,type:=_,pos:=_,after:=_,guard:=_}::_) _ _);refine Zad (vs:=[.int .i64 (q:Int),.int .i64 t]) rfl rfl (by(try simp only[Act.eval,eV])<;>exact rfl) hr2'.out (by kernel_rfl) (by kernel_rfl) ?_)|((with_reducible refine gst ?_);refine wTz hA ?_;clear hF hA;intro w1 hA hF))
       (try go_frame);replace hA:=hA.drew;clear hF;refine wp_region_held (S:=fun w'=>Zaa w' b10 [.int .i64 (q:Int),.int .i64 t] 33) hm ?_;change wpAnyH _ _ _ _ _ 12 _ _ (World.drew _);generalize World.drew _=wd at *
       have hS0:=(hA.get (A:=Part.cells b10 [.int .i64 (q:Int),.int .i64 t] 33) sZ:(fun w'=>Zaa w' b10 [.int .i64 (q:Int),.int .i64 t] 33) wd)
       refine tP 0 33 (.pointer (some ⟨b10,0,none⟩)) (s:=hS0) (h:= ?_);(try go_frame);refine tZ 1 34 (.int .i64 (q:Int)) (r:=(fun w' hS=>Zac (ty:=3) (b:=b10) (j:=0) rfl (by exact rfl) hS (by kernel_rfl) rfl)) (s:=hS0) (h:= ?_);(try go_frame);refine tP 2 35 (.pointer (some ⟨b10,0,none⟩)) (s:=hS0) (h:= ?_);(try go_frame);refine tZ 3 36 (.int .i64 (q:Int)) (r:=(fun w' hS=>Zac (ty:=3) (b:=b10) (j:=0) rfl (by exact rfl) hS (by kernel_rfl) rfl)) (s:=hS0) (h:= ?_);(try go_frame);refine tZ 4 37 (.pointer (some ⟨b3,q,none⟩)) (r:=(fun w' hS=>by simp[execOp,go_sem,Act.eval,Act.put,Tryz.underlying62];omega)) (s:=hS0) (h:= ?_);(try go_frame);refine tP 6 39 (.pointer (some ⟨b10,1,none⟩)) (s:=hS0) (h:= ?_);(try go_frame);refine tZ 7 40 (.int .i64 t) (r:=(fun w' hS=>Zac (ty:=3) (b:=b10) (j:=1) rfl (by exact rfl) hS (by kernel_rfl) rfl)) (s:=hS0) (h:= ?_);(try go_frame);refine tZ 8 41 (.int .i64 (t + 1)) (r:=(fun w' hS=>by simp[execOp,go_sem,Act.eval,Act.put,hwt])) (s:=hS0) (h:= ?_);(try go_frame);refine Zab (i:=5) (by kernel_rfl) ?_;refine Zai (i:=5) (d:=some 38) (b:=b3) (j:=q) rfl rfl (by kernel_rfl) rfl (by exact rfl) hA sZ (by kernel_rfl) (f2.cell hq7) ?_;refine⟨hS0,?_⟩;(try go_frame);refine tZ 9 42 (.int .i64 (max (f2.at q) (t + 1))) (r:=(fun w' hS=>by simp[execOp,go_sem,Act.eval,Act.put])) (s:=hS0) (h:= ?_);(try go_frame);refine tZ 10 43 (.pointer (some ⟨b3,q,none⟩)) (r:=(fun w' hS=>by simp[execOp,go_sem,Act.eval,Act.put,Tryz.underlying62];omega)) (s:=hS0) (h:= ?_);(try go_frame);refine Zab (i:=11) (by kernel_rfl) ?_;refine Zaf (i:=11) (b:=b3) (j:=q) (vs:=[.int .i64 (max (f2.at q) (t + 1))]) rfl rfl (by kernel_rfl) rfl (by exact rfl) (by exact rfl) rfl hA sZ (by kernel_rfl) rfl (by show q + 1≤7;omega) ?_;intro w3 hB;rw[F7.cells_set f2 hq7] at hB;replace hA:=hB;clear hB
       have hS1:=(hA.get (A:=Part.cells b10 [.int .i64 (q:Int),.int .i64 t] 33) sZ:(fun w'=>Zaa w' b10 [.int .i64 (q:Int),.int .i64 t] 33) w3)
       refine⟨hS1,?_⟩
       (try go_frame);refine wpAnyH_done (by kernel_rfl) ?_ _;(try go_frame);clear hS0 hS1;have hA':At [GrP p m es] w [Part.cells b3 (upF1 f2 ((q:Int),t)).cells 62,rowI2 vo (out++QQ),rowI2 (.slice (some ⟨bt,offt,none⟩) l.length capl) l,Part.cells b5 [.int .i64 0,.int .i64 0,.int .i64 0,.int .i64 0,.int .i64 0,.int .i64 0,.int .i64 0] 62,GrP p m es] _:=hA.pick pZ;rw[←htk.out] at hA';clear hA;have hF:=hA'.facts;go_wp2_with fail;go_roundg (gk - 1);case measure=>omega
       case rel=>exact⟨j + 1,by simp,by omega,hA'⟩
     have hF:=hA.facts;obtain⟨hA,hF⟩:=fZ hA;go_wp2_with fail;go_roundg G;case measure=>exact hGk.out
     case rel=>
      rw[List.take_of_length_le (by omega)] at hA;refine⟨upF f1 l,out++QQ,hup.out.1,Nat.le_of_eq hG'.out,?_,fun r g h=> ?_,hA.pick pZ⟩
      · have h1:=hup.out.2;have h2:=hol'.out;have h3:=hQl'.out;rw[List.length_append];omega
      rw[List.append_assoc,←hQ'.out];exact hru'.out _ _ (.go hfi'.out h)
  replace hA:=hA.call1 (A:=GrP p m es) sZ hT;clear hF hT;simp only[uA] at hA;have hfi':=Hd hfi;clear hfi;obtain⟨hA,hF⟩:=fZ hA;go_upto_region 4 with fail
  (try go_frame);replace hA:=hA.drew;clear hF;refine wp_region_held (S:=fun w'=>Zaa w' b3 [.int .i64 f1.f0,.int .i64 f1.f1,.int .i64 f1.f2,.int .i64 f1.f3,.int .i64 f1.f4,.int .i64 f1.f5,.int .i64 f1.f6] 62) hm ?_;change wpAnyH _ _ _ _ _ 4 _ _ (World.drew _);generalize World.drew _=wd at *
  have hS0:=(hA.get (A:=Part.cells b3 [.int .i64 f1.f0,.int .i64 f1.f1,.int .i64 f1.f2,.int .i64 f1.f3,.int .i64 f1.f4,.int .i64 f1.f5,.int .i64 f1.f6] 62) sZ:(fun w'=>Zaa w' b3 [.int .i64 f1.f0,.int .i64 f1.f1,.int .i64 f1.f2,.int .i64 f1.f3,.int .i64 f1.f4,.int .i64 f1.f5,.int .i64 f1.f6] 62) wd)
  refine tP 0 19 (u6) (s:=hS0) (h:= ?_);(try go_frame);refine tZ 1 20 (.agg #[.int .i64 f1.f0,.int .i64 f1.f1,.int .i64 f1.f2,.int .i64 f1.f3,.int .i64 f1.f4,.int .i64 f1.f5,.int .i64 f1.f6]) (r:=(fun w' hS=>Zae (ty:=62) (n:=7) (b:=b3) (j:=0) rfl (by exact rfl) hS (by kernel_rfl) (by kernel_rfl) rfl rfl)) (s:=hS0) (h:= ?_);(try go_frame);refine tP 2 4 (u6) (s:=hS0) (h:= ?_);(try go_frame);refine Zab (i:=3) (by kernel_rfl) ?_;refine Zaf (i:=3) (b:=b5) (j:=0) (vs:=[.int .i64 f1.f0,.int .i64 f1.f1,.int .i64 f1.f2,.int .i64 f1.f3,.int .i64 f1.f4,.int .i64 f1.f5,.int .i64 f1.f6]) rfl rfl (by kernel_rfl) rfl (by exact rfl) (by exact rfl) rfl hA sZ (by kernel_rfl) rfl (by show 0 + 7≤7;omega) ?_;intro w3 hB;simp only[uA] at hB;replace hA:=hB;clear hB
  have hS1:=(hA.get (A:=Part.cells b3 [.int .i64 f1.f0,.int .i64 f1.f1,.int .i64 f1.f2,.int .i64 f1.f3,.int .i64 f1.f4,.int .i64 f1.f5,.int .i64 f1.f6] 62) sZ:(fun w'=>Zaa w' b3 [.int .i64 f1.f0,.int .i64 f1.f1,.int .i64 f1.f2,.int .i64 f1.f3,.int .i64 f1.f4,.int .i64 f1.f5,.int .i64 f1.f6] 62) w3)
  refine⟨hS1,?_⟩
  (try go_frame);refine wpAnyH_done (by kernel_rfl) ?_ _;(try go_frame);clear hS0 hS1;obtain⟨hA,hF⟩:=fZ hA;go_wp2_with fail;refine bodyPost_ret (v:=.tuple #[u6,f1.val]) (by simp[results,Tryz.results23,go_sem,F7.val,hF]) rfl ?_;exact⟨u6,out,f1,rfl,by have:=hru'.out [] f1 (.stop hfi'.out);rwa [List.append_nil] at this,hf1'.out,by have:=hol'.out;omega,hA.pick pZ⟩
end Gr
end
section
namespace Tar
theorem Zfm {nx:Nat→List Nat} {n:Nat} {kn:Nat→Nat} {found:Nat} (hk:Kn nx n kn found) (sq:Nat→Int):∀(fuel:Nat) (gone:List Nat),Shut nx n kn gone→
 (∀p ∈ ordP nx n kn sq fuel gone,p < n∧kn p ∉ gone)∧(ordP nx n kn sq fuel gone).Pairwise fun p q=>R nx p q→R nx q p∧ltS sq p q
 |0,_,_=>⟨nofun,.nil⟩
 |f + 1,gone,hs=>by
  unfold ordP
  cases hq:(List.range n).find? (freeP nx n kn gone) with
  |none=>exact⟨nofun,.nil⟩
  |some i=>
   have hf:=List.find?_some hq;have hs2:=ZeA hk hs hf;have ih:=Zfm hk sq f (kn i::gone) hs2;have hsp:=Zcy (sq:=sq) (ZeQ n kn (kn i));have hm:∀p ∈ sortS sq (knotL n kn (kn i)),p < n∧kn p=kn i:=fun p hp=>Zdp.1 (hsp.2.mem_iff.1 hp);simp only;refine⟨fun p hp=> ?_,List.pairwise_append.2 ⟨?_,ih.2,fun p hp q hq2 r=> ?_⟩⟩
   · rcases List.mem_append.1 hp with h|h
     · exact⟨(hm p h).1,by rw[(hm p h).2];exact(Zbk.1 hf).1⟩
     exact⟨(ih.1 p h).1,fun q=>(ih.1 p h).2 (List.mem_cons_of_mem _ q)⟩
   · refine(List.Pairwise.and_mem.1 hsp.1).imp ?_;rintro a b ⟨ha,hb,hlt⟩ _;exact⟨hk.same b a (hm b hb).1 (by rw[(hm a ha).2,(hm b hb).2]),hlt⟩
   have h1:=Zfj hk hs2 r (hm p hp).1 (by rw[(hm p hp).2];simp);exact absurd h1 (ih.1 q hq2).2
theorem Zjo {nx:Nat→List Nat} {n:Nat} (hn:∀x,x < n→∀y ∈ nx x,y < n) (sq:Nat→Int):(ordR nx n sq).Pairwise fun p q=>R nx p q→R nx q p∧ltS sq p q:=by
 obtain⟨kn,found,hk⟩:=Zg5 hn;rw[←ZkA hk];exact(Zfm hk sq n [] nofun).2
end Tar
namespace Gr
open _root_.Go.Proofs.YtbeckijoabapkaaGreatDoor.Mark (ltID Zay)
open Go.RowKit
open Attr (A8 Zaz Zas ownsB)
def f0F:F7:=⟨0,0,0,0,0,0,0⟩
theorem f0_at {q:Nat} (hq:q < 7):f0F.at q=0:=by
 rcases(show q=0∨q=1∨q=2∨q=3∨q=4∨q=5∨q=6 by omega) with rfl|rfl|rfl|rfl|rfl|rfl|rfl<;>rfl
def SelfE (es:List (I2 × A8)):Prop:=∀x a,getA es x=some a→a.dep x.1.toNat=x.2
theorem SelfE.add {es:List (I2 × A8)} (ho:Own es) (h:SelfE es) (x:I2) (a:A8):SelfE (addG es x a).1:=by
 unfold addG;split
 · rename_i hw;split
   · split<;>exact h
   rename_i hn;intro y b hy;have ho2:=ho.add x a;have hm:=ZbM hy;rcases List.mem_append.1 hm with q|q
   · exact h y b (Zbn ho.uq q)
   cases List.mem_singleton.1 q;exact(Zfl.1 hw).2.2
 exact h
section
variable {es:List (I2 × A8)}
theorem Za6 {f:F7} {x:I2}:behind f x=true↔RtI x∧x.2 < f.at x.1.toNat:=by
 unfold behind;rw[Bool.and_eq_true,Zas,decide_eq_true_eq];constructor
 · rintro⟨⟨h1,h2,h3,h4⟩,h5⟩;exact⟨⟨h1,by omega,h3,h4⟩,h5⟩
 rintro⟨⟨h1,h2,h3,h4⟩,h5⟩;exact⟨⟨h1,by omega,h3,h4⟩,h5⟩
theorem Zbd {f:F7} {x y:I2}:y ∈ ZaA es f x↔∃a q,getA es x=some a∧q < 7∧f.at q < a.dep q∧y=((q:Int),a.dep q - 1):=by
 constructor
 · intro h;obtain⟨a,ha,hy⟩:=ZbW h;obtain⟨q,h1,h2,h3⟩:=Zg2 hy;exact⟨a,q,ha,h1,h2,h3⟩
 rintro⟨a,q,ha,h1,h2,rfl⟩
 unfold ZaA;rw[ha];unfold leads ZcO;exact List.mem_map.2 ⟨q,List.mem_filter.2 ⟨List.mem_range.2 h1,decide_eq_true h2⟩,rfl⟩
theorem RI.trans {f:F7} {a b c:I2} (h:RI es f a b) (k:RI es f b c):RI es f a c:=by
 induction k with
 |refl=>exact h
 |step _ hy ih=>exact .step ih hy
theorem Zhc {f:F7} {l:List I2} (h:ZaM es f (some l)):∀x ∈ l,behind f x=false:=by
 obtain⟨q,hq,_,h1,h2,h3,h4⟩:=h;intro x hx;have hr:=(h3 x).1 hx
 cases hr with
 |refl=>exact h1
 |step _ hy=>
  obtain⟨a,q2,ha,hq2,hlt,rfl⟩:=Zbd.1 hy
  cases hb:behind f ((q2:Int),a.dep q2 - 1) with
  |false=>rfl
  |true=>
   have:=(Za6.1 hb).2;simp only[Int.toNat_natCast] at this
   omega
theorem Zgj {f:F7} {l:List I2} (h:ZaM es f (some l)) {x y:I2} (hx:x ∈ l) (hy:y ∈ ZaA es f x):y ∈ l:=by
 obtain⟨q,hq,_,h1,h2,h3,h4⟩:=h;exact(h3 y).2 (.step ((h3 x).1 hx) hy)
theorem Zfz {f:F7} {l:List I2} (ho:Own es) (hs:SelfE es) (hf:FOk f) (h:ZaM es f (some l)) {x:I2} (hx:x ∈ l):∀(d:Nat) (t:Int),t + d=x.2→f.at x.1.toNat≤t→(x.1,t) ∈ l
 |0,t,he,_=>by
  have:(x.1,t)=x:=by rw[show t=x.2 by omega]
  rw[this];exact hx
 |d + 1,t,he,hle=>by
  have ih:=Zfz ho hs hf h hx d (t + 1) (by omega) (by omega);obtain⟨_,hg,_⟩:=Zdx h;have hgx:=hg _ ih
  obtain⟨a,ha⟩:∃a,getA es (x.1,t + 1)=some a:=by
   cases hq:getA es (x.1,t + 1) with
   |none=>rw[hq] at hgx;cases hgx
   |some a=>exact⟨a,rfl⟩
  have hr:RtI x:=ho.of_get (hg x hx);have hsf:=hs _ a ha;simp only at hsf;have hq7:x.1.toNat < 7:=by obtain⟨h1,h2,_⟩:=hr;omega
  refine Zgj h ih (Zbd.2 ⟨a,x.1.toNat,ha,hq7,by omega,?_⟩);rw[hsf];obtain⟨h1,_⟩:=hr;rw[show((x.1.toNat:Nat):Int)=x.1 by omega,show t + 1 - 1=t by omega]
theorem Znw:∀{l:List I2} {f:F7} {q:Nat},q < 7→(∀x ∈ l,RtI x)→(upF f l).at q=f.at q∨∃x ∈ l,x.1.toNat=q∧(upF f l).at q=x.2 + 1
 |[],_,_,_,_=>.inl rfl
 |x::l,f,q,hq,hr=>by
  have h:=Znw (l:=l) (f:=upF1 f x) hq fun y hy=>hr y (by simp[hy]);rcases h with h|⟨y,hy,h1,h2⟩
  · have h3:=Zf0 (f:=f) (hr x (by simp)) hq;by_cases e:q=x.1.toNat
    · rw[if_pos e] at h3;rcases Int.le_total (x.2 + 1) (f.at q) with h4|h4
      · left
        show(upF (upF1 f x) l).at q=_;rw[h,h3];omega
      right
      refine⟨x,by simp,e.symm,?_⟩;show(upF (upF1 f x) l).at q=_;rw[h,h3];omega
    rw[if_neg e] at h3;left
    show(upF (upF1 f x) l).at q=_;rw[h,h3]
  exact .inr ⟨y,by simp[hy],h1,h2⟩
theorem Zep {f:F7} {l:List I2} (ho:Own es) (hs:SelfE es) (hf:FOk f) (h:ZaM es f (some l)) {x:I2}:behind (upF f l) x=true↔behind f x=true∨x ∈ l:=by
 obtain⟨_,hg,_⟩:=Zdx h;have hr:∀y ∈ l,RtI y:=fun y hy=>ho.of_get (hg y hy);rw[Za6,Za6];constructor
 · rintro⟨h1,h2⟩
   have hq7:x.1.toNat < 7:=by obtain⟨h1,h2,_⟩:=h1;omega
   by_cases hlt:x.2 < f.at x.1.toNat
   · exact .inl ⟨h1,hlt⟩
   right
   rcases Znw (f:=f) hq7 hr with e|⟨y,hy,e1,e2⟩
   · rw[e] at h2;exact absurd h2 hlt
   have hd:=Zfz ho hs hf h hy (y.2 - x.2).toNat x.2 (by omega) (by rw[e1];omega);obtain⟨a,_⟩:=h1;obtain⟨b,_⟩:=hr y hy;have:y.1=x.1:=by omega
   rw[this] at hd;exact hd
 rintro(⟨h1,h2⟩|hx)
 · exact⟨h1,by
    have:=Zir (f:=f) hr (k:=x.1.toNat) (by obtain⟨a,b,_⟩:=h1;omega)
    omega⟩
 exact⟨hr x hx,ZhG hr hx⟩
def ClF (es:List (I2 × A8)) (f:F7):Prop:=∀x,behind f x=true→∀y ∈ ZaA es f0F x,behind f y=true
theorem Znb:ClF es f0F:=fun x hx=>by
 have:=Za6.1 hx;have h1:=this.1;have h2:=this.2;rw[f0_at (by obtain⟨a,b,_⟩:=h1;omega)] at h2;obtain⟨_,_,h3,_⟩:=h1
 omega
theorem ZiJ {f:F7} (hd:Deps es) {x y:I2} (hy:y ∈ ZaA es f0F x):y ∈ ZaA es f x∨(RtI y→behind f y=true):=by
 obtain⟨a,q,ha,hq,hlt,rfl⟩:=Zbd.1 hy;by_cases h:f.at q < a.dep q
 · exact .inl (Zbd.2 ⟨a,q,ha,hq,h,rfl⟩)
 right
 intro hr;rw[Za6];refine⟨hr,?_⟩;simp only[Int.toNat_natCast];omega
theorem ZkU (hd:Deps es) {f:F7} (hf:FOk f) {x y:I2} (hy:y ∈ ZaA es f x):RtI y:=by
 obtain⟨a,q,ha,hq,hlt,rfl⟩:=Zbd.1 hy;have:=hd x a ha q hq;have:=hf q hq;exact⟨by show(0:Int)≤q;omega,by show(q:Int) < 7;omega,by show 0≤a.dep q - 1;omega,by show a.dep q - 1 < 1024;omega⟩
theorem f0_ok:FOk f0F:=fun q hq=>by rw[f0_at hq];omega
theorem Zib {f:F7} {l:List I2} (ho:Own es) (hs:SelfE es) (hf:FOk f) (h:ZaM es f (some l)) (hc:ClF es f):ClF es (upF f l):=by
 intro x hx y hy;rw[Zep ho hs hf h] at hx ⊢;rcases hx with hx|hx
 · exact .inl (hc x hx y hy)
 rcases ZiJ ho.deps hy with q|q
 · exact .inr (Zgj h hx q)
 exact .inl (q (ZkU ho.deps f0_ok hy))
theorem Znc {f:F7} (hc:ClF es f) {x y:I2} (hx:behind f x=true) (r:RI es f0F x y):behind f y=true:=by
 induction r with
 |refl=>exact hx
 |step _ hy ih=>exact hc _ ih _ hy
theorem Zko {f:F7} (ho:Own es) (hc:ClF es f) {x y:I2} (r:RI es f0F x y) (hy:behind f y=false):RI es f x y:=by
 induction r with
 |refl=>exact .refl
 |step t h ih=>
  rename_i z y
  have hz:behind f z=false:=by
   cases hb:behind f z with
   |false=>rfl
   |true=>have:=hc z hb _ h;rw[hy] at this;cases this
  refine .step (ih hz) ?_;rcases ZiJ (f:=f) ho.deps h with q|q
  · exact q
  have:=q (ZkU ho.deps f0_ok h)
  rw[hy] at this;cases this
theorem Zmi {f:F7} (hf:FOk f) {x y:I2} (r:RI es f x y):RI es f0F x y:=by
 induction r with
 |refl=>exact .refl
 |step t h ih=>
  refine .step ih ?_;obtain⟨a,q,ha,hq,hlt,e⟩:=Zbd.1 h;exact Zbd.2 ⟨a,q,ha,hq,by rw[f0_at hq];have:=(hf q hq).1;omega,e⟩
theorem ZkN {Lk:List I2} {f:F7} {x z:I2} (hx:x ∈ Lk) (hcl:∀z ∈ Lk,∀y ∈ ZaA es f z,(getA es y).isSome=true→y ∈ Lk) (r:RI es f x z):(getA es z).isSome=true→z ∈ Lk:=by
 induction r with
 |refl=>exact fun _=>hx
 |step t h ih=>
  intro hg;refine hcl _ (ih ?_) _ h hg;obtain⟨a,ha,_⟩:=ZbW h;rw[ha];rfl
theorem ZoY {Lk:List I2} {f:F7} {i:Nat} {x:I2} (hn:Lk.Nodup) (hx:Lk[i]? =some x) (hcl:∀z ∈ Lk,∀y ∈ ZaA es f z,(getA es y).isSome=true→y ∈ Lk) {y:I2} (r:RI es f x y):∀{k:Nat},Lk[k]? =some y→Tar.R (nxL es f Lk) i k:=by
 induction r with
 |refl=>
  intro k hk;obtain⟨h1,e1⟩:=List.getElem?_eq_some_iff.1 hx;obtain⟨h2,e2⟩:=List.getElem?_eq_some_iff.1 hk
  have:i=k:=by
   rcases Nat.lt_trichotomy i k with q|q|q
   · exact absurd (by rw[e1,e2]) (List.pairwise_iff_getElem.1 hn i k h1 h2 q)
   · exact q
   exact absurd (by rw[e1,e2]) (List.pairwise_iff_getElem.1 hn k i h2 h1 q)
  rw[this];exact .refl _
 |step t h ih=>
  intro k hk
  obtain⟨m,hm,e⟩:=List.mem_iff_getElem.1 (ZkN (List.mem_of_getElem? hx) hcl t (by
   obtain⟨a,ha,_⟩:=ZbW h
   rw[ha];rfl))
  exact(ih (k:=m) (by rw[List.getElem?_eq_getElem hm,e])).trans (.one (Zjl (by rw[List.getElem?_eq_getElem hm,e]) h hk hn))
theorem ZoZ {Lk:List I2} {f:F7} {i k:Nat} (r:Tar.R (nxL es f Lk) i k):∀{x y:I2},Lk[i]? =some x→Lk[k]? =some y→RI es f x y:=by
 induction r with
 |refl _=>
  intro x y hx hy;rw[hx] at hy;cases hy;exact .refl
 |step h _ ih=>
  intro x y hx hy;obtain⟨x2,z,h1,h2,h3⟩:=ZjI h;rw[hx] at h1;cases h1;exact(RI.step .refl h3).trans (ih h2 hy)
def seqE (es:List (I2 × A8)) (x:I2):Int:=((getA es x).getD A8.zero).s
theorem Zjp {f:F7} {l:List I2} (hs:l.Pairwise ltID) (hcl:∀z ∈ l,∀y ∈ ZaA es f z,(getA es y).isSome=true→y ∈ l):
 (ordG es f l).Pairwise fun o x=>RI es f o x→RI es f x o∧(seqE es o < seqE es x∨seqE es o=seqE es x∧ltID o x):=by
 have hn:l.Nodup:=hs.imp fun q e=>by rw[e] at q;exact ZcM q
 have hp:=Tar.Zjo (nx:=nxL es f l) (n:=l.length) (fun x _ y hy=>ZkG hy) (sqE (enL es l));have hm:∀p ∈ ordN es f l,p < l.length:=fun p hp=>List.mem_range.1 ((ZgS es f l).mem_iff.1 hp);unfold ordG;rw[List.pairwise_map];refine(List.Pairwise.and_mem.1 hp).imp ?_;rintro p q ⟨h1,h2,h⟩ r
 obtain⟨x,hx⟩:∃x,l[p]? =some x:=⟨_,List.getElem?_eq_getElem (hm p h1)⟩
 obtain⟨y,hy⟩:∃y,l[q]? =some y:=⟨_,List.getElem?_eq_getElem (hm q h2)⟩
 have ex:idK (enL es l) p=x:=ZfJ hx;have ey:idK (enL es l) q=y:=ZfJ hy;have sx:sqE (enL es l) p=seqE es x:=by unfold sqE enL seqE;rw[hx]
 have sy:sqE (enL es l) q=seqE es y:=by unfold sqE enL seqE;rw[hy]
 rw[ex,ey] at r ⊢;obtain⟨g1,g2⟩:=h (ZoY hn hx hcl r hy);refine⟨ZoZ g1 hy hx,?_⟩;unfold Tar.ltS at g2;rw[sx,sy] at g2
 refine g2.imp id fun⟨a,b⟩=>⟨a,?_⟩
 obtain⟨hp',rfl⟩:=List.getElem?_eq_some_iff.1 hx;obtain⟨hq',rfl⟩:=List.getElem?_eq_some_iff.1 hy;exact List.pairwise_iff_getElem.1 hs p q hp' hq' b
theorem Zkb (ho:Own es) (hs:SelfE es) {f g:F7} {got:List I2} (h:RunR es f got g):FOk f→ClF es f→
 (∀x ∈ got,(getA es x).isSome=true∧behind f x=false∧behind g x=true)∧got.Nodup∧got.Pairwise (fun o x=>RI es f0F o x→RI es f0F x o∧(seqE es o < seqE es x∨seqE es o=seqE es x∧ltID o x))∧(∀x,behind f x=true→behind g x=true):=by
 induction h with
 |stop h=>exact fun _ _=>⟨nofun,.nil,.nil,fun _ h=>h⟩
 |go h t ih=>
  rename_i f g l r;intro hf hc;obtain⟨i1,i2,i3,i4⟩:=ih (ZhF ho hf h).1 (Zib ho hs hf h hc);obtain⟨p1,p2,_⟩:=Zdx h;have hmem:∀x,x ∈ ordG es f l↔x ∈ l:=fun x=>(ZbV es f l).mem_iff;have hup:=fun x=>Zep ho hs hf h (x:=x)
  have hnr:∀x ∈ r,x ∉ l∧behind f x=false:=fun x hx=>by
   have h1:=(i1 x hx).2.1;constructor
   · intro q;rw[(hup x).2 (.inr q)] at h1;cases h1
   cases hb:behind f x with
   |false=>rfl
   |true=>rw[(hup x).2 (.inl hb)] at h1;cases h1
  have hln:(ordG es f l).Nodup:=(ZbV es f l).nodup_iff.2 (p1.imp fun q e=>by rw[e] at q;exact ZcM q);refine⟨fun x hx=> ?_,List.nodup_append.2 ⟨hln,i2,fun x hx y hy e=> ?_⟩,List.pairwise_append.2 ⟨?_,i3,fun x hx y hy rr=> ?_⟩,fun x hx=>i4 x ((hup x).2 (.inl hx))⟩
  · rcases List.mem_append.1 hx with q|q
    · rw[hmem] at q;exact⟨p2 x q,Zhc h x q,i4 x ((hup x).2 (.inr q))⟩
    exact⟨(i1 x q).1,(hnr x q).2,(i1 x q).2.2⟩
  · subst e;exact(hnr x hy).1 ((hmem x).1 hx)
  · refine(List.Pairwise.and_mem.1 (Zjp p1 fun z hz y hy _=>Zgj h hz hy)).imp ?_;rintro o x ⟨h1,h2,hp⟩ rr;obtain⟨g1,g2⟩:=hp (Zko ho hc rr (Zhc h x ((hmem x).1 h2)));exact⟨Zmi hf g1,g2⟩
  have h1:=Znc (Zib ho hs hf h hc) ((hup x).2 (.inr ((hmem x).1 hx))) rr;rw[(i1 y hy).2.1] at h1;cases h1
end
end Gr
end
section
namespace Gr
open _root_.Go.Proofs.YtbeckijoabapkaaGreatDoor.Mark (ltID Zay)
open _root_.Go.Proofs.YtbeckijoabapkaaGreatDoor.Ref (IA)
open Go.RowKit
open Attr (A8 Zaz Zas ownsB)
theorem ZcP {es:List IA} {x:I2} {a:A8} (h:getA es x=none):getA (es++[(x,a)]) x=some a:=by
 unfold getA at h ⊢;have h1:es.find? (fun e=>decide (e.1=x))=none:=by simpa using h
 rw[List.find?_append,h1];simp
theorem Zcs {es:List IA} {x y:I2} {a:A8} (h:y≠x):getA (es++[(x,a)]) y=getA es y:=by
 unfold getA;rw[List.find?_append]
 have:[(x,a)].find? (fun e=>decide (e.1=y))=none:=by
  rw[List.find?_cons,decide_eq_false (fun e=>h e.symm)];rfl
 rw[this,Option.or_none]
theorem ZmO {es:List IA} {x y:I2} {a b:A8} (h:getA (addG es x a).1 y=some b):getA es y=some b∨(y=x∧b=a∧getA es x=none):=by
 unfold addG at h;split at h
 · split at h
   · split at h
     · exact .inl h
     exact .inl h
   rename_i hn;by_cases e:y=x
   · subst e;rw[ZcP hn] at h;cases h;exact .inr ⟨rfl,rfl,hn⟩
   rw[Zcs e] at h;exact .inl h
 exact .inl h
theorem Zk8 {es:List IA} {x y:I2} {a b:A8} (h:getA es y=some b):getA (addG es x a).1 y=some b:=by
 unfold addG;split
 · split
   · split<;>exact h
   rename_i hn;have e:y≠x:=fun e=>by rw[e,hn] at h;cases h
   rw[Zcs e];exact h
 exact h
theorem Zmd {es:List IA} (ho:Own es) (hs:SelfE es) {f g:F7} {got:List I2} (h:RunR es f got g):FOk f→ClF es f→FOk g∧ClF es g∧∀x,behind g x=true↔behind f x=true∨x ∈ got:=by
 induction h with
 |stop h=>exact fun hf hc=>⟨hf,hc,fun x=>by simp⟩
 |go h t ih=>
  rename_i f g l r;intro hf hc;obtain⟨i1,i2,i3⟩:=ih (ZhF ho hf h).1 (Zib ho hs hf h hc);refine⟨i1,i2,fun x=> ?_⟩;rw[i3,Zep ho hs hf h,List.mem_append,(ZbV es f l).mem_iff,or_assoc]
def Fore (es:List IA) (o x:I2):Prop:=RI es f0F o x→RI es f0F x o∧(seqE es o < seqE es x∨seqE es o=seqE es x∧ltID o x)
structure Pl (M:I2→A8→Prop) (es:List IA) (f:F7) (out:List I2):Prop where
 own:Own es
 self:SelfE es
 fok:FOk f
 cl:ClF es f
 beh:∀x,behind f x=true↔x ∈ out
 got:∀x ∈ out,(getA es x).isSome=true
 sub:∀x a,getA es x=some a→M x a
 once:out.Nodup
 fore:out.Pairwise (Fore es)
theorem Pl.start (M:I2→A8→Prop):Pl M [] f0F []:=by
 refine⟨Zoe,fun x a h=>by simp[getA] at h,f0_ok,Znb,fun x=> ?_,nofun,fun x a h=>by simp[getA] at h,.nil,.nil⟩
 constructor
 · intro h;have h1:=(Za6.1 h).1;have h2:=(Za6.1 h).2;rw[f0_at (by obtain⟨a,b,_⟩:=h1;omega)] at h2;obtain⟨_,_,h3,_⟩:=h1;omega
 nofun
theorem Zcq {es es':List IA} {f:F7} {x:I2} (h:getA es' x=getA es x):ZaA es' f x=ZaA es f x:=by unfold ZaA;rw[h]
theorem Pl.shut {M:I2→A8→Prop} {es:List IA} {f:F7} {out:List I2} (h:Pl M es f out) {x y:I2} (hx:x ∈ out) (r:RI es f0F x y):y ∈ out:=by
 induction r with
 |refl=>exact hx
 |step _ hy ih=>exact(h.beh _).1 (h.cl _ ((h.beh _).2 ih) _ hy)
theorem Pl.over {M:I2→A8→Prop} {es es':List IA} {f:F7} {out:List I2} (h:Pl M es f out) (he:∀z ∈ out,getA es' z=getA es z) {x y:I2} (hx:x ∈ out):RI es' f0F x y↔RI es f0F x y:=by
 constructor
 · intro r;suffices H:RI es f0F x y∧y ∈ out from H.1
   induction r with
   |refl=>exact⟨.refl,hx⟩
   |step _ hy ih=>
    have hy2:=hy;rw[Zcq (he _ ih.2)] at hy2;exact⟨.step ih.1 hy2,h.shut ih.2 (.step .refl hy2)⟩
 intro r
 induction r with
 |refl=>exact .refl
 |step t hy ih=>exact .step ih (by rw[Zcq (he _ (h.shut hx t))];exact hy)
theorem Pl.add {M:I2→A8→Prop} {es:List IA} {f:F7} {out:List I2} (h:Pl M es f out) (x:I2) (a:A8) (hm:M x a):Pl M (addG es x a).1 f out:=by
 have hk:∀z ∈ out,getA (addG es x a).1 z=getA es z:=fun z hz=>by
  have:=h.got z hz
  cases hq:getA es z with
  |none=>rw[hq] at this;cases this
  |some b=>exact Zk8 hq
 refine⟨h.own.add x a,h.self.add h.own x a,h.fok,fun y hy z hz=> ?_,h.beh,fun y hy=>by rw[hk y hy];exact h.got y hy,fun y b hb=> ?_,h.once,?_⟩
 · rw[Zcq (hk y ((h.beh y).1 hy))] at hz;exact h.cl y hy z hz
 · rcases ZmO hb with q|⟨rfl,rfl,_⟩
   · exact h.sub y b q
   exact hm
 refine(List.Pairwise.and_mem.1 h.fore).imp ?_;rintro o y ⟨ho,hy,hf⟩ r;obtain⟨g1,g2⟩:=hf ((h.over hk ho).1 r);refine⟨(h.over hk hy).2 g1,?_⟩;unfold seqE at g2 ⊢;rw[hk o ho,hk y hy];exact g2
theorem Pl.run {M:I2→A8→Prop} {es:List IA} {f g:F7} {out got:List I2} (h:Pl M es f out) (hr:RunR es f got g):Pl M es g (out++got):=by
 obtain⟨r1,r2,r3,r4⟩:=Zkb h.own h.self hr h.fok h.cl;obtain⟨m1,m2,m3⟩:=Zmd h.own h.self hr h.fok h.cl;refine⟨h.own,h.self,m1,m2,fun x=>by rw[m3,h.beh,List.mem_append],fun x hx=> ?_,h.sub,List.nodup_append.2 ⟨h.once,r2,fun x hx y hy e=> ?_⟩,List.pairwise_append.2 ⟨h.fore,r3,fun x hx y hy r=> ?_⟩⟩
 · rcases List.mem_append.1 hx with q|q
   · exact h.got x q
   exact(r1 x q).1
 · subst e;have h1:=(r1 x hy).2.1;rw[(h.beh x).2 hx] at h1;cases h1
 have h1:=(r1 y hy).2.1;rw[(h.beh y).2 (h.shut hx r)] at h1;cases h1
theorem Zh0 {es:List IA} {out:List I2} (hp:out.Pairwise (Fore es)) {i k:Nat} {p q:I2} (hi:out[i]? =some p) (hk:out[k]? =some q) (hlt:i < k):Fore es p q:=by
 obtain⟨h1,rfl⟩:=List.getElem?_eq_some_iff.1 hi;obtain⟨h2,rfl⟩:=List.getElem?_eq_some_iff.1 hk;exact List.pairwise_iff_getElem.1 hp i k h1 h2 hlt
theorem Pl.same {M:I2→A8→Prop} (hM:∀x a b,M x a→M x b→a=b) {es es':List IA} {f f':F7} {out out':List I2} (h:Pl M es f out) (h':Pl M es' f' out') {p q:I2} {i k m n:Nat} (hi:out[i]? =some p) (hk:out[k]? =some q) (hm:out'[m]? =some p) (hn:out'[n]? =some q)
 (r:RI es f0F p q):i < k↔m < n:=by
 suffices H:∀{es es':List IA} {f f':F7} {out out':List I2},Pl M es f out→Pl M es' f' out'→∀{i k m n:Nat},out[i]? =some p→out[k]? =some q→out'[m]? =some p→out'[n]? =some q→RI es f0F p q→i < k→m < n by
  refine⟨H h h' hi hk hm hn r,H h' h hm hn hi hk ?_⟩
  have hc:∀z,RI es f0F p z→RI es' f0F p z∧z ∈ out':=by
   intro z t
   induction t with
   |refl=>exact⟨.refl,List.mem_of_getElem? hm⟩
   |step t hy ih=>
    have hz:=h.got _ (h.shut (List.mem_of_getElem? hi) t);have hz':=h'.got _ ih.2
    have e:ZaA es' f0F _=ZaA es f0F _:=Zcq (by
     obtain⟨a,ha⟩:=Option.isSome_iff_exists.1 hz;obtain⟨b,hb⟩:=Option.isSome_iff_exists.1 hz'
     rw[ha,hb,hM _ _ _ (h.sub _ _ ha) (h'.sub _ _ hb)])
    rw[←e] at hy;exact⟨.step ih.1 hy,h'.shut ih.2 (.step .refl hy)⟩
  exact(hc q r).1
 intro es es' f f' out out' h h' i k m n hi hk hm hn r hlt;obtain⟨g1,g2⟩:=Zh0 h.fore hi hk hlt r
 have hge:∀z,z ∈ out→z ∈ out'→getA es' z=getA es z:=fun z hz hz'=>by
  obtain⟨a,ha⟩:=Option.isSome_iff_exists.1 (h.got z hz);obtain⟨b,hb⟩:=Option.isSome_iff_exists.1 (h'.got z hz');rw[ha,hb,hM _ _ _ (h.sub _ _ ha) (h'.sub _ _ hb)]
 have hc:∀x z,x ∈ out→x ∈ out'→RI es f0F x z→RI es' f0F x z∧z ∈ out':=by
  intro x z hx hx' t
  induction t with
  |refl=>exact⟨.refl,hx'⟩
  |step t hy ih=>
   have e:ZaA es' f0F _=ZaA es f0F _:=Zcq (hge _ (h.shut hx t) ih.2);rw[←e] at hy;exact⟨.step ih.1 hy,h'.shut ih.2 (.step .refl hy)⟩
 have hp:=List.mem_of_getElem? hi;have hq:=List.mem_of_getElem? hk;have hp':=List.mem_of_getElem? hm;have hq':=List.mem_of_getElem? hn;have es1:seqE es' p=seqE es p:=by unfold seqE;rw[hge p hp hp']
 have es2:seqE es' q=seqE es q:=by unfold seqE;rw[hge q hq hq']
 rcases Nat.lt_trichotomy m n with c|c|c
 · exact c
 · subst c;rw[hm] at hn;cases hn;rcases g2 with g|⟨_,g⟩
   · omega
   exact absurd g ZcM
 obtain⟨k1,k2⟩:=Zh0 h'.fore hn hm c (hc q p hq hq' g1).1;rw[es1,es2] at k2;rcases g2 with g|⟨g,u⟩
 · rcases k2 with v|⟨v,_⟩<;>omega
 rcases k2 with v|⟨_,v⟩
 · omega
 exact absurd (lt_tr u v) ZcM
theorem Pl.covers {M:I2→A8→Prop} (hM:∀x a b,M x a→M x b→a=b) {es:List IA} {f:F7} {out:List I2} (h:Pl M es f out) {p q:I2} {a:A8} (hp:p ∈ out) (ha:M p a) (hq:RtI q) (hc:q.2 < a.dep q.1.toNat):RI es f0F p q:=by
 obtain⟨b,hb⟩:=Option.isSome_iff_exists.1 (h.got p hp);cases hM _ _ _ ha (h.sub _ _ hb);obtain⟨r,t⟩:=q;obtain⟨q1,q2,q3,q4⟩:=hq;simp only at q1 q2 q3 q4 hc;have hr7:r.toNat < 7:=by omega
 have hrr:((r.toNat:Nat):Int)=r:=by omega
 have hl:RI es f0F p (r,a.dep r.toNat - 1):=.step .refl (Zbd.2 ⟨a,r.toNat,hb,hr7,by rw[f0_at hr7];omega,by rw[hrr]⟩);suffices H:∀(d:Nat) (s:Int),0≤s→s + d=a.dep r.toNat - 1→RI es f0F p (r,s) from H (a.dep r.toNat - 1 - t).toNat t (by omega) (by omega)
 intro d
 induction d with
 |zero=>
  intro s h0 e;rw[show s=a.dep r.toNat - 1 by omega];exact hl
 |succ d ih=>
  intro s h0 e;have h2:=ih (s + 1) (by omega) (by omega);obtain⟨c,hc2⟩:=Option.isSome_iff_exists.1 (h.got _ (h.shut hp h2));have h3:=h.self _ c hc2;simp only at h3;refine .step h2 (Zbd.2 ⟨c,r.toNat,hc2,hr7,by rw[f0_at hr7,h3];omega,?_⟩);rw[h3,hrr,show s + 1 - 1=s by omega]
theorem Pl.len {l:List IA} {es:List IA} {f:F7} {out:List I2} (h:Pl (fun x a=>(x,a) ∈ l) es f out):es.length≤l.length∧out.length≤l.length:=by
 have h1:(es.map (·.1)).length≤(l.map (·.1)).length:=Zdm h.own.uq fun x hx=>by
  obtain⟨e,he,rfl⟩:=List.mem_map.1 hx;exact List.mem_map.2 ⟨_,h.sub _ _ (Zbn h.own.uq he),rfl⟩
 have h2:out.length≤(l.map (·.1)).length:=Zdm h.once fun x hx=>by
  obtain⟨a,ha⟩:=Option.isSome_iff_exists.1 (h.got x hx);exact List.mem_map.2 ⟨_,h.sub _ _ ha,rfl⟩
 simpa using And.intro h1 h2
end Gr
end
section
namespace Gr
open _root_.Go.Proofs.YtbeckijoabapkaaGreatDoor.Mark (ltID Zay)
open _root_.Go.Proofs.YtbeckijoabapkaaGreatDoor.Ref (IA)
open Go.RowKit
open Attr (A8 Zaz Zas ownsB)
theorem Pl.lead {M:I2→A8→Prop} {es:List IA} {f:F7} {out:List I2} (h:Pl M es f out) {x y:I2} (hx:x ∈ out) (hy:y ∈ ZaA es f0F x):y ∈ out:=h.shut hx (.step .refl hy)
theorem Pl.down {M:I2→A8→Prop} {es:List IA} {f:F7} {out:List I2} (h:Pl M es f out) {x:I2} (hx:x ∈ out):∀(d:Nat) (t:Int),t + d=x.2→0≤t→(x.1,t) ∈ out
 |0,t,he,_=>by
  have:(x.1,t)=x:=by rw[show t=x.2 by omega]
  rw[this];exact hx
 |d + 1,t,he,h0=>by
  have ih:=Pl.down h hx d (t + 1) (by omega) (by omega);obtain⟨a,ha⟩:=Option.isSome_iff_exists.1 (h.got _ ih);have hr:RtI x:=h.own.of_get (h.got x hx);have hsf:=h.self _ a ha;simp only at hsf;have hq7:x.1.toNat < 7:=by obtain⟨h1,h2,_⟩:=hr;omega
  refine h.lead ih (Zbd.2 ⟨a,x.1.toNat,ha,hq7,by rw[f0_at hq7,hsf];omega,?_⟩);rw[hsf];obtain⟨h1,_⟩:=hr;rw[show((x.1.toNat:Nat):Int)=x.1 by omega,show t + 1 - 1=t by omega]
theorem Pl.all {M:I2→A8→Prop} {es es':List IA} {f f':F7} {out out':List I2} (h:Pl M es f out) (h':Pl M es' f' out') (hn:ZaM es' f' none) (hs:∀z a,getA es z=some a→getA es' z=some a):∀a ∈ out,a ∈ out':=by
 intro a ha
 have hg:∀z ∈ out,getA es' z=getA es z:=fun z hz=>by
  obtain⟨b,hb⟩:=Option.isSome_iff_exists.1 (h.got z hz);rw[hs z b hb,hb]
 refine(h'.beh a).1 ?_
 cases hb:behind f' a with
 |true=>rfl
 |false=>
  exfalso
  have hr:RtI a:=h.own.of_get (h.got a ha)
  have hle:f'.at a.1.toNat≤a.2:=by
   rcases Int.lt_or_le a.2 (f'.at a.1.toNat) with q|q
   · rw[Za6.2 ⟨hr,q⟩] at hb;cases hb
   exact q
  have hq7:a.1.toNat < 7:=by obtain⟨h1,h2,_⟩:=hr;omega
  have h0:=(h'.fok a.1.toNat hq7).1
  have hbm:Zcd f' a.1.toNat ∈ out:=by
   have:=h.down ha (a.2 - f'.at a.1.toNat).toNat (f'.at a.1.toNat) (by omega) h0;unfold Zcd;obtain⟨h1,_⟩:=hr;rw[show((a.1.toNat:Nat):Int)=a.1 by omega];exact this
  have hcl:∀x,RI es' f' (Zcd f' a.1.toNat) x→x ∈ out:=by
   intro x t
   induction t with
   |refl=>exact hbm
   |step _ hy ih=>
    obtain⟨b,k,hb,hk,hlt,rfl⟩:=Zbd.1 hy;refine h.lead ih (Zbd.2 ⟨b,k,(hg _ ih).symm.trans hb,hk,?_,rfl⟩);rw[f0_at hk];have:=(h'.fok k hk).1;omega
  rcases hn a.1.toNat hq7 with q|⟨x,t,hx⟩
  · have:=(Za6.1 q).2
    unfold Zcd at this;simp only[Int.toNat_natCast] at this;exact absurd this (Int.lt_irrefl _)
  have:=h.got x (hcl x t)
  rw[←hg x (hcl x t),hx] at this;cases this
end Gr
end
section
namespace Gr
open _root_.Go.Proofs.YtbeckijoabapkaaGreatDoor.Ref (IA)
open _root_.Go.Proofs.YtbeckijoabapkaaGreatDoor.Tab (Za4 ansZ Zf4 ZhT Zif TS CmOk)
open Go.RowKit
open Attr (A8)
open Cmd (Cm)
def covA (a:A8) (y:I2):Prop:=y.2 < a.dep y.1.toNat
theorem ZmW {M:I2→A8→Prop} (hM:∀x a b,M x a→M x b→a=b) {cmd:I2→Cm} (hcov:∀x y a b,M x a→M y b→x≠y→Za4 (cmd x) (cmd y)=true→covA a y∨covA b x)
 {es es':List IA} {f f':F7} {out out':List I2} (h:Pl M es f out) (h':Pl M es' f' out') (hs:∀z a,getA es z=some a→getA es' z=some a):
 ∀a ∈ out,∀b,[b,a].Sublist out'→Za4 (cmd b) (cmd a)=true→[b,a].Sublist out:=by
 intro a ha b hb hc;obtain⟨m,n,hm,hn,hmn⟩:=ZhT hb;have hbm:b ∈ out':=List.mem_of_getElem? hm
 have hba:b≠a:=fun e=>by
  subst e;obtain⟨h1,e1⟩:=List.getElem?_eq_some_iff.1 hm;obtain⟨h2,e2⟩:=List.getElem?_eq_some_iff.1 hn;have:=(List.getElem_inj h'.once).1 (e1.trans e2.symm);omega
 obtain⟨A,hA⟩:=Option.isSome_iff_exists.1 (h.got a ha);obtain⟨B,hB⟩:=Option.isSome_iff_exists.1 (h'.got b hbm);have hRa:RtI a:=h.own.of_get (h.got a ha);have hRb:RtI b:=h'.own.of_get (h'.got b hbm)
 have hg:∀z ∈ out,getA es' z=getA es z:=fun z hz=>by
  obtain⟨c,hc⟩:=Option.isSome_iff_exists.1 (h.got z hz);rw[hs z c hc,hc]
 have key:RI es f0F a b:=by
  rcases hcov b a B A (h'.sub _ _ hB) (h.sub _ _ hA) hba hc with q|q
  · have r:=h'.covers hM hbm (h'.sub _ _ hB) hRa q;exact(h.over hg ha).1 (Zh0 h'.fore hm hn hmn r).1
  exact h.covers hM ha (h.sub _ _ hA) hRb q
 obtain⟨i,hi⟩:=List.mem_iff_getElem?.1 ha;obtain⟨k,hk⟩:=List.mem_iff_getElem?.1 (h.shut ha key);have hs2:=Pl.same hM h h' hi hk hn hm key
 have hik:i≠k:=fun e=>by
  subst e;rw[hi] at hk;exact hba (Option.some.inj hk).symm
 exact Zif hk hi (by omega)
theorem Zlh {M:I2→A8→Prop} (hM:∀x a b,M x a→M x b→a=b) {cmd:I2→Cm} (hcov:∀x y a b,M x a→M y b→x≠y→Za4 (cmd x) (cmd y)=true→covA a y∨covA b x)
 {es es':List IA} {f f':F7} {out out':List I2} (h:Pl M es f out) (h':Pl M es' f' out') (hn:ZaM es' f' none) (hs:∀z a,getA es z=some a→getA es' z=some a) {t:TS} {k:Nat} (hg:Tab.Good t k) (hok:∀a ∈ out',CmOk (cmd a)):
 ∀p ∈ ansZ cmd t out,p ∈ ansZ cmd t out':=
 Zf4 hg hok h.once h'.once (h.all h' hn hs) (ZmW hM hcov h h' hs)
end Gr
end
section
namespace Gr
open _root_.Go.Proofs.YtbeckijoabapkaaGreatDoor.Ref (IA)
open _root_.Go.Proofs.YtbeckijoabapkaaGreatDoor.Tab (Za4 ansZ ZcD ZgQ TS CmOk playT)
open Go.RowKit
open Attr (A8)
open Cmd (Cm)
theorem Zn0 {es:List IA} {f g:F7} {r:List I2} (h:RunR es f r g):ZaM es g none:=by
 induction h with
 |stop h=>exact h
 |go _ _ ih=>exact ih
structure ExS (M:I2→A8→Prop) (cmd:I2→Cm) (T0:TS) (K:List I2) (es:List IA) (f:F7) (out:List I2) (T:TS) (H:List (I2 × Lease.Ans)):Prop where
 pl:Pl M es f out
 keys:∀z,(getA es z).isSome=true↔z ∈ K
 tab:T=playT T0 (out.map cmd)
 hist:H=ansZ cmd T0 out
theorem ExS.start (M:I2→A8→Prop) (cmd:I2→Cm) (T0:TS):ExS M cmd T0 [] [] f0F [] T0 []:=⟨Pl.start M,fun z=>by simp[getA],rfl,rfl⟩
theorem ExS.learn {M:I2→A8→Prop} (hM:∀x a b,M x a→M x b→a=b) {cmd:I2→Cm} {T0 T:TS} {K:List I2} {es:List IA} {f:F7} {out:List I2} {H:List (I2 × Lease.Ans)} (h:ExS M cmd T0 K es f out T H) {x:I2} {a:A8} (hm:M x a) (ho:Attr.ownsB a x.1 x.2=true):
 ExS M cmd T0 (K++[x]) (addG es x a).1 f out T H:=by
 refine⟨h.pl.add x a hm,fun z=> ?_,h.tab,h.hist⟩;rw[List.mem_append,List.mem_singleton]
 cases hg:getA es x with
 |none=>
  have e:(addG es x a).1=es++[(x,a)]:=by simp[addG,ho,hg]
  rw[e];by_cases q:z=x
  · subst q;rw[ZcP hg];simp
  rw[Zcs q,h.keys];simp[q]
 |some b=>
  have e:(addG es x a).1=es:=by
   simp only[addG,ho,hg,if_true];split<;>rfl
  rw[e,h.keys];have hx:x ∈ K:=(h.keys x).1 (by rw[hg];rfl);constructor
  · exact .inl
  rintro(q|rfl)
  · exact q
  exact hx
theorem ExS.run {M:I2→A8→Prop} {cmd:I2→Cm} {T0 T:TS} {K:List I2} {es:List IA} {f g:F7} {out got:List I2} {H:List (I2 × Lease.Ans)} (h:ExS M cmd T0 K es f out T H) (hr:RunR es f got g):
 ExS M cmd T0 K es g (out++got) (playT T (got.map cmd)) (H++ansZ cmd T got)∧ZaM es g none:=by
 refine⟨⟨h.pl.run hr,h.keys,?_,?_⟩,Zn0 hr⟩
 · rw[h.tab,List.map_append,ZgQ]
 rw[h.hist,ZcD,←h.tab]
theorem ExS.sub {M:I2→A8→Prop} (hM:∀x a b,M x a→M x b→a=b) {cmd cmd':I2→Cm} {T0 T0' T T':TS} {K K':List I2} {es es':List IA} {f f':F7} {out out':List I2} {H H':List (I2 × Lease.Ans)} (h:ExS M cmd T0 K es f out T H) (h':ExS M cmd' T0' K' es' f' out' T' H') (hk:∀x ∈ K,x ∈ K'):
 ∀z a,getA es z=some a→getA es' z=some a:=fun z a ha=>by
 obtain⟨b,hb⟩:=Option.isSome_iff_exists.1 ((h'.keys z).2 (hk z ((h.keys z).1 (by rw[ha];rfl))));rw[hb,hM z b a (h'.pl.sub z b hb) (h.pl.sub z a ha)]
theorem ExS.told {M:I2→A8→Prop} (hM:∀x a b,M x a→M x b→a=b) {cmd:I2→Cm} (hcov:∀x y a b,M x a→M y b→x≠y→Za4 (cmd x) (cmd y)=true→covA a y∨covA b x)
 {T0 T T':TS} {K K':List I2} {es es':List IA} {f f':F7} {out out':List I2} {H H':List (I2 × Lease.Ans)} (h:ExS M cmd T0 K es f out T H) (h':ExS M cmd T0 K' es' f' out' T' H') (hn:ZaM es' f' none) (hk:∀x ∈ K,x ∈ K') {k:Nat} (hg:Tab.Good T0 k) (hok:∀a ∈ out',CmOk (cmd a)):
 ∀p ∈ H,p ∈ H':=by
 rw[h.hist,h'.hist];exact Zlh hM hcov h.pl h'.pl hn (ExS.sub hM h h' hk) hg hok
end Gr
end
section
namespace Lock
open Go.RowKit
open Go.Maps (Keyed)
open Path (bl Zag overB)
attribute [-go_sem] run_eql_struct run_neq_struct run_eqGuard_agg
attribute [local go_sem] ZnF eqlS
structure Kept (es cur dn:List Ent) (D:Ent→Bool):Prop where
 sub:cur.Sublist es
 kept:∀x ∈ es,x ∈ cur∨(D x=true∧x ∈ dn)
 done:∀x ∈ cur,x ∈ dn→D x=false
 inn:∀x ∈ dn,x ∈ es
 nd:dn.Nodup
theorem Kept.len {es cur dn:List Ent} {D:Ent→Bool} (h:Kept es cur dn D):dn.length≤es.length:=h.nd.length_le_of_subset (fun x hx=>h.inn x hx)
theorem ZgT {l1 l2:List Ent} {x:Ent} (h:(l1++x::l2).Nodup):x ∉ l1++l2:=(List.nodup_cons.1 (List.perm_middle.nodup h)).1
theorem Kept.next {es cur dn:List Ent} {D:Ent→Bool} (h:Kept es cur dn D) {x:Ent} (hx:x ∈ cur) (hn:x ∉ dn):(D x=false→Kept es cur (dn++[x]) D)∧
 (D x=true→∀l1 l2,cur=l1++x::l2→x ∉ l1++l2→Kept es (l1++l2) (dn++[x]) D):=by
 have hpw:(dn++[x]).Nodup:=List.nodup_append.2 ⟨h.nd,by simp,fun a ha c hc=>by rw[List.mem_singleton.1 hc];intro e;subst e;exact hn ha⟩
 have hdm:∀y ∈ dn++[x],y ∈ es:=fun y hy=>by
  rcases List.mem_append.1 hy with hy|hy
  · exact h.inn y hy
  rw[List.mem_singleton.1 hy];exact h.sub.subset hx
 constructor
 · intro hl;refine⟨h.sub,fun y hy=> ?_,fun y hy hz=> ?_,hdm,hpw⟩
   · rcases h.kept y hy with q|⟨q,r⟩
     · exact .inl q
     exact .inr ⟨q,by simp[r]⟩
   rcases List.mem_append.1 hz with hz|hz
   · exact h.done y hy hz
   rw[List.mem_singleton.1 hz];exact hl
 intro hl l1 l2 e hne;subst e;refine⟨(List.Sublist.append (List.Sublist.refl _) (List.sublist_cons_self _ _)).trans h.sub,fun y hy=> ?_,fun y hy hz=> ?_,hdm,hpw⟩
 · rcases h.kept y hy with q|⟨q,r⟩
   · by_cases hyx:y=x
     · subst hyx;exact .inr ⟨hl,by simp⟩
     left
     simp only[List.mem_append,List.mem_cons] at q ⊢;rcases q with q|q|q
     · exact .inl q
     · exact absurd q hyx
     exact .inr q
   exact .inr ⟨q,by simp[r]⟩
 rcases List.mem_append.1 hz with hz|hz
 · exact h.done y (by simp only[List.mem_append,List.mem_cons] at hy ⊢;rcases hy with hy|hy<;>simp[hy]) hz
 rw[List.mem_singleton.1 hz] at hy;exact absurd hy hne
theorem Kept.end {es cur dn:List Ent} {D:Ent→Bool} (h:Kept es cur dn D) (hnd:es.Nodup) (hall:∀x ∈ cur,x ∈ dn):cur=es.filter (fun x=> !D x):=by
 have hs:cur.Sublist (es.filter (fun x=> !D x)):=by
  have:=h.sub.filter (fun x=> !D x)
  rwa [List.filter_eq_self.2 (fun x hx=>by rw[h.done x hx (hall x hx)];rfl)] at this
 refine hs.eq_of_length ?_;refine(List.Perm.length_eq ?_);refine(List.perm_ext_iff_of_nodup (h.sub.nodup hnd) (hnd.sublist List.filter_sublist)).2 fun x=> ?_;rw[List.mem_filter];constructor
 · intro hx;exact⟨h.sub.subset hx,by rw[h.done x hx (hall x hx)];rfl⟩
 rintro⟨h1,h2⟩
 rcases h.kept x h1 with q|⟨q,_⟩
 · exact q
 rw[q] at h2;cases h2
theorem ZmZ (l1 l2:List Ent) (e:Ent):ents (l1++e::l2)=ents l1++(e.key,e.val)::ents l2:=by simp[ents,ent]
theorem Zm1 (l1 l2:List Ent):ents l1++ents l2=ents (l1++l2):=by simp[ents]
theorem Zhp {w:World} {bS:Nat} {n k:Int} {f p g:ByteArray} {v:List Value} (h:Sep [boxS bS n f] w) {c:Bool} (hc:decide (k=n∧g=f)=c) {c1 c2 c3 c4 c5 c6:Value}:
 Calls Tryz.prog 83 #[.agg #[.string p,.int .u64 k,.string g],.agg #[c1,c2,c3,c4,c5,c6],.pointer (some ⟨bS,0,none⟩)] w fun e w'=>e=.returned (.bool c)∧At [boxS bS n f] w [boxS bS n f] w':=by
 have hA:=At.start h;obtain⟨hA,hF⟩:=fY hA;clear h;have hc':=Hd hc;clear hc;go_enter Tryz.func83,Tryz.ntmps83
 go_wp2_with ((with_reducible refine gbx ?_);refine wCy hA ?_;clear hF hA;intro b1 w1 hA hb1 hF)
 go_ret;exact⟨by rw[←hc'.out,Bool.decide_and];rfl,hA.only1 sR⟩
abbrev iterE (r b:Nat) (cur dn:List Ent):Part:=.iterD Tryz.prog 163 r b (ents cur) (ents dn)
def DelRel (L0:List Part) (w:World) (m r bS:Nat) (n:Int) (f:ByteArray) (es:List Ent) (k:Nat) (wr:World):Prop:=
 ∃cur dn:List Ent,Kept es cur dn (·.of n f)∧dn.length + k=es.length∧At L0 w [iterE r m cur dn,boxS bS n f] wr
theorem ZoK {w:World} {m bS:Nat} {n:Int} {f:ByteArray} {es:List Ent} (h:Sep [mapC m (ents es),boxS bS n f] w) (hok:∀x ∈ es,x.path.size≤maxLen∧0≤x.num∧x.num < big64∧x.foot.size≤maxLen):
 Calls Tryz.prog 82 #[.map (some m),.func (.func 83) #[] #[.pointer (some ⟨bS,0,none⟩)]] w fun e w'=>e=.returned (.tuple #[])∧At [mapC m (ents es),boxS bS n f] w [mapC m (ents (es.filter (fun x=> !x.of n f))),boxS bS n f] w':=by
 have hA:=At.start h;have hkeys:=ZkY (MapAt.keys (hA.get (A:=mapC m (ents es)) sR));have hnde:es.Nodup:=hkeys.imp (fun h e=>h (by rw[e]));obtain⟨hA,hF⟩:=fY hA;clear h hkeys;go_enter Tryz.func82,Tryz.ntmps82
 go_wp2_with (refine ZaQ rfl rfl rfl hA sR Tryz.underlying114 ?_;intro r w1 hB hr;replace hA:=hB.rangeD sR;clear hF;obtain⟨hA,hF⟩:=fY hA)
 (try go_frame);go_loopg [5] es.length (fun k _ wr=>DelRel [mapC m (ents es),boxS bS n f] w m r bS n f es k wr)
 case atStart=>exact⟨es,[],⟨List.Sublist.refl _,fun x hx=>.inl hx,fun x _ hx=>(by cases hx),nofun,List.nodup_nil⟩,by simp,hA⟩
 case round=>
  obtain⟨cur,dn,hL,hk,hB⟩:=hrel;replace hA:=hB;clear hF hB;obtain⟨hA,hF⟩:=fY hA;go_step
  go_step
  refine Zed rfl rfl rfl hA sR (fun hp=> ?_) (fun q w1 hq hd hB=> ?_)
  · have hM:=hA.rangedD sR;have hfin:=Hd (hL.end hnde (fun x hx=>ZoI (hp _ (List.mem_map.2 ⟨x,hx,rfl⟩))));clear hp hL;go_wp2_with fail;go_end0
    exact⟨rfl,by rw[←hfin.out];exact hM.only2 sR sR⟩
  obtain⟨x,hx,rfl⟩:=List.mem_map.1 hq;have hI:IterD Tryz.prog 163 w1 r m (ents cur) (ents dn++[ent x]):=hB.get (A:=Part.iterD Tryz.prog 163 r m (ents cur) (ents dn++[ent x])) sR;have hen:=hI.entry hq;have hnot:x ∉ dn:=fun q=>hd (ent x) (List.mem_map.2 ⟨x,q,rfl⟩) rfl;obtain⟨hn1,hn2⟩:=hL.next hx hnot;obtain⟨o1,o2,o3,o4⟩:=hok x (hL.sub.subset hx);obtain⟨kl,hkl⟩:=keyP o1 o2 o3 o4;have hnd:cur.Nodup:=hL.sub.nodup hnde
  have hlen:dn.length < es.length:=by
   cases hin:x.of n f with
   |false=>have:=(hn1 hin).len;simp at this;omega
   |true=>
    obtain⟨l1,l2,e⟩:=List.append_of_mem hx;have:=(hn2 hin l1 l2 e (by rw[e] at hnd;exact ZgT hnd)).len;simp at this;omega
  rw[show ents dn++[ent x]=ents (dn++[x]) by simp[ents]] at hB;clear hF hA;have hA:=hB;simp only[ent,Ent.key,keyV,Ent.val] at hen;unfold keyV at hkl;have hok':=Hd hok;clear hB hI hd hq hok o1 o2 o3 o4 hnot;have hL':=Hd hL;clear hL;obtain⟨hA,hF⟩:=fY hA
  cases hin:x.of n f with
  |false=>
   have hK:=Hd (hn1 hin);have hnde':=Hd hnde;clear hn1 hn2 hnde hnd
   go_wp2_with (first|((with_reducible refine gst ?_);refine wTy hA ?_;clear hF hA;intro w1 hA hF)|((with_reducible refine gal ?_);refine wGy 163 [.string .empty,.int .u64 0,.string .empty] hA ?_;clear hF hA;intro b1 w1 hA hb1 hF)|((with_reducible refine gal ?_);refine g5 hA ?_;clear hF hA;intro b1 w1 hA hb1 hF))
   refine(Zhp (v:=[]) (hA.sep1 (A:=boxS bS n f) sR) hin).mono ?_;rintro e w1 ⟨rfl,hT⟩;replace hA:=hA.call1 sR hT;clear hF hT;obtain⟨hA,hF⟩:=fY hA;go_wp2_with fail;go_roundg (gk - 1);case measure=>omega
   case rel=>exact⟨cur,dn++[x],hK.out,by simp;omega,hA.only2 sR sR⟩
  |true=>
   obtain⟨l1,l2,e⟩:=List.append_of_mem hx;subst e;have hK:=Hd (hn2 hin l1 l2 rfl (ZgT hnd));have hnde':=Hd hnde;clear hn1 hn2 hx hnd hnde;unfold iterE at *
   rw[ZmZ] at hA;unfold Ent.key keyV at hA
   go_wp2_with (first|((with_reducible refine gst ?_);refine wTy hA ?_;clear hF hA;intro w1 hA hF)|((with_reducible refine gal ?_);refine wGy 163 [.string .empty,.int .u64 0,.string .empty] hA ?_;clear hF hA;intro b1 w1 hA hb1 hF)|((with_reducible refine gal ?_);refine g5 hA ?_;clear hF hA;intro b1 w1 hA hb1 hF))
   refine(Zhp (v:=[]) (hA.sep1 (A:=boxS bS n f) sR) hin).mono ?_;rintro e w1 ⟨rfl,hT⟩;replace hA:=hA.call1 sR hT;clear hF hT;obtain⟨hA,hF⟩:=fY hA
   go_wp2_with (refine Zc6 rfl rfl rfl (by(try simp only[Act.eval,eV])<;>exact rfl) hA (k:=163) sR lawP Tryz.underlying114 hkl ?_;intro w1 hB;rw[Zm1 l1 l2] at hB;replace hA:=hB;clear hF hB;obtain⟨hA,hF⟩:=fY hA)
   go_roundg (gk - 1);case measure=>omega
   case rel=>exact⟨l1++l2,dn++[x],hK.out,by simp;omega,hA.only2 sR sR⟩
theorem Zm3 {w:World} {b:Bk} (h:Sep [BookP b] w) (n:Int) (f:ByteArray) (hl:b.es.length≤1000000000) (hok:∀x ∈ b.es,x.path.size≤maxLen∧0≤x.num∧x.num < big64∧x.foot.size≤maxLen):
 Calls Tryz.prog 60 #[.pointer (some ⟨b.p,0,none⟩),.agg #[.int .u64 n,.string f]] w fun e w'=>e=.returned (.int .i64 (b.es.length - (b.st.dropAll n f).es.length))∧At [BookP b] w [BookP (b.with (b.st.dropAll n f))] w':=by
 have hA:=begin0 h;have hF:=hA.facts;have hle:(b.es.filter (fun x=> !x.of n f)).length≤b.es.length:=List.length_filter_le _ _;show Calls _ _ _ _ fun e w'=>e=.returned (.int .i64 (b.es.length - (b.es.filter (fun x=> !x.of n f)).length))∧At [BookP b] w [BookP ⟨b.p,b.m,b.c,b.first,b.es.filter (fun x=> !x.of n f),b.cs⟩] w';have hdel:=fun(w1:World) (bS:Nat) (q:Sep [mapC b.m (ents b.es),boxS bS n f] w1)=>ZoK q hok;generalize b.es.filter (fun x=> !x.of n f)=es' at *
 have e1:(ents b.es).length=b.es.length:=by simp[ents]
 have e2:(ents es').length=es'.length:=by simp[ents]
 obtain⟨hA,hF⟩:=fY hA;clear h hok;go_enter Tryz.func60,Tryz.ntmps60
 go_wp2_with (first|((with_reducible refine gbx ?_);refine wCy (E:=35) hA ?_;clear hF hA;intro bS w1 hA hbS hF)|(refine Zbm (k:=163) (es:=ents b.es) rfl rfl rfl hA sR Tryz.underlying114 ?_;rw[e1]))
 refine(hdel _ bS (hA.sep2 (A:=mapC b.m (ents b.es)) (B:=boxS bS n f) sR sR)).mono ?_;clear hdel;rintro e w2 ⟨rfl,hT⟩;replace hA:=hA.call2 (A:=mapC b.m (ents b.es)) (B:=boxS bS n f) sR sR hT;clear hF hT;obtain⟨hA,hF⟩:=fY hA;have hw:IntKind.i64.wrap ((b.es.length:Int) - (es'.length:Int))=(b.es.length:Int) - (es'.length:Int):=by rw[IntKind.wrap_i64]<;>omega
 go_wp2_with (refine Zbm (k:=163) (es:=ents es') rfl rfl rfl hA sR Tryz.underlying114 ?_;rw[e2])
 go_ret;exact⟨rfl,close0 ⟨b.p,b.m,b.c,b.first,es',b.cs⟩ hA sR sR sR⟩
end Lock
end
section
namespace Lock
open Go.RowKit
open Go.Maps (Keyed)
open Path (bl Zag overB)
attribute [-go_sem] run_eql_struct run_neq_struct run_eqGuard_agg
theorem eqlE6 (p1 f1 p2 f2:ByteArray) (n1 m1 k1 s1 n2 m2 k2 s2:Int) (w:World):(binOp .eql 165 (.agg #[.string p1,.int .u64 n1,.string f1,.int .i64 m1,.int .u64 k1,.int .i64 s1]) (.agg #[.string p2,.int .u64 n2,.string f2,.int .i64 m2,.int .u64 k2,.int .i64 s2])).run Tryz.prog w=.ok (.bool (decide ((⟨p1,n1,f1,m1,k1,s1⟩:Ent)=⟨p2,n2,f2,m2,k2,s2⟩))) w:=eqlE ⟨p1,n1,f1,m1,k1,s1⟩ ⟨p2,n2,f2,m2,k2,s2⟩ w
attribute [local go_sem] guardE eqlE6
def ChRel (b:Bk) (r:Nat) (p:ByteArray) (n:Int) (w:World) (k:Nat) (wr:World):Prop:=
 ∃ds:List Ent,At [BookP b] w [Part.iter Tryz.prog 163 r b.m (ents b.es) (ents ds),headC b.p b.m b.c b.first,ctrC b.c (ctrs b.cs)] wr∧(∀s ∈ ds,s ∈ b.es∧¬(s.path=p∧s.n=n))∧ds.length + k=b.es.length
theorem Zlx {w:World} {b:Bk} (h:Sep [BookP b] w) (p:ByteArray) (n:Int) (hok:∀x ∈ b.es,x.path.size≤1000000) {c:Bool} (h1:∀e ∈ b.es,e.path=p→e.n=n→Za7 b.es e=c) (h2:(∀e ∈ b.es,¬(e.path=p∧e.n=n))→c=false):
 Calls Tryz.prog 91 #[.pointer (some ⟨b.p,0,none⟩),.string p,.int .u64 n] w fun o w'=>o=.returned (.bool c)∧At [BookP b] w [BookP b] w':=by
 have hA:=begin0 h;have hF:=hA.facts;have h1':=Hd h1;have h2':=Hd h2;clear h1 h2;obtain⟨hA,hF⟩:=fY hA;clear h;go_enter Tryz.func91,Tryz.ntmps91
 go_wp2_with (refine ZaQ rfl rfl rfl hA sR Tryz.underlying114 ?_;intro r w1 hB hr;replace hA:=hB;clear hF hB;obtain⟨hA,hF⟩:=fY hA)
 (try go_frame);go_loopg [] b.es.length (ChRel b r p n w)
 case atStart=>exact⟨[],hA.pick pZ,nofun,by simp⟩
 case round=>
  obtain⟨ds,hA2,hds,hk⟩:=hrel;clear hF hA;have hA:=hA2;clear hA2;obtain⟨hA,hF⟩:=fY hA;go_step
  go_step
  refine Za9 rfl rfl rfl hA sR (fun hp=> ?_) (fun q w1 hq hd hB=> ?_)
  · have hpp:=ents_perm hp;have hc:=Hd (h2'.out (fun e he=>(hds e (hpp.mem_iff.1 he)).2));have hM:=At.ranged hA sR;clear hp hpp hds;go_wp2_with fail;go_ret;exact⟨by rw[hc.out];rfl,close0 b hM sR sR sR⟩
  obtain⟨s,hs,rfl⟩:=List.mem_map.1 hq;have hI:ZaU Tryz.prog 163 w1 r b.m (ents b.es) (ents ds++[ent s]):=hB.get (A:=Part.iter _ _ r b.m (ents b.es) (ents ds++[ent s])) sR;have hen:=hI.entry;have hlen:(ds++[s]).length≤b.es.length:=by have:=hI.len;simpa [ents] using this
  have hsub:¬(s.path=p∧s.n=n)→∀x ∈ ds++[s],x ∈ b.es∧¬(x.path=p∧x.n=n):=fun hn x hx=>by
   rcases List.mem_append.1 hx with hx|hx
   · exact hds x hx
   have:x=s:=by simpa using hx
   rw[this];exact⟨hs,hn⟩
  rw[ents_snoc] at hB;have hs1:=hok s hs;clear hF hA;have hA:=hB;have hk':=Hd hk;have hsub':=Hd hsub;have hc1:=Hd (h1'.out s hs);have hcl:=fun(w1:World) (q:Sep [BookP b] w1)=>Zhw q s hs1 hok
  obtain⟨cc,hcc⟩:∃cc,Za7 b.es s=cc:=⟨_,rfl⟩
  rw[hcc] at hcl;have hcc':=Hd hcc;simp only[List.length_append,List.length_cons,List.length_nil,Nat.zero_add] at hlen;clear hI hB hk hsub hds hq hd hs hcc;obtain⟨hA,hF⟩:=fY hA;simp only[ent,Ent.key,Ent.val,keyV] at hen;by_cases e1:s.path=p
  · have b1:(s.path.toList==p.toList)=true:=by rw[same_ba];exact decide_eq_true e1
    have e1':=Hd e1;by_cases e2:s.n=n
    · have b2:(s.n==n)=true:=by simpa using e2
      have e2':=Hd e2;clear e1 e2
      go_wp2_with (first|((with_reducible refine gst ?_);refine wTy hA ?_;clear hF hA;intro w1 hA hF)|((with_reducible refine gal ?_);refine g5 hA ?_;clear hF hA;intro b1 w1 hA hb1 hF))
      have hM:=At.ranged hA sR;replace hA:=fold0 b hM sR sR sR;clear hF hM;refine(hcl _ (hA.sep1 (A:=BookP b) sR)).mono ?_;clear hcl;rintro o w2 ⟨rfl,hT⟩;have hB:=hA.call1 (A:=BookP b) sR hT;have hres:=Hd ((hc1.out e1'.out e2'.out).symm.trans hcc'.out);clear hA hT;go_wp2_with fail;go_ret;exact⟨by rw[hres.out];rfl,hB.only1 .here⟩
    have b2:(s.n==n)=false:=by simpa using e2
    have hs3:=Hd (hsub'.out (fun q=>e2 q.2));clear e1 e2
    go_wp2_with (first|((with_reducible refine gst ?_);refine wTy hA ?_;clear hF hA;intro w1 hA hF)|((with_reducible refine gal ?_);refine g5 hA ?_;clear hF hA;intro b1 w1 hA hb1 hF))
    go_roundg (gk - 1);case measure=>have:=hk'.out;omega
    case rel=>exact⟨ds++[s],hA.pick pR,hs3.out,by have:=hk'.out;simp;omega⟩
  have b1:(s.path.toList==p.toList)=false:=by rw[same_ba];exact decide_eq_false e1
  have hs3:=Hd (hsub'.out (fun q=>e1 q.1));clear e1
  go_wp2_with (first|((with_reducible refine gst ?_);refine wTy hA ?_;clear hF hA;intro w1 hA hF)|((with_reducible refine gal ?_);refine g5 hA ?_;clear hF hA;intro b1 w1 hA hb1 hF))
  go_roundg (gk - 1);case measure=>have:=hk'.out;omega
  case rel=>exact⟨ds++[s],hA.pick pR,hs3.out,by have:=hk'.out;simp;omega⟩
end Lock
end
end Go.Proofs.YtbeckijoabapkaaGreatDoor
