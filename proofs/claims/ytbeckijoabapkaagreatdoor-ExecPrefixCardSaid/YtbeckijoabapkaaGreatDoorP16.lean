import Derived.Test.YtbeckijoabapkaaGreatDoorP15
set_option linter.unusedSimpArgs false
set_option linter.unusedVariables false
set_option maxRecDepth 100000
set_option maxHeartbeats 16000000
namespace Go.Proofs.YtbeckijoabapkaaGreatDoor
section
namespace Gr
open Go.RowKit
open Tar (TS up ZaD Zak)
attribute [-go_sem] run_eql_struct run_neq_struct run_eqGuard_agg
theorem Zim {nx:Nat→List Nat} {num:Nat→Nat} (h:∀x,(nx x).length≤7):∀n,Tar.white nx num n≤9 * n
 |0=>by simp[Tar.white]
 |n + 1=>by
  have ih:=Zim (num:=num) h n;unfold Tar.white at *
  rw[List.range_succ,List.map_append,List.sum_append];simp only[List.map_cons,List.map_nil,List.sum_cons,List.sum_nil,Nat.add_zero];have:=h n;split<;>omega
theorem nx7 {N:List Nd} (h:∀(i:Nat) (d:Nd),N[i]? =some d→d.nx.length≤7) (x:Nat):(nxF N x).length≤7:=by
 unfold nxF;split
 · rename_i d hd;exact h x d hd
 simp
structure Going (N:List Nd) (s:TS) (i:Nat):Prop where
 inv:Tar.Inv (nxF N) N.length s
 seen:∀j,j < i→s.num j≠0
 most:s.count + s.found + Tar.M (nxF N) N.length s≤9 * N.length
theorem Going.sm {N:List Nd} {s:TS} {i:Nat} (h:Going N s i) (hn:N.length≤1000):Sm N s:=by
 have h1:=h.most;have h2:=h.inv.stl;have h3:=h.inv.wkl;exact⟨hn,by omega,by omega,by omega,by omega⟩
def RnRel (w:World) (kp:Nat) (ax:Option Addr) (cap:Nat) (sv0 wv0:Value) (N:List Nd) (k:Nat) (u:Value) (wr:World):Prop:=
 ∃(i:Nat) (s:TS) (sv wv:Value),u=.int .i64 i∧i + k=N.length∧Going N s i∧s.wk=[]∧At [KnP kp ax cap sv0 wv0 N TS.start] w [KnP kp ax cap sv wv N s] wr
def RmRel (w:World) (kp:Nat) (ax:Option Addr) (cap:Nat) (sv0 wv0:Value) (N:List Nd) (i:Nat) (k:Nat) (wr:World):Prop:=
 ∃(s:TS) (sv wv:Value),Tar.M (nxF N) N.length s≤k∧Going N s (i + 1)∧At [KnP kp ax cap sv0 wv0 N TS.start] w [KnP kp ax cap sv wv N s] wr
def ZoX (kp:Nat) (ax:Option Addr) (cap:Nat) (sv0 wv0:Value) (N:List Nd) (w:World) (e:Ending) (w':World):Prop:=
 ∃(s:TS) (sv wv:Value),e=.returned (.tuple #[])∧Tar.Kn (nxF N) N.length s.knot s.found∧s.found≤9 * N.length∧At [KnP kp ax cap sv0 wv0 N TS.start] w [KnP kp ax cap sv wv N s] w'
theorem Zn1 {w:World} {kp:Nat} {ax:Option Addr} {cap:Nat} {sv0 wv0:Value} {N:List Nd} (h:Sep [KnP kp ax cap sv0 wv0 N TS.start] w) (hnn:∀x,x < N.length→∀y ∈ nxF N x,y < N.length) (hn:N.length≤1000) (hnx:∀(i:Nat) (d:Nd),N[i]? =some d→d.nx.length≤7):
 Calls Tryz.prog 55 #[.pointer (some ⟨kp,0,none⟩)] w (ZoX kp ax cap sv0 wv0 N w):=by
 have hA:=ZcC h
 have hg0:Going N TS.start 0:=⟨Tar.Zg6 _ _,nofun,by
  have:=Zim (num:=fun _=>0) (nx7 hnx) N.length;show 0 + 0 + (Tar.white (nxF N) (fun _=>0) N.length + 0)≤_
  omega⟩
 have hnn':=Hd hnn;have hnx':=Hd hnx;have hg0':=Hd hg0;clear h hnn hnx hg0;obtain⟨hA,hF⟩:=fZ hA;go_enter Tryz.func55,Tryz.ntmps55;go_wp2_with fail;(try go_frame);replace hA:=Zbr (hA.pick pZ);clear hF;go_loopg [8] N.length (RnRel w kp ax cap sv0 wv0 N)
 case atStart=>exact⟨0,TS.start,sv0,wv0,rfl,by omega,hg0'.out,rfl,hA⟩
 case round=>
  obtain⟨i,s,sv,wv,rfl,hik,hgo,hwk,hB⟩:=hrel;have hgo':=Hd hgo;have hwk':=Hd hwk;have hsm:=Hd (hgo.sm hn);clear hA hgo hwk;have hA:=hB;clear hB;by_cases hi:i < N.length
  · obtain⟨d,hd⟩:∃d,N[i]? =some d:=⟨_,List.getElem?_eq_getElem hi⟩
    have hB:At _ w [kHead kp ax cap sv wv N s,kRow ax cap N s,restX N,rowX sv s.stk.reverse,rowF wv s.wk.reverse] wr:=hA.to (Zfv kp ax cap sv wv N s []);clear hA;obtain⟨bN,c,hax,hc1,hc2,hc3,hc4,hA⟩:=hB.row_open (e:=131) (size:=7) (ax:=ax) (cap:=cap) (n:=N.length) (xs:=flatN (ndL N s)) sZ (by omega);clear hB;have hc4':c.take ((ndL N s).length * 7)=flatN (ndL N s):=by rw[ZaN];exact hc4
    have hnm:c[i * 7 + 4]? =some (.int .i64 (s.num i)):=Zaq Nd.cells_len hc4' (Za8 hd s) 4 (by omega);have hd':=Hd hd;have hc4h:=Hd hc4;have hax':=Hd hax;clear hc4 hc4' hd
    obtain⟨pn,hpn⟩:∃z,decide (0 < s.num i)=z:=⟨_,rfl⟩
    have hpn':=Hd hpn;have hpi:decide ((0:Int) < (s.num i:Int))=pn:=by rw[←hpn,Bool.eq_iff_iff];simp
    subst hax;obtain⟨hA,hF⟩:=fZ hA;cases pn
    · have hz:=Hd (show s.num i=0 from by have:=hpn'.out;simp at this;omega);go_wp2_with fail;have hR:=hA.row_shut (e:=131) (size:=7) (g:=bN) (c:=c) (n:=N.length) (cap:=cap) (xs:=flatN (ndL N s)) sZ hc3 hc1 hc2 hc4h.out;replace hA:=Zbr (hR.pick pZ);clear hF hR;refine(Zhm (hA.sep1 .here) hd'.out hsm.out).mono ?_;rintro e w1 ⟨sv1,wv1,rfl,hT⟩;replace hA:=hA.call1 .here hT;clear hT;simp only[uA] at hA
      have hg1:Going N (Tar.enter s i) (i + 1):=by
       have hgg:=hgo'.out;have hm:=Tar.ZlO (nx:=nxF N) (n:=N.length) (s:=s) hi hz.out;refine⟨Tar.ZeR hgg.inv hi hz.out (fun u b w' e=>by rw[hwk'.out] at e;cases e),fun j hj=> ?_,?_⟩
       · show up s.num i (s.count + 1) j≠0;by_cases e:j=i
         · subst e;rw[ZaD];omega
         rw[Zak _ _ e];exact hgg.seen j (by omega)
       have:=hgg.most
       show s.count + 1 + s.found + Tar.M (nxF N) N.length (Tar.enter s i)≤_;omega
      have hg1':=Hd hg1;clear hg1;go_wp2_with fail;(try go_frame);have hikG:i + 1 + (gk - 1)=N.length:=by omega
      obtain⟨G,hG⟩:∃G,gk - 1=G:=⟨_,rfl⟩
      rw[hG] at hikG;have hGk:=Hd (show G < gk by omega);clear hG hik hnm;go_loopg [] (Tar.M (nxF N) N.length (Tar.enter s i)) (RmRel w kp (some ⟨bN,0,none⟩) cap sv0 wv0 N i)
      case atStart=>exact⟨Tar.enter s i,sv1,wv1,Nat.le_refl _,hg1'.out,hA⟩
      case round=>
       obtain⟨s2,sv2,wv2,hM,hgo2,hB⟩:=hrel;have hgo2':=Hd hgo2;have hM':=Hd hM;clear hA hgo2 hM;have hA:At _ w [kHead kp (some ⟨bN,0,none⟩) cap sv2 wv2 N s2,kRow (some ⟨bN,0,none⟩) cap N s2,restX N,rowX sv2 s2.stk.reverse,rowF wv2 s2.wk.reverse] _:=hB.to (Zfv kp (some ⟨bN,0,none⟩) cap sv2 wv2 N s2 []);clear hB;obtain⟨axw,capw,hwv,_,_,_⟩:=hA.row_form (e:=181) (size:=2) (n:=s2.wk.reverse.length) (v:=wv2) (xs:=flatF s2.wk.reverse) sZ;subst hwv;have hwlen:s2.wk.reverse.length=s2.wk.length:=List.length_reverse;rw[hwlen] at hA;clear hwlen;obtain⟨hA,hF⟩:=fZ hA;by_cases hwz:0 < s2.wk.length
       · have hwz':=Hd (show s2.wk≠[] from fun e=>by rw[e] at hwz;simp at hwz);go_wp2_with fail;replace hA:=Zbr (hA.pick pZ);clear hF;have hwt:=Hd (Tar.Zen hnn'.out hgo2'.out.inv hwz'.out);have hsm2:=hgo2'.out.sm hn;refine(Zl6 (s:=s2) (sv:=sv2) (wv:=.slice axw s2.wk.length capw) (hA.sep1 .here) hgo2'.out.inv hnn'.out hwz'.out hsm2 (fun i d h=>Nat.le_trans (hnx'.out i d h) (by omega))).mono ?_;rintro e w1 ⟨sv3,wv3,rfl,hT⟩;replace hA:=hA.call1 .here hT;clear hT hsm2;simp only[uA] at hA;go_wp2_with fail;go_roundg (Tar.M (nxF N) N.length (Tar.step (nxF N) s2));case measure=>exact Nat.lt_of_lt_of_le hwt.out.less hM'.out
         case rel=>exact⟨_,sv3,wv3,Nat.le_refl _,⟨hwt.out.inv,fun j hj=>hwt.out.seen j (hgo2'.out.seen j hj),Nat.le_trans hwt.out.most hgo2'.out.most⟩,hA⟩
       have hwe:s2.wk=[]:=List.eq_nil_of_length_eq_zero (by omega);have hwe':=Hd hwe;clear hwe;go_wp2_with fail;go_roundg G;case measure=>exact hGk.out
       case rel=>exact⟨i + 1,s2,sv2,.slice axw s2.wk.length capw,by simp,hikG,hgo2'.out,hwe'.out,Zbr (hA.pick pZ)⟩
    have hz:=Hd (show s.num i≠0 from by have:=hpn'.out;simp at this;omega);go_wp2_with fail;go_roundg (gk - 1);case measure=>omega
    case rel=>
     have hR:=hA.row_shut (e:=131) (size:=7) (g:=bN) (c:=c) (n:=N.length) (cap:=cap) (xs:=flatN (ndL N s)) sZ hc3 hc1 hc2 hc4h.out;exact⟨i + 1,s,sv,wv,by simp,by omega,⟨hgo'.out.inv,fun j hj=>if e:j=i then by rw[e];exact hz.out else hgo'.out.seen j (by omega),hgo'.out.most⟩,hwk'.out,Zbr (hR.pick pZ)⟩
  have hi2:i=N.length:=by omega
  go_wp2_with fail;go_end0
  have hgg:=hgo'.out;exact⟨s,sv,wv,rfl,Tar.ZiM hnn'.out hgg.inv hwk'.out (fun x hx=>hgg.seen x (by omega)),by have:=hgg.most;omega,hA⟩
end Gr
end
section
namespace Gr
open _root_.Go.Proofs.YtbeckijoabapkaaGreatDoor.Mark (Zds ZcB Za2 cmpID swoID totID Zh7 Zay Zcx ZgH ltID Za1 orI or2 Zdn)
open Go.RowKit Go.Shelf Go.Sort
open Attr (A8 thro)
attribute [-go_sem] run_eql_struct run_neq_struct run_eqGuard_agg
def cmpE (x y:I2 × A8):Int:=orI (Lib.compareInt x.2.s y.2.s) (cmpID x.1 y.1)
def CloAt (W:World) (b3 p m:Nat) (es:List (I2 × A8)):Prop:=W.cell? ⟨b3,0,none⟩=some (.pointer (some ⟨p,0,none⟩))∧W.cell? ⟨p,0,none⟩=some (.map (some m))∧MapAt Tryz.prog 33 W m (ents es)
theorem ZkV {W:World} {b3 p m:Nat} {es:List (I2 × A8)} (h:CloAt W b3 p m es) (hok:∀e ∈ es,okD e.1) {x y:I2 × A8} (hx:x ∈ es) (hy:y ∈ es):
 Calls Tryz.prog 79 #[.agg #[.int .i64 x.1.1,.int .i64 x.1.2],.agg #[.int .i64 y.1.1,.int .i64 y.1.2],.pointer (some ⟨b3,0,none⟩)] W fun e w'=>e=.returned (.int .i64 (cmpE x y))∧Ext W w':=by
 obtain⟨h3,hp,hM⟩:=h;obtain⟨kx,hkx⟩:=keyI (hok x hx);obtain⟨ky,hky⟩:=keyI (hok y hy);have hA:At [Part.old W] W [Part.old W] W:=At.start ⟨fun _ _=>rfl,trivial,nofun⟩;have hF:=hA.facts;have hxm:(idV x.1,x.2.val) ∈ ents es:=List.mem_map.2 ⟨x,hx,rfl⟩;have hym:(idV y.1,y.2.val) ∈ ents es:=List.mem_map.2 ⟨y,hy,rfl⟩
 have hcc:=fun(w:World)=>(Tryz.cmp_Compare_int x.2.s y.2.s w).mono (R':=fun e w'=>e=.returned (.int .i64 (Lib.compareInt x.2.s y.2.s))∧Ext w w') fun _ _ ⟨he,hw⟩=>⟨he,by rw[hw];exact Ext.refl _⟩
 have hci:=fun(w:World)=>(Mark.ZdC x.1 y.1 w).mono (R':=fun e w'=>e=.returned (.int .i64 (cmpID x.1 y.1))∧Ext w w') fun _ _ ⟨he,q,os,hw⟩=>⟨he,by rw[hw];exact ZmN _ _ _⟩
 unfold cmpE;generalize Lib.compareInt x.2.s y.2.s=c1 at *
 generalize cmpID x.1 y.1=c2 at *
 obtain⟨⟨r1,t1⟩,⟨as_,a0,a1,a2,a3,a4,a5,a6⟩⟩:=x;obtain⟨⟨r2,t2⟩,⟨bs,b0,b1,b2,b3',b4,b5,b6⟩⟩:=y;have hf1:∀w,(Instr.field 51 (.agg #[.int .i64 as_,.int .i64 a0,.int .i64 a1,.int .i64 a2,.int .i64 a3,.int .i64 a4,.int .i64 a5,.int .i64 a6]) 0).run Tryz.prog w=.ok (.int .i64 as_) w:=fun w=>by kernel_rfl
 have hf2:∀w,(Instr.field 51 (.agg #[.int .i64 bs,.int .i64 b0,.int .i64 b1,.int .i64 b2,.int .i64 b3',.int .i64 b4,.int .i64 b5,.int .i64 b6]) 0).run Tryz.prog w=.ok (.int .i64 bs) w:=fun w=>by kernel_rfl
 simp only[idV,A8.val] at *
 have h3':=Hd h3;have hp':=Hd hp;have hM':=Hd hM;have hxm':=Hd hxm;have hym':=Hd hym;clear h3 hp hM hxm hym hok hx hy;obtain⟨hA,hF⟩:=fZ hA;go_enter Tryz.func79,Tryz.ntmps79
 go_wp2_with (first|(((with_reducible refine gbxD 3 ?_);refine wHz 33 [.int .i64 r1,.int .i64 t1] hA ?_;clear hF hA;intro bX w1 hA hbX hF))|(((with_reducible refine gbxD 4 ?_);refine wHz 33 [.int .i64 r2,.int .i64 t2] hA ?_;clear hF hA;intro bY w1 hA hbY hF)))
 (try go_frame);(refine Zaj 18 (Cl _ _ _) (by kernel_rfl) (by kernel_rfl) (Cl.drew hA) ?_);(simp only[List.take_succ_cons,List.take_zero,List.drop_succ_cons,List.drop_zero]);(have hn1:=Cl.none hA);(have hn2:=Cl.none2 hA);(repeat(first|go_big_quiet_skip|(go_big_quiet_want;(first|(refine qM 33 2 ?_;go_frame;go_big_quiet_on)|((first|refine Zcc rfl rfl sR (by kernel_rfl) h3'.out ?_|refine Zcc rfl rfl sR (by kernel_rfl) hp'.out ?_|refine Zcb rfl rfl rfl sR hM'.out lawI Tryz.underlying79 hkx hxm'.out ?_|refine Zcb rfl rfl rfl sR hM'.out lawI Tryz.underlying79 hky hym'.out ?_);go_frame;go_big_quiet_on)|(refine qL ?_;go_frame;go_big_quiet_on)|(go_big_quiet_op;(first|go_big_quiet_on|((apply Exists.intro);(refine⟨fun w1 hw=> ?_,?_⟩);(focus((have hw:=Cl.out hw);(first|exact thro hw (hcc _)|exact thro hw (hci _))));(go_big_quiet_on))))))))
 (refine wpQuiet_nil ?_);(intro w1 hB);(clear hF hA hn1 hn2);(have hA:=Cl.out hB);(clear hB);obtain⟨hA,hF⟩:=fZ hA
 go_wp2_with fail;refine(or2 c1 c2 _ _ ?h0 ?h1).mono ?_;case h0=>exact Zdn _ _ rfl _ _ _ _ rfl
 case h1=>exact Zdn _ _ rfl _ _ _ _ rfl
 rintro e _ ⟨rfl,rfl⟩;go_wp2_with fail;go_ret;have ho:(Part.old W).holds w1:=hA.get sR;exact⟨rfl,Ext.alloc (a:=W) ⟨hA.exc.os,hA.exc.tape,hA.exc.output,hA.exc.size,fun b hb=>ho b hb⟩ _⟩
def ltE (x y:I2 × A8):Prop:=x.2.s < y.2.s∨(x.2.s=y.2.s∧ltID x.1 y.1)
instance (x y:I2 × A8):Decidable (ltE x y):=by unfold ltE;infer_instance
theorem ZoQ (x y:I2 × A8):ltOf cmpE x y=decide (ltE x y):=by
 have hid:=Za1 x.1 y.1;unfold ltOf at hid;unfold ltOf cmpE orI Lib.compareInt ltE;by_cases h1:x.2.s < y.2.s
 · simp[h1]
 by_cases h2:y.2.s < x.2.s
 · have:x.2.s≠y.2.s:=by omega
   simp[h1,h2,this]
 have:x.2.s=y.2.s:=by omega
 simpa [this] using hid
theorem Zge {x y:I2 × A8} (h1:¬ltE x y) (h2:¬ltE y x):x.1=y.1:=by
 rcases ZkR x.1 y.1 with q|q|q
 · rcases Int.lt_trichotomy x.2.s y.2.s with r|r|r
   · exact absurd (.inl r) h1
   · exact absurd (.inr ⟨r,q⟩) h1
   exact absurd (.inl r) h2
 · exact q
 rcases Int.lt_trichotomy x.2.s y.2.s with r|r|r
 · exact absurd (.inl r) h1
 · exact absurd (.inr ⟨r.symm,q⟩) h2
 exact absurd (.inl r) h2
theorem ZhX {x:I2 × A8}:¬ltE x x:=by
 rintro(q|⟨_,q⟩)
 · omega
 exact ZcM q
theorem ZgY {x y z:I2 × A8} (h:ltE x y) (k:ltE y z):ltE x z:=by
 rcases h with h|⟨h,h'⟩<;>rcases k with k|⟨k,k'⟩
 · exact .inl (by omega)
 · exact .inl (by omega)
 · exact .inl (by omega)
 exact .inr ⟨by omega,lt_tr h' k'⟩
theorem ZiD {es:List (I2 × A8)} (hu:Uq es) {x y:I2 × A8} (hx:x ∈ es) (hy:y ∈ es) (h:x.1=y.1):x=y:=by
 obtain⟨a,b⟩:=x;obtain⟨c,d⟩:=y;cases h;have h1:=Zbn hu hx;have h2:=Zbn hu hy;rw[h1] at h2;cases h2;rfl
abbrev EntI (es:List (I2 × A8)):={e:I2 × A8 // e ∈ es}
def cmpK (es:List (I2 × A8)) (x y:EntI es):Int:=cmpE x.1 y.1
def encK (es:List (I2 × A8)) (x:EntI es):List Value:=Mark.idL x.1.1
section
variable {es:List (I2 × A8)}
theorem Zct (x y:EntI es):ltOf (cmpK es) x y=decide (ltE x.1 y.1):=ZoQ x.1 y.1
theorem totK (hu:Uq es) (x y:EntI es) (h1:ltOf (cmpK es) x y=false) (h2:ltOf (cmpK es) y x=false):x=y:=by
 rw[Zct] at *
 simp only[decide_eq_false_iff_not] at h1 h2;exact Subtype.ext (ZiD hu x.2 y.2 (Zge h1 h2))
theorem swoK (hu:Uq es):SWO (ltOf (cmpK es)) where
 irrefl x:=by rw[Zct];simp[ZhX]
 trans x y z h1 h2:=by
  rw[Zct] at *
  simp only[decide_eq_true_eq] at *
  exact ZgY h1 h2
 ntrans x y z h1 h2:=by
  rw[Zct] at *
  simp only[decide_eq_false_iff_not] at *
  intro h;by_cases q:ltE y.1 x.1
  · exact h2 (ZgY q h)
  have e:x=y:=Subtype.ext (ZiD hu x.2 y.2 (Zge h1 q));subst e;exact h2 h
def sortK (l:List (EntI es)):List (EntI es):=l.mergeSort fun x y=> !ltOf (cmpK es) y x
theorem ZgI (l:List (EntI es)):(sortK l).length=l.length:=List.length_mergeSort l
theorem Zfi (l:List (EntI es)):(sortK l).Perm l:=List.mergeSort_perm l _
theorem Zl9 (hu:Uq es) (l:List (EntI es)) (hn:l.Nodup):((sortK l).map (·.1)).Pairwise ltE:=by
 have h2:(sortK l).Nodup:=(Zfi l).nodup_iff.2 hn
 have h1:(sortK l).Pairwise (fun a b=>(!ltOf (cmpK es) b a)=true):=by
  refine List.pairwise_mergeSort ?_ ?_ l
  · intro a b c h1 h2;rw[Zct] at *
    simp only[Bool.not_eq_true',decide_eq_false_iff_not] at *
    intro h;by_cases q:ltE a.1 b.1
    · exact h2 (ZgY h q)
    have e:a=b:=Subtype.ext (ZiD hu a.2 b.2 (Zge q h1));subst e;exact h2 h
  intro a b;rw[Zct,Zct];simp only[Bool.or_eq_true,Bool.not_eq_true',decide_eq_false_iff_not];by_cases h:ltE b.1 a.1
  · right
    intro h';exact ZhX (ZgY h h')
  exact .inl h
 rw[List.pairwise_map];refine(h1.and h2).imp ?_;rintro a b ⟨h,hne⟩;rw[Zct] at h;simp only[Bool.not_eq_true',decide_eq_false_iff_not] at h;by_cases q:ltE a.1 b.1
 · exact q
 exact absurd (Subtype.ext (ZiD hu a.2 b.2 (Zge q h))) hne
def toK:(l:List (I2 × A8))→(∀x ∈ l,x ∈ es)→List (EntI es)
 |[],_=>[]
 |x::l,h=>⟨x,h x (by simp)⟩::toK l (fun y hy=>h y (by simp[hy]))
theorem Zj0:∀(l:List (I2 × A8)) (h:∀x ∈ l,x ∈ es),(toK l h).map (·.1)=l
 |[],_=>rfl
 |x::l,h=>by rw[toK,List.map_cons,Zj0 l]
theorem Zho (l:List (EntI es)):l.flatMap (encK es)=(l.map (·.1.1)).flatMap Mark.idL:=by
 induction l with
 |nil=>rfl
 |cons x l ih=>rw[List.flatMap_cons,List.map_cons,List.flatMap_cons,ih];rfl
theorem Zgm (x:EntI es):(encK es x).length=2:=rfl
theorem Zm2 (x:EntI es):∀v ∈ encK es x,v.oneCell'=true:=Mark.idL_one x.1.1
end
theorem CloAt.same {W W':World} {b3 p m g:Nat} {es:List (I2 × A8)} (h:CloAt W b3 p m es) (hg:W.grownBy W' (some g)) (n3:b3≠g) (np:p≠g) (nm:m≠g):CloAt W' b3 p m es:=by
 obtain⟨h3,hp,hM⟩:=h;have hx:=Zbt hg
 have cell:∀{b:Nat} {u:Value},W.cell? ⟨b,0,none⟩=some u→b≠g→W'.cell? ⟨b,0,none⟩=some u:=by
  intro b u hc hn
  have hb:b < W.heap.size:=by
   rcases Nat.lt_or_ge b W.heap.size with q|q
   · exact q
   simp[World.cell?,Array.getElem?_eq_none q] at hc
  have:=hx.block b hb fun e=>hn (Option.some.inj e).symm
  rw[←hc];simp[World.cell?,this]
 exact⟨cell h3 n3,cell hp np,hM.same (hx.block m hM.lt fun e=>nm (Option.some.inj e).symm)⟩
theorem Zm9 {W:World} {b3 p m g:Nat} {es:List (I2 × A8)} [Inhabited (EntI es)] (h:CloAt W b3 p m es) (hok:∀e ∈ es,okD e.1) (n3:b3≠g) (np:p≠g) (nm:m≠g) (size:Nat):
 CmpLays Tryz.prog 79 #[.pointer (some ⟨b3,0,none⟩)] (encK es) 2 (cmpK es) g 0 size W:=
 fun n os dk _ x y=>Zic (ZkV (h.same (Za2 _) n3 np nm) hok x.2 y.2)
abbrev idsE (l:List (I2 × A8)):List I2:=l.map Prod.fst
theorem Zl8 {w:World} {v:Value} {l es:List (I2 × A8)} {b3 p m:Nat} (h:Sep [rowI2 v (idsE l),cloP b3 p m es] w) (hne:l≠[]) (hsub:∀e ∈ l,e ∈ es) (hnd:l.Nodup) (hok:∀e ∈ es,okD e.1) (hu:Uq es) (hmax:l.length≤100000000):
 Calls Tryz.prog 71 #[v,.func (.func 79) #[] #[.pointer (some ⟨b3,0,none⟩)]] w fun e w'=>e=.returned (.tuple #[])∧∃r:List (I2 × A8),r.Perm l∧r.Pairwise ltE∧At [rowI2 v (idsE l),cloP b3 p m es] w [rowI2 v (idsE r),cloP b3 p m es] w':=by
 have hA:=At.start h;have hrow:w.ownsRow 0 33 2 v (idsE l).length ((idsE l).flatMap Mark.idL):=hA.get (A:=rowI2 v (idsE l)) .here;have hB:At [rowI2 v (idsE l),cloP b3 p m es] w [.cells b3 [.pointer (some ⟨p,0,none⟩)] 61,GrP p m es,rowI2 v (idsE l)] w:=(hA.perm (List.Perm.swap _ _ [])).to (Ze0 b3 p m es _);have hB2:At [rowI2 v (idsE l),cloP b3 p m es] w [headC p m,mapC m (ents es),.cells b3 [.pointer (some ⟨p,0,none⟩)] 61,rowI2 v (idsE l)] w:=(hB.perm (List.Perm.swap _ _ _)).to (eqv0 p m es _)
 have hclo:CloAt w b3 p m es:=⟨(hB2.get (A:=.cells b3 [.pointer (some ⟨p,0,none⟩)] 61) sR).cell 0,(hB2.get (A:=headC p m) sR).cell 0,hB2.get (A:=mapC m (ents es)) sR⟩
 rcases hrow.2 with⟨hv,hz⟩|⟨gb,cap,cur,hv,hbase,hgb,r1,r2,r3,r4⟩
 · exact absurd (by simpa using List.eq_nil_of_length_eq_zero hz) hne
 subst hv;have hpos:0 < l.length:=List.length_pos_iff.2 hne
 haveI:Inhabited (EntI es):=⟨⟨l[0]'hpos,hsub _ (List.getElem_mem _)⟩⟩
 have htm:=Zj0 l hsub
 obtain⟨ti,hti⟩:∃ti,toK l hsub=ti:=⟨_,rfl⟩
 rw[hti] at htm;have hm1:ti.map (·.1.1)=idsE l:=by rw[←htm,idsE,List.map_map];rfl
 have htl:ti.length=(idsE l).length:=by rw[←hm1];simp
 have htn:ti.Nodup:=by
  have:(ti.map (·.1)).Nodup:=by rw[htm];exact hnd
  exact(List.pairwise_map.1 this).imp (fun q e=>q (by rw[e]))
 have hn3:b3≠gb∧p≠gb∧m≠gb:=⟨fun e=>hB2.sep.apart 3 2 rfl rfl (by decide) gb rfl e.symm,fun e=>hB2.sep.apart 3 0 rfl rfl (by decide) gb rfl e.symm,fun e=>hB2.sep.apart 3 1 rfl rfl (by decide) gb rfl e.symm⟩
 have hH:HoldsK (encK es) 2 w gb 0 ti.toArray:=Zds (encK es) 2 Zgm hgb (by rw[htl,Zho,hm1];exact r4);have hgl:gb < w.heap.size:=(Array.getElem?_eq_some_iff.1 hgb).1;have hll:(idsE l).length=l.length:=by simp
 have hsz:ti.toArray.size < 4611686018427387904:=by simp;omega
 have hS:=AnyQ.slices_SortFunc_total Tryz.sort71 2 Tryz.isAgg33 Tryz.sizeOf33 (encK es) Zgm Zm2 (cmpK es) (swoK hu) 79 #[.pointer (some ⟨b3,0,none⟩)] gb 0 cap ti.toArray w (enters_of Tryz.func79 (by kernel_rfl) rfl) (Zm9 hclo hok hn3.1 hn3.2.1 hn3.2.2 _) hH hgl hsz (totK hu);rw[show ti.toArray.size=(idsE l).length from htl] at hS;refine hS.mono ?_;rintro e w' ⟨rfl,nn,os,hw⟩;have hw2:w'=sortWorldK (encK es) 2 w gb 0 nn (sortK ti).toArray os:=hw;subst hw2
 have hlp:((sortK ti).map (fun x:EntI es=>x.1)).Perm l:=by
  have:=(Zfi ti).map (fun x:EntI es=>x.1)
  rwa [htm] at this
 refine⟨rfl,(sortK ti).map (fun x:EntI es=>x.1),hlp,Zl9 hu ti htn,?_⟩;have ho:=ZcB (encK es) 2 Zgm (os:=os) (n:=nn) (ZgI ti) hbase hgb (by rw[htl];exact r1) r2 r3;rw[Zho] at ho
 have e1:idsE ((sortK ti).map (fun x:EntI es=>x.1))=(sortK ti).map (·.1.1):=by rw[idsE,List.map_map];rfl
 rw[←e1,htl] at ho;have e2:(idsE ((sortK ti).map (fun x:EntI es=>x.1))).length=(idsE l).length:=by rw[e1,List.length_map,ZgI,htl]
 exact hA.turn .here (rowI2 _ (idsE ((sortK ti).map (fun x:EntI es=>x.1)))) (by
  show World.ownsRow _ 0 _ 2 _ (idsE ((sortK ti).map (fun x:EntI es=>x.1))).length _;rw[e2]
  exact ho) (fun b hb=>.inl hb) (Zbt (Za2 _))
end Gr
end
section
namespace Gr
open _root_.Go.Proofs.YtbeckijoabapkaaGreatDoor.Mark (ltID Zay)
open Go.RowKit
open Attr (A8 thro)
open Tar (sortS Zcy ltS)
attribute [-go_sem] run_eql_struct run_neq_struct run_eqGuard_agg
theorem ZaZ {α:Type} {enc:α→List Value} {size:Nat} (hs:∀x,(enc x).length=size) (h0:0 < size) {w:World} {ax:Option Addr} {n cap i:Nat} {l:List α} {x:α} (h:Reads w (.slice ax n cap) n (l.flatMap enc)) (hx:l[i]? =some x):
 ∃b off,ax=some ⟨b,off,none⟩∧∀(k:Nat) u,(enc x)[k]? =some u→w.cell? ⟨b,off + i * size + k,none⟩=some u:=by
 obtain⟨ax',c,hv,_,hr⟩:=h;cases hv;have hat:=ZcZ enc size hs l i x hx
 obtain⟨u0,hu0⟩:∃u,(enc x)[0]? =some u:=⟨_,List.getElem?_eq_getElem (by rw[hs];exact h0)⟩
 obtain⟨b,off,rfl,_⟩:=hr (i * size + 0) u0 (by rw[hat 0 h0];exact hu0);refine⟨b,off,rfl,fun k u hk=> ?_⟩;have hk2:k < size:=by have:=(List.getElem?_eq_some_iff.1 hk).1;rwa [hs] at this
 obtain⟨b',off',he,hc⟩:=hr (i * size + k) u (by rw[hat k hk2];exact hk);cases he;rw[Nat.add_assoc];exact hc
theorem Zg8 (l:List Nat):intL l=l.flatMap fun(k:Nat)=>[Value.int .i64 (k:Int)]:=by
 induction l with
 |nil=>rfl
 |cons x l ih=>rw[List.flatMap_cons,←ih];rfl
structure KtIn (es:List (I2 × A8)) (L:List Nd) (ks:List Nat) (en:Nat→I2 × A8):Prop where
 at_:∀i ∈ ks,∃d,L[i]? =some d∧d.id=(en i).1
 mem:∀i ∈ ks,en i ∈ es
 up:ks.Pairwise (· < ·)
 rise:∀i ∈ ks,∀j ∈ ks,i < j→ltID (en i).1 (en j).1
def sqE (en:Nat→I2 × A8) (i:Nat):Int:=(en i).2.s
theorem KtIn.sorted {es:List (I2 × A8)} {L:List Nd} {ks:List Nat} {en:Nat→I2 × A8} (h:KtIn es L ks en) {r:List (I2 × A8)} (hp:r.Perm (ks.map en)) (hs:r.Pairwise ltE):r=(sortS (sqE en) ks).map en:=by
 obtain⟨h1,h2⟩:=Zcy (sq:=sqE en) h.up;refine List.Perm.eq_of_pairwise (le:=ltE) (fun a b _ _ p q=>absurd (ZgY p q) ZhX) hs ?_ (hp.trans (h2.symm.map en));rw[List.pairwise_map];refine(List.Pairwise.and_mem.1 h1).imp ?_;rintro a b ⟨ha,hb,q⟩;rw[h2.mem_iff] at ha hb;rcases q with q|⟨q,q'⟩
 · exact .inl q
 exact .inr ⟨q,h.rise a ha b hb q'⟩
theorem KtIn.nodup {es:List (I2 × A8)} {L:List Nd} {ks:List Nat} {en:Nat→I2 × A8} (h:KtIn es L ks en):(ks.map en).Nodup:=by
 unfold List.Nodup;rw[List.pairwise_map];refine(List.Pairwise.and_mem.1 h.up).imp ?_;rintro a b ⟨ha,hb,q⟩ e;have:=h.rise a ha b hb q;rw[e] at this;exact ZcM this
def idK (en:Nat→I2 × A8) (i:Nat):I2:=(en i).1
def KtRel (w:World) (p m b3:Nat) (es:List (I2 × A8)) (nv kv:Value) (L:List Nd) (ks:List Nat) (en:Nat→I2 × A8) (k:Nat) (u v:Value) (wr:World):Prop:=
 ∃i:Nat,u=.int .i64 i∧i + k=ks.length∧At [GrP p m es,rowNd nv L,rowX kv ks] w [rowI2 v ((ks.take i).map (idK en)),Part.cells b3 [.pointer (some ⟨p,0,none⟩)] 61,GrP p m es,rowNd nv L,rowX kv ks] wr
def KtPost (w:World) (p m:Nat) (es:List (I2 × A8)) (nv kv:Value) (L:List Nd) (ks:List Nat) (en:Nat→I2 × A8) (e:Ending) (w':World):Prop:=
 ∃v,e=.returned v∧At [GrP p m es,rowNd nv L,rowX kv ks] w [rowI2 v ((sortS (sqE en) ks).map (idK en)),GrP p m es,rowNd nv L,rowX kv ks] w'
theorem ZmA {w:World} {p m:Nat} {es:List (I2 × A8)} {nv kv:Value} {L:List Nd} {ks:List Nat} {en:Nat→I2 × A8} (h:Sep [GrP p m es,rowNd nv L,rowX kv ks] w) (hk:KtIn es L ks en) (hne:ks≠[]) (hl:ks.length≤1000) (hL:L.length≤1000) (hok:∀e ∈ es,okD e.1) (hu:Uq es):
 Calls Tryz.prog 59 #[.pointer (some ⟨p,0,none⟩),nv,kv] w (KtPost w p m es nv kv L ks en):=by
 obtain⟨i0,hi0,hz0,hz1,hz2⟩:=info_parts infoI;have hA:=At.start h;have hk':=Hd hk;clear h hk;obtain⟨axn,capn,hnv,haxn,hcpn,_⟩:=hA.row_form (e:=131) (size:=7) (n:=L.length) (v:=nv) (xs:=flatN L) sZ;obtain⟨axk,capk,hkv,haxk,hcpk,_⟩:=hA.row_form (e:=3) (size:=1) (n:=ks.length) (v:=kv) (xs:=intL ks) sZ;have haxn':=Hd haxn;have haxk':=Hd haxk;subst hnv;subst hkv;clear haxn haxk;obtain⟨hA,hF⟩:=fZ hA;go_enter Tryz.func59,Tryz.ntmps59
 go_wp2_with ((with_reducible refine gbx ?_);refine wCz (E:=61) hA ?_;clear hF hA;intro b3 w1 hA hb3 hF)
 (try go_frame);replace hA:=hA.row_nil 33 2;clear hF;go_loopg [12,7] ks.length (KtRel w p m b3 es (.slice axn L.length capn) (.slice axk ks.length capk) L ks en)
 case atStart=>exact⟨0,rfl,by omega,hA.pick pZ⟩
 case round=>
  obtain⟨i,rfl,hik,hB⟩:=hrel;replace hA:=hB;clear hB;by_cases hi:i < ks.length
  · skip
    obtain⟨j,hj⟩:∃j,ks[i]? =some j:=⟨_,List.getElem?_eq_getElem hi⟩
    have hjm:=List.mem_of_getElem? hj;obtain⟨d,hd,hid⟩:=hk'.out.at_ j hjm;have htk:(ks.take (i + 1)).map (idK en)=(ks.take i).map (idK en)++[(d.id.1,d.id.2)]:=by rw[List.take_add_one,hj,List.map_append];simp[idK,hid]
    have hjL:=(List.getElem?_eq_some_iff.1 hd).1;have hjL':(j:Int) < L.length:=by omega
    obtain⟨bk,offk,hax1,hce1⟩:=ZaZ (enc:=fun(k:Nat)=>[Value.int .i64 (k:Int)]) (size:=1) (fun _=>rfl) (by omega) (l:=ks) (x:=j) (by rw[←Zg8];exact hA.row_reads (v:=.slice axk ks.length capk) (n:=ks.length) (xs:=intL ks) sZ) hj;have hc1:=Hd (show wr.cell? ⟨bk,offk + i,none⟩=some (.int .i64 j) by have:=hce1 0 _ rfl;simpa using this);obtain⟨bn,offn,hax2,hce2⟩:=ZaZ Nd.cells_len (by omega) (l:=L) (x:=d) (hA.row_reads (v:=.slice axn L.length capn) (n:=L.length) (xs:=flatN L) sZ) hd
    have hc2:=Hd (show ∀(k:Nat) u,([.int .i64 d.id.1,.int .i64 d.id.2]:List Value)[k]? =some u→wr.cell? ⟨bn,offn + j * 7 + k,none⟩=some u from fun k u hk=>hce2 k u (by
     match k,hk with
     |0,hk=>exact hk
     |1,hk=>exact hk))
    clear hce1 hce2 hj hjm hd hid;subst hax1;subst hax2;have htk':=Hd htk;clear htk;obtain⟨axv,capv,hv7,hax7,hcp7,_⟩:=hA.row_form .here;have hax7':=Hd hax7;subst hv7;clear hax7;have hpl:((ks.take i).map (idK en)).length=i:=by simp;omega
    have hpl':=Hd hpl;clear hpl;generalize (ks.take i).map (idK en)=pre at *
    obtain⟨hA,hF⟩:=fZ hA;have hc1o:=hc1.out
    go_wp2_with (first|((with_reducible show wpList _ _ _ ({dst:=some 21,op:=Op.load _ _,type:=_,pos:=_,after:=_,guard:=_}::_) _ _);refine Zad (vs:=[.int .i64 d.id.1,.int .i64 d.id.2]) rfl rfl (by(try simp only[Act.eval,eV])<;>exact rfl) hc2.out (by kernel_rfl) (by kernel_rfl) ?_)|((with_reducible show wpList _ _ _ ({dst:=_,op:=Op.buildSlice _ _ _,type:=_,pos:=_,after:=_,guard:=_}::_) _ _);refine ZaO (e:=33) (vs:=idL (d.id.1,d.id.2)) rfl rfl (by(try simp only[Act.eval,eV])<;>exact rfl) (fun _=>by kernel_rfl) hA ?_;intro b54 w1 hB hb54;replace hA:=hB;clear hF hB;obtain⟨hA,hF⟩:=fZ hA)|((with_reducible show wpList _ _ _ ({dst:=_,op:=Op.call {callee:=Callee.builtin Builtin.append,args:=_,argTypes:=_},type:=_,pos:=_,after:=_,guard:=_}::_) _ _);refine Zal (e:=33) (size:=2) (v:=.slice axv pre.length capv) (xs:=flatI pre) (n:=pre.length) (m:=1) (news:=idL (d.id.1,d.id.2)) rfl _ _ 55 rfl Tryz.underlying55 hi0 hz0 hz1 hz2 rfl (by omega) hA sR (by(try simp only[Act.eval,eV])<;>exact rfl) (by(try simp only[Act.eval,eV])<;>exact rfl) rfl (hA.cells_reads sR _ _) (idL_one _) (by have:=hpl'.out;unfold maxLen;omega) (by have:=hpl'.out;omega) ?_;intro v1 w1 hB;rw[ZdK] at hB;replace hA:=hB;clear hF hB;obtain⟨hA,hF⟩:=fZ hA))
    go_roundg (gk - 1);case measure=>omega
    case rel=>exact⟨i + 1,by simp,by omega,by rw[htk'.out];exact hA.pick pZ⟩
  have hi2:i=ks.length:=by omega
  subst hi2;rw[List.take_of_length_le (Nat.le_refl _)] at hA;clear hik;obtain⟨hA,hF⟩:=fZ hA;go_wp2_with fail;have hids:ks.map (idK en)=idsE (ks.map en):=by rw[idsE,List.map_map];rfl
  rw[hids] at hA;replace hA:=cloIn hA sZ sZ;clear hF;obtain⟨hA,hF⟩:=fZ hA;refine(Zl8 (b3:=b3) (p:=p) (m:=m) (es:=es) (l:=ks.map en) (hA.sep2 (A:=rowI2 u7 (idsE (ks.map en))) (B:=cloP b3 p m es) sZ sZ) (by simpa using hne) (fun e he=>by obtain⟨x,hx,rfl⟩:=List.mem_map.1 he;exact hk'.out.mem x hx) hk'.out.nodup hok hu (by simp;omega)).mono ?_;rintro e w1 ⟨rfl,r,hrp,hrs,hT⟩;have hrr:=hk'.out.sorted hrp hrs;replace hA:=hA.call2 (A:=rowI2 u7 (idsE (ks.map en))) (B:=cloP b3 p m es) sZ sZ hT;clear hF hT;simp only[uA] at hA;replace hA:=ZnL hA sZ;obtain⟨hA,hF⟩:=fZ hA;go_wp2_with fail;go_ret;have hrs2:idsE r=(sortS (sqE en) ks).map (idK en):=by rw[hrr,idsE,List.map_map];rfl
  rw[hrs2] at hA;exact⟨u7,rfl,hA.pick pZ⟩
end Gr
end
section
namespace Gr
open Go.RowKit
open Attr (A8 thro)
attribute [-go_sem] run_eql_struct run_neq_struct run_eqGuard_agg
structure Wt where
 mb:Option Nat
 ws:List Nat
def wsE (l:List Nat):List (Value × Value):=l.map fun(k:Nat)=>(.int .i64 (k:Int),.int .i64 1)
theorem ZjR (l:List Nat):(wsE l).length=l.length:=by simp[wsE]
def Wt.part (o:Wt):Part:=match o.mb with
 |some b=>Part.map Tryz.prog 3 b (wsE o.ws)
 |none=>Part.all []
def Wt.cells (o:Wt):List Value:=[.map o.mb]
structure Hs where
 ha:Option Addr
 hc:Nat
 hs:List Nat
def Hs.v (x:Hs):Value:=.slice x.ha x.hs.length x.hc
def Hs.cells (x:Hs):List Value:=[.slice x.ha x.hs.length x.hc]
def flatO (O:List Wt):List Value:=O.flatMap Wt.cells
def flatH (H:List Hs):List Value:=H.flatMap Hs.cells
abbrev rowO (v:Value) (O:List Wt):Part:=Part.row 132 1 v O.length (flatO O)
abbrev rowH (v:Value) (H:List Hs):Part:=Part.row 24 1 v H.length (flatH H)
def restO (O:List Wt):Part:=Part.all (O.map Wt.part)
def restH (H:List Hs):Part:=Part.all (H.map fun x=>rowX x.v x.hs)
theorem eqvO (l1 l2:List Wt) (d:Wt) (F:List Part):Eqv (restO (l1++d::l2)::F) (d.part::restO (l1++l2)::F):=by
 refine(Eqv.all _ F).trans ?_
 have p1:((l1++d::l2).map Wt.part++F).Perm (d.part::((l1++l2).map Wt.part++F)):=by
  simp only[List.map_append,List.map_cons,List.append_assoc,List.cons_append];exact List.perm_middle
 refine(Eqv.perm p1).trans ?_;exact(Eqv.all ((l1++l2).map Wt.part) F).symm.prepend [d.part]
theorem outO {L0 L F:List Part} {w0 w:World} {N l1 l2:List Wt} {d:Wt} (q:N=l1++d::l2) (h:At L0 w0 L w) (s:Sel (restO N) L F):At L0 w0 (d.part::restO (l1++l2)::F) w:=(h.take s).to (by rw[q];exact eqvO l1 l2 d F)
theorem inO {L0 L F G:List Part} {w0 w:World} {N l1 l2:List Wt} {d:Wt} (q:N=l1++d::l2) (h:At L0 w0 L w) (s:Sel d.part L F) (r:Sel (restO (l1++l2)) F G):At L0 w0 (restO N::G) w:=(h.perm (s.perm.trans (r.perm.cons _))).to (by rw[q];exact(eqvO l1 l2 d G).symm)
theorem eqvH (l1 l2:List Hs) (d:Hs) (F:List Part):Eqv (restH (l1++d::l2)::F) (rowX d.v d.hs::restH (l1++l2)::F):=by
 refine(Eqv.all _ F).trans ?_
 have p1:((l1++d::l2).map (fun x=>rowX x.v x.hs)++F).Perm (rowX d.v d.hs::((l1++l2).map (fun x=>rowX x.v x.hs)++F)):=by
  simp only[List.map_append,List.map_cons,List.append_assoc,List.cons_append];exact List.perm_middle
 refine(Eqv.perm p1).trans ?_;exact(Eqv.all ((l1++l2).map (fun x=>rowX x.v x.hs)) F).symm.prepend [rowX d.v d.hs]
theorem outH {L0 L F:List Part} {w0 w:World} {N l1 l2:List Hs} {d:Hs} (q:N=l1++d::l2) (h:At L0 w0 L w) (s:Sel (restH N) L F):At L0 w0 (rowX d.v d.hs::restH (l1++l2)::F) w:=(h.take s).to (by rw[q];exact eqvH l1 l2 d F)
theorem inH {L0 L F G:List Part} {w0 w:World} {N l1 l2:List Hs} {d:Hs} (q:N=l1++d::l2) (h:At L0 w0 L w) (s:Sel (rowX d.v d.hs) L F) (r:Sel (restH (l1++l2)) F G):At L0 w0 (restH N::G) w:=(h.perm (s.perm.trans (r.perm.cons _))).to (by rw[q];exact(eqvH l1 l2 d G).symm)
theorem ZbT {α:Type} {enc:α→List Value} (hs:∀x,(enc x).length=1) {L0 L F:List Part} {w0 w:World} {e:TypeId} {b off n cap i:Nat} {l:List α} {x:α} (h:At L0 w0 L w) (s:Sel (Part.row e 1 (.slice (some ⟨b,off,none⟩) n cap) n (l.flatMap enc)) L F) (hx:l[i]? =some x) {u:Value} (hu:(enc x)[0]? =some u):
 w.cell? ⟨b,off + i,none⟩=some u:=by
 obtain⟨b',off',h1,h2⟩:=ZaZ hs (by omega) (h.row_reads s) hx;cases h1;have:=h2 0 u hu;simpa using this
def freeV (x:Hs) (o:Wt):Bool:=x.ha.isSome&&(o.mb.isNone || decide ((o.ws.length:Int)=0))
abbrev kaL (b9 b8:Nat) (hv ov:Value) (O:List Wt) (H:List Hs):List Part:=[Part.cells b9 [hv] 126,Part.cells b8 [ov] 125,rowH hv H,rowO ov O,restO O]
def kaP (b9 b8:Nat) (hv ov:Value) (O:List Wt) (H:List Hs):Part:=Part.all (kaL b9 b8 hv ov O H)
theorem Zfw (b9 b8:Nat) (hv ov:Value) (O:List Wt) (H:List Hs) (F:List Part):Eqv (kaP b9 b8 hv ov O H::F) (kaL b9 b8 hv ov O H++F):=Eqv.all _ F
theorem Zmt (a:Option Addr) (n c:Nat) (w:World):(binOp .neq 24 (.slice a n c) (.slice none 0 0)).run Tryz.prog w=.ok (.bool a.isSome) w:=by
 have:=run_neq_slice_nil_any (P:=Tryz.prog) w 24 3 a n c 0 0 Tryz.underlying24
 cases a<;>simpa using this
theorem Zjn {w:World} {b9 b8:Nat} {hv ov:Value} {O:List Wt} {H:List Hs} (h:Sep [kaP b9 b8 hv ov O H] w) (d:Nd) {x:Hs} {o:Wt} (hx:H[d.knot]? =some x) (ho:O[d.knot]? =some o):
 Calls Tryz.prog 58 #[.agg d.cells.toArray,.pointer (some ⟨b9,0,none⟩),.pointer (some ⟨b8,0,none⟩)] w fun e w'=>e=.returned (.bool (freeV x o))∧At [kaP b9 b8 hv ov O H] w [kaP b9 b8 hv ov O H] w':=by
 have hA:At [kaP b9 b8 hv ov O H] w (kaL b9 b8 hv ov O H) w:=(At.start h).to (Zfw b9 b8 hv ov O H []);clear h;obtain⟨axh,caph,hv9,haxh,hcph,_⟩:=hA.row_form (e:=24) (size:=1) (n:=H.length) (v:=hv) (xs:=flatH H) sZ;obtain⟨axo,capo,hv8,haxo,hcpo,_⟩:=hA.row_form (e:=132) (size:=1) (n:=O.length) (v:=ov) (xs:=flatO O) sZ;subst hv9;subst hv8;obtain⟨bh,offh,hax1,hce1⟩:=ZaZ (enc:=Hs.cells) (size:=1) (fun _=>rfl) (by omega) (l:=H) (x:=x) (hA.row_reads (v:=.slice axh H.length caph) (n:=H.length) (xs:=flatH H) sZ) hx;obtain⟨bo,offo,hax2,hce2⟩:=ZaZ (enc:=Wt.cells) (size:=1) (fun _=>rfl) (by omega) (l:=O) (x:=o) (hA.row_reads (v:=.slice axo O.length capo) (n:=O.length) (xs:=flatO O) sZ) ho;have hkH:(d.knot:Int) < H.length:=by have:=(List.getElem?_eq_some_iff.1 hx).1;omega
 have hkO:(d.knot:Int) < O.length:=by have:=(List.getElem?_eq_some_iff.1 ho).1;omega
 subst hax1;subst hax2;clear hce1 hce2;have hx':=Hd hx;have ho':=Hd ho;have haxh':=Hd haxh;have haxo':=Hd haxo;clear hx ho haxh haxo;obtain⟨ha,hc,hs⟩:=x;obtain⟨mb,ws⟩:=o;obtain⟨⟨r,t⟩,na,nc,nx,low,num,on,knot⟩:=d;simp only[Nd.cells,freeV] at *
 have hnq:=Zmt ha hs.length hc;have hsp:=Hd (ZbH ho'.out);obtain⟨hA,hF⟩:=fZ hA;go_enter Tryz.func58,Tryz.ntmps58
 cases ha with
 |none=>
  go_wp2_with (((with_reducible refine gbx ?_);refine wHz 131 [.int .i64 r,.int .i64 t,.slice na nx.length nc,.int .i64 low,.int .i64 num,.bool on,.int .i64 knot] hA ?_;clear hF hA;intro b3 w1 hA hb3 hF);have hc1:w1.cell? ⟨bh,offh + knot,none⟩=some (.slice none hs.length hc):=ZbT (enc:=Hs.cells) (fun _=>rfl) hA sZ hx'.out rfl)
  go_ret;exact⟨rfl,(hA.drop .here).to (Zfw b9 b8 _ _ O H []).symm⟩
 |some aa=>
  cases mb with
  |none=>
   go_wp2_with (((with_reducible refine gbx ?_);refine wHz 131 [.int .i64 r,.int .i64 t,.slice na nx.length nc,.int .i64 low,.int .i64 num,.bool on,.int .i64 knot] hA ?_;clear hF hA;intro b3 w1 hA hb3 hF);have hc1:w1.cell? ⟨bh,offh + knot,none⟩=some (.slice (some aa) hs.length hc):=ZbT (enc:=Hs.cells) (fun _=>rfl) hA sZ hx'.out rfl;have hc2:w1.cell? ⟨bo,offo + knot,none⟩=some (.map none):=ZbT (enc:=Wt.cells) (fun _=>rfl) hA sZ ho'.out rfl)
   go_ret;exact⟨rfl,(hA.drop .here).to (Zfw b9 b8 _ _ O H []).symm⟩
  |some mm=>
   have hB:=outO hsp.out hA sZ;simp only[Wt.part] at hB;replace hA:=hB;clear hF hB;obtain⟨hA,hF⟩:=fZ hA;have hwl:=ZjR ws
   go_wp2_with (((with_reducible refine gbx ?_);refine wHz 131 [.int .i64 r,.int .i64 t,.slice na nx.length nc,.int .i64 low,.int .i64 num,.bool on,.int .i64 knot] hA ?_;clear hF hA;intro b3 w1 hA hb3 hF);have hc1:w1.cell? ⟨bh,offh + knot,none⟩=some (.slice (some aa) hs.length hc):=ZbT (enc:=Hs.cells) (fun _=>rfl) hA sZ hx'.out rfl;have hc2:w1.cell? ⟨bo,offo + knot,none⟩=some (.map (some mm)):=ZbT (enc:=Wt.cells) (fun _=>rfl) hA sZ ho'.out rfl;have hM:MapAt Tryz.prog 3 w1 mm (wsE ws):=hA.get (A:=Part.map Tryz.prog 3 mm (wsE ws)) sR;have hlm:=hM.run_len Tryz.underlying132 3;rw[ZjR] at hlm;clear hM)
   go_ret;have hB:=inO (d:=⟨some mm,ws⟩) hsp.out hA sZ sZ;exact⟨rfl,(hB.pick pZ).to (Zfw b9 b8 _ _ O H []).symm⟩
end Gr
end
section
namespace Gr
open Go.RowKit
open Attr (A8 thro)
attribute [-go_sem] run_eql_struct run_neq_struct run_eqGuard_agg
def freeN (O:List Wt) (H:List Hs) (d:Nd):Bool:=match H[d.knot]?,O[d.knot]? with
 |some x,some o=>freeV x o
 |_,_=>false
def InN (O:List Wt) (H:List Hs) (L:List Nd):Prop:=∀d ∈ L,∃x o,H[d.knot]? =some x∧O[d.knot]? =some o
theorem Zmp {w:World} {b9 b8:Nat} {hv ov:Value} {O:List Wt} {H:List Hs} (h:Sep [kaP b9 b8 hv ov O H] w) (d:Nd) (hd:∃x o,H[d.knot]? =some x∧O[d.knot]? =some o) {c:Bool} (hc:freeN O H d=c):
 Calls Tryz.prog 58 #[.agg d.cells.toArray,.pointer (some ⟨b9,0,none⟩),.pointer (some ⟨b8,0,none⟩)] w fun e w'=>e=.returned (.bool c)∧At [kaP b9 b8 hv ov O H] w [kaP b9 b8 hv ov O H] w':=by
 obtain⟨x,o,hx,ho⟩:=hd;subst hc;unfold freeN;rw[hx,ho];exact Zjn h d hx ho
def Zo2 (w:World) (v:Value) (L:List Nd) (E:Part) (f:Nd→Bool) (k:Nat) (u:Value) (wr:World):Prop:=
 ∃i:Nat,u=.int .i64 i∧i + k=L.length∧At [rowNd v L,E] w [rowNd v L,E] wr∧∀y ∈ L.take i,f y=false
def Znq (w:World) (v:Value) (L:List Nd) (E:Part) (f:Nd→Bool) (e:Ending) (w':World):Prop:=
 ((∃(i:Nat) (d:Nd),e=.returned (.int .i64 i)∧L[i]? =some d∧f d=true∧∀y ∈ L.take i,f y=false)∨(e=.returned (.int .i64 (-1))∧∀y ∈ L,f y=false))∧At [rowNd v L,E] w [rowNd v L,E] w'
theorem ZmI {w:World} {v:Value} {L:List Nd} {b9 b8:Nat} {hv ov:Value} {O:List Wt} {H:List Hs} (h:Sep [rowNd v L,kaP b9 b8 hv ov O H] w) (hin:InN O H L) (hmax:L.length≤1000000):
 Calls Tryz.prog 57 #[v,.func (.func 58) #[] #[.pointer (some ⟨b9,0,none⟩),.pointer (some ⟨b8,0,none⟩)]] w (Znq w v L (kaP b9 b8 hv ov O H) (freeN O H)):=by
 have hA:=At.start h;have hF:=hA.facts;clear h;obtain⟨ax,cap,rfl,hax,hcap,_⟩:=hA.row_form (e:=131) (size:=7) (n:=L.length) (v:=v) (xs:=flatN L) sZ;have hin':=Hd hin;have hax':=Hd hax;clear hin hax;go_enter Tryz.func57,Tryz.ntmps57;go_wp2_with fail;(try go_frame);go_loopg [8] L.length (Zo2 w (.slice ax L.length cap) L (kaP b9 b8 hv ov O H) (freeN O H))
 case atStart=>exact⟨0,rfl,by simp,hA,by simp⟩
 case round=>
  obtain⟨i,rfl,hik,hB,hno⟩:=hrel;have hno':=Hd hno;clear hF hA hno;have hA:=hB;clear hB;by_cases hi:i < L.length
  · obtain⟨d,hd⟩:∃d,L[i]? =some d:=⟨_,List.getElem?_eq_getElem hi⟩
    obtain⟨bn,offn,hax2,hce2⟩:=ZaZ Nd.cells_len (by omega) (l:=L) (x:=d) (hA.row_reads (v:=.slice ax L.length cap) (n:=L.length) (xs:=flatN L) sZ) hd;subst hax2;have hd':=Hd hd;have htk:=Hd (show L.take (i + 1)=L.take i++[d] by rw[List.take_add_one,hd];rfl);have hci:=hin'.out d (List.mem_of_getElem? hd);clear hd
    obtain⟨c,hc⟩:∃c,freeN O H d=c:=⟨_,rfl⟩
    have hcal:=fun(w1:World) (q:Sep [kaP b9 b8 hv ov O H] w1)=>Zmp q d hci hc;have hc':=Hd hc;have hr2:=Hd (show ∀(k:Nat) u,([.int .i64 d.id.1,.int .i64 d.id.2,.slice d.na d.nx.length d.nc,.int .i64 d.low,.int .i64 d.num,.bool d.on,.int .i64 d.knot]:List Value)[k]? =some u→wr.cell? ⟨bn,offn + i * 7 + k,none⟩=some u from hce2);clear hce2 hc hci;simp only[Nd.cells] at hcal;obtain⟨hA,hF⟩:=fZ hA
    go_wp2_with ((with_reducible show wpList _ _ _ ({dst:=some 15,op:=Op.load _ _,type:=_,pos:=_,after:=_,guard:=_}::_) _ _);refine Zad (vs:=[.int .i64 d.id.1,.int .i64 d.id.2,.slice d.na d.nx.length d.nc,.int .i64 d.low,.int .i64 d.num,.bool d.on,.int .i64 d.knot]) rfl rfl (by(try simp only[Act.eval,eV])<;>exact rfl) hr2.out (by kernel_rfl) (by kernel_rfl) ?_)
    refine(hcal _ (hA.sep1 (A:=kaP b9 b8 hv ov O H) sZ)).mono ?_;rintro e w2 ⟨rfl,hT⟩;replace hA:=hA.call1 (A:=kaP b9 b8 hv ov O H) sZ hT;clear hF hT hcal;simp only[uA] at hA;obtain⟨hA,hF⟩:=fZ hA;cases c
    · go_wp2_with fail;go_roundg (gk - 1);case measure=>omega
      case rel=>exact⟨i + 1,by simp,by omega,hA.pick pZ,fun x hx=>by
       rw[htk.out] at hx;rcases List.mem_append.1 hx with hx|hx
       · exact hno'.out x hx
       rw[List.mem_singleton.1 hx];exact hc'.out⟩
    go_wp2_with fail;go_ret;exact⟨.inl ⟨i,d,rfl,hd'.out,hc'.out,hno'.out⟩,hA.pick pZ⟩
  have hF:=hA.facts;go_wp2_with fail;go_ret;exact⟨.inr ⟨rfl,fun x hx=>hno'.out x (by rw[List.take_of_length_le (by omega)];exact hx)⟩,hA.pick pZ⟩
end Gr
end
end Go.Proofs.YtbeckijoabapkaaGreatDoor
