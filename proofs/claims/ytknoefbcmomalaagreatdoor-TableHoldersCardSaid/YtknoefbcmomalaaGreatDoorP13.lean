import Derived.Test.YtknoefbcmomalaaGreatDoorP12
import Derived.Test.YtknoefbcmomalaaGreatDoorP8
set_option linter.unusedSimpArgs false
set_option linter.unusedVariables false
set_option maxRecDepth 100000
set_option maxHeartbeats 16000000
namespace Go.Proofs.YtknoefbcmomalaaGreatDoor
section
namespace Lock
open Go.RowKit
open Go.Maps (Keyed)
open Path (bl Zaf overB)
theorem Zje {first:Int} {cs:List (ByteArray × Int)} {p:ByteArray} {i:Nat} (hi:i < cs.length) (hn:∀x ∈ cs.take i,x.1≠p) (hy:cs[i].1=p):counter first cs p=cs[i].2:=by
 have h1:cs=cs.take i++cs[i]::cs.drop (i + 1):=by rw[List.getElem_cons_drop hi,List.take_append_drop]
 unfold counter ctr
 have h2:cs.find? (fun x=>decide (x.1=p))=some cs[i]:=by
  rw[List.find?_eq_some_iff_append];exact⟨by simp[hy],_,_,h1,fun x hx=>by simpa using hn x hx⟩
 rw[h2];rfl
theorem Zjd {first:Int} {cs:List (ByteArray × Int)} {p:ByteArray} (hn:∀x ∈ cs,x.1≠p):counter first cs p=first:=by
 unfold counter ctr;rw[List.find?_eq_none.2 (fun x hx=>by simpa using hn x hx)];rfl
theorem ZnO {cs:List (ByteArray × Int)} {p:ByteArray} {n:Int} {i:Nat} (hi:i < cs.length) (hn:∀x ∈ cs.take i,x.1≠p) (hy:cs[i].1=p):putC cs p n=cs.set i (p,n):=by
 have h1:cs=cs.take i++(p,cs[i].2)::cs.drop (i + 1):=by
  have e:(p,cs[i].2)=cs[i]:=by rw[←hy]
  rw[e,List.getElem_cons_drop hi,List.take_append_drop]
 rw[List.set_eq_take_append_cons_drop,if_pos hi];conv=>lhs;rw[h1]
 exact ZdB hn
theorem ZnN {cs:List (ByteArray × Int)} {p:ByteArray} {n:Int} (hn:∀x ∈ cs,x.1≠p):putC cs p n=cs++[(p,n)]:=by
 refine ZcX ?_;unfold ctr;rw[List.find?_eq_none.2 (fun x hx=>by simpa using hn x hx)];rfl
theorem ZeD {L:List (ByteArray × Int)} {p:ByteArray} {i:Nat} (hi:i < L.length) (h:∀x ∈ L.take i,x.1≠p) (h1:L[i].1≠p):∀x ∈ L.take (i + 1),x.1≠p:=fun x hx=>by
 rw[List.take_succ_eq_append_getElem hi] at hx;rcases List.mem_append.1 hx with hx|hx
 · exact h x hx
 rw[List.mem_singleton.1 hx];exact h1
def CtrRel (w:World) (first:Int) (vL v:Value) (cs:List (ByteArray × Int)) (p:ByteArray) (b1:Nat) (k:Nat) (u:Value) (wr:World):Prop:=
 ∃i:Nat,u=.int .i64 i∧i + k=cs.length∧At [rowC v cs] w [boxB b1 first vL v,rowC v cs] wr∧∀x ∈ cs.take i,x.1≠p
theorem ZgN {w:World} {v:Value} {cs:List (ByteArray × Int)} (h:Sep [rowC v cs] w) (first:Int) (vL:Value) (hvL:∃ax k cap,vL=.slice ax k cap) (p:ByteArray) (hmax:cs.length≤1000000):
 Calls Tryz.prog 140 #[.agg #[.int .u64 first,vL,v],.string p] w fun e w'=>e=.returned (.int .u64 (counter first cs p))∧At [rowC v cs] w [rowC v cs] w':=by
 obtain⟨cx,ck,cc,rfl⟩:=hvL;have hA:=At.start h;have hF:=hA.facts;clear h;obtain⟨ax,cap,rfl,hax,hcap,_⟩:=hA.row_form (v:=v) (xs:=flatC cs) sR;obtain⟨hA,hF⟩:=fZ hA;go_enter Tryz.func140,Tryz.ntmps140
 go_wp2_with ((with_reducible refine gbx ?_);refine wCz (E:=38) hA ?_;clear hF hA;intro bB w1 hA hbB hF)
 (try go_frame);go_loopg [5] cs.length (CtrRel w first (.slice cx ck cc) (.slice ax cs.length cap) cs p bB)
 case atStart=>exact⟨0,rfl,by simp,hA,by simp⟩
 case round=>
  obtain⟨i,rfl,hik,hB,hno⟩:=hrel;have hno':=Hd hno;clear hF hA hno;have hA:=hB;clear hB;by_cases hi:i < cs.length
  · obtain⟨g,c,rfl,_,hcm,hcl,hct,hB⟩:=hA.row_open (ax:=ax) (cap:=cap) (n:=cs.length) (xs:=flatC cs) sR (by omega);have hx:cs[i]? =some cs[i]:=List.getElem?_eq_getElem hi;have c0:c[i * 2]? =some (.string cs[i].1):=Zag Zct hct hx 0 (by omega);have c1:c[i * 2 + 1]? =some (.int .u64 cs[i].2):=Zag Zct hct hx 1 (by omega);clear hA;have hA:=hB;clear hB;obtain⟨hA,hF⟩:=fZ hA;by_cases h1:cs[i].1=p
    · have e1:(cs[i].1.toList==p.toList)=true:=by rw[same_ba];exact decide_eq_true h1
      have hd:=Hd (Zje (first:=first) hi hno'.out h1);clear h1 hx;go_wp2_with fail;go_ret;exact⟨by rw[hd.out];rfl,(ZhZ hA sR hcl hcap hcm hct).only1 sR⟩
    have e1:(cs[i].1.toList==p.toList)=false:=by rw[same_ba];exact decide_eq_false h1
    have hm:=Hd (ZeD hi hno'.out h1);clear h1 hx;go_wp2_with fail;go_roundg (gk - 1);case measure=>omega
    case rel=>exact⟨i + 1,by simp,by omega,(ZhZ hA sR hcl hcap hcm hct).pick pR,hm.out⟩
  have hd:=Hd (Zjd (first:=first) (fun x hx=>hno'.out x (by rw[List.take_of_length_le (by omega)];exact hx)));obtain⟨hA,hF⟩:=fZ hA;go_wp2_with fail;go_ret;exact⟨by rw[hd.out];rfl,hA.only1 sR⟩
def CntRel (w:World) (first:Int) (vL v u7:Value) (cs:List (ByteArray × Int)) (p:ByteArray) (b1 b2:Nat) (k:Nat) (u:Value) (wr:World):Prop:=
 ∃i:Nat,u=.int .i64 i∧i + k=cs.length∧At [rowC v cs] w [rowC u7 cs,boxB b1 first vL v,boxB b2 0 (.slice none 0 0) (.slice none 0 0),rowC v cs] wr∧∀x ∈ cs.take i,x.1≠p
def Zlp (w:World) (first:Int) (vL v:Value) (cs:List (ByteArray × Int)) (p:ByteArray) (n:Int) (e:Ending) (w':World):Prop:=
 ∃v',e=.returned (.agg #[.int .u64 first,vL,v'])∧At [rowC v cs] w [rowC v' (putC cs p n),rowC v cs] w'
theorem ZhD {w:World} {v:Value} {cs:List (ByteArray × Int)} (h:Sep [rowC v cs] w) (first:Int) (vL:Value) (hvL:∃ax k cap,vL=.slice ax k cap) (p:ByteArray) (n:Int) (hmax:cs.length≤1000000):
 Calls Tryz.prog 141 #[.agg #[.int .u64 first,vL,v],.string p,.int .u64 n] w (Zlp w first vL v cs p n):=by
 obtain⟨cx,ck,cc,rfl⟩:=hvL;obtain⟨i0,hi0,hz0,hz1,hz2⟩:=info_parts infoC;have hA:=At.start h;have hF:=hA.facts;clear h;obtain⟨ax,cap,rfl,hax,hcap,_⟩:=hA.row_form (v:=v) (xs:=flatC cs) sR;have hr0:=hA.row_reads (v:=.slice ax cs.length cap) (xs:=flatC cs) sR;have hA:=Zh1 hA;obtain⟨hA,hF⟩:=fZ hA;go_enter Tryz.func141,Tryz.ntmps141
 go_wp2_with (first
  |((with_reducible refine gbx ?_);refine wCz (E:=38) hA ?_;clear hF hA;intro bB w1 hA hbB hF)
  |((with_reducible refine gal ?_);refine g10 hA ?_;clear hF hA;intro bZ w1 hA hbZ hF)
  |((with_reducible refine gst ?_);refine wTz hA ?_;clear hF hA;intro w1 hA hF)|((with_reducible refine gbx ?_);refine wCz hA ?_;clear hF hA;intro b1 w1 hA hb1 hF)
  |(refine Zac (e:=226) (size:=2) (v:=.slice none 0 0) (xs:=flatC []) (n:=([]:List (ByteArray × Int)).length) (m:=cs.length) (news:=flatC cs) rfl _ _ 36 rfl Tryz.underlying36 hi0 hz0 hz1 hz2 rfl (by omega) hA sR (by(try simp only[Act.eval,eV])<;>exact rfl) (by(try simp only[Act.eval,eV])<;>exact rfl) (ZkG _) (hA.row_reads (v:=.slice ax cs.length cap) (n:=cs.length) (xs:=flatC cs) sR) (ZkF _) (by unfold maxLen;simp;omega) (by simp;omega) ?_;intro v1 w1 hB;rw[ZjP] at hB;replace hA:=hB;clear hF hB;obtain⟨hA,hF⟩:=fZ hA))
 (try go_frame);obtain⟨bx,bn,bcap,hv1,hbn⟩:=hA.row_hid (v:=v1) (n:=cs.length) (xs:=flatC cs) sR;subst hv1;go_loopg [8] cs.length (CntRel w first (.slice cx ck cc) (.slice ax cs.length cap) (.slice bx bn bcap) cs p bB bZ)
 case atStart=>exact⟨0,rfl,by simp,hA.pick pR,by simp⟩
 case round=>
  obtain⟨i,rfl,hik,hB,hno⟩:=hrel;have hno':=Hd hno;clear hF hA hno;have hA:=hB;clear hB;have hbn':bn=cs.length:=hbn.out;subst hbn';by_cases hi:i < cs.length
  · obtain⟨g,c,rfl,hcap1,hcm,hcl,hct,hB⟩:=hA.row_open (ax:=bx) (cap:=bcap) (n:=cs.length) (xs:=flatC cs) sR (by omega);have hx:cs[i]? =some cs[i]:=List.getElem?_eq_getElem hi;have c0:c[i * 2]? =some (.string cs[i].1):=Zag Zct hct hx 0 (by omega);have c1:c[i * 2 + 1]? =some (.int .u64 cs[i].2):=Zag Zct hct hx 1 (by omega);have hlt:i * 2 + 1 < c.length:=by rw[hcl];omega
    clear hA;have hA:=hB;clear hB;obtain⟨hA,hF⟩:=fZ hA;by_cases h1:cs[i].1=p
    · have e1:(cs[i].1.toList==p.toList)=true:=by rw[same_ba];exact decide_eq_true h1
      have hd:=Hd (ZnO (n:=n) hi hno'.out h1)
      have hw2:(c.set (i * 2 + 1) (.int .u64 n)).take ((cs.set i (p,n)).length * 2)=flatC (cs.set i (p,n)):=by
       have e2:(setL c (i * 2) (ctrL (p,n))).take ((cs.set i (p,n)).length * 2)=flatC (cs.set i (p,n)):=ZcL Zct hct hi (p,n);rw[←e2];congr 1
       have c0':c[i * 2]? =some (.string p):=by rw[c0,h1]
       have hs:c.set (i * 2) (.string p)=c:=by
        apply List.ext_getElem?;intro j;by_cases hj:i * 2=j
        · subst hj;rw[List.getElem?_set_self (by omega),c0']
        rw[List.getElem?_set_ne hj]
       show c.set (i * 2 + 1) _=(c.set (i * 2) _).set (i * 2 + 1) _;rw[hs]
      have hw3:=Hd hw2;clear h1 hx hw2
      go_wp2_with (first|((with_reducible refine gst ?_);refine wTz hA ?_;clear hF hA;intro w1 hA hF)|(refine Zam (b:=g) (j:=i * 2 + 1) (vs:=[.int .u64 n]) rfl rfl rfl (by(try simp only[Act.eval,eV])<;>exact rfl) (by exact rfl) hA sR (by kernel_rfl) rfl (by show i * 2 + 1 + 1≤c.length;omega) ?_;intro w1 hB;replace hA:=hB;clear hF hB;obtain⟨hA,hF⟩:=fZ hA))
      have hsl:(cs.set i (p,n)).length=cs.length:=by simp
      refine bodyPost_ret (v:=.agg #[.int .u64 first,.slice cx ck cc,.slice (some ⟨g,0,none⟩) cs.length bcap]) (by simp[results,Tryz.results141,go_sem,hF]) rfl ⟨_,rfl,?_⟩;have hB:=ZhZ (L:=cs.set i (p,n)) hA sR (by rw[List.length_set];exact hcl) (by rw[hsl];exact hcap1) hcm hw3.out;rw[hsl] at hB;rw[hd.out];exact hB.pick pR
    have e1:(cs[i].1.toList==p.toList)=false:=by rw[same_ba];exact decide_eq_false h1
    have hm:=Hd (ZeD hi hno'.out h1);clear h1 hx;go_wp2_with fail;go_roundg (gk - 1);case measure=>omega
    case rel=>exact⟨i + 1,by simp,by omega,(ZhZ hA sR hcl hcap1 hcm hct).pick pR,hm.out⟩
  have hd:=Hd (ZnN (n:=n) (fun x hx=>hno'.out x (by rw[List.take_of_length_le (by omega)];exact hx)));obtain⟨hA,hF⟩:=fZ hA
  go_wp2_with (first
   |((with_reducible refine gst ?_);refine wTz hA ?_;clear hF hA;intro w1 hA hF)|((with_reducible refine gbx ?_);refine wCz hA ?_;clear hF hA;intro b1 w1 hA hb1 hF)|((with_reducible refine gal ?_);refine wGz 226 [.string .empty,.int .u64 0] hA ?_;clear hF hA;intro b1 w1 hA hb1 hF)
   |(refine Zap (e:=226) (vs:=ctrL (p,n)) rfl rfl (by(try simp only[Act.eval,eV])<;>exact rfl) (fun _=>by kernel_rfl) hA ?_;intro b2 w1 hB hb2;replace hA:=hB;clear hF hB;obtain⟨hA,hF⟩:=fZ hA)
   |(refine Zac (e:=226) (size:=2) (v:=.slice bx cs.length bcap) (xs:=flatC cs) (n:=cs.length) (m:=1) (news:=ctrL (p,n)) rfl _ _ 36 rfl Tryz.underlying36 hi0 hz0 hz1 hz2 rfl (by omega) hA sR (by(try simp only[Act.eval,eV])<;>exact rfl) (by(try simp only[Act.eval,eV])<;>exact rfl) rfl (hA.cells_reads sR _ _) (Zit _) (by unfold maxLen;omega) (by omega) ?_;intro v2 w1 hB;rw[ZjO] at hB;obtain⟨ax3,n3,cap3,hv3,hn3⟩:=hB.row_hid .here;subst hv3;replace hA:=hB;clear hF hB;obtain⟨hA,hF⟩:=fZ hA))
  refine bodyPost_ret (v:=.agg #[.int .u64 first,.slice cx ck cc,.slice ax3 n3 cap3]) (by simp[results,Tryz.results141,go_sem,hF]) rfl ⟨_,rfl,?_⟩;rw[hd.out];exact hA.pick pR
end Lock
end
section
namespace Lock
open Go.RowKit
open Go.Maps (Keyed)
open Path (bl Zaf overB)
def GrRel (w:World) (first:Int) (v vC:Value) (L:List Ent) (e:Ent) (m:Nat) (b1:Nat) (k:Nat) (u:Value) (wr:World):Prop:=
 ∃i:Nat,u=.int .i64 i∧i + k=m∧At [rowE v L] w [boxB b1 first v vC,rowE v L] wr∧∀x ∈ L.take i,wayB x e=false
theorem ZkC {L:List Ent} {k:Nat} (hk:k < L.length) (h:∀x ∈ L.take k,wayB x L[k]=false):Zbd L k=true:=by
 unfold Zbd;rw[List.getElem?_eq_getElem hk];simp only[List.all_eq_true];intro x hx;rw[h x hx];rfl
theorem Zms {L:List Ent} {k i:Nat} (hk:k < L.length) (hi:i < k) (h:wayB (L[i]'(by omega)) L[k]=true):Zbd L k=false:=by
 unfold Zbd;rw[List.getElem?_eq_getElem hk];simp only[List.all_eq_false];exact⟨L[i]'(by omega),List.mem_take_iff_getElem.2 ⟨i,by omega,rfl⟩,by rw[h];simp⟩
theorem Zcg {w:World} {v:Value} {L:List Ent} (h:Sep [rowE v L] w) (first:Int) (vC:Value) (hvC:∃ax k cap,vC=.slice ax k cap) (k:Nat) (hk:k < L.length) (hmax:L.length≤1000000) (hsz:∀x ∈ L,x.path.size≤1000):
 Calls Tryz.prog 30 #[.agg #[.int .u64 first,v,vC],.int .i64 k] w fun e w'=>e=.returned (.bool (Zbd L k))∧At [rowE v L] w [rowE v L] w':=by
 obtain⟨cx,ck,cc,rfl⟩:=hvC;have hA:=At.start h;have hF:=hA.facts;clear h;obtain⟨ax,cap,rfl,hax,hcap,_⟩:=hA.row_form (v:=v) (xs:=flatE L) sR;obtain⟨hA,hF⟩:=fZ hA;go_enter Tryz.func30,Tryz.ntmps30
 go_wp2_with ((with_reducible refine gbx ?_);refine wCz (E:=38) hA ?_;clear hF hA;intro bB w1 hA hbB hF)
 (try go_frame);go_loopg [5] k (GrRel w first (.slice ax L.length cap) (.slice cx ck cc) L L[k] k bB)
 case atStart=>exact⟨0,rfl,by simp,hA,by simp⟩
 case round=>
  obtain⟨i,rfl,hik,hB,hno⟩:=hrel;have hno':=Hd hno;clear hF hA hno;have hA:=hB;clear hB;by_cases hi:i < k
  · obtain⟨g,c,rfl,_,hcm,hcl,hct,hB⟩:=hA.row_open (ax:=ax) (cap:=cap) (n:=L.length) (xs:=flatE L) sR (by omega);have hiL:i < L.length:=by omega
    have hx:L[i]? =some L[i]:=List.getElem?_eq_getElem hiL;have hy:L[k]? =some L[k]:=List.getElem?_eq_getElem hk;have hd1:(c.drop (i * 6)).take 6=[.string L[i].path,.int .u64 L[i].num,.string L[i].foot,.int .i64 L[i].mode,.int .u64 L[i].n,.int .i64 L[i].stamp]:=Zgh Ent.cells_len hct hx;have hd2:(c.drop (k * 6)).take 6=[.string L[k].path,.int .u64 L[k].num,.string L[k].foot,.int .i64 L[k].mode,.int .u64 L[k].n,.int .i64 L[k].stamp]:=Zgh Ent.cells_len hct hy;have hway:=fun w1=>ZhP L[i] L[k] w1 (hsz _ (List.getElem_mem hiL)) (hsz _ (List.getElem_mem hk));have hbad:=Hd (Zms hk hi);have hgood:=Hd (ZbT (P:=fun x=>wayB x L[k]) hiL hno'.out)
    obtain⟨wb,hwb⟩:∃wb,wayB L[i] L[k]=wb:=⟨_,rfl⟩
    rw[hwb] at hway;have hwb':=Hd hwb;clear hA hwb hx hy;have hA:=hB;clear hB;obtain⟨hA,hF⟩:=fZ hA;go_wp2_with fail;(refine cA hA ?_);(have hn1:=Cl.none hA);(have hn2:=Cl.none2 hA);(repeat(first|go_big_quiet_skip|(go_big_quiet_want;(first|(refine qM 82 6 ?_;go_frame;go_big_quiet_on)|(refine qL ?_;go_frame;go_big_quiet_on)|(go_big_quiet_op;(first|go_big_quiet_on|((apply Exists.intro);(refine⟨fun w1 hw=> ?_,?_⟩);(focus((have hw:=Cl.out hw);(exact through0 hw (hway _))));(go_big_quiet_on))))))))
    (refine wpQuiet_nil ?_);(intro w1 hB);(clear hF hA hn1 hn2);(have hA:=Cl.out hB);(clear hB);obtain⟨hA,hF⟩:=fZ hA
    clear hway;cases wb
    · go_wp2_with fail;go_roundg (gk - 1);case measure=>omega
      case rel=>exact⟨i + 1,by simp,by omega,(Zbq hA sR hcl hcap hcm hct).pick pR,hgood.out hwb'.out⟩
    have hr:=Hd (hbad.out hwb'.out);go_wp2_with fail;go_ret;exact⟨by rw[hr.out];rfl,(Zbq hA sR hcl hcap hcm hct).only1 sR⟩
  have hik2:i=k:=by omega
  subst hik2;have hr:=Hd (ZkC hk hno'.out);obtain⟨hA,hF⟩:=fZ hA;go_wp2_with fail;go_ret;exact⟨by rw[hr.out];rfl,hA.only1 sR⟩
def Zm9 (w:World) (first:Int) (v vC:Value) (L:List Ent) (e:Ent) (b1:Nat) (k:Nat) (u:Value) (wr:World):Prop:=
 ∃i:Nat,u=.int .i64 i∧i + k=L.length∧At [rowE v L] w [boxB b1 first v vC,rowE v L] wr∧∀x ∈ L.take i,wayB x e=false
theorem ZmM {L:List Ent} {p:ByteArray} {mode:Int} {i:Nat} (hi:i < L.length) (h:wayB L[i] ⟨p,0,.empty,mode,0,0⟩=true):ZaC L p mode=false:=by
 unfold ZaC;rw[Bool.and_eq_false_iff];left
 simp only[List.all_eq_false];exact⟨L[i],List.getElem_mem hi,by rw[h];simp⟩
theorem Zk0 {L:List Ent} {p:ByteArray} {mode:Int} (h:∀x ∈ L,wayB x ⟨p,0,.empty,mode,0,0⟩=false):ZaC L p mode=Zbi p mode:=by
 unfold ZaC
 have:L.all (fun x=> !wayB x ⟨p,0,.empty,mode,0,0⟩)=true:=by
  simp only[List.all_eq_true];intro x hx;rw[h x hx];rfl
 rw[this,Bool.true_and]
theorem Zjf {w:World} {v:Value} {L:List Ent} (h:Sep [rowE v L] w) (first:Int) (vC:Value) (hvC:∃ax k cap,vC=.slice ax k cap) (p:ByteArray) (mode:Int) (hp:p.size≤1000) (hmax:L.length≤1000000) (hsz:∀x ∈ L,x.path.size≤1000):
 Calls Tryz.prog 102 #[.agg #[.int .u64 first,v,vC],.string p,.int .i64 mode] w fun e w'=>e=.returned (.bool (ZaC L p mode))∧At [rowE v L] w [rowE v L] w':=by
 obtain⟨cx,ck,cc,rfl⟩:=hvC;have hA:=At.start h;have hF:=hA.facts;clear h;obtain⟨ax,cap,rfl,hax,hcap,_⟩:=hA.row_form (v:=v) (xs:=flatE L) sR;obtain⟨hA,hF⟩:=fZ hA;go_enter Tryz.func102,Tryz.ntmps102
 go_wp2_with ((with_reducible refine gbx ?_);refine wCz (E:=38) hA ?_;clear hF hA;intro bB w1 hA hbB hF)
 (try go_frame);go_loopg [7] L.length (Zm9 w first (.slice ax L.length cap) (.slice cx ck cc) L ⟨p,0,.empty,mode,0,0⟩ bB)
 case atStart=>exact⟨0,rfl,by simp,hA,by simp⟩
 case round=>
  obtain⟨i,rfl,hik,hB,hno⟩:=hrel;have hno':=Hd hno;clear hF hA hno;have hA:=hB;clear hB;by_cases hi:i < L.length
  · obtain⟨g,c,rfl,_,hcm,hcl,hct,hB⟩:=hA.row_open (ax:=ax) (cap:=cap) (n:=L.length) (xs:=flatE L) sR (by omega);have hx:L[i]? =some L[i]:=List.getElem?_eq_getElem hi;(have c0:c[i * 6]? =some (.string L[i].path):=Zag Ent.cells_len hct hx 0 (by omega));(have c1:c[i * 6 + 1]? =some (.int .u64 L[i].num):=Zag Ent.cells_len hct hx 1 (by omega));(have c2:c[i * 6 + 2]? =some (.string L[i].foot):=Zag Ent.cells_len hct hx 2 (by omega));(have c3:c[i * 6 + 3]? =some (.int .i64 L[i].mode):=Zag Ent.cells_len hct hx 3 (by omega));(have c4:c[i * 6 + 4]? =some (.int .u64 L[i].n):=Zag Ent.cells_len hct hx 4 (by omega));(have c5:c[i * 6 + 5]? =some (.int .i64 L[i].stamp):=Zag Ent.cells_len hct hx 5 (by omega))
    have hway:=fun w1=>ZhP L[i] ⟨p,0,.empty,mode,0,0⟩ w1 (hsz _ (List.getElem_mem hi)) hp;simp only[Ent.val] at hway;have hbad:=Hd (ZmM (p:=p) (mode:=mode) hi);have hgood:=Hd (ZbT (P:=fun x=>wayB x ⟨p,0,.empty,mode,0,0⟩) hi hno'.out)
    obtain⟨wb,hwb⟩:∃wb,wayB L[i] ⟨p,0,.empty,mode,0,0⟩=wb:=⟨_,rfl⟩
    rw[hwb] at hway;have hwb':=Hd hwb;clear hA hwb hx;have hA:=hB;clear hB;obtain⟨hA,hF⟩:=fZ hA;go_wp2_with fail;refine(hway _).mono ?_;clear hway;rintro e w2 ⟨rfl,hx⟩;replace hA:=hA.ext hx;clear hF hx;obtain⟨hA,hF⟩:=fZ hA;cases wb
    · go_wp2_with fail;go_roundg (gk - 1);case measure=>omega
      case rel=>exact⟨i + 1,by simp,by omega,(Zbq hA sR hcl hcap hcm hct).pick pR,hgood.out hwb'.out⟩
    have hr:=Hd (hbad.out hwb'.out);go_wp2_with fail;go_ret;exact⟨by rw[hr.out];rfl,(Zbq hA sR hcl hcap hcm hct).only1 sR⟩
  have hr:=Hd (Zk0 (p:=p) (mode:=mode) (fun x hx=>hno'.out x (by rw[List.take_of_length_le (by omega)];exact hx)))
  obtain⟨rb,hrb⟩:∃rb,Zaf (bl p)=rb:=⟨_,rfl⟩
  have hrr:=Path.ZbC wr (by omega) hrb;have hrb':=Hd hrb;clear hrb;obtain⟨hA,hF⟩:=fZ hA;go_wp2_with fail;refine hrr.mono ?_;clear hrr;rintro e w2 ⟨rfl,hx⟩;replace hA:=hA.ext hx;clear hF hx;obtain⟨hA,hF⟩:=fZ hA;cases rb
  · go_wp2_with fail;go_ret;exact⟨by rw[hr.out];unfold Zbi;rw[hrb'.out];rfl,hA.only1 sR⟩
  by_cases m1:1≤mode
  · by_cases m2:mode≤2
    · have hm:=Hd (show(decide (mode=1) || decide (mode=2))=true by simp;omega);go_wp2_with fail;go_ret;exact⟨by rw[hr.out];unfold Zbi;rw[hrb'.out,hm.out];rfl,hA.only1 sR⟩
    have hm:=Hd (show(decide (mode=1) || decide (mode=2))=false by simp;omega);have m2':=decide_eq_false m2;have m3:=Hd m2';go_wp2_with fail;go_ret;exact⟨by rw[hr.out];unfold Zbi;rw[hrb'.out,hm.out];first|rfl|(rw[show(true&&false)=decide (mode≤2) from m3.out.symm];rfl),hA.only1 sR⟩
  have hm:=Hd (show(decide (mode=1) || decide (mode=2))=false by simp;omega);go_wp2_with fail;go_ret;exact⟨by rw[hr.out];unfold Zbi;rw[hrb'.out,hm.out];rfl,hA.only1 sR⟩
def ChkRel (w:World) (first:Int) (v vC:Value) (L:List Ent) (p:ByteArray) (n:Int) (b1:Nat) (k:Nat) (u:Value) (wr:World):Prop:=
 ∃i:Nat,u=.int .i64 i∧i + k=L.length∧At [rowE v L] w [boxB b1 first v vC,rowE v L] wr∧∀x ∈ L.take i,decide (x.path=p∧x.n=n)=false
theorem ZmR {L:List Ent} {p:ByteArray} {n:Int} {i:Nat} (hi:i < L.length) (hn:∀x ∈ L.take i,decide (x.path=p∧x.n=n)=false) (hy:L[i].path=p∧L[i].n=n):Zck L p n=Zbd L i:=by
 unfold Zck
 rw[List.findIdx?_eq_some_iff_getElem.2 ⟨hi,by simpa using hy,fun j hj=>by
  have:=hn L[j] (List.mem_take_iff_getElem.2 ⟨j,by omega,rfl⟩)
  simp at this
  simpa using this⟩]
theorem Zk3 {L:List Ent} {p:ByteArray} {n:Int} (hn:∀x ∈ L,decide (x.path=p∧x.n=n)=false):Zck L p n=false:=by
 unfold Zck;rw[List.findIdx?_eq_none_iff.2 hn]
theorem Zjk {w:World} {v:Value} {L:List Ent} (h:Sep [rowE v L] w) (first:Int) (vC:Value) (hvC:∃ax k cap,vC=.slice ax k cap) (p:ByteArray) (n:Int) (hmax:L.length≤1000000) (hsz:∀x ∈ L,x.path.size≤1000):
 Calls Tryz.prog 105 #[.agg #[.int .u64 first,v,vC],.string p,.int .u64 n] w fun e w'=>e=.returned (.bool (Zck L p n))∧At [rowE v L] w [rowE v L] w':=by
 obtain⟨cx,ck,cc,rfl⟩:=hvC;have hA:=At.start h;have hF:=hA.facts;clear h;obtain⟨ax,cap,rfl,hax,hcap,_⟩:=hA.row_form (v:=v) (xs:=flatE L) sR;obtain⟨hA,hF⟩:=fZ hA;go_enter Tryz.func105,Tryz.ntmps105
 go_wp2_with ((with_reducible refine gbx ?_);refine wCz (E:=38) hA ?_;clear hF hA;intro bB w1 hA hbB hF)
 (try go_frame);go_loopg [7] L.length (ChkRel w first (.slice ax L.length cap) (.slice cx ck cc) L p n bB)
 case atStart=>exact⟨0,rfl,by simp,hA,by simp⟩
 case round=>
  obtain⟨i,rfl,hik,hB,hno⟩:=hrel;have hno':=Hd hno;clear hF hA hno;have hA:=hB;clear hB;by_cases hi:i < L.length
  · have hgr:=fun(w1:World) (q:Sep [rowE (.slice ax L.length cap) L] w1)=>Zcg q first (.slice cx ck cc) ⟨_,_,_,rfl⟩ i hi hmax hsz
    obtain⟨gb,hgb⟩:∃gb,Zbd L i=gb:=⟨_,rfl⟩
    rw[hgb] at hgr;have hat:=Hd (fun q=>(ZmR (p:=p) (n:=n) hi hno'.out q).trans hgb);clear hgb;obtain⟨g,c,rfl,_,hcm,hcl,hct,hB⟩:=hA.row_open (ax:=ax) (cap:=cap) (n:=L.length) (xs:=flatE L) sR (by omega);have hx:L[i]? =some L[i]:=List.getElem?_eq_getElem hi;(have c0:c[i * 6]? =some (.string L[i].path):=Zag Ent.cells_len hct hx 0 (by omega));(have c1:c[i * 6 + 1]? =some (.int .u64 L[i].num):=Zag Ent.cells_len hct hx 1 (by omega));(have c2:c[i * 6 + 2]? =some (.string L[i].foot):=Zag Ent.cells_len hct hx 2 (by omega));(have c3:c[i * 6 + 3]? =some (.int .i64 L[i].mode):=Zag Ent.cells_len hct hx 3 (by omega));(have c4:c[i * 6 + 4]? =some (.int .u64 L[i].n):=Zag Ent.cells_len hct hx 4 (by omega));(have c5:c[i * 6 + 5]? =some (.int .i64 L[i].stamp):=Zag Ent.cells_len hct hx 5 (by omega))
    have hgood:=Hd (ZbT (P:=fun x=>decide (x.path=p∧x.n=n)) hi hno'.out);clear hA hx;have hA:=hB;clear hB;obtain⟨hA,hF⟩:=fZ hA;by_cases h1:L[i].path=p
    · have e1:(L[i].path.toList==p.toList)=true:=by rw[same_ba];exact decide_eq_true h1
      by_cases h2:L[i].n=n
      · have e2:(L[i].n==n)=true:=by simpa using h2
        have hr:=Hd (hat.out ⟨h1,h2⟩);clear h1 h2;go_wp2_with fail;have hB:=Zbq hA sR hcl hcap hcm hct;clear hF hA;refine(hgr _ (hB.sep1 sR)).mono ?_;clear hgr;rintro e w2 ⟨rfl,hT⟩;have hA:=hB.call1 (A:=rowE (.slice (some ⟨g,0,none⟩) L.length cap) L) .here hT;clear hB hT;go_wp2_with fail;go_ret;exact⟨by rw[hr.out];rfl,hA.only1 .here⟩
      have e2:(L[i].n==n)=false:=by simpa using h2
      have hr:=Hd (hgood.out (decide_eq_false (fun q=>h2 q.2)));clear h1 h2;go_wp2_with fail;go_roundg (gk - 1);case measure=>omega
      case rel=>exact⟨i + 1,by simp,by omega,(Zbq hA sR hcl hcap hcm hct).pick pR,hr.out⟩
    have e1:(L[i].path.toList==p.toList)=false:=by rw[same_ba];exact decide_eq_false h1
    have hr:=Hd (hgood.out (decide_eq_false (fun q=>h1 q.1)));clear h1;go_wp2_with fail;go_roundg (gk - 1);case measure=>omega
    case rel=>exact⟨i + 1,by simp,by omega,(Zbq hA sR hcl hcap hcm hct).pick pR,hr.out⟩
  have hr:=Hd (Zk3 (p:=p) (n:=n) (fun x hx=>hno'.out x (by rw[List.take_of_length_le (by omega)];exact hx)));obtain⟨hA,hF⟩:=fZ hA;go_wp2_with fail;go_ret;exact⟨by rw[hr.out];rfl,hA.only1 sR⟩
end Lock
end
section
namespace Lock
open Go.RowKit
open Go.Maps (Keyed)
open Path (bl Zaf overB)
def dropP (all:Bool) (p:ByteArray) (n:Int) (f:ByteArray) (x:Ent):Bool:=decide (x.num=n∧x.foot=f∧(all=true∨x.path=p))
def dropF (all:Bool) (p:ByteArray) (n:Int) (f:ByteArray) (L:List Ent):List Ent:=L.filter (fun x=> !dropP all p n f x)
theorem ZkQ (p:ByteArray) (n:Int) (f:ByteArray) (L:List Ent):dropF false p n f L=L.filter (fun x=> !x.is p n f):=by
 unfold dropF;congr 1
 funext x
 unfold dropP Ent.is;congr 1
 rw[decide_eq_decide];constructor
 · rintro⟨h1,h2,h3⟩
   rcases h3 with h3|h3
   · cases h3
   exact⟨h3,h1,h2⟩
 rintro⟨h1,h2,h3⟩
 exact⟨h2,h3,.inr h1⟩
theorem ZkS (p:ByteArray) (n:Int) (f:ByteArray) (L:List Ent):dropF true p n f L=L.filter (fun x=> !x.of n f):=by
 unfold dropF;congr 1
 funext x
 unfold dropP Ent.of;simp
theorem Zjb {all:Bool} {p:ByteArray} {n:Int} {f:ByteArray} {L:List Ent} {i:Nat} (hi:i < L.length):dropF all p n f (L.take (i + 1))=if dropP all p n f L[i]=true then dropF all p n f (L.take i) else dropF all p n f (L.take i)++[L[i]]:=by
 unfold dropF;rw[List.take_succ_eq_append_getElem hi,List.filter_append];cases h:dropP all p n f L[i]<;>simp[h]
theorem ZkR (all:Bool) (p:ByteArray) (n:Int) (f:ByteArray) (L:List Ent) (i:Nat):(dropF all p n f (L.take i)).length≤L.length:=Nat.le_trans (List.length_filter_le _ _) (by rw[List.length_take];omega)
theorem one_E (x:Ent) (w:World):(Instr.buildSlice 35 1 #[(0,.agg #[.string x.path,.int .u64 x.num,.string x.foot,.int .i64 x.mode,.int .u64 x.n,.int .i64 x.stamp])]).run Tryz.prog w=.ok (.slice (some ⟨w.heap.size,0,none⟩) 1 1) (w.alloc (.cells x.cells.toArray 82)):=by kernel_rfl
def DrRel (w:World) (first:Int) (v vC:Value) (L:List Ent) (all:Bool) (p:ByteArray) (n:Int) (f:ByteArray) (b1 b2:Nat) (k:Nat) (u11 u12:Value) (wr:World):Prop:=
 ∃i:Nat,u12=.int .i64 i∧i + k=L.length∧At [rowE v L] w [rowE u11 (dropF all p n f (L.take i)),boxB b2 0 (.slice none 0 0) (.slice none 0 0),boxB b1 first v vC,rowE v L] wr
def Zm8 (w:World) (first:Int) (v vC:Value) (L L':List Ent) (e:Ending) (w':World):Prop:=
 ∃v',e=.returned (.agg #[.int .u64 first,v',vC])∧At [rowE v L] w [rowE v' L',rowE v L] w'
theorem ZeY {w:World} {v:Value} {L:List Ent} (h:Sep [rowE v L] w) (first:Int) (vC:Value) (hvC:∃ax k cap,vC=.slice ax k cap) (p:ByteArray) (n:Int) (f:ByteArray) (all:Bool) (hmax:L.length≤1000000):
 Calls Tryz.prog 64 #[.agg #[.int .u64 first,v,vC],.string p,.int .u64 n,.string f,.bool all] w (Zm8 w first v vC L (dropF all p n f L)):=by
 obtain⟨cx,ck,cc,rfl⟩:=hvC;obtain⟨i0,hi0,hz0,hz1,hz2⟩:=info_parts infoE;have hA:=At.start h;have hF:=hA.facts;clear h;obtain⟨ax,cap,rfl,hax,hcap,_⟩:=hA.row_form (v:=v) (xs:=flatE L) sR;have hA:=Za7 hA;obtain⟨hA,hF⟩:=fZ hA;go_enter Tryz.func64,Tryz.ntmps64
 go_wp2_with (first
  |((with_reducible refine gbx ?_);refine wCz (E:=38) hA ?_;clear hF hA;intro bB w1 hA hbB hF)
  |((with_reducible refine gal ?_);refine g10 hA ?_;clear hF hA;intro bZ w1 hA hbZ hF)
  |((with_reducible refine gst ?_);refine wTz hA ?_;clear hF hA;intro w1 hA hF)|((with_reducible refine gbx ?_);refine wCz hA ?_;clear hF hA;intro b1 w1 hA hb1 hF))
 (try go_frame);go_loopg [11,12] L.length (DrRel w first (.slice ax L.length cap) (.slice cx ck cc) L all p n f bB bZ)
 case atStart=>exact⟨0,rfl,by simp,by rw[show dropF all p n f (L.take 0)=[] by simp[dropF]];exact hA.pick pR⟩
 case round=>
  obtain⟨i,rfl,hik,hB⟩:=hrel;replace hA:=hB;clear hF hB;have hlen:=ZkR all p n f L i;by_cases hi:i < L.length
  · have hst:=Zjb (all:=all) (p:=p) (n:=n) (f:=f) hi;obtain⟨g,c,rfl,hcap1,hcm,hcl,hct,hB⟩:=hA.row_open (ax:=ax) (cap:=cap) (n:=L.length) (xs:=flatE L) sR (by omega);have hx:L[i]? =some L[i]:=List.getElem?_eq_getElem hi;(have c0:c[i * 6]? =some (.string L[i].path):=Zag Ent.cells_len hct hx 0 (by omega));(have c1:c[i * 6 + 1]? =some (.int .u64 L[i].num):=Zag Ent.cells_len hct hx 1 (by omega));(have c2:c[i * 6 + 2]? =some (.string L[i].foot):=Zag Ent.cells_len hct hx 2 (by omega));(have c3:c[i * 6 + 3]? =some (.int .i64 L[i].mode):=Zag Ent.cells_len hct hx 3 (by omega));(have c4:c[i * 6 + 4]? =some (.int .u64 L[i].n):=Zag Ent.cells_len hct hx 4 (by omega));(have c5:c[i * 6 + 5]? =some (.int .i64 L[i].stamp):=Zag Ent.cells_len hct hx 5 (by omega))
    clear hA hx;have hA:=hB;clear hB
    obtain⟨D,hD⟩:∃D,dropF all p n f (L.take i)=D:=⟨_,rfl⟩
    rw[hD] at hst hlen hA;clear hD
    obtain⟨x,hxi⟩:∃x,L[i]=x:=⟨_,rfl⟩
    simp only[hxi] at hst c0 c1 c2 c3 c4 c5;clear hxi;by_cases hd:dropP all p n f x=true
    · have hn:=Hd (hst.trans (if_pos hd))
      have hcs:(x.num=n∧x.foot=f∧all=true)∨(x.num=n∧x.foot=f∧all=false∧x.path=p):=by
       unfold dropP at hd;simp only[decide_eq_true_eq] at hd;cases all
       · right;simpa using hd
       left;simpa using hd
      clear hd hst;rcases hcs with⟨h1,h2,rfl⟩|⟨h1,h2,rfl,h3⟩
      · have e1:(x.num != n)=false:=by simp[h1]
        have e1':(x.num==n)=true:=by simp[h1]
        have e2:(x.foot.toList != f.toList)=false:=by simp[h2]
        have e2':(x.foot.toList==f.toList)=true:=by simp[h2]
        clear h1 h2;obtain⟨hA,hF⟩:=fZ hA;go_wp2_with fail;go_roundg (gk - 1);case measure=>omega
        case rel=>exact⟨i + 1,by simp,by omega,by rw[hn.out];exact(Zbq hA sR hcl hcap1 hcm hct).pick pR⟩
      have e1:(x.num != n)=false:=by simp[h1]
      have e1':(x.num==n)=true:=by simp[h1]
      have e2:(x.foot.toList != f.toList)=false:=by simp[h2]
      have e2':(x.foot.toList==f.toList)=true:=by simp[h2]
      have e3:(x.path.toList != p.toList)=false:=by simp[h3]
      have e3':(x.path.toList==p.toList)=true:=by simp[h3]
      clear h1 h2 h3;obtain⟨hA,hF⟩:=fZ hA;go_wp2_with fail;go_roundg (gk - 1);case measure=>omega
      case rel=>exact⟨i + 1,by simp,by omega,by rw[hn.out];exact(Zbq hA sR hcl hcap1 hcm hct).pick pR⟩
    have hn:=Hd (hst.trans (if_neg hd))
    have hcs:(x.num != n)=true∨((x.num != n)=false∧(x.foot.toList != f.toList)=true)∨((x.num != n)=false∧(x.foot.toList != f.toList)=false∧(x.path.toList != p.toList)=true∧all=false):=by
     unfold dropP at hd;simp only[decide_eq_true_eq] at hd;by_cases h1:x.num=n
     · by_cases h2:x.foot=f
       · right;right
         refine⟨by simp[h1],by simp[h2],?_,?_⟩
         · unfold bne;rw[same_ba,decide_eq_false (fun h3=>hd ⟨h1,h2,.inr h3⟩)];rfl
         cases all
         · rfl
         exact absurd ⟨h1,h2,.inl rfl⟩ hd
       right;left
       exact⟨by simp[h1],by unfold bne;rw[same_ba,decide_eq_false h2];rfl⟩
     left;simp[h1]
    clear hd hst;rcases hcs with e1|⟨e1,e2⟩|⟨e1,e2,e3,rfl⟩
    all_goals
     try have e1':(x.num==n)=false:=by unfold bne at e1;simpa using e1
     try have e1':(x.num==n)=true:=by unfold bne at e1;simpa using e1
     try have e2':(x.foot.toList==f.toList)=false:=by unfold bne at e2;simpa using e2
     try have e2':(x.foot.toList==f.toList)=true:=by unfold bne at e2;simpa using e2
     try have e3':(x.path.toList==p.toList)=false:=by unfold bne at e3;simpa using e3
     obtain⟨hA,hF⟩:=fZ hA
     go_wp2_with (first
      |((with_reducible show wpList _ _ _ ({dst:=_,op:=Op.buildSlice _ _ _,type:=_,pos:=_,after:=_,guard:=_}::_) _ _);refine Zap (e:=82) (vs:=Ent.cells x) rfl rfl (by(try simp only[Act.eval,eV])<;>exact rfl) (fun _=>one_E x _) hA ?_;intro b2 w1 hB hb2;replace hA:=hB;clear hF hB;obtain⟨hA,hF⟩:=fZ hA)
      |((with_reducible show wpList _ _ _ ({dst:=_,op:=Op.call {callee:=Callee.builtin Builtin.append,args:=_,argTypes:=_},type:=_,pos:=_,after:=_,guard:=_}::_) _ _);refine Zac (e:=82) (size:=6) (v:=u11) (xs:=flatE (D)) (n:=(D).length) (m:=1) (news:=Ent.cells x) rfl _ _ 35 rfl Tryz.underlying35 hi0 hz0 hz1 hz2 rfl (by omega) hA sR (by(try simp only[Act.eval,eV])<;>exact rfl) (by(try simp only[Act.eval,eV])<;>exact rfl) rfl (hA.cells_reads sR _ _) (Ent.one _) (by unfold maxLen;omega) (by omega) ?_;intro v2 w1 hB;rw[Zbh] at hB;replace hA:=hB;clear hF hB;obtain⟨hA,hF⟩:=fZ hA))
     go_roundg (gk - 1);case measure=>omega
     case rel=>exact⟨i + 1,by simp,by omega,by rw[hn.out];exact(Zbq hA sR hcl hcap1 hcm hct).pick pR⟩
  have eL:L.take i=L:=List.take_of_length_le (by omega);rw[eL] at hA;obtain⟨dx,dn,dcap,hdv,hdn⟩:=hA.row_hid (v:=u11) (n:=(dropF all p n f L).length) (xs:=flatE (dropF all p n f L)) sR;subst hdv;obtain⟨hA,hF⟩:=fZ hA
  go_wp2_with ((with_reducible refine gst ?_);refine wTz hA ?_;clear hF hA;intro w1 hA hF)
  refine bodyPost_ret (v:=.agg #[.int .u64 first,.slice dx dn dcap,.slice cx ck cc]) (by simp[results,Tryz.results64,go_sem,hF]) rfl ⟨_,rfl,?_⟩;exact hA.pick pR
end Lock
end
section
namespace Lock
open Go.RowKit
open Go.Maps (Keyed)
open Path (bl Zaf overB)
abbrev boxE0 (b:Nat):Part:=.cells b [.string .empty,.int .u64 0,.string .empty,.int .i64 0,.int .u64 0,.int .i64 0] 82
theorem Zkz {L:List Ent} {n:Int} {f:ByteArray} {i:Nat} (hi:i < L.length):heldN (L.take (i + 1)) n f=heldN (L.take i) n f + if L[i].of n f then 1 else 0:=by
 rw[List.take_succ_eq_append_getElem hi,ZeS]
theorem Zke {L:List Ent} {p:ByteArray} {i:Nat} (hi:i < L.length):maxS (L.take (i + 1)) p=if overB (bl L[i].path) (bl p) then max (maxS (L.take i) p) L[i].stamp else maxS (L.take i) p:=by
 rw[List.take_succ_eq_append_getElem hi,Zgs]
theorem Zil {L:List Ent} {p:ByteArray} {n:Int} {f:ByteArray}:((find L p n f).isSome=true→0≤idxD L p n f)∧((find L p n f).isSome=false→idxD L p n f= -1):=by
 unfold idxD Zh8
 have h:(L.findIdx? (·.is p n f)).isSome=(find L p n f).isSome:=by
  unfold find;rw[List.findIdx?_isSome]
  cases hq:L.find? (·.is p n f) with
  |none=>
   have:=List.find?_eq_none.1 hq;simp only[Option.isSome_none,List.any_eq_false];intro x hx
   simpa using this x hx
  |some y=>
   simp only[Option.isSome_some,List.any_eq_true];exact⟨y,List.mem_of_find?_eq_some hq,by have:=List.find?_some hq;simpa using this⟩
 rw[←h]
 cases hq:L.findIdx? (·.is p n f) with
 |none=>simp
 |some k=>simp
def AddRel (w:World) (first:Int) (vL vC:Value) (L:List Ent) (cs:List (ByteArray × Int)) (p:ByteArray) (n:Int) (f:ByteArray) (b5 b10 b11:Nat) (k:Nat) (u13 u14 u15:Value) (wr:World):Prop:=
 ∃i:Nat,u15=.int .i64 i∧u13=.int .i64 (heldN (L.take i) n f)∧u14=.int .i64 (maxS (L.take i) p)∧i + k=L.length∧At [rowE vL L,rowC vC cs] w [boxE0 b11,boxB b10 0 (.slice none 0 0) (.slice none 0 0),boxB b5 first vL vC,rowE vL L,rowC vC cs] wr
def Zlq (w:World) (vL vC:Value) (s:S3) (p:ByteArray) (n:Int) (f:ByteArray) (mode:Int) (e:Ending) (w':World):Prop:=
 (s.may p n f mode≠0∧e=.returned (.tuple #[.agg #[.int .u64 s.first,vL,vC],nullE.val,.int .i64 (s.may p n f mode)])∧At [rowE vL s.es,rowC vC s.cs] w [rowE vL s.es,rowC vC s.cs] w')∨
 (s.may p n f mode=0∧∃vL' vC',e=.returned (.tuple #[.agg #[.int .u64 s.first,vL',vC'],(s.addE p n f mode).val,.int .i64 0])∧At [rowE vL s.es,rowC vC s.cs] w [rowE vL' (s.add p n f mode).es,rowC vC' (s.add p n f mode).cs,rowE vL s.es,rowC vC s.cs] w')
theorem Zcv {w w':World} {vL vC:Value} {s:S3} {p:ByteArray} {n:Int} {f:ByteArray} {mode:Int} {e:Ending} {c:Int} (hc:s.may p n f mode=c) (h0:c≠0) (he:e=.returned (.tuple #[.agg #[.int .u64 s.first,vL,vC],nullE.val,.int .i64 c])) (h:At [rowE vL s.es,rowC vC s.cs] w [rowE vL s.es,rowC vC s.cs] w'):Zlq w vL vC s p n f mode e w':=
 .inl ⟨by rw[hc];exact h0,by rw[hc];exact he,h⟩
theorem Zlg {w:World} {vL vC:Value} {first:Int} {L:List Ent} {cs:List (ByteArray × Int)} (h:Sep [rowE vL L,rowC vC cs] w) (p:ByteArray) (n:Int) (f:ByteArray) (mode:Int) (hp:p.size≤1000) (hmax:L.length≤1000000) (hmaxc:cs.length≤1000000) (hok:∀x ∈ L,x.path.size≤1000∧x.stamp≤1000000000) (hc0:0≤counter first cs p):
 Calls Tryz.prog 103 #[.agg #[.int .u64 first,vL,vC],.string p,.int .u64 n,.string f,.int .i64 mode] w (Zlq w vL vC ⟨first,L,cs⟩ p n f mode):=by
 obtain⟨i0,hi0,hz0,hz1,hz2⟩:=info_parts infoE;have hA:=At.start h;have hF:=hA.facts;clear h;obtain⟨ax,cap,rfl,hax,hcap,_⟩:=hA.row_form (v:=vL) (xs:=flatE L) sR;obtain⟨cx,cap2,rfl,hcx,hcap2,_⟩:=hA.row_form (v:=vC) (xs:=flatC cs) sR;have hcode:(⟨first,L,cs⟩:S3).may p n f mode=if Zbi p mode=false then 10 else if(find L p n f).isSome=true then 15 else if 64≤heldN L n f then 14 else if lastN≤counter first cs p then 53 else 0:=rfl
 have hfi:=Zil (L:=L) (p:=p) (n:=n) (f:=f)
 obtain⟨rb,hrb⟩:∃rb,Zaf (bl p)=rb:=⟨_,rfl⟩
 have hrr:=fun w1=>Path.ZbC w1 (by omega) hrb;have hrb':=Hd hrb;clear hrb;have hcode':=Hd hcode;have hfi':=Hd hfi;clear hcode hfi;obtain⟨hA,hF⟩:=fZ hA;go_enter Tryz.func103,Tryz.ntmps103
 go_wp2_with (first
  |((with_reducible refine gbx ?_);refine wCz (E:=38) hA ?_;clear hF hA;intro bB w1 hA hbB hF)
  |((with_reducible refine gal ?_);refine g10 hA ?_;clear hF hA;intro bZ w1 hA hbZ hF)
  |((with_reducible refine gal ?_);refine g3 hA ?_;clear hF hA;intro bE w1 hA hbE hF)
  |((with_reducible refine gst ?_);refine wTz hA ?_;clear hF hA;intro w1 hA hF)|((with_reducible refine gbx ?_);refine wCz hA ?_;clear hF hA;intro b1 w1 hA hb1 hF))
 refine(hrr _).mono ?_;clear hrr;rintro e w2 ⟨rfl,hx⟩;replace hA:=hA.ext hx;clear hF hx;obtain⟨hA,hF⟩:=fZ hA
 cases hrm:Zbi p mode with
 |false=>
  have hc1:=Hd (hcode'.out.trans (if_pos hrm))
  have hcs:rb=false∨(rb=true∧mode < 1)∨(rb=true∧¬mode < 1∧2 < mode):=by
   unfold Zbi at hrm;rw[hrb'.out] at hrm;cases rb
   · exact .inl rfl
   right
   simp at hrm
   by_cases hm:mode < 1
   · exact .inl ⟨rfl,hm⟩
   exact .inr ⟨rfl,hm,by omega⟩
  clear hrm;rcases hcs with rfl|⟨rfl,m1⟩|⟨rfl,m1,m2⟩
  all_goals
   go_wp2_with ((with_reducible refine gst ?_);refine wTz hA ?_;clear hF hA;intro w1 hA hF)
   refine bodyPost_ret (v:=.tuple #[.agg #[.int .u64 first,.slice ax L.length cap,.slice cx cs.length cap2],nullE.val,.int .i64 10]) (by simp[results,Tryz.results103,go_sem,hF,nullE,Ent.val]<;>rfl) rfl ?_;exact Zcv hc1.out (by omega) rfl (hA.pick pR)
 |true=>
  have hc1:=Hd (hcode'.out.trans (if_neg (by rw[hrm];simp)));obtain⟨hr1,hr2⟩:=Zds hrm;have hrt:rb=true:=by rw[←hrb'.out];exact hr1
  subst hrt;have m1:¬mode < 1:=by omega
  have m2:¬2 < mode:=by omega
  clear hrm hr1 hr2 hcode';go_wp2_with fail;refine(findR_any (hA.sep1 (A:=rowE (.slice ax L.length cap) L) sR) first (.slice cx cs.length cap2) ⟨_,_,_,rfl⟩ p n f hmax).mono ?_;generalize idxD L p n f=ix at *
  rintro e w3 ⟨rfl,hT⟩;replace hA:=hA.call1 (A:=rowE (.slice ax L.length cap) L) sR hT;clear hF hT;obtain⟨hA,hF⟩:=fZ hA
  cases hfs:(find L p n f).isSome with
  |true=>
   have hc2:=Hd (hc1.out.trans (if_pos hfs));have hix:=hfi'.out.1 hfs;clear hfs
   go_wp2_with ((with_reducible refine gst ?_);refine wTz hA ?_;clear hF hA;intro w1 hA hF)
   refine bodyPost_ret (v:=.tuple #[.agg #[.int .u64 first,.slice ax L.length cap,.slice cx cs.length cap2],nullE.val,.int .i64 15]) (by simp[results,Tryz.results103,go_sem,hF,nullE,Ent.val]<;>rfl) rfl ?_;exact Zcv hc2.out (by omega) rfl (hA.pick pR)
  |false=>
   have hc2:=Hd (hc1.out.trans (if_neg (by rw[hfs];simp)));have hix:=hfi'.out.2 hfs;subst hix;clear hfs hfi';go_wp2_with fail;(try go_frame);go_loopg [13,14,15] L.length (AddRel w first (.slice ax L.length cap) (.slice cx cs.length cap2) L cs p n f bB bZ bE)
   case atStart=>exact⟨0,rfl,by simp[heldN],by simp[maxS],by simp,hA.pick pR⟩
   case round=>
    obtain⟨i,rfl,rfl,rfl,hik,hB⟩:=hrel;clear hF hA;have hA:=hB;clear hB;by_cases hi:i < L.length
    · have hh:=Zkz (n:=n) (f:=f) hi;have hm:=Zke (p:=p) hi;have hhl:=heldN_le (L.take i) n f;have hml:=Zdg (l:=L.take i) (p:=p) (B:=1000000000) (by omega) (fun x hx=>(hok x (List.mem_of_mem_take hx)).2);obtain⟨hx1,hx2⟩:=hok L[i] (List.getElem_mem hi);have htl:(L.take i).length≤1000000:=by rw[List.length_take];omega
      obtain⟨g,c,rfl,hcap1,hcm,hcl,hct,hB⟩:=hA.row_open (ax:=ax) (cap:=cap) (n:=L.length) (xs:=flatE L) sR (by omega);have hx:L[i]? =some L[i]:=List.getElem?_eq_getElem hi;(have c0:c[i * 6]? =some (.string L[i].path):=Zag Ent.cells_len hct hx 0 (by omega));(have c1:c[i * 6 + 1]? =some (.int .u64 L[i].num):=Zag Ent.cells_len hct hx 1 (by omega));(have c2:c[i * 6 + 2]? =some (.string L[i].foot):=Zag Ent.cells_len hct hx 2 (by omega));(have c3:c[i * 6 + 3]? =some (.int .i64 L[i].mode):=Zag Ent.cells_len hct hx 3 (by omega));(have c4:c[i * 6 + 4]? =some (.int .u64 L[i].n):=Zag Ent.cells_len hct hx 4 (by omega));(have c5:c[i * 6 + 5]? =some (.int .i64 L[i].stamp):=Zag Ent.cells_len hct hx 5 (by omega))
      clear hA hx;have hA:=hB;clear hB
      obtain⟨x,hxi⟩:∃x,L[i]=x:=⟨_,rfl⟩
      simp only[hxi] at hh hm hx1 hx2 c0 c1 c2 c3 c4 c5;clear hxi;have hov:=fun w1=>Path.Zce x.path p w1 (by omega) (by omega);generalize overB (bl x.path) (bl p)=ob at *
      generalize heldN (L.take i) n f=hn at *
      generalize maxS (L.take i) p=ms at *
      have hh':=Hd hh;have hm':=Hd hm
      have hcs:((x.num==n)=false∧Hid (x.of n f=false))∨((x.num==n)=true∧(x.foot.toList==f.toList)=false∧Hid (x.of n f=false))∨((x.num==n)=true∧(x.foot.toList==f.toList)=true∧Hid (x.of n f=true)):=by
       by_cases h1:x.num=n
       · by_cases h2:x.foot=f
         · right;right
           exact⟨by simp[h1],by simp[h2],Hd (by simp[Ent.of,h1,h2])⟩
         right;left
         exact⟨by simp[h1],by rw[same_ba];exact decide_eq_false h2,Hd (by simp[Ent.of,h2])⟩
       left;exact⟨by simp[h1],Hd (by simp[Ent.of,h1])⟩
      clear hh hm;obtain⟨hA,hF⟩:=fZ hA;rcases hcs with⟨e1,hof⟩|⟨e1,e2,hof⟩|⟨e1,e2,hof⟩
      all_goals
       go_wp2_with fail;refine(hov _).mono ?_;clear hov;rintro e w4 ⟨rfl,hx⟩;replace hA:=hA.ext hx;clear hF hx;obtain⟨hA,hF⟩:=fZ hA;cases ob
       · go_wp2_with fail;go_roundg (gk - 1);case measure=>omega
         case rel=>exact⟨i + 1,by simp,by rw[hh'.out,hof.out];simp,by rw[hm'.out];simp,by omega,(Zbq hA sR hcl hcap1 hcm hct).pick pR⟩
       by_cases hg:ms < x.stamp
       · have hmx:Hid (max ms x.stamp=x.stamp):=Hd (by omega);go_wp2_with fail;go_roundg (gk - 1);case measure=>omega
         case rel=>exact⟨i + 1,by simp,by rw[hh'.out,hof.out];simp,by rw[hm'.out];simp[hmx.out],by omega,(Zbq hA sR hcl hcap1 hcm hct).pick pR⟩
       have hmx:Hid (max ms x.stamp=ms):=Hd (by omega);go_wp2_with fail;go_roundg (gk - 1);case measure=>omega
       case rel=>exact⟨i + 1,by simp,by rw[hh'.out,hof.out];simp,by rw[hm'.out];simp[hmx.out],by omega,(Zbq hA sR hcl hcap1 hcm hct).pick pR⟩
    have eL:L.take i=L:=List.take_of_length_le (by omega);rw[eL];have hq0:=heldN_le L n f;have hms:=Zdg (l:=L) (p:=p) (B:=1000000000) (by omega) (fun x hx=>(hok x hx).2);have hnew:∀q,64≤q→(if 64≤q then(14:Int) else if lastN≤counter first cs p then 53 else 0)=14:=fun q hq=>if_pos hq;generalize hhd:heldN L n f=hd at *
    generalize hmm:maxS L p=ms at *
    by_cases hq:64≤hd
    · have hc3:=Hd (hc2.out.trans (if_pos hq));have hq':(64:Int)≤(hd:Int):=by omega
      clear hq hnew hhd hmm;obtain⟨hA,hF⟩:=fZ hA
      go_wp2_with ((with_reducible refine gst ?_);refine wTz hA ?_;clear hF hA;intro w1 hA hF)
      refine bodyPost_ret (v:=.tuple #[.agg #[.int .u64 first,.slice ax L.length cap,.slice cx cs.length cap2],nullE.val,.int .i64 14]) (by simp[results,Tryz.results103,go_sem,hF,nullE,Ent.val]<;>rfl) rfl ?_;exact Zcv hc3.out (by omega) rfl (hA.pick pR)
    have hc3:=Hd (hc2.out.trans (if_neg hq));have hq':¬(64:Int)≤(hd:Int):=by omega
    have hhd':=Hd hhd;have hmm':=Hd hmm;clear hq hnew hhd hmm;have hct:=fun(w1:World) (q:Sep [rowC (.slice cx cs.length cap2) cs] w1)=>ZgN q first (.slice ax L.length cap) ⟨_,_,_,rfl⟩ p hmaxc
    obtain⟨cc,hcc⟩:∃cc,counter first cs p=cc:=⟨_,rfl⟩
    rw[hcc] at hct hc0;have hcc':=Hd hcc;have hc4:=Hd (hcc ▸ hc3.out);clear hcc hc3;obtain⟨hA,hF⟩:=fZ hA;go_wp2_with fail;refine(hct _ (hA.sep1 (A:=rowC (.slice cx cs.length cap2) cs) sR)).mono ?_;rintro e w5 ⟨rfl,hT⟩;replace hA:=hA.call1 (A:=rowC (.slice cx cs.length cap2) cs) sR hT;clear hF hT;obtain⟨hA,hF⟩:=fZ hA;by_cases hl:9223372036854775807≤cc
    · have hc5:=Hd (hc4.out.trans (if_pos hl));clear hct
      go_wp2_with ((with_reducible refine gst ?_);refine wTz hA ?_;clear hF hA;intro w1 hA hF)
      refine bodyPost_ret (v:=.tuple #[.agg #[.int .u64 first,.slice ax L.length cap,.slice cx cs.length cap2],nullE.val,.int .i64 53]) (by simp[results,Tryz.results103,go_sem,hF,nullE,Ent.val]<;>rfl) rfl ?_;exact Zcv hc5.out (by omega) rfl (hA.pick pR)
    have hc5:=Hd (hc4.out.trans (if_neg hl));have hwr:IntKind.u64.wrap (cc + 1)=cc + 1:=by rw[IntKind.wrap_u64];omega
    go_wp2_with fail;refine(hct _ (hA.sep1 (A:=rowC (.slice cx cs.length cap2) cs) sR)).mono ?_;clear hct;rintro e w6 ⟨rfl,hT⟩;replace hA:=hA.call1 (A:=rowC (.slice cx cs.length cap2) cs) sR hT;clear hF hT;obtain⟨hA,hF⟩:=fZ hA
    go_wp2_with (first|((with_reducible refine gal ?_);refine g3 hA ?_;clear hF hA;intro bX w1 hA hbX hF)|((with_reducible refine gst ?_);refine wTz hA ?_;clear hF hA;intro w1 hA hF))
    refine(ZhD (hA.sep1 (A:=rowC (.slice cx cs.length cap2) cs) sR) first (.slice ax L.length cap) ⟨_,_,_,rfl⟩ p (cc + 1) hmaxc).mono ?_;rintro e w7 ⟨vC',rfl,hT⟩;have hB:=hA.call1 (A:=rowC (.slice cx cs.length cap2) cs) sR hT;obtain⟨dx,dn,dcap,hdv,hdn⟩:=hB.row_hid (v:=vC') (n:=(putC cs p (cc + 1)).length) (xs:=flatC (putC cs p (cc + 1))) .here;subst hdv;clear hF hA hT;have hA:=Za7 hB;clear hB;simp only[uA] at hA;obtain⟨hA,hF⟩:=fZ hA;have hr0:=hA.row_reads (v:=.slice ax L.length cap) (n:=L.length) (xs:=flatE L) sR
    go_wp2_with (first
     |((with_reducible refine gst ?_);refine wTz hA ?_;clear hF hA;intro w1 hA hF)|((with_reducible refine gbx ?_);refine wCz hA ?_;clear hF hA;intro b1 w1 hA hb1 hF)
     |((with_reducible show wpList _ _ _ ({dst:=_,op:=Op.buildSlice _ _ _,type:=_,pos:=_,after:=_,guard:=_}::_) _ _);refine Zap (e:=82) (vs:=Ent.cells ⟨p,n,f,mode,cc + 1,ms + 1⟩) rfl rfl (by(try simp only[Act.eval,eV])<;>exact rfl) (fun _=>one_E ⟨p,n,f,mode,cc + 1,ms + 1⟩ _) hA ?_;intro b2 w1 hB hb2;replace hA:=hB;clear hF hB;obtain⟨hA,hF⟩:=fZ hA)
     |((with_reducible show wpList _ _ _ ({dst:=_,op:=Op.call {callee:=Callee.builtin Builtin.append,args:=_,argTypes:=_},type:=_,pos:=_,after:=_,guard:=_}::_) _ _);refine Zac (e:=82) (size:=6) (v:=.slice ax3 n3 cap3) (xs:=flatE L) (n:=L.length) (m:=1) (news:=Ent.cells ⟨p,n,f,mode,cc + 1,ms + 1⟩) rfl _ _ 35 rfl Tryz.underlying35 hi0 hz0 hz1 hz2 rfl (by omega) hA sR (by(try simp only[Act.eval,eV])<;>exact rfl) (by(try simp only[Act.eval,eV])<;>exact rfl) rfl (hA.cells_reads sR _ _) (Ent.one _) (by unfold maxLen;omega) (by omega) ?_;intro v2 w1 hB;rw[Zbh] at hB;obtain⟨ax4,n4,cap4,hv4,hn4⟩:=hB.row_hid .here;subst hv4;replace hA:=hB;clear hF hB;obtain⟨hA,hF⟩:=fZ hA)
     |((with_reducible show wpList _ _ _ ({dst:=_,op:=Op.call {callee:=Callee.builtin Builtin.append,args:=_,argTypes:=_},type:=_,pos:=_,after:=_,guard:=_}::_) _ _);refine Zac (e:=82) (size:=6) (v:=.slice none 0 0) (xs:=flatE []) (n:=([]:List Ent).length) (m:=L.length) (news:=flatE L) rfl _ _ 35 rfl Tryz.underlying35 hi0 hz0 hz1 hz2 rfl (by omega) hA sR (by(try simp only[Act.eval,eV])<;>exact rfl) (by(try simp only[Act.eval,eV])<;>exact rfl) (ZkE _) (hA.row_reads (v:=.slice ax L.length cap) (n:=L.length) (xs:=flatE L) sR) (ZkD _) (by unfold maxLen;simp;omega) (by simp;omega) ?_;intro v1 w1 hB;rw[ZjN] at hB;obtain⟨ax3,n3,cap3,hv3,hn3⟩:=hB.row_hid .here;subst hv3;replace hA:=hB;clear hF hB;obtain⟨hA,hF⟩:=fZ hA))
    (try go_frame);(refine Zb7 (a1:= ?a1_q1) (v:= ?v_q1) 2 38 _ _ (b:=bZ) (j:=0) (us:=[.int .u64 first,.slice ax4 n4 cap4,.slice dx dn dcap]) (by kernel_rfl) (by kernel_rfl) rfl hA sR ?h1_q1 ?hx_q1 ?hy_q1 ?hu_q1 ?hsz_q1 ?hus_q1 ?hl_q1 ?h2_q1);(case h1_q1=>(intro R wR hR;(try clear hF);(simp only[List.take_succ_cons,List.take_zero,List.drop_succ_cons,List.drop_zero]);(have hn1:=Cl.none hR);(have hn2:=Cl.none2 hR);(repeat(first|go_big_quiet_skip|(go_big_quiet_want;(first|(refine qM 38 3 ?_;go_frame;go_big_quiet_on)|(refine qM 82 6 ?_;go_frame;go_big_quiet_on)|(refine qL ?_;go_frame;go_big_quiet_on)|(go_big_quiet_op;(first|go_big_quiet_on))))));(refine wpQuiet_nil ?_);exact rfl));(case hx_q1=>(first|exact rfl|((try simp only[Act.eval,Array.getD_eq_getD_getElem?,List.getElem?_toArray,List.getElem?_cons_succ,List.getElem?_cons_zero,Option.getD_some]);exact rfl)));(case hy_q1=>(first|exact rfl|((try simp only[Act.eval,Array.getD_eq_getD_getElem?,List.getElem?_toArray,List.getElem?_cons_succ,List.getElem?_cons_zero,Option.getD_some]);exact rfl)));(case hu_q1=>exact rfl);(case hsz_q1=>kernel_rfl);(case hus_q1=>rfl);(case hl_q1=>(first|decide|(simp;done)|(simp;omega)));(intro w1 hB;replace hA:=hB;clear hF hB;(simp only[List.drop_succ_cons,List.drop_zero]);obtain⟨hA,hF⟩:=fZ hA;(try go_frame))
    go_wp2_with ((with_reducible refine gst ?_);refine wTz hA ?_;clear hF hA;intro w1 hA hF)
    refine bodyPost_ret (v:=.tuple #[.agg #[.int .u64 first,.slice ax4 n4 cap4,.slice dx dn dcap],.agg #[.string p,.int .u64 n,.string f,.int .i64 mode,.int .u64 (cc + 1),.int .i64 (ms + 1)],.int .i64 0]) (by simp[results,Tryz.results103,go_sem,hF]) rfl ?_;refine .inr ⟨hc5.out,?_⟩;unfold S3.addE S3.add S3.added S3.newE;rw[hc5.out,if_pos rfl,if_pos rfl];simp only[hcc'.out,hmm'.out];exact⟨_,_,rfl,hA.pick pR⟩
end Lock
end
section
namespace Sess
open Go.RowKit
open Go.Sort Go.Shelf
open Go.Lib (compareBytes compareInt)
open _root_.Go.Proofs.YtknoefbcmomalaaGreatDoor.Mark (orI or2 ZeC Zcq)
theorem cb_three:∀(a b:List UInt8),compareBytes a b= -1∨compareBytes a b=0∨compareBytes a b=1
 |[],[]=>by simp[compareBytes]
 |[],_::_=>by simp[compareBytes]
 |_::_,[]=>by simp[compareBytes]
 |a::x,b::y=>by
  have:=cb_three x y;unfold compareBytes
  split
  · simp
  split
  · simp
  exact this
theorem ZhI:∀(a b:List UInt8),compareBytes b a= - compareBytes a b
 |[],[]=>by simp[compareBytes]
 |[],_::_=>by simp[compareBytes]
 |_::_,[]=>by simp[compareBytes]
 |a::x,b::y=>by
  have:=ZhI x y;simp only[compareBytes]
  rcases Nat.lt_trichotomy a.toNat b.toNat with h|h|h
  · have h1:a < b:=UInt8.lt_iff_toNat_lt.2 h;have h2:¬b < a:=fun q=>by have:=UInt8.lt_iff_toNat_lt.1 q;omega
    simp[h1,h2]
  · have e:a=b:=UInt8.toNat_inj.1 h;subst e;have h1:¬a < a:=fun q=>by have:=UInt8.lt_iff_toNat_lt.1 q;omega
    simp[h1,this]
  have h1:b < a:=UInt8.lt_iff_toNat_lt.2 h;have h2:¬a < b:=fun q=>by have:=UInt8.lt_iff_toNat_lt.1 q;omega
  simp[h1,h2]
theorem Zk5:∀(a b:List UInt8),compareBytes a b=0→a=b
 |[],[],_=>rfl
 |[],_::_,h=>by simp[compareBytes] at h
 |_::_,[],h=>by simp[compareBytes] at h
 |a::x,b::y,h=>by
  simp only[compareBytes] at h;rcases Nat.lt_trichotomy a.toNat b.toNat with q|q|q
  · have h1:a < b:=UInt8.lt_iff_toNat_lt.2 q;simp[h1] at h
  · have e:a=b:=UInt8.toNat_inj.1 q;subst e;have h1:¬a < a:=fun q=>by have:=UInt8.lt_iff_toNat_lt.1 q;omega
    simp[h1] at h;rw[Zk5 x y h]
  have h1:b < a:=UInt8.lt_iff_toNat_lt.2 q;have h2:¬a < b:=fun q=>by have:=UInt8.lt_iff_toNat_lt.1 q;omega
  simp[h1,h2] at h
theorem cb_trans:∀(a b c:List UInt8),compareBytes a b < 0→compareBytes b c < 0→compareBytes a c < 0
 |[],_,[],h1,h2=>by
  rename_i b;have:=ZhI [] b
  omega
 |[],_,_::_,_,_=>by simp[compareBytes]
 |_::_,[],_,h1,_=>by simp[compareBytes] at h1
 |_::_,_::_,[],_,h2=>by simp[compareBytes] at h2
 |a::x,b::y,c::z,h1,h2=>by
  have ih:=cb_trans x y z;simp only[compareBytes] at *
  simp only[UInt8.lt_iff_toNat_lt] at *
  split at h1
  · split at h2
    · rw[if_pos (by omega)];omega
    split at h2
    · simp at h2
    rw[if_pos (by omega)];omega
  split at h1
  · simp at h1
  split at h2
  · rw[if_pos (by omega)];omega
  split at h2
  · simp at h2
  rw[if_neg (by omega),if_neg (by omega)];exact ih h1 h2
theorem Zd8 (x:Int) (w:World):Calls Tryz.prog 187 #[.int .u64 x] w fun e w'=>e=.returned (.bool false)∧w'=w:=by
 go_enter Tryz.func187,Tryz.ntmps187;go_wp2
 go_ret;exact⟨by simp,rfl⟩
theorem Zej (x y:Int) (w:World):Calls Tryz.prog 165 #[.int .u64 x,.int .u64 y] w fun e w'=>e=.returned (.int .i64 (compareInt x y))∧w'=w:=by
 unfold compareInt;by_cases h1:x < y
 · go_enter Tryz.func165,Tryz.ntmps165
   go_wp2_with (go_at_call 187;refine(Zd8 _ _).mono ?_;rintro e w' ⟨rfl,rfl⟩)
   refine bodyPost_ret (results_tmp rfl _ _ _) rfl ?_;exact⟨by simp[h1],rfl⟩
 by_cases h2:y < x
 · go_enter Tryz.func165,Tryz.ntmps165
   go_wp2_with (go_at_call 187;refine(Zd8 _ _).mono ?_;rintro e w' ⟨rfl,rfl⟩)
   refine bodyPost_ret (results_tmp rfl _ _ _) rfl ?_;exact⟨by simp[h1,h2],rfl⟩
 go_enter Tryz.func165,Tryz.ntmps165
 go_wp2_with (go_at_call 187;refine(Zd8 _ _).mono ?_;rintro e w' ⟨rfl,rfl⟩)
 go_ret;exact⟨by simp[h1,h2],rfl⟩
def cbS (a b:ByteArray):Int:=compareBytes a.data.toList b.data.toList
def cmpS (x y:Int × ByteArray):Int:=orI (compareInt x.1 y.1) (cbS x.2 y.2)
theorem Zeu (x y:Int × ByteArray) (W:World):Calls Tryz.prog 146 #[.agg #[.int .u64 x.1,.string x.2],.agg #[.int .u64 y.1,.string y.2]] W fun e w'=>e=.returned (.int .i64 (cmpS x y))∧∃q os',w'=grow (W.drewN q) os':=by
 unfold cmpS cbS;go_enter Tryz.func146,Tryz.ntmps146;go_wp2_with fail;(refine Zar 10 (fun w'=>∃n,w'=World.drewN _ n) (by kernel_rfl) (by kernel_rfl) ⟨1,rfl⟩ ?_);(simp only[List.take_succ_cons,List.take_zero,List.drop_succ_cons,List.drop_zero]);(repeat(first|go_big_quiet_step (first|exact(Zej _ _ _).mono fun _ _ ⟨he,hw⟩=>⟨he,_,hw⟩|exact(Tryz.strings_Compare _ _ _).mono fun _ _ ⟨he,hw⟩=>⟨he,_,hw⟩)|quiet_step (first|exact(Zej _ _ _).mono fun _ _ ⟨he,hw⟩=>⟨he,_,hw⟩|exact(Tryz.strings_Compare _ _ _).mono fun _ _ ⟨he,hw⟩=>⟨he,_,hw⟩)));(refine wpQuiet_nil ?_);(rintro _ ⟨nq,rfl⟩)
 go_wp2_with fail;refine(or2 (compareInt x.1 y.1) (compareBytes x.2.data.toList y.2.data.toList) _ _ ?h0 ?h1).mono ?_;case h0=>exact Zcq _ _ (by simp) _ _ _ _ rfl
 case h1=>exact Zcq _ _ (by simp) _ _ _ _ rfl
 rintro e _ ⟨rfl,rfl⟩;go_wp2_with fail;go_ret;exact⟨rfl,nq,_,ZeC _ _ _ _ _⟩
def ltS (x y:Int × ByteArray):Prop:=x.1 < y.1∨(x.1=y.1∧cbS x.2 y.2 < 0)
instance (x y:Int × ByteArray):Decidable (ltS x y):=by unfold ltS;infer_instance
theorem ZcJ (x y:Int × ByteArray):ltOf cmpS x y=decide (ltS x y):=by
 unfold ltOf cmpS orI compareInt ltS;by_cases h1:x.1 < y.1
 · simp[h1]
 by_cases h2:y.1 < x.1
 · have:x.1≠y.1:=by omega
   simp[h1,h2,this]
 have:x.1=y.1:=by omega
 simp[this]
theorem Zix (a b:ByteArray):cbS b a= - cbS a b:=ZhI _ _
theorem Zk6 {a b c:ByteArray} (h1:cbS a b < 0) (h2:cbS b c < 0):cbS a c < 0:=cb_trans _ _ _ h1 h2
theorem ZmS {a b:ByteArray} (h:cbS a b=0):a=b:=by
 have:=Zk5 _ _ h;obtain⟨⟨x⟩⟩:=a;obtain⟨⟨y⟩⟩:=b
 simp at this
 rw[this]
theorem Zcf {x y z:Int × ByteArray} (h1:ltS x y) (h2:ltS y z):ltS x z:=by
 unfold ltS at *
 rcases h1 with h1|⟨h1,h1'⟩
 · rcases h2 with h2|⟨h2,_⟩<;>left<;>omega
 rcases h2 with h2|⟨h2,h2'⟩
 · left;omega
 exact .inr ⟨by omega,Zk6 h1' h2'⟩
theorem Zdh (x:Int × ByteArray):¬ltS x x:=by
 unfold ltS;have:=Zix x.2 x.2;omega
theorem ZfE (x y:Int × ByteArray):ltS x y∨x=y∨ltS y x:=by
 unfold ltS;have h:=Zix x.2 y.2;by_cases h0:cbS x.2 y.2=0
 · have e:=ZmS h0;rcases Int.lt_trichotomy x.1 y.1 with q|q|q
   · exact .inl (.inl q)
   · exact .inr (.inl (Prod.ext q e))
   exact .inr (.inr (.inl q))
 rcases Int.lt_trichotomy x.1 y.1 with q|q|q
 · exact .inl (.inl q)
 · by_cases hl:cbS x.2 y.2 < 0
   · exact .inl (.inr ⟨q,hl⟩)
   exact .inr (.inr (.inr ⟨q.symm,by omega⟩))
 exact .inr (.inr (.inl q))
theorem swoS:SWO (ltOf cmpS) where
 irrefl x:=by rw[ZcJ];exact decide_eq_false (Zdh x)
 trans x y z h1 h2:=by rw[ZcJ] at *;exact decide_eq_true (Zcf (of_decide_eq_true h1) (of_decide_eq_true h2))
 ntrans x y z h1 h2:=by
  rw[ZcJ] at *
  refine decide_eq_false fun h=> ?_;have n1:=of_decide_eq_false h1;have n2:=of_decide_eq_false h2;rcases ZfE x y with q|q|q
  · exact n1 q
  · subst q;exact n2 h
  exact n2 (Zcf q h)
theorem totS (x y:Int × ByteArray) (h1:ltOf cmpS x y=false) (h2:ltOf cmpS y x=false):x=y:=by
 rw[ZcJ] at *
 rcases ZfE x y with q|q|q
 · exact absurd q (of_decide_eq_false h1)
 · exact q
 exact absurd q (of_decide_eq_false h2)
def sortS (l:List (Int × ByteArray)):List (Int × ByteArray):=l.mergeSort fun x y=> !ltOf cmpS y x
theorem Zol (blk off size:Nat) (w:World):CmpLays Tryz.prog 146 #[] seL 2 cmpS blk off size w:=fun _ _ _ _ x y=>Zeu x y _
end Sess
end
end Go.Proofs.YtknoefbcmomalaaGreatDoor
