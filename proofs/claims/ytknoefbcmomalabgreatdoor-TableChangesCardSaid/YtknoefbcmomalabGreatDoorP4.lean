import Derived.Test.YtknoefbcmomalabGreatDoorP3
set_option linter.unusedSimpArgs false
set_option linter.unusedVariables false
set_option maxRecDepth 100000
set_option maxHeartbeats 16000000
namespace Go.Proofs.YtknoefbcmomalabGreatDoor
section
namespace Lease
open Go.RowKit
def Za7 (s x:SR):Bool:=decide (x.num < s.num) || (decide (x.num=s.num)&&Op.bytesLess x.foot.toList s.foot.toList)
def ZbH (s:SR) (r:List SR):List SR:=if(r.head?.map (SR.is s.num s.foot)).getD false then r.tail else r
def putR (L:List SR) (s:SR):List SR:=L.takeWhile (Za7 s)++s::ZbH s (L.dropWhile (Za7 s))
theorem Zga {L:List SR} {s:SR} {i j:Nat} (hi:i≤L.length) (h1:∀x ∈ L.take i,Za7 s x=true) (h2:∀h:i < L.length,Za7 s L[i]=false) (hj:ZbH s (L.drop i)=L.drop j):putR L s=L.take i++s::L.drop j:=by
 obtain⟨e1,e2⟩:=ZfO hi h1 h2;unfold putR;rw[e1,e2,hj]
theorem Zh0 {L:List SR} {s:SR} {i:Nat} (h:i < L.length) (hs:SR.is s.num s.foot L[i]=true):ZbH s (L.drop i)=L.drop (i + 1):=by
 unfold ZbH;rw[List.head?_drop,List.getElem?_eq_getElem h,Option.map_some,Option.getD_some,hs,if_pos rfl,List.tail_drop]
theorem Zdq {L:List SR} {s:SR} {i:Nat} (hs:∀h:i < L.length,SR.is s.num s.foot L[i]=false):ZbH s (L.drop i)=L.drop i:=by
 unfold ZbH;rw[List.head?_drop];by_cases h:i < L.length
 · rw[List.getElem?_eq_getElem h,Option.map_some,Option.getD_some,hs h,if_neg (by simp)]
 rw[List.getElem?_eq_none (by omega)];rfl
abbrev zeroB (b:Nat):Part:=.cells b [.slice none 0 0] 30
theorem infoSR:(Tryz.prog.info? 84).map (fun i=>(i.zero,i.size,i.bytes))=some (some (.agg #[.int .u64 0,.string .empty,.bool false,.bool false,.int .i64 0,.int .i64 0,.slice none 0 0]),7,72):=by kernel_rfl
theorem ZbP (v:Value) (l1 l2:List SR):Part.row 84 7 v (l1.length + l2.length) (flatR l1++flatR l2)=rowR v (l1++l2):=by simp[flatR,rowR]
theorem Zc8 (v:Value) (l:List SR) (x:SR):Part.row 84 7 v (l.length + 1) (flatR l++SR.cells x)=rowR v (l++[x]):=by simp[flatR,rowR]
theorem Zc6 {L0 L:List Part} {w0 w:World} (h:At L0 w0 L w):At L0 w0 (rowR (.slice none 0 0) []::L) w:=h.row_nil 84 7
def ZpF (w:World) (v:Value) (L:List SR) (s:SR) (b2 b3 b4:Nat) (k:Nat) (u:Value) (wr:World):Prop:=
 ∃i:Nat,u=.int .i64 i∧i + k=L.length∧At [rowR v L] w [zeroB b4,Part.cells b3 s.cells 84,Part.cells b2 [v] 30,rowR v L] wr∧∀x ∈ L.take i,Za7 s x=true
def Zdl (w:World) (v:Value) (L:List SR) (s:SR) (e:Ending) (w':World):Prop:=∃v',e=.returned (.agg #[v'])∧At [rowR v L] w [rowR v' (putR L s)] w'
theorem ZcA {w:World} {v:Value} {L:List SR} (h:Sep [rowR v L] w) (s:SR) (hmax:L.length≤1000000):
 Calls Tryz.prog 61 #[.agg #[v],.agg s.cells.toArray] w (Zdl w v L s):=by
 obtain⟨i0,hi0,hz0,hz1,hz2⟩:=info_parts infoSR;have hA:=At.start h;have hF:=hA.facts;clear h;obtain⟨ax,cap,rfl,hax,hcap,_⟩:=hA.row_form (v:=v) (xs:=flatR L) sR;unfold SR.cells;go_enter Tryz.func61,Tryz.ntmps61
 go_wp2_with (first
  |(refine Za0 (E:=30) rfl rfl (by(try simp only[Act.eval,eV])<;>exact rfl) (by exact rfl) hA ?_;intro bB w1 hB hbB;replace hA:=hB;clear hF hB;obtain⟨hA,hF⟩:=fY hA)
  |(refine Za0 (E:=84) rfl rfl (by(try simp only[Act.eval,eV])<;>exact rfl) (by exact rfl) hA ?_;intro bS w1 hB hbS;replace hA:=hB;clear hF hB;obtain⟨hA,hF⟩:=fY hA)
  |((with_reducible refine gst ?_);refine wTy hA ?_;clear hF hA;intro w1 hA hF)|((with_reducible refine gbx ?_);refine wCy hA ?_;clear hF hA;intro b1 w1 hA hb1 hF)|((with_reducible refine gal ?_);refine g7 hA ?_;clear hF hA;intro b1 w1 hA hb1 hF))
 (try go_frame);go_loopg [5] L.length (ZpF w (.slice ax L.length cap) L s bB bS b1)
 case atStart=>exact⟨0,rfl,by simp,hA,by simp⟩
 case round=>
  obtain⟨i,rfl,hik,hB,hah⟩:=hrel;have hah':=Hd hah;clear hF hA hah;have hA:=hB;clear hB;simp only[SR.cells] at hA;by_cases hst:∃h:i < L.length,Za7 s L[i]=true
  · obtain⟨hi,hai⟩:=hst;obtain⟨g,c,rfl,_,hcm,hcl,hct,hB⟩:=hA.row_open (ax:=ax) (cap:=cap) (n:=L.length) (xs:=flatR L) sR (by omega);have hx:L[i]? =some L[i]:=List.getElem?_eq_getElem hi;have c0:c[i * 7]? =some (.int .u64 L[i].num):=Zae SR.cells_len hct hx 0 (by omega);have c1:c[i * 7 + 1]? =some (.string L[i].foot):=Zae SR.cells_len hct hx 1 (by omega);clear hA;have hA:=hB;clear hB;obtain⟨hA,hF⟩:=fY hA
    have hn:=Hd (show ∀x ∈ L.take (i + 1),Za7 s x=true from fun x hx=>by
     rw[List.take_succ_eq_append_getElem hi] at hx;rcases List.mem_append.1 hx with hx|hx
     · exact hah'.out x hx
     rw[List.mem_singleton.1 hx];exact hai)
    by_cases h1:L[i].num < s.num
    · clear hai;go_wp2_with fail;refine cl1 hA ?_;clear hF hA;intro w1 hA hF;(try simp only[uY] at hA hF);go_wp2_with fail;go_roundg (gk - 1);case measure=>omega
      case rel=>exact⟨i + 1,by simp,by omega,(ZbO hA sR hcl hcap hcm hct).only4 sR sZ sR sR,hn.out⟩
    have h2:L[i].num=s.num:=by simp[Za7,h1] at hai;exact hai.1
    have h3:Op.bytesLess L[i].foot.toList s.foot.toList=true:=by simp[Za7,h1] at hai;exact hai.2
    clear hai;rw[h2] at c0;go_wp2_with fail;refine cl1 hA ?_;clear hF hA;intro w1 hA hF;(try simp only[uY] at hA hF);go_wp2_with fail;go_roundg (gk - 1);case measure=>omega
    case rel=>exact⟨i + 1,by simp,by omega,(ZbO hA sR hcl hcap hcm hct).only4 sR sZ sR sR,hn.out⟩
  have hnot:∀h:i < L.length,Za7 s L[i]=false:=fun h=>by
   cases e:Za7 s L[i]
   · rfl
   exact absurd ⟨h,e⟩ hst
  clear hst;by_cases hi:i < L.length
  · have hx:L[i]? =some L[i]:=List.getElem?_eq_getElem hi;have hni:=hnot hi;have hnot:=Hd hnot;obtain⟨g,c,rfl,_,hcm,hcl,hct,hB⟩:=hA.row_open (ax:=ax) (cap:=cap) (n:=L.length) (xs:=flatR L) sR (by omega);have c0:c[i * 7]? =some (.int .u64 L[i].num):=Zae SR.cells_len hct hx 0 (by omega);have c1:c[i * 7 + 1]? =some (.string L[i].foot):=Zae SR.cells_len hct hx 1 (by omega);clear hA;have hA:=hB;clear hB;obtain⟨hA,hF⟩:=fY hA;by_cases h1:L[i].num=s.num
    · have h3:Op.bytesLess L[i].foot.toList s.foot.toList=false:=by simp[Za7,h1] at hni;exact hni
      clear hni;cases h4:(L[i].foot.toList==s.foot.toList)
      · have hj:=Hd (Zdq (L:=L) (s:=s) (i:=i) (fun h=>by simp only[SR.is,h4,Bool.and_false]));rw[h1] at c0;go_wp2_with fail;refine cl1 hA ?_;clear hF hA;intro w1 hA hF;(try simp only[uY] at hA hF);have hB:=ZbO hA sR hcl hcap hcm hct;clear hF hA;have hA:=hB;clear hB c0 c1;clear hct hcl hcm;generalize hax':some (⟨g,0,none⟩:Addr)=ax at *
        clear hax';obtain⟨hA,hF⟩:=fY hA;have hl1:(L.take i).length=i:=by rw[List.length_take];omega
        have hA:=Zc6 hA;obtain⟨hA,hF⟩:=fY hA
        go_wp2_with (first|(refine ZaW (e:=84) (size:=7) (n:=(L).length) (xs:=flatR (L)) (v:=.slice ax (L).length cap) (k:=i) rfl rfl Tryz.underlying28 hi0 hz1 (by(try simp only[Act.eval,eV])<;>exact rfl) (by(try simp only[Act.eval,eV])<;>exact rfl) (hA.get (A:=Part.row 84 7 (.slice ax (L).length cap) (L).length (flatR (L))) sR) (by omega) ?_;intro xv hxv0;have hxv:Reads _ xv ((L).take (i)).length (flatR ((L).take (i))):=(by rw[hl1];unfold flatR at hxv0 ⊢;rw[Zbj SR.cells_len] at hxv0;exact hxv0);clear hxv0)|(refine Zad (e:=84) (size:=7) (v:=.slice none 0 0) (xs:=flatR []) (n:=([]:List SR).length) (m:=((L).take (i)).length) (news:=flatR ((L).take (i))) rfl _ _ 28 rfl Tryz.underlying28 hi0 hz0 hz1 hz2 rfl (by omega) hA sR (by(try simp only[Act.eval,eV])<;>exact rfl) (by(try simp only[Act.eval,eV])<;>exact rfl) (Zay _ _ SR.cells_len _) hxv (ZaI SR.one _) (by unfold maxLen;simp;omega) (by simp;omega) ?_;intro v1 w1 hB;rw[ZbP] at hB;simp only[List.nil_append] at hB;replace hA:=hB;clear hF hB;obtain⟨hA,hF⟩:=fY hA)|(refine Zao (e:=84) (vs:=SR.cells s) rfl rfl (by(try simp only[Act.eval,eV])<;>exact rfl) (fun _=>by kernel_rfl) hA ?_;intro b2 w1 hB hb2;replace hA:=hB;clear hF hB;obtain⟨hA,hF⟩:=fY hA)|(refine Zad (e:=84) (size:=7) (v:=v1) (xs:=flatR ((L).take (i))) (n:=((L).take (i)).length) (m:=1) (news:=SR.cells s) rfl _ _ 28 rfl Tryz.underlying28 hi0 hz0 hz1 hz2 rfl (by omega) hA sR (by(try simp only[Act.eval,eV])<;>exact rfl) (by(try simp only[Act.eval,eV])<;>exact rfl) (rfl) (hA.cells_reads sR _ _) (SR.one _) (by unfold maxLen;simp;omega) (by simp;omega) ?_;intro v2 w1 hB;rw[Zc8] at hB;replace hA:=hB;clear hF hB;obtain⟨hA,hF⟩:=fY hA))
        obtain⟨g,c,rfl,_,hcm,hcl,hct,hB⟩:=hA.row_open (ax:=ax) (cap:=cap) (n:=L.length) (xs:=flatR L) sR (by omega);have c0:c[i * 7]? =some (.int .u64 L[i].num):=Zae SR.cells_len hct hx 0 (by omega);have c1:c[i * 7 + 1]? =some (.string L[i].foot):=Zae SR.cells_len hct hx 1 (by omega);replace hA:=hB;clear hF hB;rw[h1] at c0;obtain⟨hA,hF⟩:=fY hA;refine cl1 hA ?_;clear hF hA;intro w1 hA hF;(try simp only[uY] at hA hF);have hB:=ZbO hA sR hcl hcap hcm hct;clear hF hA;have hA:=hB;clear hB c0 c1;clear hct hcl hcm;generalize hax':some (⟨g,0,none⟩:Addr)=ax at *
        clear hax';obtain⟨hA,hF⟩:=fY hA;have hput:=Hd (Zga (j:=i) (by omega) hah'.out hnot.out hj.out);have hl2:(L.drop (i)).length=L.length - (i):=List.length_drop
        go_wp2_with (first|((with_reducible refine gst ?_);refine wTy hA ?_;clear hF hA;intro w1 hA hF)|(refine ZaO (e:=84) (size:=7) (n:=(L).length) (xs:=flatR (L)) (v:=.slice ax (L).length cap) (k:=i) rfl rfl Tryz.underlying28 hi0 hz1 (by(try simp only[Act.eval,eV])<;>exact rfl) (by(try simp only[Act.eval,eV])<;>exact rfl) (hA.get (A:=Part.row 84 7 (.slice ax (L).length cap) (L).length (flatR (L))) sR) (by omega) ?_;intro yv hxv0;have hyv:Reads _ yv ((L).drop (i)).length (flatR ((L).drop (i))):=(by rw[hl2];unfold flatR at hxv0 ⊢;rw[ZbL SR.cells_len] at hxv0;exact hxv0);clear hxv0)|(refine Zad (e:=84) (size:=7) (v:=v2) (xs:=flatR ((L).take (i)++[s])) (n:=((L).take (i)++[s]).length) (m:=((L).drop (i)).length) (news:=flatR ((L).drop (i))) rfl _ _ 28 rfl Tryz.underlying28 hi0 hz0 hz1 hz2 rfl (by omega) hA sR (by(try simp only[Act.eval,eV])<;>exact rfl) (by(try simp only[Act.eval,eV])<;>exact rfl) (Zay _ _ SR.cells_len _) hyv (ZaI SR.one _) (by unfold maxLen;simp;omega) (by simp;omega) ?_;intro v3 w1 hB;rw[ZbP] at hB;obtain⟨ax3,n3,cap3,hv3,hn3⟩:=hB.row_hid .here;subst hv3;replace hA:=hB;clear hF hB;obtain⟨hA,hF⟩:=fY hA))
        refine bodyPost_ret (v:=.agg #[.slice ax3 n3 cap3]) (by simp[results,Tryz.results61,go_sem,hF]) rfl (show Zdl _ _ _ _ _ _ from⟨_,rfl,?_⟩);rw[hput.out,show L.take i++s::L.drop (i)=(L.take i++[s])++L.drop (i) by simp];exact hA.only1 sR
      have hj:=Hd (Zh0 (L:=L) (s:=s) hi (by simp only[SR.is,h1,h4,Bool.and_true,beq_self_eq_true]));rw[h1] at c0;go_wp2_with fail;refine cl1 hA ?_;clear hF hA;intro w1 hA hF;(try simp only[uY] at hA hF);have hB:=ZbO hA sR hcl hcap hcm hct;clear hF hA;have hA:=hB;clear hB c0 c1;clear hct hcl hcm;generalize hax':some (⟨g,0,none⟩:Addr)=ax at *
      clear hax';obtain⟨hA,hF⟩:=fY hA;have hl1:(L.take i).length=i:=by rw[List.length_take];omega
      have hA:=Zc6 hA;obtain⟨hA,hF⟩:=fY hA
      go_wp2_with (first|(refine ZaW (e:=84) (size:=7) (n:=(L).length) (xs:=flatR (L)) (v:=.slice ax (L).length cap) (k:=i) rfl rfl Tryz.underlying28 hi0 hz1 (by(try simp only[Act.eval,eV])<;>exact rfl) (by(try simp only[Act.eval,eV])<;>exact rfl) (hA.get (A:=Part.row 84 7 (.slice ax (L).length cap) (L).length (flatR (L))) sR) (by omega) ?_;intro xv hxv0;have hxv:Reads _ xv ((L).take (i)).length (flatR ((L).take (i))):=(by rw[hl1];unfold flatR at hxv0 ⊢;rw[Zbj SR.cells_len] at hxv0;exact hxv0);clear hxv0)|(refine Zad (e:=84) (size:=7) (v:=.slice none 0 0) (xs:=flatR []) (n:=([]:List SR).length) (m:=((L).take (i)).length) (news:=flatR ((L).take (i))) rfl _ _ 28 rfl Tryz.underlying28 hi0 hz0 hz1 hz2 rfl (by omega) hA sR (by(try simp only[Act.eval,eV])<;>exact rfl) (by(try simp only[Act.eval,eV])<;>exact rfl) (Zay _ _ SR.cells_len _) hxv (ZaI SR.one _) (by unfold maxLen;simp;omega) (by simp;omega) ?_;intro v1 w1 hB;rw[ZbP] at hB;simp only[List.nil_append] at hB;replace hA:=hB;clear hF hB;obtain⟨hA,hF⟩:=fY hA)|(refine Zao (e:=84) (vs:=SR.cells s) rfl rfl (by(try simp only[Act.eval,eV])<;>exact rfl) (fun _=>by kernel_rfl) hA ?_;intro b2 w1 hB hb2;replace hA:=hB;clear hF hB;obtain⟨hA,hF⟩:=fY hA)|(refine Zad (e:=84) (size:=7) (v:=v1) (xs:=flatR ((L).take (i))) (n:=((L).take (i)).length) (m:=1) (news:=SR.cells s) rfl _ _ 28 rfl Tryz.underlying28 hi0 hz0 hz1 hz2 rfl (by omega) hA sR (by(try simp only[Act.eval,eV])<;>exact rfl) (by(try simp only[Act.eval,eV])<;>exact rfl) (rfl) (hA.cells_reads sR _ _) (SR.one _) (by unfold maxLen;simp;omega) (by simp;omega) ?_;intro v2 w1 hB;rw[Zc8] at hB;replace hA:=hB;clear hF hB;obtain⟨hA,hF⟩:=fY hA))
      obtain⟨g,c,rfl,_,hcm,hcl,hct,hB⟩:=hA.row_open (ax:=ax) (cap:=cap) (n:=L.length) (xs:=flatR L) sR (by omega);have c0:c[i * 7]? =some (.int .u64 L[i].num):=Zae SR.cells_len hct hx 0 (by omega);have c1:c[i * 7 + 1]? =some (.string L[i].foot):=Zae SR.cells_len hct hx 1 (by omega);replace hA:=hB;clear hF hB;rw[h1] at c0;obtain⟨hA,hF⟩:=fY hA;refine cl1 hA ?_;clear hF hA;intro w1 hA hF;(try simp only[uY] at hA hF);have hB:=ZbO hA sR hcl hcap hcm hct;clear hF hA;have hA:=hB;clear hB c0 c1;clear hct hcl hcm;generalize hax':some (⟨g,0,none⟩:Addr)=ax at *
      clear hax';obtain⟨hA,hF⟩:=fY hA;have hput:=Hd (Zga (j:=i + 1) (by omega) hah'.out hnot.out hj.out);have hl2:(L.drop (i + 1)).length=L.length - (i + 1):=List.length_drop
      go_wp2_with (first|((with_reducible refine gst ?_);refine wTy hA ?_;clear hF hA;intro w1 hA hF)|(refine ZaO (e:=84) (size:=7) (n:=(L).length) (xs:=flatR (L)) (v:=.slice ax (L).length cap) (k:=i + 1) rfl rfl Tryz.underlying28 hi0 hz1 (by(try simp only[Act.eval,eV])<;>exact rfl) (by(try simp only[Act.eval,eV])<;>exact rfl) (hA.get (A:=Part.row 84 7 (.slice ax (L).length cap) (L).length (flatR (L))) sR) (by omega) ?_;intro yv hxv0;have hyv:Reads _ yv ((L).drop (i + 1)).length (flatR ((L).drop (i + 1))):=(by rw[hl2];unfold flatR at hxv0 ⊢;rw[ZbL SR.cells_len] at hxv0;exact hxv0);clear hxv0)|(refine Zad (e:=84) (size:=7) (v:=v2) (xs:=flatR ((L).take (i)++[s])) (n:=((L).take (i)++[s]).length) (m:=((L).drop (i + 1)).length) (news:=flatR ((L).drop (i + 1))) rfl _ _ 28 rfl Tryz.underlying28 hi0 hz0 hz1 hz2 rfl (by omega) hA sR (by(try simp only[Act.eval,eV])<;>exact rfl) (by(try simp only[Act.eval,eV])<;>exact rfl) (Zay _ _ SR.cells_len _) hyv (ZaI SR.one _) (by unfold maxLen;simp;omega) (by simp;omega) ?_;intro v3 w1 hB;rw[ZbP] at hB;obtain⟨ax3,n3,cap3,hv3,hn3⟩:=hB.row_hid .here;subst hv3;replace hA:=hB;clear hF hB;obtain⟨hA,hF⟩:=fY hA))
      refine bodyPost_ret (v:=.agg #[.slice ax3 n3 cap3]) (by simp[results,Tryz.results61,go_sem,hF]) rfl (show Zdl _ _ _ _ _ _ from⟨_,rfl,?_⟩);rw[hput.out,show L.take i++s::L.drop (i + 1)=(L.take i++[s])++L.drop (i + 1) by simp];exact hA.only1 sR
    have h2:decide (L[i].num < s.num)=false:=by simp[Za7,h1] at hni;simpa using hni
    clear hni;have h1':decide (L[i].num=s.num)=false:=by simpa using h1
    have h1'':(L[i].num==s.num)=false:=by simpa using h1
    have hj:=Hd (Zdq (L:=L) (s:=s) (i:=i) (fun h=>by simp only[SR.is,Bool.and_eq_false_iff];exact .inl (by simpa using h1)));go_wp2_with fail;refine cl1 hA ?_;clear hF hA;intro w1 hA hF;(try simp only[uY] at hA hF);have hB:=ZbO hA sR hcl hcap hcm hct;clear hF hA;have hA:=hB;clear hB c0 c1;clear hct hcl hcm;generalize hax':some (⟨g,0,none⟩:Addr)=ax at *
    clear hax';obtain⟨hA,hF⟩:=fY hA;have hl1:(L.take i).length=i:=by rw[List.length_take];omega
    have hA:=Zc6 hA;obtain⟨hA,hF⟩:=fY hA
    go_wp2_with (first|(refine ZaW (e:=84) (size:=7) (n:=(L).length) (xs:=flatR (L)) (v:=.slice ax (L).length cap) (k:=i) rfl rfl Tryz.underlying28 hi0 hz1 (by(try simp only[Act.eval,eV])<;>exact rfl) (by(try simp only[Act.eval,eV])<;>exact rfl) (hA.get (A:=Part.row 84 7 (.slice ax (L).length cap) (L).length (flatR (L))) sR) (by omega) ?_;intro xv hxv0;have hxv:Reads _ xv ((L).take (i)).length (flatR ((L).take (i))):=(by rw[hl1];unfold flatR at hxv0 ⊢;rw[Zbj SR.cells_len] at hxv0;exact hxv0);clear hxv0)|(refine Zad (e:=84) (size:=7) (v:=.slice none 0 0) (xs:=flatR []) (n:=([]:List SR).length) (m:=((L).take (i)).length) (news:=flatR ((L).take (i))) rfl _ _ 28 rfl Tryz.underlying28 hi0 hz0 hz1 hz2 rfl (by omega) hA sR (by(try simp only[Act.eval,eV])<;>exact rfl) (by(try simp only[Act.eval,eV])<;>exact rfl) (Zay _ _ SR.cells_len _) hxv (ZaI SR.one _) (by unfold maxLen;simp;omega) (by simp;omega) ?_;intro v1 w1 hB;rw[ZbP] at hB;simp only[List.nil_append] at hB;replace hA:=hB;clear hF hB;obtain⟨hA,hF⟩:=fY hA)|(refine Zao (e:=84) (vs:=SR.cells s) rfl rfl (by(try simp only[Act.eval,eV])<;>exact rfl) (fun _=>by kernel_rfl) hA ?_;intro b2 w1 hB hb2;replace hA:=hB;clear hF hB;obtain⟨hA,hF⟩:=fY hA)|(refine Zad (e:=84) (size:=7) (v:=v1) (xs:=flatR ((L).take (i))) (n:=((L).take (i)).length) (m:=1) (news:=SR.cells s) rfl _ _ 28 rfl Tryz.underlying28 hi0 hz0 hz1 hz2 rfl (by omega) hA sR (by(try simp only[Act.eval,eV])<;>exact rfl) (by(try simp only[Act.eval,eV])<;>exact rfl) (rfl) (hA.cells_reads sR _ _) (SR.one _) (by unfold maxLen;simp;omega) (by simp;omega) ?_;intro v2 w1 hB;rw[Zc8] at hB;replace hA:=hB;clear hF hB;obtain⟨hA,hF⟩:=fY hA))
    obtain⟨g,c,rfl,_,hcm,hcl,hct,hB⟩:=hA.row_open (ax:=ax) (cap:=cap) (n:=L.length) (xs:=flatR L) sR (by omega);have c0:c[i * 7]? =some (.int .u64 L[i].num):=Zae SR.cells_len hct hx 0 (by omega);have c1:c[i * 7 + 1]? =some (.string L[i].foot):=Zae SR.cells_len hct hx 1 (by omega);replace hA:=hB;clear hF hB;obtain⟨hA,hF⟩:=fY hA;refine cl1 hA ?_;clear hF hA;intro w1 hA hF;(try simp only[uY] at hA hF);have hB:=ZbO hA sR hcl hcap hcm hct;clear hF hA;have hA:=hB;clear hB c0 c1;clear hct hcl hcm;generalize hax':some (⟨g,0,none⟩:Addr)=ax at *
    clear hax';obtain⟨hA,hF⟩:=fY hA;have hput:=Hd (Zga (j:=i) (by omega) hah'.out hnot.out hj.out);have hl2:(L.drop (i)).length=L.length - (i):=List.length_drop
    go_wp2_with (first|((with_reducible refine gst ?_);refine wTy hA ?_;clear hF hA;intro w1 hA hF)|(refine ZaO (e:=84) (size:=7) (n:=(L).length) (xs:=flatR (L)) (v:=.slice ax (L).length cap) (k:=i) rfl rfl Tryz.underlying28 hi0 hz1 (by(try simp only[Act.eval,eV])<;>exact rfl) (by(try simp only[Act.eval,eV])<;>exact rfl) (hA.get (A:=Part.row 84 7 (.slice ax (L).length cap) (L).length (flatR (L))) sR) (by omega) ?_;intro yv hxv0;have hyv:Reads _ yv ((L).drop (i)).length (flatR ((L).drop (i))):=(by rw[hl2];unfold flatR at hxv0 ⊢;rw[ZbL SR.cells_len] at hxv0;exact hxv0);clear hxv0)|(refine Zad (e:=84) (size:=7) (v:=v2) (xs:=flatR ((L).take (i)++[s])) (n:=((L).take (i)++[s]).length) (m:=((L).drop (i)).length) (news:=flatR ((L).drop (i))) rfl _ _ 28 rfl Tryz.underlying28 hi0 hz0 hz1 hz2 rfl (by omega) hA sR (by(try simp only[Act.eval,eV])<;>exact rfl) (by(try simp only[Act.eval,eV])<;>exact rfl) (Zay _ _ SR.cells_len _) hyv (ZaI SR.one _) (by unfold maxLen;simp;omega) (by simp;omega) ?_;intro v3 w1 hB;rw[ZbP] at hB;obtain⟨ax3,n3,cap3,hv3,hn3⟩:=hB.row_hid .here;subst hv3;replace hA:=hB;clear hF hB;obtain⟨hA,hF⟩:=fY hA))
    refine bodyPost_ret (v:=.agg #[.slice ax3 n3 cap3]) (by simp[results,Tryz.results61,go_sem,hF]) rfl (show Zdl _ _ _ _ _ _ from⟨_,rfl,?_⟩);rw[hput.out,show L.take i++s::L.drop (i)=(L.take i++[s])++L.drop (i) by simp];exact hA.only1 sR
  have hnot:=Hd hnot;have hj:=Hd (Zdq (L:=L) (s:=s) (i:=i) (fun h=>absurd h hi));obtain⟨hA,hF⟩:=fY hA;go_wp2_with fail;refine cl1 hA ?_;clear hF hA;intro w1 hA hF;(try simp only[uY] at hA hF);have hl1:(L.take i).length=i:=by rw[List.length_take];omega
  have hA:=Zc6 hA;obtain⟨hA,hF⟩:=fY hA
  go_wp2_with (first|(refine ZaW (e:=84) (size:=7) (n:=(L).length) (xs:=flatR (L)) (v:=.slice ax (L).length cap) (k:=i) rfl rfl Tryz.underlying28 hi0 hz1 (by(try simp only[Act.eval,eV])<;>exact rfl) (by(try simp only[Act.eval,eV])<;>exact rfl) (hA.get (A:=Part.row 84 7 (.slice ax (L).length cap) (L).length (flatR (L))) sR) (by omega) ?_;intro xv hxv0;have hxv:Reads _ xv ((L).take (i)).length (flatR ((L).take (i))):=(by rw[hl1];unfold flatR at hxv0 ⊢;rw[Zbj SR.cells_len] at hxv0;exact hxv0);clear hxv0)|(refine Zad (e:=84) (size:=7) (v:=.slice none 0 0) (xs:=flatR []) (n:=([]:List SR).length) (m:=((L).take (i)).length) (news:=flatR ((L).take (i))) rfl _ _ 28 rfl Tryz.underlying28 hi0 hz0 hz1 hz2 rfl (by omega) hA sR (by(try simp only[Act.eval,eV])<;>exact rfl) (by(try simp only[Act.eval,eV])<;>exact rfl) (Zay _ _ SR.cells_len _) hxv (ZaI SR.one _) (by unfold maxLen;simp;omega) (by simp;omega) ?_;intro v1 w1 hB;rw[ZbP] at hB;simp only[List.nil_append] at hB;replace hA:=hB;clear hF hB;obtain⟨hA,hF⟩:=fY hA)|(refine Zao (e:=84) (vs:=SR.cells s) rfl rfl (by(try simp only[Act.eval,eV])<;>exact rfl) (fun _=>by kernel_rfl) hA ?_;intro b2 w1 hB hb2;replace hA:=hB;clear hF hB;obtain⟨hA,hF⟩:=fY hA)|(refine Zad (e:=84) (size:=7) (v:=v1) (xs:=flatR ((L).take (i))) (n:=((L).take (i)).length) (m:=1) (news:=SR.cells s) rfl _ _ 28 rfl Tryz.underlying28 hi0 hz0 hz1 hz2 rfl (by omega) hA sR (by(try simp only[Act.eval,eV])<;>exact rfl) (by(try simp only[Act.eval,eV])<;>exact rfl) (rfl) (hA.cells_reads sR _ _) (SR.one _) (by unfold maxLen;simp;omega) (by simp;omega) ?_;intro v2 w1 hB;rw[Zc8] at hB;replace hA:=hB;clear hF hB;obtain⟨hA,hF⟩:=fY hA))
  refine cl1 hA ?_;clear hF hA;intro w1 hA hF;(try simp only[uY] at hA hF);have hput:=Hd (Zga (j:=i) (by omega) hah'.out hnot.out hj.out);have hl2:(L.drop (i)).length=L.length - (i):=List.length_drop
  go_wp2_with (first|((with_reducible refine gst ?_);refine wTy hA ?_;clear hF hA;intro w1 hA hF)|(refine ZaO (e:=84) (size:=7) (n:=(L).length) (xs:=flatR (L)) (v:=.slice ax (L).length cap) (k:=i) rfl rfl Tryz.underlying28 hi0 hz1 (by(try simp only[Act.eval,eV])<;>exact rfl) (by(try simp only[Act.eval,eV])<;>exact rfl) (hA.get (A:=Part.row 84 7 (.slice ax (L).length cap) (L).length (flatR (L))) sR) (by omega) ?_;intro yv hxv0;have hyv:Reads _ yv ((L).drop (i)).length (flatR ((L).drop (i))):=(by rw[hl2];unfold flatR at hxv0 ⊢;rw[ZbL SR.cells_len] at hxv0;exact hxv0);clear hxv0)|(refine Zad (e:=84) (size:=7) (v:=v2) (xs:=flatR ((L).take (i)++[s])) (n:=((L).take (i)++[s]).length) (m:=((L).drop (i)).length) (news:=flatR ((L).drop (i))) rfl _ _ 28 rfl Tryz.underlying28 hi0 hz0 hz1 hz2 rfl (by omega) hA sR (by(try simp only[Act.eval,eV])<;>exact rfl) (by(try simp only[Act.eval,eV])<;>exact rfl) (Zay _ _ SR.cells_len _) hyv (ZaI SR.one _) (by unfold maxLen;simp;omega) (by simp;omega) ?_;intro v3 w1 hB;rw[ZbP] at hB;obtain⟨ax3,n3,cap3,hv3,hn3⟩:=hB.row_hid .here;subst hv3;replace hA:=hB;clear hF hB;obtain⟨hA,hF⟩:=fY hA))
  refine bodyPost_ret (v:=.agg #[.slice ax3 n3 cap3]) (by simp[results,Tryz.results61,go_sem,hF]) rfl (show Zdl _ _ _ _ _ _ from⟨_,rfl,?_⟩);rw[hput.out,show L.take i++s::L.drop (i)=(L.take i++[s])++L.drop (i) by simp];exact hA.only1 sR
end Lease
end
section
namespace Lease
open Go.RowKit
def ZcQ (a x:AR):Bool:=decide (x.r < a.r)
def insA (l:List AR) (a:AR):List AR:=l.takeWhile (ZcQ a)++a::l.dropWhile (ZcQ a)
theorem Zlt {l:List AR} {a:AR} {i:Nat} (hi:i≤l.length) (h1:∀x ∈ l.take i,ZcQ a x=true) (h2:∀h:i < l.length,ZcQ a l[i]=false):insA l a=l.take i++a::l.drop i:=by
 obtain⟨e1,e2⟩:=ZfO hi h1 h2;unfold insA;rw[e1,e2]
theorem AR.one (s:AR):∀u ∈ s.cells,u.oneCell'=true:=List.all_eq_true.1 s.ones
theorem ZdX (v:Value) (l1 l2:List AR):Part.row 44 4 v (l1.length + l2.length) (flatA l1++flatA l2)=rowA v (l1++l2):=by simp[flatA,rowA]
theorem ZgX (v:Value) (l:List AR) (x:AR):Part.row 44 4 v (l.length + 1) (flatA l++AR.cells x)=rowA v (l++[x]):=by simp[flatA,rowA]
theorem Zf0 {L0 L:List Part} {w0 w:World} (h:At L0 w0 L w):At L0 w0 (rowA (.slice none 0 0) []::L) w:=h.row_nil 44 4
theorem infoAR:(Tryz.prog.info? 44).map (fun i=>(i.zero,i.size,i.bytes))=some (some (.agg #[.int .u64 0,.int .i64 0,.int .u64 0,.bool false]),4,32):=by kernel_rfl
theorem ZmD {w:World} {v:Value} {L:List SR} {s:SR} (h:Sep [rowR v L,rowA s.tv s.told] w) (a:AR) (hmax:s.told.length≤1000000) (hno:(saidA s.told a.r).isSome=true∨256≤s.told.length):
 Calls Tryz.prog 31 #[.agg #[v],.agg s.cells.toArray,.agg a.cells.toArray] w fun e w'=>e=.returned (.agg #[v])∧At [rowR v L,rowA s.tv s.told] w [rowR v L,rowA s.tv s.told] w':=by
 obtain⟨num,foot,op,dead,dl,ttl,ax,cap,told⟩:=s;simp only[SR.tv] at *
 have hA:=At.start h;have hF:=hA.facts;clear h;obtain⟨axv,nv,capv,hv,hnv⟩:=hA.row_hid (v:=v) (n:=L.length) (xs:=flatR L) sR;subst hv;cases hs:(saidA told a.r).isSome
 · have hl':(256:Int)≤(told.length:Int):=by rw[hs] at hno;simp at hno;omega
   simp only[SR.cells,AR.cells,SR.tv];go_enter Tryz.func31,Tryz.ntmps31
   go_wp2_with (first|((with_reducible refine gbx ?_);refine wCy (E:=30) hA ?_;clear hF hA;intro bB w1 hA hbB hF)|((with_reducible refine gbx ?_);refine wCy (E:=84) hA ?_;clear hF hA;intro bS w1 hA hbS hF)|((with_reducible refine gbx ?_);refine wCy (E:=44) hA ?_;clear hF hA;intro bA w1 hA hbA hF)|((with_reducible refine gal ?_);refine g7 hA ?_;clear hF hA;intro bZ w1 hA hbZ hF))
   refine(Zc5 (s:=⟨num,foot,op,dead,dl,ttl,ax,cap,told⟩) (hA.sep1 sZ) a.r (by simp only;omega)).mono ?_;simp only[hs,AR.cells,SR.tv];rintro e w1 ⟨rfl,hT⟩;replace hA:=hA.call1 sR hT;clear hF hT;obtain⟨hA,hF⟩:=fY hA
   go_wp2_with (first|((with_reducible refine gal ?_);refine g13 hA ?_;clear hF hA;intro bQ w1 hA hbQ hF)|((with_reducible refine gst ?_);refine wTy hA ?_;clear hF hA;intro w1 hA hF))
   refine bodyPost_ret (v:=.agg #[.slice axv nv capv]) (by simp[results,Tryz.results31,go_sem,hF]) rfl ⟨rfl,?_⟩;exact hA.pick pR
 clear hno;simp only[SR.cells,AR.cells,SR.tv];go_enter Tryz.func31,Tryz.ntmps31
 go_wp2_with (first|((with_reducible refine gbx ?_);refine wCy (E:=30) hA ?_;clear hF hA;intro bB w1 hA hbB hF)|((with_reducible refine gbx ?_);refine wCy (E:=84) hA ?_;clear hF hA;intro bS w1 hA hbS hF)|((with_reducible refine gbx ?_);refine wCy (E:=44) hA ?_;clear hF hA;intro bA w1 hA hbA hF)|((with_reducible refine gal ?_);refine g7 hA ?_;clear hF hA;intro bZ w1 hA hbZ hF))
 refine(Zc5 (s:=⟨num,foot,op,dead,dl,ttl,ax,cap,told⟩) (hA.sep1 sZ) a.r (by simp only;omega)).mono ?_;simp only[hs,AR.cells,SR.tv];rintro e w1 ⟨rfl,hT⟩;replace hA:=hA.call1 sR hT;clear hF hT;obtain⟨hA,hF⟩:=fY hA
 go_wp2_with (first|((with_reducible refine gal ?_);refine g13 hA ?_;clear hF hA;intro bQ w1 hA hbQ hF)|((with_reducible refine gst ?_);refine wTy hA ?_;clear hF hA;intro w1 hA hF))
 refine bodyPost_ret (v:=.agg #[.slice axv nv capv]) (by simp[results,Tryz.results31,go_sem,hF]) rfl ⟨rfl,?_⟩;exact hA.pick pR
def ZpG (w:World) (v:Value) (L:List SR) (s:SR) (a:AR) (b1 b2 b3 b4 b5:Nat) (c5:List Value) (k:Nat) (u:Value) (wr:World):Prop:=
 ∃i:Nat,u=.int .i64 i∧i + k=s.told.length∧At [rowR v L,rowA s.tv s.told] w [Part.cells b5 c5 44,zeroB b4,Part.cells b3 a.cells 44,Part.cells b2 s.cells 84,Part.cells b1 [v] 30,rowA s.tv s.told,rowR v L] wr∧∀x ∈ s.told.take i,ZcQ a x=true
def ZgB (w:World) (v:Value) (L:List SR) (s:SR) (a:AR) (e:Ending) (w':World):Prop:=
 ∃v' ax cap,e=.returned (.agg #[v'])∧At [rowR v L,rowA s.tv s.told] w [rowR v' (putR L {s with ax:=ax,cap:=cap,told:=insA s.told a}),rowA (SR.tv {s with ax:=ax,cap:=cap,told:=insA s.told a}) (insA s.told a),rowA s.tv s.told] w'
theorem Zkz {w:World} {v:Value} {L:List SR} {s:SR} (h:Sep [rowR v L,rowA s.tv s.told] w) (a:AR) (hmaxL:L.length≤1000000) (hno:saidA s.told a.r=none) (hl:s.told.length < 256):
 Calls Tryz.prog 31 #[.agg #[v],.agg s.cells.toArray,.agg a.cells.toArray] w (ZgB w v L s a):=by
 obtain⟨i0,hi0,hz0,hz1,hz2⟩:=info_parts infoAR;obtain⟨num,foot,op,dead,dl,ttl,ax,cap,told⟩:=s;simp only[SR.tv] at *
 have hA:=At.start h;have hF:=hA.facts;clear h;obtain⟨ax',cap',he0,hax,hcap,_⟩:=hA.row_form (v:=.slice ax told.length cap) (xs:=flatA told) sR;cases he0;have hl':decide ((256:Int)≤(told.length:Int))=false:=by simp;omega
 have hno':=Hd hno;clear hno;simp only[SR.cells,AR.cells,SR.tv];go_enter Tryz.func31,Tryz.ntmps31
 go_wp2_with (first|((with_reducible refine gbx ?_);refine wCy (E:=30) hA ?_;clear hF hA;intro bB w1 hA hbB hF)|((with_reducible refine gbx ?_);refine wCy (E:=84) hA ?_;clear hF hA;intro bS w1 hA hbS hF)|((with_reducible refine gbx ?_);refine wCy (E:=44) hA ?_;clear hF hA;intro bA w1 hA hbA hF)|((with_reducible refine gal ?_);refine g7 hA ?_;clear hF hA;intro bZ w1 hA hbZ hF))
 refine(Zc5 (s:=⟨num,foot,op,dead,dl,ttl,ax,cap,told⟩) (hA.sep1 sZ) a.r (by simp only;omega)).mono ?_;simp only[hno'.out,Option.getD_none,Option.isSome_none,AR.cells,noAR,SR.tv];rintro e w1 ⟨rfl,hT⟩;replace hA:=hA.call1 sR hT;clear hF hT;obtain⟨hA,hF⟩:=fY hA
 go_wp2_with (first|((with_reducible refine gal ?_);refine g13 hA ?_;clear hF hA;intro bQ w1 hA hbQ hF)|((with_reducible refine gst ?_);refine wTy hA ?_;clear hF hA;intro w1 hA hF))
 (try go_frame);go_loopg [9] told.length (ZpG w v L ⟨num,foot,op,dead,dl,ttl,ax,cap,told⟩ a bB bS bA bZ bQ [.int .u64 0,.int .i64 0,.int .u64 0,.bool false])
 case atStart=>exact⟨0,rfl,by simp,hA.pick pZ,by simp⟩
 case round=>
  obtain⟨i,rfl,hik,hB,hah⟩:=hrel;have hah':=Hd hah;clear hF hA hah;have hA:=hB;clear hB;simp only[SR.cells,AR.cells,SR.tv] at hA hah' hik;by_cases hi:i < told.length
  · have hx:told[i]? =some told[i]:=List.getElem?_eq_getElem hi;obtain⟨g,c,rfl,_,hcm,hcl,hct,hB⟩:=hA.row_open (ax:=ax) (cap:=cap) (n:=told.length) (xs:=flatA told) sR (by omega);have c0:c[i * 4]? =some (.int .u64 told[i].r):=Zae AR.cells_len hct hx 0 (by omega);clear hA;have hA:=hB;clear hB;obtain⟨hA,hF⟩:=fY hA;by_cases h1:told[i].r < a.r
    · have hn:=Hd (show ∀x ∈ told.take (i + 1),ZcQ a x=true from fun x hx=>by
       rw[List.take_succ_eq_append_getElem hi] at hx;rcases List.mem_append.1 hx with hx|hx
       · exact hah'.out x hx
       rw[List.mem_singleton.1 hx];simpa [ZcQ] using h1)
      go_wp2_with fail;refine cl1 hA ?_;clear hF hA;intro w1 hA hF;(try simp only[uY] at hA hF);go_wp2_with fail;go_roundg (gk - 1);case measure=>omega
      case rel=>exact⟨i + 1,by simp,by simp only;omega,(ZiS hA sR hcl hcap hcm hct).pick pZ,hn.out⟩
    have hput:=Hd (Zlt (by omega) hah'.out (fun h=>by simpa [ZcQ] using h1));have h1':decide (told[i].r < a.r)=false:=by simpa using h1
    go_wp2_with fail;refine cl1 hA ?_;clear hF hA;intro w1 hA hF;(try simp only[uY] at hA hF);have hB:=ZiS hA sR hcl hcap hcm hct;clear hF hA;have hA:=hB;clear hB c0 hct hcl hcm h1 h1';generalize hax':some (⟨g,0,none⟩:Addr)=ax at *
    clear hax';have hl1:(told.take i).length=i:=by rw[List.length_take];omega
    have hl2:(told.drop i).length=told.length - i:=List.length_drop;have hA:=Zf0 hA;obtain⟨hA,hF⟩:=fY hA
    go_wp2_with (first|((with_reducible refine gst ?_);refine wTy hA ?_;clear hF hA;intro w1 hA hF)|(refine ZaW (e:=44) (size:=4) (n:=(told).length) (xs:=flatA (told)) (v:=.slice ax (told).length cap) (k:=i) rfl rfl Tryz.underlying82 hi0 hz1 (by(try simp only[Act.eval,eV])<;>exact rfl) (by(try simp only[Act.eval,eV])<;>exact rfl) (hA.get (A:=Part.row 44 4 (.slice ax (told).length cap) (told).length (flatA (told))) sR) (by omega) ?_;intro xv hxv0;have hxv:Reads _ xv ((told).take (i)).length (flatA ((told).take (i))):=(by rw[hl1];unfold flatA at hxv0 ⊢;rw[Zbj AR.cells_len] at hxv0;exact hxv0);clear hxv0)|(refine Zad (e:=44) (size:=4) (v:=.slice none 0 0) (xs:=flatA []) (n:=([]:List AR).length) (m:=((told).take (i)).length) (news:=flatA ((told).take (i))) rfl _ _ 82 rfl Tryz.underlying82 hi0 hz0 hz1 hz2 rfl (by omega) hA sR (by(try simp only[Act.eval,eV])<;>exact rfl) (by(try simp only[Act.eval,eV])<;>exact rfl) (Zay _ _ AR.cells_len _) hxv (ZaI AR.one _) (by unfold maxLen;simp;omega) (by simp;omega) ?_;intro v1 w1 hB;rw[ZdX] at hB;simp only[List.nil_append] at hB;replace hA:=hB;clear hF hB;obtain⟨hA,hF⟩:=fY hA)|(refine Zao (e:=44) (vs:=AR.cells a) rfl rfl (by(try simp only[Act.eval,eV])<;>exact rfl) (fun _=>by kernel_rfl) hA ?_;intro b2 w1 hB hb2;replace hA:=hB;clear hF hB;obtain⟨hA,hF⟩:=fY hA)|(refine Zad (e:=44) (size:=4) (v:=v1) (xs:=flatA ((told).take (i))) (n:=((told).take (i)).length) (m:=1) (news:=AR.cells a) rfl _ _ 82 rfl Tryz.underlying82 hi0 hz0 hz1 hz2 rfl (by omega) hA sR (by(try simp only[Act.eval,eV])<;>exact rfl) (by(try simp only[Act.eval,eV])<;>exact rfl) (rfl) (hA.cells_reads sR _ _) (AR.one _) (by unfold maxLen;simp;omega) (by simp;omega) ?_;intro v2 w1 hB;rw[ZgX] at hB;replace hA:=hB;clear hF hB;obtain⟨hA,hF⟩:=fY hA)|(refine ZaO (e:=44) (size:=4) (n:=(told).length) (xs:=flatA (told)) (v:=.slice ax (told).length cap) (k:=i) rfl rfl Tryz.underlying82 hi0 hz1 (by(try simp only[Act.eval,eV])<;>exact rfl) (by(try simp only[Act.eval,eV])<;>exact rfl) (hA.get (A:=Part.row 44 4 (.slice ax (told).length cap) (told).length (flatA (told))) sR) (by omega) ?_;intro yv hxv0;have hyv:Reads _ yv ((told).drop (i)).length (flatA ((told).drop (i))):=(by rw[hl2];unfold flatA at hxv0 ⊢;rw[ZbL AR.cells_len] at hxv0;exact hxv0);clear hxv0)|(refine Zad (e:=44) (size:=4) (v:=v2) (xs:=flatA ((told).take (i)++[a])) (n:=((told).take (i)++[a]).length) (m:=((told).drop (i)).length) (news:=flatA ((told).drop (i))) rfl _ _ 82 rfl Tryz.underlying82 hi0 hz0 hz1 hz2 rfl (by omega) hA sR (by(try simp only[Act.eval,eV])<;>exact rfl) (by(try simp only[Act.eval,eV])<;>exact rfl) (Zay _ _ AR.cells_len _) hyv (ZaI AR.one _) (by unfold maxLen;simp;omega) (by simp;omega) ?_;intro v3 w1 hB;rw[ZdX] at hB;obtain⟨ax3,n3,cap3,hv3,hn3⟩:=hB.row_hid .here;subst hv3;replace hA:=hB;clear hF hB;obtain⟨hA,hF⟩:=fY hA))
    obtain rfl:=hn3.out;refine(ZcA (hA.sep1 sR) ⟨num,foot,op,dead,dl,ttl,ax3,cap3,told.take i++[a]++told.drop i⟩ hmaxL).mono ?_;rintro e w1 ⟨v',rfl,hT⟩;have hB:=hA.call1 sR hT;clear hF hA hT;obtain⟨ax4,n4,cap4,hv4,hn4⟩:=hB.row_hid .here;subst hv4;have hA:=hB;clear hB;obtain⟨hA,hF⟩:=fY hA
    go_wp2_with ((with_reducible refine gst ?_);refine wTy hA ?_;clear hF hA;intro w1 hA hF)
    refine bodyPost_ret (v:=.agg #[.slice ax4 n4 cap4]) (by simp[results,Tryz.results31,go_sem,hF]) rfl (show ZgB _ _ _ _ _ _ _ from⟨_,ax3,cap3,rfl,?_⟩);rw[hput.out,show told.take i++a::told.drop i=(told.take i++[a])++told.drop i by simp];exact hA.pick pZ
  have hput:=Hd (Zlt (a:=a) (by omega) hah'.out (fun h=>absurd h hi));obtain⟨hA,hF⟩:=fY hA;go_wp2_with fail;refine cl1 hA ?_;clear hF hA;intro w1 hA hF;(try simp only[uY] at hA hF);have hl1:(told.take i).length=i:=by rw[List.length_take];omega
  have hl2:(told.drop i).length=told.length - i:=List.length_drop;have hA:=Zf0 hA;obtain⟨hA,hF⟩:=fY hA
  go_wp2_with (first|((with_reducible refine gst ?_);refine wTy hA ?_;clear hF hA;intro w1 hA hF)|(refine ZaW (e:=44) (size:=4) (n:=(told).length) (xs:=flatA (told)) (v:=.slice ax (told).length cap) (k:=i) rfl rfl Tryz.underlying82 hi0 hz1 (by(try simp only[Act.eval,eV])<;>exact rfl) (by(try simp only[Act.eval,eV])<;>exact rfl) (hA.get (A:=Part.row 44 4 (.slice ax (told).length cap) (told).length (flatA (told))) sR) (by omega) ?_;intro xv hxv0;have hxv:Reads _ xv ((told).take (i)).length (flatA ((told).take (i))):=(by rw[hl1];unfold flatA at hxv0 ⊢;rw[Zbj AR.cells_len] at hxv0;exact hxv0);clear hxv0)|(refine Zad (e:=44) (size:=4) (v:=.slice none 0 0) (xs:=flatA []) (n:=([]:List AR).length) (m:=((told).take (i)).length) (news:=flatA ((told).take (i))) rfl _ _ 82 rfl Tryz.underlying82 hi0 hz0 hz1 hz2 rfl (by omega) hA sR (by(try simp only[Act.eval,eV])<;>exact rfl) (by(try simp only[Act.eval,eV])<;>exact rfl) (Zay _ _ AR.cells_len _) hxv (ZaI AR.one _) (by unfold maxLen;simp;omega) (by simp;omega) ?_;intro v1 w1 hB;rw[ZdX] at hB;simp only[List.nil_append] at hB;replace hA:=hB;clear hF hB;obtain⟨hA,hF⟩:=fY hA)|(refine Zao (e:=44) (vs:=AR.cells a) rfl rfl (by(try simp only[Act.eval,eV])<;>exact rfl) (fun _=>by kernel_rfl) hA ?_;intro b2 w1 hB hb2;replace hA:=hB;clear hF hB;obtain⟨hA,hF⟩:=fY hA)|(refine Zad (e:=44) (size:=4) (v:=v1) (xs:=flatA ((told).take (i))) (n:=((told).take (i)).length) (m:=1) (news:=AR.cells a) rfl _ _ 82 rfl Tryz.underlying82 hi0 hz0 hz1 hz2 rfl (by omega) hA sR (by(try simp only[Act.eval,eV])<;>exact rfl) (by(try simp only[Act.eval,eV])<;>exact rfl) (rfl) (hA.cells_reads sR _ _) (AR.one _) (by unfold maxLen;simp;omega) (by simp;omega) ?_;intro v2 w1 hB;rw[ZgX] at hB;replace hA:=hB;clear hF hB;obtain⟨hA,hF⟩:=fY hA)|(refine ZaO (e:=44) (size:=4) (n:=(told).length) (xs:=flatA (told)) (v:=.slice ax (told).length cap) (k:=i) rfl rfl Tryz.underlying82 hi0 hz1 (by(try simp only[Act.eval,eV])<;>exact rfl) (by(try simp only[Act.eval,eV])<;>exact rfl) (hA.get (A:=Part.row 44 4 (.slice ax (told).length cap) (told).length (flatA (told))) sR) (by omega) ?_;intro yv hxv0;have hyv:Reads _ yv ((told).drop (i)).length (flatA ((told).drop (i))):=(by rw[hl2];unfold flatA at hxv0 ⊢;rw[ZbL AR.cells_len] at hxv0;exact hxv0);clear hxv0)|(refine Zad (e:=44) (size:=4) (v:=v2) (xs:=flatA ((told).take (i)++[a])) (n:=((told).take (i)++[a]).length) (m:=((told).drop (i)).length) (news:=flatA ((told).drop (i))) rfl _ _ 82 rfl Tryz.underlying82 hi0 hz0 hz1 hz2 rfl (by omega) hA sR (by(try simp only[Act.eval,eV])<;>exact rfl) (by(try simp only[Act.eval,eV])<;>exact rfl) (Zay _ _ AR.cells_len _) hyv (ZaI AR.one _) (by unfold maxLen;simp;omega) (by simp;omega) ?_;intro v3 w1 hB;rw[ZdX] at hB;obtain⟨ax3,n3,cap3,hv3,hn3⟩:=hB.row_hid .here;subst hv3;replace hA:=hB;clear hF hB;obtain⟨hA,hF⟩:=fY hA))
  obtain rfl:=hn3.out;refine(ZcA (hA.sep1 sR) ⟨num,foot,op,dead,dl,ttl,ax3,cap3,told.take i++[a]++told.drop i⟩ hmaxL).mono ?_;rintro e w1 ⟨v',rfl,hT⟩;have hB:=hA.call1 sR hT;clear hF hA hT;obtain⟨ax4,n4,cap4,hv4,hn4⟩:=hB.row_hid .here;subst hv4;have hA:=hB;clear hB;obtain⟨hA,hF⟩:=fY hA
  go_wp2_with ((with_reducible refine gst ?_);refine wTy hA ?_;clear hF hA;intro w1 hA hF)
  refine bodyPost_ret (v:=.agg #[.slice ax4 n4 cap4]) (by simp[results,Tryz.results31,go_sem,hF]) rfl (show ZgB _ _ _ _ _ _ _ from⟨_,ax3,cap3,rfl,?_⟩);rw[hput.out,show told.take i++a::told.drop i=(told.take i++[a])++told.drop i by simp];exact hA.pick pZ
end Lease
end
section
namespace Lease
open Go.RowKit
theorem ZlX {L0 L:List Part} {w0 w:World} (h:At L0 w0 L w) (t:Int):Calls Tryz.prog 99 #[.int .i64 t] w fun e w'=>e=.returned (.int .i64 (cutI t))∧At L0 w0 L w':=
 (Zjq t w).mono fun _ _ ⟨h1,h2⟩=>⟨h1,h2 ▸ h⟩
def openB (f:ByteArray) (x:SR):Bool:=(x.foot.toList==f.toList)&&x.op
def cntR (L:List SR) (f:ByteArray):Nat:=(L.filter (openB f)).length
theorem Zl2 {L:List SR} {f:ByteArray} {i:Nat} (h:i < L.length) {b:Bool} (hb:openB f L[i]=b):cntR (L.take (i + 1)) f=cntR (L.take i) f + if b then 1 else 0:=by
 unfold cntR;rw[List.take_succ_eq_append_getElem h,List.filter_append,List.length_append];cases b<;>simp[hb]
theorem Zpy (L:List SR) (f:ByteArray) (i:Nat):cntR (L.take i) f≤i:=by
 unfold cntR;refine Nat.le_trans (List.length_filter_le _ _) ?_;rw[List.length_take];omega
def Za5 (s:SR) (c:Nat):Int:=if s.dead then 50 else if s.op then 15 else if 32≤c then 14 else 0
def SR.opened (s:SR) (ttl time:Int):SR:={s with op:=true,ttl:=cutI ttl,dl:=cutI (cutI time + cutI ttl)}
def ZpN (w:World) (v:Value) (L:List SR) (s:SR) (b1 b2 b3:Nat) (k:Nat) (n u:Value) (wr:World):Prop:=
 ∃i:Nat,u=.int .i64 i∧n=.int .i64 (cntR (L.take i) s.foot)∧i + k=L.length∧At [rowR v L] w [zeroB b3,Part.cells b2 s.cells 84,Part.cells b1 [v] 30,rowR v L] wr
def Zb4 (w:World) (v:Value) (L:List SR) (s:SR) (ttl time:Int) (e:Ending) (w':World):Prop:=
 (Za5 s (cntR L s.foot)≠0∧e=.returned (.tuple #[.agg #[v],.int .i64 (Za5 s (cntR L s.foot))])∧At [rowR v L] w [rowR v L] w')∨
 (Za5 s (cntR L s.foot)=0∧∃v',e=.returned (.tuple #[.agg #[v'],.int .i64 0])∧At [rowR v L] w [rowR v' (putR L (s.opened ttl time))] w')
theorem Zld {w:World} {v:Value} {L:List SR} (h:Sep [rowR v L] w) (s:SR) (ttl time:Int) (hmax:L.length≤1000000):
 Calls Tryz.prog 57 #[.agg #[v],.agg s.cells.toArray,.int .i64 ttl,.int .i64 time] w (Zb4 w v L s ttl time):=by
 have hA:=At.start h;have hF:=hA.facts;clear h;obtain⟨ax,cap,rfl,hax,hcap,_⟩:=hA.row_form (v:=v) (xs:=flatR L) sR;cases hd:s.dead
 · cases ho:s.op
   · unfold SR.cells;rw[hd,ho];go_enter Tryz.func57,Tryz.ntmps57
     go_wp2_with (first|((with_reducible refine gbx ?_);refine wCy (E:=30) hA ?_;clear hF hA;intro bB w1 hA hbB hF)|((with_reducible refine gbx ?_);refine wCy (E:=84) hA ?_;clear hF hA;intro bS w1 hA hbS hF)|((with_reducible refine gal ?_);refine g7 hA ?_;clear hF hA;intro bZ w1 hA hbZ hF))
     (try go_frame);go_loopg [10,11] L.length (ZpN w (.slice ax L.length cap) L s bB bS bZ)
     case atStart=>exact⟨0,rfl,by simp[cntR],by simp,by unfold SR.cells;rw[hd,ho];exact hA.pick pR⟩
     case round=>
      obtain⟨i,rfl,rfl,hik,hB⟩:=hrel;replace hA:=hB;clear hF hB;unfold SR.cells at hA;rw[hd,ho] at hA;have hcl:=Zpy L s.foot i;by_cases hi:i < L.length
      · have hx:L[i]? =some L[i]:=List.getElem?_eq_getElem hi;obtain⟨g,c,rfl,_,hcm,hcl',hct,hB⟩:=hA.row_open (ax:=ax) (cap:=cap) (n:=L.length) (xs:=flatR L) sR (by omega);have c1:c[i * 7 + 1]? =some (.string L[i].foot):=Zae SR.cells_len hct hx 1 (by omega);have c2:c[i * 7 + 2]? =some (.bool L[i].op):=Zae SR.cells_len hct hx 2 (by omega);clear hA;have hA:=hB;clear hB;obtain⟨hA,hF⟩:=fY hA;have hs:=fun {b:Bool}=>Zl2 (f:=s.foot) hi (b:=b);cases h1:(L[i].foot.toList==s.foot.toList)
        · have hs':=Hd (hs (b:=false) (by simp[openB,h1]));clear hs;go_wp2_with fail;refine cl1 hA ?_;clear hF hA;intro w1 hA hF;(try simp only[uY] at hA hF);go_wp2_with fail;go_roundg (gk - 1);case measure=>omega
          case rel=>exact⟨i + 1,by simp,by rw[hs'.out];simp,by omega,by unfold SR.cells;rw[hd,ho];exact(ZbO hA sR hcl' hcap hcm hct).pick pR⟩
        cases h2:L[i].op
        · have hs':=Hd (hs (b:=false) (by simp[openB,h1,h2]));clear hs;rw[h2] at c2;go_wp2_with fail;refine cl1 hA ?_;clear hF hA;intro w1 hA hF;(try simp only[uY] at hA hF);go_wp2_with fail;go_roundg (gk - 1);case measure=>omega
          case rel=>exact⟨i + 1,by simp,by rw[hs'.out];simp,by omega,by unfold SR.cells;rw[hd,ho];exact(ZbO hA sR hcl' hcap hcm hct).pick pR⟩
        have hs':=Hd (hs (b:=true) (by simp[openB,h1,h2]));clear hs;rw[h2] at c2;go_wp2_with fail;refine cl1 hA ?_;clear hF hA;intro w1 hA hF;(try simp only[uY] at hA hF);go_wp2_with fail;go_roundg (gk - 1);case measure=>omega
        case rel=>exact⟨i + 1,by simp,by rw[hs'.out];simp,by omega,by unfold SR.cells;rw[hd,ho];exact(ZbO hA sR hcl' hcap hcm hct).pick pR⟩
      have ht:L.take i=L:=List.take_of_length_le (by omega);rw[ht] at hcl;rw[ht];clear ht;have b1:=Zcw ttl;have b2:=Zcw time;obtain⟨hA,hF⟩:=fY hA;by_cases hc:32≤cntR L s.foot
      · have he:=Hd (show Za5 s (cntR L s.foot)=14 by simp[Za5,hd,ho,hc]);have hc':(32:Int)≤(cntR L s.foot:Int):=by omega
        go_wp2_with ((with_reducible refine gst ?_);refine wTy hA ?_;clear hF hA;intro w1 hA hF)
        refine bodyPost_ret (v:=.tuple #[.agg #[.slice ax L.length cap],.int .i64 14]) (by simp[results,Tryz.results57,go_sem,hF]) rfl (show Zb4 _ _ _ _ _ _ _ _ from .inl ⟨by rw[he.out];simp,by rw[he.out],hA.pick pR⟩)
      have he:=Hd (show Za5 s (cntR L s.foot)=0 by simp[Za5,hd,ho,hc]);have hc':(cntR L s.foot:Int) < 32:=by omega
      go_wp2_with ((with_reducible refine gst ?_);refine wTy hA ?_;clear hF hA;intro w1 hA hF)
      refine(Zjq _ _).mono ?_;rintro e _ ⟨rfl,rfl⟩
      go_wp2_with ((with_reducible refine gst ?_);refine wTy hA ?_;clear hF hA;intro w1 hA hF)
      (try go_frame);(refine Zaw 6 (Cl _ _ _) (by kernel_rfl) (by kernel_rfl) (Cl.drew hA) ?_);(simp only[List.take_succ_cons,List.take_zero,List.drop_succ_cons,List.drop_zero]);(have hn1:=Cl.none hA);(have hn2:=Cl.none2 hA);(repeat(first|go_big_quiet_skip|(go_big_quiet_want;(first|(refine qL ?_;go_frame;go_big_quiet_on)|(go_big_quiet_op;(first|go_big_quiet_on|((apply Exists.intro);(refine⟨fun w1 hw=> ?_,?_⟩);(focus((have hw:=Cl.out hw);(exact ZlX hw _)));(go_big_quiet_on))))))))
      (refine wpQuiet_nil ?_);(intro w1 hB);(clear hF hA hn1 hn2);(have hA:=Cl.out hB);(clear hB);obtain⟨hA,hF⟩:=fY hA
      go_wp2_with ((with_reducible refine gst ?_);refine wTy hA ?_;clear hF hA;intro w1 hA hF)
      have hop:=Hd (show s.opened ttl time=⟨s.num,s.foot,true,false,cutI (cutI time + cutI ttl),cutI ttl,s.ax,s.cap,s.told⟩ by simp[SR.opened,hd]);generalize cutI (cutI time + cutI ttl)=dl' at *
      generalize cutI ttl=ttl' at *
      refine(ZcA (hA.sep1 sR) ⟨s.num,s.foot,true,false,dl',ttl',s.ax,s.cap,s.told⟩ hmax).mono ?_;rintro e w1 ⟨v',rfl,hT⟩;have hB:=hA.call1 sR hT;clear hF hA hT;obtain⟨ax4,n4,cap4,hv4,hn4⟩:=hB.row_hid .here;subst hv4;have hA:=hB;clear hB;obtain⟨hA,hF⟩:=fY hA
      go_wp2_with ((with_reducible refine gst ?_);refine wTy hA ?_;clear hF hA;intro w1 hA hF)
      refine bodyPost_ret (v:=.tuple #[.agg #[.slice ax4 n4 cap4],.int .i64 0]) (by simp[results,Tryz.results57,go_sem,hF]) rfl (show Zb4 _ _ _ _ _ _ _ _ from .inr ⟨he.out,_,rfl,by rw[hop.out];exact hA.pick pR⟩)
   have he:=Hd (show Za5 s (cntR L s.foot)=15 by simp[Za5,hd,ho]);unfold SR.cells;rw[hd,ho];go_enter Tryz.func57,Tryz.ntmps57
   go_wp2_with (first|((with_reducible refine gbx ?_);refine wCy (E:=30) hA ?_;clear hF hA;intro bB w1 hA hbB hF)|((with_reducible refine gbx ?_);refine wCy (E:=84) hA ?_;clear hF hA;intro bS w1 hA hbS hF)|((with_reducible refine gal ?_);refine g7 hA ?_;clear hF hA;intro bZ w1 hA hbZ hF)|((with_reducible refine gst ?_);refine wTy hA ?_;clear hF hA;intro w1 hA hF))
   refine bodyPost_ret (v:=.tuple #[.agg #[.slice ax L.length cap],.int .i64 15]) (by simp[results,Tryz.results57,go_sem,hF]) rfl (show Zb4 _ _ _ _ _ _ _ _ from .inl ⟨by rw[he.out];simp,by rw[he.out],hA.pick pR⟩)
 have he:=Hd (show Za5 s (cntR L s.foot)=50 by simp[Za5,hd]);unfold SR.cells;rw[hd];go_enter Tryz.func57,Tryz.ntmps57
 go_wp2_with (first|((with_reducible refine gbx ?_);refine wCy (E:=30) hA ?_;clear hF hA;intro bB w1 hA hbB hF)|((with_reducible refine gbx ?_);refine wCy (E:=84) hA ?_;clear hF hA;intro bS w1 hA hbS hF)|((with_reducible refine gal ?_);refine g7 hA ?_;clear hF hA;intro bZ w1 hA hbZ hF)|((with_reducible refine gst ?_);refine wTy hA ?_;clear hF hA;intro w1 hA hF))
 refine bodyPost_ret (v:=.tuple #[.agg #[.slice ax L.length cap],.int .i64 50]) (by simp[results,Tryz.results57,go_sem,hF]) rfl (show Zb4 _ _ _ _ _ _ _ _ from .inl ⟨by rw[he.out];simp,by rw[he.out],hA.pick pR⟩)
def SR.kept (s:SR) (time:Int):SR:={s with dl:=if s.dl < cutI (cutI time + s.ttl) then cutI (cutI time + s.ttl) else s.dl}
def SR.ended (s:SR):SR:={s with op:=false,dead:=true,dl:=0,ttl:=0}
def Zbd (w:World) (v:Value) (L:List SR) (s':SR) (err:Int) (e:Ending) (w':World):Prop:=
 (err≠0∧e=.returned (.tuple #[.agg #[v],.int .i64 err])∧At [rowR v L] w [rowR v L] w')∨
 (err=0∧∃v',e=.returned (.tuple #[.agg #[v'],.int .i64 0])∧At [rowR v L] w [rowR v' (putR L s')] w')
theorem Zlq {w:World} {v:Value} {L:List SR} (h:Sep [rowR v L] w) (s:SR) (time:Int) (h0:0≤s.ttl) (h1:s.ttl≤2199023255552) (hmax:L.length≤1000000):
 Calls Tryz.prog 58 #[.agg #[v],.agg s.cells.toArray,.int .i64 time] w (Zbd w v L (s.kept time) (if s.op then 0 else 50)):=by
 have hA:=At.start h;have hF:=hA.facts;clear h;obtain⟨ax,cap,rfl,hax,hcap,_⟩:=hA.row_form (v:=v) (xs:=flatR L) sR;have b2:=Zcw time;cases ho:s.op
 · unfold SR.cells;rw[ho];go_enter Tryz.func58,Tryz.ntmps58
   go_wp2_with (first|((with_reducible refine gbx ?_);refine wCy (E:=30) hA ?_;clear hF hA;intro bB w1 hA hbB hF)|((with_reducible refine gbx ?_);refine wCy (E:=84) hA ?_;clear hF hA;intro bS w1 hA hbS hF)|((with_reducible refine gal ?_);refine g7 hA ?_;clear hF hA;intro bZ w1 hA hbZ hF)|((with_reducible refine gst ?_);refine wTy hA ?_;clear hF hA;intro w1 hA hF))
   refine bodyPost_ret (v:=.tuple #[.agg #[.slice ax L.length cap],.int .i64 50]) (by simp[results,Tryz.results58,go_sem,hF]) rfl (show Zbd _ _ _ _ _ _ _ from .inl ⟨by simp,by simp,hA.pick pR⟩)
 have hd:s.dl < cutI (cutI time + s.ttl)∨¬s.dl < cutI (cutI time + s.ttl):=by omega
 rcases hd with hd|hd
 all_goals
  have hk:=hd
 · have hkc:=Hd (show s.kept time={s with dl:=cutI (cutI time + s.ttl)} by unfold SR.kept;rw[if_pos hk]);clear hk;simp only[SR.cells,ho];go_enter Tryz.func58,Tryz.ntmps58
   go_wp2_with (first|((with_reducible refine gbx ?_);refine wCy (E:=30) hA ?_;clear hF hA;intro bB w1 hA hbB hF)|((with_reducible refine gbx ?_);refine wCy (E:=84) hA ?_;clear hF hA;intro bS w1 hA hbS hF)|((with_reducible refine gal ?_);refine g7 hA ?_;clear hF hA;intro bZ w1 hA hbZ hF))
   refine cl9 hA ?_;clear hF hA;intro w1 hA hF;(try simp only[uY] at hA hF)
   go_wp2_with ((with_reducible refine gst ?_);refine wTy hA ?_;clear hF hA;intro w1 hA hF)
   refine(ZcA (hA.sep1 sR) {s with op:=true,dl:=cutI (cutI time + s.ttl)} hmax).mono ?_;rintro e w1 ⟨v',rfl,hT⟩;have hB:=hA.call1 sR hT;clear hF hA hT;obtain⟨ax4,n4,cap4,hv4,hn4⟩:=hB.row_hid .here;subst hv4;have hA:=hB;clear hB;obtain⟨hA,hF⟩:=fY hA
   go_wp2_with ((with_reducible refine gst ?_);refine wTy hA ?_;clear hF hA;intro w1 hA hF)
   refine bodyPost_ret (v:=.tuple #[.agg #[.slice ax4 n4 cap4],.int .i64 0]) (by simp[results,Tryz.results58,go_sem,hF]) rfl (show Zbd _ _ _ _ _ _ _ from .inr ⟨by simp,_,rfl,?_⟩);rw[hkc.out,show({s with dl:=cutI (cutI time + s.ttl)}:SR)={s with op:=true,dl:=cutI (cutI time + s.ttl)} by rw[←ho]];exact hA.pick pR
 have hkc:=Hd (show s.kept time=s by unfold SR.kept;rw[if_neg hk]);have hd':cutI (cutI time + s.ttl)≤s.dl:=by omega
 clear hk;simp only[SR.cells,ho];go_enter Tryz.func58,Tryz.ntmps58
 go_wp2_with (first|((with_reducible refine gbx ?_);refine wCy (E:=30) hA ?_;clear hF hA;intro bB w1 hA hbB hF)|((with_reducible refine gbx ?_);refine wCy (E:=84) hA ?_;clear hF hA;intro bS w1 hA hbS hF)|((with_reducible refine gal ?_);refine g7 hA ?_;clear hF hA;intro bZ w1 hA hbZ hF))
 refine cl9 hA ?_;clear hF hA;intro w1 hA hF;(try simp only[uY] at hA hF);go_wp2_with fail;refine(ZcA (hA.sep1 sR) {s with op:=true} hmax).mono ?_;rintro e w1 ⟨v',rfl,hT⟩;have hB:=hA.call1 sR hT;clear hF hA hT;obtain⟨ax4,n4,cap4,hv4,hn4⟩:=hB.row_hid .here;subst hv4;have hA:=hB;clear hB;obtain⟨hA,hF⟩:=fY hA
 go_wp2_with ((with_reducible refine gst ?_);refine wTy hA ?_;clear hF hA;intro w1 hA hF)
 refine bodyPost_ret (v:=.tuple #[.agg #[.slice ax4 n4 cap4],.int .i64 0]) (by simp[results,Tryz.results58,go_sem,hF]) rfl (show Zbd _ _ _ _ _ _ _ from .inr ⟨by simp,_,rfl,?_⟩);rw[hkc.out,show s={s with op:=true} by rw[←ho]];exact hA.pick pR
theorem Zgu {w:World} {v:Value} {L:List SR} (h:Sep [rowR v L] w) (s:SR) (hmax:L.length≤1000000):
 Calls Tryz.prog 55 #[.agg #[v],.agg s.cells.toArray] w (Zbd w v L s.ended (if s.op then 0 else 50)):=by
 have hA:=At.start h;have hF:=hA.facts;clear h;obtain⟨ax,cap,rfl,hax,hcap,_⟩:=hA.row_form (v:=v) (xs:=flatR L) sR;cases ho:s.op
 · unfold SR.cells;rw[ho];go_enter Tryz.func55,Tryz.ntmps55
   go_wp2_with (first|((with_reducible refine gbx ?_);refine wCy (E:=30) hA ?_;clear hF hA;intro bB w1 hA hbB hF)|((with_reducible refine gbx ?_);refine wCy (E:=84) hA ?_;clear hF hA;intro bS w1 hA hbS hF)|((with_reducible refine gal ?_);refine g7 hA ?_;clear hF hA;intro bZ w1 hA hbZ hF)|((with_reducible refine gst ?_);refine wTy hA ?_;clear hF hA;intro w1 hA hF))
   refine bodyPost_ret (v:=.tuple #[.agg #[.slice ax L.length cap],.int .i64 50]) (by simp[results,Tryz.results55,go_sem,hF]) rfl (show Zbd _ _ _ _ _ _ _ from .inl ⟨by simp,by simp,hA.pick pR⟩)
 simp only[SR.cells,ho];go_enter Tryz.func55,Tryz.ntmps55
 go_wp2_with (first|((with_reducible refine gbx ?_);refine wCy (E:=30) hA ?_;clear hF hA;intro bB w1 hA hbB hF)|((with_reducible refine gbx ?_);refine wCy (E:=84) hA ?_;clear hF hA;intro bS w1 hA hbS hF)|((with_reducible refine gal ?_);refine g7 hA ?_;clear hF hA;intro bZ w1 hA hbZ hF)|((with_reducible refine gst ?_);refine wTy hA ?_;clear hF hA;intro w1 hA hF))
 refine(ZcA (hA.sep1 sR) s.ended hmax).mono ?_;rintro e w1 ⟨v',rfl,hT⟩;have hB:=hA.call1 sR hT;clear hF hA hT;obtain⟨ax4,n4,cap4,hv4,hn4⟩:=hB.row_hid .here;subst hv4;have hA:=hB;clear hB;obtain⟨hA,hF⟩:=fY hA
 go_wp2_with ((with_reducible refine gst ?_);refine wTy hA ?_;clear hF hA;intro w1 hA hF)
 refine bodyPost_ret (v:=.tuple #[.agg #[.slice ax4 n4 cap4],.int .i64 0]) (by simp[results,Tryz.results55,go_sem,hF]) rfl (show Zbd _ _ _ _ _ _ _ from .inr ⟨by simp,_,rfl,?_⟩);exact hA.pick pR
def expE (s:SR) (time:Int):Int:=if s.op then(if time < s.dl then 54 else 0) else 50
theorem Zin {w:World} {v:Value} {L:List SR} (h:Sep [rowR v L] w) (s:SR) (time:Int) (hmax:L.length≤1000000):
 Calls Tryz.prog 27 #[.agg #[v],.agg s.cells.toArray,.int .i64 time] w (Zbd w v L s.ended (expE s time)):=by
 have hA:=At.start h;have hF:=hA.facts;clear h;obtain⟨ax,cap,rfl,hax,hcap,_⟩:=hA.row_form (v:=v) (xs:=flatR L) sR;by_cases hx:s.op=true∧time < s.dl
 · obtain⟨ho,ht⟩:=hx;have he:=Hd (show expE s time=54 by simp[expE,ho,ht]);simp only[SR.cells,ho];go_enter Tryz.func27,Tryz.ntmps27
   go_wp2_with (first|((with_reducible refine gbx ?_);refine wCy (E:=30) hA ?_;clear hF hA;intro bB w1 hA hbB hF)|((with_reducible refine gbx ?_);refine wCy (E:=84) hA ?_;clear hF hA;intro bS w1 hA hbS hF)|((with_reducible refine gal ?_);refine g7 hA ?_;clear hF hA;intro bZ w1 hA hbZ hF)|((with_reducible refine gst ?_);refine wTy hA ?_;clear hF hA;intro w1 hA hF))
   refine bodyPost_ret (v:=.tuple #[.agg #[.slice ax L.length cap],.int .i64 54]) (by simp[results,Tryz.results27,go_sem,hF]) rfl (show Zbd _ _ _ _ _ _ _ from .inl ⟨by rw[he.out];simp,by rw[he.out],hA.pick pR⟩)
 have hx':(s.op=true∧decide (time < s.dl)=false)∨s.op=false:=by
  cases h:s.op
  · exact .inr rfl
  exact .inl ⟨rfl,by simpa [h] using hx⟩
 have he:=Hd (show expE s time=if s.op then 0 else 50 by
  unfold expE;rcases hx' with⟨h1,h2⟩|h1
  · have h3:¬time < s.dl:=by simpa using h2
    rw[h1,if_pos rfl,if_pos rfl,if_neg h3]
  rw[h1];rfl)
 clear hx;rcases hx' with⟨ho,ht⟩|ho
 · unfold SR.cells;rw[ho];go_enter Tryz.func27,Tryz.ntmps27
   go_wp2_with (first|((with_reducible refine gbx ?_);refine wCy (E:=30) hA ?_;clear hF hA;intro bB w1 hA hbB hF)|((with_reducible refine gbx ?_);refine wCy (E:=84) hA ?_;clear hF hA;intro bS w1 hA hbS hF)|((with_reducible refine gal ?_);refine g7 hA ?_;clear hF hA;intro bZ w1 hA hbZ hF))
   have hE:=Zgu (hA.sep1 sR) s hmax;unfold SR.cells at hE;rw[ho] at hE;refine hE.mono ?_;clear hE;rintro e w1 (⟨q1,_,_⟩|⟨_,v',rfl,hT⟩)
   · exact absurd rfl q1
   have hB:=hA.call1 sR hT;clear hF hA hT;obtain⟨ax4,n4,cap4,hv4,hn4⟩:=hB.row_hid .here;subst hv4;have hA:=hB;clear hB;rw[ho] at he;obtain⟨hA,hF⟩:=fY hA
   go_wp2_with ((with_reducible refine gst ?_);refine wTy hA ?_;clear hF hA;intro w1 hA hF)
   refine bodyPost_ret (v:=.tuple #[.agg #[.slice ax4 n4 cap4],.int .i64 0]) (by simp[results,Tryz.results27,go_sem,hF]) rfl (show Zbd _ _ _ _ _ _ _ from .inr ⟨by rw[he.out];simp,_,rfl,hA.pick pR⟩)
 unfold SR.cells;rw[ho];go_enter Tryz.func27,Tryz.ntmps27
 go_wp2_with (first|((with_reducible refine gbx ?_);refine wCy (E:=30) hA ?_;clear hF hA;intro bB w1 hA hbB hF)|((with_reducible refine gbx ?_);refine wCy (E:=84) hA ?_;clear hF hA;intro bS w1 hA hbS hF)|((with_reducible refine gal ?_);refine g7 hA ?_;clear hF hA;intro bZ w1 hA hbZ hF))
 have hE:=Zgu (hA.sep1 sR) s hmax;unfold SR.cells at hE;rw[ho] at hE;refine hE.mono ?_;clear hE;rintro e w1 (⟨_,rfl,hT⟩|⟨q1,_,_,_⟩);rotate_left
 · exact absurd q1 (by simp)
 replace hA:=hA.call1 sR hT;clear hF hT;rw[ho] at he;obtain⟨hA,hF⟩:=fY hA
 go_wp2_with ((with_reducible refine gst ?_);refine wTy hA ?_;clear hF hA;intro w1 hA hF)
 refine bodyPost_ret (v:=.tuple #[.agg #[.slice ax L.length cap],.int .i64 50]) (by simp[results,Tryz.results27,go_sem,hF]) rfl (show Zbd _ _ _ _ _ _ _ from .inl ⟨by rw[he.out];simp,by rw[he.out];simp,hA.pick pR⟩)
end Lease
end
section
namespace Sess
open Go.RowKit Go.Shelf
open Go.Maps (Keyed)
attribute [local go_sem] Oper.semAt_some
def seV (p:Int × ByteArray):Value:=.agg #[.int .u64 p.1,.string p.2]
def seL (p:Int × ByteArray):List Value:=[.int .u64 p.1,.string p.2]
def unS:Value→Int × ByteArray
 |.agg #[.int _ a,.string b]=>(a,b)
 |_=>(0,.empty)
theorem unS_seV (p:Int × ByteArray):unS (seV p)=p:=rfl
theorem perm_of_seV {l m:List (Int × ByteArray)} (h:(l.map seV).Perm (m.map seV)):l.Perm m:=by
 have:=h.map unS
 simpa [List.map_map,Function.comp_def,unS_seV] using this
def seenOf (w:World) (r:Nat):Nat:=match w.heap[r]? with|some (.mapIter _ _ seen _)=>seen.size|_=>0
theorem seenOf_eq {P:Program} {k:TypeId} {w:World} {r b:Nat} {es done:List (Value × Value)} (h:Zat P k w r b es done):seenOf w r=done.length:=by
 obtain⟨_,_,ents,clock,c0,vs,hb,hr,hc,hd,_⟩:=h;unfold seenOf;rw[hr,←hd];simp
theorem iter_walk {P:Program} {k:TypeId} {w:World} {r b:Nat} {es done:List (Value × Value)} (h:Zat P k w r b es done):∃o:Obj,w.heap[r]? =some o∧o.isWalk=true:=by
 obtain⟨_,_,ents,clock,c0,vs,hb,hr,_⟩:=h;exact⟨_,hr,rfl⟩
theorem iter_keeps {P:Program} {k:TypeId} {w w':World} {r b:Nat} {es done:List (Value × Value)} (h:Zat P k w r b es done) (hk:KeepsWalks w w'):Zat P k w' r b es done:=by
 have h0:=h;obtain⟨_,_,ents,clock,c0,vs,hb,hr,_⟩:=h0;exact h.same ((hk.same b _ hb rfl).trans hb.symm) ((hk.same r _ hr rfl).trans hr.symm)
theorem grown_of_exc {w w':World} {r:Nat} (h:Exc (fun q=>q=r) w w'):w.grownBy w' (some r):=⟨h.os,h.tape,h.output,h.size,fun k hk hn=>h.block k hk (fun e=>hn (by rw[e]))⟩
theorem grown_of_ext {w w':World} (h:Ext w w'):w.grownBy w' none:=⟨Below.os h,Below.tape h,Below.output h,Below.size h,fun k hk _=>Below.block h k hk⟩
theorem keys1_in (F:Fence) (n:Nat) (h1:F.fn 157) (hro:F.round=none) (hn:1≤n) (l Bm b:Nat) (es:List (Value × Value)) (ks:List (Int × ByteArray)) (hes:es.map (·.1)=ks.map seV) (J Jx:List (Int × ByteArray)→World→Prop)
 (W:World) (hJ:AbidesFrom W.heap.size J)
 (hY:∀pre x W1,J pre W1→pre.length < ks.length→YieldAt F (n - 1) Tryz.prog l #[seV x] W1 fun e W'=>(e=.returned (.bool true)∧J (pre++[x]) W'∧KeepsWalks W1 W')∨(e=.returned (.bool false)∧Jx (pre++[x]) W'))
 (hm:W.cell? ⟨Bm,0,none⟩=some (.map (some b))) (hM:MapAt Tryz.prog 39 W b es) (h0:J [] W):
 CallsIn F n Tryz.prog 157 #[.func (.yield l) #[] #[],.pointer (some ⟨Bm,0,none⟩)] W fun e W'=>(∃v,e=.returned v)∧((∃ys,ys.Perm ks∧J ys W')∨(∃pre,True∧Jx pre W')):=by
 obtain⟨W0,hrun,hext,hI⟩:=Zat.start hM Tryz.underlying119;have hJ0:J [] W0:=hJ _ W W0 none h0 (grown_of_ext hext) (fun r e=>by cases e);refine callsIn_of_wp Tryz.func157 rfl h1 ?_ hro;simp only[Tryz.ntmps157,List.size_toArray,List.length_cons,List.length_nil,Nat.reduceAdd,Nat.reduceSub,Array.replicate_succ,Array.replicate_zero,List.push_toArray,List.append_toArray,List.nil_append,List.cons_append];gi_wp2
 clear hrun;(try go_frame)
 gi_loopw [3] (fun _ wr=>∃(done:List (Value × Value)) (ds:List (Int × ByteArray)),Zat Tryz.prog 39 wr W.heap.size b es done∧done.map (·.1)=ds.map seV∧J ds wr)
  (fun _ wr=>es.length - seenOf wr W.heap.size)
 case atStart=>exact⟨[],[],hI,rfl,hJ0⟩
 case round=>
  obtain⟨done,ds,hI1,hd,hJs⟩:=hrel;rcases hI1.next 0 with⟨hp,hrun⟩|⟨p,w',hp,hne,hrun,hI2,hx⟩
  · have hpp:ds.Perm ks:=(perm_of_seV (by rw[←hes,←hd];exact hp.map _)).symm;clear hes hd;gi_wp2
    go_end0
    exact⟨⟨_,rfl⟩,.inl ⟨ds,hpp,hJs⟩⟩
  obtain⟨pk,pv⟩:=p;have hpk:pk ∈ es.map (·.1):=List.mem_map.2 ⟨_,hp,rfl⟩;rw[hes] at hpk;obtain⟨x,_,rfl⟩:=List.mem_map.1 hpk
  have hlen:ds.length < ks.length:=by
   have e1:=congrArg List.length hes;have e2:=congrArg List.length hd;have e3:=hI2.len;simp at e1 e2 e3
   omega
  have hJ1:J ds w':=hJ ds wr w' (some W.heap.size) hJs (grown_of_exc hx) (fun r e=>by cases e;exact⟨Nat.le_refl _,iter_walk hI1⟩);have hJ2:J ds (w'.alloc (.cells #[.int .u64 x.1,.string x.2] 39)):=hJ _ _ _ none hJ1 (World.grownBy_alloc _ _ none) (fun r e=>by cases e);have hI3:Zat Tryz.prog 39 (w'.alloc (.cells #[.int .u64 x.1,.string x.2] 39)) W.heap.size b es (done++[(seV x,pv)]):=(Part.iter _ _ _ _ _ _).stay _ _ hI2 (fun q hq=>Below.heap_alloc _ _ _ ((Part.iter _ _ _ _ _ _).lt _ hI2 q hq));obtain⟨fn,tmps,assign,body,hy,hR⟩:=hY ds x _ hJ2 hlen;have hen:=hI2.entry;have hs0:=seenOf_eq hI1;have hes':=Hd hes;have hd':=Hd hd;have hs':=Hd hs0;have hle:=hI2.len;clear hes hd hs0 hpk hp hne hx;unfold seV at hrun hen hy;gi_wp2
  refine hR.mono ?_;rintro e W3 (⟨rfl,hJ3,hk3⟩|⟨rfl,hJx3⟩)
  · gi_wp2
    go_roundw
    case rel=>exact⟨done++[(seV x,pv)],ds++[x],iter_keeps hI3 hk3,by simp[hd'.out],hJ3⟩
    case measure=>
     have e1:=seenOf_eq (iter_keeps hI3 hk3);have e2:=hs'.out;rw[e1,e2];simp at hle ⊢
     omega
  gi_wp2
  refine bodyPost_ret (results_none rfl _ _ _) rfl ?_;exact⟨⟨_,rfl⟩,.inr ⟨_,trivial,hJx3⟩⟩
theorem keys_in (F:Fence) (n:Nat) (h1:F.fn 122) (hro:F.round=none) (mb:Option Nat) (w:World):
 CallsIn F n Tryz.prog 122 #[.map mb] w fun e w'=>e=.returned (.func (.func 157) #[] #[.pointer (some ⟨w.heap.size,0,none⟩)])∧w'=w.alloc (.cells #[.map mb] 119):=by
 refine callsIn_of_wp Tryz.func122 rfl h1 ?_ hro;simp only[Tryz.ntmps122,List.size_toArray,List.length_cons,List.length_nil,Nat.reduceAdd,Nat.reduceSub,Array.replicate_succ,Array.replicate_zero,List.push_toArray,List.append_toArray,List.nil_append,List.cons_append];gi_wp2
 go_ret;exact⟨rfl,rfl⟩
theorem keys_stops (F:Fence) (n:Nat) (h1:F.fn 157) (hro:F.round=none) (hn:1≤n) (Bm b:Nat) (es:List (Value × Value)) (ks:List (Int × ByteArray)) (hes:es.map (·.1)=ks.map seV) (w:World) (hBm:Bm < w.heap.size)
 (hm:w.cell? ⟨Bm,0,none⟩=some (.map (some b))) (hM:MapAt Tryz.prog 39 w b es):
 SeqStopsK F n Tryz.prog 157 #[.pointer (some ⟨Bm,0,none⟩)] (fun x:Int × ByteArray=> #[seV x]) KeepsWalks (fun ys=>ys.Perm ks) (fun _=>True) ks.length w:=fun l J Jx W hW hJ _ hY h0=>
 keys1_in F n h1 hro hn l Bm b es ks hes J Jx W hJ hY ((hW.cell (p:=⟨Bm,0,none⟩) hBm).trans hm) (hM.same (hW.block b hM.lt)) h0
theorem infoID:(Tryz.prog.info? 39).map (fun i=>(i.zero,i.size,i.bytes))=some (some (.agg #[.int .u64 0,.string .empty]),2,24):=by kernel_rfl
def Box (W:World) (B:Nat) (t:TypeId) (c:Array Value):Prop:=W.heap[B]? =some (.cells c t (0,0))
theorem Box.own {β:Type} (B:Nat) (t:TypeId) (c:Array Value):Own (fun(_:β) W=>Box W B t c):=fun s X Y row hs hg hrow=>
 (hg.block B (ZaR hs) (fun e=>by obtain⟨o,ho,hc⟩:=hrow B e.symm;rw[show X.heap[B]? =_ from hs] at ho;cases ho;cases hc)).trans hs
theorem two_new (W:World) (x y:Value) (t:TypeId):∀(j:Nat) (u:Value),[x,y][j]? =some u→(W.alloc (.cells #[x,y] t)).cell? ((⟨W.heap.size,0,none⟩:Addr).add j)=some u:=by
 intro j u h
 match j,h with
 |0,h=>simp at h;subst h;simp[Addr.add]
 |1,h=>simp at h;subst h;simp[Addr.add]
 |j + 2,h=>simp at h
def MidI (w:World) (pre:List (Int × ByteArray)) (W:World):Prop:=
 (∃v,Boxed W w.heap.size 154 v∧W.ownsRow w.heap.size 39 2 v pre.length (pre.flatMap seL)∧(v=.slice none 0 0↔pre=[]))∧Below w.heap.size w W
theorem midI_own (w:World) (B:Nat) (hB:w.heap.size≤B):OwnFrom B (MidI w):=
 OwnFrom.and (Own.from (holdsRow_own w.heap.size w.heap.size 154 39 2 (fun pre=>pre.length) (fun pre=>pre.flatMap seL) (fun pre v=>v=.slice none 0 0↔pre=[])) _) (ownFrom_below (Nat.le_refl _) hB)
def MidAx (w:World) (sv:Value) (x:Int × ByteArray) (a':Act) (W:World):Prop:=
 ∃Bx,w.heap.size < Bx∧Box W Bx 39 #[.int .u64 x.1,.string x.2]∧a'={tmps:= #[.slice none 0 0,sv,.pointer (some ⟨w.heap.size,0,none⟩),undef,.slice none 0 0,.pointer (some ⟨Bx,0,none⟩),sv,seV x,undef,undef,undef,undef,undef],defers:=[]}
theorem midAx_own (w:World) (sv:Value) (B:Nat) (x:Int × ByteArray) (a':Act):OwnFrom B (fun(_:Unit) W=>MidAx w sv x a' W):=by
 rintro s X Y row ⟨Bx,h1,h2,h3⟩ hg hr;exact⟨Bx,h1,(Box.own (β:=Unit) Bx _ _).from B () X Y row h2 hg hr,h3⟩
theorem appendSeq_in (F:Fence) (n:Nat) (hF:F.fn 156) (hro:F.round=none) (hn:3≤n) (gf:Nat) (lb:Array Value) (hFg:F.fn gf) (eg:∀args w,(callFunc gf args).run Tryz.prog w=.ok (.enter gf args) w)
 (S Sp:List (Int × ByteArray)→Prop) (N:Nat) (hN:N≤100000000) (w:World) (hseq:SeqStopsK F (n - 1) Tryz.prog gf lb (fun x:Int × ByteArray=> #[seV x]) KeepsWalks S Sp N w):
 CallsIn F n Tryz.prog 156 #[.slice none 0 0,.func (.func gf) #[] lb] w fun e w'=>∃(v:Value) (ss:List (Int × ByteArray)),e=.returned v∧S ss∧w'.ownsRow w.heap.size 39 2 v ss.length (ss.flatMap seL)∧(v=.slice none 0 0↔ss=[])∧Below w.heap.size w w':=by
 have h1:1≤n:=by omega
 obtain⟨i0,hi,hz0,hz1,hz2⟩:=info_parts infoID;refine callsIn_of_wp_marks Tryz.func156 rfl hF ?_ hro;simp only[Tryz.ntmps156,List.size_toArray,List.length_cons,List.length_nil,Nat.reduceAdd,Nat.reduceSub,Array.replicate_succ,Array.replicate_zero,List.push_toArray,List.append_toArray,List.nil_append,List.cons_append];gi_wp2
 have bO:=Boxed.new w 154 (.slice none 0 0);have hB0:Below w.heap.size w (w.alloc (.cells #[.slice none 0 0] 154)):=(Below.refl _ w).alloc (Nat.le_refl _) _
 refine wpIn_rangeFunc_ownH hro h1 (gf:=gf) (lb:=lb) rfl hFg eg hseq walksK_t walksK_b hB0 (fun _=>rfl)
  (MidI w) (fun _ _ _=>False) (midI_own w _ (by simp)) (fun _ _ _ _ _ hs _ _=>hs)
  ⟨⟨_,bO,World.ownsRow_nil _ _ _ _,by simp⟩,hB0⟩
  (MidAx w (.func (.func gf) #[] lb)) (fun x a'=>midAx_own w _ _ x a') ?assign ?body ?done ?stop
 case assign=>
  rintro l pre x W K ⟨⟨v,hv,hrow,hnil⟩,hB⟩ hK;have hsz:=hB.size;unfold seV;gi_wp2
  refine hK _ _ ((KeepsOthers.alloc _ _).from _) (KeepsWalks.alloc _ _) ⟨⟨v,hv.alloc _,hrow.alloc _,hnil⟩,hB.alloc hB.size _⟩ ⟨W.heap.size,hv.lt,World.alloc_heap_new W _,rfl⟩
 case body=>
  rintro l pre x a' W hl ⟨r,hr⟩ ⟨⟨v,hv,hrow,hnil⟩,hB⟩ ⟨Bx,hBx,bX,rfl⟩ hlt;have hc:=hv.cell;have c0:W.cell? ⟨Bx,0,none⟩=some (.int .u64 x.1):=by unfold Box at bX;simp[World.cell?,bX]
  have c1:W.cell? ⟨Bx,1,none⟩=some (.string x.2):=by unfold Box at bX;simp[World.cell?,bX]
  have hsz:=hB.size
  gi_wp2_with (gi_at_builtin;refine wpListIn_append_own _ rfl _ _ 154 rfl w.heap.size 39 i0 (.agg #[.int .u64 0,.string .empty]) 2 24 Tryz.underlying154 hi hz0 hz1 hz2 rfl (by decide) _ _ _ rfl (hrow.alloc _) ⟨W.heap.size,0,none⟩ 1 1 [.int .u64 x.1,.string x.2] rfl rfl (two_new _ _ _ _) (by simp[Value.oneCell']) (by unfold maxLen;omega) (by omega) (by simp;omega) ?_;intro v' w1 hown' hgrow _;obtain⟨g',cap',rfl⟩:=ownsRow_succ hown';obtain⟨hv1,hv2,hr2,hk2,hb2⟩:=hv.appended (by decide) hrow hB.size (Nat.le_refl _) hown' hgrow;have hc1:=hv1.cell;have hf1:=hv1.frozen)
  exact⟨hk2.from _,hk2.walks,⟨_,hv2,by simpa [seL] using hr2,by simp⟩,hB.trans hb2⟩
 case done=>
  rintro D ys W hD hS ⟨⟨v,hv,hrow,hnil⟩,hB⟩ hK;have hc:=hv.cell;gi_wp2
  refine⟨by simp,.inl ⟨_,_,rfl,run_takeDeferred hK,?_⟩⟩;exact⟨_,results_tmp rfl _ _ _,v,ys,rfl,hS,ownsRow_putObj hrow _ hK rfl,hnil,hB.trans (belowK_b (w:=w) (Nat.le_refl _) W D _ _ (by simp at hD;omega) hK rfl rfl)⟩
 case stop=>
  rintro D c pre W _ _ h _;exact h.elim
end Sess
end
section
namespace Lease
open Go.RowKit
def ZaN (ss:List Ses) (n:Int) (f:ByteArray) (g:Ses→Ses) (ss':List Ses):Prop:=
 (∃l1 s l2,find ss n f=some s∧ss=l1++s::l2∧ss'=l1++g s::l2)∨(find ss n f=none∧∃b t,ss'=ss++[g (fresh n f b t)])
def ZhJ (w:World) (p m:Nat) (ss:List Ses) (n:Int) (f:ByteArray) (g:Ses→Ses) (ret:Value) (code:Int) (e:Ending) (w':World):Prop:=
 ∃ss',e=.returned ret∧At [BookP p m ss] w [BookP p m ss'] w'∧(code≠0∧ss'=ss∨code=0∧ZaN ss n f g ss')
section
variable {w:World} {p m:Nat} {ss:List Ses} {n:Int} {f:ByteArray}
theorem Zmb (h:Sep [BookP p m ss] w) (h0:0≤n) (h1:n < big64) (hf:f.size≤maxLen) (hl:ss.length≤1000000) (ttl time:Int):
 Calls Tryz.prog 75 #[.pointer (some ⟨p,0,none⟩),.agg #[.int .u64 n,.string f],.int .i64 ttl,.int .i64 time] w (ZhJ w p m ss n f (fun s=>s.opened ttl time) (.int .i64 (openE (look ss n f) (cnt ss f))) (openE (look ss n f) (cnt ss f))):=by
 by_cases he:openE (look ss n f) (cnt ss f)=0
 · rw[he]
   have hd:(look ss n f).dead=false:=by
    cases q:(look ss n f).dead
    · rfl
    simp[openE,q] at he
   have ho:(look ss n f).op=false:=by
    cases q:(look ss n f).op
    · rfl
    simp[openE,hd,q] at he
   have hc:cnt ss f < 32:=by
    rcases Nat.lt_or_ge (cnt ss f) 32 with q|q
    · exact q
    simp[openE,hd,ho,q] at he
   cases hn:find ss n f with
   |none=>
    refine(Znl h h0 h1 hf (by omega) ttl time hn hc).mono ?_;rintro e w' ⟨b,t,rfl,hT⟩;exact⟨_,rfl,hT,.inr ⟨rfl,.inr ⟨hn,b,t,rfl⟩⟩⟩
   |some s=>
    have hk:look ss n f=s:=by unfold look;rw[hn];rfl
    rw[hk] at hd ho;obtain⟨l1,l2,rfl,_,_,_⟩:=find_split hn;refine(Znk h h0 h1 hf (by omega) ttl time hn hc hd ho).mono ?_;rintro e w' ⟨rfl,hT⟩;exact⟨_,rfl,hT,.inr ⟨rfl,.inl ⟨l1,s,l2,hn,rfl,rfl⟩⟩⟩
 refine(Zo9 h h0 h1 hf (by omega) ttl time he).mono ?_;rintro e w' ⟨rfl,hT⟩;exact⟨_,rfl,hT,.inl ⟨he,rfl⟩⟩
theorem Zdx {b:Bool} (φ:Ses→Bool) (h0:φ (fresh n f 0 0)≠b) (h:φ (look ss n f)=b):∃s l1 l2,find ss n f=some s∧ss=l1++s::l2∧φ s=b∧look ss n f=s:=by
 cases hn:find ss n f with
 |none=>
  unfold look at h;rw[hn] at h;exact absurd h h0
 |some s=>
  obtain⟨l1,l2,e,_,_,_⟩:=find_split hn;have hk:look ss n f=s:=by unfold look;rw[hn];rfl
  exact⟨s,l1,l2,rfl,e,by rw[←hk];exact h,hk⟩
theorem Zmc (h:Sep [BookP p m ss] w) (h0:0≤n) (h1:n < big64) (hf:f.size≤maxLen) (time:Int):
 Calls Tryz.prog 76 #[.pointer (some ⟨p,0,none⟩),.agg #[.int .u64 n,.string f],.int .i64 time] w (ZhJ w p m ss n f (fun s=>s.kept time) (.int .i64 (if(look ss n f).op then 0 else 50)) (if(look ss n f).op then 0 else 50)):=by
 cases ho:(look ss n f).op
 · refine(Zpi h h0 h1 hf time ho).mono ?_;rintro e w' ⟨rfl,hT⟩;exact⟨_,rfl,hT,.inl ⟨by simp,rfl⟩⟩
 obtain⟨s,l1,l2,hn,rfl,hs,_⟩:=Zdx (fun s=>s.op) (by simp[fresh]) ho;refine(ZnA h h0 h1 hf time hn hs).mono ?_;rintro e w' ⟨rfl,hT⟩;exact⟨_,rfl,hT,.inr ⟨rfl,.inl ⟨l1,s,l2,hn,rfl,rfl⟩⟩⟩
theorem Zoa (h:Sep [BookP p m ss] w) (h0:0≤n) (h1:n < big64) (hf:f.size≤maxLen):
 Calls Tryz.prog 74 #[.pointer (some ⟨p,0,none⟩),.agg #[.int .u64 n,.string f]] w (ZhJ w p m ss n f Ses.ended (.int .i64 (if(look ss n f).op then 0 else 50)) (if(look ss n f).op then 0 else 50)):=by
 cases ho:(look ss n f).op
 · refine(ZoD h h0 h1 hf ho).mono ?_;rintro e w' ⟨rfl,hT⟩;exact⟨_,rfl,hT,.inl ⟨by simp,rfl⟩⟩
 obtain⟨s,l1,l2,hn,rfl,hs,_⟩:=Zdx (fun s=>s.op) (by simp[fresh]) ho;refine(ZlN h h0 h1 hf hn hs).mono ?_;rintro e w' ⟨rfl,hT⟩;exact⟨_,rfl,hT,.inr ⟨rfl,.inl ⟨l1,s,l2,hn,rfl,rfl⟩⟩⟩
def expB (s:Ses) (time:Int):Int:=if s.op then(if time < s.dl then 54 else 0) else 50
theorem ZiA (h:Sep [BookP p m ss] w) (h0:0≤n) (h1:n < big64) (hf:f.size≤maxLen) (time:Int):
 Calls Tryz.prog 36 #[.pointer (some ⟨p,0,none⟩),.agg #[.int .u64 n,.string f],.int .i64 time] w (ZhJ w p m ss n f Ses.ended (.int .i64 (expB (look ss n f) time)) (expB (look ss n f) time)):=by
 cases ho:(look ss n f).op
 · refine(ZlK h h0 h1 hf time ho).mono ?_;rintro e w' ⟨rfl,hT⟩;have he:expB (look ss n f) time=50:=by simp[expB,ho]
   rw[he];exact⟨_,rfl,hT,.inl ⟨by simp,rfl⟩⟩
 by_cases ht:time < (look ss n f).dl
 · refine(Zht h h0 h1 hf time ho ht).mono ?_;rintro e w' ⟨rfl,hT⟩;have he:expB (look ss n f) time=54:=by simp[expB,ho,ht]
   rw[he];exact⟨_,rfl,hT,.inl ⟨by simp,rfl⟩⟩
 have he:expB (look ss n f) time=0:=by simp[expB,ho,ht]
 rw[he];obtain⟨s,l1,l2,hn,rfl,hs,hk⟩:=Zdx (fun s=>s.op) (by simp[fresh]) ho;rw[hk] at ht;refine(Zj8 h h0 h1 hf time hn hs (by omega)).mono ?_;rintro e w' ⟨rfl,hT⟩;exact⟨_,rfl,hT,.inr ⟨rfl,.inl ⟨l1,s,l2,hn,rfl,rfl⟩⟩⟩
def Ses.tell (s:Ses) (r:Int) (c:Ans):Ses:={s with told:=s.told++[(r,c)]}
def tellE (s:Ses) (r:Int):Int:=if(said s.told r).isSome then 1 else if 256≤s.told.length then 1 else 0
theorem Zma (h:Sep [BookP p m ss] w) (h0:0≤n) (h1:n < big64) (hf:f.size≤maxLen) {r:Int} (r0:0≤r) (r1:r < big64) (c:Ans):
 Calls Tryz.prog 41 #[.pointer (some ⟨p,0,none⟩),.agg #[.int .u64 n,.string f],.int .u64 r,.agg #[.int .i64 c.e,.int .u64 c.n,.bool c.g]] w (ZhJ w p m ss n f (fun s=>s.tell r c) (.tuple #[]) (tellE (look ss n f) r)):=by
 cases hn:find ss n f with
 |none=>
  have hk:look ss n f=fresh n f 0 0:=by unfold look;rw[hn];rfl
  refine(ZgM h h0 h1 hf hn r0 r1 c).mono ?_;rintro e w' ⟨b,t,rfl,hT⟩;exact⟨_,rfl,hT,.inr ⟨by rw[hk];simp[tellE,fresh,said],.inr ⟨hn,b,t,rfl⟩⟩⟩
 |some s=>
  have hk:look ss n f=s:=by unfold look;rw[hn];rfl
  rw[hk]
  cases hs:said s.told r with
  |some a=>
   refine(ZmA h h0 h1 hf hn r0 r1 hs c).mono ?_;rintro e w' ⟨rfl,hT⟩;exact⟨_,rfl,hT,.inl ⟨by simp[tellE,hs],rfl⟩⟩
  |none=>
   by_cases hl:s.told.length < 256
   · obtain⟨l1,l2,rfl,_,_,_⟩:=find_split hn;refine(ZmB h h0 h1 hf hn r0 r1 hs hl c).mono ?_;rintro e w' ⟨rfl,hT⟩;exact⟨_,rfl,hT,.inr ⟨by simp[tellE,hs,Nat.not_le.2 hl],.inl ⟨l1,s,l2,hn,rfl,rfl⟩⟩⟩
   refine(Zky h h0 h1 hf hn r0 r1 hs hl c).mono ?_;rintro e w' ⟨rfl,hT⟩;exact⟨_,rfl,hT,.inl ⟨by simp[tellE,hs,Nat.le_of_not_lt hl],rfl⟩⟩
end
end Lease
end
end Go.Proofs.YtknoefbcmomalabGreatDoor
section
namespace Go
open _root_.Go.Proofs.YtknoefbcmomalabGreatDoor
open Go.RowKit
theorem csZ {P:Program} {L0 L F:List Part} {w0 w:World} {id:Nat} {Q:Exit→Act→World→Prop} {a a1:Act} {l:List Oper} (n:Nat) (T:TypeId) (b j:Nat) (us:List Value) {x y:Operand} {c:List Value} {E:TypeId} {v:Value} (hA:At L0 w0 L w)
 (h2:∀w',At L0 w0 (Part.cells b (setL c j us) E::F) w'→wpList P l.toArray Q (l.drop (n + 1)) a1 w') (hm:P.follows .mixedOrders=true:=by kernel_rfl)
 (hB:(Region.noSelect l.toArray&&tailX .any l.toArray n&&freeS .any l.toArray n&&headB .any l.toArray n 0 (Array.replicate l.toArray.size false)&&dstB a.tmps.size (l.take n)&&Region.seqB .any l.toArray (l.length - (n + 1)) (n + 1) ((ZaS l.toArray.size n).setIfInBounds n true))=true:=by kernel_rfl)
 (hs:(l[n]?).map (fun o=>o.op)=some (.store T x y):=by exact rfl) (s:Sel (Part.cells b c E) L F:=by with_reducible repeat(first|exact Sel.here|apply Sel.there))
 (h1:∀(R:Part) (wR:World),At L0 w0 (R::F) wR→wpQuiet P l.toArray (Cl L0 w0 (R::F)) (fun a'=>a'=a1) (l.take n) a:=by intro R wR hR;(try clear hF);(simp only[List.take_succ_cons,List.take_zero,List.drop_succ_cons,List.drop_zero]);(have hn1:=Cl.none hR);(have hn2:=Cl.none2 hR);(repeat(first|go_big_quiet_skip|(go_big_quiet_want;(first|(refine qM 36 4 ?_;go_frame;go_big_quiet_on)|(refine qM 44 4 ?_;go_frame;go_big_quiet_on)|(refine qL ?_;go_frame;go_big_quiet_on)|(go_big_quiet_op;go_big_quiet_on)))));(refine wpQuiet_nil ?_);exact rfl)
 (hx:a1.eval x=.pointer (some ⟨b,j,none⟩):=by first|exact rfl|((try simp only[Act.eval,Array.getD_eq_getD_getElem?,List.getElem?_toArray,List.getElem?_cons_succ,List.getElem?_cons_zero,Option.getD_some]);exact rfl)) (hy:a1.eval y=v:=by first|exact rfl|((try simp only[Act.eval,Array.getD_eq_getD_getElem?,List.getElem?_toArray,List.getElem?_cons_succ,List.getElem?_cons_zero,Option.getD_some]);exact rfl)) (hu:v.cells=us.toArray:=by exact rfl) (hsz:(P.info? T).map (·.size)=some us.length:=by kernel_rfl) (hus:us.all (·.oneCell')=true:=by rfl) (hl:j + us.length≤c.length:=by first|decide|(simp;done)|(simp;omega)):
 (Code.region id l.toArray true).wp P Q a w:=Zcg n T x y hm hB hs hA s h1 hx hy hu hsz hus hl h2
end Go
end
section
namespace Go
open _root_.Go.Proofs.YtknoefbcmomalabGreatDoor
open Go.RowKit
section
variable {P:Program} {ops:Array Oper} {Q:Exit→Act→World→Prop} {md:Region.Mode} {S:World→Prop} {L0 L F:List Part} {w0 w:World}
theorem Zab {i fuel:Nat} {listed:Array Bool} {a:Act} (hr:Region.ready md ops listed=[i]) (h:wpOp P ops Q i (fun a' w'=>S w'∧wpAnyH P md ops Q S fuel (listed.setIfInBounds i true) a' w') a w):wpAnyH P md ops Q S (fuel + 1) listed a w:=
 wpAnyH_all hr (by simp) (fun k hk=>by rw[List.mem_singleton.1 hk];exact h)
theorem ZaH {i j fuel:Nat} {listed:Array Bool} {a:Act} (hr:Region.ready md ops listed=[i,j]) (h1:wpOp P ops Q i (fun a' w'=>S w'∧wpAnyH P md ops Q S fuel (listed.setIfInBounds i true) a' w') a w)
 (h2:wpOp P ops Q j (fun a' w'=>S w'∧wpAnyH P md ops Q S fuel (listed.setIfInBounds j true) a' w') a w):wpAnyH P md ops Q S (fuel + 1) listed a w:=
 wpAnyH_all hr (by simp) (fun k hk=>by
  rcases List.mem_cons.1 hk with rfl|hk
  · exact h1
  rw[List.mem_singleton.1 hk];exact h2)
theorem ZdH {i:Nat} {oi:Oper} {v:Value} {d:Option Tmp} {fuel:Nat} {listed:Array Bool} {a:Act} (hi:ops[i]? =some oi) (hd:oi.dst=d)
 (hs:Region.noSelect ops=true) (hf:Region.free md ops listed i=true) (hr:(Region.ready md ops listed).contains i=true)
 (hQ:∀c a w,Q (.panic c) (a.put oi.dst v) w→Q (.panic c) a w) (hw:Region.wanted oi (yielded ops a.tmps)=true) (hrun:∀w,S w→(execOp a.eval oi).run P w=.ok (.value v) w) (hS:S w)
 (h:wpAnyH P md ops Q S fuel (listed.setIfInBounds i true) (a.put d v) w):wpAnyH P md ops Q S (fuel + 1) listed a w:=by
 subst hd;exact wpAnyH_take hi hs hf hr hQ (.inl ⟨hw,hrun⟩) hS h
theorem Zca {k:Nat} {d:Option Tmp} {o:Oper} {a:Act} {K:Act→World→Prop} {e:TypeId} {size n:Nat} {v:Value} {xs:List Value} {i:TypeInfo} {z:Value} {bytes:Nat} (hok:ops[k]? =some o) (hd:o.dst=d) (hw:Region.wanted o (yielded ops a.tmps)=true) (hg:o.guard=none) (s' x:Operand) (t:TypeId) (ho:o.op=.call {callee:=.builtin .append,args:= #[s',x],argTypes:= #[t,t]})
 (ht:P.underlying t=some (.slice e)) (hi:P.info? e=some i) (hz:i.zero=some z) (hsize:i.size=size) (hby:i.bytes=bytes) (hzs:z.cells.size=size) (hsz:0 < size)
 (h:At L0 w0 L w) (s:Sel (Part.row e size v n xs) L F) (hs:a.eval s'=v) {xv:Value} {m:Nat} {news:List Value} (hxv:a.eval x=xv) (hl:news.length=m * size) (hx:Reads w xv m news) (h1:∀u ∈ news,u.oneCell'=true)
 (h63:n + m≤maxLen) (hbytes:(n + m) * bytes≤140737488355328)
 (hK:∀v' w',At L0 w0 (Part.row e size v' (n + m) (xs++news)::F) w'→K (a.put d v') w'):wpOp P ops Q k K a w:=by
 subst hd
 have hst:=Zen w (K:=K) (Q:=Q) (E:=True) (ops:=ops) (a:=a) (o:=o) hg s' x t ho 0 e i z size bytes ht hi hz hsize hby hzs hsz v n xs hs (h.get s) xv m news hxv hl hx h1 h63 hbytes (Nat.zero_le _) (fun v' w' h2 h3 h4=>
  hK v' w' (h.turn s _ h2 (fun b hb=>by
   rcases h4 with h4|h4
   · exact .inl (show v.ownBlock=some b from by rw[←h4];exact hb)
   right
   have hb':v'.ownBlock=some b:=hb;rw[h4] at hb';cases hb'
   exact Nat.le_refl _) (Zbv h3)))
 rw[if_pos hw] at hst;unfold wpOp;simp only[hok,hw,if_true];exact .inl hst
theorem Zas {i:Nat} {d:Option Tmp} {o:Oper} {a:Act} {K:Act→World→Prop} (ho:ops[i]? =some o) (hd:o.dst=d) (hw:Region.wanted o (yielded ops a.tmps)=true) {fn:FuncId} {args:Array Value} (hrun:(execOp a.eval o).run P w=.ok (.enter fn args) w)
 {R:Value→World→Prop} (hc:Calls P fn args w fun e w'=>∃u,e=.returned u∧R u w') (hK:∀u w',R u w'→K (a.put d u) w'):wpOp P ops Q i K a w:=by
 subst hd;exact Zkr ho hw hrun hc (fun e w' ⟨u,he,hr⟩=>⟨u,he,hK u w' hr⟩)
theorem ZbZ {i:Nat} {o:Oper} {a:Act} {K:Act→World→Prop} (ho:ops[i]? =some o) (hd:o.dst=none) (hw:Region.wanted o (yielded ops a.tmps)=true) {ty:TypeId} {x y:Operand} (hop:o.op=.store ty x y) {b j:Nat} (hx:a.eval x=.pointer (some ⟨b,j,none⟩)) {v:Value} (hy:a.eval y=v) {vs:List Value} (hv:v.cells=vs.toArray)
 (h:At L0 w0 L w) {c:List Value} {T:TypeId} (s:Sel (Part.cells b c T) L F) (hi:(P.info? ty).map (·.size)=some vs.length) (h1:vs.all (·.oneCell')=true) (hj:j + vs.length≤c.length)
 (hK:∀w',At L0 w0 (Part.cells b (setL c j vs) T::F) w'→K (a.put none undef) w'):wpOp P ops Q i K a w:=by
 have hb:Zaa w b c T:=h.get s;have hs:v.cells.size=vs.length:=by rw[hv];simp
 have h1':v.cells.all (·.oneCell')=true:=by
  rw[hv,Array.all_eq_true_iff_forall_mem];intro u hu;exact List.all_eq_true.1 h1 u (by simpa using hu)
 have hrun:=ZaZ (P:=P) w b j ty v (hb.there j _ (by omega)) (by rw[hs];exact hi) h1';rw[show v.cells.toList=vs from by rw[hv]] at hrun;refine Zd7 ho hw (w':=_) ?_ (by rw[hd];exact hK _ (h.stores s j vs));simp[execOp,hop,hx,hy,hrun,Result.andThen]
end
end Go
end
section
namespace Go
open _root_.Go.Proofs.YtknoefbcmomalabGreatDoor
open Go.RowKit
theorem tZ {P:Program} {ops:Array Oper} {Q:Exit→Act→World→Prop} {md:Region.Mode} {S:World→Prop} {w:World} {fuel:Nat} {listed:Array Bool} {a:Act} {oi:Oper} (i d:Nat) (v:Value) (hi:ops[i]? =some oi:=by exact rfl) (hd:oi.dst=some d:=by exact rfl) (hs:Region.noSelect ops=true:=by kernel_rfl) (hf:Region.free md ops listed i=true:=by kernel_rfl) (hr:(Region.ready md ops listed).contains i=true:=by kernel_rfl) (hQ:∀c a w,Q (.panic c) (a.put oi.dst v) w→Q (.panic c) a w:=by exact fun _ _ _ h=>h) (hw:Region.wanted oi (yielded ops a.tmps)=true:=by exact rfl) (r:∀w,S w→(execOp a.eval oi).run P w=.ok (.value v) w) (s:S w) (h:wpAnyH P md ops Q S fuel (listed.setIfInBounds i true) (a.put (some d) v) w):wpAnyH P md ops Q S (fuel + 1) listed a w:=ZdH hi hd hs hf hr hQ hw r s h
theorem tP {P:Program} {ops:Array Oper} {Q:Exit→Act→World→Prop} {md:Region.Mode} {S:World→Prop} {w:World} {fuel:Nat} {listed:Array Bool} {a:Act} {oi:Oper} (i d:Nat) (v:Value) (hi:ops[i]? =some oi:=by exact rfl) (hd:oi.dst=some d:=by exact rfl) (hs:Region.noSelect ops=true:=by kernel_rfl) (hf:Region.free md ops listed i=true:=by kernel_rfl) (hr:(Region.ready md ops listed).contains i=true:=by kernel_rfl) (hQ:∀c a w,Q (.panic c) (a.put oi.dst v) w→Q (.panic c) a w:=by exact fun _ _ _ h=>h) (hw:Region.wanted oi (yielded ops a.tmps)=true:=by exact rfl) (r:∀w,S w→(execOp a.eval oi).run P w=.ok (.value v) w:=by intro _ _;first|(simp[execOp,go_sem,Act.eval,Act.put];done)|kernel_rfl) (s:S w) (h:wpAnyH P md ops Q S fuel (listed.setIfInBounds i true) (a.put (some d) v) w):wpAnyH P md ops Q S (fuel + 1) listed a w:=ZdH hi hd hs hf hr hQ hw r s h
end Go
end
section
namespace Go
open _root_.Go.Proofs.YtknoefbcmomalabGreatDoor
open Go.RowKit
theorem cZ {P:Program} {ops:Array Oper} {Q:Exit→Act→World→Prop} {w:World} {o:Oper} {a:Act} {K:Act→World→Prop} {R:Value→World→Prop} {fn:FuncId} {args:Array Value} (i d:Nat) (hc:Calls P fn args w fun e w'=>∃u,e=.returned u∧R u w') (hK:∀u w',R u w'→K (a.put (some d) u) w') (ho:ops[i]? =some o:=by exact rfl) (hd:o.dst=some d:=by exact rfl) (hw:Region.wanted o (yielded ops a.tmps)=true:=by kernel_rfl) (hrun:(execOp a.eval o).run P w=.ok (.enter fn args) w:=by simp[execOp,go_sem,Act.eval,Act.put]):wpOp P ops Q i K a w:=Zas ho hd hw hrun hc hK
theorem cY {P:Program} {ops:Array Oper} {Q:Exit→Act→World→Prop} {w:World} {o:Oper} {a:Act} {K:Act→World→Prop} {args:Array Value} (i d:Nat) (fn:FuncId) (R:Value→World→Prop) (hc:Calls P fn args w fun e w'=>∃u,e=.returned u∧R u w') (hK:∀u w',R u w'→K (a.put (some d) u) w') (ho:ops[i]? =some o:=by exact rfl) (hd:o.dst=some d:=by exact rfl) (hw:Region.wanted o (yielded ops a.tmps)=true:=by kernel_rfl) (hrun:(execOp a.eval o).run P w=.ok (.enter fn args) w:=by simp[execOp,go_sem,Act.eval,Act.put]):wpOp P ops Q i K a w:=Zas ho hd hw hrun hc hK
theorem stZ {P:Program} {ops:Array Oper} {Q:Exit→Act→World→Prop} {L0 L F:List Part} {w0 w:World} {o:Oper} {a:Act} {K:Act→World→Prop} {ty:TypeId} {x y:Operand} {v:Value} {c:List Value} {T:TypeId} (i b j:Nat) (vs:List Value) (h:At L0 w0 L w) (hK:∀w',At L0 w0 (Part.cells b (setL c j vs) T::F) w'→K (a.put none undef) w') (ho:ops[i]? =some o:=by exact rfl) (hd:o.dst=none:=by exact rfl) (hw:Region.wanted o (yielded ops a.tmps)=true:=by kernel_rfl) (hop:o.op=.store ty x y:=by exact rfl) (hx:a.eval x=.pointer (some ⟨b,j,none⟩):=by exact rfl) (hy:a.eval y=v:=by exact rfl) (hv:v.cells=vs.toArray:=by exact rfl) (s:Sel (Part.cells b c T) L F:=by repeat(first|exact Sel.here|apply Sel.there)) (hi:(P.info? ty).map (·.size)=some vs.length:=by kernel_rfl) (h1:vs.all (·.oneCell')=true:=by exact rfl) (hj:j + vs.length≤c.length:=by simp):wpOp P ops Q i K a w:=ZbZ ho hd hw hop hx hy hv h s hi h1 hj hK
end Go
end
section
namespace Go
open _root_.Go.Proofs.YtknoefbcmomalabGreatDoor
open Go.RowKit
section
variable {P:Program} {ops:Array Oper} {Q:Exit→Act→World→Prop} {md:Region.Mode} {S:World→Prop} {L0 L F:List Part} {w0 w:World}
theorem ZjU {i:Nat} {d:Option Tmp} {o:Oper} {a:Act} {K:Act→World→Prop} {E:TypeId} (ho:ops[i]? =some o) (hd:o.dst=d) (hw:Region.wanted o (yielded ops a.tmps)=true) (hop:o.op=.alloc E) {z:Value} (hz:(P.info? E).map (·.zero)=some (some z)) {vs:List Value} (hv:z.cells=vs.toArray) (h:At L0 w0 L w)
 (hK:∀b w',At L0 w0 (Part.cells b vs E::L) w'→K (a.put d (.pointer (some ⟨b,0,none⟩))) w'):wpOp P ops Q i K a w:=by
 subst hd;refine Zb6 ho hw (v:=.pointer (some ⟨w.heap.size,0,none⟩)) (w':=w.alloc (.cells vs.toArray E)) ?_ (hK _ _ (h.alloc vs E))
 cases hq:P.info? E with
 |none=>simp[hq] at hz
 |some i=>
  have hi:i.zero=some z:=by simpa [hq] using hz
  simp[execOp,hop,Instr.alloc,zeroValue,typeInfo,hq,hi,newVar,newRow,hv,Result.andThen]
end
end Go
section
namespace Go
open _root_.Go.Proofs.YtknoefbcmomalabGreatDoor
open Go.RowKit
theorem aZ {P:Program} {ops:Array Oper} {Q:Exit→Act→World→Prop} {L0 L:List Part} {w0 w:World} {o:Oper} {a:Act} {K:Act→World→Prop} (i d:Nat) (E:TypeId) (vs:List Value) (h:At L0 w0 L w) (hK:∀b w',At L0 w0 (Part.cells b vs E::L) w'→K (a.put (some d) (.pointer (some ⟨b,0,none⟩))) w') (ho:ops[i]? =some o:=by exact rfl) (hd:o.dst=some d:=by exact rfl) (hw:Region.wanted o (yielded ops a.tmps)=true:=by kernel_rfl) (hop:o.op=.alloc E:=by exact rfl) (hz:(P.info? E).map (·.zero)=some (some (.agg vs.toArray)):=by kernel_rfl):wpOp P ops Q i K a w:=ZjU ho hd hw hop hz rfl h hK
end Go
end
end
section
namespace Go
open _root_.Go.Proofs.YtknoefbcmomalabGreatDoor
open Go.RowKit
section
variable {P:Program} {ops:Array Oper} {rest:List Oper} {o:Oper} {a:Act} {Q:Exit→Act→World→Prop} {L0 L F:List Part} {w0 w:World}
theorem wpList_zero_at {t:TypeId} {e:TypeId} (size:Nat) (hg:o.guard=none) (hop:o.op=.buildSlice t 0 #[])
 (hrun:∀w,(Instr.buildSlice t 0 #[]).run P w=.ok (.slice (some ⟨w.heap.size,0,none⟩) 0 0) (w.alloc (.cells #[] e))) (h:At L0 w0 L w)
 (hK:∀b w',At L0 w0 (Part.row e size (.slice (some ⟨b,0,none⟩) 0 0) 0 []::L) w'→wpList P ops Q rest (a.put o.dst (.slice (some ⟨b,0,none⟩) 0 0)) w'):wpList P ops Q (o::rest) a w:=by
 refine Zal hg (v:=.slice (some ⟨w.heap.size,0,none⟩) 0 0) (w':=w.alloc (.cells #[] e)) (by simp[execOp,hop,hrun,Result.andThen]) (hK _ _ ?_);refine h.new ((Ext.refl w).alloc _) _ ⟨by simp,.inr ⟨w.heap.size,0,#[],rfl,Nat.zero_le _,heap_alloc_new w _,Nat.le_refl _,Nat.zero_le _,by simp,by simp⟩⟩ (fun b hb=> ?_);have hb2:(Value.slice (some ⟨w.heap.size,0,none⟩) 0 0).ownBlock=some b:=hb;cases hb2;exact Nat.le_refl _
theorem Zbu {i:Nat} {d:Option Tmp} {o:Oper} {a:Act} {K:Act→World→Prop} (ho:ops[i]? =some o) (hd:o.dst=d) (hw:Region.wanted o (yielded ops a.tmps)=true) {ty:TypeId} {x:Operand} (hop:o.op=.load ty x) {b j:Nat} (hx:a.eval x=.pointer (some ⟨b,j,none⟩)) {c:List Value} {T:TypeId} (h:At L0 w0 L w) (s:Sel (Part.cells b c T) L F)
 (hu:(P.underlying ty).map (·.isRow)=some true) {n:Nat} (hi:(P.info? ty).map (·.size)=some n) {vs:List Value} (hv:(c.drop j).take n=vs) (hl:vs.length=n)
 (hK:K (a.put d (.agg vs.toArray)) w):wpOp P ops Q i K a w:=by
 subst hd;have hr:=Zag (P:=P) (o:=o) (a:=a) hop hx (h.get s) hu hi hv hl;exact Zb6 ho hw (v:=.agg vs.toArray) (w':=w) hr hK
end
end Go
namespace Go.Proofs.YtknoefbcmomalabGreatDoor
open Go.RowKit
theorem through1 {L0 L F:List Part} {w0 w:World} {A:Part} {P:Program} {f:FuncId} {args:Array Value} {v:Value} (s:Sel A L F) (h:At L0 w0 L w) (hc:∀w1,Sep [A] w1→Calls P f args w1 fun e w'=>e=.returned v∧At [A] w1 [A] w'):
 Calls P f args w fun e w'=>e=.returned v∧At L0 w0 L w':=h.through (Eqv.perm s.perm) (hc w)
end Go.Proofs.YtknoefbcmomalabGreatDoor
end
namespace Go.Proofs.YtknoefbcmomalabGreatDoor
section
namespace Txt
open Go.RowKit Go.Shelf
open Go.Maps (Keyed)
attribute [local go_sem] Oper.semAt_some
def seV (p:ByteArray):Value:=.string p
def seL (p:ByteArray):List Value:=[.string p]
def unS:Value→ByteArray
 |.string a=>a
 |_=>.empty
theorem unS_seV (p:ByteArray):unS (seV p)=p:=rfl
theorem perm_of_seV {l m:List (ByteArray)} (h:(l.map seV).Perm (m.map seV)):l.Perm m:=by
 have:=h.map unS
 simpa [List.map_map,Function.comp_def,unS_seV] using this
def seenOf (w:World) (r:Nat):Nat:=match w.heap[r]? with|some (.mapIter _ _ seen _)=>seen.size|_=>0
theorem seenOf_eq {P:Program} {k:TypeId} {w:World} {r b:Nat} {es done:List (Value × Value)} (h:Zat P k w r b es done):seenOf w r=done.length:=by
 obtain⟨_,_,ents,clock,c0,vs,hb,hr,hc,hd,_⟩:=h;unfold seenOf;rw[hr,←hd];simp
theorem iter_walk {P:Program} {k:TypeId} {w:World} {r b:Nat} {es done:List (Value × Value)} (h:Zat P k w r b es done):∃o:Obj,w.heap[r]? =some o∧o.isWalk=true:=by
 obtain⟨_,_,ents,clock,c0,vs,hb,hr,_⟩:=h;exact⟨_,hr,rfl⟩
theorem iter_keeps {P:Program} {k:TypeId} {w w':World} {r b:Nat} {es done:List (Value × Value)} (h:Zat P k w r b es done) (hk:KeepsWalks w w'):Zat P k w' r b es done:=by
 have h0:=h;obtain⟨_,_,ents,clock,c0,vs,hb,hr,_⟩:=h0;exact h.same ((hk.same b _ hb rfl).trans hb.symm) ((hk.same r _ hr rfl).trans hr.symm)
theorem grown_of_exc {w w':World} {r:Nat} (h:Exc (fun q=>q=r) w w'):w.grownBy w' (some r):=⟨h.os,h.tape,h.output,h.size,fun k hk hn=>h.block k hk (fun e=>hn (by rw[e]))⟩
theorem grown_of_ext {w w':World} (h:Ext w w'):w.grownBy w' none:=⟨Below.os h,Below.tape h,Below.output h,Below.size h,fun k hk _=>Below.block h k hk⟩
theorem keys1_in (F:Fence) (n:Nat) (h1:F.fn 129) (hro:F.round=none) (hn:1≤n) (l Bm b:Nat) (es:List (Value × Value)) (ks:List (ByteArray)) (hes:es.map (·.1)=ks.map seV) (J Jx:List (ByteArray)→World→Prop)
 (W:World) (hJ:AbidesFrom W.heap.size J)
 (hY:∀pre x W1,J pre W1→pre.length < ks.length→YieldAt F (n - 1) Tryz.prog l #[seV x] W1 fun e W'=>(e=.returned (.bool true)∧J (pre++[x]) W'∧KeepsWalks W1 W')∨(e=.returned (.bool false)∧Jx (pre++[x]) W'))
 (hm:W.cell? ⟨Bm,0,none⟩=some (.map (some b))) (hM:MapAt Tryz.prog 9 W b es) (h0:J [] W):
 CallsIn F n Tryz.prog 129 #[.func (.yield l) #[] #[],.pointer (some ⟨Bm,0,none⟩)] W fun e W'=>(∃v,e=.returned v)∧((∃ys,ys.Perm ks∧J ys W')∨(∃pre,True∧Jx pre W')):=by
 obtain⟨W0,hrun,hext,hI⟩:=Zat.start hM Tryz.underlying111;have hJ0:J [] W0:=hJ _ W W0 none h0 (grown_of_ext hext) (fun r e=>by cases e);refine callsIn_of_wp Tryz.func129 rfl h1 ?_ hro;simp only[Tryz.ntmps129,List.size_toArray,List.length_cons,List.length_nil,Nat.reduceAdd,Nat.reduceSub,Array.replicate_succ,Array.replicate_zero,List.push_toArray,List.append_toArray,List.nil_append,List.cons_append];gi_wp2
 clear hrun;(try go_frame)
 gi_loopw [3] (fun _ wr=>∃(done:List (Value × Value)) (ds:List (ByteArray)),Zat Tryz.prog 9 wr W.heap.size b es done∧done.map (·.1)=ds.map seV∧J ds wr)
  (fun _ wr=>es.length - seenOf wr W.heap.size)
 case atStart=>exact⟨[],[],hI,rfl,hJ0⟩
 case round=>
  obtain⟨done,ds,hI1,hd,hJs⟩:=hrel;rcases hI1.next 0 with⟨hp,hrun⟩|⟨p,w',hp,hne,hrun,hI2,hx⟩
  · have hpp:ds.Perm ks:=(perm_of_seV (by rw[←hes,←hd];exact hp.map _)).symm;clear hes hd;gi_wp2
    go_end0
    exact⟨⟨_,rfl⟩,.inl ⟨ds,hpp,hJs⟩⟩
  obtain⟨pk,pv⟩:=p;have hpk:pk ∈ es.map (·.1):=List.mem_map.2 ⟨_,hp,rfl⟩;rw[hes] at hpk;obtain⟨x,_,rfl⟩:=List.mem_map.1 hpk
  have hlen:ds.length < ks.length:=by
   have e1:=congrArg List.length hes;have e2:=congrArg List.length hd;have e3:=hI2.len;simp at e1 e2 e3
   omega
  have hJ1:J ds w':=hJ ds wr w' (some W.heap.size) hJs (grown_of_exc hx) (fun r e=>by cases e;exact⟨Nat.le_refl _,iter_walk hI1⟩);have hI3:=hI2;obtain⟨fn,tmps,assign,body,hy,hR⟩:=hY ds x _ hJ1 hlen;have hen:=hI2.entry;have hs0:=seenOf_eq hI1;have hes':=Hd hes;have hd':=Hd hd;have hs':=Hd hs0;have hle:=hI2.len;clear hes hd hs0 hpk hp hne hx;unfold seV at hrun hen hy;gi_wp2
  refine hR.mono ?_;rintro e W3 (⟨rfl,hJ3,hk3⟩|⟨rfl,hJx3⟩)
  · gi_wp2
    go_roundw
    case rel=>exact⟨done++[(seV x,pv)],ds++[x],iter_keeps hI3 hk3,by simp[hd'.out],hJ3⟩
    case measure=>
     have e1:=seenOf_eq (iter_keeps hI3 hk3);have e2:=hs'.out;rw[e1,e2];simp at hle ⊢
     omega
  gi_wp2
  refine bodyPost_ret (results_none rfl _ _ _) rfl ?_;exact⟨⟨_,rfl⟩,.inr ⟨_,trivial,hJx3⟩⟩
theorem keys_in (F:Fence) (n:Nat) (h1:F.fn 87) (hro:F.round=none) (mb:Option Nat) (w:World):
 CallsIn F n Tryz.prog 87 #[.map mb] w fun e w'=>e=.returned (.func (.func 129) #[] #[.pointer (some ⟨w.heap.size,0,none⟩)])∧w'=w.alloc (.cells #[.map mb] 111):=by
 refine callsIn_of_wp Tryz.func87 rfl h1 ?_ hro;simp only[Tryz.ntmps87,List.size_toArray,List.length_cons,List.length_nil,Nat.reduceAdd,Nat.reduceSub,Array.replicate_succ,Array.replicate_zero,List.push_toArray,List.append_toArray,List.nil_append,List.cons_append];gi_wp2
 go_ret;exact⟨rfl,rfl⟩
theorem keys_stops (F:Fence) (n:Nat) (h1:F.fn 129) (hro:F.round=none) (hn:1≤n) (Bm b:Nat) (es:List (Value × Value)) (ks:List (ByteArray)) (hes:es.map (·.1)=ks.map seV) (w:World) (hBm:Bm < w.heap.size)
 (hm:w.cell? ⟨Bm,0,none⟩=some (.map (some b))) (hM:MapAt Tryz.prog 9 w b es):
 SeqStopsK F n Tryz.prog 129 #[.pointer (some ⟨Bm,0,none⟩)] (fun x:ByteArray=> #[seV x]) KeepsWalks (fun ys=>ys.Perm ks) (fun _=>True) ks.length w:=fun l J Jx W hW hJ _ hY h0=>
 keys1_in F n h1 hro hn l Bm b es ks hes J Jx W hJ hY ((hW.cell (p:=⟨Bm,0,none⟩) hBm).trans hm) (hM.same (hW.block b hM.lt)) h0
theorem infoID:(Tryz.prog.info? 9).map (fun i=>(i.zero,i.size,i.bytes))=some (some (.string .empty),1,16):=by kernel_rfl
theorem one_new (W:World) (x:Value) (t:TypeId):∀(j:Nat) (u:Value),[x][j]? =some u→(W.alloc (.cells #[x] t)).cell? ((⟨W.heap.size,0,none⟩:Addr).add j)=some u:=by
 intro j u h
 match j,h with
 |0,h=>simp at h;subst h;simp[Addr.add]
 |j + 1,h=>simp at h
def MidI (w:World) (pre:List (ByteArray)) (W:World):Prop:=
 (∃v,Boxed W w.heap.size 162 v∧W.ownsRow w.heap.size 9 1 v pre.length (pre.flatMap seL)∧(v=.slice none 0 0↔pre=[]))∧Below w.heap.size w W
theorem midI_own (w:World) (B:Nat) (hB:w.heap.size≤B):OwnFrom B (MidI w):=
 OwnFrom.and (Own.from (holdsRow_own w.heap.size w.heap.size 162 9 1 (fun pre=>pre.length) (fun pre=>pre.flatMap seL) (fun pre v=>v=.slice none 0 0↔pre=[])) _) (ownFrom_below (Nat.le_refl _) hB)
def MidAx (w:World) (sv:Value) (x:ByteArray) (a':Act) (W:World):Prop:=
 a'={tmps:= #[.slice none 0 0,sv,.pointer (some ⟨w.heap.size,0,none⟩),undef,.slice none 0 0,seV x,sv,seV x,undef,undef,undef,undef,undef],defers:=[]}
theorem midAx_own (w:World) (sv:Value) (B:Nat) (x:ByteArray) (a':Act):OwnFrom B (fun(_:Unit) W=>MidAx w sv x a' W):=by
 rintro s X Y row h3 hg hr;exact h3
theorem appendSeq_in (F:Fence) (n:Nat) (hF:F.fn 161) (hro:F.round=none) (hn:3≤n) (gf:Nat) (lb:Array Value) (hFg:F.fn gf) (eg:∀args w,(callFunc gf args).run Tryz.prog w=.ok (.enter gf args) w)
 (S Sp:List (ByteArray)→Prop) (N:Nat) (hN:N≤100000000) (w:World) (hseq:SeqStopsK F (n - 1) Tryz.prog gf lb (fun x:ByteArray=> #[seV x]) KeepsWalks S Sp N w):
 CallsIn F n Tryz.prog 161 #[.slice none 0 0,.func (.func gf) #[] lb] w fun e w'=>∃(v:Value) (ss:List (ByteArray)),e=.returned v∧S ss∧w'.ownsRow w.heap.size 9 1 v ss.length (ss.flatMap seL)∧(v=.slice none 0 0↔ss=[])∧Below w.heap.size w w':=by
 have h1:1≤n:=by omega
 obtain⟨i0,hi,hz0,hz1,hz2⟩:=info_parts infoID;refine callsIn_of_wp_marks Tryz.func161 rfl hF ?_ hro;simp only[Tryz.ntmps161,List.size_toArray,List.length_cons,List.length_nil,Nat.reduceAdd,Nat.reduceSub,Array.replicate_succ,Array.replicate_zero,List.push_toArray,List.append_toArray,List.nil_append,List.cons_append];gi_wp2
 have bO:=Boxed.new w 162 (.slice none 0 0);have hB0:Below w.heap.size w (w.alloc (.cells #[.slice none 0 0] 162)):=(Below.refl _ w).alloc (Nat.le_refl _) _
 refine wpIn_rangeFunc_ownH hro h1 (gf:=gf) (lb:=lb) rfl hFg eg hseq walksK_t walksK_b hB0 (fun _=>rfl)
  (MidI w) (fun _ _ _=>False) (midI_own w _ (by simp)) (fun _ _ _ _ _ hs _ _=>hs)
  ⟨⟨_,bO,World.ownsRow_nil _ _ _ _,by simp⟩,hB0⟩
  (MidAx w (.func (.func gf) #[] lb)) (fun x a'=>midAx_own w _ _ x a') ?assign ?body ?done ?stop
 case assign=>
  rintro l pre x W K ⟨⟨v,hv,hrow,hnil⟩,hB⟩ hK;have hsz:=hB.size;unfold seV;gi_wp2
  refine hK _ _ ((KeepsOthers.refl _).from _) (KeepsWalks.refl _) ⟨⟨v,hv,hrow,hnil⟩,hB⟩ rfl
 case body=>
  rintro l pre x a' W hl ⟨r,hr⟩ ⟨⟨v,hv,hrow,hnil⟩,hB⟩ rfl hlt;have hc:=hv.cell;have hsz:=hB.size;unfold seV
  gi_wp2_with (gi_at_builtin;refine wpListIn_append_own _ rfl _ _ 162 rfl w.heap.size 9 i0 (.string .empty) 1 16 Tryz.underlying162 hi hz0 hz1 hz2 rfl (by decide) _ _ _ rfl (hrow.alloc _) ⟨W.heap.size,0,none⟩ 1 1 [.string x] rfl rfl (one_new _ _ _) (by simp[Value.oneCell']) (by unfold maxLen;omega) (by omega) (by simp;omega) ?_;intro v' w1 hown' hgrow _;obtain⟨g',cap',rfl⟩:=ownsRow_succ hown';obtain⟨hv1,hv2,hr2,hk2,hb2⟩:=hv.appended (by decide) hrow hB.size (Nat.le_refl _) hown' hgrow;have hc1:=hv1.cell;have hf1:=hv1.frozen)
  exact⟨hk2.from _,hk2.walks,⟨_,hv2,by simpa [seL] using hr2,by simp⟩,hB.trans hb2⟩
 case done=>
  rintro D ys W hD hS ⟨⟨v,hv,hrow,hnil⟩,hB⟩ hK;have hc:=hv.cell;gi_wp2
  refine⟨by simp,.inl ⟨_,_,rfl,run_takeDeferred hK,?_⟩⟩;exact⟨_,results_tmp rfl _ _ _,v,ys,rfl,hS,ownsRow_putObj hrow _ hK rfl,hnil,hB.trans (belowK_b (w:=w) (Nat.le_refl _) W D _ _ (by simp at hD;omega) hK rfl rfl)⟩
 case stop=>
  rintro D c pre W _ _ h _;exact h.elim
end Txt
end
end Go.Proofs.YtknoefbcmomalabGreatDoor
