import Derived.Test.YtknoefbcmomalaaGreatDoorP6
set_option linter.unusedSimpArgs false
set_option linter.unusedVariables false
set_option maxRecDepth 100000
set_option maxHeartbeats 16000000
namespace Go.Proofs.YtknoefbcmomalaaGreatDoor
section
namespace Lease
open Go.RowKit
def Za1 (s x:SR):Bool:=decide (x.num < s.num) || (decide (x.num=s.num)&&Op.bytesLess x.foot.toList s.foot.toList)
def ZbD (s:SR) (r:List SR):List SR:=if(r.head?.map (SR.is s.num s.foot)).getD false then r.tail else r
def putR (L:List SR) (s:SR):List SR:=L.takeWhile (Za1 s)++s::ZbD s (L.dropWhile (Za1 s))
theorem ZfA {L:List SR} {s:SR} {i j:Nat} (hi:i≤L.length) (h1:∀x ∈ L.take i,Za1 s x=true) (h2:∀h:i < L.length,Za1 s L[i]=false) (hj:ZbD s (L.drop i)=L.drop j):putR L s=L.take i++s::L.drop j:=by
 obtain⟨e1,e2⟩:=Zfc hi h1 h2;unfold putR;rw[e1,e2,hj]
theorem Zhk {L:List SR} {s:SR} {i:Nat} (h:i < L.length) (hs:SR.is s.num s.foot L[i]=true):ZbD s (L.drop i)=L.drop (i + 1):=by
 unfold ZbD;rw[List.head?_drop,List.getElem?_eq_getElem h,Option.map_some,Option.getD_some,hs,if_pos rfl,List.tail_drop]
theorem Zde {L:List SR} {s:SR} {i:Nat} (hs:∀h:i < L.length,SR.is s.num s.foot L[i]=false):ZbD s (L.drop i)=L.drop i:=by
 unfold ZbD;rw[List.head?_drop];by_cases h:i < L.length
 · rw[List.getElem?_eq_getElem h,Option.map_some,Option.getD_some,hs h,if_neg (by simp)]
 rw[List.getElem?_eq_none (by omega)];rfl
abbrev zeroB (b:Nat):Part:=.cells b [.slice none 0 0] 34
theorem infoSR:(Tryz.prog.info? 73).map (fun i=>(i.zero,i.size,i.bytes))=some (some (.agg #[.int .u64 0,.string .empty,.bool false,.bool false,.int .i64 0,.int .i64 0,.slice none 0 0]),7,72):=by kernel_rfl
theorem ZbM (v:Value) (l1 l2:List SR):Part.row 73 7 v (l1.length + l2.length) (flatR l1++flatR l2)=rowR v (l1++l2):=by simp[flatR,rowR]
theorem ZcW (v:Value) (l:List SR) (x:SR):Part.row 73 7 v (l.length + 1) (flatR l++SR.cells x)=rowR v (l++[x]):=by simp[flatR,rowR]
theorem ZcV {L0 L:List Part} {w0 w:World} (h:At L0 w0 L w):At L0 w0 (rowR (.slice none 0 0) []::L) w:=h.row_nil 73 7
def Zor (w:World) (v:Value) (L:List SR) (s:SR) (b2 b3 b4:Nat) (k:Nat) (u:Value) (wr:World):Prop:=
 ∃i:Nat,u=.int .i64 i∧i + k=L.length∧At [rowR v L] w [zeroB b4,Part.cells b3 s.cells 73,Part.cells b2 [v] 34,rowR v L] wr∧∀x ∈ L.take i,Za1 s x=true
def Zc8 (w:World) (v:Value) (L:List SR) (s:SR) (e:Ending) (w':World):Prop:=∃v',e=.returned (.agg #[v'])∧At [rowR v L] w [rowR v' (putR L s)] w'
theorem Zcm {w:World} {v:Value} {L:List SR} (h:Sep [rowR v L] w) (s:SR) (hmax:L.length≤1000000):
 Calls Tryz.prog 69 #[.agg #[v],.agg s.cells.toArray] w (Zc8 w v L s):=by
 obtain⟨i0,hi0,hz0,hz1,hz2⟩:=info_parts infoSR;have hA:=At.start h;have hF:=hA.facts;clear h;obtain⟨ax,cap,rfl,hax,hcap,_⟩:=hA.row_form (v:=v) (xs:=flatR L) sR;unfold SR.cells;go_enter Tryz.func69,Tryz.ntmps69
 go_wp2_with (first
  |(refine ZaU (E:=34) rfl rfl (by(try simp only[Act.eval,eV])<;>exact rfl) (by exact rfl) hA ?_;intro bB w1 hB hbB;replace hA:=hB;clear hF hB;obtain⟨hA,hF⟩:=fY hA)
  |(refine ZaU (E:=73) rfl rfl (by(try simp only[Act.eval,eV])<;>exact rfl) (by exact rfl) hA ?_;intro bS w1 hB hbS;replace hA:=hB;clear hF hB;obtain⟨hA,hF⟩:=fY hA)
  |((with_reducible refine gst ?_);refine wTy hA ?_;clear hF hA;intro w1 hA hF)|((with_reducible refine gbx ?_);refine wCy hA ?_;clear hF hA;intro b1 w1 hA hb1 hF)|((with_reducible refine gal ?_);refine g7 hA ?_;clear hF hA;intro b1 w1 hA hb1 hF))
 (try go_frame);go_loopg [5] L.length (Zor w (.slice ax L.length cap) L s bB bS b1)
 case atStart=>exact⟨0,rfl,by simp,hA,by simp⟩
 case round=>
  obtain⟨i,rfl,hik,hB,hah⟩:=hrel;have hah':=Hd hah;clear hF hA hah;have hA:=hB;clear hB;simp only[SR.cells] at hA;by_cases hst:∃h:i < L.length,Za1 s L[i]=true
  · obtain⟨hi,hai⟩:=hst;obtain⟨g,c,rfl,_,hcm,hcl,hct,hB⟩:=hA.row_open (ax:=ax) (cap:=cap) (n:=L.length) (xs:=flatR L) sR (by omega);have hx:L[i]? =some L[i]:=List.getElem?_eq_getElem hi;have c0:c[i * 7]? =some (.int .u64 L[i].num):=Zag SR.cells_len hct hx 0 (by omega);have c1:c[i * 7 + 1]? =some (.string L[i].foot):=Zag SR.cells_len hct hx 1 (by omega);clear hA;have hA:=hB;clear hB;obtain⟨hA,hF⟩:=fY hA
    have hn:=Hd (show ∀x ∈ L.take (i + 1),Za1 s x=true from fun x hx=>by
     rw[List.take_succ_eq_append_getElem hi] at hx;rcases List.mem_append.1 hx with hx|hx
     · exact hah'.out x hx
     rw[List.mem_singleton.1 hx];exact hai)
    by_cases h1:L[i].num < s.num
    · clear hai;go_wp2_with fail;refine cl0 hA ?_;clear hF hA;intro w1 hA hF;(try simp only[uY] at hA hF);go_wp2_with fail;go_roundg (gk - 1);case measure=>omega
      case rel=>exact⟨i + 1,by simp,by omega,(ZbL hA sR hcl hcap hcm hct).only4 sR sZ sR sR,hn.out⟩
    have h2:L[i].num=s.num:=by simp[Za1,h1] at hai;exact hai.1
    have h3:Op.bytesLess L[i].foot.toList s.foot.toList=true:=by simp[Za1,h1] at hai;exact hai.2
    clear hai;rw[h2] at c0;go_wp2_with fail;refine cl0 hA ?_;clear hF hA;intro w1 hA hF;(try simp only[uY] at hA hF);go_wp2_with fail;go_roundg (gk - 1);case measure=>omega
    case rel=>exact⟨i + 1,by simp,by omega,(ZbL hA sR hcl hcap hcm hct).only4 sR sZ sR sR,hn.out⟩
  have hnot:∀h:i < L.length,Za1 s L[i]=false:=fun h=>by
   cases e:Za1 s L[i]
   · rfl
   exact absurd ⟨h,e⟩ hst
  clear hst;by_cases hi:i < L.length
  · have hx:L[i]? =some L[i]:=List.getElem?_eq_getElem hi;have hni:=hnot hi;have hnot:=Hd hnot;obtain⟨g,c,rfl,_,hcm,hcl,hct,hB⟩:=hA.row_open (ax:=ax) (cap:=cap) (n:=L.length) (xs:=flatR L) sR (by omega);have c0:c[i * 7]? =some (.int .u64 L[i].num):=Zag SR.cells_len hct hx 0 (by omega);have c1:c[i * 7 + 1]? =some (.string L[i].foot):=Zag SR.cells_len hct hx 1 (by omega);clear hA;have hA:=hB;clear hB;obtain⟨hA,hF⟩:=fY hA;by_cases h1:L[i].num=s.num
    · have h3:Op.bytesLess L[i].foot.toList s.foot.toList=false:=by simp[Za1,h1] at hni;exact hni
      clear hni;cases h4:(L[i].foot.toList==s.foot.toList)
      · have hj:=Hd (Zde (L:=L) (s:=s) (i:=i) (fun h=>by simp only[SR.is,h4,Bool.and_false]));rw[h1] at c0;go_wp2_with fail;refine cl0 hA ?_;clear hF hA;intro w1 hA hF;(try simp only[uY] at hA hF);have hB:=ZbL hA sR hcl hcap hcm hct;clear hF hA;have hA:=hB;clear hB c0 c1;clear hct hcl hcm;generalize hax':some (⟨g,0,none⟩:Addr)=ax at *
        clear hax';obtain⟨hA,hF⟩:=fY hA;have hl1:(L.take i).length=i:=by rw[List.length_take];omega
        have hA:=ZcV hA;obtain⟨hA,hF⟩:=fY hA
        go_wp2_with (first|(refine ZaP (e:=73) (size:=7) (n:=(L).length) (xs:=flatR (L)) (v:=.slice ax (L).length cap) (k:=i) rfl rfl Tryz.underlying32 hi0 hz1 (by(try simp only[Act.eval,eV])<;>exact rfl) (by(try simp only[Act.eval,eV])<;>exact rfl) (hA.get (A:=Part.row 73 7 (.slice ax (L).length cap) (L).length (flatR (L))) sR) (by omega) ?_;intro xv hxv0;have hxv:Reads _ xv ((L).take (i)).length (flatR ((L).take (i))):=(by rw[hl1];unfold flatR at hxv0 ⊢;rw[Zbl SR.cells_len] at hxv0;exact hxv0);clear hxv0)|(refine Zac (e:=73) (size:=7) (v:=.slice none 0 0) (xs:=flatR []) (n:=([]:List SR).length) (m:=((L).take (i)).length) (news:=flatR ((L).take (i))) rfl _ _ 32 rfl Tryz.underlying32 hi0 hz0 hz1 hz2 rfl (by omega) hA sR (by(try simp only[Act.eval,eV])<;>exact rfl) (by(try simp only[Act.eval,eV])<;>exact rfl) (ZaB _ _ SR.cells_len _) hxv (ZaO SR.one _) (by unfold maxLen;simp;omega) (by simp;omega) ?_;intro v1 w1 hB;rw[ZbM] at hB;simp only[List.nil_append] at hB;replace hA:=hB;clear hF hB;obtain⟨hA,hF⟩:=fY hA)|(refine Zap (e:=73) (vs:=SR.cells s) rfl rfl (by(try simp only[Act.eval,eV])<;>exact rfl) (fun _=>by kernel_rfl) hA ?_;intro b2 w1 hB hb2;replace hA:=hB;clear hF hB;obtain⟨hA,hF⟩:=fY hA)|(refine Zac (e:=73) (size:=7) (v:=v1) (xs:=flatR ((L).take (i))) (n:=((L).take (i)).length) (m:=1) (news:=SR.cells s) rfl _ _ 32 rfl Tryz.underlying32 hi0 hz0 hz1 hz2 rfl (by omega) hA sR (by(try simp only[Act.eval,eV])<;>exact rfl) (by(try simp only[Act.eval,eV])<;>exact rfl) (rfl) (hA.cells_reads sR _ _) (SR.one _) (by unfold maxLen;simp;omega) (by simp;omega) ?_;intro v2 w1 hB;rw[ZcW] at hB;replace hA:=hB;clear hF hB;obtain⟨hA,hF⟩:=fY hA))
        obtain⟨g,c,rfl,_,hcm,hcl,hct,hB⟩:=hA.row_open (ax:=ax) (cap:=cap) (n:=L.length) (xs:=flatR L) sR (by omega);have c0:c[i * 7]? =some (.int .u64 L[i].num):=Zag SR.cells_len hct hx 0 (by omega);have c1:c[i * 7 + 1]? =some (.string L[i].foot):=Zag SR.cells_len hct hx 1 (by omega);replace hA:=hB;clear hF hB;rw[h1] at c0;obtain⟨hA,hF⟩:=fY hA;refine cl0 hA ?_;clear hF hA;intro w1 hA hF;(try simp only[uY] at hA hF);have hB:=ZbL hA sR hcl hcap hcm hct;clear hF hA;have hA:=hB;clear hB c0 c1;clear hct hcl hcm;generalize hax':some (⟨g,0,none⟩:Addr)=ax at *
        clear hax';obtain⟨hA,hF⟩:=fY hA;have hput:=Hd (ZfA (j:=i) (by omega) hah'.out hnot.out hj.out);have hl2:(L.drop (i)).length=L.length - (i):=List.length_drop
        go_wp2_with (first|((with_reducible refine gst ?_);refine wTy hA ?_;clear hF hA;intro w1 hA hF)|(refine ZaH (e:=73) (size:=7) (n:=(L).length) (xs:=flatR (L)) (v:=.slice ax (L).length cap) (k:=i) rfl rfl Tryz.underlying32 hi0 hz1 (by(try simp only[Act.eval,eV])<;>exact rfl) (by(try simp only[Act.eval,eV])<;>exact rfl) (hA.get (A:=Part.row 73 7 (.slice ax (L).length cap) (L).length (flatR (L))) sR) (by omega) ?_;intro yv hxv0;have hyv:Reads _ yv ((L).drop (i)).length (flatR ((L).drop (i))):=(by rw[hl2];unfold flatR at hxv0 ⊢;rw[ZbI SR.cells_len] at hxv0;exact hxv0);clear hxv0)|(refine Zac (e:=73) (size:=7) (v:=v2) (xs:=flatR ((L).take (i)++[s])) (n:=((L).take (i)++[s]).length) (m:=((L).drop (i)).length) (news:=flatR ((L).drop (i))) rfl _ _ 32 rfl Tryz.underlying32 hi0 hz0 hz1 hz2 rfl (by omega) hA sR (by(try simp only[Act.eval,eV])<;>exact rfl) (by(try simp only[Act.eval,eV])<;>exact rfl) (ZaB _ _ SR.cells_len _) hyv (ZaO SR.one _) (by unfold maxLen;simp;omega) (by simp;omega) ?_;intro v3 w1 hB;rw[ZbM] at hB;obtain⟨ax3,n3,cap3,hv3,hn3⟩:=hB.row_hid .here;subst hv3;replace hA:=hB;clear hF hB;obtain⟨hA,hF⟩:=fY hA))
        refine bodyPost_ret (v:=.agg #[.slice ax3 n3 cap3]) (by simp[results,Tryz.results69,go_sem,hF]) rfl (show Zc8 _ _ _ _ _ _ from⟨_,rfl,?_⟩);rw[hput.out,show L.take i++s::L.drop (i)=(L.take i++[s])++L.drop (i) by simp];exact hA.only1 sR
      have hj:=Hd (Zhk (L:=L) (s:=s) hi (by simp only[SR.is,h1,h4,Bool.and_true,beq_self_eq_true]));rw[h1] at c0;go_wp2_with fail;refine cl0 hA ?_;clear hF hA;intro w1 hA hF;(try simp only[uY] at hA hF);have hB:=ZbL hA sR hcl hcap hcm hct;clear hF hA;have hA:=hB;clear hB c0 c1;clear hct hcl hcm;generalize hax':some (⟨g,0,none⟩:Addr)=ax at *
      clear hax';obtain⟨hA,hF⟩:=fY hA;have hl1:(L.take i).length=i:=by rw[List.length_take];omega
      have hA:=ZcV hA;obtain⟨hA,hF⟩:=fY hA
      go_wp2_with (first|(refine ZaP (e:=73) (size:=7) (n:=(L).length) (xs:=flatR (L)) (v:=.slice ax (L).length cap) (k:=i) rfl rfl Tryz.underlying32 hi0 hz1 (by(try simp only[Act.eval,eV])<;>exact rfl) (by(try simp only[Act.eval,eV])<;>exact rfl) (hA.get (A:=Part.row 73 7 (.slice ax (L).length cap) (L).length (flatR (L))) sR) (by omega) ?_;intro xv hxv0;have hxv:Reads _ xv ((L).take (i)).length (flatR ((L).take (i))):=(by rw[hl1];unfold flatR at hxv0 ⊢;rw[Zbl SR.cells_len] at hxv0;exact hxv0);clear hxv0)|(refine Zac (e:=73) (size:=7) (v:=.slice none 0 0) (xs:=flatR []) (n:=([]:List SR).length) (m:=((L).take (i)).length) (news:=flatR ((L).take (i))) rfl _ _ 32 rfl Tryz.underlying32 hi0 hz0 hz1 hz2 rfl (by omega) hA sR (by(try simp only[Act.eval,eV])<;>exact rfl) (by(try simp only[Act.eval,eV])<;>exact rfl) (ZaB _ _ SR.cells_len _) hxv (ZaO SR.one _) (by unfold maxLen;simp;omega) (by simp;omega) ?_;intro v1 w1 hB;rw[ZbM] at hB;simp only[List.nil_append] at hB;replace hA:=hB;clear hF hB;obtain⟨hA,hF⟩:=fY hA)|(refine Zap (e:=73) (vs:=SR.cells s) rfl rfl (by(try simp only[Act.eval,eV])<;>exact rfl) (fun _=>by kernel_rfl) hA ?_;intro b2 w1 hB hb2;replace hA:=hB;clear hF hB;obtain⟨hA,hF⟩:=fY hA)|(refine Zac (e:=73) (size:=7) (v:=v1) (xs:=flatR ((L).take (i))) (n:=((L).take (i)).length) (m:=1) (news:=SR.cells s) rfl _ _ 32 rfl Tryz.underlying32 hi0 hz0 hz1 hz2 rfl (by omega) hA sR (by(try simp only[Act.eval,eV])<;>exact rfl) (by(try simp only[Act.eval,eV])<;>exact rfl) (rfl) (hA.cells_reads sR _ _) (SR.one _) (by unfold maxLen;simp;omega) (by simp;omega) ?_;intro v2 w1 hB;rw[ZcW] at hB;replace hA:=hB;clear hF hB;obtain⟨hA,hF⟩:=fY hA))
      obtain⟨g,c,rfl,_,hcm,hcl,hct,hB⟩:=hA.row_open (ax:=ax) (cap:=cap) (n:=L.length) (xs:=flatR L) sR (by omega);have c0:c[i * 7]? =some (.int .u64 L[i].num):=Zag SR.cells_len hct hx 0 (by omega);have c1:c[i * 7 + 1]? =some (.string L[i].foot):=Zag SR.cells_len hct hx 1 (by omega);replace hA:=hB;clear hF hB;rw[h1] at c0;obtain⟨hA,hF⟩:=fY hA;refine cl0 hA ?_;clear hF hA;intro w1 hA hF;(try simp only[uY] at hA hF);have hB:=ZbL hA sR hcl hcap hcm hct;clear hF hA;have hA:=hB;clear hB c0 c1;clear hct hcl hcm;generalize hax':some (⟨g,0,none⟩:Addr)=ax at *
      clear hax';obtain⟨hA,hF⟩:=fY hA;have hput:=Hd (ZfA (j:=i + 1) (by omega) hah'.out hnot.out hj.out);have hl2:(L.drop (i + 1)).length=L.length - (i + 1):=List.length_drop
      go_wp2_with (first|((with_reducible refine gst ?_);refine wTy hA ?_;clear hF hA;intro w1 hA hF)|(refine ZaH (e:=73) (size:=7) (n:=(L).length) (xs:=flatR (L)) (v:=.slice ax (L).length cap) (k:=i + 1) rfl rfl Tryz.underlying32 hi0 hz1 (by(try simp only[Act.eval,eV])<;>exact rfl) (by(try simp only[Act.eval,eV])<;>exact rfl) (hA.get (A:=Part.row 73 7 (.slice ax (L).length cap) (L).length (flatR (L))) sR) (by omega) ?_;intro yv hxv0;have hyv:Reads _ yv ((L).drop (i + 1)).length (flatR ((L).drop (i + 1))):=(by rw[hl2];unfold flatR at hxv0 ⊢;rw[ZbI SR.cells_len] at hxv0;exact hxv0);clear hxv0)|(refine Zac (e:=73) (size:=7) (v:=v2) (xs:=flatR ((L).take (i)++[s])) (n:=((L).take (i)++[s]).length) (m:=((L).drop (i + 1)).length) (news:=flatR ((L).drop (i + 1))) rfl _ _ 32 rfl Tryz.underlying32 hi0 hz0 hz1 hz2 rfl (by omega) hA sR (by(try simp only[Act.eval,eV])<;>exact rfl) (by(try simp only[Act.eval,eV])<;>exact rfl) (ZaB _ _ SR.cells_len _) hyv (ZaO SR.one _) (by unfold maxLen;simp;omega) (by simp;omega) ?_;intro v3 w1 hB;rw[ZbM] at hB;obtain⟨ax3,n3,cap3,hv3,hn3⟩:=hB.row_hid .here;subst hv3;replace hA:=hB;clear hF hB;obtain⟨hA,hF⟩:=fY hA))
      refine bodyPost_ret (v:=.agg #[.slice ax3 n3 cap3]) (by simp[results,Tryz.results69,go_sem,hF]) rfl (show Zc8 _ _ _ _ _ _ from⟨_,rfl,?_⟩);rw[hput.out,show L.take i++s::L.drop (i + 1)=(L.take i++[s])++L.drop (i + 1) by simp];exact hA.only1 sR
    have h2:decide (L[i].num < s.num)=false:=by simp[Za1,h1] at hni;simpa using hni
    clear hni;have h1':decide (L[i].num=s.num)=false:=by simpa using h1
    have h1'':(L[i].num==s.num)=false:=by simpa using h1
    have hj:=Hd (Zde (L:=L) (s:=s) (i:=i) (fun h=>by simp only[SR.is,Bool.and_eq_false_iff];exact .inl (by simpa using h1)));go_wp2_with fail;refine cl0 hA ?_;clear hF hA;intro w1 hA hF;(try simp only[uY] at hA hF);have hB:=ZbL hA sR hcl hcap hcm hct;clear hF hA;have hA:=hB;clear hB c0 c1;clear hct hcl hcm;generalize hax':some (⟨g,0,none⟩:Addr)=ax at *
    clear hax';obtain⟨hA,hF⟩:=fY hA;have hl1:(L.take i).length=i:=by rw[List.length_take];omega
    have hA:=ZcV hA;obtain⟨hA,hF⟩:=fY hA
    go_wp2_with (first|(refine ZaP (e:=73) (size:=7) (n:=(L).length) (xs:=flatR (L)) (v:=.slice ax (L).length cap) (k:=i) rfl rfl Tryz.underlying32 hi0 hz1 (by(try simp only[Act.eval,eV])<;>exact rfl) (by(try simp only[Act.eval,eV])<;>exact rfl) (hA.get (A:=Part.row 73 7 (.slice ax (L).length cap) (L).length (flatR (L))) sR) (by omega) ?_;intro xv hxv0;have hxv:Reads _ xv ((L).take (i)).length (flatR ((L).take (i))):=(by rw[hl1];unfold flatR at hxv0 ⊢;rw[Zbl SR.cells_len] at hxv0;exact hxv0);clear hxv0)|(refine Zac (e:=73) (size:=7) (v:=.slice none 0 0) (xs:=flatR []) (n:=([]:List SR).length) (m:=((L).take (i)).length) (news:=flatR ((L).take (i))) rfl _ _ 32 rfl Tryz.underlying32 hi0 hz0 hz1 hz2 rfl (by omega) hA sR (by(try simp only[Act.eval,eV])<;>exact rfl) (by(try simp only[Act.eval,eV])<;>exact rfl) (ZaB _ _ SR.cells_len _) hxv (ZaO SR.one _) (by unfold maxLen;simp;omega) (by simp;omega) ?_;intro v1 w1 hB;rw[ZbM] at hB;simp only[List.nil_append] at hB;replace hA:=hB;clear hF hB;obtain⟨hA,hF⟩:=fY hA)|(refine Zap (e:=73) (vs:=SR.cells s) rfl rfl (by(try simp only[Act.eval,eV])<;>exact rfl) (fun _=>by kernel_rfl) hA ?_;intro b2 w1 hB hb2;replace hA:=hB;clear hF hB;obtain⟨hA,hF⟩:=fY hA)|(refine Zac (e:=73) (size:=7) (v:=v1) (xs:=flatR ((L).take (i))) (n:=((L).take (i)).length) (m:=1) (news:=SR.cells s) rfl _ _ 32 rfl Tryz.underlying32 hi0 hz0 hz1 hz2 rfl (by omega) hA sR (by(try simp only[Act.eval,eV])<;>exact rfl) (by(try simp only[Act.eval,eV])<;>exact rfl) (rfl) (hA.cells_reads sR _ _) (SR.one _) (by unfold maxLen;simp;omega) (by simp;omega) ?_;intro v2 w1 hB;rw[ZcW] at hB;replace hA:=hB;clear hF hB;obtain⟨hA,hF⟩:=fY hA))
    obtain⟨g,c,rfl,_,hcm,hcl,hct,hB⟩:=hA.row_open (ax:=ax) (cap:=cap) (n:=L.length) (xs:=flatR L) sR (by omega);have c0:c[i * 7]? =some (.int .u64 L[i].num):=Zag SR.cells_len hct hx 0 (by omega);have c1:c[i * 7 + 1]? =some (.string L[i].foot):=Zag SR.cells_len hct hx 1 (by omega);replace hA:=hB;clear hF hB;obtain⟨hA,hF⟩:=fY hA;refine cl0 hA ?_;clear hF hA;intro w1 hA hF;(try simp only[uY] at hA hF);have hB:=ZbL hA sR hcl hcap hcm hct;clear hF hA;have hA:=hB;clear hB c0 c1;clear hct hcl hcm;generalize hax':some (⟨g,0,none⟩:Addr)=ax at *
    clear hax';obtain⟨hA,hF⟩:=fY hA;have hput:=Hd (ZfA (j:=i) (by omega) hah'.out hnot.out hj.out);have hl2:(L.drop (i)).length=L.length - (i):=List.length_drop
    go_wp2_with (first|((with_reducible refine gst ?_);refine wTy hA ?_;clear hF hA;intro w1 hA hF)|(refine ZaH (e:=73) (size:=7) (n:=(L).length) (xs:=flatR (L)) (v:=.slice ax (L).length cap) (k:=i) rfl rfl Tryz.underlying32 hi0 hz1 (by(try simp only[Act.eval,eV])<;>exact rfl) (by(try simp only[Act.eval,eV])<;>exact rfl) (hA.get (A:=Part.row 73 7 (.slice ax (L).length cap) (L).length (flatR (L))) sR) (by omega) ?_;intro yv hxv0;have hyv:Reads _ yv ((L).drop (i)).length (flatR ((L).drop (i))):=(by rw[hl2];unfold flatR at hxv0 ⊢;rw[ZbI SR.cells_len] at hxv0;exact hxv0);clear hxv0)|(refine Zac (e:=73) (size:=7) (v:=v2) (xs:=flatR ((L).take (i)++[s])) (n:=((L).take (i)++[s]).length) (m:=((L).drop (i)).length) (news:=flatR ((L).drop (i))) rfl _ _ 32 rfl Tryz.underlying32 hi0 hz0 hz1 hz2 rfl (by omega) hA sR (by(try simp only[Act.eval,eV])<;>exact rfl) (by(try simp only[Act.eval,eV])<;>exact rfl) (ZaB _ _ SR.cells_len _) hyv (ZaO SR.one _) (by unfold maxLen;simp;omega) (by simp;omega) ?_;intro v3 w1 hB;rw[ZbM] at hB;obtain⟨ax3,n3,cap3,hv3,hn3⟩:=hB.row_hid .here;subst hv3;replace hA:=hB;clear hF hB;obtain⟨hA,hF⟩:=fY hA))
    refine bodyPost_ret (v:=.agg #[.slice ax3 n3 cap3]) (by simp[results,Tryz.results69,go_sem,hF]) rfl (show Zc8 _ _ _ _ _ _ from⟨_,rfl,?_⟩);rw[hput.out,show L.take i++s::L.drop (i)=(L.take i++[s])++L.drop (i) by simp];exact hA.only1 sR
  have hnot:=Hd hnot;have hj:=Hd (Zde (L:=L) (s:=s) (i:=i) (fun h=>absurd h hi));obtain⟨hA,hF⟩:=fY hA;go_wp2_with fail;refine cl0 hA ?_;clear hF hA;intro w1 hA hF;(try simp only[uY] at hA hF);have hl1:(L.take i).length=i:=by rw[List.length_take];omega
  have hA:=ZcV hA;obtain⟨hA,hF⟩:=fY hA
  go_wp2_with (first|(refine ZaP (e:=73) (size:=7) (n:=(L).length) (xs:=flatR (L)) (v:=.slice ax (L).length cap) (k:=i) rfl rfl Tryz.underlying32 hi0 hz1 (by(try simp only[Act.eval,eV])<;>exact rfl) (by(try simp only[Act.eval,eV])<;>exact rfl) (hA.get (A:=Part.row 73 7 (.slice ax (L).length cap) (L).length (flatR (L))) sR) (by omega) ?_;intro xv hxv0;have hxv:Reads _ xv ((L).take (i)).length (flatR ((L).take (i))):=(by rw[hl1];unfold flatR at hxv0 ⊢;rw[Zbl SR.cells_len] at hxv0;exact hxv0);clear hxv0)|(refine Zac (e:=73) (size:=7) (v:=.slice none 0 0) (xs:=flatR []) (n:=([]:List SR).length) (m:=((L).take (i)).length) (news:=flatR ((L).take (i))) rfl _ _ 32 rfl Tryz.underlying32 hi0 hz0 hz1 hz2 rfl (by omega) hA sR (by(try simp only[Act.eval,eV])<;>exact rfl) (by(try simp only[Act.eval,eV])<;>exact rfl) (ZaB _ _ SR.cells_len _) hxv (ZaO SR.one _) (by unfold maxLen;simp;omega) (by simp;omega) ?_;intro v1 w1 hB;rw[ZbM] at hB;simp only[List.nil_append] at hB;replace hA:=hB;clear hF hB;obtain⟨hA,hF⟩:=fY hA)|(refine Zap (e:=73) (vs:=SR.cells s) rfl rfl (by(try simp only[Act.eval,eV])<;>exact rfl) (fun _=>by kernel_rfl) hA ?_;intro b2 w1 hB hb2;replace hA:=hB;clear hF hB;obtain⟨hA,hF⟩:=fY hA)|(refine Zac (e:=73) (size:=7) (v:=v1) (xs:=flatR ((L).take (i))) (n:=((L).take (i)).length) (m:=1) (news:=SR.cells s) rfl _ _ 32 rfl Tryz.underlying32 hi0 hz0 hz1 hz2 rfl (by omega) hA sR (by(try simp only[Act.eval,eV])<;>exact rfl) (by(try simp only[Act.eval,eV])<;>exact rfl) (rfl) (hA.cells_reads sR _ _) (SR.one _) (by unfold maxLen;simp;omega) (by simp;omega) ?_;intro v2 w1 hB;rw[ZcW] at hB;replace hA:=hB;clear hF hB;obtain⟨hA,hF⟩:=fY hA))
  refine cl0 hA ?_;clear hF hA;intro w1 hA hF;(try simp only[uY] at hA hF);have hput:=Hd (ZfA (j:=i) (by omega) hah'.out hnot.out hj.out);have hl2:(L.drop (i)).length=L.length - (i):=List.length_drop
  go_wp2_with (first|((with_reducible refine gst ?_);refine wTy hA ?_;clear hF hA;intro w1 hA hF)|(refine ZaH (e:=73) (size:=7) (n:=(L).length) (xs:=flatR (L)) (v:=.slice ax (L).length cap) (k:=i) rfl rfl Tryz.underlying32 hi0 hz1 (by(try simp only[Act.eval,eV])<;>exact rfl) (by(try simp only[Act.eval,eV])<;>exact rfl) (hA.get (A:=Part.row 73 7 (.slice ax (L).length cap) (L).length (flatR (L))) sR) (by omega) ?_;intro yv hxv0;have hyv:Reads _ yv ((L).drop (i)).length (flatR ((L).drop (i))):=(by rw[hl2];unfold flatR at hxv0 ⊢;rw[ZbI SR.cells_len] at hxv0;exact hxv0);clear hxv0)|(refine Zac (e:=73) (size:=7) (v:=v2) (xs:=flatR ((L).take (i)++[s])) (n:=((L).take (i)++[s]).length) (m:=((L).drop (i)).length) (news:=flatR ((L).drop (i))) rfl _ _ 32 rfl Tryz.underlying32 hi0 hz0 hz1 hz2 rfl (by omega) hA sR (by(try simp only[Act.eval,eV])<;>exact rfl) (by(try simp only[Act.eval,eV])<;>exact rfl) (ZaB _ _ SR.cells_len _) hyv (ZaO SR.one _) (by unfold maxLen;simp;omega) (by simp;omega) ?_;intro v3 w1 hB;rw[ZbM] at hB;obtain⟨ax3,n3,cap3,hv3,hn3⟩:=hB.row_hid .here;subst hv3;replace hA:=hB;clear hF hB;obtain⟨hA,hF⟩:=fY hA))
  refine bodyPost_ret (v:=.agg #[.slice ax3 n3 cap3]) (by simp[results,Tryz.results69,go_sem,hF]) rfl (show Zc8 _ _ _ _ _ _ from⟨_,rfl,?_⟩);rw[hput.out,show L.take i++s::L.drop (i)=(L.take i++[s])++L.drop (i) by simp];exact hA.only1 sR
end Lease
end
section
namespace Lease
open Go.RowKit
def ZcC (a x:AR):Bool:=decide (x.r < a.r)
def insA (l:List AR) (a:AR):List AR:=l.takeWhile (ZcC a)++a::l.dropWhile (ZcC a)
theorem Zku {l:List AR} {a:AR} {i:Nat} (hi:i≤l.length) (h1:∀x ∈ l.take i,ZcC a x=true) (h2:∀h:i < l.length,ZcC a l[i]=false):insA l a=l.take i++a::l.drop i:=by
 obtain⟨e1,e2⟩:=Zfc hi h1 h2;unfold insA;rw[e1,e2]
theorem AR.one (s:AR):∀u ∈ s.cells,u.oneCell'=true:=List.all_eq_true.1 s.ones
theorem ZdA (v:Value) (l1 l2:List AR):Part.row 45 4 v (l1.length + l2.length) (flatA l1++flatA l2)=rowA v (l1++l2):=by simp[flatA,rowA]
theorem Zgi (v:Value) (l:List AR) (x:AR):Part.row 45 4 v (l.length + 1) (flatA l++AR.cells x)=rowA v (l++[x]):=by simp[flatA,rowA]
theorem Zft {L0 L:List Part} {w0 w:World} (h:At L0 w0 L w):At L0 w0 (rowA (.slice none 0 0) []::L) w:=h.row_nil 45 4
theorem infoAR:(Tryz.prog.info? 45).map (fun i=>(i.zero,i.size,i.bytes))=some (some (.agg #[.int .u64 0,.int .i64 0,.int .u64 0,.bool false]),4,32):=by kernel_rfl
theorem Zlx {w:World} {v:Value} {L:List SR} {s:SR} (h:Sep [rowR v L,rowA s.tv s.told] w) (a:AR) (hmax:s.told.length≤1000000) (hno:(saidA s.told a.r).isSome=true∨256≤s.told.length):
 Calls Tryz.prog 29 #[.agg #[v],.agg s.cells.toArray,.agg a.cells.toArray] w fun e w'=>e=.returned (.agg #[v])∧At [rowR v L,rowA s.tv s.told] w [rowR v L,rowA s.tv s.told] w':=by
 obtain⟨num,foot,op,dead,dl,ttl,ax,cap,told⟩:=s;simp only[SR.tv] at *
 have hA:=At.start h;have hF:=hA.facts;clear h;obtain⟨axv,nv,capv,hv,hnv⟩:=hA.row_hid (v:=v) (n:=L.length) (xs:=flatR L) sR;subst hv;cases hs:(saidA told a.r).isSome
 · have hl':(256:Int)≤(told.length:Int):=by rw[hs] at hno;simp at hno;omega
   simp only[SR.cells,AR.cells,SR.tv];go_enter Tryz.func29,Tryz.ntmps29
   go_wp2_with (first|((with_reducible refine gbx ?_);refine wCy (E:=34) hA ?_;clear hF hA;intro bB w1 hA hbB hF)|((with_reducible refine gbx ?_);refine wCy (E:=73) hA ?_;clear hF hA;intro bS w1 hA hbS hF)|((with_reducible refine gbx ?_);refine wCy (E:=45) hA ?_;clear hF hA;intro bA w1 hA hbA hF)|((with_reducible refine gal ?_);refine g7 hA ?_;clear hF hA;intro bZ w1 hA hbZ hF))
   refine(ZcU (s:=⟨num,foot,op,dead,dl,ttl,ax,cap,told⟩) (hA.sep1 sZ) a.r (by simp only;omega)).mono ?_;simp only[hs,AR.cells,SR.tv];rintro e w1 ⟨rfl,hT⟩;replace hA:=hA.call1 sR hT;clear hF hT;obtain⟨hA,hF⟩:=fY hA
   go_wp2_with (first|((with_reducible refine gal ?_);refine g13 hA ?_;clear hF hA;intro bQ w1 hA hbQ hF)|((with_reducible refine gst ?_);refine wTy hA ?_;clear hF hA;intro w1 hA hF))
   refine bodyPost_ret (v:=.agg #[.slice axv nv capv]) (by simp[results,Tryz.results29,go_sem,hF]) rfl ⟨rfl,?_⟩;exact hA.pick pR
 clear hno;simp only[SR.cells,AR.cells,SR.tv];go_enter Tryz.func29,Tryz.ntmps29
 go_wp2_with (first|((with_reducible refine gbx ?_);refine wCy (E:=34) hA ?_;clear hF hA;intro bB w1 hA hbB hF)|((with_reducible refine gbx ?_);refine wCy (E:=73) hA ?_;clear hF hA;intro bS w1 hA hbS hF)|((with_reducible refine gbx ?_);refine wCy (E:=45) hA ?_;clear hF hA;intro bA w1 hA hbA hF)|((with_reducible refine gal ?_);refine g7 hA ?_;clear hF hA;intro bZ w1 hA hbZ hF))
 refine(ZcU (s:=⟨num,foot,op,dead,dl,ttl,ax,cap,told⟩) (hA.sep1 sZ) a.r (by simp only;omega)).mono ?_;simp only[hs,AR.cells,SR.tv];rintro e w1 ⟨rfl,hT⟩;replace hA:=hA.call1 sR hT;clear hF hT;obtain⟨hA,hF⟩:=fY hA
 go_wp2_with (first|((with_reducible refine gal ?_);refine g13 hA ?_;clear hF hA;intro bQ w1 hA hbQ hF)|((with_reducible refine gst ?_);refine wTy hA ?_;clear hF hA;intro w1 hA hF))
 refine bodyPost_ret (v:=.agg #[.slice axv nv capv]) (by simp[results,Tryz.results29,go_sem,hF]) rfl ⟨rfl,?_⟩;exact hA.pick pR
def Zos (w:World) (v:Value) (L:List SR) (s:SR) (a:AR) (b1 b2 b3 b4 b5:Nat) (c5:List Value) (k:Nat) (u:Value) (wr:World):Prop:=
 ∃i:Nat,u=.int .i64 i∧i + k=s.told.length∧At [rowR v L,rowA s.tv s.told] w [Part.cells b5 c5 45,zeroB b4,Part.cells b3 a.cells 45,Part.cells b2 s.cells 73,Part.cells b1 [v] 34,rowA s.tv s.told,rowR v L] wr∧∀x ∈ s.told.take i,ZcC a x=true
def ZfZ (w:World) (v:Value) (L:List SR) (s:SR) (a:AR) (e:Ending) (w':World):Prop:=
 ∃v' ax cap,e=.returned (.agg #[v'])∧At [rowR v L,rowA s.tv s.told] w [rowR v' (putR L {s with ax:=ax,cap:=cap,told:=insA s.told a}),rowA (SR.tv {s with ax:=ax,cap:=cap,told:=insA s.told a}) (insA s.told a),rowA s.tv s.told] w'
theorem Zjy {w:World} {v:Value} {L:List SR} {s:SR} (h:Sep [rowR v L,rowA s.tv s.told] w) (a:AR) (hmaxL:L.length≤1000000) (hno:saidA s.told a.r=none) (hl:s.told.length < 256):
 Calls Tryz.prog 29 #[.agg #[v],.agg s.cells.toArray,.agg a.cells.toArray] w (ZfZ w v L s a):=by
 obtain⟨i0,hi0,hz0,hz1,hz2⟩:=info_parts infoAR;obtain⟨num,foot,op,dead,dl,ttl,ax,cap,told⟩:=s;simp only[SR.tv] at *
 have hA:=At.start h;have hF:=hA.facts;clear h;obtain⟨ax',cap',he0,hax,hcap,_⟩:=hA.row_form (v:=.slice ax told.length cap) (xs:=flatA told) sR;cases he0;have hl':decide ((256:Int)≤(told.length:Int))=false:=by simp;omega
 have hno':=Hd hno;clear hno;simp only[SR.cells,AR.cells,SR.tv];go_enter Tryz.func29,Tryz.ntmps29
 go_wp2_with (first|((with_reducible refine gbx ?_);refine wCy (E:=34) hA ?_;clear hF hA;intro bB w1 hA hbB hF)|((with_reducible refine gbx ?_);refine wCy (E:=73) hA ?_;clear hF hA;intro bS w1 hA hbS hF)|((with_reducible refine gbx ?_);refine wCy (E:=45) hA ?_;clear hF hA;intro bA w1 hA hbA hF)|((with_reducible refine gal ?_);refine g7 hA ?_;clear hF hA;intro bZ w1 hA hbZ hF))
 refine(ZcU (s:=⟨num,foot,op,dead,dl,ttl,ax,cap,told⟩) (hA.sep1 sZ) a.r (by simp only;omega)).mono ?_;simp only[hno'.out,Option.getD_none,Option.isSome_none,AR.cells,noAR,SR.tv];rintro e w1 ⟨rfl,hT⟩;replace hA:=hA.call1 sR hT;clear hF hT;obtain⟨hA,hF⟩:=fY hA
 go_wp2_with (first|((with_reducible refine gal ?_);refine g13 hA ?_;clear hF hA;intro bQ w1 hA hbQ hF)|((with_reducible refine gst ?_);refine wTy hA ?_;clear hF hA;intro w1 hA hF))
 (try go_frame);go_loopg [9] told.length (Zos w v L ⟨num,foot,op,dead,dl,ttl,ax,cap,told⟩ a bB bS bA bZ bQ [.int .u64 0,.int .i64 0,.int .u64 0,.bool false])
 case atStart=>exact⟨0,rfl,by simp,hA.pick pZ,by simp⟩
 case round=>
  obtain⟨i,rfl,hik,hB,hah⟩:=hrel;have hah':=Hd hah;clear hF hA hah;have hA:=hB;clear hB;simp only[SR.cells,AR.cells,SR.tv] at hA hah' hik;by_cases hi:i < told.length
  · have hx:told[i]? =some told[i]:=List.getElem?_eq_getElem hi;obtain⟨g,c,rfl,_,hcm,hcl,hct,hB⟩:=hA.row_open (ax:=ax) (cap:=cap) (n:=told.length) (xs:=flatA told) sR (by omega);have c0:c[i * 4]? =some (.int .u64 told[i].r):=Zag AR.cells_len hct hx 0 (by omega);clear hA;have hA:=hB;clear hB;obtain⟨hA,hF⟩:=fY hA;by_cases h1:told[i].r < a.r
    · have hn:=Hd (show ∀x ∈ told.take (i + 1),ZcC a x=true from fun x hx=>by
       rw[List.take_succ_eq_append_getElem hi] at hx;rcases List.mem_append.1 hx with hx|hx
       · exact hah'.out x hx
       rw[List.mem_singleton.1 hx];simpa [ZcC] using h1)
      go_wp2_with fail;refine cl0 hA ?_;clear hF hA;intro w1 hA hF;(try simp only[uY] at hA hF);go_wp2_with fail;go_roundg (gk - 1);case measure=>omega
      case rel=>exact⟨i + 1,by simp,by simp only;omega,(ZhY hA sR hcl hcap hcm hct).pick pZ,hn.out⟩
    have hput:=Hd (Zku (by omega) hah'.out (fun h=>by simpa [ZcC] using h1));have h1':decide (told[i].r < a.r)=false:=by simpa using h1
    go_wp2_with fail;refine cl0 hA ?_;clear hF hA;intro w1 hA hF;(try simp only[uY] at hA hF);have hB:=ZhY hA sR hcl hcap hcm hct;clear hF hA;have hA:=hB;clear hB c0 hct hcl hcm h1 h1';generalize hax':some (⟨g,0,none⟩:Addr)=ax at *
    clear hax';have hl1:(told.take i).length=i:=by rw[List.length_take];omega
    have hl2:(told.drop i).length=told.length - i:=List.length_drop;have hA:=Zft hA;obtain⟨hA,hF⟩:=fY hA
    go_wp2_with (first|((with_reducible refine gst ?_);refine wTy hA ?_;clear hF hA;intro w1 hA hF)|(refine ZaP (e:=45) (size:=4) (n:=(told).length) (xs:=flatA (told)) (v:=.slice ax (told).length cap) (k:=i) rfl rfl Tryz.underlying71 hi0 hz1 (by(try simp only[Act.eval,eV])<;>exact rfl) (by(try simp only[Act.eval,eV])<;>exact rfl) (hA.get (A:=Part.row 45 4 (.slice ax (told).length cap) (told).length (flatA (told))) sR) (by omega) ?_;intro xv hxv0;have hxv:Reads _ xv ((told).take (i)).length (flatA ((told).take (i))):=(by rw[hl1];unfold flatA at hxv0 ⊢;rw[Zbl AR.cells_len] at hxv0;exact hxv0);clear hxv0)|(refine Zac (e:=45) (size:=4) (v:=.slice none 0 0) (xs:=flatA []) (n:=([]:List AR).length) (m:=((told).take (i)).length) (news:=flatA ((told).take (i))) rfl _ _ 71 rfl Tryz.underlying71 hi0 hz0 hz1 hz2 rfl (by omega) hA sR (by(try simp only[Act.eval,eV])<;>exact rfl) (by(try simp only[Act.eval,eV])<;>exact rfl) (ZaB _ _ AR.cells_len _) hxv (ZaO AR.one _) (by unfold maxLen;simp;omega) (by simp;omega) ?_;intro v1 w1 hB;rw[ZdA] at hB;simp only[List.nil_append] at hB;replace hA:=hB;clear hF hB;obtain⟨hA,hF⟩:=fY hA)|(refine Zap (e:=45) (vs:=AR.cells a) rfl rfl (by(try simp only[Act.eval,eV])<;>exact rfl) (fun _=>by kernel_rfl) hA ?_;intro b2 w1 hB hb2;replace hA:=hB;clear hF hB;obtain⟨hA,hF⟩:=fY hA)|(refine Zac (e:=45) (size:=4) (v:=v1) (xs:=flatA ((told).take (i))) (n:=((told).take (i)).length) (m:=1) (news:=AR.cells a) rfl _ _ 71 rfl Tryz.underlying71 hi0 hz0 hz1 hz2 rfl (by omega) hA sR (by(try simp only[Act.eval,eV])<;>exact rfl) (by(try simp only[Act.eval,eV])<;>exact rfl) (rfl) (hA.cells_reads sR _ _) (AR.one _) (by unfold maxLen;simp;omega) (by simp;omega) ?_;intro v2 w1 hB;rw[Zgi] at hB;replace hA:=hB;clear hF hB;obtain⟨hA,hF⟩:=fY hA)|(refine ZaH (e:=45) (size:=4) (n:=(told).length) (xs:=flatA (told)) (v:=.slice ax (told).length cap) (k:=i) rfl rfl Tryz.underlying71 hi0 hz1 (by(try simp only[Act.eval,eV])<;>exact rfl) (by(try simp only[Act.eval,eV])<;>exact rfl) (hA.get (A:=Part.row 45 4 (.slice ax (told).length cap) (told).length (flatA (told))) sR) (by omega) ?_;intro yv hxv0;have hyv:Reads _ yv ((told).drop (i)).length (flatA ((told).drop (i))):=(by rw[hl2];unfold flatA at hxv0 ⊢;rw[ZbI AR.cells_len] at hxv0;exact hxv0);clear hxv0)|(refine Zac (e:=45) (size:=4) (v:=v2) (xs:=flatA ((told).take (i)++[a])) (n:=((told).take (i)++[a]).length) (m:=((told).drop (i)).length) (news:=flatA ((told).drop (i))) rfl _ _ 71 rfl Tryz.underlying71 hi0 hz0 hz1 hz2 rfl (by omega) hA sR (by(try simp only[Act.eval,eV])<;>exact rfl) (by(try simp only[Act.eval,eV])<;>exact rfl) (ZaB _ _ AR.cells_len _) hyv (ZaO AR.one _) (by unfold maxLen;simp;omega) (by simp;omega) ?_;intro v3 w1 hB;rw[ZdA] at hB;obtain⟨ax3,n3,cap3,hv3,hn3⟩:=hB.row_hid .here;subst hv3;replace hA:=hB;clear hF hB;obtain⟨hA,hF⟩:=fY hA))
    obtain rfl:=hn3.out;refine(Zcm (hA.sep1 sR) ⟨num,foot,op,dead,dl,ttl,ax3,cap3,told.take i++[a]++told.drop i⟩ hmaxL).mono ?_;rintro e w1 ⟨v',rfl,hT⟩;have hB:=hA.call1 sR hT;clear hF hA hT;obtain⟨ax4,n4,cap4,hv4,hn4⟩:=hB.row_hid .here;subst hv4;have hA:=hB;clear hB;obtain⟨hA,hF⟩:=fY hA
    go_wp2_with ((with_reducible refine gst ?_);refine wTy hA ?_;clear hF hA;intro w1 hA hF)
    refine bodyPost_ret (v:=.agg #[.slice ax4 n4 cap4]) (by simp[results,Tryz.results29,go_sem,hF]) rfl (show ZfZ _ _ _ _ _ _ _ from⟨_,ax3,cap3,rfl,?_⟩);rw[hput.out,show told.take i++a::told.drop i=(told.take i++[a])++told.drop i by simp];exact hA.pick pZ
  have hput:=Hd (Zku (a:=a) (by omega) hah'.out (fun h=>absurd h hi));obtain⟨hA,hF⟩:=fY hA;go_wp2_with fail;refine cl0 hA ?_;clear hF hA;intro w1 hA hF;(try simp only[uY] at hA hF);have hl1:(told.take i).length=i:=by rw[List.length_take];omega
  have hl2:(told.drop i).length=told.length - i:=List.length_drop;have hA:=Zft hA;obtain⟨hA,hF⟩:=fY hA
  go_wp2_with (first|((with_reducible refine gst ?_);refine wTy hA ?_;clear hF hA;intro w1 hA hF)|(refine ZaP (e:=45) (size:=4) (n:=(told).length) (xs:=flatA (told)) (v:=.slice ax (told).length cap) (k:=i) rfl rfl Tryz.underlying71 hi0 hz1 (by(try simp only[Act.eval,eV])<;>exact rfl) (by(try simp only[Act.eval,eV])<;>exact rfl) (hA.get (A:=Part.row 45 4 (.slice ax (told).length cap) (told).length (flatA (told))) sR) (by omega) ?_;intro xv hxv0;have hxv:Reads _ xv ((told).take (i)).length (flatA ((told).take (i))):=(by rw[hl1];unfold flatA at hxv0 ⊢;rw[Zbl AR.cells_len] at hxv0;exact hxv0);clear hxv0)|(refine Zac (e:=45) (size:=4) (v:=.slice none 0 0) (xs:=flatA []) (n:=([]:List AR).length) (m:=((told).take (i)).length) (news:=flatA ((told).take (i))) rfl _ _ 71 rfl Tryz.underlying71 hi0 hz0 hz1 hz2 rfl (by omega) hA sR (by(try simp only[Act.eval,eV])<;>exact rfl) (by(try simp only[Act.eval,eV])<;>exact rfl) (ZaB _ _ AR.cells_len _) hxv (ZaO AR.one _) (by unfold maxLen;simp;omega) (by simp;omega) ?_;intro v1 w1 hB;rw[ZdA] at hB;simp only[List.nil_append] at hB;replace hA:=hB;clear hF hB;obtain⟨hA,hF⟩:=fY hA)|(refine Zap (e:=45) (vs:=AR.cells a) rfl rfl (by(try simp only[Act.eval,eV])<;>exact rfl) (fun _=>by kernel_rfl) hA ?_;intro b2 w1 hB hb2;replace hA:=hB;clear hF hB;obtain⟨hA,hF⟩:=fY hA)|(refine Zac (e:=45) (size:=4) (v:=v1) (xs:=flatA ((told).take (i))) (n:=((told).take (i)).length) (m:=1) (news:=AR.cells a) rfl _ _ 71 rfl Tryz.underlying71 hi0 hz0 hz1 hz2 rfl (by omega) hA sR (by(try simp only[Act.eval,eV])<;>exact rfl) (by(try simp only[Act.eval,eV])<;>exact rfl) (rfl) (hA.cells_reads sR _ _) (AR.one _) (by unfold maxLen;simp;omega) (by simp;omega) ?_;intro v2 w1 hB;rw[Zgi] at hB;replace hA:=hB;clear hF hB;obtain⟨hA,hF⟩:=fY hA)|(refine ZaH (e:=45) (size:=4) (n:=(told).length) (xs:=flatA (told)) (v:=.slice ax (told).length cap) (k:=i) rfl rfl Tryz.underlying71 hi0 hz1 (by(try simp only[Act.eval,eV])<;>exact rfl) (by(try simp only[Act.eval,eV])<;>exact rfl) (hA.get (A:=Part.row 45 4 (.slice ax (told).length cap) (told).length (flatA (told))) sR) (by omega) ?_;intro yv hxv0;have hyv:Reads _ yv ((told).drop (i)).length (flatA ((told).drop (i))):=(by rw[hl2];unfold flatA at hxv0 ⊢;rw[ZbI AR.cells_len] at hxv0;exact hxv0);clear hxv0)|(refine Zac (e:=45) (size:=4) (v:=v2) (xs:=flatA ((told).take (i)++[a])) (n:=((told).take (i)++[a]).length) (m:=((told).drop (i)).length) (news:=flatA ((told).drop (i))) rfl _ _ 71 rfl Tryz.underlying71 hi0 hz0 hz1 hz2 rfl (by omega) hA sR (by(try simp only[Act.eval,eV])<;>exact rfl) (by(try simp only[Act.eval,eV])<;>exact rfl) (ZaB _ _ AR.cells_len _) hyv (ZaO AR.one _) (by unfold maxLen;simp;omega) (by simp;omega) ?_;intro v3 w1 hB;rw[ZdA] at hB;obtain⟨ax3,n3,cap3,hv3,hn3⟩:=hB.row_hid .here;subst hv3;replace hA:=hB;clear hF hB;obtain⟨hA,hF⟩:=fY hA))
  obtain rfl:=hn3.out;refine(Zcm (hA.sep1 sR) ⟨num,foot,op,dead,dl,ttl,ax3,cap3,told.take i++[a]++told.drop i⟩ hmaxL).mono ?_;rintro e w1 ⟨v',rfl,hT⟩;have hB:=hA.call1 sR hT;clear hF hA hT;obtain⟨ax4,n4,cap4,hv4,hn4⟩:=hB.row_hid .here;subst hv4;have hA:=hB;clear hB;obtain⟨hA,hF⟩:=fY hA
  go_wp2_with ((with_reducible refine gst ?_);refine wTy hA ?_;clear hF hA;intro w1 hA hF)
  refine bodyPost_ret (v:=.agg #[.slice ax4 n4 cap4]) (by simp[results,Tryz.results29,go_sem,hF]) rfl (show ZfZ _ _ _ _ _ _ _ from⟨_,ax3,cap3,rfl,?_⟩);rw[hput.out,show told.take i++a::told.drop i=(told.take i++[a])++told.drop i by simp];exact hA.pick pZ
end Lease
end
section
namespace Lease
open Go.RowKit
theorem ZkY {L0 L:List Part} {w0 w:World} (h:At L0 w0 L w) (t:Int):Calls Tryz.prog 100 #[.int .i64 t] w fun e w'=>e=.returned (.int .i64 (cutI t))∧At L0 w0 L w':=
 (Zis t w).mono fun _ _ ⟨h1,h2⟩=>⟨h1,h2 ▸ h⟩
def openB (f:ByteArray) (x:SR):Bool:=(x.foot.toList==f.toList)&&x.op
def cntR (L:List SR) (f:ByteArray):Nat:=(L.filter (openB f)).length
theorem Zk1 {L:List SR} {f:ByteArray} {i:Nat} (h:i < L.length) {b:Bool} (hb:openB f L[i]=b):cntR (L.take (i + 1)) f=cntR (L.take i) f + if b then 1 else 0:=by
 unfold cntR;rw[List.take_succ_eq_append_getElem h,List.filter_append,List.length_append];cases b<;>simp[hb]
theorem Zok (L:List SR) (f:ByteArray) (i:Nat):cntR (L.take i) f≤i:=by
 unfold cntR;refine Nat.le_trans (List.length_filter_le _ _) ?_;rw[List.length_take];omega
def Za0 (s:SR) (c:Nat):Int:=if s.dead then 50 else if s.op then 15 else if 32≤c then 14 else 0
def SR.opened (s:SR) (ttl time:Int):SR:={s with op:=true,ttl:=cutI ttl,dl:=cutI (cutI time + cutI ttl)}
def Zox (w:World) (v:Value) (L:List SR) (s:SR) (b1 b2 b3:Nat) (k:Nat) (n u:Value) (wr:World):Prop:=
 ∃i:Nat,u=.int .i64 i∧n=.int .i64 (cntR (L.take i) s.foot)∧i + k=L.length∧At [rowR v L] w [zeroB b3,Part.cells b2 s.cells 73,Part.cells b1 [v] 34,rowR v L] wr
def ZbZ (w:World) (v:Value) (L:List SR) (s:SR) (ttl time:Int) (e:Ending) (w':World):Prop:=
 (Za0 s (cntR L s.foot)≠0∧e=.returned (.tuple #[.agg #[v],.int .i64 (Za0 s (cntR L s.foot))])∧At [rowR v L] w [rowR v L] w')∨
 (Za0 s (cntR L s.foot)=0∧∃v',e=.returned (.tuple #[.agg #[v'],.int .i64 0])∧At [rowR v L] w [rowR v' (putR L (s.opened ttl time))] w')
theorem Zj7 {w:World} {v:Value} {L:List SR} (h:Sep [rowR v L] w) (s:SR) (ttl time:Int) (hmax:L.length≤1000000):
 Calls Tryz.prog 65 #[.agg #[v],.agg s.cells.toArray,.int .i64 ttl,.int .i64 time] w (ZbZ w v L s ttl time):=by
 have hA:=At.start h;have hF:=hA.facts;clear h;obtain⟨ax,cap,rfl,hax,hcap,_⟩:=hA.row_form (v:=v) (xs:=flatR L) sR;cases hd:s.dead
 · cases ho:s.op
   · unfold SR.cells;rw[hd,ho];go_enter Tryz.func65,Tryz.ntmps65
     go_wp2_with (first|((with_reducible refine gbx ?_);refine wCy (E:=34) hA ?_;clear hF hA;intro bB w1 hA hbB hF)|((with_reducible refine gbx ?_);refine wCy (E:=73) hA ?_;clear hF hA;intro bS w1 hA hbS hF)|((with_reducible refine gal ?_);refine g7 hA ?_;clear hF hA;intro bZ w1 hA hbZ hF))
     (try go_frame);go_loopg [10,11] L.length (Zox w (.slice ax L.length cap) L s bB bS bZ)
     case atStart=>exact⟨0,rfl,by simp[cntR],by simp,by unfold SR.cells;rw[hd,ho];exact hA.pick pR⟩
     case round=>
      obtain⟨i,rfl,rfl,hik,hB⟩:=hrel;replace hA:=hB;clear hF hB;unfold SR.cells at hA;rw[hd,ho] at hA;have hcl:=Zok L s.foot i;by_cases hi:i < L.length
      · have hx:L[i]? =some L[i]:=List.getElem?_eq_getElem hi;obtain⟨g,c,rfl,_,hcm,hcl',hct,hB⟩:=hA.row_open (ax:=ax) (cap:=cap) (n:=L.length) (xs:=flatR L) sR (by omega);have c1:c[i * 7 + 1]? =some (.string L[i].foot):=Zag SR.cells_len hct hx 1 (by omega);have c2:c[i * 7 + 2]? =some (.bool L[i].op):=Zag SR.cells_len hct hx 2 (by omega);clear hA;have hA:=hB;clear hB;obtain⟨hA,hF⟩:=fY hA;have hs:=fun {b:Bool}=>Zk1 (f:=s.foot) hi (b:=b);cases h1:(L[i].foot.toList==s.foot.toList)
        · have hs':=Hd (hs (b:=false) (by simp[openB,h1]));clear hs;go_wp2_with fail;refine cl0 hA ?_;clear hF hA;intro w1 hA hF;(try simp only[uY] at hA hF);go_wp2_with fail;go_roundg (gk - 1);case measure=>omega
          case rel=>exact⟨i + 1,by simp,by rw[hs'.out];simp,by omega,by unfold SR.cells;rw[hd,ho];exact(ZbL hA sR hcl' hcap hcm hct).pick pR⟩
        cases h2:L[i].op
        · have hs':=Hd (hs (b:=false) (by simp[openB,h1,h2]));clear hs;rw[h2] at c2;go_wp2_with fail;refine cl0 hA ?_;clear hF hA;intro w1 hA hF;(try simp only[uY] at hA hF);go_wp2_with fail;go_roundg (gk - 1);case measure=>omega
          case rel=>exact⟨i + 1,by simp,by rw[hs'.out];simp,by omega,by unfold SR.cells;rw[hd,ho];exact(ZbL hA sR hcl' hcap hcm hct).pick pR⟩
        have hs':=Hd (hs (b:=true) (by simp[openB,h1,h2]));clear hs;rw[h2] at c2;go_wp2_with fail;refine cl0 hA ?_;clear hF hA;intro w1 hA hF;(try simp only[uY] at hA hF);go_wp2_with fail;go_roundg (gk - 1);case measure=>omega
        case rel=>exact⟨i + 1,by simp,by rw[hs'.out];simp,by omega,by unfold SR.cells;rw[hd,ho];exact(ZbL hA sR hcl' hcap hcm hct).pick pR⟩
      have ht:L.take i=L:=List.take_of_length_le (by omega);rw[ht] at hcl;rw[ht];clear ht;have b1:=Zci ttl;have b2:=Zci time;obtain⟨hA,hF⟩:=fY hA;by_cases hc:32≤cntR L s.foot
      · have he:=Hd (show Za0 s (cntR L s.foot)=14 by simp[Za0,hd,ho,hc]);have hc':(32:Int)≤(cntR L s.foot:Int):=by omega
        go_wp2_with ((with_reducible refine gst ?_);refine wTy hA ?_;clear hF hA;intro w1 hA hF)
        refine bodyPost_ret (v:=.tuple #[.agg #[.slice ax L.length cap],.int .i64 14]) (by simp[results,Tryz.results65,go_sem,hF]) rfl (show ZbZ _ _ _ _ _ _ _ _ from .inl ⟨by rw[he.out];simp,by rw[he.out],hA.pick pR⟩)
      have he:=Hd (show Za0 s (cntR L s.foot)=0 by simp[Za0,hd,ho,hc]);have hc':(cntR L s.foot:Int) < 32:=by omega
      go_wp2_with ((with_reducible refine gst ?_);refine wTy hA ?_;clear hF hA;intro w1 hA hF)
      refine(Zis _ _).mono ?_;rintro e _ ⟨rfl,rfl⟩
      go_wp2_with ((with_reducible refine gst ?_);refine wTy hA ?_;clear hF hA;intro w1 hA hF)
      (try go_frame);(refine Zar 6 (Cl _ _ _) (by kernel_rfl) (by kernel_rfl) (Cl.drew hA) ?_);(simp only[List.take_succ_cons,List.take_zero,List.drop_succ_cons,List.drop_zero]);(have hn1:=Cl.none hA);(have hn2:=Cl.none2 hA);(repeat(first|go_big_quiet_skip|(go_big_quiet_want;(first|(refine qL ?_;go_frame;go_big_quiet_on)|(go_big_quiet_op;(first|go_big_quiet_on|((apply Exists.intro);(refine⟨fun w1 hw=> ?_,?_⟩);(focus((have hw:=Cl.out hw);(exact ZkY hw _)));(go_big_quiet_on))))))))
      (refine wpQuiet_nil ?_);(intro w1 hB);(clear hF hA hn1 hn2);(have hA:=Cl.out hB);(clear hB);obtain⟨hA,hF⟩:=fY hA
      go_wp2_with ((with_reducible refine gst ?_);refine wTy hA ?_;clear hF hA;intro w1 hA hF)
      have hop:=Hd (show s.opened ttl time=⟨s.num,s.foot,true,false,cutI (cutI time + cutI ttl),cutI ttl,s.ax,s.cap,s.told⟩ by simp[SR.opened,hd]);generalize cutI (cutI time + cutI ttl)=dl' at *
      generalize cutI ttl=ttl' at *
      refine(Zcm (hA.sep1 sR) ⟨s.num,s.foot,true,false,dl',ttl',s.ax,s.cap,s.told⟩ hmax).mono ?_;rintro e w1 ⟨v',rfl,hT⟩;have hB:=hA.call1 sR hT;clear hF hA hT;obtain⟨ax4,n4,cap4,hv4,hn4⟩:=hB.row_hid .here;subst hv4;have hA:=hB;clear hB;obtain⟨hA,hF⟩:=fY hA
      go_wp2_with ((with_reducible refine gst ?_);refine wTy hA ?_;clear hF hA;intro w1 hA hF)
      refine bodyPost_ret (v:=.tuple #[.agg #[.slice ax4 n4 cap4],.int .i64 0]) (by simp[results,Tryz.results65,go_sem,hF]) rfl (show ZbZ _ _ _ _ _ _ _ _ from .inr ⟨he.out,_,rfl,by rw[hop.out];exact hA.pick pR⟩)
   have he:=Hd (show Za0 s (cntR L s.foot)=15 by simp[Za0,hd,ho]);unfold SR.cells;rw[hd,ho];go_enter Tryz.func65,Tryz.ntmps65
   go_wp2_with (first|((with_reducible refine gbx ?_);refine wCy (E:=34) hA ?_;clear hF hA;intro bB w1 hA hbB hF)|((with_reducible refine gbx ?_);refine wCy (E:=73) hA ?_;clear hF hA;intro bS w1 hA hbS hF)|((with_reducible refine gal ?_);refine g7 hA ?_;clear hF hA;intro bZ w1 hA hbZ hF)|((with_reducible refine gst ?_);refine wTy hA ?_;clear hF hA;intro w1 hA hF))
   refine bodyPost_ret (v:=.tuple #[.agg #[.slice ax L.length cap],.int .i64 15]) (by simp[results,Tryz.results65,go_sem,hF]) rfl (show ZbZ _ _ _ _ _ _ _ _ from .inl ⟨by rw[he.out];simp,by rw[he.out],hA.pick pR⟩)
 have he:=Hd (show Za0 s (cntR L s.foot)=50 by simp[Za0,hd]);unfold SR.cells;rw[hd];go_enter Tryz.func65,Tryz.ntmps65
 go_wp2_with (first|((with_reducible refine gbx ?_);refine wCy (E:=34) hA ?_;clear hF hA;intro bB w1 hA hbB hF)|((with_reducible refine gbx ?_);refine wCy (E:=73) hA ?_;clear hF hA;intro bS w1 hA hbS hF)|((with_reducible refine gal ?_);refine g7 hA ?_;clear hF hA;intro bZ w1 hA hbZ hF)|((with_reducible refine gst ?_);refine wTy hA ?_;clear hF hA;intro w1 hA hF))
 refine bodyPost_ret (v:=.tuple #[.agg #[.slice ax L.length cap],.int .i64 50]) (by simp[results,Tryz.results65,go_sem,hF]) rfl (show ZbZ _ _ _ _ _ _ _ _ from .inl ⟨by rw[he.out];simp,by rw[he.out],hA.pick pR⟩)
def SR.kept (s:SR) (time:Int):SR:={s with dl:=if s.dl < cutI (cutI time + s.ttl) then cutI (cutI time + s.ttl) else s.dl}
def SR.ended (s:SR):SR:={s with op:=false,dead:=true,dl:=0,ttl:=0}
def Za8 (w:World) (v:Value) (L:List SR) (s':SR) (err:Int) (e:Ending) (w':World):Prop:=
 (err≠0∧e=.returned (.tuple #[.agg #[v],.int .i64 err])∧At [rowR v L] w [rowR v L] w')∨
 (err=0∧∃v',e=.returned (.tuple #[.agg #[v'],.int .i64 0])∧At [rowR v L] w [rowR v' (putR L s')] w')
theorem Zkr {w:World} {v:Value} {L:List SR} (h:Sep [rowR v L] w) (s:SR) (time:Int) (h0:0≤s.ttl) (h1:s.ttl≤2199023255552) (hmax:L.length≤1000000):
 Calls Tryz.prog 66 #[.agg #[v],.agg s.cells.toArray,.int .i64 time] w (Za8 w v L (s.kept time) (if s.op then 0 else 50)):=by
 have hA:=At.start h;have hF:=hA.facts;clear h;obtain⟨ax,cap,rfl,hax,hcap,_⟩:=hA.row_form (v:=v) (xs:=flatR L) sR;have b2:=Zci time;cases ho:s.op
 · unfold SR.cells;rw[ho];go_enter Tryz.func66,Tryz.ntmps66
   go_wp2_with (first|((with_reducible refine gbx ?_);refine wCy (E:=34) hA ?_;clear hF hA;intro bB w1 hA hbB hF)|((with_reducible refine gbx ?_);refine wCy (E:=73) hA ?_;clear hF hA;intro bS w1 hA hbS hF)|((with_reducible refine gal ?_);refine g7 hA ?_;clear hF hA;intro bZ w1 hA hbZ hF)|((with_reducible refine gst ?_);refine wTy hA ?_;clear hF hA;intro w1 hA hF))
   refine bodyPost_ret (v:=.tuple #[.agg #[.slice ax L.length cap],.int .i64 50]) (by simp[results,Tryz.results66,go_sem,hF]) rfl (show Za8 _ _ _ _ _ _ _ from .inl ⟨by simp,by simp,hA.pick pR⟩)
 have hd:s.dl < cutI (cutI time + s.ttl)∨¬s.dl < cutI (cutI time + s.ttl):=by omega
 rcases hd with hd|hd
 all_goals
  have hk:=hd
 · have hkc:=Hd (show s.kept time={s with dl:=cutI (cutI time + s.ttl)} by unfold SR.kept;rw[if_pos hk]);clear hk;simp only[SR.cells,ho];go_enter Tryz.func66,Tryz.ntmps66
   go_wp2_with (first|((with_reducible refine gbx ?_);refine wCy (E:=34) hA ?_;clear hF hA;intro bB w1 hA hbB hF)|((with_reducible refine gbx ?_);refine wCy (E:=73) hA ?_;clear hF hA;intro bS w1 hA hbS hF)|((with_reducible refine gal ?_);refine g7 hA ?_;clear hF hA;intro bZ w1 hA hbZ hF))
   refine cl5 hA ?_;clear hF hA;intro w1 hA hF;(try simp only[uY] at hA hF)
   go_wp2_with ((with_reducible refine gst ?_);refine wTy hA ?_;clear hF hA;intro w1 hA hF)
   refine(Zcm (hA.sep1 sR) {s with op:=true,dl:=cutI (cutI time + s.ttl)} hmax).mono ?_;rintro e w1 ⟨v',rfl,hT⟩;have hB:=hA.call1 sR hT;clear hF hA hT;obtain⟨ax4,n4,cap4,hv4,hn4⟩:=hB.row_hid .here;subst hv4;have hA:=hB;clear hB;obtain⟨hA,hF⟩:=fY hA
   go_wp2_with ((with_reducible refine gst ?_);refine wTy hA ?_;clear hF hA;intro w1 hA hF)
   refine bodyPost_ret (v:=.tuple #[.agg #[.slice ax4 n4 cap4],.int .i64 0]) (by simp[results,Tryz.results66,go_sem,hF]) rfl (show Za8 _ _ _ _ _ _ _ from .inr ⟨by simp,_,rfl,?_⟩);rw[hkc.out,show({s with dl:=cutI (cutI time + s.ttl)}:SR)={s with op:=true,dl:=cutI (cutI time + s.ttl)} by rw[←ho]];exact hA.pick pR
 have hkc:=Hd (show s.kept time=s by unfold SR.kept;rw[if_neg hk]);have hd':cutI (cutI time + s.ttl)≤s.dl:=by omega
 clear hk;simp only[SR.cells,ho];go_enter Tryz.func66,Tryz.ntmps66
 go_wp2_with (first|((with_reducible refine gbx ?_);refine wCy (E:=34) hA ?_;clear hF hA;intro bB w1 hA hbB hF)|((with_reducible refine gbx ?_);refine wCy (E:=73) hA ?_;clear hF hA;intro bS w1 hA hbS hF)|((with_reducible refine gal ?_);refine g7 hA ?_;clear hF hA;intro bZ w1 hA hbZ hF))
 refine cl5 hA ?_;clear hF hA;intro w1 hA hF;(try simp only[uY] at hA hF);go_wp2_with fail;refine(Zcm (hA.sep1 sR) {s with op:=true} hmax).mono ?_;rintro e w1 ⟨v',rfl,hT⟩;have hB:=hA.call1 sR hT;clear hF hA hT;obtain⟨ax4,n4,cap4,hv4,hn4⟩:=hB.row_hid .here;subst hv4;have hA:=hB;clear hB;obtain⟨hA,hF⟩:=fY hA
 go_wp2_with ((with_reducible refine gst ?_);refine wTy hA ?_;clear hF hA;intro w1 hA hF)
 refine bodyPost_ret (v:=.tuple #[.agg #[.slice ax4 n4 cap4],.int .i64 0]) (by simp[results,Tryz.results66,go_sem,hF]) rfl (show Za8 _ _ _ _ _ _ _ from .inr ⟨by simp,_,rfl,?_⟩);rw[hkc.out,show s={s with op:=true} by rw[←ho]];exact hA.pick pR
theorem ZfS {w:World} {v:Value} {L:List SR} (h:Sep [rowR v L] w) (s:SR) (hmax:L.length≤1000000):
 Calls Tryz.prog 63 #[.agg #[v],.agg s.cells.toArray] w (Za8 w v L s.ended (if s.op then 0 else 50)):=by
 have hA:=At.start h;have hF:=hA.facts;clear h;obtain⟨ax,cap,rfl,hax,hcap,_⟩:=hA.row_form (v:=v) (xs:=flatR L) sR;cases ho:s.op
 · unfold SR.cells;rw[ho];go_enter Tryz.func63,Tryz.ntmps63
   go_wp2_with (first|((with_reducible refine gbx ?_);refine wCy (E:=34) hA ?_;clear hF hA;intro bB w1 hA hbB hF)|((with_reducible refine gbx ?_);refine wCy (E:=73) hA ?_;clear hF hA;intro bS w1 hA hbS hF)|((with_reducible refine gal ?_);refine g7 hA ?_;clear hF hA;intro bZ w1 hA hbZ hF)|((with_reducible refine gst ?_);refine wTy hA ?_;clear hF hA;intro w1 hA hF))
   refine bodyPost_ret (v:=.tuple #[.agg #[.slice ax L.length cap],.int .i64 50]) (by simp[results,Tryz.results63,go_sem,hF]) rfl (show Za8 _ _ _ _ _ _ _ from .inl ⟨by simp,by simp,hA.pick pR⟩)
 simp only[SR.cells,ho];go_enter Tryz.func63,Tryz.ntmps63
 go_wp2_with (first|((with_reducible refine gbx ?_);refine wCy (E:=34) hA ?_;clear hF hA;intro bB w1 hA hbB hF)|((with_reducible refine gbx ?_);refine wCy (E:=73) hA ?_;clear hF hA;intro bS w1 hA hbS hF)|((with_reducible refine gal ?_);refine g7 hA ?_;clear hF hA;intro bZ w1 hA hbZ hF)|((with_reducible refine gst ?_);refine wTy hA ?_;clear hF hA;intro w1 hA hF))
 refine(Zcm (hA.sep1 sR) s.ended hmax).mono ?_;rintro e w1 ⟨v',rfl,hT⟩;have hB:=hA.call1 sR hT;clear hF hA hT;obtain⟨ax4,n4,cap4,hv4,hn4⟩:=hB.row_hid .here;subst hv4;have hA:=hB;clear hB;obtain⟨hA,hF⟩:=fY hA
 go_wp2_with ((with_reducible refine gst ?_);refine wTy hA ?_;clear hF hA;intro w1 hA hF)
 refine bodyPost_ret (v:=.tuple #[.agg #[.slice ax4 n4 cap4],.int .i64 0]) (by simp[results,Tryz.results63,go_sem,hF]) rfl (show Za8 _ _ _ _ _ _ _ from .inr ⟨by simp,_,rfl,?_⟩);exact hA.pick pR
def expE (s:SR) (time:Int):Int:=if s.op then(if time < s.dl then 54 else 0) else 50
theorem ZhA {w:World} {v:Value} {L:List SR} (h:Sep [rowR v L] w) (s:SR) (time:Int) (hmax:L.length≤1000000):
 Calls Tryz.prog 25 #[.agg #[v],.agg s.cells.toArray,.int .i64 time] w (Za8 w v L s.ended (expE s time)):=by
 have hA:=At.start h;have hF:=hA.facts;clear h;obtain⟨ax,cap,rfl,hax,hcap,_⟩:=hA.row_form (v:=v) (xs:=flatR L) sR;by_cases hx:s.op=true∧time < s.dl
 · obtain⟨ho,ht⟩:=hx;have he:=Hd (show expE s time=54 by simp[expE,ho,ht]);simp only[SR.cells,ho];go_enter Tryz.func25,Tryz.ntmps25
   go_wp2_with (first|((with_reducible refine gbx ?_);refine wCy (E:=34) hA ?_;clear hF hA;intro bB w1 hA hbB hF)|((with_reducible refine gbx ?_);refine wCy (E:=73) hA ?_;clear hF hA;intro bS w1 hA hbS hF)|((with_reducible refine gal ?_);refine g7 hA ?_;clear hF hA;intro bZ w1 hA hbZ hF)|((with_reducible refine gst ?_);refine wTy hA ?_;clear hF hA;intro w1 hA hF))
   refine bodyPost_ret (v:=.tuple #[.agg #[.slice ax L.length cap],.int .i64 54]) (by simp[results,Tryz.results25,go_sem,hF]) rfl (show Za8 _ _ _ _ _ _ _ from .inl ⟨by rw[he.out];simp,by rw[he.out],hA.pick pR⟩)
 have hx':(s.op=true∧decide (time < s.dl)=false)∨s.op=false:=by
  cases h:s.op
  · exact .inr rfl
  exact .inl ⟨rfl,by simpa [h] using hx⟩
 have he:=Hd (show expE s time=if s.op then 0 else 50 by
  unfold expE;rcases hx' with⟨h1,h2⟩|h1
  · have h3:¬time < s.dl:=by simpa using h2
    rw[h1,if_pos rfl,if_pos rfl,if_neg h3]
  rw[h1];rfl)
 clear hx;rcases hx' with⟨ho,ht⟩|ho
 · unfold SR.cells;rw[ho];go_enter Tryz.func25,Tryz.ntmps25
   go_wp2_with (first|((with_reducible refine gbx ?_);refine wCy (E:=34) hA ?_;clear hF hA;intro bB w1 hA hbB hF)|((with_reducible refine gbx ?_);refine wCy (E:=73) hA ?_;clear hF hA;intro bS w1 hA hbS hF)|((with_reducible refine gal ?_);refine g7 hA ?_;clear hF hA;intro bZ w1 hA hbZ hF))
   have hE:=ZfS (hA.sep1 sR) s hmax;unfold SR.cells at hE;rw[ho] at hE;refine hE.mono ?_;clear hE;rintro e w1 (⟨q1,_,_⟩|⟨_,v',rfl,hT⟩)
   · exact absurd rfl q1
   have hB:=hA.call1 sR hT;clear hF hA hT;obtain⟨ax4,n4,cap4,hv4,hn4⟩:=hB.row_hid .here;subst hv4;have hA:=hB;clear hB;rw[ho] at he;obtain⟨hA,hF⟩:=fY hA
   go_wp2_with ((with_reducible refine gst ?_);refine wTy hA ?_;clear hF hA;intro w1 hA hF)
   refine bodyPost_ret (v:=.tuple #[.agg #[.slice ax4 n4 cap4],.int .i64 0]) (by simp[results,Tryz.results25,go_sem,hF]) rfl (show Za8 _ _ _ _ _ _ _ from .inr ⟨by rw[he.out];simp,_,rfl,hA.pick pR⟩)
 unfold SR.cells;rw[ho];go_enter Tryz.func25,Tryz.ntmps25
 go_wp2_with (first|((with_reducible refine gbx ?_);refine wCy (E:=34) hA ?_;clear hF hA;intro bB w1 hA hbB hF)|((with_reducible refine gbx ?_);refine wCy (E:=73) hA ?_;clear hF hA;intro bS w1 hA hbS hF)|((with_reducible refine gal ?_);refine g7 hA ?_;clear hF hA;intro bZ w1 hA hbZ hF))
 have hE:=ZfS (hA.sep1 sR) s hmax;unfold SR.cells at hE;rw[ho] at hE;refine hE.mono ?_;clear hE;rintro e w1 (⟨_,rfl,hT⟩|⟨q1,_,_,_⟩);rotate_left
 · exact absurd q1 (by simp)
 replace hA:=hA.call1 sR hT;clear hF hT;rw[ho] at he;obtain⟨hA,hF⟩:=fY hA
 go_wp2_with ((with_reducible refine gst ?_);refine wTy hA ?_;clear hF hA;intro w1 hA hF)
 refine bodyPost_ret (v:=.tuple #[.agg #[.slice ax L.length cap],.int .i64 50]) (by simp[results,Tryz.results25,go_sem,hF]) rfl (show Za8 _ _ _ _ _ _ _ from .inl ⟨by rw[he.out];simp,by rw[he.out];simp,hA.pick pR⟩)
end Lease
end
end Go.Proofs.YtknoefbcmomalaaGreatDoor
