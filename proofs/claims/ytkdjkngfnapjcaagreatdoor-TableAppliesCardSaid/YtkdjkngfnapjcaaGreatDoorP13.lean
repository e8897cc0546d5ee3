/- LeaseR4, LeaseR5, CollS, CollM, MarkC, SessC, joined. -/
import Derived.Test.YtkdjkngfnapjcaaGreatDoorP12
import Derived.RangeFuncNested
import Derived.RangeFuncBound
import Derived.RangeFuncCalls
import Derived.RangeFuncLeaves
import Derived.Shelf.Abstract
import Derived.WalkKit
import Derived.OwnWalkIn
import Derived.TacticsInMore
import Derived.LoopNIn
import Derived.LoopIn
import Derived.Maps.AppendAt
import Derived.Test.YtkdjkngfnapjcaaGreatDoorP2
import Derived.Test.YtkdjkngfnapjcaaGreatDoorChecked
import Derived.Test.YtkdjkngfnapjcaaGreatDoorShelft
import Derived.Test.YtkdjkngfnapjcaaGreatDoorSortt
import Derived.Deep.QuietTactic
import Derived.BigQuiet
import Derived.Deep.Cut
import Derived.WalkLawsBesides
set_option linter.unusedSimpArgs false
set_option linter.unusedVariables false
set_option maxRecDepth 100000
set_option maxHeartbeats 16000000
namespace Go.Proofs.YtkdjkngfnapjcaaGreatDoor
section
namespace Lease
open Go.RowKit
def ZcL (a x:AR):Bool:=decide (x.r < a.r)
def insA (l:List AR) (a:AR):List AR:=l.takeWhile (ZcL a)++a::l.dropWhile (ZcL a)
theorem ZkO {l:List AR} {a:AR} {i:Nat} (hi:i≤l.length) (h1:∀x ∈ l.take i,ZcL a x=true) (h2:∀h:i < l.length,ZcL a l[i]=false):insA l a=l.take i++a::l.drop i:=by
 obtain⟨e1,e2⟩:=Zfz hi h1 h2;unfold insA;rw[e1,e2]
theorem AR.one (s:AR):∀u ∈ s.cells,u.oneCell'=true:=List.all_eq_true.1 s.ones
theorem ZdS (v:Value) (l1 l2:List AR):Part.row 90 4 v (l1.length + l2.length) (flatA l1++flatA l2)=rowA v (l1++l2):=by simp[flatA,rowA]
theorem ZgI (v:Value) (l:List AR) (x:AR):Part.row 90 4 v (l.length + 1) (flatA l++AR.cells x)=rowA v (l++[x]):=by simp[flatA,rowA]
theorem ZfP {L0 L:List Part} {w0 w:World} (h:At L0 w0 L w):At L0 w0 (rowA (.slice none 0 0) []::L) w:=h.row_nil 90 4
theorem infoAR:(Tryz.prog.info? 90).map (fun i=>(i.zero,i.size,i.bytes))=some (some (.agg #[.int .u64 0,.int .i64 0,.int .u64 0,.bool false]),4,32):=by kernel_rfl
theorem ZlT {w:World} {v:Value} {L:List SR} {s:SR} (h:Sep [rowR v L,rowA s.tv s.told] w) (a:AR) (hmax:s.told.length≤1000000) (hno:(saidA s.told a.r).isSome=true∨256≤s.told.length):
 Calls Tryz.prog 98 #[.agg #[v],.agg s.cells.toArray,.agg a.cells.toArray] w fun e w'=>e=.returned (.agg #[v])∧At [rowR v L,rowA s.tv s.told] w [rowR v L,rowA s.tv s.told] w':=by
 obtain⟨num,foot,op,dead,dl,ttl,ax,cap,told⟩:=s
 simp only[SR.tv] at *
 have hA:=At.start h;have hF:=hA.facts;clear h;obtain⟨axv,nv,capv,hv,hnv⟩:=hA.row_hid (v:=v) (n:=L.length) (xs:=flatR L) sR;subst hv;cases hs:(saidA told a.r).isSome
 · have hl':(256:Int)≤(told.length:Int):=by rw[hs] at hno;simp at hno;omega
   simp only[SR.cells,AR.cells,SR.tv]
   go_enter Tryz.func98,Tryz.ntmps98
   go_wp2_with (first|((with_reducible refine gbx ?_);refine wCy (E:=81) hA ?_;clear hF hA;intro bB w1 hA hbB hF)|((with_reducible refine gbx ?_);refine wCy (E:=119) hA ?_;clear hF hA;intro bS w1 hA hbS hF)|((with_reducible refine gbx ?_);refine wCy (E:=90) hA ?_;clear hF hA;intro bA w1 hA hbA hF)|((with_reducible refine gal ?_);refine g6 hA ?_;clear hF hA;intro bZ w1 hA hbZ hF))
   refine(ZcY (s:=⟨num,foot,op,dead,dl,ttl,ax,cap,told⟩) (hA.sep1 sZ) a.r (by simp only;omega)).mono ?_;simp only[hs,AR.cells,SR.tv];rintro e w1 ⟨rfl,hT⟩;replace hA:=hA.call1 sR hT;clear hF hT;obtain⟨hA,hF⟩:=fY hA
   go_wp2_with (first|((with_reducible refine gal ?_);refine g12 hA ?_;clear hF hA;intro bQ w1 hA hbQ hF)|((with_reducible refine gst ?_);refine wTy hA ?_;clear hF hA;intro w1 hA hF))
   refine bodyPost_ret (v:=.agg #[.slice axv nv capv]) (by simp[results,Tryz.results98,go_sem,hF]) rfl ⟨rfl,?_⟩;exact hA.pick pR
 clear hno;simp only[SR.cells,AR.cells,SR.tv]
 go_enter Tryz.func98,Tryz.ntmps98
 go_wp2_with (first|((with_reducible refine gbx ?_);refine wCy (E:=81) hA ?_;clear hF hA;intro bB w1 hA hbB hF)|((with_reducible refine gbx ?_);refine wCy (E:=119) hA ?_;clear hF hA;intro bS w1 hA hbS hF)|((with_reducible refine gbx ?_);refine wCy (E:=90) hA ?_;clear hF hA;intro bA w1 hA hbA hF)|((with_reducible refine gal ?_);refine g6 hA ?_;clear hF hA;intro bZ w1 hA hbZ hF))
 refine(ZcY (s:=⟨num,foot,op,dead,dl,ttl,ax,cap,told⟩) (hA.sep1 sZ) a.r (by simp only;omega)).mono ?_;simp only[hs,AR.cells,SR.tv];rintro e w1 ⟨rfl,hT⟩;replace hA:=hA.call1 sR hT;clear hF hT;obtain⟨hA,hF⟩:=fY hA
 go_wp2_with (first|((with_reducible refine gal ?_);refine g12 hA ?_;clear hF hA;intro bQ w1 hA hbQ hF)|((with_reducible refine gst ?_);refine wTy hA ?_;clear hF hA;intro w1 hA hF))
 refine bodyPost_ret (v:=.agg #[.slice axv nv capv]) (by simp[results,Tryz.results98,go_sem,hF]) rfl ⟨rfl,?_⟩;exact hA.pick pR
def ZoE (w:World) (v:Value) (L:List SR) (s:SR) (a:AR) (b1 b2 b3 b4 b5:Nat) (c5:List Value) (k:Nat) (u:Value) (wr:World):Prop:=
 ∃i:Nat,u=.int .i64 i∧i + k=s.told.length∧At [rowR v L,rowA s.tv s.told] w [Part.cells b5 c5 90,zeroB b4,Part.cells b3 a.cells 90,Part.cells b2 s.cells 119,Part.cells b1 [v] 81,rowA s.tv s.told,rowR v L] wr∧∀x ∈ s.told.take i,ZcL a x=true
def Zgn (w:World) (v:Value) (L:List SR) (s:SR) (a:AR) (e:Ending) (w':World):Prop:=
 ∃v' ax cap,e=.returned (.agg #[v'])∧At [rowR v L,rowA s.tv s.told] w [rowR v' (putR L {s with ax:=ax,cap:=cap,told:=insA s.told a}),rowA (SR.tv {s with ax:=ax,cap:=cap,told:=insA s.told a}) (insA s.told a),rowA s.tv s.told] w'
theorem Zj2 {w:World} {v:Value} {L:List SR} {s:SR} (h:Sep [rowR v L,rowA s.tv s.told] w) (a:AR) (hmaxL:L.length≤1000000) (hno:saidA s.told a.r=none) (hl:s.told.length < 256):
 Calls Tryz.prog 98 #[.agg #[v],.agg s.cells.toArray,.agg a.cells.toArray] w (Zgn w v L s a):=by
 obtain⟨i0,hi0,hz0,hz1,hz2⟩:=info_parts infoAR;obtain⟨num,foot,op,dead,dl,ttl,ax,cap,told⟩:=s
 simp only[SR.tv] at *
 have hA:=At.start h;have hF:=hA.facts;clear h;obtain⟨ax',cap',he0,hax,hcap,_⟩:=hA.row_form (v:=.slice ax told.length cap) (xs:=flatA told) sR;cases he0
 have hl':decide ((256:Int)≤(told.length:Int))=false:=by simp;omega
 have hno':=Hd hno;clear hno;simp only[SR.cells,AR.cells,SR.tv]
 go_enter Tryz.func98,Tryz.ntmps98
 go_wp2_with (first|((with_reducible refine gbx ?_);refine wCy (E:=81) hA ?_;clear hF hA;intro bB w1 hA hbB hF)|((with_reducible refine gbx ?_);refine wCy (E:=119) hA ?_;clear hF hA;intro bS w1 hA hbS hF)|((with_reducible refine gbx ?_);refine wCy (E:=90) hA ?_;clear hF hA;intro bA w1 hA hbA hF)|((with_reducible refine gal ?_);refine g6 hA ?_;clear hF hA;intro bZ w1 hA hbZ hF))
 refine(ZcY (s:=⟨num,foot,op,dead,dl,ttl,ax,cap,told⟩) (hA.sep1 sZ) a.r (by simp only;omega)).mono ?_;simp only[hno'.out,Option.getD_none,Option.isSome_none,AR.cells,noAR,SR.tv];rintro e w1 ⟨rfl,hT⟩;replace hA:=hA.call1 sR hT;clear hF hT;obtain⟨hA,hF⟩:=fY hA
 go_wp2_with (first|((with_reducible refine gal ?_);refine g12 hA ?_;clear hF hA;intro bQ w1 hA hbQ hF)|((with_reducible refine gst ?_);refine wTy hA ?_;clear hF hA;intro w1 hA hF))
 try go_frame
 go_loopg [9] told.length (ZoE w v L ⟨num,foot,op,dead,dl,ttl,ax,cap,told⟩ a bB bS bA bZ bQ [.int .u64 0,.int .i64 0,.int .u64 0,.bool false])
 case atStart=>exact⟨0,rfl,by simp,hA.pick pZ,by simp⟩
 case round=>
  obtain⟨i,rfl,hik,hB,hah⟩:=hrel;have hah':=Hd hah;clear hF hA hah;have hA:=hB;clear hB;simp only[SR.cells,AR.cells,SR.tv] at hA hah' hik
  by_cases hi:i < told.length
  · have hx:told[i]? =some told[i]:=List.getElem?_eq_getElem hi
    obtain⟨g,c,rfl,_,hcm,hcl,hct,hB⟩:=hA.row_open (ax:=ax) (cap:=cap) (n:=told.length) (xs:=flatA told) sR (by omega);have c0:c[i * 4]? =some (.int .u64 told[i].r):=Zaf AR.cells_len hct hx 0 (by omega);clear hA;have hA:=hB;clear hB;obtain⟨hA,hF⟩:=fY hA
    by_cases h1:told[i].r < a.r
    · have hn:=Hd (show ∀x ∈ told.take (i + 1),ZcL a x=true from fun x hx=>by
       rw[List.take_succ_eq_append_getElem hi] at hx
       rcases List.mem_append.1 hx with hx|hx
       · exact hah'.out x hx
       rw[List.mem_singleton.1 hx];simpa [ZcL] using h1)
      go_wp2_with fail
      refine cl1 hA ?_;clear hF hA;intro w1 hA hF;(try simp only[uY] at hA hF)
      go_wp2_with fail
      go_roundg (gk - 1)
      case measure=>omega
      case rel=>exact⟨i + 1,by simp,by simp only;omega,(Ziv hA sR hcl hcap hcm hct).pick pZ,hn.out⟩
    have hput:=Hd (ZkO (by omega) hah'.out (fun h=>by simpa [ZcL] using h1))
    have h1':decide (told[i].r < a.r)=false:=by simpa using h1
    go_wp2_with fail
    refine cl1 hA ?_;clear hF hA;intro w1 hA hF;(try simp only[uY] at hA hF);have hB:=Ziv hA sR hcl hcap hcm hct;clear hF hA;have hA:=hB;clear hB c0 hct hcl hcm h1 h1'
    generalize hax':some (⟨g,0,none⟩:Addr)=ax at *
    clear hax'
    have hl1:(told.take i).length=i:=by rw[List.length_take];omega
    have hl2:(told.drop i).length=told.length - i:=List.length_drop;have hA:=ZfP hA;obtain⟨hA,hF⟩:=fY hA
    go_wp2_with (first|((with_reducible refine gst ?_);refine wTy hA ?_;clear hF hA;intro w1 hA hF)|(refine ZaU (e:=90) (size:=4) (n:=(told).length) (xs:=flatA (told)) (v:=.slice ax (told).length cap) (k:=i) rfl rfl Tryz.underlying117 hi0 hz1 (by(try simp only[Act.eval,eV])<;>exact rfl) (by(try simp only[Act.eval,eV])<;>exact rfl) (hA.get (A:=Part.row 90 4 (.slice ax (told).length cap) (told).length (flatA (told))) sR) (by omega) ?_;intro xv hxv0;have hxv:Reads _ xv ((told).take (i)).length (flatA ((told).take (i))):=(by rw[hl1];unfold flatA at hxv0 ⊢;rw[Zbh AR.cells_len] at hxv0;exact hxv0);clear hxv0)|(refine Zae (e:=90) (size:=4) (v:=.slice none 0 0) (xs:=flatA []) (n:=([]:List AR).length) (m:=((told).take (i)).length) (news:=flatA ((told).take (i))) rfl _ _ 117 rfl Tryz.underlying117 hi0 hz0 hz1 hz2 rfl (by omega) hA sR (by(try simp only[Act.eval,eV])<;>exact rfl) (by(try simp only[Act.eval,eV])<;>exact rfl) (Zaz _ _ AR.cells_len _) hxv (ZaK AR.one _) (by unfold maxLen;simp;omega) (by simp;omega) ?_;intro v1 w1 hB;rw[ZdS] at hB;simp only[List.nil_append] at hB;clear hF hA;have hA:=hB;clear hB;obtain⟨hA,hF⟩:=fY hA)|(refine Zat (e:=90) (vs:=AR.cells a) rfl rfl (by(try simp only[Act.eval,eV])<;>exact rfl) (fun _=>by kernel_rfl) hA ?_;intro b2 w1 hB hb2;clear hF hA;have hA:=hB;clear hB;obtain⟨hA,hF⟩:=fY hA)|(refine Zae (e:=90) (size:=4) (v:=v1) (xs:=flatA ((told).take (i))) (n:=((told).take (i)).length) (m:=1) (news:=AR.cells a) rfl _ _ 117 rfl Tryz.underlying117 hi0 hz0 hz1 hz2 rfl (by omega) hA sR (by(try simp only[Act.eval,eV])<;>exact rfl) (by(try simp only[Act.eval,eV])<;>exact rfl) (rfl) (hA.cells_reads sR _ _) (AR.one _) (by unfold maxLen;simp;omega) (by simp;omega) ?_;intro v2 w1 hB;rw[ZgI] at hB;clear hF hA;have hA:=hB;clear hB;obtain⟨hA,hF⟩:=fY hA)|(refine ZaM (e:=90) (size:=4) (n:=(told).length) (xs:=flatA (told)) (v:=.slice ax (told).length cap) (k:=i) rfl rfl Tryz.underlying117 hi0 hz1 (by(try simp only[Act.eval,eV])<;>exact rfl) (by(try simp only[Act.eval,eV])<;>exact rfl) (hA.get (A:=Part.row 90 4 (.slice ax (told).length cap) (told).length (flatA (told))) sR) (by omega) ?_;intro yv hxv0;have hyv:Reads _ yv ((told).drop (i)).length (flatA ((told).drop (i))):=(by rw[hl2];unfold flatA at hxv0 ⊢;rw[ZbG AR.cells_len] at hxv0;exact hxv0);clear hxv0)|(refine Zae (e:=90) (size:=4) (v:=v2) (xs:=flatA ((told).take (i)++[a])) (n:=((told).take (i)++[a]).length) (m:=((told).drop (i)).length) (news:=flatA ((told).drop (i))) rfl _ _ 117 rfl Tryz.underlying117 hi0 hz0 hz1 hz2 rfl (by omega) hA sR (by(try simp only[Act.eval,eV])<;>exact rfl) (by(try simp only[Act.eval,eV])<;>exact rfl) (Zaz _ _ AR.cells_len _) hyv (ZaK AR.one _) (by unfold maxLen;simp;omega) (by simp;omega) ?_;intro v3 w1 hB;rw[ZdS] at hB;obtain⟨ax3,n3,cap3,hv3,hn3⟩:=hB.row_hid .here;subst hv3;clear hF hA;have hA:=hB;clear hB;obtain⟨hA,hF⟩:=fY hA))
    obtain rfl:=hn3.out;refine(Zcv (hA.sep1 sR) ⟨num,foot,op,dead,dl,ttl,ax3,cap3,told.take i++[a]++told.drop i⟩ hmaxL).mono ?_;rintro e w1 ⟨v',rfl,hT⟩;have hB:=hA.call1 sR hT;clear hF hA hT;obtain⟨ax4,n4,cap4,hv4,hn4⟩:=hB.row_hid .here;subst hv4;have hA:=hB;clear hB;obtain⟨hA,hF⟩:=fY hA
    go_wp2_with ((with_reducible refine gst ?_);refine wTy hA ?_;clear hF hA;intro w1 hA hF)
    refine bodyPost_ret (v:=.agg #[.slice ax4 n4 cap4]) (by simp[results,Tryz.results98,go_sem,hF]) rfl (show Zgn _ _ _ _ _ _ _ from⟨_,ax3,cap3,rfl,?_⟩);rw[hput.out,show told.take i++a::told.drop i=(told.take i++[a])++told.drop i by simp];exact hA.pick pZ
  have hput:=Hd (ZkO (a:=a) (by omega) hah'.out (fun h=>absurd h hi));obtain⟨hA,hF⟩:=fY hA
  go_wp2_with fail
  refine cl1 hA ?_;clear hF hA;intro w1 hA hF;(try simp only[uY] at hA hF)
  have hl1:(told.take i).length=i:=by rw[List.length_take];omega
  have hl2:(told.drop i).length=told.length - i:=List.length_drop;have hA:=ZfP hA;obtain⟨hA,hF⟩:=fY hA
  go_wp2_with (first|((with_reducible refine gst ?_);refine wTy hA ?_;clear hF hA;intro w1 hA hF)|(refine ZaU (e:=90) (size:=4) (n:=(told).length) (xs:=flatA (told)) (v:=.slice ax (told).length cap) (k:=i) rfl rfl Tryz.underlying117 hi0 hz1 (by(try simp only[Act.eval,eV])<;>exact rfl) (by(try simp only[Act.eval,eV])<;>exact rfl) (hA.get (A:=Part.row 90 4 (.slice ax (told).length cap) (told).length (flatA (told))) sR) (by omega) ?_;intro xv hxv0;have hxv:Reads _ xv ((told).take (i)).length (flatA ((told).take (i))):=(by rw[hl1];unfold flatA at hxv0 ⊢;rw[Zbh AR.cells_len] at hxv0;exact hxv0);clear hxv0)|(refine Zae (e:=90) (size:=4) (v:=.slice none 0 0) (xs:=flatA []) (n:=([]:List AR).length) (m:=((told).take (i)).length) (news:=flatA ((told).take (i))) rfl _ _ 117 rfl Tryz.underlying117 hi0 hz0 hz1 hz2 rfl (by omega) hA sR (by(try simp only[Act.eval,eV])<;>exact rfl) (by(try simp only[Act.eval,eV])<;>exact rfl) (Zaz _ _ AR.cells_len _) hxv (ZaK AR.one _) (by unfold maxLen;simp;omega) (by simp;omega) ?_;intro v1 w1 hB;rw[ZdS] at hB;simp only[List.nil_append] at hB;clear hF hA;have hA:=hB;clear hB;obtain⟨hA,hF⟩:=fY hA)|(refine Zat (e:=90) (vs:=AR.cells a) rfl rfl (by(try simp only[Act.eval,eV])<;>exact rfl) (fun _=>by kernel_rfl) hA ?_;intro b2 w1 hB hb2;clear hF hA;have hA:=hB;clear hB;obtain⟨hA,hF⟩:=fY hA)|(refine Zae (e:=90) (size:=4) (v:=v1) (xs:=flatA ((told).take (i))) (n:=((told).take (i)).length) (m:=1) (news:=AR.cells a) rfl _ _ 117 rfl Tryz.underlying117 hi0 hz0 hz1 hz2 rfl (by omega) hA sR (by(try simp only[Act.eval,eV])<;>exact rfl) (by(try simp only[Act.eval,eV])<;>exact rfl) (rfl) (hA.cells_reads sR _ _) (AR.one _) (by unfold maxLen;simp;omega) (by simp;omega) ?_;intro v2 w1 hB;rw[ZgI] at hB;clear hF hA;have hA:=hB;clear hB;obtain⟨hA,hF⟩:=fY hA)|(refine ZaM (e:=90) (size:=4) (n:=(told).length) (xs:=flatA (told)) (v:=.slice ax (told).length cap) (k:=i) rfl rfl Tryz.underlying117 hi0 hz1 (by(try simp only[Act.eval,eV])<;>exact rfl) (by(try simp only[Act.eval,eV])<;>exact rfl) (hA.get (A:=Part.row 90 4 (.slice ax (told).length cap) (told).length (flatA (told))) sR) (by omega) ?_;intro yv hxv0;have hyv:Reads _ yv ((told).drop (i)).length (flatA ((told).drop (i))):=(by rw[hl2];unfold flatA at hxv0 ⊢;rw[ZbG AR.cells_len] at hxv0;exact hxv0);clear hxv0)|(refine Zae (e:=90) (size:=4) (v:=v2) (xs:=flatA ((told).take (i)++[a])) (n:=((told).take (i)++[a]).length) (m:=((told).drop (i)).length) (news:=flatA ((told).drop (i))) rfl _ _ 117 rfl Tryz.underlying117 hi0 hz0 hz1 hz2 rfl (by omega) hA sR (by(try simp only[Act.eval,eV])<;>exact rfl) (by(try simp only[Act.eval,eV])<;>exact rfl) (Zaz _ _ AR.cells_len _) hyv (ZaK AR.one _) (by unfold maxLen;simp;omega) (by simp;omega) ?_;intro v3 w1 hB;rw[ZdS] at hB;obtain⟨ax3,n3,cap3,hv3,hn3⟩:=hB.row_hid .here;subst hv3;clear hF hA;have hA:=hB;clear hB;obtain⟨hA,hF⟩:=fY hA))
  obtain rfl:=hn3.out;refine(Zcv (hA.sep1 sR) ⟨num,foot,op,dead,dl,ttl,ax3,cap3,told.take i++[a]++told.drop i⟩ hmaxL).mono ?_;rintro e w1 ⟨v',rfl,hT⟩;have hB:=hA.call1 sR hT;clear hF hA hT;obtain⟨ax4,n4,cap4,hv4,hn4⟩:=hB.row_hid .here;subst hv4;have hA:=hB;clear hB;obtain⟨hA,hF⟩:=fY hA
  go_wp2_with ((with_reducible refine gst ?_);refine wTy hA ?_;clear hF hA;intro w1 hA hF)
  refine bodyPost_ret (v:=.agg #[.slice ax4 n4 cap4]) (by simp[results,Tryz.results98,go_sem,hF]) rfl (show Zgn _ _ _ _ _ _ _ from⟨_,ax3,cap3,rfl,?_⟩);rw[hput.out,show told.take i++a::told.drop i=(told.take i++[a])++told.drop i by simp];exact hA.pick pZ
end Lease
end
section
namespace Lease
open Go.RowKit
theorem Zld {L0 L:List Part} {w0 w:World} (h:At L0 w0 L w) (t:Int):Calls Tryz.prog 206 #[.int .i64 t] w fun e w'=>e=.returned (.int .i64 (cutI t))∧At L0 w0 L w':=
 (ZiY t w).mono fun _ _ ⟨h1,h2⟩=>⟨h1,h2 ▸ h⟩
def openB (f:ByteArray) (x:SR):Bool:=(x.foot.toList==f.toList)&&x.op
def cntR (L:List SR) (f:ByteArray):Nat:=(L.filter (openB f)).length
theorem Zlh {L:List SR} {f:ByteArray} {i:Nat} (h:i < L.length) {b:Bool} (hb:openB f L[i]=b):cntR (L.take (i + 1)) f=cntR (L.take i) f + if b then 1 else 0:=by
 unfold cntR;rw[List.take_succ_eq_append_getElem h,List.filter_append,List.length_append]
 cases b<;>simp[hb]
theorem Zox (L:List SR) (f:ByteArray) (i:Nat):cntR (L.take i) f≤i:=by
 unfold cntR;refine Nat.le_trans (List.length_filter_le _ _) ?_;rw[List.length_take];omega
def Za2 (s:SR) (c:Nat):Int:=if s.dead then 50 else if s.op then 15 else if 32≤c then 14 else 0
def SR.opened (s:SR) (ttl time:Int):SR:={s with op:=true,ttl:=cutI ttl,dl:=cutI (cutI time + cutI ttl)}
def ZoM (w:World) (v:Value) (L:List SR) (s:SR) (b1 b2 b3:Nat) (k:Nat) (n u:Value) (wr:World):Prop:=
 ∃i:Nat,u=.int .i64 i∧n=.int .i64 (cntR (L.take i) s.foot)∧i + k=L.length∧At [rowR v L] w [zeroB b3,Part.cells b2 s.cells 119,Part.cells b1 [v] 81,rowR v L] wr
def Zb0 (w:World) (v:Value) (L:List SR) (s:SR) (ttl time:Int) (e:Ending) (w':World):Prop:=
 (Za2 s (cntR L s.foot)≠0∧e=.returned (.tuple #[.agg #[v],.int .i64 (Za2 s (cntR L s.foot))])∧At [rowR v L] w [rowR v L] w')∨
 (Za2 s (cntR L s.foot)=0∧∃v',e=.returned (.tuple #[.agg #[v'],.int .i64 0])∧At [rowR v L] w [rowR v' (putR L (s.opened ttl time))] w')
theorem Zkz {w:World} {v:Value} {L:List SR} (h:Sep [rowR v L] w) (s:SR) (ttl time:Int) (hmax:L.length≤1000000):
 Calls Tryz.prog 150 #[.agg #[v],.agg s.cells.toArray,.int .i64 ttl,.int .i64 time] w (Zb0 w v L s ttl time):=by
 have hA:=At.start h;have hF:=hA.facts;clear h;obtain⟨ax,cap,rfl,hax,hcap,_⟩:=hA.row_form (v:=v) (xs:=flatR L) sR;cases hd:s.dead
 · cases ho:s.op
   · unfold SR.cells
     rw[hd,ho]
     go_enter Tryz.func150,Tryz.ntmps150
     go_wp2_with (first|((with_reducible refine gbx ?_);refine wCy (E:=81) hA ?_;clear hF hA;intro bB w1 hA hbB hF)|((with_reducible refine gbx ?_);refine wCy (E:=119) hA ?_;clear hF hA;intro bS w1 hA hbS hF)|((with_reducible refine gal ?_);refine g6 hA ?_;clear hF hA;intro bZ w1 hA hbZ hF))
     try go_frame
     go_loopg [10,11] L.length (ZoM w (.slice ax L.length cap) L s bB bS bZ)
     case atStart=>exact⟨0,rfl,by simp[cntR],by simp,by unfold SR.cells;rw[hd,ho];exact hA.pick pR⟩
     case round=>
      obtain⟨i,rfl,rfl,hik,hB⟩:=hrel;clear hF hA;have hA:=hB;clear hB;unfold SR.cells at hA;rw[hd,ho] at hA;have hcl:=Zox L s.foot i
      by_cases hi:i < L.length
      · have hx:L[i]? =some L[i]:=List.getElem?_eq_getElem hi
        obtain⟨g,c,rfl,_,hcm,hcl',hct,hB⟩:=hA.row_open (ax:=ax) (cap:=cap) (n:=L.length) (xs:=flatR L) sR (by omega);have c1:c[i * 7 + 1]? =some (.string L[i].foot):=Zaf SR.cells_len hct hx 1 (by omega);have c2:c[i * 7 + 2]? =some (.bool L[i].op):=Zaf SR.cells_len hct hx 2 (by omega);clear hA;have hA:=hB;clear hB;obtain⟨hA,hF⟩:=fY hA
        have hs:=fun {b:Bool}=>Zlh (f:=s.foot) hi (b:=b)
        cases h1:(L[i].foot.toList==s.foot.toList)
        · have hs':=Hd (hs (b:=false) (by simp[openB,h1]))
          clear hs
          go_wp2_with fail
          refine cl1 hA ?_;clear hF hA;intro w1 hA hF;(try simp only[uY] at hA hF)
          go_wp2_with fail
          go_roundg (gk - 1)
          case measure=>omega
          case rel=>exact⟨i + 1,by simp,by rw[hs'.out];simp,by omega,by unfold SR.cells;rw[hd,ho];exact(ZbK hA sR hcl' hcap hcm hct).pick pR⟩
        cases h2:L[i].op
        · have hs':=Hd (hs (b:=false) (by simp[openB,h1,h2]))
          clear hs;rw[h2] at c2
          go_wp2_with fail
          refine cl1 hA ?_;clear hF hA;intro w1 hA hF;(try simp only[uY] at hA hF)
          go_wp2_with fail
          go_roundg (gk - 1)
          case measure=>omega
          case rel=>exact⟨i + 1,by simp,by rw[hs'.out];simp,by omega,by unfold SR.cells;rw[hd,ho];exact(ZbK hA sR hcl' hcap hcm hct).pick pR⟩
        have hs':=Hd (hs (b:=true) (by simp[openB,h1,h2]));clear hs;rw[h2] at c2
        go_wp2_with fail
        refine cl1 hA ?_;clear hF hA;intro w1 hA hF;(try simp only[uY] at hA hF)
        go_wp2_with fail
        go_roundg (gk - 1)
        case measure=>omega
        case rel=>exact⟨i + 1,by simp,by rw[hs'.out];simp,by omega,by unfold SR.cells;rw[hd,ho];exact(ZbK hA sR hcl' hcap hcm hct).pick pR⟩
      have ht:L.take i=L:=List.take_of_length_le (by omega);rw[ht] at hcl;rw[ht];clear ht;have b1:=Zcs ttl;have b2:=Zcs time;obtain⟨hA,hF⟩:=fY hA
      by_cases hc:32≤cntR L s.foot
      · have he:=Hd (show Za2 s (cntR L s.foot)=14 by simp[Za2,hd,ho,hc])
        have hc':(32:Int)≤(cntR L s.foot:Int):=by omega
        go_wp2_with ((with_reducible refine gst ?_);refine wTy hA ?_;clear hF hA;intro w1 hA hF)
        refine bodyPost_ret (v:=.tuple #[.agg #[.slice ax L.length cap],.int .i64 14]) (by simp[results,Tryz.results150,go_sem,hF]) rfl (show Zb0 _ _ _ _ _ _ _ _ from .inl ⟨by rw[he.out];simp,by rw[he.out],hA.pick pR⟩)
      have he:=Hd (show Za2 s (cntR L s.foot)=0 by simp[Za2,hd,ho,hc])
      have hc':(cntR L s.foot:Int) < 32:=by omega
      go_wp2_with ((with_reducible refine gst ?_);refine wTy hA ?_;clear hF hA;intro w1 hA hF)
      refine(ZiY _ _).mono ?_;rintro e _ ⟨rfl,rfl⟩
      go_wp2_with ((with_reducible refine gst ?_);refine wTy hA ?_;clear hF hA;intro w1 hA hF)
      try go_frame
      (refine Zaw 6 (Cl _ _ _) (by kernel_rfl) (by kernel_rfl) (Cl.drew hA) ?_);(simp only[List.take_succ_cons,List.take_zero,List.drop_succ_cons,List.drop_zero]);(have hn1:=Cl.none hA);(have hn2:=Cl.none2 hA);(repeat(first|go_big_quiet_skip|(go_big_quiet_want;(first|(refine qL ?_;go_frame;go_big_quiet_on)|(go_big_quiet_op;(first|go_big_quiet_on|((apply Exists.intro);(refine⟨fun w1 hw=> ?_,?_⟩);(focus((have hw:=Cl.out hw);(exact Zld hw _)));(go_big_quiet_on))))))))
      (refine wpQuiet_nil ?_);(intro w1 hB);(clear hF hA hn1 hn2);(have hA:=Cl.out hB);(clear hB);obtain⟨hA,hF⟩:=fY hA
      go_wp2_with ((with_reducible refine gst ?_);refine wTy hA ?_;clear hF hA;intro w1 hA hF)
      have hop:=Hd (show s.opened ttl time=⟨s.num,s.foot,true,false,cutI (cutI time + cutI ttl),cutI ttl,s.ax,s.cap,s.told⟩ by simp[SR.opened,hd])
      generalize cutI (cutI time + cutI ttl)=dl' at *
      generalize cutI ttl=ttl' at *
      refine(Zcv (hA.sep1 sR) ⟨s.num,s.foot,true,false,dl',ttl',s.ax,s.cap,s.told⟩ hmax).mono ?_;rintro e w1 ⟨v',rfl,hT⟩;have hB:=hA.call1 sR hT;clear hF hA hT;obtain⟨ax4,n4,cap4,hv4,hn4⟩:=hB.row_hid .here;subst hv4;have hA:=hB;clear hB;obtain⟨hA,hF⟩:=fY hA
      go_wp2_with ((with_reducible refine gst ?_);refine wTy hA ?_;clear hF hA;intro w1 hA hF)
      refine bodyPost_ret (v:=.tuple #[.agg #[.slice ax4 n4 cap4],.int .i64 0]) (by simp[results,Tryz.results150,go_sem,hF]) rfl (show Zb0 _ _ _ _ _ _ _ _ from .inr ⟨he.out,_,rfl,by rw[hop.out];exact hA.pick pR⟩)
   have he:=Hd (show Za2 s (cntR L s.foot)=15 by simp[Za2,hd,ho]);unfold SR.cells;rw[hd,ho]
   go_enter Tryz.func150,Tryz.ntmps150
   go_wp2_with (first|((with_reducible refine gbx ?_);refine wCy (E:=81) hA ?_;clear hF hA;intro bB w1 hA hbB hF)|((with_reducible refine gbx ?_);refine wCy (E:=119) hA ?_;clear hF hA;intro bS w1 hA hbS hF)|((with_reducible refine gal ?_);refine g6 hA ?_;clear hF hA;intro bZ w1 hA hbZ hF)|((with_reducible refine gst ?_);refine wTy hA ?_;clear hF hA;intro w1 hA hF))
   refine bodyPost_ret (v:=.tuple #[.agg #[.slice ax L.length cap],.int .i64 15]) (by simp[results,Tryz.results150,go_sem,hF]) rfl (show Zb0 _ _ _ _ _ _ _ _ from .inl ⟨by rw[he.out];simp,by rw[he.out],hA.pick pR⟩)
 have he:=Hd (show Za2 s (cntR L s.foot)=50 by simp[Za2,hd]);unfold SR.cells;rw[hd]
 go_enter Tryz.func150,Tryz.ntmps150
 go_wp2_with (first|((with_reducible refine gbx ?_);refine wCy (E:=81) hA ?_;clear hF hA;intro bB w1 hA hbB hF)|((with_reducible refine gbx ?_);refine wCy (E:=119) hA ?_;clear hF hA;intro bS w1 hA hbS hF)|((with_reducible refine gal ?_);refine g6 hA ?_;clear hF hA;intro bZ w1 hA hbZ hF)|((with_reducible refine gst ?_);refine wTy hA ?_;clear hF hA;intro w1 hA hF))
 refine bodyPost_ret (v:=.tuple #[.agg #[.slice ax L.length cap],.int .i64 50]) (by simp[results,Tryz.results150,go_sem,hF]) rfl (show Zb0 _ _ _ _ _ _ _ _ from .inl ⟨by rw[he.out];simp,by rw[he.out],hA.pick pR⟩)
def SR.kept (s:SR) (time:Int):SR:={s with dl:=if s.dl < cutI (cutI time + s.ttl) then cutI (cutI time + s.ttl) else s.dl}
def SR.ended (s:SR):SR:={s with op:=false,dead:=true,dl:=0,ttl:=0}
def Zbd (w:World) (v:Value) (L:List SR) (s':SR) (err:Int) (e:Ending) (w':World):Prop:=
 (err≠0∧e=.returned (.tuple #[.agg #[v],.int .i64 err])∧At [rowR v L] w [rowR v L] w')∨
 (err=0∧∃v',e=.returned (.tuple #[.agg #[v'],.int .i64 0])∧At [rowR v L] w [rowR v' (putR L s')] w')
theorem ZkL {w:World} {v:Value} {L:List SR} (h:Sep [rowR v L] w) (s:SR) (time:Int) (h0:0≤s.ttl) (h1:s.ttl≤2199023255552) (hmax:L.length≤1000000):
 Calls Tryz.prog 151 #[.agg #[v],.agg s.cells.toArray,.int .i64 time] w (Zbd w v L (s.kept time) (if s.op then 0 else 50)):=by
 have hA:=At.start h;have hF:=hA.facts;clear h;obtain⟨ax,cap,rfl,hax,hcap,_⟩:=hA.row_form (v:=v) (xs:=flatR L) sR;have b2:=Zcs time;cases ho:s.op
 · unfold SR.cells
   rw[ho]
   go_enter Tryz.func151,Tryz.ntmps151
   go_wp2_with (first|((with_reducible refine gbx ?_);refine wCy (E:=81) hA ?_;clear hF hA;intro bB w1 hA hbB hF)|((with_reducible refine gbx ?_);refine wCy (E:=119) hA ?_;clear hF hA;intro bS w1 hA hbS hF)|((with_reducible refine gal ?_);refine g6 hA ?_;clear hF hA;intro bZ w1 hA hbZ hF)|((with_reducible refine gst ?_);refine wTy hA ?_;clear hF hA;intro w1 hA hF))
   refine bodyPost_ret (v:=.tuple #[.agg #[.slice ax L.length cap],.int .i64 50]) (by simp[results,Tryz.results151,go_sem,hF]) rfl (show Zbd _ _ _ _ _ _ _ from .inl ⟨by simp,by simp,hA.pick pR⟩)
 have hd:s.dl < cutI (cutI time + s.ttl)∨¬s.dl < cutI (cutI time + s.ttl):=by omega
 rcases hd with hd|hd
 all_goals
  have hk:=hd
 · have hkc:=Hd (show s.kept time={s with dl:=cutI (cutI time + s.ttl)} by unfold SR.kept;rw[if_pos hk])
   clear hk;simp only[SR.cells,ho]
   go_enter Tryz.func151,Tryz.ntmps151
   go_wp2_with (first|((with_reducible refine gbx ?_);refine wCy (E:=81) hA ?_;clear hF hA;intro bB w1 hA hbB hF)|((with_reducible refine gbx ?_);refine wCy (E:=119) hA ?_;clear hF hA;intro bS w1 hA hbS hF)|((with_reducible refine gal ?_);refine g6 hA ?_;clear hF hA;intro bZ w1 hA hbZ hF))
   refine cl8 hA ?_;clear hF hA;intro w1 hA hF;(try simp only[uY] at hA hF)
   go_wp2_with ((with_reducible refine gst ?_);refine wTy hA ?_;clear hF hA;intro w1 hA hF)
   refine(Zcv (hA.sep1 sR) {s with op:=true,dl:=cutI (cutI time + s.ttl)} hmax).mono ?_;rintro e w1 ⟨v',rfl,hT⟩;have hB:=hA.call1 sR hT;clear hF hA hT;obtain⟨ax4,n4,cap4,hv4,hn4⟩:=hB.row_hid .here;subst hv4;have hA:=hB;clear hB;obtain⟨hA,hF⟩:=fY hA
   go_wp2_with ((with_reducible refine gst ?_);refine wTy hA ?_;clear hF hA;intro w1 hA hF)
   refine bodyPost_ret (v:=.tuple #[.agg #[.slice ax4 n4 cap4],.int .i64 0]) (by simp[results,Tryz.results151,go_sem,hF]) rfl (show Zbd _ _ _ _ _ _ _ from .inr ⟨by simp,_,rfl,?_⟩);rw[hkc.out,show({s with dl:=cutI (cutI time + s.ttl)}:SR)={s with op:=true,dl:=cutI (cutI time + s.ttl)} by rw[←ho]];exact hA.pick pR
 have hkc:=Hd (show s.kept time=s by unfold SR.kept;rw[if_neg hk])
 have hd':cutI (cutI time + s.ttl)≤s.dl:=by omega
 clear hk;simp only[SR.cells,ho]
 go_enter Tryz.func151,Tryz.ntmps151
 go_wp2_with (first|((with_reducible refine gbx ?_);refine wCy (E:=81) hA ?_;clear hF hA;intro bB w1 hA hbB hF)|((with_reducible refine gbx ?_);refine wCy (E:=119) hA ?_;clear hF hA;intro bS w1 hA hbS hF)|((with_reducible refine gal ?_);refine g6 hA ?_;clear hF hA;intro bZ w1 hA hbZ hF))
 refine cl8 hA ?_;clear hF hA;intro w1 hA hF;(try simp only[uY] at hA hF)
 go_wp2_with fail
 refine(Zcv (hA.sep1 sR) {s with op:=true} hmax).mono ?_;rintro e w1 ⟨v',rfl,hT⟩;have hB:=hA.call1 sR hT;clear hF hA hT;obtain⟨ax4,n4,cap4,hv4,hn4⟩:=hB.row_hid .here;subst hv4;have hA:=hB;clear hB;obtain⟨hA,hF⟩:=fY hA
 go_wp2_with ((with_reducible refine gst ?_);refine wTy hA ?_;clear hF hA;intro w1 hA hF)
 refine bodyPost_ret (v:=.tuple #[.agg #[.slice ax4 n4 cap4],.int .i64 0]) (by simp[results,Tryz.results151,go_sem,hF]) rfl (show Zbd _ _ _ _ _ _ _ from .inr ⟨by simp,_,rfl,?_⟩);rw[hkc.out,show s={s with op:=true} by rw[←ho]];exact hA.pick pR
theorem Zgh {w:World} {v:Value} {L:List SR} (h:Sep [rowR v L] w) (s:SR) (hmax:L.length≤1000000):
 Calls Tryz.prog 148 #[.agg #[v],.agg s.cells.toArray] w (Zbd w v L s.ended (if s.op then 0 else 50)):=by
 have hA:=At.start h;have hF:=hA.facts;clear h;obtain⟨ax,cap,rfl,hax,hcap,_⟩:=hA.row_form (v:=v) (xs:=flatR L) sR;cases ho:s.op
 · unfold SR.cells
   rw[ho]
   go_enter Tryz.func148,Tryz.ntmps148
   go_wp2_with (first|((with_reducible refine gbx ?_);refine wCy (E:=81) hA ?_;clear hF hA;intro bB w1 hA hbB hF)|((with_reducible refine gbx ?_);refine wCy (E:=119) hA ?_;clear hF hA;intro bS w1 hA hbS hF)|((with_reducible refine gal ?_);refine g6 hA ?_;clear hF hA;intro bZ w1 hA hbZ hF)|((with_reducible refine gst ?_);refine wTy hA ?_;clear hF hA;intro w1 hA hF))
   refine bodyPost_ret (v:=.tuple #[.agg #[.slice ax L.length cap],.int .i64 50]) (by simp[results,Tryz.results148,go_sem,hF]) rfl (show Zbd _ _ _ _ _ _ _ from .inl ⟨by simp,by simp,hA.pick pR⟩)
 simp only[SR.cells,ho]
 go_enter Tryz.func148,Tryz.ntmps148
 go_wp2_with (first|((with_reducible refine gbx ?_);refine wCy (E:=81) hA ?_;clear hF hA;intro bB w1 hA hbB hF)|((with_reducible refine gbx ?_);refine wCy (E:=119) hA ?_;clear hF hA;intro bS w1 hA hbS hF)|((with_reducible refine gal ?_);refine g6 hA ?_;clear hF hA;intro bZ w1 hA hbZ hF)|((with_reducible refine gst ?_);refine wTy hA ?_;clear hF hA;intro w1 hA hF))
 refine(Zcv (hA.sep1 sR) s.ended hmax).mono ?_;rintro e w1 ⟨v',rfl,hT⟩;have hB:=hA.call1 sR hT;clear hF hA hT;obtain⟨ax4,n4,cap4,hv4,hn4⟩:=hB.row_hid .here;subst hv4;have hA:=hB;clear hB;obtain⟨hA,hF⟩:=fY hA
 go_wp2_with ((with_reducible refine gst ?_);refine wTy hA ?_;clear hF hA;intro w1 hA hF)
 refine bodyPost_ret (v:=.tuple #[.agg #[.slice ax4 n4 cap4],.int .i64 0]) (by simp[results,Tryz.results148,go_sem,hF]) rfl (show Zbd _ _ _ _ _ _ _ from .inr ⟨by simp,_,rfl,?_⟩);exact hA.pick pR
def expE (s:SR) (time:Int):Int:=if s.op then(if time < s.dl then 54 else 0) else 50
theorem Zh4 {w:World} {v:Value} {L:List SR} (h:Sep [rowR v L] w) (s:SR) (time:Int) (hmax:L.length≤1000000):
 Calls Tryz.prog 94 #[.agg #[v],.agg s.cells.toArray,.int .i64 time] w (Zbd w v L s.ended (expE s time)):=by
 have hA:=At.start h;have hF:=hA.facts;clear h;obtain⟨ax,cap,rfl,hax,hcap,_⟩:=hA.row_form (v:=v) (xs:=flatR L) sR
 by_cases hx:s.op=true∧time < s.dl
 · obtain⟨ho,ht⟩:=hx
   have he:=Hd (show expE s time=54 by simp[expE,ho,ht]);simp only[SR.cells,ho]
   go_enter Tryz.func94,Tryz.ntmps94
   go_wp2_with (first|((with_reducible refine gbx ?_);refine wCy (E:=81) hA ?_;clear hF hA;intro bB w1 hA hbB hF)|((with_reducible refine gbx ?_);refine wCy (E:=119) hA ?_;clear hF hA;intro bS w1 hA hbS hF)|((with_reducible refine gal ?_);refine g6 hA ?_;clear hF hA;intro bZ w1 hA hbZ hF)|((with_reducible refine gst ?_);refine wTy hA ?_;clear hF hA;intro w1 hA hF))
   refine bodyPost_ret (v:=.tuple #[.agg #[.slice ax L.length cap],.int .i64 54]) (by simp[results,Tryz.results94,go_sem,hF]) rfl (show Zbd _ _ _ _ _ _ _ from .inl ⟨by rw[he.out];simp,by rw[he.out],hA.pick pR⟩)
 have hx':(s.op=true∧decide (time < s.dl)=false)∨s.op=false:=by
  cases h:s.op
  · exact .inr rfl
  exact .inl ⟨rfl,by simpa [h] using hx⟩
 have he:=Hd (show expE s time=if s.op then 0 else 50 by
  unfold expE
  rcases hx' with⟨h1,h2⟩|h1
  · have h3:¬time < s.dl:=by simpa using h2
    rw[h1,if_pos rfl,if_pos rfl,if_neg h3]
  rw[h1];rfl)
 clear hx
 rcases hx' with⟨ho,ht⟩|ho
 · unfold SR.cells
   rw[ho]
   go_enter Tryz.func94,Tryz.ntmps94
   go_wp2_with (first|((with_reducible refine gbx ?_);refine wCy (E:=81) hA ?_;clear hF hA;intro bB w1 hA hbB hF)|((with_reducible refine gbx ?_);refine wCy (E:=119) hA ?_;clear hF hA;intro bS w1 hA hbS hF)|((with_reducible refine gal ?_);refine g6 hA ?_;clear hF hA;intro bZ w1 hA hbZ hF))
   have hE:=Zgh (hA.sep1 sR) s hmax;unfold SR.cells at hE;rw[ho] at hE;refine hE.mono ?_;clear hE;rintro e w1 (⟨q1,_,_⟩|⟨_,v',rfl,hT⟩)
   · exact absurd rfl q1
   have hB:=hA.call1 sR hT;clear hF hA hT;obtain⟨ax4,n4,cap4,hv4,hn4⟩:=hB.row_hid .here;subst hv4;have hA:=hB;clear hB;rw[ho] at he;obtain⟨hA,hF⟩:=fY hA
   go_wp2_with ((with_reducible refine gst ?_);refine wTy hA ?_;clear hF hA;intro w1 hA hF)
   refine bodyPost_ret (v:=.tuple #[.agg #[.slice ax4 n4 cap4],.int .i64 0]) (by simp[results,Tryz.results94,go_sem,hF]) rfl (show Zbd _ _ _ _ _ _ _ from .inr ⟨by rw[he.out];simp,_,rfl,hA.pick pR⟩)
 unfold SR.cells;rw[ho]
 go_enter Tryz.func94,Tryz.ntmps94
 go_wp2_with (first|((with_reducible refine gbx ?_);refine wCy (E:=81) hA ?_;clear hF hA;intro bB w1 hA hbB hF)|((with_reducible refine gbx ?_);refine wCy (E:=119) hA ?_;clear hF hA;intro bS w1 hA hbS hF)|((with_reducible refine gal ?_);refine g6 hA ?_;clear hF hA;intro bZ w1 hA hbZ hF))
 have hE:=Zgh (hA.sep1 sR) s hmax;unfold SR.cells at hE;rw[ho] at hE;refine hE.mono ?_;clear hE;rintro e w1 (⟨_,rfl,hT⟩|⟨q1,_,_,_⟩)
 rotate_left
 · exact absurd q1 (by simp)
 replace hA:=hA.call1 sR hT;clear hF hT;rw[ho] at he;obtain⟨hA,hF⟩:=fY hA
 go_wp2_with ((with_reducible refine gst ?_);refine wTy hA ?_;clear hF hA;intro w1 hA hF)
 refine bodyPost_ret (v:=.tuple #[.agg #[.slice ax L.length cap],.int .i64 50]) (by simp[results,Tryz.results94,go_sem,hF]) rfl (show Zbd _ _ _ _ _ _ _ from .inl ⟨by rw[he.out];simp,by rw[he.out];simp,hA.pick pR⟩)
end Lease
end
section
namespace Sess
open Go.RowKit Go.Shelf
open Go.Maps (Keyed)
attribute [local go_sem] Oper.semAt_some
def seV (p:Int × ByteArray):Value:=.agg #[.int .u64 p.1,.string p.2]
def seL (p:Int × ByteArray):List Value:=[.int .u64 p.1,.string p.2]
def unS:Value→Int × ByteArray
 |.agg #[.int _ a,.string b]=>(a,b)
 |_=>(0,.empty)
theorem unS_seV (p:Int × ByteArray):unS (seV p)=p:=rfl
theorem perm_of_seV {l m:List (Int × ByteArray)} (h:(l.map seV).Perm (m.map seV)):l.Perm m:=by
 have:=h.map unS
 simpa [List.map_map,Function.comp_def,unS_seV] using this
def seenOf (w:World) (r:Nat):Nat:=match w.heap[r]? with|some (.mapIter _ _ seen _)=>seen.size|_=>0
theorem seenOf_eq {P:Program} {k:TypeId} {w:World} {r b:Nat} {es done:List (Value × Value)} (h:Zas P k w r b es done):seenOf w r=done.length:=by
 obtain⟨_,_,ents,clock,c0,vs,hb,hr,hc,hd,_⟩:=h;unfold seenOf;rw[hr,←hd]
 simp
theorem iter_walk {P:Program} {k:TypeId} {w:World} {r b:Nat} {es done:List (Value × Value)} (h:Zas P k w r b es done):∃o:Obj,w.heap[r]? =some o∧o.isWalk=true:=by
 obtain⟨_,_,ents,clock,c0,vs,hb,hr,_⟩:=h;exact⟨_,hr,rfl⟩
theorem iter_keeps {P:Program} {k:TypeId} {w w':World} {r b:Nat} {es done:List (Value × Value)} (h:Zas P k w r b es done) (hk:KeepsWalks w w'):Zas P k w' r b es done:=by
 have h0:=h;obtain⟨_,_,ents,clock,c0,vs,hb,hr,_⟩:=h0;exact h.same ((hk.same b _ hb rfl).trans hb.symm) ((hk.same r _ hr rfl).trans hr.symm)
theorem grown_of_exc {w w':World} {r:Nat} (h:Exc (fun q=>q=r) w w'):w.grownBy w' (some r):=⟨h.os,h.tape,h.output,h.size,fun k hk hn=>h.block k hk (fun e=>hn (by rw[e]))⟩
theorem grown_of_ext {w w':World} (h:Ext w w'):w.grownBy w' none:=⟨Below.os h,Below.tape h,Below.output h,Below.size h,fun k hk _=>Below.block h k hk⟩
theorem keys1_in (F:Fence) (n:Nat) (h1:F.fn 179) (hro:F.round=none) (hn:1≤n) (l Bm b:Nat) (es:List (Value × Value)) (ks:List (Int × ByteArray)) (hes:es.map (·.1)=ks.map seV) (J Jx:List (Int × ByteArray)→World→Prop)
 (W:World) (hJ:AbidesFrom W.heap.size J)
 (hY:∀pre x W1,J pre W1→pre.length < ks.length→YieldAt F (n - 1) Tryz.prog l #[seV x] W1 fun e W'=>(e=.returned (.bool true)∧J (pre++[x]) W'∧KeepsWalks W1 W')∨(e=.returned (.bool false)∧Jx (pre++[x]) W'))
 (hm:W.cell? ⟨Bm,0,none⟩=some (.map (some b))) (hM:MapAt Tryz.prog 25 W b es) (h0:J [] W):
 CallsIn F n Tryz.prog 179 #[.func (.yield l) #[] #[],.pointer (some ⟨Bm,0,none⟩)] W fun e W'=>(∃v,e=.returned v)∧((∃ys,ys.Perm ks∧J ys W')∨(∃pre,True∧Jx pre W')):=by
 obtain⟨W0,hrun,hext,hI⟩:=Zas.start hM Tryz.underlying212;have hJ0:J [] W0:=hJ _ W W0 none h0 (grown_of_ext hext) (fun r e=>by cases e);refine callsIn_of_wp Tryz.func179 rfl h1 ?_ hro;simp only[Tryz.ntmps179,List.size_toArray,List.length_cons,List.length_nil,Nat.reduceAdd,Nat.reduceSub,Array.replicate_succ,Array.replicate_zero,List.push_toArray,List.append_toArray,List.nil_append,List.cons_append]
 gi_wp2
 clear hrun
 try go_frame
 gi_loopw [3] (fun _ wr=>∃(done:List (Value × Value)) (ds:List (Int × ByteArray)),Zas Tryz.prog 25 wr W.heap.size b es done∧done.map (·.1)=ds.map seV∧J ds wr)
  (fun _ wr=>es.length - seenOf wr W.heap.size)
 case atStart=>exact⟨[],[],hI,rfl,hJ0⟩
 case round=>
  obtain⟨done,ds,hI1,hd,hJs⟩:=hrel
  rcases hI1.next 0 with⟨hp,hrun⟩|⟨p,w',hp,hne,hrun,hI2,hx⟩
  · have hpp:ds.Perm ks:=(perm_of_seV (by rw[←hes,←hd];exact hp.map _)).symm
    clear hes hd
    gi_wp2
    go_end0
    exact⟨⟨_,rfl⟩,.inl ⟨ds,hpp,hJs⟩⟩
  obtain⟨pk,pv⟩:=p
  have hpk:pk ∈ es.map (·.1):=List.mem_map.2 ⟨_,hp,rfl⟩;rw[hes] at hpk;obtain⟨x,_,rfl⟩:=List.mem_map.1 hpk
  have hlen:ds.length < ks.length:=by
   have e1:=congrArg List.length hes;have e2:=congrArg List.length hd;have e3:=hI2.len
   simp at e1 e2 e3
   omega
  have hJ1:J ds w':=hJ ds wr w' (some W.heap.size) hJs (grown_of_exc hx) (fun r e=>by cases e;exact⟨Nat.le_refl _,iter_walk hI1⟩);have hJ2:J ds (w'.alloc (.cells #[.int .u64 x.1,.string x.2] 25)):=hJ _ _ _ none hJ1 (World.grownBy_alloc _ _ none) (fun r e=>by cases e);have hI3:Zas Tryz.prog 25 (w'.alloc (.cells #[.int .u64 x.1,.string x.2] 25)) W.heap.size b es (done++[(seV x,pv)]):=(Part.iter _ _ _ _ _ _).stay _ _ hI2 (fun q hq=>Below.heap_alloc _ _ _ ((Part.iter _ _ _ _ _ _).lt _ hI2 q hq));obtain⟨fn,tmps,assign,body,hy,hR⟩:=hY ds x _ hJ2 hlen;have hen:=hI2.entry;have hs0:=seenOf_eq hI1;have hes':=Hd hes;have hd':=Hd hd;have hs':=Hd hs0;have hle:=hI2.len;clear hes hd hs0 hpk hp hne hx;unfold seV at hrun hen hy
  gi_wp2
  refine hR.mono ?_;rintro e W3 (⟨rfl,hJ3,hk3⟩|⟨rfl,hJx3⟩)
  · gi_wp2
    go_roundw
    case rel=>exact⟨done++[(seV x,pv)],ds++[x],iter_keeps hI3 hk3,by simp[hd'.out],hJ3⟩
    case measure=>
     have e1:=seenOf_eq (iter_keeps hI3 hk3);have e2:=hs'.out;rw[e1,e2]
     simp at hle ⊢
     omega
  gi_wp2
  refine bodyPost_ret (results_none rfl _ _ _) rfl ?_;exact⟨⟨_,rfl⟩,.inr ⟨_,trivial,hJx3⟩⟩
theorem keys_in (F:Fence) (n:Nat) (h1:F.fn 127) (hro:F.round=none) (mb:Option Nat) (w:World):
 CallsIn F n Tryz.prog 127 #[.map mb] w fun e w'=>e=.returned (.func (.func 179) #[] #[.pointer (some ⟨w.heap.size,0,none⟩)])∧w'=w.alloc (.cells #[.map mb] 212):=by
 refine callsIn_of_wp Tryz.func127 rfl h1 ?_ hro;simp only[Tryz.ntmps127,List.size_toArray,List.length_cons,List.length_nil,Nat.reduceAdd,Nat.reduceSub,Array.replicate_succ,Array.replicate_zero,List.push_toArray,List.append_toArray,List.nil_append,List.cons_append]
 gi_wp2
 go_ret;exact⟨rfl,rfl⟩
theorem keys_stops (F:Fence) (n:Nat) (h1:F.fn 179) (hro:F.round=none) (hn:1≤n) (Bm b:Nat) (es:List (Value × Value)) (ks:List (Int × ByteArray)) (hes:es.map (·.1)=ks.map seV) (w:World) (hBm:Bm < w.heap.size)
 (hm:w.cell? ⟨Bm,0,none⟩=some (.map (some b))) (hM:MapAt Tryz.prog 25 w b es):
 SeqStopsK F n Tryz.prog 179 #[.pointer (some ⟨Bm,0,none⟩)] (fun x:Int × ByteArray=> #[seV x]) KeepsWalks (fun ys=>ys.Perm ks) (fun _=>True) ks.length w:=fun l J Jx W hW hJ _ hY h0=>
 keys1_in F n h1 hro hn l Bm b es ks hes J Jx W hJ hY ((hW.cell (p:=⟨Bm,0,none⟩) hBm).trans hm) (hM.same (hW.block b hM.lt)) h0
theorem infoID:(Tryz.prog.info? 25).map (fun i=>(i.zero,i.size,i.bytes))=some (some (.agg #[.int .u64 0,.string .empty]),2,24):=by kernel_rfl
def Box (W:World) (B:Nat) (t:TypeId) (c:Array Value):Prop:=W.heap[B]? =some (.cells c t (0,0))
theorem Box.own {β:Type} (B:Nat) (t:TypeId) (c:Array Value):Own (fun(_:β) W=>Box W B t c):=fun s X Y row hs hg hrow=>
 (hg.block B (ZaQ hs) (fun e=>by obtain⟨o,ho,hc⟩:=hrow B e.symm;rw[show X.heap[B]? =_ from hs] at ho;cases ho;cases hc)).trans hs
theorem two_new (W:World) (x y:Value) (t:TypeId):∀(j:Nat) (u:Value),[x,y][j]? =some u→(W.alloc (.cells #[x,y] t)).cell? ((⟨W.heap.size,0,none⟩:Addr).add j)=some u:=by
 intro j u h
 match j,h with
 |0,h=>simp at h;subst h;simp[Addr.add]
 |1,h=>simp at h;subst h;simp[Addr.add]
 |j + 2,h=>simp at h
def MidI (w:World) (pre:List (Int × ByteArray)) (W:World):Prop:=
 (∃v,Boxed W w.heap.size 113 v∧W.ownsRow w.heap.size 25 2 v pre.length (pre.flatMap seL)∧(v=.slice none 0 0↔pre=[]))∧Below w.heap.size w W
theorem midI_own (w:World) (B:Nat) (hB:w.heap.size≤B):OwnFrom B (MidI w):=
 OwnFrom.and (Own.from (holdsRow_own w.heap.size w.heap.size 113 25 2 (fun pre=>pre.length) (fun pre=>pre.flatMap seL) (fun pre v=>v=.slice none 0 0↔pre=[])) _) (ownFrom_below (Nat.le_refl _) hB)
def MidAx (w:World) (sv:Value) (x:Int × ByteArray) (a':Act) (W:World):Prop:=
 ∃Bx,w.heap.size < Bx∧Box W Bx 25 #[.int .u64 x.1,.string x.2]∧a'={tmps:= #[.slice none 0 0,sv,.pointer (some ⟨w.heap.size,0,none⟩),undef,.slice none 0 0,.pointer (some ⟨Bx,0,none⟩),sv,seV x,undef,undef,undef,undef,undef],defers:=[]}
theorem midAx_own (w:World) (sv:Value) (B:Nat) (x:Int × ByteArray) (a':Act):OwnFrom B (fun(_:Unit) W=>MidAx w sv x a' W):=by
 rintro s X Y row ⟨Bx,h1,h2,h3⟩ hg hr;exact⟨Bx,h1,(Box.own (β:=Unit) Bx _ _).from B () X Y row h2 hg hr,h3⟩
theorem appendSeq_in (F:Fence) (n:Nat) (hF:F.fn 178) (hro:F.round=none) (hn:3≤n) (gf:Nat) (lb:Array Value) (hFg:F.fn gf) (eg:∀args w,(callFunc gf args).run Tryz.prog w=.ok (.enter gf args) w)
 (S Sp:List (Int × ByteArray)→Prop) (N:Nat) (hN:N≤100000000) (w:World) (hseq:SeqStopsK F (n - 1) Tryz.prog gf lb (fun x:Int × ByteArray=> #[seV x]) KeepsWalks S Sp N w):
 CallsIn F n Tryz.prog 178 #[.slice none 0 0,.func (.func gf) #[] lb] w fun e w'=>∃(v:Value) (ss:List (Int × ByteArray)),e=.returned v∧S ss∧w'.ownsRow w.heap.size 25 2 v ss.length (ss.flatMap seL)∧(v=.slice none 0 0↔ss=[])∧Below w.heap.size w w':=by
 have h1:1≤n:=by omega
 obtain⟨i0,hi,hz0,hz1,hz2⟩:=info_parts infoID;refine callsIn_of_wp_marks Tryz.func178 rfl hF ?_ hro;simp only[Tryz.ntmps178,List.size_toArray,List.length_cons,List.length_nil,Nat.reduceAdd,Nat.reduceSub,Array.replicate_succ,Array.replicate_zero,List.push_toArray,List.append_toArray,List.nil_append,List.cons_append]
 gi_wp2
 have bO:=Boxed.new w 113 (.slice none 0 0);have hB0:Below w.heap.size w (w.alloc (.cells #[.slice none 0 0] 113)):=(Below.refl _ w).alloc (Nat.le_refl _) _
 refine wpIn_rangeFunc_ownH hro h1 (gf:=gf) (lb:=lb) rfl hFg eg hseq walksK_t walksK_b hB0 (fun _=>rfl)
  (MidI w) (fun _ _ _=>False) (midI_own w _ (by simp)) (fun _ _ _ _ _ hs _ _=>hs)
  ⟨⟨_,bO,World.ownsRow_nil _ _ _ _,by simp⟩,hB0⟩
  (MidAx w (.func (.func gf) #[] lb)) (fun x a'=>midAx_own w _ _ x a') ?assign ?body ?done ?stop
 case assign=>
  rintro l pre x W K ⟨⟨v,hv,hrow,hnil⟩,hB⟩ hK;have hsz:=hB.size;unfold seV
  gi_wp2
  refine hK _ _ ((KeepsOthers.alloc _ _).from _) (KeepsWalks.alloc _ _) ⟨⟨v,hv.alloc _,hrow.alloc _,hnil⟩,hB.alloc hB.size _⟩ ⟨W.heap.size,hv.lt,World.alloc_heap_new W _,rfl⟩
 case body=>
  rintro l pre x a' W hl ⟨r,hr⟩ ⟨⟨v,hv,hrow,hnil⟩,hB⟩ ⟨Bx,hBx,bX,rfl⟩ hlt;have hc:=hv.cell
  have c0:W.cell? ⟨Bx,0,none⟩=some (.int .u64 x.1):=by unfold Box at bX;simp[World.cell?,bX]
  have c1:W.cell? ⟨Bx,1,none⟩=some (.string x.2):=by unfold Box at bX;simp[World.cell?,bX]
  have hsz:=hB.size
  gi_wp2_with (gi_at_builtin;refine wpListIn_append_own _ rfl _ _ 113 rfl w.heap.size 25 i0 (.agg #[.int .u64 0,.string .empty]) 2 24 Tryz.underlying113 hi hz0 hz1 hz2 rfl (by decide) _ _ _ rfl (hrow.alloc _) ⟨W.heap.size,0,none⟩ 1 1 [.int .u64 x.1,.string x.2] rfl rfl (two_new _ _ _ _) (by simp[Value.oneCell']) (by unfold maxLen;omega) (by omega) (by simp;omega) ?_;intro v' w1 hown' hgrow _;obtain⟨g',cap',rfl⟩:=ownsRow_succ hown';obtain⟨hv1,hv2,hr2,hk2,hb2⟩:=hv.appended (by decide) hrow hB.size (Nat.le_refl _) hown' hgrow;have hc1:=hv1.cell;have hf1:=hv1.frozen)
  exact⟨hk2.from _,hk2.walks,⟨_,hv2,by simpa [seL] using hr2,by simp⟩,hB.trans hb2⟩
 case done=>
  rintro D ys W hD hS ⟨⟨v,hv,hrow,hnil⟩,hB⟩ hK;have hc:=hv.cell
  gi_wp2
  refine⟨by simp,.inl ⟨_,_,rfl,run_takeDeferred hK,?_⟩⟩;exact⟨_,results_tmp rfl _ _ _,v,ys,rfl,hS,ownsRow_putObj hrow _ hK rfl,hnil,hB.trans (belowK_b (w:=w) (Nat.le_refl _) W D _ _ (by simp at hD;omega) hK rfl rfl)⟩
 case stop=>
  rintro D c pre W _ _ h _;exact h.elim
end Sess
end
section
namespace Mark
open Go.RowKit Go.Shelf
open Go.Maps (Keyed)
attribute [local go_sem] Oper.semAt_some
def seenOf (w:World) (r:Nat):Nat:=match w.heap[r]? with|some (.mapIter _ _ seen _)=>seen.size|_=>0
theorem seenOf_eq {P:Program} {k:TypeId} {w:World} {r b:Nat} {es done:List (Value × Value)} (h:Zas P k w r b es done):seenOf w r=done.length:=by
 obtain⟨_,_,ents,clock,c0,vs,hb,hr,hc,hd,_⟩:=h;unfold seenOf;rw[hr,←hd]
 simp
theorem iter_walk {P:Program} {k:TypeId} {w:World} {r b:Nat} {es done:List (Value × Value)} (h:Zas P k w r b es done):∃o:Obj,w.heap[r]? =some o∧o.isWalk=true:=by
 obtain⟨_,_,ents,clock,c0,vs,hb,hr,_⟩:=h;exact⟨_,hr,rfl⟩
theorem iter_keeps {P:Program} {k:TypeId} {w w':World} {r b:Nat} {es done:List (Value × Value)} (h:Zas P k w r b es done) (hk:KeepsWalks w w'):Zas P k w' r b es done:=by
 have h0:=h;obtain⟨_,_,ents,clock,c0,vs,hb,hr,_⟩:=h0;exact h.same ((hk.same b _ hb rfl).trans hb.symm) ((hk.same r _ hr rfl).trans hr.symm)
theorem grown_of_exc {w w':World} {r:Nat} (h:Exc (fun q=>q=r) w w'):w.grownBy w' (some r):=⟨h.os,h.tape,h.output,h.size,fun k hk hn=>h.block k hk (fun e=>hn (by rw[e]))⟩
theorem grown_of_ext {w w':World} (h:Ext w w'):w.grownBy w' none:=⟨Below.os h,Below.tape h,Below.output h,Below.size h,fun k hk _=>Below.block h k hk⟩
def Box (W:World) (B:Nat) (t:TypeId) (c:Array Value):Prop:=W.heap[B]? =some (.cells c t (0,0))
theorem Box.own {β:Type} (B:Nat) (t:TypeId) (c:Array Value):Own (fun(_:β) W=>Box W B t c):=fun s X Y row hs hg hrow=>
 (hg.block B (ZaQ hs) (fun e=>by obtain⟨o,ho,hc⟩:=hrow B e.symm;rw[show X.heap[B]? =_ from hs] at ho;cases ho;cases hc)).trans hs
theorem two_new (W:World) (x y:Value) (t:TypeId):∀(j:Nat) (u:Value),[x,y][j]? =some u→(W.alloc (.cells #[x,y] t)).cell? ((⟨W.heap.size,0,none⟩:Addr).add j)=some u:=by
 intro j u h
 match j,h with
 |0,h=>simp at h;subst h;simp[Addr.add]
 |1,h=>simp at h;subst h;simp[Addr.add]
 |j + 2,h=>simp at h
end Mark
end
section
namespace Mark
open Go.RowKit
open Go.Sort Go.Shelf
def orI (a b:Int):Int:=if a=0 then b else a
theorem or2 (a b:Int) (g:Nat) (w:World) (h0:w.cell? ⟨g,0,none⟩=some (.int .i64 a)) (h1:w.cell? ⟨g,1,none⟩=some (.int .i64 b)):
 Calls Tryz.prog 67 #[.slice (some ⟨g,0,none⟩) 2 2] w fun e w'=>e=.returned (.int .i64 (orI a b))∧w=w':=by
 by_cases ha:a=0
 · subst ha
   by_cases hb:b=0
   · subst hb
     go_enter Tryz.func67,Tryz.ntmps67
     go_wp2
     refine wp_loop_rounds 3 ?_;rw[rounds_succ]
     go_wp2
     rw[rounds_succ]
     go_wp2
     rw[rounds_succ]
     go_wp2
     go_ret;exact⟨rfl,rfl⟩
   have hb':(b==0)=false:=by simpa using hb
   go_enter Tryz.func67,Tryz.ntmps67
   go_wp2
   refine wp_loop_rounds 2 ?_;rw[rounds_succ]
   go_wp2
   rw[rounds_succ]
   go_wp2
   refine bodyPost_ret (results_tmp rfl _ _ _) rfl ?_;exact⟨rfl,rfl⟩
 have ha':(a==0)=false:=by simpa using ha
 have e:orI a b=a:=by simp[orI,ha]
 rw[e]
 go_enter Tryz.func67,Tryz.ntmps67
 go_wp2
 refine wp_loop_rounds 1 ?_;rw[rounds_succ]
 go_wp2
 refine bodyPost_ret (results_tmp rfl _ _ _) rfl ?_;exact⟨rfl,rfl⟩
def cmpID (x y:Int × Int):Int:=orI (Lib.compareInt x.1 y.1) (Lib.compareInt x.2 y.2)
theorem Ze2 (W:World) (A B C:Obj) (n:Nat):(((W.alloc A).alloc B).drewN n).alloc C=grow (W.drewN n) #[A,B,C]:=by
 rw[alloc_eq_grow W,alloc_eq_grow _ B,alloc_eq_grow _ C,grow_grow];show grow (grow (W.drewN n) _) _=_;rw[grow_grow]
 rfl
theorem Zcy (X:World) (n:Nat) (h:X.heap.size=n) (cs:Array Value) (t:TypeId) (j:Nat) (v:Value) (hv:cs[j]? =some v):(X.alloc (.cells cs t)).cell? ⟨n,j,none⟩=some v:=by
 subst h;rw[World.cell?,World.alloc_heap_new];exact hv
def ltID (x y:Int × Int):Prop:=x.1 < y.1∨(x.1=y.1∧x.2 < y.2)
instance (x y:Int × Int):Decidable (ltID x y):=by unfold ltID;infer_instance
theorem Zd0 (x y:Int × Int):ltOf cmpID x y=decide (ltID x y):=by
 unfold ltOf cmpID orI Lib.compareInt ltID
 by_cases h1:x.1 < y.1
 · simp[h1]
 by_cases h2:y.1 < x.1
 · have:x.1≠y.1:=by omega
   simp[h1,h2,this]
 have:x.1=y.1:=by omega
 by_cases h3:x.2 < y.2
 · simp[this,h3]
 by_cases h4:y.2 < x.2<;>simp[this,h3,h4]
theorem totID (x y:Int × Int) (h1:ltOf cmpID x y=false) (h2:ltOf cmpID y x=false):x=y:=by
 rw[Zd0] at *
 simp only[decide_eq_true_eq,decide_eq_false_iff_not] at *
 obtain⟨a,b⟩:=x;obtain⟨c,d⟩:=y
 unfold ltID at *
 simp only[Prod.mk.injEq];simp only at h1 h2
 omega
def ZgC (l:List (Int × Int)):List (Int × Int):=l.mergeSort fun x y=> !ltOf cmpID y x
end Mark
end
section
namespace Sess
open Go.RowKit
open Go.Sort Go.Shelf
open Go.Lib (compareBytes compareInt)
open _root_.Go.Proofs.YtkdjkngfnapjcaaGreatDoor.Mark (orI or2 Ze2 Zcy)
theorem cb_three:∀(a b:List UInt8),compareBytes a b= -1∨compareBytes a b=0∨compareBytes a b=1
 |[],[]=>by simp[compareBytes]
 |[],_::_=>by simp[compareBytes]
 |_::_,[]=>by simp[compareBytes]
 |a::x,b::y=>by
  have:=cb_three x y;unfold compareBytes
  split
  · simp
  split
  · simp
  exact this
theorem Zie:∀(a b:List UInt8),compareBytes b a= - compareBytes a b
 |[],[]=>by simp[compareBytes]
 |[],_::_=>by simp[compareBytes]
 |_::_,[]=>by simp[compareBytes]
 |a::x,b::y=>by
  have:=Zie x y;simp only[compareBytes]
  rcases Nat.lt_trichotomy a.toNat b.toNat with h|h|h
  · have h1:a < b:=UInt8.lt_iff_toNat_lt.2 h
    have h2:¬b < a:=fun q=>by have:=UInt8.lt_iff_toNat_lt.1 q;omega
    simp[h1,h2]
  · have e:a=b:=UInt8.toNat_inj.1 h
    subst e
    have h1:¬a < a:=fun q=>by have:=UInt8.lt_iff_toNat_lt.1 q;omega
    simp[h1,this]
  have h1:b < a:=UInt8.lt_iff_toNat_lt.2 h
  have h2:¬a < b:=fun q=>by have:=UInt8.lt_iff_toNat_lt.1 q;omega
  simp[h1,h2]
theorem Zll:∀(a b:List UInt8),compareBytes a b=0→a=b
 |[],[],_=>rfl
 |[],_::_,h=>by simp[compareBytes] at h
 |_::_,[],h=>by simp[compareBytes] at h
 |a::x,b::y,h=>by
  simp only[compareBytes] at h
  rcases Nat.lt_trichotomy a.toNat b.toNat with q|q|q
  · have h1:a < b:=UInt8.lt_iff_toNat_lt.2 q
    simp[h1] at h
  · have e:a=b:=UInt8.toNat_inj.1 q
    subst e
    have h1:¬a < a:=fun q=>by have:=UInt8.lt_iff_toNat_lt.1 q;omega
    simp[h1] at h;rw[Zll x y h]
  have h1:b < a:=UInt8.lt_iff_toNat_lt.2 q
  have h2:¬a < b:=fun q=>by have:=UInt8.lt_iff_toNat_lt.1 q;omega
  simp[h1,h2] at h
theorem cb_trans:∀(a b c:List UInt8),compareBytes a b < 0→compareBytes b c < 0→compareBytes a c < 0
 |[],_,[],h1,h2=>by
  rename_i b
  have:=Zie [] b
  omega
 |[],_,_::_,_,_=>by simp[compareBytes]
 |_::_,[],_,h1,_=>by simp[compareBytes] at h1
 |_::_,_::_,[],_,h2=>by simp[compareBytes] at h2
 |a::x,b::y,c::z,h1,h2=>by
  have ih:=cb_trans x y z
  simp only[compareBytes] at *
  simp only[UInt8.lt_iff_toNat_lt] at *
  split at h1
  · split at h2
    · rw[if_pos (by omega)];omega
    split at h2
    · simp at h2
    rw[if_pos (by omega)];omega
  split at h1
  · simp at h1
  split at h2
  · rw[if_pos (by omega)];omega
  split at h2
  · simp at h2
  rw[if_neg (by omega),if_neg (by omega)];exact ih h1 h2
theorem Zex (x:Int) (w:World):Calls Tryz.prog 138 #[.int .u64 x] w fun e w'=>e=.returned (.bool false)∧w'=w:=by
 go_enter Tryz.func138,Tryz.ntmps138
 go_wp2
 go_ret;exact⟨by simp,rfl⟩
theorem ZeI (x y:Int) (w:World):Calls Tryz.prog 69 #[.int .u64 x,.int .u64 y] w fun e w'=>e=.returned (.int .i64 (compareInt x y))∧w'=w:=by
 unfold compareInt
 by_cases h1:x < y
 · go_enter Tryz.func69,Tryz.ntmps69
   go_wp2_with (go_at_call 138;refine(Zex _ _).mono ?_;rintro e w' ⟨rfl,rfl⟩)
   refine bodyPost_ret (results_tmp rfl _ _ _) rfl ?_;exact⟨by simp[h1],rfl⟩
 by_cases h2:y < x
 · go_enter Tryz.func69,Tryz.ntmps69
   go_wp2_with (go_at_call 138;refine(Zex _ _).mono ?_;rintro e w' ⟨rfl,rfl⟩)
   refine bodyPost_ret (results_tmp rfl _ _ _) rfl ?_;exact⟨by simp[h1,h2],rfl⟩
 go_enter Tryz.func69,Tryz.ntmps69
 go_wp2_with (go_at_call 138;refine(Zex _ _).mono ?_;rintro e w' ⟨rfl,rfl⟩)
 go_ret;exact⟨by simp[h1,h2],rfl⟩
def cbS (a b:ByteArray):Int:=compareBytes a.data.toList b.data.toList
def cmpS (x y:Int × ByteArray):Int:=orI (compareInt x.1 y.1) (cbS x.2 y.2)
theorem ZeU (x y:Int × ByteArray) (W:World):Calls Tryz.prog 177 #[.agg #[.int .u64 x.1,.string x.2],.agg #[.int .u64 y.1,.string y.2]] W fun e w'=>e=.returned (.int .i64 (cmpS x y))∧∃q os',w'=grow (W.drewN q) os':=by
 unfold cmpS cbS
 go_enter Tryz.func177,Tryz.ntmps177
 go_wp2_with fail
 (refine Zaw 10 (fun w'=>∃n,w'=World.drewN _ n) (by kernel_rfl) (by kernel_rfl) ⟨1,rfl⟩ ?_);(simp only[List.take_succ_cons,List.take_zero,List.drop_succ_cons,List.drop_zero]);(repeat(first|go_big_quiet_step (first|exact(ZeI _ _ _).mono fun _ _ ⟨he,hw⟩=>⟨he,_,hw⟩|exact(Tryz.strings_Compare _ _ _).mono fun _ _ ⟨he,hw⟩=>⟨he,_,hw⟩)|quiet_step (first|exact(ZeI _ _ _).mono fun _ _ ⟨he,hw⟩=>⟨he,_,hw⟩|exact(Tryz.strings_Compare _ _ _).mono fun _ _ ⟨he,hw⟩=>⟨he,_,hw⟩)));(refine wpQuiet_nil ?_);(rintro _ ⟨nq,rfl⟩)
 go_wp2_with fail
 refine(or2 (compareInt x.1 y.1) (compareBytes x.2.data.toList y.2.data.toList) _ _ ?h0 ?h1).mono ?_
 case h0=>exact Zcy _ _ (by simp) _ _ _ _ rfl
 case h1=>exact Zcy _ _ (by simp) _ _ _ _ rfl
 rintro e _ ⟨rfl,rfl⟩
 go_wp2_with fail
 go_ret;exact⟨rfl,nq,_,Ze2 _ _ _ _ _⟩
def ltS (x y:Int × ByteArray):Prop:=x.1 < y.1∨(x.1=y.1∧cbS x.2 y.2 < 0)
instance (x y:Int × ByteArray):Decidable (ltS x y):=by unfold ltS;infer_instance
theorem Zct (x y:Int × ByteArray):ltOf cmpS x y=decide (ltS x y):=by
 unfold ltOf cmpS orI compareInt ltS
 by_cases h1:x.1 < y.1
 · simp[h1]
 by_cases h2:y.1 < x.1
 · have:x.1≠y.1:=by omega
   simp[h1,h2,this]
 have:x.1=y.1:=by omega
 simp[this]
theorem Zi2 (a b:ByteArray):cbS b a= - cbS a b:=Zie _ _
theorem Zlm {a b c:ByteArray} (h1:cbS a b < 0) (h2:cbS b c < 0):cbS a c < 0:=cb_trans _ _ _ h1 h2
theorem Zng {a b:ByteArray} (h:cbS a b=0):a=b:=by
 have:=Zll _ _ h;obtain⟨⟨x⟩⟩:=a;obtain⟨⟨y⟩⟩:=b
 simp at this
 rw[this]
theorem ZbW {x y z:Int × ByteArray} (h1:ltS x y) (h2:ltS y z):ltS x z:=by
 unfold ltS at *
 rcases h1 with h1|⟨h1,h1'⟩
 · rcases h2 with h2|⟨h2,_⟩<;>left<;>omega
 rcases h2 with h2|⟨h2,h2'⟩
 · left;omega
 exact .inr ⟨by omega,Zlm h1' h2'⟩
theorem Zcz (x:Int × ByteArray):¬ltS x x:=by
 unfold ltS;have:=Zi2 x.2 x.2
 omega
theorem Zf5 (x y:Int × ByteArray):ltS x y∨x=y∨ltS y x:=by
 unfold ltS;have h:=Zi2 x.2 y.2
 by_cases h0:cbS x.2 y.2=0
 · have e:=Zng h0
   rcases Int.lt_trichotomy x.1 y.1 with q|q|q
   · exact .inl (.inl q)
   · exact .inr (.inl (Prod.ext q e))
   exact .inr (.inr (.inl q))
 rcases Int.lt_trichotomy x.1 y.1 with q|q|q
 · exact .inl (.inl q)
 · by_cases hl:cbS x.2 y.2 < 0
   · exact .inl (.inr ⟨q,hl⟩)
   exact .inr (.inr (.inr ⟨q.symm,by omega⟩))
 exact .inr (.inr (.inl q))
theorem swoS:SWO (ltOf cmpS) where
 irrefl x:=by rw[Zct];exact decide_eq_false (Zcz x)
 trans x y z h1 h2:=by rw[Zct] at *;exact decide_eq_true (ZbW (of_decide_eq_true h1) (of_decide_eq_true h2))
 ntrans x y z h1 h2:=by
  rw[Zct] at *
  refine decide_eq_false fun h=> ?_
  have n1:=of_decide_eq_false h1;have n2:=of_decide_eq_false h2
  rcases Zf5 x y with q|q|q
  · exact n1 q
  · subst q;exact n2 h
  exact n2 (ZbW q h)
theorem totS (x y:Int × ByteArray) (h1:ltOf cmpS x y=false) (h2:ltOf cmpS y x=false):x=y:=by
 rw[Zct] at *
 rcases Zf5 x y with q|q|q
 · exact absurd q (of_decide_eq_false h1)
 · exact q
 exact absurd q (of_decide_eq_false h2)
def sortS (l:List (Int × ByteArray)):List (Int × ByteArray):=l.mergeSort fun x y=> !ltOf cmpS y x
theorem Zoy (blk off size:Nat) (w:World):CmpLays Tryz.prog 177 #[] seL 2 cmpS blk off size w:=fun _ _ _ _ x y=>ZeU x y _
end Sess
end
end Go.Proofs.YtkdjkngfnapjcaaGreatDoor
