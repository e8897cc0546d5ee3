/- WinD, WinG, WinH, PathM, PathN, joined. -/
import Derived.Test.YtkdjkngfnapjcaaGreatDoorQ13
import Derived.Test.YtkdjkngfnapjcaaGreatDoorQ6
import Derived.Test.YtkdjkngfnapjcaaGreatDoorQ5
import Derived.Deep.CutBlock
import Derived.Deep.CutRange
import Derived.Test.YtkdjkngfnapjcaaGreatDoorQ12
import Derived.Deep.OwnRows
import Derived.Laws.OwnMore
set_option linter.unusedSimpArgs false
set_option linter.unusedVariables false
set_option maxRecDepth 100000
set_option maxHeartbeats 16000000
namespace Go.Proofs.YtkdjkngfnapjcaaGreatDoor
section
namespace Wire
open Go.RowKit
theorem Zjm (ax:Option Addr) (c:Nat) (w:World):Calls Tryz.prog 205 #[.slice ax 0 c] w fun e w'=>e=.returned (.tuple #[.int .u64 0,.int .i64 0,.int .i64 20])∧w'=w:=by
 go_enter Tryz.func205,Tryz.ntmps205
 go_wp2_with fail
 try go_frame
 go_loopg [6] 10 (fun k u wr=>u=.int .i64 0∧k=10∧wr=w)
 case atStart=>exact⟨rfl,rfl,rfl⟩
 case round=>
  obtain⟨rfl,rfl,rfl⟩:=hrel
  go_wp2_with fail
  refine bodyPost_ret (v:=.tuple #[.int .u64 0,.int .i64 0,.int .i64 20]) (by simp[results,Tryz.results205,go_sem]) rfl ⟨rfl,rfl⟩
theorem rs_win {L0:List Part} {w0 w:World} {i:Nat} {r:Rdr} (hA:At L0 w0 [RdP i r] w) (hr:r.Ok):Calls Tryz.prog 205 #[r.u] w fun e w'=>e=.returned (.tuple #[.int .u64 ((rs r.s.b).1:Nat),.int .i64 ((rs r.s.b).2.1:Nat),.int .i64 (rs r.s.b).2.2])∧w'=w:=by
 by_cases hp:r.pos < r.l.length
 · obtain⟨g,c,hu,hcell⟩:=Zgc (Zit (hA.get .here)) hr hp
   rw[hu]
   have hl:r.l.length - r.pos=(r.l.drop r.pos).length:=by rw[List.length_drop]
   rw[hl];exact ZfA (by have:=hr.len;rw[List.length_drop];omega) (hr.byt.drop _) w hcell
 obtain⟨bx,c,_,hu,_⟩:=ZbA hr.win (n:=0) (Nat.zero_le _) w
 have hb:r.s.b=[]:=List.drop_eq_nil_of_le (by omega);rw[hu,hb,show r.l.length - r.pos=0 by omega];exact Zjm bx c w
theorem ZlJ {b:List Int} (hb:Byt b) (he:(rs b).2.2=0):(rs b).1 < 18446744073709551616∧(rs b).2.1≤10:=by
 obtain⟨k,r,e1,e2,e3,e4,_⟩:=rs_ok b hb 0 0 (rs b).1 (rs b).2.1 (by decide) (show rs b=_ by rw[←he])
 have e5:(rs b).1=k:=by simpa using e1
 refine⟨e4,?_⟩;rw[e3];have:=Zal 9 k (by rw[←e5];exact Nat.lt_of_lt_of_le e4 (by decide))
 omega
theorem Zbe {w:World} {i:Nat} {r:Rdr} (h:Sep [RdP i r] w) (hr:r.Ok) (most:Nat) (hmo:most < 18446744073709551616):Calls Tryz.prog 145 #[.pointer (some ⟨i,0,none⟩),.int .u64 most] w (InP w i r (.int .u64 (r.s.shortV most:Nat)) (r.s.shortS most)):=by
 have hT0:=At.start h;have hrs:=rs_win hT0 hr;have hA:=hT0.to (ZbQ i r []);obtain⟨bx0,c0,_,hu0,_⟩:=ZbA hr.win (n:=0) (Nat.zero_le _) w;have hbd:=ZlJ (b:=r.s.b) (hr.byt.drop _)
 have hV:r.s.shortV most=if r.e≠0 then 0 else if(rs r.s.b).2.2≠0 then 0 else if most < (rs r.s.b).1 then 0 else(rs r.s.b).1:=rfl
 have hS:r.s.shortS most=if r.e≠0 then r.s else if(rs r.s.b).2.2≠0 then⟨r.s.b,(rs r.s.b).2.2⟩ else if most < (rs r.s.b).1 then⟨r.s.b,12⟩ else r.s.takeS (rs r.s.b).2.1:=rfl
 have hfl:r.e=0→∀x,r.s.fail x=⟨r.s.b,x⟩:=fun q x=>if_pos q
 rw[hu0] at hA hrs;have hF:=hA.facts
 by_cases he:r.e=0
 · have hne:¬r.e≠0:=fun q=>q he
   rw[if_neg hne] at hV hS
   obtain⟨v,n,x,hq⟩:∃v n x,rs r.s.b=(v,n,x):=⟨_,_,_,rfl⟩
   rw[hq] at hV hS hrs hbd;simp only at hV hS hbd;rw[he] at hF;have hV':=Hd hV;have hS':=Hd hS;have hfl':=Hd (hfl he);clear hV hS hne hfl hu0 hq;obtain⟨hA,hF⟩:=fZ hA
   go_enter Tryz.func145,Tryz.ntmps145
   go_wp2_with fail
   refine hrs.mono ?_;rintro e w1 ⟨rfl,rfl⟩
   by_cases hx:x=0
   · obtain⟨hb1,hb2⟩:=hbd hx
     subst hx
     by_cases hm:most < v
     · have hm':(most:Int) < (v:Int):=by omega
       go_wp2_with fail
       refine(Zck h hr 12).mono ?_;rintro e w2 ⟨r',rfl,hs,hr',hT⟩
       go_wp2_with fail
       go_ret;refine⟨r',?_,?_,hr',hT⟩
       · rw[hV'.out,if_neg (by simp),if_pos hm];rfl
       rw[hs,hS'.out,if_neg (by simp),if_pos hm,hfl'.out]
     have hm':¬(most:Int) < (v:Int):=by omega
     go_wp2_with fail
     refine(Zdz h hr n (by omega)).mono ?_;rintro e w2 ⟨xa,m,mc,r',rfl,_,_,hs,hr',hT⟩
     go_wp2_with fail
     go_ret;refine⟨r',?_,?_,hr',hT⟩
     · rw[hV'.out,if_neg (by simp),if_neg hm];rfl
     rw[hs,hS'.out,if_neg (by simp),if_neg hm]
   have hx':(x==0)=false:=by simpa using hx
   have hx2:(x != 0)=true:=by simpa using hx
   go_wp2_with fail
   refine(Zck h hr x).mono ?_;rintro e w2 ⟨r',rfl,hs,hr',hT⟩
   go_wp2_with fail
   go_ret;refine⟨r',?_,?_,hr',hT⟩
   · rw[hV'.out,if_pos hx];rfl
   rw[hs,hS'.out,if_pos hx,hfl'.out]
 rw[if_pos he] at hV hS
 have he':(r.e != 0)=true:=by simpa using he
 have he2:(r.e==0)=false:=by simpa using he
 have hV':=Hd hV;have hS':=Hd hS;clear hV hS hfl hrs hbd;obtain⟨hA,hF⟩:=fZ hA
 go_enter Tryz.func145,Tryz.ntmps145
 go_wp2_with fail
 go_ret;exact⟨r,by rw[hV'.out];rfl,hS'.out.symm,hr,hT0⟩
theorem ZcY {w:World} {i:Nat} {r:Rdr} (h:Sep [RdP i r] w) (hr:r.Ok):Calls Tryz.prog 87 #[.pointer (some ⟨i,0,none⟩)] w (InP w i r (.int .u64 (r.s.fixV:Nat)) (r.s.takeS 8)):=by
 go_enter Tryz.func87,Tryz.ntmps87
 go_wp2_with fail
 refine(Zdz h hr 8 (by omega)).mono ?_;rintro e w1 ⟨xa,m,mc,r',rfl,hm,hc,hs,hr',hT⟩;have hv:r.s.fixV=bigN (r.s.takeL 8):=rfl
 have hbt:Byt (r.s.takeL 8):=by
  unfold InS.takeL
  split
  · exact(hr.byt.drop _).take _
  nofun
 have hcs:m=0∨m=8:=by
  rw[←hm];unfold InS.takeL
  split
  · rename_i q
    right
    rw[List.length_take];have:=q.2
    omega
  left;rfl
 rcases hcs with rfl|rfl
 · rw[List.eq_nil_of_length_eq_zero hm] at hv
   have hv':=Hd hv;clear hv hbt hm hc
   go_wp2_with fail
   refine(Zkd xa mc w1).mono ?_;rintro e w2 ⟨rfl,rfl⟩
   go_wp2_with fail
   go_ret;exact⟨r',by rw[hv'.out];rfl,hs,hr',hT⟩
 obtain⟨rfl,g,o,rfl,hcell⟩:=hc (by omega)
 have hrd:=Zkc hm hbt w1 (hcell w1 (hT.get .here))
 generalize bigN (r.s.takeL 8)=v at *
 have hv':=Hd hv;clear hv hbt hm hc hcell
 go_wp2_with fail
 refine hrd.mono ?_;rintro e w2 ⟨rfl,rfl⟩
 go_wp2_with fail
 go_ret;exact⟨r',by rw[hv'.out];rfl,hs,hr',hT⟩
theorem ZjB {l:List Int} {xa:Option Addr} {m mc:Nat} {w:World} (hm:l.length=m) (hb:Byt l) (hc:m≠0→mc=m∧∃g o,xa=some ⟨g,o,none⟩∧Zhi g o l w):(convert 62 9 (.slice xa m mc)).run Tryz.prog w=.ok (.string (byL l)) w:=by
 by_cases h0:m=0
 · subst h0
   have hl:l=[]:=List.eq_nil_of_length_eq_zero hm;subst hl
   cases xa with
   |none=>
    rw[run_convert_bytes_string w 62 9 5 none 0 mc Tryz.underlying62 Tryz.underlying5 Tryz.underlying9]
    rfl
   |some a=>exact run_convert_bytes_back w 62 9 5 a mc [] Tryz.underlying62 Tryz.underlying5 Tryz.underlying9 (fun j hj=>absurd hj (by simp))
 obtain⟨rfl,g,o,rfl,hcell⟩:=hc h0
 have hq:=run_convert_bytes_back w 62 9 5 ⟨g,o,none⟩ mc (l.map fun x=>UInt8.ofNat x.toNat) Tryz.underlying62 Tryz.underlying5 Tryz.underlying9 (fun j hj=>by
  rw[List.length_map] at hj;have h1:=hcell j hj;have h2:=hb l[j] (List.getElem_mem hj);rw[List.getElem_map]
  have hv:((UInt8.ofNat l[j].toNat).toNat:Int)=l[j]:=by
   simp only[UInt8.toNat_ofNat',Nat.reducePow]
   omega
  rw[hv,←h1]
  by_cases q:j=0
  · subst q;simp[Addr.add]
  simp[Addr.add,q])
 rw[List.length_map,hm] at hq;exact hq
set_option maxRecDepth 1000000 in
theorem Zfs {w:World} {i:Nat} {r:Rdr} (h:Sep [RdP i r] w) (hr:r.Ok):Calls Tryz.prog 86 #[.pointer (some ⟨i,0,none⟩),.int .i64 64] w (InP w i r (.string (r.s.textV 64)) (r.s.textS 64)):=by
 have hmx:max (64:Int) 0=64:=by omega
 go_enter Tryz.func86,Tryz.ntmps86
 go_wp2_with fail
 refine(Zbe h hr 64 (by omega)).mono ?_;rintro e w1 ⟨r1,rfl,hs1,hr1,hT1⟩
 have hle:r.s.shortV 64≤64:=by
  unfold InS.shortV
  split
  · omega
  split
  · omega
  split
  · omega
  omega
 have hV:r.s.textV 64=byL ((r.s.shortS 64).takeL (r.s.shortV 64)):=rfl;have hS:r.s.textS 64=(r.s.shortS 64).takeS (r.s.shortV 64):=rfl;rw[←hs1] at hV hS
 generalize r.s.shortV 64=n at *
 have hw1:IntKind.i64.wrap (n:Int)=(n:Int):=by rw[IntKind.wrap_i64]<;>omega
 have hV':=Hd hV;have hS':=Hd hS;have hs1':=Hd hs1;clear hV hS hs1
 go_wp2_with fail
 refine(Zdz (hT1.seps (K:=[RdP i r1]) pR) hr1 n (by omega)).mono ?_;rintro e w2 ⟨xa,m,mc,r2,rfl,hm,hc,hs2,hr2,hT2⟩
 have hbt:Byt (r1.s.takeL n):=by
  unfold InS.takeL
  split
  · exact(hr1.byt.drop _).take _
  nofun
 have hcv:=ZjB hm hbt (w:=w2) (fun q=>by
  obtain⟨q1,g,o,q2,q3⟩:=hc q
  exact⟨q1,g,o,q2,q3 w2 (hT2.get .here)⟩)
 have hs2':=Hd hs2;clear hm hc hbt hs2
 go_wp2_with fail
 go_ret;exact⟨r2,by rw[hV'.out];rfl,by rw[hS'.out,hs2'.out],hr2,hT1.call1 .here hT2⟩
theorem ZhS {L0 L F:List Part} {R:Part} {w0 w:World} {v:Value} {l:List Int} (hA:At L0 w0 L w) (s:Sel R L F) (hR:∀w,R.holds w→Reads w v l.length (flatY l)) (hl:l.length≤140000000000000):
 Calls Tryz.prog 83 #[v] w fun e w'=>∃v',e=.returned v'∧At L0 w0 (rowY v' l::L) w':=by
 have hr:=hR w (hA.get s);obtain⟨ax,cap,rfl,hax,hc⟩:=hr
 cases ax with
 |none=>
  have h0:l=[]:=List.eq_nil_of_length_eq_zero (hax rfl);subst h0
  refine(Tryz.bytes_Clone_nil _ cap w).mono fun e w' h=> ?_
  obtain⟨he,hw⟩:=h;subst he;subst hw;exact⟨_,rfl,ZdB hA⟩
 |some a=>
  refine(Tryz.bytes_Clone_at a l.length cap l w rfl (by omega) ?_).mono fun e w' h=> ?_
  · intro i hi
    obtain⟨b,off,h,hx⟩:=hc i _ (ZbE l i hi);cases h;rw[List.getD_eq_getElem?_getD,List.getElem?_eq_getElem hi]
    by_cases q:i=0
    · subst q;simpa [Addr.add] using hx
    simpa [Addr.add,q] using hx
  obtain⟨v',rfl,hown,_,hb⟩:=h
  refine⟨v',rfl,?_⟩;have:=hA.row_new (e:=5) (size:=1) (n:=l.length) (xs:=flatY l) (v:=v') hb (by rw[ZcX];exact hown);exact this
def NewIP (R:Part) (l:List Int) (w:World) (e:Ending) (w':World):Prop:=∃(i:Nat) (r:Rdr),e=.returned (.pointer (some ⟨i,0,none⟩))∧r.s=⟨l,0⟩∧r.Ok∧At [R] w [RdP i r,R] w'
theorem Zko {R:Part} {w:World} {v:Value} {l:List Int} (h:Sep [R] w) (hR:∀w,R.holds w→Reads w v l.length (flatY l)) (hb:Byt l) (hl:l.length≤1000000000000):
 Calls Tryz.prog 22 #[v] w (NewIP R l w):=by
 have hA:=At.start h;obtain⟨ax,cap,hv,_,_⟩:=hR w (hA.get .here);subst hv;clear h
 go_enter Tryz.func22,Tryz.ntmps22
 go_wp2_with fail
 refine(ZhS hA .here hR (by omega)).mono ?_;rintro e w1 ⟨v',rfl,hB⟩;obtain⟨cx,cc,rfl,hcx,hcc,_⟩:=hB.row_form (v:=v') (n:=l.length) (xs:=flatY l) sR;obtain⟨ax',cap',hq,_,_,_,hfo⟩:=Ziz (hB.get (A:=rowY (.slice cx l.length cc) l) .here);cases hq;have hfo':=Hd hfo;clear hfo;clear hA;have hA:=hB;clear hB;obtain⟨hA,hF⟩:=fZ hA
 go_wp2_with (first|((with_reducible refine gbx ?_);refine wHz 166 [.slice cx l.length cc,.int .i64 0] hA ?_;clear hF hA;intro bI w1 hA hbI hF)|((with_reducible refine gst ?_);refine wTz hA ?_;clear hF hA;intro w1 hA hF)|((with_reducible refine gbx ?_);refine wCz hA ?_;clear hF hA;intro b1 w1 hA hb1 hF))
 go_ret;refine⟨bI,⟨.slice cx l.length cc,l,0,.slice cx l.length cc,0⟩,rfl,rfl,⟨⟨Nat.zero_le _,cx,cc,cx,rfl,hcc,by simp,?_⟩,hb,hl⟩,hA.to (ZbQ bI ⟨.slice cx l.length cc,l,0,.slice cx l.length cc,0⟩ [R]).symm⟩
 rcases hfo'.out with⟨a,b,c⟩|⟨g,a,_⟩
 · exact .inl ⟨a,a,c⟩
 exact .inr ⟨g,0,a,a,fun _=>rfl⟩
end Wire
end
section
namespace Lease
open Go.RowKit
open Go.Maps (Keyed)
open _root_.Go.Proofs.YtkdjkngfnapjcaaGreatDoor.Wire
theorem ZeP (acc:List AR) (a:AR):saids ((acc++[a]).map arP)=saids (acc.map arP)++[(Value.int .u64 a.r,Value.agg #[.int .i64 a.e,.int .u64 a.n,.bool a.g])]:=by simp[saids,saidE,Ans.val,arP]
theorem ZeQ {acc:List AR} {v1:Nat} (h:∀a ∈ acc,a.r < (v1:Int)):∀p ∈ saids (acc.map arP),p.1≠Value.int .u64 (v1:Int):=by
 intro p hp;simp only[saids,saidE,arP,List.map_map,List.mem_map,Function.comp] at hp;obtain⟨a,ha,rfl⟩:=hp;intro q;have:=h a ha
 injection q with _ q
 omega
def lastO (j:Nat) (last:Int):Option Int:=if j=0 then none else some last
def AnsP (w:World) (i x tm:Nat) (cx:List Value) (r:Rdr) (n:Nat) (e:Ending) (w':World):Prop:=∃r':Rdr,e=.returned (.tuple #[])∧r'.s=(ansD n none r.s).2∧r'.Ok∧
 At [RdP i r,sesC x cx,toldC tm (saids [])] w [RdP i r',sesC x cx,toldC tm (saids ((ansD n none r.s).1.map arP))] w'
def AnsR (w:World) (i x tm:Nat) (cx:List Value) (r:Rdr) (n:Nat) (k:Nat) (u6 u11:Value) (wr:World):Prop:=∃(r1:Rdr) (acc:List AR) (last:Int) (j:Nat),u6=.int .u64 last∧u11=.int .i64 j∧j + k=n∧r1.Ok∧
 ansD n none r.s=(acc++(ansD k (lastO j last) r1.s).1,(ansD k (lastO j last) r1.s).2)∧(j=0→acc=[])∧(∀a ∈ acc,a.r≤last)∧
 At [RdP i r,sesC x cx,toldC tm (saids [])] w [RdP i r1,sesC x cx,toldC tm (saids (acc.map arP))] wr
set_option maxRecDepth 1000000 in
theorem Zh4 {w:World} {i x tm:Nat} {r:Rdr} {o d a b s:Value} (h:Sep [RdP i r,sesC x [o,d,a,b,s,.map (some tm)],toldC tm (saids [])] w) (hr:r.Ok) (n:Nat) (hn:n≤256):
 Calls Tryz.prog 241 #[.pointer (some ⟨x,0,none⟩),.pointer (some ⟨i,0,none⟩),.int .i64 n] w (AnsP w i x tm [o,d,a,b,s,.map (some tm)] r n):=by
 have hA:=At.start h;obtain⟨hA,hF⟩:=fZ hA;clear h
 go_enter Tryz.func241,Tryz.ntmps241
 go_wp2_with fail
 go_loopg [6,11] n (AnsR w i x tm [o,d,a,b,s,.map (some tm)] r n)
 case atStart=>exact⟨r,[],0,0,rfl,rfl,by omega,hr,rfl,fun _=>rfl,nofun,hA⟩
 case round=>
  obtain⟨r1,acc,last,j,rfl,rfl,hjk,hr1,hD,hj0,hacc,hB⟩:=hrel;clear hF hA;have hA:=hB;clear hB;obtain⟨hA,hF⟩:=fZ hA
  by_cases hj:j < n
  · go_wp2_with fail
    have hst:ansD gk (lastO j last) r1.s=(if(if(lastO j last).any (fun q=>decide ((ansV r1.s).r≤q)) then(ansS r1.s).fail 10 else ansS r1.s).e≠0 then([],if(lastO j last).any (fun q=>decide ((ansV r1.s).r≤q)) then(ansS r1.s).fail 10 else ansS r1.s) else(ansV r1.s::(ansD (gk - 1) (some (ansV r1.s).r) (if(lastO j last).any (fun q=>decide ((ansV r1.s).r≤q)) then(ansS r1.s).fail 10 else ansS r1.s)).1,(ansD (gk - 1) (some (ansV r1.s).r) (if(lastO j last).any (fun q=>decide ((ansV r1.s).r≤q)) then(ansS r1.s).fail 10 else ansS r1.s)).2)):=by
     obtain⟨k,rfl⟩:∃k,gk=k + 1:=⟨gk - 1,by omega⟩
     rfl
    refine(Zbe (hA.sep1 sR) hr1 18446744073709551615 (by omega)).mono ?_;rintro e w2 ⟨r2,rfl,hz2,hr2,hT⟩;have hs2:=Hd hz2;clear hz2;replace hA:=hA.call1 sR hT;clear hT hF;obtain⟨hA,hF⟩:=fZ hA
    go_wp2_with fail
    refine(Zbe (hA.sep1 sR) hr2 1048576 (by omega)).mono ?_;rintro e w3 ⟨r3,rfl,hz3,hr3,hT⟩;have hs3:=Hd hz3;clear hz3;replace hA:=hA.call1 sR hT;clear hT hF;obtain⟨hA,hF⟩:=fZ hA
    have hb3:r2.s.shortV 1048576≤1048576:=by unfold InS.shortV;split;omega;split;omega;split<;>omega
    have hw3:IntKind.i64.wrap ((r2.s.shortV 1048576:Nat):Int)=((r2.s.shortV 1048576:Nat):Int):=by rw[IntKind.wrap_i64]<;>omega
    have hb3':=Hd hb3;clear hb3
    go_wp2_with fail
    refine(ZcY (hA.sep1 sR) hr3).mono ?_;rintro e w4 ⟨r4,rfl,hz4,hr4,hT⟩;have hs4:=Hd hz4;clear hz4;replace hA:=hA.call1 sR hT;clear hT hF;obtain⟨hA,hF⟩:=fZ hA
    go_wp2_with fail
    refine(ZdX (hA.sep1 sR) hr4).mono ?_;rintro e w5 ⟨r5,rfl,hz5,hr5,hT⟩;have hs5:=Hd hz5;clear hz5;replace hA:=hA.call1 sR hT;clear hT hF;obtain⟨hA,hF⟩:=fZ hA
    have eS:r5.s=ansS r1.s:=by rw[hs5.out,hs4.out,hs3.out,hs2.out];rfl
    have eV:ansV r1.s=⟨(r1.s.shortV 18446744073709551615:Nat),(r2.s.shortV 1048576:Nat),(r3.s.fixV:Nat),r4.s.truthV⟩:=by rw[hs4.out,hs3.out,hs2.out];rfl
    have hb2:r1.s.shortV 18446744073709551615 < 18446744073709551616:=by unfold InS.shortV;split;omega;split;omega;split<;>omega
    clear hs2 hs3 hs4 hs5 hr2 hr3 hr4;rw[eV,←eS] at hst;simp only at hst
    generalize r1.s.shortV 18446744073709551615=v1 at *
    generalize r2.s.shortV 1048576=v2 at *
    generalize r3.s.fixV=v3 at *
    generalize r4.s.truthV=v4 at *
    have hst':=Hd hst;have eV':=Hd eV;have hD':=Hd hD;clear hst eS eV hD
    by_cases hbad:(lastO j last).any (fun q=>decide ((v1:Int)≤q))=true
    · have hst1:ansD gk (lastO j last) r1.s=([],r5.s.fail 10):=by rw[hst'.out,if_pos hbad,if_pos (Zbj (by decide))]
      have hj1:j≠0:=by
       intro q;rw[q] at hbad;simp[lastO] at hbad
      have hl1:(v1:Int)≤last:=by
       unfold lastO at hbad;rw[if_neg hj1] at hbad
       simpa using hbad
      have hst2:=Hd hst1
      have hjz:(0:Int) < (j:Int):=by omega
      clear hst1 hst' hbad
      go_wp2_with (first|((with_reducible refine gal ?_);refine g7 hA ?_;clear hF hA;intro bA w1 hA hbA hF)|((with_reducible refine gst ?_);refine wTz hA ?_;clear hF hA;intro w1 hA hF)|((with_reducible refine gbx ?_);refine wCz hA ?_;clear hF hA;intro b1 w1 hA hb1 hF))
      refine(Zck (hA.sep1 sR) hr5 10).mono ?_;rintro e w6 ⟨r6,rfl,hs6,hr6,hT⟩;have hs6':=Hd hs6;replace hA:=hA.call1 sR hT;clear hs6 hT hF;obtain⟨hA,hF⟩:=fZ hA
      go_wp2_with fail
      refine(ZaF (hA.sep1 sR)).mono ?_;rintro e w7 ⟨rfl,hT⟩;replace hA:=hA.call1 sR hT;clear hT hF;obtain⟨hA,hF⟩:=fZ hA
      have hne:(r6.s.e != 0)=true:=by rw[hs6'.out];simpa using Zbj (s:=r5.s) (x:=10) (by decide)
      go_wp2_with fail
      refine bodyPost_ret (v:=.tuple #[]) (by simp[results,Tryz.results241,go_sem]) rfl ?_
      have e1:ansD n none r.s=(acc,r5.s.fail 10):=by rw[hD'.out,hst2.out,List.append_nil]
      exact⟨r6,rfl,by rw[e1];exact hs6'.out,hr6,by rw[e1];exact hA.pick pR⟩
    have hnew:∀a ∈ acc,a.r < (v1:Int):=by
     intro a ha
     by_cases q:j=0
     · rw[hj0 q] at ha;cases ha
     unfold lastO at hbad;rw[if_neg q] at hbad;exact Int.lt_of_le_of_lt (hacc a ha) (by simpa using hbad)
    obtain⟨ku,hu0⟩:=keyU (n:=(v1:Int)) (by omega) (by unfold big64;omega);have hu:=Hd hu0;have hnew:=Hd hnew;have hbad':=Hd hbad;clear hu0
    by_cases hj1:j=0
    · have hjz:¬(0:Int) < (j:Int):=by omega
      clear hbad
      go_wp2_with (first|((with_reducible refine gal ?_);refine g7 hA ?_;clear hF hA;intro bA w1 hA hbA hF)|((with_reducible refine gst ?_);refine wTz hA ?_;clear hF hA;intro w1 hA hF)|((with_reducible refine gbx ?_);refine wCz hA ?_;clear hF hA;intro b1 w1 hA hb1 hF))
      refine(ZaF (hA.sep1 sR)).mono ?_;rintro e w7 ⟨rfl,hT⟩;replace hA:=hA.call1 sR hT;clear hT hF;obtain⟨hA,hF⟩:=fZ hA
      by_cases he:r5.s.e=0
      · have hst1:ansD gk (lastO j last) r1.s=(⟨v1,v2,v3,v4⟩::(ansD (gk - 1) (some (v1:Int)) r5.s).1,(ansD (gk - 1) (some (v1:Int)) r5.s).2):=by rw[hst'.out,if_neg hbad'.out,if_neg (fun q=>q he)]
        have hne:(r5.s.e != 0)=false:=by simpa using he
        have hst2:=Hd hst1;have hmiss:=Hd (ZeQ (v1:=v1) (acc:=acc) hnew.out)
        have hw11:wrap64 ((j:Int) + 1)=(j:Int) + 1:=by unfold wrap64;omega
        have he':=Hd he;clear hst1 he
        go_wp2_with fail
        (refine Zaj 6 (fun w'=>∃n,w'=World.drewN _ n) (by kernel_rfl) (by kernel_rfl) ⟨1,rfl⟩ ?_);(simp only[List.take_succ_cons,List.take_zero,List.drop_succ_cons,List.drop_zero]);(repeat(first|go_big_quiet_step (fail)|quiet_step (fail)));(refine wpQuiet_nil ?_);(rintro _ ⟨nq,rfl⟩)
        have hA:=hA.drewN nq;generalize World.drewN _ nq=w1 at *;clear hF;obtain⟨hA,hF⟩:=fZ hA
        refine Zao rfl rfl rfl (by(try simp only[Act.eval,eV])<;>exact rfl) (by(try simp only[Act.eval,eV])<;>exact rfl) hA (k:=23) (es:=saids (acc.map arP)) sR lawU Tryz.underlying217 hu.out hmiss.out ?_;intro w1 hB;clear hF hA;have hA:=hB;clear hB;obtain⟨hA,hF⟩:=fZ hA
        go_wp2_with fail
        go_roundg (gk - 1)
        case rel=>
         refine⟨r5,acc++[⟨v1,v2,v3,v4⟩],v1,j + 1,rfl,by first|rfl|(subst hj1;rfl),by omega,hr5,?_,fun q=>by omega,?_,?_⟩
         · rw[hD'.out,hst2.out,show lastO (j + 1) (v1:Int)=some (v1:Int) from if_neg (by omega)]
           simp
         · intro a ha
           rcases List.mem_append.1 ha with ha|ha
           · exact Int.le_of_lt (hnew.out a ha)
           rw[List.mem_singleton.1 ha];exact Int.le_refl _
         rw[ZeP];exact hA.pick pR
        case measure=>omega
      have hst1:ansD gk (lastO j last) r1.s=([],r5.s):=by rw[hst'.out,if_neg hbad'.out,if_pos he]
      have hne:(r5.s.e != 0)=true:=by simpa using he
      have hst2:=Hd hst1;clear hst1
      go_wp2_with fail
      refine bodyPost_ret (v:=.tuple #[]) (by simp[results,Tryz.results241,go_sem]) rfl ?_
      have e1:ansD n none r.s=(acc,r5.s):=by rw[hD'.out,hst2.out,List.append_nil]
      exact⟨r5,rfl,by rw[e1],hr5,by rw[e1];exact hA.pick pR⟩
    have hjz:(0:Int) < (j:Int):=by omega
    have hl1:¬(v1:Int)≤last:=by
     unfold lastO at hbad;rw[if_neg hj1] at hbad
     simpa using hbad
    clear hbad
    go_wp2_with (first|((with_reducible refine gal ?_);refine g7 hA ?_;clear hF hA;intro bA w1 hA hbA hF)|((with_reducible refine gst ?_);refine wTz hA ?_;clear hF hA;intro w1 hA hF)|((with_reducible refine gbx ?_);refine wCz hA ?_;clear hF hA;intro b1 w1 hA hb1 hF))
    refine(ZaF (hA.sep1 sR)).mono ?_;rintro e w7 ⟨rfl,hT⟩;replace hA:=hA.call1 sR hT;clear hT hF;obtain⟨hA,hF⟩:=fZ hA
    by_cases he:r5.s.e=0
    · have hst1:ansD gk (lastO j last) r1.s=(⟨v1,v2,v3,v4⟩::(ansD (gk - 1) (some (v1:Int)) r5.s).1,(ansD (gk - 1) (some (v1:Int)) r5.s).2):=by rw[hst'.out,if_neg hbad'.out,if_neg (fun q=>q he)]
      have hne:(r5.s.e != 0)=false:=by simpa using he
      have hst2:=Hd hst1;have hmiss:=Hd (ZeQ (v1:=v1) (acc:=acc) hnew.out)
      have hw11:wrap64 ((j:Int) + 1)=(j:Int) + 1:=by unfold wrap64;omega
      have he':=Hd he;clear hst1 he
      go_wp2_with fail
      (refine Zaj 6 (fun w'=>∃n,w'=World.drewN _ n) (by kernel_rfl) (by kernel_rfl) ⟨1,rfl⟩ ?_);(simp only[List.take_succ_cons,List.take_zero,List.drop_succ_cons,List.drop_zero]);(repeat(first|go_big_quiet_step (fail)|quiet_step (fail)));(refine wpQuiet_nil ?_);(rintro _ ⟨nq,rfl⟩)
      have hA:=hA.drewN nq;generalize World.drewN _ nq=w1 at *;clear hF;obtain⟨hA,hF⟩:=fZ hA
      refine Zao rfl rfl rfl (by(try simp only[Act.eval,eV])<;>exact rfl) (by(try simp only[Act.eval,eV])<;>exact rfl) hA (k:=23) (es:=saids (acc.map arP)) sR lawU Tryz.underlying217 hu.out hmiss.out ?_;intro w1 hB;clear hF hA;have hA:=hB;clear hB;obtain⟨hA,hF⟩:=fZ hA
      go_wp2_with fail
      go_roundg (gk - 1)
      case rel=>
       refine⟨r5,acc++[⟨v1,v2,v3,v4⟩],v1,j + 1,rfl,by first|rfl|(subst hj1;rfl),by omega,hr5,?_,fun q=>by omega,?_,?_⟩
       · rw[hD'.out,hst2.out,show lastO (j + 1) (v1:Int)=some (v1:Int) from if_neg (by omega)]
         simp
       · intro a ha
         rcases List.mem_append.1 ha with ha|ha
         · exact Int.le_of_lt (hnew.out a ha)
         rw[List.mem_singleton.1 ha];exact Int.le_refl _
       rw[ZeP];exact hA.pick pR
      case measure=>omega
    have hst1:ansD gk (lastO j last) r1.s=([],r5.s):=by rw[hst'.out,if_neg hbad'.out,if_pos he]
    have hne:(r5.s.e != 0)=true:=by simpa using he
    have hst2:=Hd hst1;clear hst1
    go_wp2_with fail
    refine bodyPost_ret (v:=.tuple #[]) (by simp[results,Tryz.results241,go_sem]) rfl ?_
    have e1:ansD n none r.s=(acc,r5.s):=by rw[hD'.out,hst2.out,List.append_nil]
    exact⟨r5,rfl,by rw[e1],hr5,by rw[e1];exact hA.pick pR⟩
  go_wp2_with fail
  have hk0:gk=0:=by omega
  have e1:ansD n none r.s=(acc,r1.s):=by rw[hD,hk0];simp[ansD]
  refine bodyPost_ret (v:=.tuple #[]) (by simp[results,Tryz.results241,go_sem]) rfl ?_;exact⟨r1,rfl,by rw[e1],hr1,by rw[e1];exact hA⟩
end Lease
end
section
namespace Lease
open Go.RowKit
open Go.Maps (Keyed)
open _root_.Go.Proofs.YtkdjkngfnapjcaaGreatDoor.Wire
def serd (a:SR) (b t:Nat):Ses:=⟨a.num,a.foot,a.op,a.dead,a.dl,a.ttl,a.told.map arP,b,t⟩
def OneP (w:World) (i p m:Nat) (ss:List Ses) (r:Rdr) (e:Ending) (w':World):Prop:=∃r':Rdr,e=.returned (keyV (sesV r.s).num (sesV r.s).foot)∧r'.s=sesS r.s∧r'.Ok∧
 (((sesS r.s).e=0∧find ss (sesV r.s).num (sesV r.s).foot=none∧∃b t,At [RdP i r,BookP p m ss] w [RdP i r',BookP p m (ss++[serd (sesV r.s) b t])] w')∨
  (¬((sesS r.s).e=0∧find ss (sesV r.s).num (sesV r.s).foot=none)∧At [RdP i r,BookP p m ss] w [RdP i r'] w'))
def CutB (L0:List Part) (w:World) (L:List Part) (bad:Bool) (u:Value) (wc:World):Prop:=u=.bool bad∧At L0 w L wc
def CutR (L0:List Part) (w:World) (i:Nat) (L:List Part) (s:InS) (wc:World):Prop:=∃r':Rdr,r'.s=s∧r'.Ok∧At L0 w (RdP i r'::L) wc
theorem Zbu {s:InS} {k:Nat} (hk:k < 18446744073709551616):(s.textV k).size≤k:=by
 unfold InS.textV byL;show(List.toArray _).size≤k;simp only[List.size_toArray,List.length_map];unfold InS.textL InS.takeL
 split
 · rw[List.length_take]
   have:s.shortV k≤k:=by unfold InS.shortV;split;omega;split;omega;split<;>omega
   omega
 simp
theorem bigN_lt:∀(l:List Int) (v:Nat),(∀x ∈ l,0≤x∧x < 256)→l.foldl (fun v x=>v * 256 + x.toNat) v < (v + 1) * 256 ^ l.length
 |[],v,_=>by simp
 |x::l,v,h=>by
  have h1:=bigN_lt l (v * 256 + x.toNat) (fun y hy=>h y (List.mem_cons_of_mem _ hy));have hx:=h x List.mem_cons_self
  have h2:(v * 256 + x.toNat + 1)≤(v + 1) * 256:=by omega
  have h3:=Nat.mul_le_mul_right (256 ^ l.length) h2;rw[List.foldl_cons,List.length_cons,Nat.pow_succ,Nat.mul_comm (256 ^ l.length) 256,←Nat.mul_assoc]
  omega
theorem Zdj {s:InS} (hb:Byt s.b):s.fixV < 18446744073709551616:=by
 unfold InS.fixV bigN
 have hby:∀x ∈ s.takeL 8,0≤x∧x < 256:=by
  unfold InS.takeL
  split
  · exact hb.take 8
  nofun
 have hl:(s.takeL 8).length≤8:=by
  unfold InS.takeL
  split
  · rw[List.length_take];omega
  simp
 have h1:=bigN_lt (s.takeL 8) 0 hby
 have h2:256 ^ (s.takeL 8).length≤256 ^ 8:=Nat.pow_le_pow_right (by decide) hl
 have h3:(256:Nat) ^ 8=18446744073709551616:=by decide
 omega
theorem Za6 (s:InS) (k:Nat):s.shortV k≤k:=by unfold InS.shortV;split;omega;split;omega;split<;>omega
theorem Zed {r:Rdr} (h:r.Ok):Byt r.s.b:=h.byt.drop _
theorem open0L {L0 L F:List Part} {w0 w:World} {p m:Nat} {ss:List Ses} (h:At L0 w0 L w) (q:Sel (BookP p m ss) L F):At L0 w0 (headC p m::mapC m (ents ss)::restP ss::F) w:=(h.take q).to (eqv0 p m ss F)
set_option maxRecDepth 1000000 in
theorem Znz {w:World} {i p m:Nat} {ss:List Ses} {r:Rdr} (h:Sep [RdP i r,BookP p m ss] w) (hr:r.Ok):
 Calls Tryz.prog 186 #[.pointer (some ⟨p,0,none⟩),.pointer (some ⟨i,0,none⟩)] w (OneP w i p m ss r):=by
 have hA:=At.start h;obtain⟨hA,hF⟩:=fZ hA;clear h
 go_enter Tryz.func186,Tryz.ntmps186
 go_wp2_with (first|((with_reducible refine gal ?_);refine g5 hA ?_;clear hF hA;intro bR w1 hA hbR hF)|((with_reducible refine gst ?_);refine wTz hA ?_;clear hF hA;intro w1 hA hF)|((with_reducible refine gbx ?_);refine wCz hA ?_;clear hF hA;intro b1 w1 hA hb1 hF))
 refine(ZcY (hA.sep1 (A:=RdP i r) sR) hr).mono ?_;rintro e w1 ⟨r1,rfl,hz,hr1,hT⟩;have hsr1:=Hd hz;clear hz;replace hA:=hA.call1 sR hT;clear hT hF
 try simp only[uA] at hA
 obtain⟨hA,hF⟩:=fZ hA
 go_wp2_with (first|((with_reducible refine gst ?_);refine wTz hA ?_;clear hF hA;intro w1 hA hF)|((with_reducible refine gbx ?_);refine wCz hA ?_;clear hF hA;intro b1 w1 hA hb1 hF))
 refine(Zfs (hA.sep1 (A:=RdP i r1) sR) hr1).mono ?_;rintro e w2 ⟨r2,rfl,hz,hr2,hT⟩;have hsr2:=Hd hz;clear hz;replace hA:=hA.call1 sR hT;clear hT hF
 try simp only[uA] at hA
 obtain⟨hA,hF⟩:=fZ hA
 have e2:r2.s=s1 r.s:=by rw[hsr2.out,hsr1.out];rfl
 have hnl:(r.s.fixV:Int) < 18446744073709551616:=by have:=Zdj (Zed hr);omega
 have hfl:(r1.s.textV 64).size≤64:=Zbu (by omega)
 have hsv:(sesV r.s).num=(r.s.fixV:Nat)∧(sesV r.s).foot=r1.s.textV 64:=⟨rfl,by rw[hsr1.out];rfl⟩
 clear hsr1 hsr2 hr1
 generalize r.s.fixV=num at *
 generalize r1.s.textV 64=foot at *
 have e2':=Hd e2;have hsv':=Hd hsv;clear e2 hsv
 go_wp2_with (first|((with_reducible refine gal ?_);refine g5 hA ?_;clear hF hA;intro bS w1 hA hbS hF)|(refine ZaJ Tryz.prog 23 rfl rfl hA ?_;intro bM w1 hB hbM;clear hF hA;have hA:=hB;clear hB;obtain⟨hA,hF⟩:=fZ hA)|((with_reducible refine gbx ?_);refine wCz (E:=219) hA ?_;clear hF hA;intro bX w1 hA hbX hF)|((with_reducible refine gst ?_);refine wTz hA ?_;clear hF hA;intro w1 hA hF)|((with_reducible refine gbx ?_);refine wCz hA ?_;clear hF hA;intro b1 w1 hA hb1 hF))
 refine(ZdX (hA.sep1 (A:=RdP i r2) sR) hr2).mono ?_;rintro e w3 ⟨r3,rfl,hz,hr3,hT⟩;have hsr3:=Hd hz;clear hz;replace hA:=hA.call1 sR hT;clear hT hF
 try simp only[uA] at hA
 obtain⟨hA,hF⟩:=fZ hA
 go_wp2_with (first|((with_reducible refine gst ?_);refine wTz hA ?_;clear hF hA;intro w1 hA hF)|((with_reducible refine gbx ?_);refine wCz hA ?_;clear hF hA;intro b1 w1 hA hb1 hF))
 refine(ZdX (hA.sep1 (A:=RdP i r3) sR) hr3).mono ?_;rintro e w4 ⟨r4,rfl,hz,hr4,hT⟩;have hsr4:=Hd hz;clear hz;replace hA:=hA.call1 sR hT;clear hT hF
 try simp only[uA] at hA
 obtain⟨hA,hF⟩:=fZ hA
 go_wp2_with (first|((with_reducible refine gst ?_);refine wTz hA ?_;clear hF hA;intro w1 hA hF)|((with_reducible refine gbx ?_);refine wCz hA ?_;clear hF hA;intro b1 w1 hA hb1 hF))
 refine(Zbe (hA.sep1 (A:=RdP i r4) sR) hr4 2199023255552 (by omega)).mono ?_;rintro e w5 ⟨r5,rfl,hz,hr5,hT⟩;have hsr5:=Hd hz;clear hz;replace hA:=hA.call1 sR hT;clear hT hF
 try simp only[uA] at hA
 obtain⟨hA,hF⟩:=fZ hA;have hb5:=Za6 r4.s 2199023255552
 have hw5:IntKind.i64.wrap ((r4.s.shortV 2199023255552:Nat):Int)=((r4.s.shortV 2199023255552:Nat):Int):=by rw[IntKind.wrap_i64]<;>omega
 have hb5':=Hd hb5;clear hb5
 go_wp2_with (first|((with_reducible refine gst ?_);refine wTz hA ?_;clear hF hA;intro w1 hA hF)|((with_reducible refine gbx ?_);refine wCz hA ?_;clear hF hA;intro b1 w1 hA hb1 hF))
 refine(Zbe (hA.sep1 (A:=RdP i r5) sR) hr5 2199023255552 (by omega)).mono ?_;rintro e w6 ⟨r6,rfl,hz,hr6,hT⟩;have hsr6:=Hd hz;clear hz;replace hA:=hA.call1 sR hT;clear hT hF
 try simp only[uA] at hA
 obtain⟨hA,hF⟩:=fZ hA;have hb6:=Za6 r5.s 2199023255552
 have hw6:IntKind.i64.wrap ((r5.s.shortV 2199023255552:Nat):Int)=((r5.s.shortV 2199023255552:Nat):Int):=by rw[IntKind.wrap_i64]<;>omega
 have hb6':=Hd hb6;clear hb6
 have e3:r3.s=s2 r.s:=by rw[hsr3.out,e2'.out];rfl
 have e4:r4.s=s3 r.s:=by rw[hsr4.out,e3];rfl
 have e5:r5.s=s4 r.s:=by rw[hsr5.out,e4];rfl
 have e6:r6.s=s5 r.s:=by rw[hsr6.out,e5];rfl
 have hso:r2.s.truthV=(sesV r.s).op∧r3.s.truthV=(sesV r.s).dead∧((r4.s.shortV 2199023255552:Nat):Int)=(sesV r.s).dl∧((r5.s.shortV 2199023255552:Nat):Int)=(sesV r.s).ttl:=by rw[e2'.out,e3,e4,e5];exact⟨rfl,rfl,rfl,rfl⟩
 have hs6:s6 r.s=if badI r2.s.truthV r3.s.truthV (r4.s.shortV 2199023255552) (r5.s.shortV 2199023255552) then r6.s.fail 10 else r6.s:=by rw[e6,e2'.out,e3,e4,e5];rfl
 have hso':=Hd hso;have hs6':=Hd hs6;clear hso hs6 e3 e4 e5 e6 hsr3 hsr4 hsr5 hsr6 hr2 hr3 hr4 hr5 e2'
 generalize r2.s.truthV=op at *
 generalize r3.s.truthV=dead at *
 generalize r4.s.shortV 2199023255552=dl at *
 generalize r5.s.shortV 2199023255552=ttl at *
 have hb0:(dl != 0)=((dl:Int) != 0):=by
  by_cases q:dl=0
  · subst q;rfl
  have h1:(dl != 0)=true:=by simpa using q
  have h2:((dl:Int) != 0)=true:=by simp;omega
  rw[h1,h2]
 have hb1:(ttl != 0)=((ttl:Int) != 0):=by
  by_cases q:ttl=0
  · subst q;rfl
  have h1:(ttl != 0)=true:=by simpa using q
  have h2:((ttl:Int) != 0)=true:=by simp;omega
  rw[h1,h2]
 have hbI:=Hd (show badI op dead dl ttl=((op&&dead) || (!op&&(((dl:Int) != 0) || ((ttl:Int) != 0)))) from by unfold badI;rw[hb0,hb1]);clear hb0 hb1
 go_upto_region 5 with(first|((with_reducible refine gal ?_);refine wGz 121 [.bool false,.bool false,.int .i64 0,.int .i64 0,.int .i64 0] hA ?_;clear hF hA;intro bI w1 hA hbI hF)|((with_reducible refine gst ?_);refine wTz hA ?_;clear hF hA;intro w1 hA hF)|((with_reducible refine gbx ?_);refine wCz hA ?_;clear hF hA;intro b1 w1 hA hb1 hF))
 have hcI:=(hA.get (A:=Part.cells bI [.bool op,.bool dead,.int .i64 dl,.int .i64 ttl,.int .i64 0] 121) sZ:Zaa _ _ _ _)
 have hi0:=hcI.cell 0;have hi1:=hcI.cell 1;have hi2:=hcI.cell 2;have hi3:=hcI.cell 3;clear hcI
 try go_frame
 go_cut [54] from 34 to 54 (CutB [RdP i r,BookP p m ss] w [Part.cells bI [.bool op,.bool dead,.int .i64 dl,.int .i64 ttl,.int .i64 0] 121,sesC bX [.bool op,.bool dead,.int .i64 dl,.int .i64 ttl,.int .i64 0,.map (some bM)],toldC bM (saids []),Part.cells bS [.int .u64 num,.string foot] 25,Part.cells bR [.int .u64 0,.string .empty] 25,RdP i r6,BookP p m ss] (badI op dead dl ttl))
 case first=>
  cases op
  · by_cases q1:dl=0
    · have e1:((dl:Int) != 0)=false:=by simp[q1]
      by_cases q2:ttl=0
      · have e2:((ttl:Int) != 0)=false:=by simp[q2]
        have hz:=Hd (show badI false dead dl ttl=false from by simp[badI,q1,q2]);clear q1 q2
        go_wp2_with (first|((with_reducible refine gst ?_);refine wTz hA ?_;clear hF hA;intro w1 hA hF)|((with_reducible refine gbx ?_);refine wCz hA ?_;clear hF hA;intro b1 w1 hA hb1 hF))
        go_meet
        case rel=>exact⟨by rw[hz.out],hA.pick pZ⟩
      have e2:((ttl:Int) != 0)=true:=by simp;omega
      have hz:=Hd (show badI false dead dl ttl=true from by simp[badI,q2]);clear q1 q2
      go_wp2_with (first|((with_reducible refine gst ?_);refine wTz hA ?_;clear hF hA;intro w1 hA hF)|((with_reducible refine gbx ?_);refine wCz hA ?_;clear hF hA;intro b1 w1 hA hb1 hF))
      go_meet
      case rel=>exact⟨by rw[hz.out],hA.pick pZ⟩
    have e1:((dl:Int) != 0)=true:=by simp;omega
    have hz:=Hd (show badI false dead dl ttl=true from by simp[badI,q1]);clear q1
    go_wp2_with (first|((with_reducible refine gst ?_);refine wTz hA ?_;clear hF hA;intro w1 hA hF)|((with_reducible refine gbx ?_);refine wCz hA ?_;clear hF hA;intro b1 w1 hA hb1 hF))
    go_meet
    case rel=>exact⟨by rw[hz.out],hA.pick pZ⟩
  cases dead
  · have hz:=Hd (show badI true false dl ttl=false from by simp[badI])
    go_wp2_with (first|((with_reducible refine gst ?_);refine wTz hA ?_;clear hF hA;intro w1 hA hF)|((with_reducible refine gbx ?_);refine wCz hA ?_;clear hF hA;intro b1 w1 hA hb1 hF))
    go_meet
    case rel=>exact⟨by rw[hz.out],hA.pick pZ⟩
  have hz:=Hd (show badI true true dl ttl=true from by simp[badI])
  go_wp2_with (first|((with_reducible refine gst ?_);refine wTz hA ?_;clear hF hA;intro w1 hA hF)|((with_reducible refine gbx ?_);refine wCz hA ?_;clear hF hA;intro b1 w1 hA hb1 hF))
  go_meet
  case rel=>exact⟨by rw[hz.out],hA.pick pZ⟩
 case rest=>
  obtain⟨rfl,hB⟩:=hcut;clear hF hA hi0 hi1 hi2 hi3 hbI;have hA:=hB;clear hB
  generalize badI op dead dl ttl=bad at *
  obtain⟨hA,hF⟩:=fZ hA
  go_upto_if 54 with(first|((with_reducible refine gst ?_);refine wTz hA ?_;clear hF hA;intro w1 hA hF)|((with_reducible refine gbx ?_);refine wCz hA ?_;clear hF hA;intro b1 w1 hA hb1 hF))
  try go_frame
  go_cut [] from 55 to 56 (CutR [RdP i r,BookP p m ss] w i [Part.cells bI [.bool op,.bool dead,.int .i64 dl,.int .i64 ttl,.int .i64 0] 121,sesC bX [.bool op,.bool dead,.int .i64 dl,.int .i64 ttl,.int .i64 0,.map (some bM)],toldC bM (saids []),Part.cells bS [.int .u64 num,.string foot] 25,Part.cells bR [.int .u64 0,.string .empty] 25,BookP p m ss] (s6 r.s))
  case first=>
   cases bad
   · go_wp2_with (first|((with_reducible refine gst ?_);refine wTz hA ?_;clear hF hA;intro w1 hA hF)|((with_reducible refine gbx ?_);refine wCz hA ?_;clear hF hA;intro b1 w1 hA hb1 hF))
     go_meet
     case rel=>exact⟨r6,by rw[hs6'.out];rfl,hr6,hA.pick pZ⟩
   go_wp2_with (first|((with_reducible refine gst ?_);refine wTz hA ?_;clear hF hA;intro w1 hA hF)|((with_reducible refine gbx ?_);refine wCz hA ?_;clear hF hA;intro b1 w1 hA hb1 hF))
   refine(Zck (hA.sep1 (A:=RdP i r6) sR) hr6 10).mono ?_;rintro e w7 ⟨r7,rfl,hz,hr7,hT⟩;have hsr7:=Hd hz;clear hz;replace hA:=hA.call1 sR hT;clear hT hF
   try simp only[uA] at hA
   obtain⟨hA,hF⟩:=fZ hA
   go_wp2_with (first|((with_reducible refine gst ?_);refine wTz hA ?_;clear hF hA;intro w1 hA hF)|((with_reducible refine gbx ?_);refine wCz hA ?_;clear hF hA;intro b1 w1 hA hb1 hF))
   go_meet
   case rel=>exact⟨r7,by rw[hs6'.out,hsr7.out];rfl,hr7,hA.pick pZ⟩
  case rest=>
   obtain⟨r7,hz,hr7,hB⟩:=hcut;have hsr7:=Hd hz;clear hF hA hz hs6' hr6;have hA:=hB;clear hB;obtain⟨hA,hF⟩:=fZ hA
   go_wp2_with (first|((with_reducible refine gst ?_);refine wTz hA ?_;clear hF hA;intro w1 hA hF)|((with_reducible refine gbx ?_);refine wCz hA ?_;clear hF hA;intro b1 w1 hA hb1 hF))
   refine(Zbe (hA.sep1 (A:=RdP i r7) sR) hr7 256 (by omega)).mono ?_;rintro e w8 ⟨r8,rfl,hz,hr8,hT⟩;have hsr8:=Hd hz;clear hz;replace hA:=hA.call1 sR hT;clear hT hF
   try simp only[uA] at hA
   obtain⟨hA,hF⟩:=fZ hA;have hb8:=Za6 r7.s 256
   have hw8:IntKind.i64.wrap ((r7.s.shortV 256:Nat):Int)=((r7.s.shortV 256:Nat):Int):=by rw[IntKind.wrap_i64]<;>omega
   have hD:=Hd (show sesS r.s=(ansD (r7.s.shortV 256) none r8.s).2∧(sesV r.s).told=(ansD (r7.s.shortV 256) none r8.s).1 from by rw[hsr8.out,hsr7.out];exact⟨rfl,rfl⟩);clear hsr7 hsr8 hr7
   generalize r7.s.shortV 256=n8 at *
   go_wp2_with (first|((with_reducible refine gst ?_);refine wTz hA ?_;clear hF hA;intro w1 hA hF)|((with_reducible refine gbx ?_);refine wCz hA ?_;clear hF hA;intro b1 w1 hA hb1 hF))
   refine(Zh4 (hA.sep3 (A:=RdP i r8) (B:=sesC bX [.bool op,.bool dead,.int .i64 dl,.int .i64 ttl,.int .i64 0,.map (some bM)]) (C:=toldC bM (saids [])) sZ sZ sZ) hr8 n8 hb8).mono ?_;rintro e w9 ⟨r9,rfl,hz,hr9,hT⟩;have hB:=hA.call3 (A:=RdP i r8) (B:=sesC bX [.bool op,.bool dead,.int .i64 dl,.int .i64 ttl,.int .i64 0,.map (some bM)]) (C:=toldC bM (saids [])) sZ sZ sZ hT;rw[←hD.out.2] at hB;rw[←hD.out.1] at hz;have hs9:=Hd hz;clear hT hz hF hA hD hr8 hw8 hb8;have hA:=hB;clear hB
   try simp only[uA] at hA
   obtain⟨hA,hF⟩:=fZ hA
   go_wp2_with (first|((with_reducible refine gst ?_);refine wTz hA ?_;clear hF hA;intro w1 hA hF)|((with_reducible refine gbx ?_);refine wCz hA ?_;clear hF hA;intro b1 w1 hA hb1 hF))
   refine(ZaF (hA.sep1 (A:=RdP i r9) sR)).mono ?_;rintro e w7 ⟨rfl,hT⟩;replace hA:=hA.call1 sR hT;clear hT hF
   try simp only[uA] at hA
   obtain⟨hA,hF⟩:=fZ hA;obtain⟨kl,hk⟩:=keyS (n:=(num:Int)) (f:=foot) (by omega) (by unfold big64;omega) (by unfold maxLen;omega)
   have hse:serd (sesV r.s) bX bM=⟨(num:Int),foot,op,dead,dl,ttl,(sesV r.s).told.map arP,bX,bM⟩:=by
    unfold serd;rw[hsv'.out.1,hsv'.out.2,←hso'.out.1,←hso'.out.2.1,←hso'.out.2.2.1,←hso'.out.2.2.2]
   have hse':=Hd hse
   have hkv:keyV (sesV r.s).num (sesV r.s).foot=keyV (num:Int) foot:=by rw[hsv'.out.1,hsv'.out.2]
   have hkv':=Hd hkv;have hfv:=Hd (show find ss (sesV r.s).num (sesV r.s).foot=find ss (num:Int) foot from by rw[hsv'.out.1,hsv'.out.2]);clear hse hkv
   by_cases he:r9.s.e=0
   · have he2:=Hd (show(sesS r.s).e=0 from by rw[←hs9.out];exact he)
     have hne:(r9.s.e != 0)=false:=by simpa using he
     clear he;replace hA:=open0L hA (p:=p) (m:=m) (ss:=ss) sR;clear hF
     try simp only[uA] at hA
     obtain⟨hA,hF⟩:=fZ hA;unfold keyV at hk
     cases hfi:find ss (num:Int) foot with
     |none=>
      have hfi':=Hd hfi;have hmiss:=Hd (find_none hfi);clear hfi
      go_wp2_with (first|((with_reducible refine gst ?_);refine wTz hA ?_;clear hF hA;intro w1 hA hF)|((with_reducible refine gbx ?_);refine wCz hA ?_;clear hF hA;intro b1 w1 hA hb1 hF))
      (refine Zaj 6 (fun w'=>∃n,w'=World.drewN _ n) (by kernel_rfl) (by kernel_rfl) ⟨1,rfl⟩ ?_);(simp only[List.take_succ_cons,List.take_zero,List.drop_succ_cons,List.drop_zero]);(repeat(first|go_big_quiet_step (fail)|quiet_step (fail)));(refine wpQuiet_nil ?_);(rintro _ ⟨nq,rfl⟩)
      have hA:=hA.drewN nq;generalize World.drewN _ nq=w1 at *;clear hF;obtain⟨hA,hF⟩:=fZ hA
      refine Zao rfl rfl rfl (by(try simp only[Act.eval,eV])<;>exact rfl) (by(try simp only[Act.eval,eV])<;>exact rfl) hA (k:=25) (es:=ents ss) sR lawS Tryz.underlying212 hk hmiss.out ?_;intro w1 hB;clear hF hA;have hA:=hB;clear hB;obtain⟨hA,hF⟩:=fZ hA
      go_wp2_with (first|((with_reducible refine gst ?_);refine wTz hA ?_;clear hF hA;intro w1 hA hF)|((with_reducible refine gbx ?_);refine wCz hA ?_;clear hF hA;intro b1 w1 hA hb1 hF))
      refine bodyPost_ret (v:=keyV num foot) (by simp[results,Tryz.results186,go_sem,hF,keyV]) rfl ?_;refine⟨r9,by rw[hkv'.out],hs9.out,hr9,.inl ⟨he2.out,by rw[hfv.out];exact hfi'.out,bX,bM,?_⟩⟩;rw[hse'.out];exact(ZiL (p:=p) (m:=m) (ss:=ss) ⟨(num:Int),foot,op,dead,dl,ttl,(sesV r.s).told.map arP,bX,bM⟩ hA sZ sZ sZ sZ sZ).pick pZ
     |some s0=>
      obtain⟨l1,l2,hss,hk0⟩:∃l1 l2,ents ss=l1++(keyV (num:Int) foot,s0.ptr)::l2∧True:=by
       obtain⟨_,l1,l2,h2,_⟩:=List.find?_eq_some_iff_append.1 hfi;have h4:=List.find?_some hfi;unfold Ses.is at h4;have h5:=of_decide_eq_true h4;exact⟨ents l1,ents l2,by rw[h2];simp[ents,ent,Ses.key,h5.1,h5.2],trivial⟩
      have hfi':=Hd hfi;clear hfi hk0;rw[hss] at hA;obtain⟨hA,hF⟩:=fZ hA;unfold keyV at hA
      go_wp2_with (first|((with_reducible refine gst ?_);refine wTz hA ?_;clear hF hA;intro w1 hA hF)|((with_reducible refine gbx ?_);refine wCz hA ?_;clear hF hA;intro b1 w1 hA hb1 hF))
      (refine Zaj 6 (fun w'=>∃n,w'=World.drewN _ n) (by kernel_rfl) (by kernel_rfl) ⟨1,rfl⟩ ?_);(simp only[List.take_succ_cons,List.take_zero,List.drop_succ_cons,List.drop_zero]);(repeat(first|go_big_quiet_step (fail)|quiet_step (fail)));(refine wpQuiet_nil ?_);(rintro _ ⟨nq,rfl⟩)
      have hA:=hA.drewN nq;generalize World.drewN _ nq=w1 at *;clear hF;obtain⟨hA,hF⟩:=fZ hA
      refine Zbx rfl rfl rfl (by(try simp only[Act.eval,eV])<;>exact rfl) (by(try simp only[Act.eval,eV])<;>exact rfl) hA (k:=25) sR lawS Tryz.underlying212 hk ?_;intro w1 hB;clear hF hA;have hA:=hB;clear hB;obtain⟨hA,hF⟩:=fZ hA
      go_wp2_with (first|((with_reducible refine gst ?_);refine wTz hA ?_;clear hF hA;intro w1 hA hF)|((with_reducible refine gbx ?_);refine wCz hA ?_;clear hF hA;intro b1 w1 hA hb1 hF))
      refine bodyPost_ret (v:=keyV num foot) (by simp[results,Tryz.results186,go_sem,hF,keyV]) rfl ?_;refine⟨r9,by rw[hkv'.out],hs9.out,hr9,.inr ⟨fun q=> ?_,hA.pick pZ⟩⟩;have q2:=q.2;rw[hfv.out,hfi'.out] at q2;cases q2
   have he2:=Hd (show(sesS r.s).e≠0 from by rw[←hs9.out];exact he)
   have hne:(r9.s.e != 0)=true:=by simpa using he
   clear he
   go_wp2_with (first|((with_reducible refine gst ?_);refine wTz hA ?_;clear hF hA;intro w1 hA hF)|((with_reducible refine gbx ?_);refine wCz hA ?_;clear hF hA;intro b1 w1 hA hb1 hF))
   refine bodyPost_ret (v:=keyV num foot) (by simp[results,Tryz.results186,go_sem,hF,keyV]) rfl ?_;exact⟨r9,by rw[hkv'.out],hs9.out,hr9,.inr ⟨fun q=>he2.out q.1,hA.pick pZ⟩⟩
end Lease
end
section
namespace Path
open Go.RowKit
theorem wpList_make_at {P:Program} {ops:Array Oper} {rest:List Oper} {o:Oper} {a:Act} {Q:Exit→Act→World→Prop} {L0 L:List Part} {w0 w:World} {t e:TypeId} {i:TypeInfo} {z:Value} {kl kc:IntKind} (hg:o.guard=none) (l c:Operand) (hop:o.op=.makeSlice t l c)
 (ht:P.underlying t=some (.slice e)) (hi:P.info? e=some i) (hz:i.zero=some z) (hsize:i.size=1) (hz1:z.cells= #[z]) (n:Nat) (hl:a.eval l=.int kl (n:Int)) (hc:a.eval c=.int kc (n:Int)) (hbytes:i.bytes * n≤281474976710656) (h63:n≤9223372036854775807)
 (h:At L0 w0 L w) (hK:∀b w',At L0 w0 (Part.cells b (List.replicate n z) e::L) w'→w0.heap.size≤b→wpList P ops Q rest (a.put o.dst (.slice (some ⟨b,0,none⟩) n n)) w'):wpList P ops Q (o::rest) a w:=by
 have hr:=run_make_row t e i z ht hi hz hsize hz1 kl kc n hbytes h63 w;have hA:=h.alloc (List.replicate n z) e;rw[show(List.replicate n z).toArray=madeCells #[z] n from by rw[←toList_madeCells_one z n]] at hA;refine Zak hg ?_ (hK _ _ hA h.size);simp[execOp,hop,hl,hc,hr,Result.andThen]
theorem Zdv:∀l:Bs,Lib.countByte l 47 + 1=(Zae l).length
 |[]=>rfl
 |c::r=>by
  have ih:=Zdv r;unfold Lib.countByte at ih ⊢;rw[Za2]
  split
  · rename_i h;subst h;simp;omega
  rename_i h
  rw[List.count_cons];have hl:=ZbO r;simp[h]
  omega
theorem count_any (s:ByteArray) (w:World):Calls Tryz.prog 293 #[.string s,.string ⟨#[47]⟩] w fun e w'=>e=.returned (.int .i64 (Lib.countByte s.data.toList 47))∧w=w':=
 (Tryz.strings_Count_one s 47 w).mono fun _ _ ⟨he,hw⟩=>⟨he,hw.symm⟩
theorem ZnN (r:ByteArray) (w:World):Calls Tryz.prog 294 #[.string r,.string ⟨#[47]⟩] w fun e w'=>e=.returned (.int .i64 (Lib.indexByte r.data.toList 47))∧w=w':=
 (Tryz.strings_Index_one _ _ _).mono fun _ _ ⟨he,hw⟩=>⟨he,hw.symm⟩
def strCells (ws:List ByteArray) (k:Nat):List Value:=ws.map Value.string++List.replicate k (.string ⟨#[]⟩)
theorem Zdr (ws:List ByteArray) (k:Nat) (x:ByteArray):setL (strCells ws (k + 1)) ws.length [.string x]=strCells (ws++[x]) k:=by
 simp[setL,strCells,List.replicate_succ]
theorem Zeo (ws:List ByteArray):flatS ws=ws.map Value.string:=by
 induction ws with
 |nil=>rfl
 |cons x r ih=>simp only[flatS,List.flatMap_cons,List.map_cons] at ih ⊢;rw[ih];rfl
def GenRel (s:ByteArray) (w:World) (g N:Nat) (k:Nat) (u0 u10:Value) (wr:World):Prop:=
 ∃(ws:List ByteArray) (r:ByteArray),u0=.string r∧u10=.int .i64 ws.length∧ws.length + k=N∧r.size≤s.size∧Zae (bl s)=ws.map bl++Zae (bl r)∧At [] w [Part.cells g (strCells ws k) 9] wr
def Zhf (s:ByteArray) (w:World) (e:Ending) (w':World):Prop:=∃(v:Value) (ws:List ByteArray),e=.returned v∧ws.map bl=Zae (bl s)∧At [] w [rowS v ws] w'
theorem ZgP (s:ByteArray) (w:World) (hs:s.size≤2000000):Calls Tryz.prog 266 #[.string s,.string ⟨#[47]⟩,.int .i64 0,.int .i64 (-1)] w (Zhf s w):=by
 have hA:=At.start (w0:=w) (L0:=[]) trivial;have hF:=hA.facts;obtain⟨i0,hi0,hz0,hz1,hz2⟩:=info_parts ZkB;have hN0:=Zdv (bl s);have hle:=Za5 (bl s)
 have hsz:(bl s).length=s.size:=by simp
 have h1:=ZbO (bl s)
 obtain⟨N,hN⟩:∃N,(Zae (bl s)).length=N:=⟨_,rfl⟩
 rw[hN] at hN0 hle h1
 have hc:((Lib.countByte s.data.toList 47:Nat):Int)=(N:Int) - 1:=by
  have:Lib.countByte s.data.toList 47 + 1=N:=hN0
  omega
 have hN':=Hd hN;rw[hsz] at hle;clear hN0 hsz hN;have hcnt:=count_any s w;rw[hc] at hcnt;clear hc
 have hmin:min (N:Int) ((s.size:Int) + 1)=N:=by omega
 go_enter Tryz.func266,Tryz.ntmps266
 go_wp2_with fail
 refine hcnt.mono ?_;clear hcnt;rintro e _ ⟨rfl,rfl⟩
 go_wp2_with (refine wpList_make_at rfl _ _ rfl Tryz.underlying260 hi0 hz0 hz1 rfl N (by(try simp only[Act.eval,eV])<;>exact rfl) (by(try simp only[Act.eval,eV])<;>exact rfl) (by rw[hz2];omega) (by omega) hA ?_;intro g w1 hB hg;clear hF hA;have hA:=hB;clear hB;obtain⟨hA,hF⟩:=fZ hA)
 try go_frame
 go_loopg [0,10] N (GenRel s w g N)
 case atStart=>exact⟨[],s,rfl,rfl,by simp,Nat.le_refl _,rfl,hA⟩
 case round=>
  obtain⟨ws,r,rfl,rfl,hk,hrs,hsp,hB⟩:=hrel;clear hF hA;have hA:=hB;clear hB
  have hrl:(Zae (bl r)).length=gk:=by
   have:=congrArg List.length hsp;rw[hN'.out] at this
   simp at this
   omega
  have hr1:=ZbO (bl r)
  by_cases hlt:ws.length + 1 < N
  · have hi:0≤Lib.indexByte (bl r) 47:=by
     rcases Int.lt_or_le (Lib.indexByte (bl r) 47) 0 with q|q
     · have:=ZiI q
       rw[this] at hrl
       simp at hrl
       omega
     exact q
    obtain⟨i,hi2⟩:=Int.eq_ofNat_of_zero_le hi;obtain⟨hilt,hsr⟩:=ZiH hi2
    obtain⟨m,rfl⟩:∃m,gk=m + 1:=⟨gk - 1,by omega⟩
    have hrz:(bl r).length=r.size:=by simp
    have hil:i + 1≤r.size:=by omega
    have hix:=ZnN r wr;rw[show Lib.indexByte r.data.toList 47=(i:Int) from hi2] at hix;have hst:=Zdr ws m (r.extract 0 i)
    have hsl:(strCells ws (m + 1)).length=ws.length + (m + 1):=by simp[strCells]
    have hsp':=Hd hsp;have hsr':=Hd hsr;have hst':=Hd hst;have hsl':=Hd hsl;clear hsp hsr hi2 hilt hi hrz hrl hst hsl hr1;obtain⟨hA,hF⟩:=fZ hA
    go_wp2_with fail
    refine hix.mono ?_;clear hix;rintro e _ ⟨rfl,rfl⟩
    have hi':decide ((i:Int) < 0)=false:=by simp
    go_wp2_with (refine Zbw (j:=ws.length) rfl rfl rfl (by(try simp only[Act.eval,eV])<;>exact rfl) (vs:=[.string (r.extract 0 i)]) (by exact rfl) hA sR (by kernel_rfl) rfl (by have:=hsl'.out;simp only[List.length_cons,List.length_nil];omega) ?_;intro w1 hB;clear hF hA;have hA:=hB;clear hB;rw[hst'.out] at hA;obtain⟨hA,hF⟩:=fZ hA)
    go_roundg m
    case measure=>omega
    case rel=>
     have e1:bl (r.extract 0 i)=(bl r).take i:=by simp[bl]
     have e2:bl (r.extract (i + 1) r.size)=(bl r).drop (i + 1):=by simp only[bl];simp;rw[List.take_of_length_le (by simp)]
     exact⟨ws++[r.extract 0 i],r.extract (i + 1) r.size,rfl,by simp,by simp;omega,by simp;omega,by rw[hsp'.out,hsr'.out,e2];simp[e1],hA⟩
  obtain rfl:gk=1:=by omega
  have hone:Zae (bl r)=[bl r]:=by
   cases hq:Zae (bl r) with
   |nil=>exact absurd hq (ZbN _)
   |cons a b=>
    rw[hq] at hrl
    simp at hrl
    subst hrl;have:=ZbD (bl r);rw[hq,join_one] at this;rw[this]
  have hst:setL (strCells ws 1) ws.length [.string r]=strCells (ws++[r]) 0:=Zdr ws 0 r
  have hsl:(strCells ws 1).length=ws.length + 1:=by simp[strCells]
  have hsp':=Hd hsp;have hone':=Hd hone;have hst':=Hd hst;have hsl':=Hd hsl;have hk':=Hd hk
  have hge:¬((ws.length:Int) < (N:Int) - 1):=by omega
  clear hsp hone hst hsl hrl hr1;obtain⟨hA,hF⟩:=fZ hA
  go_wp2_with (refine Zbw (j:=ws.length) rfl rfl rfl (by(try simp only[Act.eval,eV])<;>exact rfl) (vs:=[.string r]) (by exact rfl) hA sR (by kernel_rfl) rfl (by have:=hsl'.out;simp only[List.length_cons,List.length_nil];omega) ?_;intro w1 hB;clear hF hA;have hA:=hB;clear hB;rw[hst'.out] at hA;obtain⟨hA,hF⟩:=fZ hA)
  go_ret
  have e:strCells (ws++[r]) 0=flatS (ws++[r]):=by simp[strCells,Zeo]
  rw[e] at hA
  have hl:(ws++[r]).length=N:=by simp;exact hk'.out
  have hA2:=hA.row_shut (n:=(ws++[r]).length) (cap:=N) (size:=1) (xs:=flatS (ws++[r])) sR (by rw[Zeo];simp;have:=hk'.out;omega) (by omega) (by unfold maxLen;omega) (by rw[List.take_of_length_le (by rw[Zeo];simp)]);refine⟨_,ws++[r],?_,by rw[hsp'.out,hone'.out];simp,hA2.pick pR⟩;rw[hl]
  rfl
end Path
end
section
namespace Path
open Go.RowKit
open Go.Lib (compareBytes)
theorem ZjX (s:ByteArray) (w:World) (hs:s.size≤2000000):Calls Tryz.prog 232 #[.string s,.string ⟨#[47]⟩] w (Zhf s w):=by
 go_enter Tryz.func232,Tryz.ntmps232
 go_wp2_with fail
 refine(ZgP s w hs).mono ?_;rintro e w1 ⟨v,ws,rfl,h1,h2⟩
 go_wp2_with fail
 go_ret;exact⟨v,ws,rfl,h1,h2⟩
def Zlg (s:ByteArray) (w:World) (e:Ending) (w':World):Prop:=∃(v:Value) (ws:List ByteArray),e=.returned v∧ws.map bl=ZbC (bl s)∧At [] w [rowS v ws] w'
theorem Zgz (s:ByteArray) (w:World) (hs:s.size≤2000000):Calls Tryz.prog 174 #[.string s] w (Zlg s w):=by
 cases h1:Zad (bl s)
 · have e:ZbC (bl s)=[]:=by simp[ZbC,h1]
   have e':=Hd e;clear e
   go_enter Tryz.func174,Tryz.ntmps174
   go_wp2_with fail
   refine(Zbt w hs h1).mono ?_;rintro e w1 ⟨rfl,hx⟩
   go_wp2_with fail
   go_ret;exact⟨_,[],rfl,by rw[e'.out];rfl,((At.start (w0:=w) (L0:=[]) trivial).ext hx).row_nil 9 1⟩
 have e:ZbC (bl s)=Zae (bl s):=by simp[ZbC,h1]
 have e':=Hd e;clear e
 go_enter Tryz.func174,Tryz.ntmps174
 go_wp2_with fail
 refine(Zbt w hs h1).mono ?_;rintro e w1 ⟨rfl,hx⟩
 go_wp2_with fail
 refine(ZjX s w1 hs).mono ?_;rintro e w2 ⟨v,ws,rfl,h2,h3⟩;have hB:=((At.start (w0:=w) (L0:=[]) trivial).ext hx).call0 h3;clear h3 hx
 go_wp2_with fail
 go_ret;exact⟨_,ws,rfl,by rw[e'.out,h2],by simpa using hB⟩
theorem less_cb:∀(x y:List UInt8),Op.bytesLess x y=decide (compareBytes x y < 0)
 |[],[]=>by simp[Op.bytesLess,compareBytes]
 |[],_::_=>by simp[Op.bytesLess,compareBytes]
 |_::_,[]=>by simp[Op.bytesLess,compareBytes]
 |a::x,b::y=>by
  rw[Op.bytesLess,less_cb x y];simp only[compareBytes]
  rcases Nat.lt_trichotomy a.toNat b.toNat with h|h|h
  · have h1:a < b:=UInt8.lt_iff_toNat_lt.2 h
    simp[h1]
  · have e:a=b:=UInt8.toNat_inj.1 h
    subst e
    have h1:¬a < a:=fun q=>by have:=UInt8.lt_iff_toNat_lt.1 q;omega
    simp[h1]
  have h1:b < a:=UInt8.lt_iff_toNat_lt.2 h
  have h2:¬a < b:=fun q=>by have:=UInt8.lt_iff_toNat_lt.1 q;omega
  have h3:a≠b:=fun e=>by subst e;omega
  simp[h1,h2,h3]
theorem ZnB (s:ByteArray) (w:World):Calls Tryz.prog 267 #[.string s] w fun e w'=>e=.returned (.bool false)∧w=w':=by
 have h:(s.toList==s.toList)=true:=by simp
 go_enter Tryz.func267,Tryz.ntmps267
 go_wp2_with fail
 go_ret;exact⟨by simp,rfl⟩
theorem Zmy (x y:ByteArray) (w:World):Calls Tryz.prog 233 #[.string x,.string y] w fun e w'=>e=.returned (.int .i64 (compareBytes (bl x) (bl y)))∧w=w':=by
 have key:∀c,compareBytes (bl x) (bl y)=c→(c= -1∨c=0∨c=1)→Calls Tryz.prog 233 #[.string x,.string y] w fun e w'=>e=.returned (.int .i64 c)∧w=w':=by
  intro c hc h3
  have h1:Op.bytesLess x.toList y.toList=decide (c < 0):=by rw[Lib.toList_data,Lib.toList_data,less_cb,←hc]
  have h2:Op.bytesLess y.toList x.toList=decide (0 < c):=by rw[Lib.toList_data,Lib.toList_data,less_cb,←hc,ZhY (bl x) (bl y)];simp[bl]
  have h4:(x.toList==y.toList)=decide (c=0):=by
   rw[eqB]
   congr 1
   rw[←hc];exact propext ⟨fun e=>by rw[e];exact ZhW _,fun e=>cb_eq e⟩
  clear hc
  rcases h3 with rfl|rfl|rfl
  all_goals
   simp only[Int.reduceNeg,Int.reduceLT,Int.reduceEq,decide_true,decide_false] at h1 h2 h4
   go_enter Tryz.func233,Tryz.ntmps233
   go_wp2_with (refine(ZnB _ _).mono ?_;rintro e _ ⟨rfl,rfl⟩)
   go_ret;exact⟨rfl,rfl⟩
 exact key _ rfl (cb_three _ _)
def CmpRel (ws us:List ByteArray) (w:World) (k:Nat) (u11:Value) (wr:World):Prop:=
 ∃i:Nat,u11=.int .i64 i∧i + k=ws.length∧i≤us.length∧cmpL (ws.map bl) (us.map bl)=cmpL ((ws.drop i).map bl) ((us.drop i).map bl)∧wr=w
theorem Zg4 {w:World} {ws us:List ByteArray} {g1 g2 c1 c2:Nat} (h1:∀(j:Nat) x,ws[j]? =some x→w.cell? ⟨g1,j,none⟩=some (.string x)) (h2:∀(j:Nat) x,us[j]? =some x→w.cell? ⟨g2,j,none⟩=some (.string x)) (hw:ws.length≤2000000) (hu:us.length≤2000000):
 Calls Tryz.prog 175 #[.slice (some ⟨g1,0,none⟩) ws.length c1,.slice (some ⟨g2,0,none⟩) us.length c2] w fun e w'=>e=.returned (.int .i64 (cmpL (ws.map bl) (us.map bl)))∧w=w':=by
 have h1':=Hd h1;have h2':=Hd h2;clear h1 h2
 go_enter Tryz.func175,Tryz.ntmps175
 go_wp2_with fail
 go_loopg [5,6,7,8,11] ws.length (fun k _ _ _ _ u11 wr=>CmpRel ws us w k u11 wr)
 case atStart=>exact⟨0,rfl,by simp,by simp,rfl,rfl⟩
 case round=>
  obtain⟨i,rfl,hk,hiu,hc,rfl⟩:=hrel
  by_cases hi:i < ws.length
  · have x1:=h1'.out i ws[i] (List.getElem?_eq_getElem hi)
    have hd:ws.drop i=ws[i]::ws.drop (i + 1):=List.drop_eq_getElem_cons hi;rw[hd] at hc
    generalize ws[i]=x at *
    by_cases hj:i < us.length
    · have x2:=h2'.out i us[i] (List.getElem?_eq_getElem hj)
      have hd2:us.drop i=us[i]::us.drop (i + 1):=List.drop_eq_getElem_cons hj;rw[hd2] at hc
      generalize us[i]=y at *
      simp only[List.map_cons] at hc;rw[cmpL] at hc
      obtain⟨cc,hcc⟩:∃c,compareBytes (bl x) (bl y)=c:=⟨_,rfl⟩
      have hcm:=Zmy x y wr;rw[hcc] at hcm hc;have hc':=Hd hc;clear hc hd hd2 hcc
      by_cases h0:cc=0
      · subst h0
        go_wp2_with fail
        refine hcm.mono ?_;clear hcm;rintro e _ ⟨rfl,rfl⟩
        go_wp2_with fail
        go_roundg (gk - 1)
        case measure=>omega
        case rel=>exact⟨i + 1,by simp,by omega,by omega,by rw[hc'.out];simp,rfl⟩
      have h0':(cc==0)=false:=by simpa using h0
      have hc2:=hc'.out;rw[if_neg h0] at hc2;have hc3:=Hd hc2;clear hc2 hc' h0
      go_wp2_with fail
      refine hcm.mono ?_;clear hcm;rintro e _ ⟨rfl,rfl⟩
      go_wp2_with fail
      go_ret;exact⟨by rw[hc3.out];rfl,rfl⟩
    have e2:us.drop i=[]:=List.drop_eq_nil_of_le (by omega);rw[e2] at hc;simp only[List.map_cons,List.map_nil] at hc;rw[cmpL] at hc;have hc':=Hd hc
    have hge:(us.length:Int)≤i:=by omega
    clear hc hd e2
    go_wp2_with fail
    go_ret;exact⟨by rw[hc'.out];rfl,rfl⟩
  have e1:ws.drop i=[]:=List.drop_eq_nil_of_le (by omega);rw[e1] at hc
  obtain rfl:i=ws.length:=by omega
  by_cases hlt:ws.length < us.length
  · obtain⟨y,ys,hy⟩:∃y ys,us.drop ws.length=y::ys:=by
     cases q:us.drop ws.length with
     |nil=>have:=List.drop_eq_nil_iff.1 q;omega
     |cons y ys=>exact⟨y,ys,rfl⟩
    rw[hy] at hc;simp only[List.map_cons,List.map_nil] at hc;rw[cmpL] at hc;have hc':=Hd hc;clear hc e1 hy
    go_wp2_with fail
    go_ret;exact⟨by rw[hc'.out];rfl,rfl⟩
  have e2:us.drop ws.length=[]:=List.drop_eq_nil_of_le (by omega);rw[e2] at hc;simp only[List.map_nil] at hc;rw[cmpL] at hc;have hc':=Hd hc;clear hc e1 e2
  go_wp2_with fail
  go_ret;exact⟨by rw[hc'.out];rfl,rfl⟩
end Path
end
end Go.Proofs.YtkdjkngfnapjcaaGreatDoor
