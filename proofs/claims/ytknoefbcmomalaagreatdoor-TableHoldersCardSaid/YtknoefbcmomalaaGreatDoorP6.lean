import Derived.Test.YtknoefbcmomalaaGreatDoorP5
import Derived.Test.YtknoefbcmomalaaGreatDoorP3
set_option linter.unusedSimpArgs false
set_option linter.unusedVariables false
set_option maxRecDepth 100000
set_option maxHeartbeats 16000000
namespace Go.Proofs.YtknoefbcmomalaaGreatDoor
section
namespace Lease
open Go.RowKit
open Go.Maps (Keyed)
def cnt (ss:List Ses) (f:ByteArray):Nat:=(ss.filter (fun s=>s.foot.toList==f.toList&&s.op)).length
theorem ZmN (ds:List Ses) (s:Ses) (f:ByteArray):cnt (ds++[s]) f=cnt ds f + if s.foot.toList==f.toList&&s.op then 1 else 0:=by
 unfold cnt;rw[List.filter_append];cases h:(s.foot.toList==f.toList&&s.op)<;>simp[List.filter_cons,h]
theorem cnt_le (ds:List Ses) (f:ByteArray):cnt ds f≤ds.length:=List.length_filter_le _ _
theorem ents_snoc (ds:List Ses) (s:Ses):ents ds++[ent s]=ents (ds++[s]):=by simp[ents]
theorem ZmF {ss:List Ses} (h:(ents ss).Pairwise (fun p q=>p.1≠q.1)) {x y:Ses} (hx:x ∈ ss) (hy:y ∈ ss) (e:ent x=ent y):x=y:=by
 have h1:ss.Pairwise (fun p q=>(ent p).1≠(ent q).1):=(List.pairwise_map (f:=ent) (R:=fun p q:Value × Value=>p.1≠q.1)).1 h;obtain⟨i,hi⟩:=List.mem_iff_getElem?.1 hx;obtain⟨j,hj⟩:=List.mem_iff_getElem?.1 hy;by_cases hij:i=j
 · subst hij;rw[hi] at hj;exact Option.some.inj hj
 exfalso
 obtain⟨hi1,hi2⟩:=List.getElem?_eq_some_iff.1 hi;obtain⟨hj1,hj2⟩:=List.getElem?_eq_some_iff.1 hj;have hp:=List.pairwise_iff_getElem.1 h1;rcases Nat.lt_or_gt_of_ne hij with q|q
 · exact hp i j hi1 hj1 q (by rw[hi2,hj2,e])
 exact hp j i hj1 hi1 q (by rw[hi2,hj2,e])
theorem ents_perm {ss ds:List Ses} (h:(ents ss).Pairwise (fun p q=>p.1≠q.1)) (hd:∀s ∈ ds,s ∈ ss) (hp:(ents ss).Perm (ents ds)):ss.Perm ds:=by
 have hn:∀l:List Ses,(ents l).Pairwise (fun p q=>p.1≠q.1)→l.Nodup:=fun l hl=>((List.pairwise_map (f:=ent) (R:=fun p q:Value × Value=>p.1≠q.1)).1 hl).imp (fun h e=>h (by rw[e]));have hd2:(ents ds).Pairwise (fun p q=>p.1≠q.1):=(hp.pairwise_iff (fun h=>Ne.symm h)).1 h;refine(List.perm_ext_iff_of_nodup (hn _ h) (hn _ hd2)).2 (fun x=>⟨fun hx=> ?_,hd x⟩);have:ent x ∈ ents ds:=hp.mem_iff.1 (List.mem_map.2 ⟨x,hx,rfl⟩);obtain⟨y,hy,he⟩:=List.mem_map.1 this;rw[←ZmF h (hd y hy) hx he];exact hy
theorem cnt_perm {ss ds:List Ses} (h:ss.Perm ds) (f:ByteArray):cnt ss f=cnt ds f:=(h.filter _).length_eq
def CntRel (p m r:Nat) (ss:List Ses) (f:ByteArray) (w:World) (k:Nat) (v:Value) (wr:World):Prop:=
 ∃ds:List Ses,At [BookP p m ss] w [Part.iter Tryz.prog 25 r m (ents ss) (ents ds),headC p m,restP ss] wr∧(∀s ∈ ds,s ∈ ss)∧v=.int .i64 (cnt ds f)∧ds.length + k=ss.length
theorem ZfC {w:World} {p m:Nat} {ss:List Ses} (h:Sep [BookP p m ss] w) (f:ByteArray) (hl:ss.length≤1000000000):
 Calls Tryz.prog 130 #[.pointer (some ⟨p,0,none⟩),.string f] w fun e w'=>e=.returned (.int .i64 (cnt ss f))∧At [BookP p m ss] w [BookP p m ss] w':=by
 have hA:=begin0 h;obtain⟨hA,hF⟩:=fY hA;clear h;go_enter Tryz.func130,Tryz.ntmps130
 go_wp2_with (refine ZaQ rfl rfl rfl hA sR Tryz.underlying147 ?_;intro r w1 hB hr;replace hA:=hB;clear hF hB;obtain⟨hA,hF⟩:=fY hA)
 go_frame;go_loopg [5] ss.length (CntRel p m r ss f w)
 case atStart=>exact⟨[],hA,nofun,by simp[cnt],by simp⟩
 case round=>
  obtain⟨ds,hA2,hds,rfl,hk⟩:=hrel;clear hF hA;have hA:=hA2;clear hA2;obtain⟨hA,hF⟩:=fY hA;go_step
  go_step
  refine Za3 rfl rfl rfl hA sR (fun hp=> ?_) (fun q w1 hq hd hB=> ?_)
  · have hI:Zax Tryz.prog 25 wr r m (ents ss) (ents ds):=hA.get (A:=Part.iter _ _ r m (ents ss) (ents ds)) sR;have hc:=Hd (cnt_perm (ents_perm hI.keys hds hp) f);have hM:=At.ranged hA sR;go_wp2_with fail;go_ret;exact⟨by rw[hc.out];rfl,close0 (m:=m) (ss:=ss) hM sR sR sR⟩
  obtain⟨s,hs,rfl⟩:=List.mem_map.1 hq;have hI:Zax Tryz.prog 25 w1 r m (ents ss) (ents ds++[ent s]):=hB.get (A:=Part.iter _ _ r m (ents ss) (ents ds++[ent s])) sR;have hen:=hI.entry;have hlen:(ds++[s]).length≤ss.length:=by have:=hI.len;simpa [ents] using this
  have hsub:∀x ∈ ds++[s],x ∈ ss:=fun x hx=>by
   rcases List.mem_append.1 hx with hx|hx
   · exact hds x hx
   have:x=s:=by simpa using hx
   rw[this];exact hs
  rw[ents_snoc] at hB;obtain⟨l1,l2,e⟩:=List.append_of_mem hs;have he:=Hd e;clear hF hA;have hA:=out' e hB sR;have hk':=Hd hk;have hsub':=Hd hsub;have hsn:=Hd (ZmN ds s f);have hcl:=cnt_le ds f;simp only[List.length_append,List.length_cons,List.length_nil,Nat.zero_add] at hlen;clear hI e hB hk hsub hds hq hd;simp only[Ses.cells] at hA;obtain⟨hA,hF⟩:=fY hA;simp only[ent,Ses.key,keyV,Ses.ptr] at hen;cases hfe:(s.foot.toList==f.toList);all_goals cases hop:s.op
  all_goals
   go_wp2_with (first|((with_reducible refine gst ?_);refine wTy hA ?_;clear hF hA;intro w1 hA hF)|((with_reducible refine gal ?_);refine wGy 25 [.int .u64 0,.string .empty] hA ?_;clear hF hA;intro b1 w1 hA hb1 hF))
   go_roundg (gk - 1);case measure=>have:=hk'.out;omega
   case rel=>exact⟨ds++[s],(in' he.out hA sZ sR sR).only3 sR sR sR,hsub'.out,by rw[hsn.out];simp[hfe,hop],by have:=hk'.out;simp;omega⟩
end Lease
end
section
namespace Lease
open Go.RowKit
open Go.Maps (Keyed)
def Ses.opened (s:Ses) (ttl time:Int):Ses:={s with op:=true,dead:=false,dl:=endI time ttl,ttl:=cutI ttl}
def Ses.ended (s:Ses):Ses:={s with op:=false,dead:=true,dl:=0,ttl:=0}
def openE (s:Ses) (c:Nat):Int:=if s.dead then 50 else if s.op then 15 else if 32≤c then 14 else 0
theorem ZnP {w:World} {p m:Nat} {ss:List Ses} (h:Sep [BookP p m ss] w) {n:Int} {f:ByteArray} (h0:0≤n) (h1:n < big64) (hf:f.size≤maxLen) (hl:ss.length≤1000000000) (ttl time:Int) (he:openE (look ss n f) (cnt ss f)≠0):
 Calls Tryz.prog 95 #[.pointer (some ⟨p,0,none⟩),.agg #[.int .u64 n,.string f],.int .i64 ttl,.int .i64 time] w fun e w'=>e=.returned (.int .i64 (openE (look ss n f) (cnt ss f)))∧At [BookP p m ss] w [BookP p m ss] w':=by
 have hA:=At.start h;have hF:=hA.facts;clear h;cases hd:(look ss n f).dead
 · cases ho:(look ss n f).op
   · have hc:32≤cnt ss f:=by
      simp[openE,hd,ho] at he;omega
     have hc':(32:Int)≤(cnt ss f:Int):=by omega
     have e1:openE (look ss n f) (cnt ss f)=14:=by simp[openE,hd,ho,hc]
     rw[e1];go_enter Tryz.func95,Tryz.ntmps95
     go_wp2_with ((with_reducible refine gbx ?_);refine wCy hA ?_;clear hF hA;intro b1 w1 hA hb1 hF)
     refine(ZaN (hA.sep1 sR) h0 h1 hf).mono ?_;unfold Ses.info;rw[hd,ho];rintro e w1 ⟨rfl,hT⟩;replace hA:=hA.call1 sR hT;clear hF hT;obtain⟨hA,hF⟩:=fY hA
     go_wp2_with (first|((with_reducible refine gst ?_);refine wTy hA ?_;clear hF hA;intro w1 hA hF)|((with_reducible refine gal ?_);refine g8 hA ?_;clear hF hA;intro b1 w1 hA hb1 hF))
     refine(ZfC (hA.sep1 sR) f hl).mono ?_;rintro e w1 ⟨rfl,hT⟩;replace hA:=hA.call1 sR hT;clear hF hT;obtain⟨hA,hF⟩:=fY hA;go_wp2_with fail;go_ret;exact⟨rfl,hA.only1 sR⟩
   have e1:openE (look ss n f) (cnt ss f)=15:=by simp[openE,hd,ho]
   rw[e1];go_enter Tryz.func95,Tryz.ntmps95
   go_wp2_with ((with_reducible refine gbx ?_);refine wCy hA ?_;clear hF hA;intro b1 w1 hA hb1 hF)
   refine(ZaN (hA.sep1 sR) h0 h1 hf).mono ?_;unfold Ses.info;rw[hd,ho];rintro e w1 ⟨rfl,hT⟩;replace hA:=hA.call1 sR hT;clear hF hT;obtain⟨hA,hF⟩:=fY hA
   go_wp2_with (first|((with_reducible refine gst ?_);refine wTy hA ?_;clear hF hA;intro w1 hA hF)|((with_reducible refine gal ?_);refine g8 hA ?_;clear hF hA;intro b1 w1 hA hb1 hF))
   go_ret;exact⟨rfl,hA.only1 sR⟩
 have e1:openE (look ss n f) (cnt ss f)=50:=by simp[openE,hd]
 rw[e1];go_enter Tryz.func95,Tryz.ntmps95
 go_wp2_with ((with_reducible refine gbx ?_);refine wCy hA ?_;clear hF hA;intro b1 w1 hA hb1 hF)
 refine(ZaN (hA.sep1 sR) h0 h1 hf).mono ?_;unfold Ses.info;rw[hd];rintro e w1 ⟨rfl,hT⟩;replace hA:=hA.call1 sR hT;clear hF hT;obtain⟨hA,hF⟩:=fY hA
 go_wp2_with (first|((with_reducible refine gst ?_);refine wTy hA ?_;clear hF hA;intro w1 hA hF)|((with_reducible refine gal ?_);refine g8 hA ?_;clear hF hA;intro b1 w1 hA hb1 hF))
 go_ret;exact⟨rfl,hA.only1 sR⟩
def Zm3 (p m:Nat) (ss:List Ses) (n:Int) (f:ByteArray) (ttl time:Int) (w:World) (e:Ending) (w':World):Prop:=
 ∃b t,e=.returned (.int .i64 0)∧At [BookP p m ss] w [BookP p m (ss++[(fresh n f b t).opened ttl time])] w'
theorem Zl6 {w:World} {p m:Nat} {ss:List Ses} (h:Sep [BookP p m ss] w) {n:Int} {f:ByteArray} (h0:0≤n) (h1:n < big64) (hf:f.size≤maxLen) (hl:ss.length≤1000000000) (ttl time:Int) (hn:find ss n f=none) (hc:cnt ss f < 32):
 Calls Tryz.prog 95 #[.pointer (some ⟨p,0,none⟩),.agg #[.int .u64 n,.string f],.int .i64 ttl,.int .i64 time] w (Zm3 p m ss n f ttl time w):=by
 have hA:=At.start h;have hF:=hA.facts;clear h;have hk:look ss n f=fresh n f 0 0:=by unfold look;rw[hn];rfl
 have hd:(look ss n f).dead=false:=by rw[hk];rfl
 have ho:(look ss n f).op=false:=by rw[hk];rfl
 have hc':(cnt ss f:Int) < 32:=by omega
 clear hk;go_enter Tryz.func95,Tryz.ntmps95
 go_wp2_with ((with_reducible refine gbx ?_);refine wCy hA ?_;clear hF hA;intro b1 w1 hA hb1 hF)
 refine(ZaN (hA.sep1 sR) h0 h1 hf).mono ?_;unfold Ses.info;rw[hd,ho];rintro e w1 ⟨rfl,hT⟩;replace hA:=hA.call1 sR hT;clear hF hT;obtain⟨hA,hF⟩:=fY hA
 go_wp2_with (first|((with_reducible refine gst ?_);refine wTy hA ?_;clear hF hA;intro w1 hA hF)|((with_reducible refine gal ?_);refine g8 hA ?_;clear hF hA;intro b1 w1 hA hb1 hF))
 refine(ZfC (hA.sep1 sR) f hl).mono ?_;rintro e w1 ⟨rfl,hT⟩;replace hA:=hA.call1 sR hT;clear hF hT;obtain⟨hA,hF⟩:=fY hA;go_wp2_with fail;refine(Zi1 (hA.sep1 sR) h0 h1 hf hn).mono ?_;rintro e w1 ⟨b,t,rfl,hT⟩;have hB:=hA.call1 sR hT;clear hF hA hT;have hA:=open1 (l1:=ss) (l2:=[]) (s:=fresh n f b t) hB sZ;clear hB;simp only[Ses.cells,fresh] at hA;obtain⟨hA,hF⟩:=fY hA;go_wp2_with fail;refine(Zdl _ _ _).mono ?_;rintro e _ ⟨rfl,rfl⟩;go_wp2_with fail;refine(Zeg _ _).mono ?_;rintro e _ ⟨rfl,rfl⟩
 go_wp2_with ((with_reducible refine gst ?_);refine wTy hA ?_;clear hF hA;intro w1 hA hF)
 go_ret;refine⟨b,t,rfl,?_⟩;have e2:ents (ss++[fresh n f b t])=ents (ss++[(fresh n f b t).opened ttl time]):=by simp[ents,ent,Ses.key,Ses.ptr,fresh,Ses.opened]
 simp only[fresh] at e2;rw[e2] at hA;exact ZcB (m:=m) (l1:=ss) (l2:=[]) (s:=(fresh n f b t).opened ttl time) hA sR sZ sZ sZ sZ
theorem Zl5 {w:World} {p m:Nat} {l1 l2:List Ses} {s:Ses} (h:Sep [BookP p m (l1++s::l2)] w) {n:Int} {f:ByteArray} (h0:0≤n) (h1:n < big64) (hf:f.size≤maxLen) (hl:(l1++s::l2).length≤1000000000) (ttl time:Int) (hn:find (l1++s::l2) n f=some s) (hc:cnt (l1++s::l2) f < 32) (hsd:s.dead=false) (hso:s.op=false):
 Calls Tryz.prog 95 #[.pointer (some ⟨p,0,none⟩),.agg #[.int .u64 n,.string f],.int .i64 ttl,.int .i64 time] w fun e w'=>e=.returned (.int .i64 0)∧At [BookP p m (l1++s::l2)] w [BookP p m (l1++s.opened ttl time::l2)] w':=by
 have hA:=At.start h;have hF:=hA.facts;clear h;have hk:look (l1++s::l2) n f=s:=by unfold look;rw[hn];rfl
 have hd:(look (l1++s::l2) n f).dead=false:=by rw[hk];exact hsd
 have ho:(look (l1++s::l2) n f).op=false:=by rw[hk];exact hso
 have hc':(cnt (l1++s::l2) f:Int) < 32:=by omega
 clear hk hsd hso;go_enter Tryz.func95,Tryz.ntmps95
 go_wp2_with ((with_reducible refine gbx ?_);refine wCy hA ?_;clear hF hA;intro b1 w1 hA hb1 hF)
 refine(ZaN (hA.sep1 sR) h0 h1 hf).mono ?_;unfold Ses.info;rw[hd,ho];rintro e w1 ⟨rfl,hT⟩;replace hA:=hA.call1 sR hT;clear hF hT;obtain⟨hA,hF⟩:=fY hA
 go_wp2_with (first|((with_reducible refine gst ?_);refine wTy hA ?_;clear hF hA;intro w1 hA hF)|((with_reducible refine gal ?_);refine g8 hA ?_;clear hF hA;intro b1 w1 hA hb1 hF))
 refine(ZfC (hA.sep1 sR) f hl).mono ?_;rintro e w1 ⟨rfl,hT⟩;replace hA:=hA.call1 sR hT;clear hF hT;obtain⟨hA,hF⟩:=fY hA;go_wp2_with fail;refine(ZeN (hA.sep1 sR) h0 h1 hf hn).mono ?_;rintro e w1 ⟨rfl,hT⟩;replace hA:=hA.call1 sR hT;clear hF hT;obtain⟨hA,hF⟩:=fY hA;have hA:=open1 hA sR;simp only[Ses.cells] at hA;obtain⟨hA,hF⟩:=fY hA;go_wp2_with fail;refine(Zdl _ _ _).mono ?_;rintro e _ ⟨rfl,rfl⟩;go_wp2_with fail;refine(Zeg _ _).mono ?_;rintro e _ ⟨rfl,rfl⟩
 go_wp2_with ((with_reducible refine gst ?_);refine wTy hA ?_;clear hF hA;intro w1 hA hF)
 go_ret;refine⟨rfl,?_⟩;have e2:ents (l1++s::l2)=ents (l1++s.opened ttl time::l2):=by simp[ents,ent,Ses.key,Ses.ptr,Ses.opened]
 rw[e2] at hA;exact ZcB (m:=m) (s:=s.opened ttl time) hA sR sZ sZ sZ sZ
end Lease
end
section
namespace Lease
open Go.RowKit
open Go.Maps (Keyed)
theorem Znh {w:World} {p m:Nat} {ss:List Ses} (h:Sep [BookP p m ss] w) {n:Int} {f:ByteArray} (h0:0≤n) (h1:n < big64) (hf:f.size≤maxLen) (ho:(look ss n f).op=false):
 Calls Tryz.prog 94 #[.pointer (some ⟨p,0,none⟩),.agg #[.int .u64 n,.string f]] w fun e w'=>e=.returned (.int .i64 50)∧At [BookP p m ss] w [BookP p m ss] w':=by
 have hA:=At.start h;have hF:=hA.facts;clear h;have hfd:∀a b c d e w,(Instr.field 137 (.agg #[a,b,c,d,e]) 0).run Tryz.prog w=.ok a w:=fun _ _ _ _ _ _=>by kernel_rfl
 go_enter Tryz.func94,Tryz.ntmps94
 go_wp2_with ((with_reducible refine gbx ?_);refine wCy hA ?_;clear hF hA;intro b1 w1 hA hb1 hF)
 refine(ZaN (hA.sep1 sR) h0 h1 hf).mono ?_;unfold Ses.info;rw[ho];rintro e w1 ⟨rfl,hT⟩;replace hA:=hA.call1 sR hT;clear hF hT;obtain⟨hA,hF⟩:=fY hA;go_wp2_with fail;go_ret;exact⟨rfl,hA.only1 sR⟩
theorem ZkO {w:World} {p m:Nat} {l1 l2:List Ses} {s:Ses} (h:Sep [BookP p m (l1++s::l2)] w) {n:Int} {f:ByteArray} (h0:0≤n) (h1:n < big64) (hf:f.size≤maxLen) (hn:find (l1++s::l2) n f=some s) (hso:s.op=true):
 Calls Tryz.prog 94 #[.pointer (some ⟨p,0,none⟩),.agg #[.int .u64 n,.string f]] w fun e w'=>e=.returned (.int .i64 0)∧At [BookP p m (l1++s::l2)] w [BookP p m (l1++s.ended::l2)] w':=by
 obtain⟨kl,hk⟩:=keyS h0 h1 hf;have hmem:=Hd (find_mem hn);have hA:=At.start h;have hF:=hA.facts;clear h;have hk':look (l1++s::l2) n f=s:=by unfold look;rw[hn];rfl
 have ho:(look (l1++s::l2) n f).op=true:=by rw[hk'];exact hso
 clear hk' hso;unfold keyV at *
 have hfd:∀a b c d e w,(Instr.field 137 (.agg #[a,b,c,d,e]) 0).run Tryz.prog w=.ok a w:=fun _ _ _ _ _ _=>by kernel_rfl
 go_enter Tryz.func94,Tryz.ntmps94
 go_wp2_with ((with_reducible refine gbx ?_);refine wCy hA ?_;clear hF hA;intro b1 w1 hA hb1 hF)
 refine(ZaN (hA.sep1 sR) h0 h1 hf).mono ?_;unfold Ses.info;rw[ho];rintro e w1 ⟨rfl,hT⟩;replace hA:=hA.call1 sR hT;clear hF hT;obtain⟨hA,hF⟩:=fY hA;go_wp2_with fail;have hA:=open1 hA sR;simp only[Ses.cells] at hA;obtain⟨hA,hF⟩:=fY hA
 have hl:∀q,(Instr.lookup 147 (.map (some m)) (.agg #[.int .u64 n,.string f]) false).run Tryz.prog (w1.drewN q)=.ok s.ptr (w1.drewN q):=fun q=>
  MapAt.look_some (w:=w1.drewN q) ((hA.drewN q).get (A:=mapC m (ents (l1++s::l2))) sR) lawS Tryz.underlying147 hk hmem.out false
 unfold Ses.ptr at hl;(refine Zar 9 (fun w'=>∃n,w'=World.drewN _ n) (by kernel_rfl) (by kernel_rfl) ⟨1,rfl⟩ ?_);(simp only[List.take_succ_cons,List.take_zero,List.drop_succ_cons,List.drop_zero]);(repeat(first|go_big_quiet_step (fail)|quiet_step (fail)));(refine wpQuiet_nil ?_);(rintro _ ⟨nq,rfl⟩)
 have hA:=hA.drewN nq;generalize World.drewN _ nq=w1 at *;clear hF;obtain⟨hA,hF⟩:=fY hA
 go_wp2_with ((with_reducible refine gst ?_);refine wTy hA ?_;clear hF hA;intro w1 hA hF)
 go_ret;refine⟨rfl,?_⟩;have e2:ents (l1++s::l2)=ents (l1++s.ended::l2):=by simp[ents,ent,Ses.key,Ses.ptr,Ses.ended]
 rw[e2] at hA;exact ZcB (m:=m) (s:=s.ended) hA sR sZ sZ sZ sZ
theorem ZgH {w:World} {p m:Nat} {ss:List Ses} (h:Sep [BookP p m ss] w) {n:Int} {f:ByteArray} (h0:0≤n) (h1:n < big64) (hf:f.size≤maxLen) (time:Int) (ho:(look ss n f).op=true) (ht:time < (look ss n f).dl):
 Calls Tryz.prog 55 #[.pointer (some ⟨p,0,none⟩),.agg #[.int .u64 n,.string f],.int .i64 time] w fun e w'=>e=.returned (.int .i64 54)∧At [BookP p m ss] w [BookP p m ss] w':=by
 have hA:=At.start h;have hF:=hA.facts;clear h;go_enter Tryz.func55,Tryz.ntmps55
 go_wp2_with ((with_reducible refine gbx ?_);refine wCy hA ?_;clear hF hA;intro b1 w1 hA hb1 hF)
 refine(ZaN (hA.sep1 sR) h0 h1 hf).mono ?_;unfold Ses.info;rw[ho];rintro e w1 ⟨rfl,hT⟩;replace hA:=hA.call1 sR hT;clear hF hT;obtain⟨hA,hF⟩:=fY hA
 go_wp2_with (first|((with_reducible refine gst ?_);refine wTy hA ?_;clear hF hA;intro w1 hA hF)|((with_reducible refine gal ?_);refine g8 hA ?_;clear hF hA;intro b1 w1 hA hb1 hF))
 go_ret;exact⟨rfl,hA.only1 sR⟩
theorem ZkK {w:World} {p m:Nat} {ss:List Ses} (h:Sep [BookP p m ss] w) {n:Int} {f:ByteArray} (h0:0≤n) (h1:n < big64) (hf:f.size≤maxLen) (time:Int) (ho:(look ss n f).op=false):
 Calls Tryz.prog 55 #[.pointer (some ⟨p,0,none⟩),.agg #[.int .u64 n,.string f],.int .i64 time] w fun e w'=>e=.returned (.int .i64 50)∧At [BookP p m ss] w [BookP p m ss] w':=by
 have hA:=At.start h;have hF:=hA.facts;clear h;go_enter Tryz.func55,Tryz.ntmps55
 go_wp2_with ((with_reducible refine gbx ?_);refine wCy hA ?_;clear hF hA;intro b1 w1 hA hb1 hF)
 refine(ZaN (hA.sep1 sR) h0 h1 hf).mono ?_;unfold Ses.info;rw[ho];rintro e w1 ⟨rfl,hT⟩;replace hA:=hA.call1 sR hT;clear hF hT;obtain⟨hA,hF⟩:=fY hA
 go_wp2_with (first|((with_reducible refine gst ?_);refine wTy hA ?_;clear hF hA;intro w1 hA hF)|((with_reducible refine gal ?_);refine g8 hA ?_;clear hF hA;intro b1 w1 hA hb1 hF))
 refine(Znh (hA.sep1 sR) h0 h1 hf ho).mono ?_;rintro e w1 ⟨rfl,hT⟩;replace hA:=hA.call1 sR hT;clear hF hT;obtain⟨hA,hF⟩:=fY hA;go_wp2_with fail;go_ret;exact⟨rfl,hA.only1 sR⟩
theorem Zi9 {w:World} {p m:Nat} {l1 l2:List Ses} {s:Ses} (h:Sep [BookP p m (l1++s::l2)] w) {n:Int} {f:ByteArray} (h0:0≤n) (h1:n < big64) (hf:f.size≤maxLen) (time:Int) (hn:find (l1++s::l2) n f=some s) (hso:s.op=true) (ht:s.dl≤time):
 Calls Tryz.prog 55 #[.pointer (some ⟨p,0,none⟩),.agg #[.int .u64 n,.string f],.int .i64 time] w fun e w'=>e=.returned (.int .i64 0)∧At [BookP p m (l1++s::l2)] w [BookP p m (l1++s.ended::l2)] w':=by
 have hA:=At.start h;have hF:=hA.facts;clear h;have hk':look (l1++s::l2) n f=s:=by unfold look;rw[hn];rfl
 have ho:(look (l1++s::l2) n f).op=true:=by rw[hk'];exact hso
 have ht':decide (time < (look (l1++s::l2) n f).dl)=false:=by rw[hk'];simp;omega
 clear hk';go_enter Tryz.func55,Tryz.ntmps55
 go_wp2_with ((with_reducible refine gbx ?_);refine wCy hA ?_;clear hF hA;intro b1 w1 hA hb1 hF)
 refine(ZaN (hA.sep1 sR) h0 h1 hf).mono ?_;unfold Ses.info;rw[ho];rintro e w1 ⟨rfl,hT⟩;replace hA:=hA.call1 sR hT;clear hF hT;obtain⟨hA,hF⟩:=fY hA
 go_wp2_with (first|((with_reducible refine gst ?_);refine wTy hA ?_;clear hF hA;intro w1 hA hF)|((with_reducible refine gal ?_);refine g8 hA ?_;clear hF hA;intro b1 w1 hA hb1 hF))
 refine(ZkO (hA.sep1 sR) h0 h1 hf hn hso).mono ?_;rintro e w1 ⟨rfl,hT⟩;replace hA:=hA.call1 sR hT;clear hF hT;obtain⟨hA,hF⟩:=fY hA;go_wp2_with fail;go_ret;exact⟨rfl,hA.only1 sR⟩
end Lease
end
section
namespace Lease
open Go.RowKit
open Go.Maps (Keyed)
def Ses.kept (s:Ses) (time:Int):Ses:={s with dl:=if s.dl < endI time s.ttl then endI time s.ttl else s.dl}
theorem Zn2 {w:World} {p m:Nat} {ss:List Ses} (h:Sep [BookP p m ss] w) {n:Int} {f:ByteArray} (h0:0≤n) (h1:n < big64) (hf:f.size≤maxLen) (time:Int) (ho:(look ss n f).op=false):
 Calls Tryz.prog 96 #[.pointer (some ⟨p,0,none⟩),.agg #[.int .u64 n,.string f],.int .i64 time] w fun e w'=>e=.returned (.int .i64 50)∧At [BookP p m ss] w [BookP p m ss] w':=by
 have hA:=At.start h;have hF:=hA.facts;clear h;have hfd:∀a b c d e w,(Instr.field 137 (.agg #[a,b,c,d,e]) 0).run Tryz.prog w=.ok a w:=fun _ _ _ _ _ _=>by kernel_rfl
 go_enter Tryz.func96,Tryz.ntmps96
 go_wp2_with ((with_reducible refine gbx ?_);refine wCy hA ?_;clear hF hA;intro b1 w1 hA hb1 hF)
 refine(ZaN (hA.sep1 sR) h0 h1 hf).mono ?_;unfold Ses.info;rw[ho];rintro e w1 ⟨rfl,hT⟩;replace hA:=hA.call1 sR hT;clear hF hT;obtain⟨hA,hF⟩:=fY hA;go_wp2_with fail;go_ret;exact⟨rfl,hA.only1 sR⟩
theorem Zmn {w:World} {p m:Nat} {l1 l2:List Ses} {s:Ses} (h:Sep [BookP p m (l1++s::l2)] w) {n:Int} {f:ByteArray} (h0:0≤n) (h1:n < big64) (hf:f.size≤maxLen) (time:Int) (hn:find (l1++s::l2) n f=some s) (hso:s.op=true):
 Calls Tryz.prog 96 #[.pointer (some ⟨p,0,none⟩),.agg #[.int .u64 n,.string f],.int .i64 time] w fun e w'=>e=.returned (.int .i64 0)∧At [BookP p m (l1++s::l2)] w [BookP p m (l1++s.kept time::l2)] w':=by
 obtain⟨kl,hk⟩:=keyS h0 h1 hf;have hmem:=Hd (find_mem hn);have hA:=At.start h;have hF:=hA.facts;clear h;have hk':look (l1++s::l2) n f=s:=by unfold look;rw[hn];rfl
 have ho:(look (l1++s::l2) n f).op=true:=by rw[hk'];exact hso
 clear hk' hso;unfold keyV at *
 have hfd:∀a b c d e w,(Instr.field 137 (.agg #[a,b,c,d,e]) 0).run Tryz.prog w=.ok a w:=fun _ _ _ _ _ _=>by kernel_rfl
 go_enter Tryz.func96,Tryz.ntmps96
 go_wp2_with ((with_reducible refine gbx ?_);refine wCy hA ?_;clear hF hA;intro b1 w1 hA hb1 hF)
 refine(ZaN (hA.sep1 sR) h0 h1 hf).mono ?_;unfold Ses.info;rw[ho];rintro e w1 ⟨rfl,hT⟩;replace hA:=hA.call1 sR hT;clear hF hT;obtain⟨hA,hF⟩:=fY hA;go_wp2_with fail;have hA:=open1 hA sR;simp only[Ses.cells] at hA;obtain⟨hA,hF⟩:=fY hA
 have hl:∀q,(Instr.lookup 147 (.map (some m)) (.agg #[.int .u64 n,.string f]) false).run Tryz.prog (w1.drewN q)=.ok s.ptr (w1.drewN q):=fun q=>
  MapAt.look_some (w:=w1.drewN q) ((hA.drewN q).get (A:=mapC m (ents (l1++s::l2))) sR) lawS Tryz.underlying147 hk hmem.out false
 unfold Ses.ptr at hl;go_quiet (fail)
 have hA:=hA.drewN nq;generalize World.drewN _ nq=w1 at *;clear hF;obtain⟨hA,hF⟩:=fY hA
 go_wp2_with fail;have hd:s.dl < endI time s.ttl∨¬s.dl < endI time s.ttl:=by omega
 have e2:ents (l1++s::l2)=ents (l1++s.kept time::l2):=by simp[ents,ent,Ses.key,Ses.ptr,Ses.kept]
 have e2':=Hd e2;clear e2;rcases hd with hd|hd
 · have hkc:s.kept time={s with dl:=endI time s.ttl}:=by unfold Ses.kept;rw[if_pos hd]
   have hkc':=Hd hkc;clear hkc;(refine Zar 14 (fun w'=>∃n,w'=World.drewN _ n) (by kernel_rfl) (by kernel_rfl) ⟨1,rfl⟩ ?_);(simp only[List.take_succ_cons,List.take_zero,List.drop_succ_cons,List.drop_zero]);(repeat(first|go_big_quiet_step (exact(Zdl _ _ _).mono fun _ _ ⟨he,hw⟩=>⟨he,_,hw.symm⟩)|quiet_step (exact(Zdl _ _ _).mono fun _ _ ⟨he,hw⟩=>⟨he,_,hw.symm⟩)));(refine wpQuiet_nil ?_);(rintro _ ⟨nq,rfl⟩)
   have hA:=hA.drewN nq;generalize World.drewN _ nq=w1 at *;clear hF;obtain⟨hA,hF⟩:=fY hA
   go_wp2_with ((with_reducible refine gst ?_);refine wTy hA ?_;clear hF hA;intro w1 hA hF)
   go_ret;refine⟨rfl,?_⟩;rw[e2'.out,hkc'.out] at hA;rw[hkc'.out];exact ZcB (m:=m) (s:={s with dl:=endI time s.ttl}) hA sR sZ sZ sZ sZ
 have hkc:s.kept time=s:=by unfold Ses.kept;rw[if_neg hd]
 have hd':endI time s.ttl≤s.dl:=by omega
 have hkc':=Hd hkc;clear hkc;(refine Zar 14 (fun w'=>∃n,w'=World.drewN _ n) (by kernel_rfl) (by kernel_rfl) ⟨1,rfl⟩ ?_);(simp only[List.take_succ_cons,List.take_zero,List.drop_succ_cons,List.drop_zero]);(repeat(first|go_big_quiet_step (exact(Zdl _ _ _).mono fun _ _ ⟨he,hw⟩=>⟨he,_,hw.symm⟩)|quiet_step (exact(Zdl _ _ _).mono fun _ _ ⟨he,hw⟩=>⟨he,_,hw.symm⟩)));(refine wpQuiet_nil ?_);(rintro _ ⟨nq,rfl⟩)
 have hA:=hA.drewN nq;generalize World.drewN _ nq=w1 at *;clear hF;obtain⟨hA,hF⟩:=fY hA
 go_wp2_with ((with_reducible refine gst ?_);refine wTy hA ?_;clear hF hA;intro w1 hA hF)
 go_ret;refine⟨rfl,?_⟩;rw[e2'.out,hkc'.out] at hA;rw[hkc'.out];exact ZcB (m:=m) (s:=s) hA sR sZ sZ sZ sZ
end Lease
end
section
namespace Lease
open Go.RowKit
def toldV (o:Option Ans):Value:=match o with
 |some a=>.tuple #[.agg #[.int .i64 a.e,.int .u64 a.n,.bool a.g],.bool true]
 |none=>.tuple #[.agg #[.int .i64 0,.int .u64 0,.bool false],.bool false]
theorem Zlt {w:World} {p m:Nat} {ss:List Ses} (h:Sep [BookP p m ss] w) {n r:Int} {f:ByteArray} (h0:0≤n) (h1:n < big64) (hf:f.size≤maxLen) (r0:0≤r) (r1:r < big64):
 Calls Tryz.prog 56 #[.pointer (some ⟨p,0,none⟩),.agg #[.int .u64 n,.string f],.int .u64 r] w fun e w'=>e=.returned (toldV (said (look ss n f).told r))∧At [BookP p m ss] w [BookP p m ss] w':=by
 cases hn:find ss n f with
 |none=>
  have hlk:look ss n f=fresh n f 0 0:=by unfold look;rw[hn];rfl
  rw[hlk,show said (fresh n f 0 0).told r=none from rfl];exact Zf5 h h0 h1 hf hn
 |some s=>
  have hlk:look ss n f=s:=by unfold look;rw[hn];rfl
  rw[hlk]
  cases hr:said s.told r with
  |none=>exact Zfi h h0 h1 hf hn r0 r1 hr
  |some a=>exact ZhR h h0 h1 hf hn r0 r1 hr
end Lease
end
section
namespace Lease
open Go.RowKit
open Go.Maps (Keyed)
theorem Zmj {w:World} {p m:Nat} {ss:List Ses} (h:Sep [BookP p m ss] w) {n:Int} {f:ByteArray} (h0:0≤n) (h1:n < big64) (hf:f.size≤maxLen) (hn:find ss n f=none) {S:Nat} (hS:w.heap.size=S):
 Calls Tryz.prog 98 #[.pointer (some ⟨p,0,none⟩),.agg #[.int .u64 n,.string f]] w fun e w'=>e=.returned (.pointer (some ⟨S + 2,0,none⟩))∧At [BookP p m ss] w [BookP p m (ss++[fresh n f (S + 2) (S + 1)])] w':=by
 obtain⟨kl,hk⟩:=keyS h0 h1 hf;have hmiss:=Hd (find_none hn);have hA:=begin0 h;have hF:=hA.facts;have hS':=Hd hS;clear h hS;unfold keyV at *
 go_enter Tryz.func98,Tryz.ntmps98
 go_wp2_with (refine ZcN (E:=25) rfl rfl (by(try simp only[Act.eval,eV])<;>exact rfl) (by exact rfl) hA hS'.out ?_;intro w1 hB hS1;clear hF hA hS';have hS':=Hd hS1;clear hS1;have hA:=hB;clear hB;obtain⟨hA,hF⟩:=fY hA)
 have hl:∀q,(Instr.lookup 147 (.map (some m)) (.agg #[.int .u64 n,.string f]) true).run Tryz.prog (w1.drewN q)=.ok (.tuple #[.pointer none,.bool false]) (w1.drewN q):=fun q=>
  MapAt.look_none (w:=w1.drewN q) ((hA.drewN q).get (A:=mapC m (ents ss)) sR) lawS Tryz.underlying147 hk hmiss.out (by kernel_rfl) true
 go_quiet (fail)
 have hS2:=(show(World.drewN w1 nq).heap.size=S + 1 from hS'.out)
 have hA:=hA.drewN nq;clear hl hS';generalize World.drewN _ nq=w2 at *
 have hS':=Hd hS2;clear hS2 hF;obtain⟨hA,hF⟩:=fY hA
 go_wp2_with (first|(refine Zc9 Tryz.prog 22 rfl rfl hA hS'.out ?_;intro w1 hB hS1;clear hF hA hS';have hS':=Hd hS1;clear hS1;have hA:=hB;clear hB;obtain⟨hA,hF⟩:=fY hA)|(refine ZcN (E:=162) rfl rfl (by(try simp only[Act.eval,eV])<;>exact rfl) (by exact rfl) hA hS'.out ?_;intro w1 hB hS1;clear hF hA hS';have hS':=Hd hS1;clear hS1;have hA:=hB;clear hB;obtain⟨hA,hF⟩:=fY hA))
 (refine Zar 6 (fun w'=>∃n,w'=World.drewN _ n) (by kernel_rfl) (by kernel_rfl) ⟨1,rfl⟩ ?_);(simp only[List.take_succ_cons,List.take_zero,List.drop_succ_cons,List.drop_zero]);(repeat(first|go_big_quiet_step (fail)|quiet_step (fail)));(refine wpQuiet_nil ?_);(rintro _ ⟨nq,rfl⟩)
 have hA:=hA.drewN nq;generalize World.drewN _ nq=w1 at *;clear hF;obtain⟨hA,hF⟩:=fY hA
 refine Zaz rfl rfl rfl (by(try simp only[Act.eval,eV])<;>exact rfl) (by(try simp only[Act.eval,eV])<;>exact rfl) hA sR lawS Tryz.underlying147 hk hmiss.out ?_;intro w1 hB;replace hA:=hB;clear hF hB;obtain⟨hA,hF⟩:=fY hA;go_wp2_with fail;go_ret;exact⟨rfl,ZgU (fresh n f _ _) hA sR sZ sZ sZ sR⟩
def Zot (w:World) (p m:Nat) (ss:List Ses) (n:Int) (f:ByteArray) (r:Int) (c:Ans) (e:Ending) (w':World):Prop:=
 ∃b t,e=.returned (.tuple #[])∧At [BookP p m ss] w [BookP p m (ss++[{fresh n f b t with told:=[(r,c)]}])] w'
theorem Zf6 {w:World} {p m:Nat} {ss:List Ses} (h:Sep [BookP p m ss] w) {n r:Int} {f:ByteArray} (h0:0≤n) (h1:n < big64) (hf:f.size≤maxLen) (hn:find ss n f=none) (r0:0≤r) (r1:r < big64) (c:Ans):
 Calls Tryz.prog 60 #[.pointer (some ⟨p,0,none⟩),.agg #[.int .u64 n,.string f],.int .u64 r,.agg #[.int .i64 c.e,.int .u64 c.n,.bool c.g]] w (Zot w p m ss n f r c):=by
 obtain⟨ku,hu⟩:=keyU r0 r1;have hA:=At.start h;have hF:=hA.facts;have hl':(look ss n f).told.length < 256:=by unfold look;rw[hn];simp[fresh]
 clear h;go_enter Tryz.func60,Tryz.ntmps60
 go_wp2_with (first|((with_reducible refine gbx ?_);refine wCy (E:=25) hA ?_;clear hF hA;intro bS w1 hA hbS hF)|((with_reducible refine gbx ?_);refine wCy (E:=65) hA ?_;clear hF hA;intro bA w1 hA hbA hF))
 refine(Zf5 (hA.sep1 sR) h0 h1 hf hn).mono ?_;rintro e w1 ⟨rfl,hT⟩;replace hA:=hA.call1 sR hT;clear hF hT;obtain⟨hA,hF⟩:=fY hA
 go_wp2_with (first|((with_reducible refine gal ?_);refine g1 hA ?_;clear hF hA;intro bQ w1 hA hbQ hF)|((with_reducible refine gst ?_);refine wTy hA ?_;clear hF hA;intro w1 hA hF))
 refine(Zfu (hA.sep1 sR) h0 h1 hf hl').mono ?_;rintro e w1 ⟨rfl,hT⟩;replace hA:=hA.call1 sR hT;clear hF hT;obtain⟨hA,hF⟩:=fY hA;go_wp2_with fail
 obtain⟨S,hS⟩:∃S,w1.heap.size=S:=⟨_,rfl⟩
 refine Zeq 8 2 (TurnC [BookP p m ss] w _ S [sesC (S + 2) (fresh n f (S + 2) (S + 1)).cells,toldC (S + 1) (saids []),restP (ss++[]),headC p m,mapC m (ents (ss++[fresh n f (S + 2) (S + 1)])),Part.cells bQ [.int .i64 0,.int .u64 0,.bool false] 65,Part.cells bA [.int .i64 c.e,.int .u64 c.n,.bool c.g] 65,Part.cells bS [.int .u64 n,.string f] 25]) (by kernel_rfl) (by kernel_rfl) (by decide) (Zha hA hS) ?_;simp only[List.take_succ_cons,List.take_zero,List.drop_succ_cons,List.drop_zero];refine ZcP (v:=.pointer (some ⟨p,0,none⟩)) rfl (by decide) (fun _=>rfl) ?_;go_frame;refine Zf3 (v:=.agg #[.int .u64 n,.string f]) rfl (by decide) (fun w hw=>Zah (ty:=25) (n:=2) rfl rfl (hw.get (A:=Part.cells bS [.int .u64 n,.string f] 25) sR) (by kernel_rfl) (by kernel_rfl) rfl rfl) (fun w hw=>Zah (ty:=25) (n:=2) rfl rfl (hw.get (A:=Part.cells bS [.int .u64 n,.string f] 25) sR) (by kernel_rfl) (by kernel_rfl) rfl rfl) ?_;go_frame;refine Zjv (v:=.pointer (some ⟨S + 2,0,none⟩)) (f:=98) (args:= #[.pointer (some ⟨p,0,none⟩),.agg #[.int .u64 n,.string f]]) rfl rfl (fun _=>by kernel_rfl) (fun w hw hs=>(Zmj (m:=m) (ss:=ss) (hw.sep1 sR) h0 h1 hf hn hs).mono fun e w' ⟨he,t⟩=>⟨he,(open1 (l1:=ss) (l2:=[]) (s:=fresh n f (S + 2) (S + 1)) (hw.call1 sR t) sZ).pick pZ⟩) ?_;go_frame;refine ZcP (v:=.pointer (some ⟨S + 2,0,none⟩)) rfl (by decide) (fun _=>rfl) ?_;go_frame;refine ZcP (v:=.pointer (some ⟨S + 2,5,none⟩)) rfl (by decide) (fun _=>by kernel_rfl) ?_;go_frame;refine Zju (v:=.map (some (S + 1))) rfl (by decide) (by kernel_rfl) (fun w hw=>Zae (ty:=160) rfl rfl (hw.get (A:=sesC (S + 2) (fresh n f (S + 2) (S + 1)).cells) sR) (by kernel_rfl) rfl) ?_;go_frame;refine ZcP (v:=.int .u64 r) rfl (by decide) (fun _=>rfl) ?_;go_frame;refine Zf3 (v:=.agg #[.int .i64 c.e,.int .u64 c.n,.bool c.g]) rfl (by decide) (fun w hw=>Zah (ty:=65) (n:=3) rfl rfl (hw.get (A:=Part.cells bA [.int .i64 c.e,.int .u64 c.n,.bool c.g] 65) sR) (by kernel_rfl) (by kernel_rfl) rfl rfl) (fun w hw=>Zah (ty:=65) (n:=3) rfl rfl (hw.get (A:=Part.cells bA [.int .i64 c.e,.int .u64 c.n,.bool c.g] 65) sR) (by kernel_rfl) (by kernel_rfl) rfl rfl) ?_;go_frame;refine Zf0 ?_;intro w2 hw2;replace hA:=Zf4 hw2;clear hF hw2 hS;refine Zaz rfl rfl rfl (by(try simp only[Act.eval,eV])<;>exact rfl) (by(try simp only[Act.eval,eV])<;>exact rfl) hA (k:=22) (es:=saids []) sR lawU Tryz.underlying160 hu nofun ?_;intro w1 hB;replace hA:=hB;clear hB;go_wp2_with fail;go_end0
 refine⟨S + 2,S + 1,rfl,?_⟩
 have e1:saids []++[(Value.int .u64 r,Value.agg #[.int .i64 c.e,.int .u64 c.n,.bool c.g])]=saids [(r,c)]:=by simp[saids,saidE,Ans.val]
 have e2:ents (ss++[fresh n f (S + 2) (S + 1)])=ents (ss++{fresh n f (S + 2) (S + 1) with told:=[(r,c)]}::[]):=by simp[ents,ent,Ses.key,Ses.ptr]
 rw[e1,e2] at hA;exact ZcB (m:=m) (l1:=ss) (l2:=[]) (s:={fresh n f (S + 2) (S + 1) with told:=[(r,c)]}) hA sR sR sZ sZ sR
end Lease
end
section
namespace Lease
open Go.RowKit
structure AR where
 r:Int
 e:Int
 n:Int
 g:Bool
structure SR where
 num:Int
 foot:ByteArray
 op:Bool
 dead:Bool
 dl:Int
 ttl:Int
 ax:Option Addr
 cap:Nat
 told:List AR
def SR.tv (s:SR):Value:=.slice s.ax s.told.length s.cap
def AR.cells (a:AR):List Value:=[.int .u64 a.r,.int .i64 a.e,.int .u64 a.n,.bool a.g]
def SR.cells (s:SR):List Value:=[.int .u64 s.num,.string s.foot,.bool s.op,.bool s.dead,.int .i64 s.dl,.int .i64 s.ttl,s.tv]
theorem SR.cells_len (s:SR):s.cells.length=7:=rfl
theorem SR.ones (s:SR):s.cells.all (·.oneCell')=true:=rfl
theorem SR.one (s:SR):∀u ∈ s.cells,u.oneCell'=true:=List.all_eq_true.1 s.ones
def flatR (L:List SR):List Value:=L.flatMap SR.cells
abbrev rowR (v:Value) (L:List SR):Part:=.row 73 7 v L.length (flatR L)
def SR.is (n:Int) (f:ByteArray) (s:SR):Bool:=s.num==n&&(s.foot.toList==f.toList)
def noSR (n:Int) (f:ByteArray):SR:=⟨n,f,false,false,0,0,none,0,[]⟩
def findR (L:List SR) (n:Int) (f:ByteArray):SR:=(L.find? (SR.is n f)).getD (noSR n f)
theorem Zdk {α:Type} {p:α→Bool}:∀{l:List α} {i:Nat} {y:α},l[i]? =some y→(∀x ∈ l.take i,p x=false)→p y=true→l.find? p=some y
 |z::l,0,y,h,_,hy=>by simp at h;subst h;simp[hy]
 |z::l,i + 1,y,h,hn,hy=>by
  rw[List.find?_cons_of_neg (by rw[hn z (by simp)];simp)];exact Zdk (by simpa using h) (fun x hx=>hn x (by simp[hx])) hy
 |[],i,y,h,_,_=>by simp at h
theorem ZmB {L:List SR} {n:Int} {f:ByteArray} {i:Nat} (h:i < L.length) (hn:∀x ∈ L.take i,SR.is n f x=false) (hy:SR.is n f L[i]=true):findR L n f=L[i]:=by
 unfold findR;rw[Zdk (List.getElem?_eq_getElem h) hn hy];rfl
theorem ZeU {L:List SR} {n:Int} {f:ByteArray} (hn:∀x ∈ L,SR.is n f x=false):findR L n f=noSR n f:=by
 unfold findR;rw[List.find?_eq_none.2 (fun x hx=>by rw[hn x hx];simp)];rfl
theorem ZbL {L0 K F:List Part} {w0 w:World} {g cap:Nat} {c:List Value} {L:List SR} (hA:At L0 w0 K w) (s:Sel (Part.cells g c 73) K F) (hcl:c.length=cap * 7) (hcap:L.length≤cap) (hcm:cap≤maxLen) (hct:c.take (L.length * 7)=flatR L):
 At L0 w0 (rowR (.slice (some ⟨g,0,none⟩) L.length cap) L::F) w:=hA.row_shut s hcl hcap hcm hct
abbrev zeroS (b:Nat):Part:=.cells b [.int .u64 0,.string .empty,.bool false,.bool false,.int .i64 0,.int .i64 0,.slice none 0 0] 73
def Zm7 (w:World) (v:Value) (L:List SR) (n:Int) (f:ByteArray) (b1 b2:Nat) (k:Nat) (u:Value) (wr:World):Prop:=
 ∃i:Nat,u=.int .i64 i∧i + k=L.length∧At [rowR v L] w [zeroS b2,Part.cells b1 [v] 34,rowR v L] wr∧∀x ∈ L.take i,SR.is n f x=false
theorem findR_any {w:World} {v:Value} {L:List SR} (h:Sep [rowR v L] w) (n:Int) (f:ByteArray) (hmax:L.length≤1000000):
 Calls Tryz.prog 24 #[.agg #[v],.int .u64 n,.string f] w fun e w'=>e=.returned (.agg (findR L n f).cells.toArray)∧At [rowR v L] w [rowR v L] w':=by
 have hA:=At.start h;have hF:=hA.facts;clear h;obtain⟨ax,cap,rfl,hax,hcap,_⟩:=hA.row_form (v:=v) (xs:=flatR L) sR;go_enter Tryz.func24,Tryz.ntmps24
 go_wp2_with (first
  |(refine ZaU (E:=34) rfl rfl (by(try simp only[Act.eval,eV])<;>exact rfl) (by exact rfl) hA ?_;intro bB w1 hB hbB;replace hA:=hB;clear hF hB;obtain⟨hA,hF⟩:=fY hA)
  |((with_reducible refine gst ?_);refine wTy hA ?_;clear hF hA;intro w1 hA hF)|((with_reducible refine gbx ?_);refine wCy hA ?_;clear hF hA;intro b1 w1 hA hb1 hF)|((with_reducible refine gal ?_);refine wGy 73 [.int .u64 0,.string .empty,.bool false,.bool false,.int .i64 0,.int .i64 0,.slice none 0 0] hA ?_;clear hF hA;intro b1 w1 hA hb1 hF))
 (try go_frame);go_loopg [7] L.length (Zm7 w (.slice ax L.length cap) L n f bB b1)
 case atStart=>exact⟨0,rfl,by simp,hA,by simp⟩
 case round=>
  obtain⟨i,rfl,hik,hB,hno⟩:=hrel;have hno':=Hd hno;clear hF hA hno;have hA:=hB;clear hB;by_cases hi:i < L.length
  · obtain⟨g,c,rfl,_,hcm,hcl,hct,hB⟩:=hA.row_open (ax:=ax) (cap:=cap) (n:=L.length) (xs:=flatR L) sR (by omega);have hx:L[i]? =some L[i]:=List.getElem?_eq_getElem hi;have c0:c[i * 7]? =some (.int .u64 L[i].num):=Zag SR.cells_len hct hx 0 (by omega);have c1:c[i * 7 + 1]? =some (.string L[i].foot):=Zag SR.cells_len hct hx 1 (by omega);have c2:c[i * 7 + 2]? =some (.bool L[i].op):=Zag SR.cells_len hct hx 2 (by omega);have c3:c[i * 7 + 3]? =some (.bool L[i].dead):=Zag SR.cells_len hct hx 3 (by omega);have c4:c[i * 7 + 4]? =some (.int .i64 L[i].dl):=Zag SR.cells_len hct hx 4 (by omega);have c5:c[i * 7 + 5]? =some (.int .i64 L[i].ttl):=Zag SR.cells_len hct hx 5 (by omega);have c6:c[i * 7 + 6]? =some L[i].tv:=Zag SR.cells_len hct hx 6 (by omega);clear hA;have hA:=hB;clear hB;obtain⟨hA,hF⟩:=fY hA
    have more:∀{b:Bool},SR.is n f L[i]=b→b=false→∀x ∈ L.take (i + 1),SR.is n f x=false:=fun e e2 x hx=>by
     rw[List.take_succ_eq_append_getElem hi] at hx;rcases List.mem_append.1 hx with hx|hx
     · exact hno'.out x hx
     rw[List.mem_singleton.1 hx,e,e2]
    by_cases h1:L[i].num=n
    · have h1':(L[i].num==n)=true:=by simpa using h1
      cases h2:(L[i].foot.toList==f.toList)
      · have hm:=Hd (more (b:=false) (by simp[SR.is,h1',h2]) rfl);clear more;go_wp2_with fail;go_roundg (gk - 1);case measure=>omega
        case rel=>exact⟨i + 1,by simp,by omega,(ZbL hA sR hcl hcap hcm hct).only3 sR sR sR,hm.out⟩
      have hfi:=ZmB hi hno'.out (show SR.is n f L[i]=true by simp[SR.is,h1',h2]);have hfi':=Hd hfi;clear hfi more
      go_wp2_with (refine Zam (b:=b1) (j:=0) (vs:=SR.cells L[i]) rfl rfl rfl (by(try simp only[Act.eval,eV])<;>exact rfl) (by first|exact rfl|(rw[←h1];rfl)|simp[SR.cells,h1,Value.cells]) hA sR (by kernel_rfl) (SR.ones _) (by show 0 + 7≤7;omega) ?_;intro w1 hB;replace hA:=hB;clear hF hB;simp only[SR.cells] at hA;obtain⟨hA,hF⟩:=fY hA)
      refine bodyPost_ret (v:=.agg (SR.cells L[i]).toArray) (by simp[SR.cells,results,Tryz.results24,go_sem,hF]) rfl ⟨by rw[hfi'.out],(ZbL hA sR hcl hcap hcm hct).only1 sR⟩
    have h1':(L[i].num==n)=false:=by simpa using h1
    have hm:=Hd (more (b:=false) (by simp[SR.is,h1']) rfl);clear more;go_wp2_with fail;go_roundg (gk - 1);case measure=>omega
    case rel=>exact⟨i + 1,by simp,by omega,(ZbL hA sR hcl hcap hcm hct).only3 sR sR sR,hm.out⟩
  have hfi:=ZeU (fun x hx=>hno'.out x (by rw[List.take_of_length_le (by omega)];exact hx));have hfi':=Hd hfi;clear hfi;obtain⟨hA,hF⟩:=fY hA
  go_wp2_with ((with_reducible refine gst ?_);refine wTy hA ?_;clear hF hA;intro w1 hA hF)
  refine bodyPost_ret (v:=.agg (SR.cells (noSR n f)).toArray) (by simp[SR.cells,SR.tv,noSR,results,Tryz.results24,go_sem,hF]) rfl ⟨by rw[hfi'.out],hA.only1 sR⟩
end Lease
end
section
namespace Lease
open Go.RowKit
theorem AR.cells_len (s:AR):s.cells.length=4:=rfl
theorem AR.ones (s:AR):s.cells.all (·.oneCell')=true:=rfl
def flatA (l:List AR):List Value:=l.flatMap AR.cells
abbrev rowA (v:Value) (l:List AR):Part:=.row 45 4 v l.length (flatA l)
def noAR:AR:=⟨0,0,0,false⟩
def saidA (l:List AR) (r:Int):Option AR:=l.find? (fun a=>a.r==r)
theorem ZhY {L0 K F:List Part} {w0 w:World} {g cap:Nat} {c:List Value} {l:List AR} (hA:At L0 w0 K w) (s:Sel (Part.cells g c 45) K F) (hcl:c.length=cap * 4) (hcap:l.length≤cap) (hcm:cap≤maxLen) (hct:c.take (l.length * 4)=flatA l):
 At L0 w0 (rowA (.slice (some ⟨g,0,none⟩) l.length cap) l::F) w:=hA.row_shut s hcl hcap hcm hct
abbrev zeroA (b:Nat):Part:=.cells b [.int .u64 0,.int .i64 0,.int .u64 0,.bool false] 45
def Zov (w:World) (s:SR) (r:Int) (b1 b2:Nat) (k:Nat) (u:Value) (wr:World):Prop:=
 ∃i:Nat,u=.int .i64 i∧i + k=s.told.length∧At [rowA s.tv s.told] w [zeroA b2,Part.cells b1 s.cells 73,rowA s.tv s.told] wr∧∀x ∈ s.told.take i,(x.r==r)=false
theorem ZcU {w:World} {s:SR} (h:Sep [rowA s.tv s.told] w) (r:Int) (hmax:s.told.length≤1000000):
 Calls Tryz.prog 27 #[.agg s.cells.toArray,.int .u64 r] w fun e w'=>e=.returned (.tuple #[.agg ((saidA s.told r).getD noAR).cells.toArray,.bool (saidA s.told r).isSome])∧At [rowA s.tv s.told] w [rowA s.tv s.told] w':=by
 obtain⟨num,foot,op,dead,dl,ttl,ax,cap,told⟩:=s;have hA:=At.start h;have hF:=hA.facts;clear h;simp only[SR.tv] at *
 obtain⟨ax',cap',he0,hax,hcap,_⟩:=hA.row_form (v:=.slice ax told.length cap) (xs:=flatA told) sR;cases he0;unfold SR.cells;go_enter Tryz.func27,Tryz.ntmps27
 go_wp2_with (first
  |(refine ZaU (E:=73) rfl rfl (by(try simp only[Act.eval,eV])<;>exact rfl) (by exact rfl) hA ?_;intro bB w1 hB hbB;replace hA:=hB;clear hF hB;obtain⟨hA,hF⟩:=fY hA)
  |((with_reducible refine gst ?_);refine wTy hA ?_;clear hF hA;intro w1 hA hF)|((with_reducible refine gbx ?_);refine wCy hA ?_;clear hF hA;intro b1 w1 hA hb1 hF)|((with_reducible refine gal ?_);refine g13 hA ?_;clear hF hA;intro b1 w1 hA hb1 hF))
 (try go_frame);go_loopg [6] told.length (Zov w ⟨num,foot,op,dead,dl,ttl,ax,cap,told⟩ r bB b1)
 case atStart=>exact⟨0,rfl,by simp,hA,by simp⟩
 case round=>
  obtain⟨i,rfl,hik,hB,hno⟩:=hrel;have hno':=Hd hno;clear hF hA hno;have hA:=hB;clear hB;simp only[SR.cells,SR.tv] at hA hik hno';by_cases hi:i < told.length
  · obtain⟨g,c,rfl,_,hcm,hcl,hct,hB⟩:=hA.row_open (ax:=ax) (cap:=cap) (n:=told.length) (xs:=flatA told) sR (by omega);have hx:told[i]? =some told[i]:=List.getElem?_eq_getElem hi;have c0:c[i * 4]? =some (.int .u64 told[i].r):=Zag AR.cells_len hct hx 0 (by omega);have c1:c[i * 4 + 1]? =some (.int .i64 told[i].e):=Zag AR.cells_len hct hx 1 (by omega);have c2:c[i * 4 + 2]? =some (.int .u64 told[i].n):=Zag AR.cells_len hct hx 2 (by omega);have c3:c[i * 4 + 3]? =some (.bool told[i].g):=Zag AR.cells_len hct hx 3 (by omega);clear hA;have hA:=hB;clear hB;obtain⟨hA,hF⟩:=fY hA;cases h1:(told[i].r==r)
    · have hm:∀x ∈ told.take (i + 1),(x.r==r)=false:=fun x hx=>by
       rw[List.take_succ_eq_append_getElem hi] at hx;rcases List.mem_append.1 hx with hx|hx
       · exact hno'.out x hx
       rw[List.mem_singleton.1 hx,h1]
      have hm':=Hd hm;clear hm;go_wp2_with fail;go_roundg (gk - 1);case measure=>omega
      case rel=>exact⟨i + 1,by simp,by simp only;omega,(ZhY hA sR hcl hcap hcm hct).only3 sR sZ sZ,hm'.out⟩
    have hfi:saidA told r=some told[i]:=Zdk hx hno'.out h1;have hfi':=Hd hfi;clear hfi
    go_wp2_with (refine Zam (b:=b1) (j:=0) (vs:=AR.cells told[i]) rfl rfl rfl (by(try simp only[Act.eval,eV])<;>exact rfl) (by first|exact rfl|(rw[←(show told[i].r=r by simpa using h1)];rfl)) hA sR (by kernel_rfl) (AR.ones _) (by show 0 + 4≤4;omega) ?_;intro w1 hB;replace hA:=hB;clear hF hB;simp only[AR.cells] at hA;obtain⟨hA,hF⟩:=fY hA)
    refine bodyPost_ret (v:=.tuple #[.agg (AR.cells told[i]).toArray,.bool true]) (by simp[AR.cells,results,Tryz.results27,go_sem,hF]) rfl ⟨by rw[hfi'.out];rfl,(ZhY hA sR hcl hcap hcm hct).only1 sR⟩
  have hfi:saidA told r=none:=List.find?_eq_none.2 (fun x hx=>by rw[hno'.out x (by rw[List.take_of_length_le (by omega)];exact hx)];simp);have hfi':=Hd hfi;clear hfi;obtain⟨hA,hF⟩:=fY hA
  go_wp2_with ((with_reducible refine gst ?_);refine wTy hA ?_;clear hF hA;intro w1 hA hF)
  refine bodyPost_ret (v:=.tuple #[.agg (AR.cells noAR).toArray,.bool false]) (by simp[AR.cells,noAR,results,Tryz.results27,go_sem,hF]) rfl ⟨by rw[hfi'.out];rfl,hA.only1 sR⟩
theorem Zis (t:Int) (w:World):Calls Tryz.prog 100 #[.int .i64 t] w fun e w'=>e=.returned (.int .i64 (cutI t))∧w=w':=by
 unfold cutI;by_cases h0:t < 0
 · go_enter Tryz.func100,Tryz.ntmps100;go_wp2_with fail;refine bodyPost_ret (results_tmp rfl _ _ _) rfl ?_;exact⟨by simp,rfl⟩
 by_cases h1:2199023255552 < t
 · go_enter Tryz.func100,Tryz.ntmps100;go_wp2_with fail;refine bodyPost_ret (results_tmp rfl _ _ _) rfl ?_;exact⟨by simp,rfl⟩
 go_enter Tryz.func100,Tryz.ntmps100;go_wp2_with fail;go_ret;exact⟨by simp,rfl⟩
end Lease
end
end Go.Proofs.YtknoefbcmomalaaGreatDoor
