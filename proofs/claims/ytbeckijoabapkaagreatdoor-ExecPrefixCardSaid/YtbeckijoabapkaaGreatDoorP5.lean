import Derived.Test.YtbeckijoabapkaaGreatDoorP4
import Derived.Test.YtbeckijoabapkaaGreatDoorP3
set_option linter.unusedSimpArgs false
set_option linter.unusedVariables false
set_option maxRecDepth 100000
set_option maxHeartbeats 16000000
namespace Go.Proofs.YtbeckijoabapkaaGreatDoor
section
namespace Lease
open Go.RowKit
open Go.Maps (Keyed)
theorem Zf6 {w:World} {p m:Nat} {ss:List Ses} (h:Sep [BookP p m ss] w) {n:Int} {f:ByteArray} (h0:0≤n) (h1:n < big64) (hf:f.size≤maxLen) (hr:(look ss n f).told.length < 256):
 Calls Tryz.prog 39 #[.pointer (some ⟨p,0,none⟩),.agg #[.int .u64 n,.string f]] w fun e w'=>e=.returned (.bool true)∧At [BookP p m ss] w [BookP p m ss] w':=by
 have hA:=At.start h;have hF:=hA.facts;have hlt:((look ss n f).told.length:Int) < 256:=by omega
 clear h;have hfd:∀a b c d e w,(Instr.field 137 (.agg #[a,b,c,d,e]) 4).run Tryz.prog w=.ok e w:=fun _ _ _ _ _ _=>by kernel_rfl
 go_enter Tryz.func39,Tryz.ntmps39
 go_wp2_with ((with_reducible refine gbx ?_);refine wCy hA ?_;clear hF hA;intro b1 w1 hA hb1 hF)
 refine(ZaX (hA.sep1 sR) h0 h1 hf).mono ?_;unfold Ses.info;rintro e w1 ⟨rfl,hT⟩;replace hA:=hA.call1 sR hT;clear hF hT;obtain⟨hA,hF⟩:=fY hA;go_wp2_with fail;go_ret;exact⟨rfl,hA.only1 sR⟩
theorem Zki {w:World} {p m:Nat} {ss:List Ses} (h:Sep [BookP p m ss] w) {n:Int} {f:ByteArray} (h0:0≤n) (h1:n < big64) (hf:f.size≤maxLen) (hr:¬(look ss n f).told.length < 256):
 Calls Tryz.prog 39 #[.pointer (some ⟨p,0,none⟩),.agg #[.int .u64 n,.string f]] w fun e w'=>e=.returned (.bool false)∧At [BookP p m ss] w [BookP p m ss] w':=by
 have hA:=At.start h;have hF:=hA.facts;have hlt:decide (((look ss n f).told.length:Int) < 256)=false:=by simp;omega
 clear h;have hfd:∀a b c d e w,(Instr.field 137 (.agg #[a,b,c,d,e]) 4).run Tryz.prog w=.ok e w:=fun _ _ _ _ _ _=>by kernel_rfl
 go_enter Tryz.func39,Tryz.ntmps39
 go_wp2_with ((with_reducible refine gbx ?_);refine wCy hA ?_;clear hF hA;intro b1 w1 hA hb1 hF)
 refine(ZaX (hA.sep1 sR) h0 h1 hf).mono ?_;unfold Ses.info;rintro e w1 ⟨rfl,hT⟩;replace hA:=hA.call1 sR hT;clear hF hT;obtain⟨hA,hF⟩:=fY hA;go_wp2_with fail;go_ret;exact⟨rfl,hA.only1 sR⟩
theorem Zl0 {w:World} {p m:Nat} {ss:List Ses} (h:Sep [BookP p m ss] w) {n r:Int} {f:ByteArray} (h0:0≤n) (h1:n < big64) (hf:f.size≤maxLen) {s:Ses} (hn:find ss n f=some s) (r0:0≤r) (r1:r < big64) {a:Ans} (hr:said s.told r=some a) (c:Ans):
 Calls Tryz.prog 42 #[.pointer (some ⟨p,0,none⟩),.agg #[.int .u64 n,.string f],.int .u64 r,.agg #[.int .i64 c.e,.int .u64 c.n,.bool c.g]] w fun e w'=>e=.returned (.tuple #[])∧At [BookP p m ss] w [BookP p m ss] w':=by
 have hA:=At.start h;have hF:=hA.facts;clear h;go_enter Tryz.func42,Tryz.ntmps42
 go_wp2_with ((with_reducible refine gbx ?_);refine wCy hA ?_;clear hF hA;intro b1 w1 hA hb1 hF)
 refine(Zis (hA.sep1 sR) h0 h1 hf hn r0 r1 hr).mono ?_;rintro e w1 ⟨rfl,hT⟩;replace hA:=hA.call1 sR hT;clear hF hT;obtain⟨hA,hF⟩:=fY hA
 go_wp2_with (first|((with_reducible refine gst ?_);refine wTy hA ?_;clear hF hA;intro w1 hA hF)|((with_reducible refine gal ?_);refine g1 hA ?_;clear hF hA;intro b1 w1 hA hb1 hF))
 refine bodyPost_ret (results_none rfl _ _ _) rfl ?_;exact⟨rfl,hA.only1 sR⟩
theorem Zj1 {w:World} {p m:Nat} {ss:List Ses} (h:Sep [BookP p m ss] w) {n r:Int} {f:ByteArray} (h0:0≤n) (h1:n < big64) (hf:f.size≤maxLen) {s:Ses} (hn:find ss n f=some s) (r0:0≤r) (r1:r < big64) (hr:said s.told r=none) (hl:¬s.told.length < 256) (c:Ans):
 Calls Tryz.prog 42 #[.pointer (some ⟨p,0,none⟩),.agg #[.int .u64 n,.string f],.int .u64 r,.agg #[.int .i64 c.e,.int .u64 c.n,.bool c.g]] w fun e w'=>e=.returned (.tuple #[])∧At [BookP p m ss] w [BookP p m ss] w':=by
 have hA:=At.start h;have hF:=hA.facts;have hl':¬(look ss n f).told.length < 256:=by unfold look;rw[hn];exact hl
 clear h;go_enter Tryz.func42,Tryz.ntmps42
 go_wp2_with ((with_reducible refine gbx ?_);refine wCy hA ?_;clear hF hA;intro b1 w1 hA hb1 hF)
 refine(Zf1 (hA.sep1 sR) h0 h1 hf hn r0 r1 hr).mono ?_;rintro e w1 ⟨rfl,hT⟩;replace hA:=hA.call1 sR hT;clear hF hT;obtain⟨hA,hF⟩:=fY hA
 go_wp2_with (first|((with_reducible refine gst ?_);refine wTy hA ?_;clear hF hA;intro w1 hA hF)|((with_reducible refine gal ?_);refine g1 hA ?_;clear hF hA;intro b1 w1 hA hb1 hF))
 refine(Zki (hA.sep1 sR) h0 h1 hf hl').mono ?_;rintro e w1 ⟨rfl,hT⟩;replace hA:=hA.call1 sR hT;clear hF hT;obtain⟨hA,hF⟩:=fY hA;go_wp2_with fail;refine bodyPost_ret (results_none rfl _ _ _) rfl ?_;exact⟨rfl,hA.only1 sR⟩
theorem Zl1 {w:World} {p m:Nat} {l1 l2:List Ses} {s:Ses} (h:Sep [BookP p m (l1++s::l2)] w) {n r:Int} {f:ByteArray} (h0:0≤n) (h1:n < big64) (hf:f.size≤maxLen) (hn:find (l1++s::l2) n f=some s) (r0:0≤r) (r1:r < big64) (hr:said s.told r=none) (hl:s.told.length < 256) (c:Ans):
 Calls Tryz.prog 42 #[.pointer (some ⟨p,0,none⟩),.agg #[.int .u64 n,.string f],.int .u64 r,.agg #[.int .i64 c.e,.int .u64 c.n,.bool c.g]] w
  fun e w'=>e=.returned (.tuple #[])∧At [BookP p m (l1++s::l2)] w [BookP p m (l1++{s with told:=s.told++[(r,c)]}::l2)] w':=by
 obtain⟨ku,hu⟩:=keyU r0 r1;have hmiss:=Hd (ZgK hr);have hA:=At.start h;have hF:=hA.facts;have hl':(look (l1++s::l2) n f).told.length < 256:=by unfold look;rw[hn];exact hl
 clear h;go_enter Tryz.func42,Tryz.ntmps42
 go_wp2_with ((with_reducible refine gbx ?_);refine wCy hA ?_;clear hF hA;intro b1 w1 hA hb1 hF)
 refine(Zf1 (hA.sep1 sR) h0 h1 hf hn r0 r1 hr).mono ?_;rintro e w1 ⟨rfl,hT⟩;replace hA:=hA.call1 sR hT;clear hF hT;obtain⟨hA,hF⟩:=fY hA
 go_wp2_with (first|((with_reducible refine gst ?_);refine wTy hA ?_;clear hF hA;intro w1 hA hF)|((with_reducible refine gal ?_);refine g1 hA ?_;clear hF hA;intro b1 w1 hA hb1 hF))
 refine(Zf6 (hA.sep1 sR) h0 h1 hf hl').mono ?_;rintro e w1 ⟨rfl,hT⟩;replace hA:=hA.call1 sR hT;clear hF hT;obtain⟨hA,hF⟩:=fY hA;go_wp2_with fail;have hA:=open1 hA sR;simp only[Ses.cells] at hA;obtain⟨hA,hF⟩:=fY hA;(refine Zaj 8 (Cl _ _ _) (by kernel_rfl) (by kernel_rfl) (Cl.drew hA) ?_);(simp only[List.take_succ_cons,List.take_zero,List.drop_succ_cons,List.drop_zero]);(have hn1:=Cl.none hA);(have hn2:=Cl.none2 hA);(repeat(first|go_big_quiet_skip|(go_big_quiet_want;(first|(refine qM 40 3 ?_;go_frame;go_big_quiet_on)|(refine qM 35 2 ?_;go_frame;go_big_quiet_on)|(refine qL ?_;go_frame;go_big_quiet_on)|(go_big_quiet_op;(first|go_big_quiet_on|((apply Exists.intro);(refine⟨fun w1 hw=> ?_,?_⟩);(focus((have hw:=Cl.out hw);(exact opened hw sR sR sZ sR sR (fun q=>Zfu q h0 h1 hf hn))));(go_big_quiet_on))))))))
 (refine wpQuiet_nil ?_);(intro w1 hB);(clear hF hA hn1 hn2);(have hA:=Cl.out hB);(clear hB);obtain⟨hA,hF⟩:=fY hA
 refine Zao rfl rfl rfl (by(try simp only[Act.eval,eV])<;>exact rfl) (by(try simp only[Act.eval,eV])<;>exact rfl) hA (k:=22) (es:=saids s.told) sR lawU Tryz.underlying142 hu hmiss.out ?_;intro w1 hB;replace hA:=hB;clear hF hB;obtain⟨hA,hF⟩:=fY hA;go_wp2_with fail;go_end0
 refine⟨rfl,?_⟩
 have e1:saids s.told++[(Value.int .u64 r,Value.agg #[.int .i64 c.e,.int .u64 c.n,.bool c.g])]=saids (s.told++[(r,c)]):=by simp[saids,saidE,Ans.val]
 have e2:ents (l1++s::l2)=ents (l1++{s with told:=s.told++[(r,c)]}::l2):=by simp[ents,ent,Ses.key,Ses.ptr]
 rw[e1,e2] at hA;exact ZcR (m:=m) (s:={s with told:=s.told++[(r,c)]}) hA sR sR sZ sR sR
end Lease
end
section
namespace Lease
open Go.RowKit
open Go.Maps (Keyed)
def cutI (t:Int):Int:=if t < 0 then 0 else if 2199023255552 < t then 2199023255552 else t
theorem Zls (t:Int):0≤cutI t∧cutI t≤2199023255552:=by unfold cutI;split<;>(try split)<;>omega
theorem ZeX (t:Int) (w:World):Calls Tryz.prog 86 #[.int .i64 t] w fun e w'=>e=.returned (.int .i64 (cutI t))∧w=w':=by
 by_cases h0:t < 0
 · have e:cutI t=0:=by simp[cutI,h0]
   rw[e];go_enter Tryz.func86,Tryz.ntmps86;go_wp2
   go_ret;exact⟨by first|rfl|(show Ending.returned (Value.int .i64 (min (max t 0) 2199023255552))=_;rw[show min (max t 0) 2199023255552=0 by omega]),rfl⟩
 by_cases h1:2199023255552 < t
 · have e:cutI t=2199023255552:=by simp[cutI,h0,h1]
   rw[e];go_enter Tryz.func86,Tryz.ntmps86;go_wp2
   go_ret;exact⟨by first|rfl|(show Ending.returned (Value.int .i64 (min (max t 0) 2199023255552))=_;rw[show min (max t 0) 2199023255552=2199023255552 by omega]),rfl⟩
 have e:cutI t=t:=by simp[cutI,h0,h1]
 rw[e];go_enter Tryz.func86,Tryz.ntmps86;go_wp2
 go_ret;exact⟨by first|rfl|(show Ending.returned (Value.int .i64 (min (max t 0) 2199023255552))=_;rw[show min (max t 0) 2199023255552=t by omega]),rfl⟩
def endI (time ttl:Int):Int:=cutI (cutI time + cutI ttl)
theorem ZdR (time ttl:Int) (w:World):Calls Tryz.prog 85 #[.int .i64 time,.int .i64 ttl] w fun e w'=>e=.returned (.int .i64 (endI time ttl))∧w=w':=by
 have b1:=Zls time;have b2:=Zls ttl;go_enter Tryz.func85,Tryz.ntmps85;go_wp2_with fail;refine(ZeX _ _).mono ?_;rintro e _ ⟨rfl,rfl⟩;go_wp2_with fail;refine(ZeX _ _).mono ?_;rintro e _ ⟨rfl,rfl⟩;go_wp2_with fail;refine(ZeX _ _).mono ?_;rintro e _ ⟨rfl,rfl⟩;go_wp2_with fail;go_ret;exact⟨rfl,rfl⟩
def NewPost (w:World) (e:Ending) (w':World):Prop:=∃p m,e=.returned (.pointer (some ⟨p,0,none⟩))∧At [] w [BookP p m []] w'
theorem new_any (w:World):Calls Tryz.prog 32 #[] w (NewPost w):=by
 have hA:=At.start (w0:=w) (L0:=[]) trivial;have hF:=hA.facts;go_enter Tryz.func32,Tryz.ntmps32
 go_wp2_with (first|((with_reducible refine gbx ?_);refine wCy hA ?_;clear hF hA;intro b1 w1 hA hb1 hF)|(refine Zav Tryz.prog 35 rfl rfl hA ?_;intro b2 w1 hB hb2;replace hA:=hB;clear hF hB;obtain⟨hA,hF⟩:=fY hA))
 go_ret;have hB:At [] w [headC b1 b2,mapC b2 (ents [])] w1:=hA;have hC:=hB.new (Ext.refl w1) (restP []) trivial (fun b hb=>by obtain⟨A,hA,_⟩:=hb;cases hA);exact⟨_,_,rfl,close0 (m:=b2) (ss:=[]) hC sZ sZ sZ⟩
end Lease
end
section
namespace Lease
open Go.RowKit
open Go.Maps (Keyed)
def cnt (ss:List Ses) (f:ByteArray):Nat:=(ss.filter (fun s=>s.foot.toList==f.toList&&s.op)).length
theorem Zm8 (ds:List Ses) (s:Ses) (f:ByteArray):cnt (ds++[s]) f=cnt ds f + if s.foot.toList==f.toList&&s.op then 1 else 0:=by
 unfold cnt;rw[List.filter_append];cases h:(s.foot.toList==f.toList&&s.op)<;>simp[List.filter_cons,h]
theorem cnt_le (ds:List Ses) (f:ByteArray):cnt ds f≤ds.length:=List.length_filter_le _ _
theorem ents_snoc (ds:List Ses) (s:Ses):ents ds++[ent s]=ents (ds++[s]):=by simp[ents]
theorem Zm0 {ss:List Ses} (h:(ents ss).Pairwise (fun p q=>p.1≠q.1)) {x y:Ses} (hx:x ∈ ss) (hy:y ∈ ss) (e:ent x=ent y):x=y:=by
 have h1:ss.Pairwise (fun p q=>(ent p).1≠(ent q).1):=(List.pairwise_map (f:=ent) (R:=fun p q:Value × Value=>p.1≠q.1)).1 h;obtain⟨i,hi⟩:=List.mem_iff_getElem?.1 hx;obtain⟨j,hj⟩:=List.mem_iff_getElem?.1 hy;by_cases hij:i=j
 · subst hij;rw[hi] at hj;exact Option.some.inj hj
 exfalso
 obtain⟨hi1,hi2⟩:=List.getElem?_eq_some_iff.1 hi;obtain⟨hj1,hj2⟩:=List.getElem?_eq_some_iff.1 hj;have hp:=List.pairwise_iff_getElem.1 h1;rcases Nat.lt_or_gt_of_ne hij with q|q
 · exact hp i j hi1 hj1 q (by rw[hi2,hj2,e])
 exact hp j i hj1 hi1 q (by rw[hi2,hj2,e])
theorem ents_perm {ss ds:List Ses} (h:(ents ss).Pairwise (fun p q=>p.1≠q.1)) (hd:∀s ∈ ds,s ∈ ss) (hp:(ents ss).Perm (ents ds)):ss.Perm ds:=by
 have hn:∀l:List Ses,(ents l).Pairwise (fun p q=>p.1≠q.1)→l.Nodup:=fun l hl=>((List.pairwise_map (f:=ent) (R:=fun p q:Value × Value=>p.1≠q.1)).1 hl).imp (fun h e=>h (by rw[e]));have hd2:(ents ds).Pairwise (fun p q=>p.1≠q.1):=(hp.pairwise_iff (fun h=>Ne.symm h)).1 h;refine(List.perm_ext_iff_of_nodup (hn _ h) (hn _ hd2)).2 (fun x=>⟨fun hx=> ?_,hd x⟩);have:ent x ∈ ents ds:=hp.mem_iff.1 (List.mem_map.2 ⟨x,hx,rfl⟩);obtain⟨y,hy,he⟩:=List.mem_map.1 this;rw[←Zm0 h (hd y hy) hx he];exact hy
theorem cnt_perm {ss ds:List Ses} (h:ss.Perm ds) (f:ByteArray):cnt ss f=cnt ds f:=(h.filter _).length_eq
def CntRel (p m r:Nat) (ss:List Ses) (f:ByteArray) (w:World) (k:Nat) (v:Value) (wr:World):Prop:=
 ∃ds:List Ses,At [BookP p m ss] w [Part.iter Tryz.prog 35 r m (ents ss) (ents ds),headC p m,restP ss] wr∧(∀s ∈ ds,s ∈ ss)∧v=.int .i64 (cnt ds f)∧ds.length + k=ss.length
theorem Zgb {w:World} {p m:Nat} {ss:List Ses} (h:Sep [BookP p m ss] w) (f:ByteArray) (hl:ss.length≤1000000000):
 Calls Tryz.prog 84 #[.pointer (some ⟨p,0,none⟩),.string f] w fun e w'=>e=.returned (.int .i64 (cnt ss f))∧At [BookP p m ss] w [BookP p m ss] w':=by
 have hA:=begin0 h;obtain⟨hA,hF⟩:=fY hA;clear h;go_enter Tryz.func84,Tryz.ntmps84
 go_wp2_with (refine ZaQ rfl rfl rfl hA sR Tryz.underlying111 ?_;intro r w1 hB hr;replace hA:=hB;clear hF hB;obtain⟨hA,hF⟩:=fY hA)
 go_frame;go_loopg [5] ss.length (CntRel p m r ss f w)
 case atStart=>exact⟨[],hA,nofun,by simp[cnt],by simp⟩
 case round=>
  obtain⟨ds,hA2,hds,rfl,hk⟩:=hrel;clear hF hA;have hA:=hA2;clear hA2;obtain⟨hA,hF⟩:=fY hA;go_step
  go_step
  refine Za9 rfl rfl rfl hA sR (fun hp=> ?_) (fun q w1 hq hd hB=> ?_)
  · have hI:ZaU Tryz.prog 35 wr r m (ents ss) (ents ds):=hA.get (A:=Part.iter _ _ r m (ents ss) (ents ds)) sR;have hc:=Hd (cnt_perm (ents_perm hI.keys hds hp) f);have hM:=At.ranged hA sR;go_wp2_with fail;go_ret;exact⟨by rw[hc.out];rfl,close0 (m:=m) (ss:=ss) hM sR sR sR⟩
  obtain⟨s,hs,rfl⟩:=List.mem_map.1 hq;have hI:ZaU Tryz.prog 35 w1 r m (ents ss) (ents ds++[ent s]):=hB.get (A:=Part.iter _ _ r m (ents ss) (ents ds++[ent s])) sR;have hen:=hI.entry;have hlen:(ds++[s]).length≤ss.length:=by have:=hI.len;simpa [ents] using this
  have hsub:∀x ∈ ds++[s],x ∈ ss:=fun x hx=>by
   rcases List.mem_append.1 hx with hx|hx
   · exact hds x hx
   have:x=s:=by simpa using hx
   rw[this];exact hs
  rw[ents_snoc] at hB;obtain⟨l1,l2,e⟩:=List.append_of_mem hs;have he:=Hd e;clear hF hA;have hA:=out' e hB sR;have hk':=Hd hk;have hsub':=Hd hsub;have hsn:=Hd (Zm8 ds s f);have hcl:=cnt_le ds f;simp only[List.length_append,List.length_cons,List.length_nil,Nat.zero_add] at hlen;clear hI e hB hk hsub hds hq hd;simp only[Ses.cells] at hA;obtain⟨hA,hF⟩:=fY hA;simp only[ent,Ses.key,keyV,Ses.ptr] at hen;cases hfe:(s.foot.toList==f.toList);all_goals cases hop:s.op
  all_goals
   go_wp2_with (first|((with_reducible refine gst ?_);refine wTy hA ?_;clear hF hA;intro w1 hA hF)|((with_reducible refine gal ?_);refine wGy 35 [.int .u64 0,.string .empty] hA ?_;clear hF hA;intro b1 w1 hA hb1 hF))
   go_roundg (gk - 1);case measure=>have:=hk'.out;omega
   case rel=>exact⟨ds++[s],(in' he.out hA sZ sR sR).only3 sR sR sR,hsub'.out,by rw[hsn.out];simp[hfe,hop],by have:=hk'.out;simp;omega⟩
end Lease
end
section
namespace Lease
open Go.RowKit
open Go.Maps (Keyed)
def Ses.opened (s:Ses) (ttl time:Int):Ses:={s with op:=true,dead:=false,dl:=endI time ttl,ttl:=cutI ttl}
def Ses.ended (s:Ses):Ses:={s with op:=false,dead:=true,dl:=0,ttl:=0}
def openE (s:Ses) (c:Nat):Int:=if s.dead then 50 else if s.op then 15 else if 32≤c then 14 else 0
theorem Zog {w:World} {p m:Nat} {ss:List Ses} (h:Sep [BookP p m ss] w) {n:Int} {f:ByteArray} (h0:0≤n) (h1:n < big64) (hf:f.size≤maxLen) (hl:ss.length≤1000000000) (ttl time:Int) (he:openE (look ss n f) (cnt ss f)≠0):
 Calls Tryz.prog 63 #[.pointer (some ⟨p,0,none⟩),.agg #[.int .u64 n,.string f],.int .i64 ttl,.int .i64 time] w fun e w'=>e=.returned (.int .i64 (openE (look ss n f) (cnt ss f)))∧At [BookP p m ss] w [BookP p m ss] w':=by
 have hA:=At.start h;have hF:=hA.facts;clear h;cases hd:(look ss n f).dead
 · cases ho:(look ss n f).op
   · have hc:32≤cnt ss f:=by
      simp[openE,hd,ho] at he;omega
     have hc':(32:Int)≤(cnt ss f:Int):=by omega
     have e1:openE (look ss n f) (cnt ss f)=14:=by simp[openE,hd,ho,hc]
     rw[e1];go_enter Tryz.func63,Tryz.ntmps63
     go_wp2_with ((with_reducible refine gbx ?_);refine wCy hA ?_;clear hF hA;intro b1 w1 hA hb1 hF)
     refine(ZaX (hA.sep1 sR) h0 h1 hf).mono ?_;unfold Ses.info;rw[hd,ho];rintro e w1 ⟨rfl,hT⟩;replace hA:=hA.call1 sR hT;clear hF hT;obtain⟨hA,hF⟩:=fY hA
     go_wp2_with (first|((with_reducible refine gst ?_);refine wTy hA ?_;clear hF hA;intro w1 hA hF)|((with_reducible refine gal ?_);refine g4 hA ?_;clear hF hA;intro b1 w1 hA hb1 hF))
     refine(Zgb (hA.sep1 sR) f hl).mono ?_;rintro e w1 ⟨rfl,hT⟩;replace hA:=hA.call1 sR hT;clear hF hT;obtain⟨hA,hF⟩:=fY hA;go_wp2_with fail;go_ret;exact⟨rfl,hA.only1 sR⟩
   have e1:openE (look ss n f) (cnt ss f)=15:=by simp[openE,hd,ho]
   rw[e1];go_enter Tryz.func63,Tryz.ntmps63
   go_wp2_with ((with_reducible refine gbx ?_);refine wCy hA ?_;clear hF hA;intro b1 w1 hA hb1 hF)
   refine(ZaX (hA.sep1 sR) h0 h1 hf).mono ?_;unfold Ses.info;rw[hd,ho];rintro e w1 ⟨rfl,hT⟩;replace hA:=hA.call1 sR hT;clear hF hT;obtain⟨hA,hF⟩:=fY hA
   go_wp2_with (first|((with_reducible refine gst ?_);refine wTy hA ?_;clear hF hA;intro w1 hA hF)|((with_reducible refine gal ?_);refine g4 hA ?_;clear hF hA;intro b1 w1 hA hb1 hF))
   go_ret;exact⟨rfl,hA.only1 sR⟩
 have e1:openE (look ss n f) (cnt ss f)=50:=by simp[openE,hd]
 rw[e1];go_enter Tryz.func63,Tryz.ntmps63
 go_wp2_with ((with_reducible refine gbx ?_);refine wCy hA ?_;clear hF hA;intro b1 w1 hA hb1 hF)
 refine(ZaX (hA.sep1 sR) h0 h1 hf).mono ?_;unfold Ses.info;rw[hd];rintro e w1 ⟨rfl,hT⟩;replace hA:=hA.call1 sR hT;clear hF hT;obtain⟨hA,hF⟩:=fY hA
 go_wp2_with (first|((with_reducible refine gst ?_);refine wTy hA ?_;clear hF hA;intro w1 hA hF)|((with_reducible refine gal ?_);refine g4 hA ?_;clear hF hA;intro b1 w1 hA hb1 hF))
 go_ret;exact⟨rfl,hA.only1 sR⟩
def Zno (p m:Nat) (ss:List Ses) (n:Int) (f:ByteArray) (ttl time:Int) (w:World) (e:Ending) (w':World):Prop:=
 ∃b t,e=.returned (.int .i64 0)∧At [BookP p m ss] w [BookP p m (ss++[(fresh n f b t).opened ttl time])] w'
theorem Zmr {w:World} {p m:Nat} {ss:List Ses} (h:Sep [BookP p m ss] w) {n:Int} {f:ByteArray} (h0:0≤n) (h1:n < big64) (hf:f.size≤maxLen) (hl:ss.length≤1000000000) (ttl time:Int) (hn:find ss n f=none) (hc:cnt ss f < 32):
 Calls Tryz.prog 63 #[.pointer (some ⟨p,0,none⟩),.agg #[.int .u64 n,.string f],.int .i64 ttl,.int .i64 time] w (Zno p m ss n f ttl time w):=by
 have hA:=At.start h;have hF:=hA.facts;clear h;have hk:look ss n f=fresh n f 0 0:=by unfold look;rw[hn];rfl
 have hd:(look ss n f).dead=false:=by rw[hk];rfl
 have ho:(look ss n f).op=false:=by rw[hk];rfl
 have hc':(cnt ss f:Int) < 32:=by omega
 clear hk;go_enter Tryz.func63,Tryz.ntmps63
 go_wp2_with ((with_reducible refine gbx ?_);refine wCy hA ?_;clear hF hA;intro b1 w1 hA hb1 hF)
 refine(ZaX (hA.sep1 sR) h0 h1 hf).mono ?_;unfold Ses.info;rw[hd,ho];rintro e w1 ⟨rfl,hT⟩;replace hA:=hA.call1 sR hT;clear hF hT;obtain⟨hA,hF⟩:=fY hA
 go_wp2_with (first|((with_reducible refine gst ?_);refine wTy hA ?_;clear hF hA;intro w1 hA hF)|((with_reducible refine gal ?_);refine g4 hA ?_;clear hF hA;intro b1 w1 hA hb1 hF))
 refine(Zgb (hA.sep1 sR) f hl).mono ?_;rintro e w1 ⟨rfl,hT⟩;replace hA:=hA.call1 sR hT;clear hF hT;obtain⟨hA,hF⟩:=fY hA;go_wp2_with fail;refine(Zjx (hA.sep1 sR) h0 h1 hf hn).mono ?_;rintro e w1 ⟨b,t,rfl,hT⟩;have hB:=hA.call1 sR hT;clear hF hA hT;have hA:=open1 (l1:=ss) (l2:=[]) (s:=fresh n f b t) hB sZ;clear hB;simp only[Ses.cells,fresh] at hA;obtain⟨hA,hF⟩:=fY hA;go_wp2_with fail;refine(ZdR _ _ _).mono ?_;rintro e _ ⟨rfl,rfl⟩;go_wp2_with fail;refine(ZeX _ _).mono ?_;rintro e _ ⟨rfl,rfl⟩
 go_wp2_with ((with_reducible refine gst ?_);refine wTy hA ?_;clear hF hA;intro w1 hA hF)
 go_ret;refine⟨b,t,rfl,?_⟩;have e2:ents (ss++[fresh n f b t])=ents (ss++[(fresh n f b t).opened ttl time]):=by simp[ents,ent,Ses.key,Ses.ptr,fresh,Ses.opened]
 simp only[fresh] at e2;rw[e2] at hA;exact ZcR (m:=m) (l1:=ss) (l2:=[]) (s:=(fresh n f b t).opened ttl time) hA sR sZ sZ sZ sZ
theorem Zmq {w:World} {p m:Nat} {l1 l2:List Ses} {s:Ses} (h:Sep [BookP p m (l1++s::l2)] w) {n:Int} {f:ByteArray} (h0:0≤n) (h1:n < big64) (hf:f.size≤maxLen) (hl:(l1++s::l2).length≤1000000000) (ttl time:Int) (hn:find (l1++s::l2) n f=some s) (hc:cnt (l1++s::l2) f < 32) (hsd:s.dead=false) (hso:s.op=false):
 Calls Tryz.prog 63 #[.pointer (some ⟨p,0,none⟩),.agg #[.int .u64 n,.string f],.int .i64 ttl,.int .i64 time] w fun e w'=>e=.returned (.int .i64 0)∧At [BookP p m (l1++s::l2)] w [BookP p m (l1++s.opened ttl time::l2)] w':=by
 have hA:=At.start h;have hF:=hA.facts;clear h;have hk:look (l1++s::l2) n f=s:=by unfold look;rw[hn];rfl
 have hd:(look (l1++s::l2) n f).dead=false:=by rw[hk];exact hsd
 have ho:(look (l1++s::l2) n f).op=false:=by rw[hk];exact hso
 have hc':(cnt (l1++s::l2) f:Int) < 32:=by omega
 clear hk hsd hso;go_enter Tryz.func63,Tryz.ntmps63
 go_wp2_with ((with_reducible refine gbx ?_);refine wCy hA ?_;clear hF hA;intro b1 w1 hA hb1 hF)
 refine(ZaX (hA.sep1 sR) h0 h1 hf).mono ?_;unfold Ses.info;rw[hd,ho];rintro e w1 ⟨rfl,hT⟩;replace hA:=hA.call1 sR hT;clear hF hT;obtain⟨hA,hF⟩:=fY hA
 go_wp2_with (first|((with_reducible refine gst ?_);refine wTy hA ?_;clear hF hA;intro w1 hA hF)|((with_reducible refine gal ?_);refine g4 hA ?_;clear hF hA;intro b1 w1 hA hb1 hF))
 refine(Zgb (hA.sep1 sR) f hl).mono ?_;rintro e w1 ⟨rfl,hT⟩;replace hA:=hA.call1 sR hT;clear hF hT;obtain⟨hA,hF⟩:=fY hA;go_wp2_with fail;refine(Zfu (hA.sep1 sR) h0 h1 hf hn).mono ?_;rintro e w1 ⟨rfl,hT⟩;replace hA:=hA.call1 sR hT;clear hF hT;obtain⟨hA,hF⟩:=fY hA;have hA:=open1 hA sR;simp only[Ses.cells] at hA;obtain⟨hA,hF⟩:=fY hA;go_wp2_with fail;refine(ZdR _ _ _).mono ?_;rintro e _ ⟨rfl,rfl⟩;go_wp2_with fail;refine(ZeX _ _).mono ?_;rintro e _ ⟨rfl,rfl⟩
 go_wp2_with ((with_reducible refine gst ?_);refine wTy hA ?_;clear hF hA;intro w1 hA hF)
 go_ret;refine⟨rfl,?_⟩;have e2:ents (l1++s::l2)=ents (l1++s.opened ttl time::l2):=by simp[ents,ent,Ses.key,Ses.ptr,Ses.opened]
 rw[e2] at hA;exact ZcR (m:=m) (s:=s.opened ttl time) hA sR sZ sZ sZ sZ
end Lease
end
section
namespace Lease
open Go.RowKit
open Go.Maps (Keyed)
theorem ZnH {w:World} {p m:Nat} {ss:List Ses} (h:Sep [BookP p m ss] w) {n:Int} {f:ByteArray} (h0:0≤n) (h1:n < big64) (hf:f.size≤maxLen) (ho:(look ss n f).op=false):
 Calls Tryz.prog 62 #[.pointer (some ⟨p,0,none⟩),.agg #[.int .u64 n,.string f]] w fun e w'=>e=.returned (.int .i64 50)∧At [BookP p m ss] w [BookP p m ss] w':=by
 have hA:=At.start h;have hF:=hA.facts;clear h;have hfd:∀a b c d e w,(Instr.field 137 (.agg #[a,b,c,d,e]) 0).run Tryz.prog w=.ok a w:=fun _ _ _ _ _ _=>by kernel_rfl
 go_enter Tryz.func62,Tryz.ntmps62
 go_wp2_with ((with_reducible refine gbx ?_);refine wCy hA ?_;clear hF hA;intro b1 w1 hA hb1 hF)
 refine(ZaX (hA.sep1 sR) h0 h1 hf).mono ?_;unfold Ses.info;rw[ho];rintro e w1 ⟨rfl,hT⟩;replace hA:=hA.call1 sR hT;clear hF hT;obtain⟨hA,hF⟩:=fY hA;go_wp2_with fail;go_ret;exact⟨rfl,hA.only1 sR⟩
theorem Zlk {w:World} {p m:Nat} {l1 l2:List Ses} {s:Ses} (h:Sep [BookP p m (l1++s::l2)] w) {n:Int} {f:ByteArray} (h0:0≤n) (h1:n < big64) (hf:f.size≤maxLen) (hn:find (l1++s::l2) n f=some s) (hso:s.op=true):
 Calls Tryz.prog 62 #[.pointer (some ⟨p,0,none⟩),.agg #[.int .u64 n,.string f]] w fun e w'=>e=.returned (.int .i64 0)∧At [BookP p m (l1++s::l2)] w [BookP p m (l1++s.ended::l2)] w':=by
 obtain⟨kl,hk⟩:=keyS h0 h1 hf;have hmem:=Hd (find_mem hn);have hA:=At.start h;have hF:=hA.facts;clear h;have hk':look (l1++s::l2) n f=s:=by unfold look;rw[hn];rfl
 have ho:(look (l1++s::l2) n f).op=true:=by rw[hk'];exact hso
 clear hk' hso;unfold keyV at *
 have hfd:∀a b c d e w,(Instr.field 137 (.agg #[a,b,c,d,e]) 0).run Tryz.prog w=.ok a w:=fun _ _ _ _ _ _=>by kernel_rfl
 go_enter Tryz.func62,Tryz.ntmps62
 go_wp2_with ((with_reducible refine gbx ?_);refine wCy hA ?_;clear hF hA;intro b1 w1 hA hb1 hF)
 refine(ZaX (hA.sep1 sR) h0 h1 hf).mono ?_;unfold Ses.info;rw[ho];rintro e w1 ⟨rfl,hT⟩;replace hA:=hA.call1 sR hT;clear hF hT;obtain⟨hA,hF⟩:=fY hA;go_wp2_with fail;have hA:=open1 hA sR;simp only[Ses.cells] at hA;obtain⟨hA,hF⟩:=fY hA
 have hl:∀q,(Instr.lookup 111 (.map (some m)) (.agg #[.int .u64 n,.string f]) false).run Tryz.prog (w1.drewN q)=.ok s.ptr (w1.drewN q):=fun q=>
  MapAt.look_some (w:=w1.drewN q) ((hA.drewN q).get (A:=mapC m (ents (l1++s::l2))) sR) lawS Tryz.underlying111 hk hmem.out false
 unfold Ses.ptr at hl;(refine Zaj 9 (fun w'=>∃n,w'=World.drewN _ n) (by kernel_rfl) (by kernel_rfl) ⟨1,rfl⟩ ?_);(simp only[List.take_succ_cons,List.take_zero,List.drop_succ_cons,List.drop_zero]);(repeat(first|go_big_quiet_step (fail)|quiet_step (fail)));(refine wpQuiet_nil ?_);(rintro _ ⟨nq,rfl⟩)
 have hA:=hA.drewN nq;generalize World.drewN _ nq=w1 at *;clear hF;obtain⟨hA,hF⟩:=fY hA
 go_wp2_with ((with_reducible refine gst ?_);refine wTy hA ?_;clear hF hA;intro w1 hA hF)
 go_ret;refine⟨rfl,?_⟩;have e2:ents (l1++s::l2)=ents (l1++s.ended::l2):=by simp[ents,ent,Ses.key,Ses.ptr,Ses.ended]
 rw[e2] at hA;exact ZcR (m:=m) (s:=s.ended) hA sR sZ sZ sZ sZ
theorem Zhl {w:World} {p m:Nat} {ss:List Ses} (h:Sep [BookP p m ss] w) {n:Int} {f:ByteArray} (h0:0≤n) (h1:n < big64) (hf:f.size≤maxLen) (time:Int) (ho:(look ss n f).op=true) (ht:time < (look ss n f).dl):
 Calls Tryz.prog 37 #[.pointer (some ⟨p,0,none⟩),.agg #[.int .u64 n,.string f],.int .i64 time] w fun e w'=>e=.returned (.int .i64 54)∧At [BookP p m ss] w [BookP p m ss] w':=by
 have hA:=At.start h;have hF:=hA.facts;clear h;go_enter Tryz.func37,Tryz.ntmps37
 go_wp2_with ((with_reducible refine gbx ?_);refine wCy hA ?_;clear hF hA;intro b1 w1 hA hb1 hF)
 refine(ZaX (hA.sep1 sR) h0 h1 hf).mono ?_;unfold Ses.info;rw[ho];rintro e w1 ⟨rfl,hT⟩;replace hA:=hA.call1 sR hT;clear hF hT;obtain⟨hA,hF⟩:=fY hA
 go_wp2_with (first|((with_reducible refine gst ?_);refine wTy hA ?_;clear hF hA;intro w1 hA hF)|((with_reducible refine gal ?_);refine g4 hA ?_;clear hF hA;intro b1 w1 hA hb1 hF))
 go_ret;exact⟨rfl,hA.only1 sR⟩
theorem Zlg {w:World} {p m:Nat} {ss:List Ses} (h:Sep [BookP p m ss] w) {n:Int} {f:ByteArray} (h0:0≤n) (h1:n < big64) (hf:f.size≤maxLen) (time:Int) (ho:(look ss n f).op=false):
 Calls Tryz.prog 37 #[.pointer (some ⟨p,0,none⟩),.agg #[.int .u64 n,.string f],.int .i64 time] w fun e w'=>e=.returned (.int .i64 50)∧At [BookP p m ss] w [BookP p m ss] w':=by
 have hA:=At.start h;have hF:=hA.facts;clear h;go_enter Tryz.func37,Tryz.ntmps37
 go_wp2_with ((with_reducible refine gbx ?_);refine wCy hA ?_;clear hF hA;intro b1 w1 hA hb1 hF)
 refine(ZaX (hA.sep1 sR) h0 h1 hf).mono ?_;unfold Ses.info;rw[ho];rintro e w1 ⟨rfl,hT⟩;replace hA:=hA.call1 sR hT;clear hF hT;obtain⟨hA,hF⟩:=fY hA
 go_wp2_with (first|((with_reducible refine gst ?_);refine wTy hA ?_;clear hF hA;intro w1 hA hF)|((with_reducible refine gal ?_);refine g4 hA ?_;clear hF hA;intro b1 w1 hA hb1 hF))
 refine(ZnH (hA.sep1 sR) h0 h1 hf ho).mono ?_;rintro e w1 ⟨rfl,hT⟩;replace hA:=hA.call1 sR hT;clear hF hT;obtain⟨hA,hF⟩:=fY hA;go_wp2_with fail;go_ret;exact⟨rfl,hA.only1 sR⟩
theorem ZjG {w:World} {p m:Nat} {l1 l2:List Ses} {s:Ses} (h:Sep [BookP p m (l1++s::l2)] w) {n:Int} {f:ByteArray} (h0:0≤n) (h1:n < big64) (hf:f.size≤maxLen) (time:Int) (hn:find (l1++s::l2) n f=some s) (hso:s.op=true) (ht:s.dl≤time):
 Calls Tryz.prog 37 #[.pointer (some ⟨p,0,none⟩),.agg #[.int .u64 n,.string f],.int .i64 time] w fun e w'=>e=.returned (.int .i64 0)∧At [BookP p m (l1++s::l2)] w [BookP p m (l1++s.ended::l2)] w':=by
 have hA:=At.start h;have hF:=hA.facts;clear h;have hk':look (l1++s::l2) n f=s:=by unfold look;rw[hn];rfl
 have ho:(look (l1++s::l2) n f).op=true:=by rw[hk'];exact hso
 have ht':decide (time < (look (l1++s::l2) n f).dl)=false:=by rw[hk'];simp;omega
 clear hk';go_enter Tryz.func37,Tryz.ntmps37
 go_wp2_with ((with_reducible refine gbx ?_);refine wCy hA ?_;clear hF hA;intro b1 w1 hA hb1 hF)
 refine(ZaX (hA.sep1 sR) h0 h1 hf).mono ?_;unfold Ses.info;rw[ho];rintro e w1 ⟨rfl,hT⟩;replace hA:=hA.call1 sR hT;clear hF hT;obtain⟨hA,hF⟩:=fY hA
 go_wp2_with (first|((with_reducible refine gst ?_);refine wTy hA ?_;clear hF hA;intro w1 hA hF)|((with_reducible refine gal ?_);refine g4 hA ?_;clear hF hA;intro b1 w1 hA hb1 hF))
 refine(Zlk (hA.sep1 sR) h0 h1 hf hn hso).mono ?_;rintro e w1 ⟨rfl,hT⟩;replace hA:=hA.call1 sR hT;clear hF hT;obtain⟨hA,hF⟩:=fY hA;go_wp2_with fail;go_ret;exact⟨rfl,hA.only1 sR⟩
end Lease
end
section
namespace Lease
open Go.RowKit
open Go.Maps (Keyed)
def Ses.kept (s:Ses) (time:Int):Ses:={s with dl:=if s.dl < endI time s.ttl then endI time s.ttl else s.dl}
theorem Zoq {w:World} {p m:Nat} {ss:List Ses} (h:Sep [BookP p m ss] w) {n:Int} {f:ByteArray} (h0:0≤n) (h1:n < big64) (hf:f.size≤maxLen) (time:Int) (ho:(look ss n f).op=false):
 Calls Tryz.prog 64 #[.pointer (some ⟨p,0,none⟩),.agg #[.int .u64 n,.string f],.int .i64 time] w fun e w'=>e=.returned (.int .i64 50)∧At [BookP p m ss] w [BookP p m ss] w':=by
 have hA:=At.start h;have hF:=hA.facts;clear h;have hfd:∀a b c d e w,(Instr.field 137 (.agg #[a,b,c,d,e]) 0).run Tryz.prog w=.ok a w:=fun _ _ _ _ _ _=>by kernel_rfl
 go_enter Tryz.func64,Tryz.ntmps64
 go_wp2_with ((with_reducible refine gbx ?_);refine wCy hA ?_;clear hF hA;intro b1 w1 hA hb1 hF)
 refine(ZaX (hA.sep1 sR) h0 h1 hf).mono ?_;unfold Ses.info;rw[ho];rintro e w1 ⟨rfl,hT⟩;replace hA:=hA.call1 sR hT;clear hF hT;obtain⟨hA,hF⟩:=fY hA;go_wp2_with fail;go_ret;exact⟨rfl,hA.only1 sR⟩
theorem ZmE {w:World} {p m:Nat} {l1 l2:List Ses} {s:Ses} (h:Sep [BookP p m (l1++s::l2)] w) {n:Int} {f:ByteArray} (h0:0≤n) (h1:n < big64) (hf:f.size≤maxLen) (time:Int) (hn:find (l1++s::l2) n f=some s) (hso:s.op=true):
 Calls Tryz.prog 64 #[.pointer (some ⟨p,0,none⟩),.agg #[.int .u64 n,.string f],.int .i64 time] w fun e w'=>e=.returned (.int .i64 0)∧At [BookP p m (l1++s::l2)] w [BookP p m (l1++s.kept time::l2)] w':=by
 obtain⟨kl,hk⟩:=keyS h0 h1 hf;have hmem:=Hd (find_mem hn);have hA:=At.start h;have hF:=hA.facts;clear h;have hk':look (l1++s::l2) n f=s:=by unfold look;rw[hn];rfl
 have ho:(look (l1++s::l2) n f).op=true:=by rw[hk'];exact hso
 clear hk' hso;unfold keyV at *
 have hfd:∀a b c d e w,(Instr.field 137 (.agg #[a,b,c,d,e]) 0).run Tryz.prog w=.ok a w:=fun _ _ _ _ _ _=>by kernel_rfl
 go_enter Tryz.func64,Tryz.ntmps64
 go_wp2_with ((with_reducible refine gbx ?_);refine wCy hA ?_;clear hF hA;intro b1 w1 hA hb1 hF)
 refine(ZaX (hA.sep1 sR) h0 h1 hf).mono ?_;unfold Ses.info;rw[ho];rintro e w1 ⟨rfl,hT⟩;replace hA:=hA.call1 sR hT;clear hF hT;obtain⟨hA,hF⟩:=fY hA;go_wp2_with fail;have hA:=open1 hA sR;simp only[Ses.cells] at hA;obtain⟨hA,hF⟩:=fY hA
 have hl:∀q,(Instr.lookup 111 (.map (some m)) (.agg #[.int .u64 n,.string f]) false).run Tryz.prog (w1.drewN q)=.ok s.ptr (w1.drewN q):=fun q=>
  MapAt.look_some (w:=w1.drewN q) ((hA.drewN q).get (A:=mapC m (ents (l1++s::l2))) sR) lawS Tryz.underlying111 hk hmem.out false
 unfold Ses.ptr at hl;go_quiet (fail)
 have hA:=hA.drewN nq;generalize World.drewN _ nq=w1 at *;clear hF;obtain⟨hA,hF⟩:=fY hA
 go_wp2_with fail;have hd:s.dl < endI time s.ttl∨¬s.dl < endI time s.ttl:=by omega
 have e2:ents (l1++s::l2)=ents (l1++s.kept time::l2):=by simp[ents,ent,Ses.key,Ses.ptr,Ses.kept]
 have e2':=Hd e2;clear e2;rcases hd with hd|hd
 · have hkc:s.kept time={s with dl:=endI time s.ttl}:=by unfold Ses.kept;rw[if_pos hd]
   have hkc':=Hd hkc;clear hkc;(refine Zaj 14 (fun w'=>∃n,w'=World.drewN _ n) (by kernel_rfl) (by kernel_rfl) ⟨1,rfl⟩ ?_);(simp only[List.take_succ_cons,List.take_zero,List.drop_succ_cons,List.drop_zero]);(repeat(first|go_big_quiet_step (exact(ZdR _ _ _).mono fun _ _ ⟨he,hw⟩=>⟨he,_,hw.symm⟩)|quiet_step (exact(ZdR _ _ _).mono fun _ _ ⟨he,hw⟩=>⟨he,_,hw.symm⟩)));(refine wpQuiet_nil ?_);(rintro _ ⟨nq,rfl⟩)
   have hA:=hA.drewN nq;generalize World.drewN _ nq=w1 at *;clear hF;obtain⟨hA,hF⟩:=fY hA
   go_wp2_with ((with_reducible refine gst ?_);refine wTy hA ?_;clear hF hA;intro w1 hA hF)
   go_ret;refine⟨rfl,?_⟩;rw[e2'.out,hkc'.out] at hA;rw[hkc'.out];exact ZcR (m:=m) (s:={s with dl:=endI time s.ttl}) hA sR sZ sZ sZ sZ
 have hkc:s.kept time=s:=by unfold Ses.kept;rw[if_neg hd]
 have hd':endI time s.ttl≤s.dl:=by omega
 have hkc':=Hd hkc;clear hkc;(refine Zaj 14 (fun w'=>∃n,w'=World.drewN _ n) (by kernel_rfl) (by kernel_rfl) ⟨1,rfl⟩ ?_);(simp only[List.take_succ_cons,List.take_zero,List.drop_succ_cons,List.drop_zero]);(repeat(first|go_big_quiet_step (exact(ZdR _ _ _).mono fun _ _ ⟨he,hw⟩=>⟨he,_,hw.symm⟩)|quiet_step (exact(ZdR _ _ _).mono fun _ _ ⟨he,hw⟩=>⟨he,_,hw.symm⟩)));(refine wpQuiet_nil ?_);(rintro _ ⟨nq,rfl⟩)
 have hA:=hA.drewN nq;generalize World.drewN _ nq=w1 at *;clear hF;obtain⟨hA,hF⟩:=fY hA
 go_wp2_with ((with_reducible refine gst ?_);refine wTy hA ?_;clear hF hA;intro w1 hA hF)
 go_ret;refine⟨rfl,?_⟩;rw[e2'.out,hkc'.out] at hA;rw[hkc'.out];exact ZcR (m:=m) (s:=s) hA sR sZ sZ sZ sZ
end Lease
end
section
namespace Lease
open Go.RowKit
def toldV (o:Option Ans):Value:=match o with
 |some a=>.tuple #[.agg #[.int .i64 a.e,.int .u64 a.n,.bool a.g],.bool true]
 |none=>.tuple #[.agg #[.int .i64 0,.int .u64 0,.bool false],.bool false]
theorem ZlZ {w:World} {p m:Nat} {ss:List Ses} (h:Sep [BookP p m ss] w) {n r:Int} {f:ByteArray} (h0:0≤n) (h1:n < big64) (hf:f.size≤maxLen) (r0:0≤r) (r1:r < big64):
 Calls Tryz.prog 38 #[.pointer (some ⟨p,0,none⟩),.agg #[.int .u64 n,.string f],.int .u64 r] w fun e w'=>e=.returned (toldV (said (look ss n f).told r))∧At [BookP p m ss] w [BookP p m ss] w':=by
 cases hn:find ss n f with
 |none=>
  have hlk:look ss n f=fresh n f 0 0:=by unfold look;rw[hn];rfl
  rw[hlk,show said (fresh n f 0 0).told r=none from rfl];exact Zgx h h0 h1 hf hn
 |some s=>
  have hlk:look ss n f=s:=by unfold look;rw[hn];rfl
  rw[hlk]
  cases hr:said s.told r with
  |none=>exact Zf1 h h0 h1 hf hn r0 r1 hr
  |some a=>exact Zis h h0 h1 hf hn r0 r1 hr
end Lease
end
end Go.Proofs.YtbeckijoabapkaaGreatDoor
section
namespace Go
section
variable {P:Program} {ops:Array Oper} {md:Region.Mode} {C:Bool→World→Prop} {k:Nat}
def ZcJ (md:Region.Mode) (ops:Array Oper) (k:Nat):Nat→Nat→Bool
 |0,_=>false
 |f + 1,i=>match ops[i]? with
  |some o=>o.after.any fun e=>Region.binds md e&&(e.on==k || ZcJ md ops k f e.on)
  |none=>false
def leg (md:Region.Mode) (ops:Array Oper) (k i:Nat) (c c':Bool):Prop:=
 if i=k then c=false∧c'=true else if ZcJ md ops k ops.size i=true then c=true∧c'=true else c=c'
def Oper.turnUpon (P:Program) (C:World→Prop) (w:World) (v:Value):Result Next→Prop
 |.ok (.value u) w'=>w'=w∧u=v∧C w
 |.ok .skip w'=>w'=w∧v=undef∧C w
 |.ok (.enter f args) w'=>w'=w∧Calls P f args w (fun e w''=>e=.returned v∧C w'')
 |_=>False
def Oper.turnAt (P:Program) (o:Oper) (a:Act) (C:World→Prop) (w:World) (v:Value):Prop:=Oper.turnUpon P C w v ((execOp a.eval o).run P w)
def Oper.quietL (P:Program) (o:Oper) (a:Act) (C:Bool→World→Prop) (R:Bool→Bool→Prop) (next:Act→Prop):Prop:=
 ∃v,(∀c c',R c c'→∀w,C c w→o.turnAt P a (C c') w v)∧next (a.put o.dst v)
def ZaP (P:Program) (md:Region.Mode) (ops:Array Oper) (C:Bool→World→Prop) (k:Nat) (Q:Act→Prop):Nat→List Oper→Act→Prop
 |_,[],a=>Q a
 |n,o::rest,a=>if Region.wanted o (yielded ops a.tmps) then o.quietL P a C (leg md ops k n) (ZaP P md ops C k Q (n + 1) rest) else n≠k∧ZaP P md ops C k Q (n + 1) rest (a.put o.dst undef)
theorem Zgq {Q:Act→Prop} {n:Nat} {a:Act} (h:Q a):ZaP P md ops C k Q n [] a:=h
theorem Zby {Q:Act→Prop} {n:Nat} {a:Act} {o:Oper} {rest:List Oper}
 (h:∀K:Act→Prop,(∀a,ZaP P md ops C k Q (n + 1) rest a→K a)→if Region.wanted o (yielded ops a.tmps) then o.quietL P a C (leg md ops k n) K else n≠k∧K (a.put o.dst undef)):ZaP P md ops C k Q n (o::rest) a:=h _ (fun _ h=>h)
def qOpL (P:Program) (md:Region.Mode) (ops:Array Oper) (C:Bool→World→Prop) (k i:Nat) (K:Act→Prop) (a:Act):Prop:=
 match ops[i]? with
 |none=>i≠k∧K a
 |some o=>if Region.wanted o (yielded ops a.tmps) then o.quietL P a C (leg md ops k i) K else i≠k∧K (a.put o.dst undef)
theorem Oper.quietL_mono {o:Oper} {a:Act} {R:Bool→Bool→Prop} {K K':Act→Prop} (h:∀a,K a→K' a) (hh:o.quietL P a C R K):o.quietL P a C R K':=
 let ⟨v,h1,h2⟩:=hh
 ⟨v,h1,h _ h2⟩
theorem Zkp {i:Nat} {a:Act} {K K':Act→Prop} (h:∀a,K a→K' a) (hh:qOpL P md ops C k i K a):qOpL P md ops C k i K' a:=by
 unfold qOpL at *
 split
 · rename_i ho;simp only[ho] at hh;exact⟨hh.1,h _ hh.2⟩
 rename_i o ho;simp only[ho] at hh;split
 · rename_i hw;simp only[hw,if_true] at hh;exact Oper.quietL_mono h hh
 rename_i hw;simp only[hw] at hh;exact⟨hh.1,h _ hh.2⟩
def Zbv (P:Program) (md:Region.Mode) (ops:Array Oper) (C:Bool→World→Prop) (k i:Nat) (o:Oper) (v:Value) (a:Act):Prop:=
 (Region.wanted o (yielded ops a.tmps)=true∧∀c c',leg md ops k i c c'→∀w,C c w→o.turnAt P a (C c') w v)∨
 (Region.wanted o (yielded ops a.tmps)=false∧i≠k∧v=undef)
theorem Zbv.qOp {i:Nat} {o:Oper} {v:Value} {a:Act} (hi:ops[i]? =some o) (hy:Zbv P md ops C k i o v a) {K:Act→Prop} (h:K (a.put o.dst v)):qOpL P md ops C k i K a:=by
 unfold qOpL;simp only[hi];rcases hy with⟨hw,hv⟩|⟨hw,hik,rfl⟩
 · simp only[hw,if_true];exact⟨v,hv,h⟩
 simp only[hw,Bool.false_eq_true,if_false];exact⟨hik,h⟩
theorem Zbv.of_same {i:Nat} {o:Oper} {v:Value} {a a':Act} (hy:Zbv P md ops C k i o v a) (he:execOp a'.eval o=execOp a.eval o)
 (hw:Region.wanted o (yielded ops a'.tmps)=Region.wanted o (yielded ops a.tmps)):Zbv P md ops C k i o v a':=by
 unfold Zbv Oper.turnAt at *
 rw[he,hw];exact hy
theorem Ze6 {i:Nat} {o:Oper} {a:Act} {K:Act→Prop} (hi:ops[i]? =some o) (h:qOpL P md ops C k i K a):∃v,Zbv P md ops C k i o v a∧K (a.put o.dst v):=by
 unfold qOpL at h;simp only[hi] at h;by_cases hw:Region.wanted o (yielded ops a.tmps)=true
 · simp only[hw,if_true] at h;obtain⟨v,h1,h2⟩:=h;exact⟨v,.inl ⟨hw,h1⟩,h2⟩
 simp only[hw] at h;exact⟨undef,.inr ⟨by simpa using hw,h.1,rfl⟩,h.2⟩
theorem Zmj {i j:Nat} {oi oj:Oper} {v:Value} (hj:ops[j]? =some oj) (hap:oi.apart ops oj=true)
 (hsi:∀cs b,oi.op≠.select cs b) (hsj:∀cs b,oj.op≠.select cs b) {K:Act→Prop} {a:Act}
 (hy:Zbv P md ops C k i oi v a) (h:qOpL P md ops C k j K (a.put oi.dst v)):
 qOpL P md ops C k j (fun a'=>Zbv P md ops C k i oi v a'∧K (a'.put oi.dst v)) a:=by
 obtain⟨h1,h2,h3⟩:=Oper.apart_spec hap
 have keep:∀(a:Act),Zbv P md ops C k i oi v a→∀u,Zbv P md ops C k i oi v (a.put oj.dst u):=fun a hy u=>
  hy.of_same (execOp_put oi hsi a oj.dst u h3) (wanted_put oi a oj.dst u h3)
 unfold qOpL at *
 simp only[hj] at *
 rw[wanted_put oj a oi.dst v h1] at h;split
 · rename_i hw;simp only[hw,if_true] at h;obtain⟨u,hu,hn⟩:=h;refine⟨u,fun c c' hR w hw'=> ?_,keep a hy u,by rw[←Act.put_comm a v u h2];exact hn⟩;have:=hu c c' hR w hw';unfold Oper.turnAt at *
   rwa [execOp_put oj hsj a oi.dst v h1] at this
 rename_i hw;simp only[hw] at h;exact⟨h.1,keep a hy _,by rw[←Act.put_comm a v undef h2];exact h.2⟩
theorem ZdW {n:Nat} {listed:Array Bool} (inv:HeadInv md ops n listed):∀(f i:Nat),ZcJ md ops k f i=true→listed.getD i false=true→listed.getD k false=true
 |0,_,h,_=>by simp[ZcJ] at h
 |f + 1,i,h,hi=>by
  unfold ZcJ at h;split at h
  · rename_i o ho;obtain⟨e,he,hb⟩:=Array.any_eq_true'.1 h;simp only[Bool.and_eq_true,Bool.or_eq_true,beq_iff_eq] at hb;have hl:=inv.closed i o ho hi e he hb.1;rcases hb.2 with hk|hk
    · rw[←hk];exact hl
    exact ZdW inv f e.on hk hl
  exact absurd h (by simp)
theorem ZhE {n:Nat} {listed:Array Bool} (inv:HeadInv md ops n listed) {i:Nat} (hr:i ∈ Region.ready md ops listed):∀(f:Nat),ZcJ md ops k f i=true→listed.getD k false=true
 |0,h=>by simp[ZcJ] at h
 |f + 1,h=>by
  obtain⟨_,oi,hoi,hall⟩:=mem_ready.1 hr;unfold ZcJ at h;simp only[hoi] at h;obtain⟨e,he,hb⟩:=Array.any_eq_true'.1 h;simp only[Bool.and_eq_true,Bool.or_eq_true,beq_iff_eq] at hb;have hl:=hall e he hb.1;rcases hb.2 with hk|hk
  · rw[←hk];exact hl
  exact ZdW inv f e.on hk hl
def Zel (P:Program) (md:Region.Mode) (ops:Array Oper) (C:Bool→World→Prop) (k n:Nat) (L:Array Bool→Act→Prop):Nat→Array Bool→Act→Prop
 |0,listed,a=>L listed a
 |f + 1,listed,a=>
  Region.ready md ops listed≠[]∧∀i ∈ Region.ready md ops listed,i < n∧qOpL P md ops C k i (Zel P md ops C k n L f (listed.setIfInBounds i true)) a
theorem Oper.wp_of_quietL {o:Oper} {a:Act} {R:Bool→Bool→Prop} {K:Act→Prop} {K':Act→World→Prop} {Q':Exit→Act→World→Prop} {w:World} {c c':Bool} (hR:R c c') (hw:C c w) (h:∀a w',C c' w'→K a→K' a w') (hh:o.quietL P a C R K):o.wp P a w K' Q':=by
 obtain⟨v,h1,h2⟩:=hh;have h3:=h1 c c' hR w hw;unfold Oper.turnAt at h3;unfold Oper.wp;generalize (execOp a.eval o).run P w=r at *
 cases r with
 |ok n w'=>
  cases n<;>simp only[Oper.turnUpon] at h3<;>simp only[Oper.upon]
  case value u=>
   obtain⟨e1,e2,e3⟩:=h3;rw[e1,e2];exact h _ _ e3 h2
  case skip=>
   obtain⟨e1,e2,e3⟩:=h3;rw[e1,←e2];exact h _ _ e3 h2
  case enter f args=>
   obtain⟨e1,hc⟩:=h3;rw[e1];exact hc.mono fun e w'' ⟨he,hw''⟩=>by subst he;exact h _ _ hw'' h2
 |halt x w'=>simp only[Oper.turnUpon] at h3
theorem Zgs {n i:Nat} {listed:Array Bool} (inv:HeadInv md ops n listed) (hr:i ∈ Region.ready md ops listed) {a:Act} {K:Act→Prop} {K':Act→World→Prop} {Q':Exit→Act→World→Prop} {w:World} (hC:C (listed.getD k false) w)
 (h:∀a w',C ((listed.setIfInBounds i true).getD k false) w'→K a→K' a w') (hh:qOpL P md ops C k i K a):wpOp P ops Q' i K' a w:=by
 have hun:=(mem_ready.1 hr).1
 have his:i < listed.size:=by
  rcases Nat.lt_or_ge i listed.size with q|q
  · exact q
  rw[Array.getD_eq_getD_getElem?,Array.getElem?_eq_none q] at hun;cases hun
 have key:i≠k→(listed.setIfInBounds i true).getD k false=listed.getD k false:=fun hne=>getD_set_ne false hne;unfold qOpL at hh;unfold wpOp;split
 · rename_i ho;simp only[ho] at hh;exact h _ _ (by rw[key hh.1];exact hC) hh.2
 rename_i o ho;simp only[ho] at hh;split
 · rename_i hw;simp only[hw,if_true] at hh;refine .inl (Oper.wp_of_quietL (c:=listed.getD k false) (c':=(listed.setIfInBounds i true).getD k false) ?_ hC h hh);unfold leg;by_cases hik:i=k
   · subst hik;rw[if_pos rfl];exact⟨getD_both hun,by simp[his]⟩
   rw[if_neg hik,key hik];by_cases hwt:ZcJ md ops k ops.size i=true
   · rw[if_pos hwt];have:=ZhE inv hr _ hwt;exact⟨this,this⟩
   rw[if_neg hwt]
 rename_i hw;simp only[hw] at hh;exact h _ _ (by rw[key hh.1];exact hC) hh.2
theorem ZcI {n g:Nat} {L:Array Bool→Act→Prop} {Q':Exit→Act→World→Prop} (hL:∀listed a w,C (listed.getD k false) w→L listed a→wpAny P md ops Q' g listed a w):
 ∀(f:Nat) (listed:Array Bool) (a:Act) (w:World),HeadInv md ops n listed→C (listed.getD k false) w→Zel P md ops C k n L f listed a→wpAny P md ops Q' (f + g) listed a w
 |0,listed,a,w,_,hw,h=>by rw[Nat.zero_add];exact hL _ _ _ hw h
 |f + 1,listed,a,w,inv,hw,h=>by
  rw[show f + 1 + g=(f + g) + 1 by omega];exact⟨fun h0=>absurd h0 h.1,fun i hi=>Zgs inv hi hw (fun a' w' hw' h'=>ZcI hL f _ a' w' (inv.set hi (h.2 i hi).1) hw' h') (h.2 i hi).2⟩
theorem ZfW {n i:Nat} {oi:Oper} {v:Value} {L:Array Bool→Act→Prop} (hi:ops[i]? =some oi) (hsel:∀(j:Nat) (o:Oper) cs b,ops[j]? =some o→o.op≠.select cs b)
 (hs:Region.sinkB md ops n=true) (hc:Region.chainB md ops n=true) (hn:n < ops.size) (hin:i < n)
 (hdone:∀listed a,L listed a→∀j ∈ Region.ready md ops listed,n≤j):
 ∀(f:Nat) (listed:Array Bool) (a:Act),HeadInv md ops n listed→
  (∀j oj,ops[j]? =some oj→j≠i→listed.getD j true=false→(∀e ∈ oj.after,Region.binds md e=true→e.on≠i)→oi.apart ops oj=true)→
  i ∈ Region.ready md ops listed→Zbv P md ops C k i oi v a→
  Zel P md ops C k n L f (listed.setIfInBounds i true) (a.put oi.dst v)→Zel P md ops C k n L (f + 1) listed a:=by
 intro f
 induction f with
 |zero=>
  intro listed a inv _ hr hy H;have hun:=(mem_ready.1 hr).1;refine⟨fun h=>(by rw[h] at hr;cases hr),fun j hj=> ?_⟩
  have hjn:j < n:=by
   rcases Nat.lt_or_ge j n with h|h
   · exact h
   exact absurd hj (tail_waits hs hc hn inv _ i rfl hin hun j h)
  refine⟨hjn,?_⟩
  by_cases hji:j=i
  · subst hji;exact hy.qOp hi H
  have:=hdone _ _ H j (ready_mono hj hji)
  omega
 |succ f ih=>
  intro listed a inv hfree hr hy H;have hun:=(mem_ready.1 hr).1;refine⟨fun h=>(by rw[h] at hr;cases hr),fun j hj=> ?_⟩
  have hjn:j < n:=by
   rcases Nat.lt_or_ge j n with h|h
   · exact h
   exact absurd hj (tail_waits hs hc hn inv _ i rfl hin hun j h)
  refine⟨hjn,?_⟩
  by_cases hji:j=i
  · subst hji;exact hy.qOp hi H
  have h1:=(H.2 j (ready_mono hj hji)).2;obtain⟨hjun,oj,hoj,hall⟩:=mem_ready.1 hj
  have hnot:∀e ∈ oj.after,Region.binds md e=true→e.on≠i:=fun e he hb heq=>by
   have h1:=hall e he hb;rw[heq,getD_both hun] at h1;cases h1
  have h2:=Zmj (i:=i) hoj (hfree j oj hoj hji hjun hnot) (fun cs b=>hsel i oi cs b hi) (fun cs b=>hsel j oj cs b hoj) hy h1
  have hfree':∀t ot,ops[t]? =some ot→t≠i→(listed.setIfInBounds j true).getD t true=false→
   (∀e ∈ ot.after,Region.binds md e=true→e.on≠i)→oi.apart ops ot=true:=fun t ot ht hti hun hno=>by
   refine hfree t ot ht hti ?_ hno;by_cases hjt:j=t
   · subst hjt;exact hjun
   rw[getD_set_ne true hjt] at hun;exact hun
  refine Zkp (fun a' h3=>ih (listed.setIfInBounds j true) a' (inv.set hj hjn) hfree' (ready_mono hr (Ne.symm hji)) h3.1 ?_) h2;rw[Array.setIfInBounds_comm _ _ hji];exact h3.2
theorem Zek {n g:Nat} {Lq:Act→Prop} (hsel:Region.noSelect ops=true) (hs:Region.sinkB md ops n=true) (hc:Region.chainB md ops n=true) (hn:n < ops.size) (hkn:k < n):
 ∀(l:List Oper) (t:Nat) (listed:Array Bool) (a:Act),(∀j,j < l.length→l[j]? =ops[t + j]?)→t + l.length=n→HeadInv md ops n listed→(∀j,j < t→listed.getD j false=true)→
 Region.lexHead md ops g l.length t listed=true→ZaP P md ops C k Lq t l a→
 Zel P md ops C k n (fun listed' a'=>Region.seqB md ops g n listed'=true∧listed'.getD k false=true∧Lq a') l.length listed a
 |[],t,listed,a,_,ht,_,hd,hB,h=>by
  have:t=n:=by simpa using ht
  subst this;exact⟨by simpa [Region.lexHead] using hB,hd k hkn,h⟩
 |o::l,t,listed,a,hl,ht,inv,hd,hB,h=>by
  have h0:ops[t]? =some o:=by simpa using(hl 0 (by simp)).symm
  simp only[List.length_cons,Region.lexHead,Bool.and_eq_true] at hB;obtain⟨⟨hr,hf⟩,hB'⟩:=hB;have htn:t < n:=by simp only[List.length_cons] at ht;omega
  have hr':t ∈ Region.ready md ops listed:=by simpa using hr
  have hst:qOpL P md ops C k t (ZaP P md ops C k Lq (t + 1) l) a:=by unfold qOpL;simp only[h0];exact h
  obtain⟨v,hy,hK⟩:=Ze6 h0 hst;have hts:t < listed.size:=by rw[inv.size];omega
  exact ZfW h0 (Region.noSelect_spec hsel) hs hc hn htn (fun listed' a' hL=>seqB_ready hL.1) l.length listed a inv (Region.free_spec h0 hf) hr' hy
   (Zek hsel hs hc hn hkn l (t + 1) _ _ (fun j hj=>by have:=hl (j + 1) (by simp;omega);simpa [Nat.add_assoc,Nat.add_comm 1 j] using this) (by simp only[List.length_cons] at ht;omega) (inv.set hr' htn)
     (fun j hj=>by
       by_cases hjt:j=t
       · subst hjt;simp[hts]
       rw[getD_set_ne false (Ne.symm hjt)];exact hd j (by omega)) hB' hK)
theorem Ze8 {id:Nat} {Q:Exit→Act→World→Prop} {a:Act} {w:World} {l:List Oper} (n k:Nat) (C:Bool→World→Prop) (hm:P.follows .mixedOrders=true) (hB:Region.lexTailB .any l.toArray n=true) (hkn:k < n)
 (hC:C false w.drew) (h:ZaP P .any l.toArray C k (fun a'=>∀w',C true w'→wpList P l.toArray Q (l.drop n) a' w') 0 (l.take n) a):(Code.region id l.toArray true).wp P Q a w:=by
 simp only[Region.lexTailB,Bool.and_eq_true,decide_eq_true_eq] at hB;obtain⟨⟨⟨⟨hsel,hn⟩,hs⟩,hc⟩,hlex⟩:=hB;have hn':n < l.length:=by simpa using hn
 have htl:(l.take n).length=n:=by simp;omega
 have hdl:(l.drop n).length=l.toArray.size - n:=by simp
 have inv0:HeadInv .any l.toArray n (Array.replicate l.toArray.size false):=
  ⟨by simp,fun j oj _ hl=>(by rw[getD_replicate_false] at hl;cases hl),fun t _ ht=>getD_in (by simpa using ht) (getD_replicate_false _ _)⟩
 have H:=Zek (C:=C) (md:=.any) (g:=l.toArray.size - n) hsel hs hc hn hkn (l.take n) 0 _ a (fun j hj=>by
  have hj':j < n:=by rw[htl] at hj;exact hj
  simp[hj']) (by simpa using htl) inv0 (fun j hj=>by omega) (by rw[htl];exact hlex) h
 refine wp_region_any hm ?_
 have:=ZcI (Q':=Q) (g:=l.toArray.size - n) (fun listed a' w' hw' hL=>by
  rw[hL.2.1] at hw';have:=wpAny_of_seq (md:=.any) (Q':=Q) (l.drop n) n listed a' w' (fun j=>by simp[List.getElem?_drop]) (by rw[hdl];exact hL.1) (hL.2.2 w' hw')
  rwa [hdl] at this) _ _ _ _ inv0 (by rw[getD_replicate_false];exact hC) H
 rw[htl,show n + (l.toArray.size - n)=l.toArray.size by omega] at this;exact this
end
end Go
end
namespace Go.Proofs.YtbeckijoabapkaaGreatDoor
section
section
open Go.RowKit
section
variable {P:Program} {ops:Array Oper} {rest:List Oper} {o:Oper} {a:Act} {Q:Exit→Act→World→Prop} {L0 L F:List Part} {w0 w:World} {S:Nat}
theorem Zc7 {E:TypeId} {x:Operand} (hg:o.guard=none) (hop:o.op=.box E x) {v:Value} (hx:a.eval x=v) {vs:List Value} (hv:v.cells=vs.toArray) (h:At L0 w0 L w) (hS:w.heap.size=S)
 (hK:∀w',At L0 w0 (Part.cells S vs E::L) w'→w'.heap.size=S + 1→wpList P ops Q rest (a.put o.dst (.pointer (some ⟨S,0,none⟩))) w'):wpList P ops Q (o::rest) a w:=by
 subst hS;refine Zah hg ?_ (hK _ (h.alloc vs E) (by simp));simp[execOp,hop,hx,Instr.box,newVar,newRow,hv,Result.andThen]
theorem ZdH {t:TypeId} (P:Program) (k:TypeId) (hg:o.guard=none) (hop:o.op=.makeMap t none) (h:At L0 w0 L w) (hS:w.heap.size=S)
 (hK:∀w',At L0 w0 (Part.map P k S []::L) w'→w'.heap.size=S + 1→wpList P ops Q rest (a.put o.dst (.map (some S))) w'):wpList P ops Q (o::rest) a w:=by
 subst hS;refine Zah hg ?_ (hK _ (h.new ((Ext.refl w).alloc (.map #[] 0)) _ (MapAt.made P k w) (fun _ e=>by cases e;exact Nat.le_refl _)) (by simp));simp[execOp,hop,run_makeMap,Result.andThen]
end
section
variable {P:Program} {ops:Array Oper} {i:Nat} {o:Oper} {a:Act} {Q:Exit→Act→World→Prop} {K:Act→World→Prop} {L0 L F:List Part} {w0 w:World}
end
def TurnC (L0:List Part) (w0:World) (L:List Part) (N:Nat) (L':List Part) (c:Bool) (w:World):Prop:=if c=true then At L0 w0 L' w else At L0 w0 L w∧w.heap.size=N
section
variable {P:Program} {md:Region.Mode} {ops:Array Oper} {k n:Nat} {rest:List Oper} {o:Oper} {a:Act} {Q:Act→Prop} {L0 L L':List Part} {w0:World} {N:Nat}
theorem ZhI {w:World} (h:At L0 w0 L w) (hN:w.heap.size=N):TurnC L0 w0 L N L' false w.drew:=by
 unfold TurnC;rw[if_neg (by simp)];exact⟨h.drew,hN⟩
theorem Zgw {w:World} (h:TurnC L0 w0 L N L' true w):At L0 w0 L' w:=by unfold TurnC at h;rwa [if_pos rfl] at h
theorem Zda {C:Bool→World→Prop} (hw:Region.wanted o (yielded ops a.tmps)=true) (hnk:n≠k) {v:Value} (hrun:∀w,(execOp a.eval o).run P w=.ok (.value v) w) (hK:ZaP P md ops C k Q (n + 1) rest (a.put o.dst v)):
 ZaP P md ops C k Q n (o::rest) a:=by
 refine Zby fun K hh=> ?_;rw[hw];simp only[if_true];refine⟨v,fun c c' hR w hC=> ?_,hh _ hK⟩;unfold Oper.turnAt;rw[hrun w];refine⟨rfl,rfl,?_⟩;unfold leg at hR;rw[if_neg hnk] at hR;split at hR
 · obtain⟨rfl,rfl⟩:=hR;exact hC
 subst hR;exact hC
theorem Zgv (hw:Region.wanted o (yielded ops a.tmps)=true) (hnk:n≠k) {v:Value} (h1:∀w,At L0 w0 L w→(execOp a.eval o).run P w=.ok (.value v) w) (h2:∀w,At L0 w0 L' w→(execOp a.eval o).run P w=.ok (.value v) w)
 (hK:ZaP P md ops (TurnC L0 w0 L N L') k Q (n + 1) rest (a.put o.dst v)):ZaP P md ops (TurnC L0 w0 L N L') k Q n (o::rest) a:=by
 refine Zby fun K hh=> ?_;rw[hw];simp only[if_true];refine⟨v,fun c c' hR w hC=> ?_,hh _ hK⟩
 have hrun:(execOp a.eval o).run P w=.ok (.value v) w:=by
  unfold TurnC at hC;cases c
  · exact h1 w (by simpa using hC.1)
  exact h2 w (by simpa using hC)
 unfold Oper.turnAt;rw[hrun];refine⟨rfl,rfl,?_⟩;unfold leg at hR;rw[if_neg hnk] at hR;split at hR
 · obtain⟨rfl,rfl⟩:=hR;exact hC
 subst hR;exact hC
theorem ZjY (hw:Region.wanted o (yielded ops a.tmps)=true) (hnk:n≠k) (hwt:ZcJ md ops k ops.size n=true) {v:Value} (h2:∀w,At L0 w0 L' w→(execOp a.eval o).run P w=.ok (.value v) w)
 (hK:ZaP P md ops (TurnC L0 w0 L N L') k Q (n + 1) rest (a.put o.dst v)):ZaP P md ops (TurnC L0 w0 L N L') k Q n (o::rest) a:=by
 refine Zby fun K hh=> ?_;rw[hw];simp only[if_true];refine⟨v,fun c c' hR w hC=> ?_,hh _ hK⟩;unfold leg at hR;rw[if_neg hnk,if_pos hwt] at hR;obtain⟨rfl,rfl⟩:=hR;unfold Oper.turnAt;rw[h2 w (Zgw hC)];exact⟨rfl,rfl,hC⟩
theorem ZjZ (hw:Region.wanted o (yielded ops a.tmps)=true) (hnk:n=k) {v:Value} {f:FuncId} {args:Array Value} (hrun:∀w,(execOp a.eval o).run P w=.ok (.enter f args) w)
 (hc:∀w,At L0 w0 L w→w.heap.size=N→Calls P f args w fun e w'=>e=.returned v∧At L0 w0 L' w')
 (hK:ZaP P md ops (TurnC L0 w0 L N L') k Q (n + 1) rest (a.put o.dst v)):ZaP P md ops (TurnC L0 w0 L N L') k Q n (o::rest) a:=by
 refine Zby fun K hh=> ?_;rw[hw];simp only[if_true];refine⟨v,fun c c' hR w hC=> ?_,hh _ hK⟩;unfold leg at hR;rw[if_pos hnk] at hR;obtain⟨rfl,rfl⟩:=hR;unfold Oper.turnAt;rw[hrun w];unfold TurnC at hC;simp only[Bool.false_eq_true,if_false] at hC;refine⟨rfl,(hc w hC.1 hC.2).mono fun e w' ⟨he,h⟩=>⟨he,?_⟩⟩;unfold TurnC;rw[if_pos rfl];exact h
end
end
end
section
namespace Lease
open Go.RowKit
open Go.Maps (Keyed)
theorem Zmy {w:World} {p m:Nat} {ss:List Ses} (h:Sep [BookP p m ss] w) {n:Int} {f:ByteArray} (h0:0≤n) (h1:n < big64) (hf:f.size≤maxLen) (hn:find ss n f=none) {S:Nat} (hS:w.heap.size=S):
 Calls Tryz.prog 66 #[.pointer (some ⟨p,0,none⟩),.agg #[.int .u64 n,.string f]] w fun e w'=>e=.returned (.pointer (some ⟨S + 2,0,none⟩))∧At [BookP p m ss] w [BookP p m (ss++[fresh n f (S + 2) (S + 1)])] w':=by
 obtain⟨kl,hk⟩:=keyS h0 h1 hf;have hmiss:=Hd (find_none hn);have hA:=begin0 h;have hF:=hA.facts;have hS':=Hd hS;clear h hS;unfold keyV at *
 go_enter Tryz.func66,Tryz.ntmps66
 go_wp2_with (refine Zc7 (E:=35) rfl rfl (by(try simp only[Act.eval,eV])<;>exact rfl) (by exact rfl) hA hS'.out ?_;intro w1 hB hS1;clear hF hA hS';have hS':=Hd hS1;clear hS1;have hA:=hB;clear hB;obtain⟨hA,hF⟩:=fY hA)
 have hl:∀q,(Instr.lookup 111 (.map (some m)) (.agg #[.int .u64 n,.string f]) true).run Tryz.prog (w1.drewN q)=.ok (.tuple #[.pointer none,.bool false]) (w1.drewN q):=fun q=>
  MapAt.look_none (w:=w1.drewN q) ((hA.drewN q).get (A:=mapC m (ents ss)) sR) lawS Tryz.underlying111 hk hmiss.out (by kernel_rfl) true
 go_quiet (fail)
 have hS2:=(show(World.drewN w1 nq).heap.size=S + 1 from hS'.out)
 have hA:=hA.drewN nq;clear hl hS';generalize World.drewN _ nq=w2 at *
 have hS':=Hd hS2;clear hS2 hF;obtain⟨hA,hF⟩:=fY hA
 go_wp2_with (first|(refine ZdH Tryz.prog 22 rfl rfl hA hS'.out ?_;intro w1 hB hS1;clear hF hA hS';have hS':=Hd hS1;clear hS1;have hA:=hB;clear hB;obtain⟨hA,hF⟩:=fY hA)|(refine Zc7 (E:=144) rfl rfl (by(try simp only[Act.eval,eV])<;>exact rfl) (by exact rfl) hA hS'.out ?_;intro w1 hB hS1;clear hF hA hS';have hS':=Hd hS1;clear hS1;have hA:=hB;clear hB;obtain⟨hA,hF⟩:=fY hA))
 (refine Zaj 6 (fun w'=>∃n,w'=World.drewN _ n) (by kernel_rfl) (by kernel_rfl) ⟨1,rfl⟩ ?_);(simp only[List.take_succ_cons,List.take_zero,List.drop_succ_cons,List.drop_zero]);(repeat(first|go_big_quiet_step (fail)|quiet_step (fail)));(refine wpQuiet_nil ?_);(rintro _ ⟨nq,rfl⟩)
 have hA:=hA.drewN nq;generalize World.drewN _ nq=w1 at *;clear hF;obtain⟨hA,hF⟩:=fY hA
 refine Zao rfl rfl rfl (by(try simp only[Act.eval,eV])<;>exact rfl) (by(try simp only[Act.eval,eV])<;>exact rfl) hA sR lawS Tryz.underlying111 hk hmiss.out ?_;intro w1 hB;replace hA:=hB;clear hF hB;obtain⟨hA,hF⟩:=fY hA;go_wp2_with fail;go_ret;exact⟨rfl,Zhv (fresh n f _ _) hA sR sZ sZ sZ sR⟩
def ZoW (w:World) (p m:Nat) (ss:List Ses) (n:Int) (f:ByteArray) (r:Int) (c:Ans) (e:Ending) (w':World):Prop:=
 ∃b t,e=.returned (.tuple #[])∧At [BookP p m ss] w [BookP p m (ss++[{fresh n f b t with told:=[(r,c)]}])] w'
theorem Zgz {w:World} {p m:Nat} {ss:List Ses} (h:Sep [BookP p m ss] w) {n r:Int} {f:ByteArray} (h0:0≤n) (h1:n < big64) (hf:f.size≤maxLen) (hn:find ss n f=none) (r0:0≤r) (r1:r < big64) (c:Ans):
 Calls Tryz.prog 42 #[.pointer (some ⟨p,0,none⟩),.agg #[.int .u64 n,.string f],.int .u64 r,.agg #[.int .i64 c.e,.int .u64 c.n,.bool c.g]] w (ZoW w p m ss n f r c):=by
 obtain⟨ku,hu⟩:=keyU r0 r1;have hA:=At.start h;have hF:=hA.facts;have hl':(look ss n f).told.length < 256:=by unfold look;rw[hn];simp[fresh]
 clear h;go_enter Tryz.func42,Tryz.ntmps42
 go_wp2_with (first|((with_reducible refine gbx ?_);refine wCy (E:=35) hA ?_;clear hF hA;intro bS w1 hA hbS hF)|((with_reducible refine gbx ?_);refine wCy (E:=40) hA ?_;clear hF hA;intro bA w1 hA hbA hF))
 refine(Zgx (hA.sep1 sR) h0 h1 hf hn).mono ?_;rintro e w1 ⟨rfl,hT⟩;replace hA:=hA.call1 sR hT;clear hF hT;obtain⟨hA,hF⟩:=fY hA
 go_wp2_with (first|((with_reducible refine gal ?_);refine g1 hA ?_;clear hF hA;intro bQ w1 hA hbQ hF)|((with_reducible refine gst ?_);refine wTy hA ?_;clear hF hA;intro w1 hA hF))
 refine(Zf6 (hA.sep1 sR) h0 h1 hf hl').mono ?_;rintro e w1 ⟨rfl,hT⟩;replace hA:=hA.call1 sR hT;clear hF hT;obtain⟨hA,hF⟩:=fY hA;go_wp2_with fail
 obtain⟨S,hS⟩:∃S,w1.heap.size=S:=⟨_,rfl⟩
 refine Ze8 8 2 (TurnC [BookP p m ss] w _ S [sesC (S + 2) (fresh n f (S + 2) (S + 1)).cells,toldC (S + 1) (saids []),restP (ss++[]),headC p m,mapC m (ents (ss++[fresh n f (S + 2) (S + 1)])),Part.cells bQ [.int .i64 0,.int .u64 0,.bool false] 40,Part.cells bA [.int .i64 c.e,.int .u64 c.n,.bool c.g] 40,Part.cells bS [.int .u64 n,.string f] 35]) (by kernel_rfl) (by kernel_rfl) (by decide) (ZhI hA hS) ?_;simp only[List.take_succ_cons,List.take_zero,List.drop_succ_cons,List.drop_zero];refine Zda (v:=.pointer (some ⟨p,0,none⟩)) rfl (by decide) (fun _=>rfl) ?_;go_frame;refine Zgv (v:=.agg #[.int .u64 n,.string f]) rfl (by decide) (fun w hw=>Zae (ty:=35) (n:=2) rfl rfl (hw.get (A:=Part.cells bS [.int .u64 n,.string f] 35) sR) (by kernel_rfl) (by kernel_rfl) rfl rfl) (fun w hw=>Zae (ty:=35) (n:=2) rfl rfl (hw.get (A:=Part.cells bS [.int .u64 n,.string f] 35) sR) (by kernel_rfl) (by kernel_rfl) rfl rfl) ?_;go_frame;refine ZjZ (v:=.pointer (some ⟨S + 2,0,none⟩)) (f:=66) (args:= #[.pointer (some ⟨p,0,none⟩),.agg #[.int .u64 n,.string f]]) rfl rfl (fun _=>by kernel_rfl) (fun w hw hs=>(Zmy (m:=m) (ss:=ss) (hw.sep1 sR) h0 h1 hf hn hs).mono fun e w' ⟨he,t⟩=>⟨he,(open1 (l1:=ss) (l2:=[]) (s:=fresh n f (S + 2) (S + 1)) (hw.call1 sR t) sZ).pick pZ⟩) ?_;go_frame;refine Zda (v:=.pointer (some ⟨S + 2,0,none⟩)) rfl (by decide) (fun _=>rfl) ?_;go_frame;refine Zda (v:=.pointer (some ⟨S + 2,5,none⟩)) rfl (by decide) (fun _=>by kernel_rfl) ?_;go_frame;refine ZjY (v:=.map (some (S + 1))) rfl (by decide) (by kernel_rfl) (fun w hw=>Zac (ty:=142) rfl rfl (hw.get (A:=sesC (S + 2) (fresh n f (S + 2) (S + 1)).cells) sR) (by kernel_rfl) rfl) ?_;go_frame;refine Zda (v:=.int .u64 r) rfl (by decide) (fun _=>rfl) ?_;go_frame;refine Zgv (v:=.agg #[.int .i64 c.e,.int .u64 c.n,.bool c.g]) rfl (by decide) (fun w hw=>Zae (ty:=40) (n:=3) rfl rfl (hw.get (A:=Part.cells bA [.int .i64 c.e,.int .u64 c.n,.bool c.g] 40) sR) (by kernel_rfl) (by kernel_rfl) rfl rfl) (fun w hw=>Zae (ty:=40) (n:=3) rfl rfl (hw.get (A:=Part.cells bA [.int .i64 c.e,.int .u64 c.n,.bool c.g] 40) sR) (by kernel_rfl) (by kernel_rfl) rfl rfl) ?_;go_frame;refine Zgq ?_;intro w2 hw2;replace hA:=Zgw hw2;clear hF hw2 hS;refine Zao rfl rfl rfl (by(try simp only[Act.eval,eV])<;>exact rfl) (by(try simp only[Act.eval,eV])<;>exact rfl) hA (k:=22) (es:=saids []) sR lawU Tryz.underlying142 hu nofun ?_;intro w1 hB;replace hA:=hB;clear hB;go_wp2_with fail;go_end0
 refine⟨S + 2,S + 1,rfl,?_⟩
 have e1:saids []++[(Value.int .u64 r,Value.agg #[.int .i64 c.e,.int .u64 c.n,.bool c.g])]=saids [(r,c)]:=by simp[saids,saidE,Ans.val]
 have e2:ents (ss++[fresh n f (S + 2) (S + 1)])=ents (ss++{fresh n f (S + 2) (S + 1) with told:=[(r,c)]}::[]):=by simp[ents,ent,Ses.key,Ses.ptr]
 rw[e1,e2] at hA;exact ZcR (m:=m) (l1:=ss) (l2:=[]) (s:={fresh n f (S + 2) (S + 1) with told:=[(r,c)]}) hA sR sR sZ sZ sR
end Lease
end
end Go.Proofs.YtbeckijoabapkaaGreatDoor
