import Derived.Test.YtbeckijoabapkaaGreatDoorP9
set_option linter.unusedSimpArgs false
set_option linter.unusedVariables false
set_option maxRecDepth 100000
set_option maxHeartbeats 16000000
namespace Go.Proofs.YtbeckijoabapkaaGreatDoor
section
namespace Lock
open Go.RowKit
open Go.Maps (Keyed)
open Path (bl Zag overB)
theorem Zgn (l r:List (ByteArray × Int)):ctrs (l++r)=ctrs l++ctrs r:=by simp[ctrs]
section
variable {P:Program} {ops:Array Oper} {rest:List Oper} {o:Oper} {a:Act} {Q:Exit→Act→World→Prop} {L0 L F:List Part} {w0 w:World} {k:TypeId} {c:Nat}
theorem Ze9 {t:TypeId} {m x y:Operand} {cs:List (ByteArray × Int)} {p:ByteArray} {n:Int} (hg:o.guard=none) (hop:o.op=.mapUpdate t m x y) (hm:a.eval m=.map (some c)) (hx:a.eval x=.string p) (hy:a.eval y=.int .u64 n)
 (h:At L0 w0 L w) (s:Sel (Part.map P k c (ctrs cs)) L F) {e:TypeId} (K:Keyed P k) (ht:P.underlying t=some (.map k e)) {kl:Lit} (hk:keyOf P k (.string p)=some kl)
 (hK:∀w',At L0 w0 (Part.map P k c (ctrs (putC cs p n))::F) w'→wpList P ops Q rest (a.put o.dst undef) w'):wpList P ops Q (o::rest) a w:=by
 cases hq:ctr cs p with
 |none=>
  refine Zao hg hop hm hx hy h s K ht hk (Zgo hq) fun w' h'=>hK w' ?_;rw[ZeH hq,Zgn];exact h'
 |some u=>
  obtain⟨l1,l2,rfl,hl⟩:=ZeY hq;rw[Zgn] at s;refine ZaV (u:=.int .u64 u) (l1:=ctrs l1) (l2:=ctrs l2) hg hop hm hx hy h s K ht hk fun w' h'=>hK w' ?_;rw[Zga hl,Zgn];exact h'
end
section
variable {w:World} {b:Bk} {p f:ByteArray} {n mode:Int}
def Bk.with (b:Bk) (s:S3):Bk:=⟨b.p,b.m,b.c,b.first,s.es,s.cs⟩
theorem Zi8:b.with (b.st.added p n f mode)=⟨b.p,b.m,b.c,b.first,b.es++[b.st.newE p n f mode],putC b.cs p (Zat b.first b.cs p + 1)⟩:=rfl
theorem ZmY (l:List Ent) (e:Ent):ents l++[(keyV e.path e.num e.foot,e.val)]=ents (l++[e]):=ents_snoc l e
theorem add_no (h:Sep [BookP b] w) (hp:p.size≤1000000) (h0:0≤n) (h1:n < big64) (hf:f.size≤maxLen) (hl:b.es.length≤1000000000) (hc:∀q,0≤Zat b.first b.cs q) {c:Int} (hm:b.st.may p n f mode=c) (hm0:c≠0):
 Calls Tryz.prog 101 #[.pointer (some ⟨b.p,0,none⟩),.string p,.agg #[.int .u64 n,.string f],.int .i64 mode] w fun e w'=>e=.returned (.tuple #[nullE.val,.int .i64 c])∧At [BookP b] w [BookP b] w':=by
 have hA:=At.start h;have hF:=hA.facts;have hm':=Hd hm;have hm2:(c==0)=false:=by simpa using hm0
 clear h hm hm0;obtain⟨hA,hF⟩:=fY hA;go_enter Tryz.func101,Tryz.ntmps101
 go_wp2_with (first|((with_reducible refine gbx ?_);refine wCy (E:=35) hA ?_;clear hF hA;intro bS w1 hA hbS hF)|((with_reducible refine gal ?_);refine g5 hA ?_;clear hF hA;intro bE w1 hA hbE hF))
 refine(may_any (hA.sep1 (A:=BookP b) sR) hp h0 h1 hf hl hc).mono ?_;rw[hm'.out];rintro e w1 ⟨rfl,hT⟩;replace hA:=hA.call1 sR hT;clear hF hT;obtain⟨hA,hF⟩:=fY hA
 go_wp2_with ((with_reducible refine gst ?_);refine wTy hA ?_;clear hF hA;intro w1 hA hF)
 refine bodyPost_ret (v:=.tuple #[nullE.val,.int .i64 c]) (by simp[results,Tryz.results101,go_sem,hF,nullE,Ent.val]<;>rfl) rfl ⟨rfl,?_⟩;exact hA.only1 sR
theorem ZoV (h:Sep [BookP b] w) (hp:p.size≤1000000) (h0:0≤n) (h1:n < big64) (hf:f.size≤maxLen) (hl:b.es.length≤1000000000) (hc:∀q,0≤Zat b.first b.cs q) (hok:∀x ∈ b.es,x.path.size≤1000000∧x.stamp≤1000000000) (hm:b.st.may p n f mode=0):
 Calls Tryz.prog 101 #[.pointer (some ⟨b.p,0,none⟩),.string p,.agg #[.int .u64 n,.string f],.int .i64 mode] w fun e w'=>e=.returned (.tuple #[(b.st.newE p n f mode).val,.int .i64 0])∧At [BookP b] w [BookP (b.with (b.st.added p n f mode))] w':=by
 obtain⟨kl,hk⟩:=keyP (p:=p) (by unfold maxLen;omega) h0 h1 hf;obtain⟨kl2,hk2⟩:=keyT (p:=p) (by unfold maxLen;omega);have hpm:p.size≤maxLen:=by unfold maxLen;omega
 obtain⟨_,hfi,_,hcl⟩:=ZgW hm;have hmiss:=Hd (find_none (es:=b.es) hfi);have hc0:=hc p;have hms:=Zgd (l:=b.es) (p:=p) (B:=1000000000) (by omega) (fun x hx=>(hok x hx).2);have hA:=At.start h;have hF:=hA.facts;have hm':=Hd hm;have hok':=Hd hok;have hcl':Zat b.first b.cs p < 9223372036854775807:=hcl;have hwr:IntKind.u64.wrap (Zat b.first b.cs p + 1)=Zat b.first b.cs p + 1:=by rw[IntKind.wrap_u64];omega
 rw[Zi8];have hne:(b.st.newE p n f mode).val=.agg #[.string p,.int .u64 n,.string f,.int .i64 mode,.int .u64 (Zat b.first b.cs p + 1),.int .i64 (maxS b.es p + 1)]:=rfl;rw[hne];have hone:ents b.es++[(.agg #[.string p,.int .u64 n,.string f],.agg #[.string p,.int .u64 n,.string f,.int .i64 mode,.int .u64 (Zat b.first b.cs p + 1),.int .i64 (maxS b.es p + 1)])]=ents (b.es++[b.st.newE p n f mode]):=ZmY b.es (b.st.newE p n f mode);unfold keyV at *
 have hct:=fun(w1:World) (q:Sep [BookP b] w1)=>ZeZ q (p:=p) hpm;have hst:=fun(w1:World) (q:Sep [BookP b] w1)=>ZgE q p hp hok;generalize hnn:b.st.newE p n f mode=e at *
 generalize Zat b.first b.cs p=cc at *
 generalize maxS b.es p=ss at *
 have hone':=Hd hone;clear h hm hok hfi hcl hone hnn hne;obtain⟨hA,hF⟩:=fY hA;go_enter Tryz.func101,Tryz.ntmps101
 go_wp2_with (first|((with_reducible refine gbx ?_);refine wCy (E:=35) hA ?_;clear hF hA;intro bS w1 hA hbS hF)|((with_reducible refine gal ?_);refine g5 hA ?_;clear hF hA;intro bE w1 hA hbE hF))
 refine(may_any (hA.sep1 (A:=BookP b) sR) hp h0 h1 hf hl hc).mono ?_;rw[hm'.out];rintro e w1 ⟨rfl,hT⟩;replace hA:=hA.call1 sR hT;clear hF hT;obtain⟨hA,hF⟩:=fY hA;go_wp2_with fail;(refine Zau (a1:= ?a1_q1) (v:= ?v_q1) 11 11 165 _ (.agg #[.string .empty,.int .u64 0,.string .empty,.int .i64 0,.int .u64 0,.int .i64 0]) [.string .empty,.int .u64 0,.string .empty,.int .i64 0,.int .u64 0,.int .i64 0] ([.string p,.int .u64 n,.string f,.int .i64 mode,.int .u64 (cc + 1),.int .i64 (ss + 1)]) (by kernel_rfl) (by kernel_rfl) rfl rfl ?hyd_q1 (by kernel_rfl) rfl hA ?h1_q1 ?hd_q1 ?hy_q1 ?hu_q1 ?hsz_q1 ?hus_q1 ?hl_q1 ?h2_q1);(case h1_q1=>(intro R wR hR;(try clear hF);(simp only[List.take_succ_cons,List.take_zero,List.drop_succ_cons,List.drop_zero]);(have hn1:=Cl.none hR);(have hn2:=Cl.none2 hR);(repeat(first|go_big_quiet_skip|(go_big_quiet_want;(first|(refine qM 35 2 ?_;go_frame;go_big_quiet_on)|(refine qL ?_;go_frame;go_big_quiet_on)|(go_big_quiet_op;(first|go_big_quiet_on|((apply Exists.intro);(refine⟨fun w1 hw=> ?_,?_⟩);(focus((have hw:=Cl.out hw);(first|exact through1 hw (A:=BookP b) sR (hct _)|exact through1 hw (A:=BookP b) sR (hst _))));(go_big_quiet_on))))))));(refine wpQuiet_nil ?_);exact rfl));(case hyd_q1=>rfl);(case hd_q1=>(first|decide|simp));(case hy_q1=>((try simp only[Act.eval,Array.getD_eq_getD_getElem?,List.getElem?_toArray,List.getElem?_cons_succ,List.getElem?_cons_zero,Option.getD_some]);exact rfl));(case hu_q1=>exact rfl);(case hsz_q1=>kernel_rfl);(case hus_q1=>rfl);(case hl_q1=>rfl);(intro b1 w1 hB hb1;replace hA:=hB;clear hF hB;(simp only[List.drop_succ_cons,List.drop_zero]);obtain⟨hA,hF⟩:=fY hA;(try go_frame))
 clear hct hst;replace hA:=open0 hA sR;clear hF;obtain⟨hA,hF⟩:=fY hA;go_wp2_with fail;(refine Zaj 7 (Cl _ _ _) (by kernel_rfl) (by kernel_rfl) (Cl.drew hA) ?_);(simp only[List.take_succ_cons,List.take_zero,List.drop_succ_cons,List.drop_zero]);(have hn1:=Cl.none hA);(have hn2:=Cl.none2 hA);(repeat(first|go_big_quiet_skip|(go_big_quiet_want;(first|(refine qL ?_;go_frame;go_big_quiet_on)|(go_big_quiet_op;(first|go_big_quiet_on))))))
 (refine wpQuiet_nil ?_);(intro w1 hB);(clear hF hA hn1 hn2);(have hA:=Cl.out hB);(clear hB);obtain⟨hA,hF⟩:=fY hA
 go_wp2_with (refine Ze9 rfl rfl rfl (by(try simp only[Act.eval,eV])<;>exact rfl) (by exact rfl) hA (k:=9) (cs:=b.cs) sR lawT Tryz.underlying115 hk2 ?_;intro w1 hB;replace hA:=hB;clear hF hB;obtain⟨hA,hF⟩:=fY hA)
 (try go_frame);(refine Zaj 8 (Cl _ _ _) (by kernel_rfl) (by kernel_rfl) (Cl.drew hA) ?_);(simp only[List.take_succ_cons,List.take_zero,List.drop_succ_cons,List.drop_zero]);(have hn1:=Cl.none hA);(have hn2:=Cl.none2 hA);(repeat(first|go_big_quiet_skip|(go_big_quiet_want;(first|(refine qM 35 2 ?_;go_frame;go_big_quiet_on)|(refine qM 165 6 ?_;go_frame;go_big_quiet_on)|(refine qL ?_;go_frame;go_big_quiet_on)|(go_big_quiet_op;(first|go_big_quiet_on))))))
 (refine wpQuiet_nil ?_);(intro w1 hB);(clear hF hA hn1 hn2);(have hA:=Cl.out hB);(clear hB);obtain⟨hA,hF⟩:=fY hA
 go_wp2_with (first|((with_reducible refine gst ?_);refine wTy hA ?_;clear hF hA;intro w1 hA hF)|(refine Zao rfl rfl rfl (by(try simp only[Act.eval,eV])<;>exact rfl) (by(try simp only[Act.eval,eV])<;>exact rfl) hA (k:=163) (es:=ents b.es) sR lawP Tryz.underlying114 hk hmiss.out ?_;intro w1 hB;rw[hone'.out] at hB;replace hA:=hB;clear hF hB;obtain⟨hA,hF⟩:=fY hA))
 refine bodyPost_ret (v:=.tuple #[.agg #[.string p,.int .u64 n,.string f,.int .i64 mode,.int .u64 (cc + 1),.int .i64 (ss + 1)],.int .i64 0]) (by simp[results,Tryz.results101,go_sem,hF]) rfl ⟨rfl,?_⟩;exact close0 ⟨b.p,b.m,b.c,b.first,b.es++[e],putC b.cs p (cc + 1)⟩ hA sR sR sR
theorem add_any (h:Sep [BookP b] w) (hp:p.size≤1000000) (h0:0≤n) (h1:n < big64) (hf:f.size≤maxLen) (hl:b.es.length≤1000000000) (hc:∀q,0≤Zat b.first b.cs q) (hok:∀x ∈ b.es,x.path.size≤1000000∧x.stamp≤1000000000):
 Calls Tryz.prog 101 #[.pointer (some ⟨b.p,0,none⟩),.string p,.agg #[.int .u64 n,.string f],.int .i64 mode] w fun e w'=>e=.returned (.tuple #[(b.st.addE p n f mode).val,.int .i64 (b.st.may p n f mode)])∧At [BookP b] w [BookP (b.with (b.st.add p n f mode))] w':=by
 by_cases hm:b.st.may p n f mode=0
 · have:=ZoV h hp h0 h1 hf hl hc hok hm
   unfold S3.addE S3.add;rw[if_pos hm,if_pos hm,hm];exact this
 have:=add_no h hp h0 h1 hf hl hc (c:=b.st.may p n f mode) rfl hm
 unfold S3.addE S3.add;rw[if_neg hm,if_neg hm];exact this
end
end Lock
end
section
namespace Lock
open Go.RowKit
open Go.Maps (Keyed)
open Path (bl Zag overB)
section
variable {w:World} {b:Bk} {p f:ByteArray} {n mode:Int}
theorem ZhQ (h:find b.es p n f=none):b.st.remove p n f=b.st:=by
 unfold S3.remove Bk.st;congr 1
 rw[List.filter_eq_self];intro e he;have:=Zdy.1 h e he;simp only[Ent.is,Bool.not_eq_true',decide_eq_false_iff_not];exact this
theorem ZkY {es:List Ent} (h:(ents es).Pairwise (fun p q=>p.1≠q.1)):es.Pairwise (fun a b=>a.key≠b.key):=by
 unfold ents at h;rw[List.pairwise_map] at h;exact h
theorem is_key {a e:Ent} (h:a.is e.path e.num e.foot=true):a.key=e.key:=by
 simp[Ent.is] at h;simp[Ent.key,keyV,h]
theorem Zjh {l1 l2:List Ent} {e:Ent} (hk:(l1++e::l2).Pairwise (fun a b=>a.key≠b.key)):(l1++e::l2).filter (fun x=> !x.is e.path e.num e.foot)=l1++l2:=by
 have h1:=List.pairwise_append.1 hk;have h2:=List.pairwise_cons.1 h1.2.1;have he:e.is e.path e.num e.foot=true:=by simp[Ent.is]
 have f1:l1.filter (fun x=> !x.is e.path e.num e.foot)=l1:=by
  rw[List.filter_eq_self];intro x hx
  cases hq:x.is e.path e.num e.foot with
  |false=>rfl
  |true=>exact absurd (is_key hq) (h1.2.2 x hx e (by simp))
 have f2:l2.filter (fun x=> !x.is e.path e.num e.foot)=l2:=by
  rw[List.filter_eq_self];intro x hx
  cases hq:x.is e.path e.num e.foot with
  |false=>rfl
  |true=>exact absurd (is_key hq).symm (h2.1 x hx)
 rw[List.filter_append,List.filter_cons,he,f1,f2];rfl
theorem Zkm (h:Sep [BookP b] w) (hp:p.size≤maxLen) (h0:0≤n) (h1:n < big64) (hf:f.size≤maxLen) (hfi:find b.es p n f=none):
 Calls Tryz.prog 90 #[.pointer (some ⟨b.p,0,none⟩),.string p,.agg #[.int .u64 n,.string f]] w fun e w'=>e=.returned (.int .i64 52)∧At [BookP b] w [BookP b] w':=by
 obtain⟨kl,hk⟩:=keyP hp h0 h1 hf;have hA:=begin0 h;have hF:=hA.facts;have hmiss:=Hd (find_none hfi);clear h hfi;unfold keyV at *
 obtain⟨hA,hF⟩:=fY hA;go_enter Tryz.func90,Tryz.ntmps90
 go_wp2_with ((with_reducible refine gbx ?_);refine wCy (E:=35) hA ?_;clear hF hA;intro bS w1 hA hbS hF)
 (refine Zau (a1:= ?a1_q1) (v:= ?v_q1) 11 7 165 _ (.agg #[.string .empty,.int .u64 0,.string .empty,.int .i64 0,.int .u64 0,.int .i64 0]) [.string .empty,.int .u64 0,.string .empty,.int .i64 0,.int .u64 0,.int .i64 0] ([.string .empty,.int .u64 0,.string .empty,.int .i64 0,.int .u64 0,.int .i64 0]) (by kernel_rfl) (by kernel_rfl) rfl rfl ?hyd_q1 (by kernel_rfl) rfl hA ?h1_q1 ?hd_q1 ?hy_q1 ?hu_q1 ?hsz_q1 ?hus_q1 ?hl_q1 ?h2_q1);(case h1_q1=>(intro R wR hR;(try clear hF);(simp only[List.take_succ_cons,List.take_zero,List.drop_succ_cons,List.drop_zero]);(have hn1:=Cl.none hR);(have hn2:=Cl.none2 hR);(repeat(first|go_big_quiet_skip|(go_big_quiet_want;(first|(refine qM 35 2 ?_;go_frame;go_big_quiet_on)|((refine ZaH rfl rfl (by(try simp only[Act.eval,eV])<;>exact rfl) (k:=163) (es:=ents b.es) sR lawP Tryz.underlying114 hk hmiss.out (z:=nullE.val) (fun _=>by kernel_rfl) ?_);go_frame;go_big_quiet_on)|(refine qL ?_;go_frame;go_big_quiet_on)|(go_big_quiet_op;(first|go_big_quiet_on))))));(refine wpQuiet_nil ?_);exact rfl));(case hyd_q1=>rfl);(case hd_q1=>(first|decide|simp));(case hy_q1=>((try simp only[Act.eval,Array.getD_eq_getD_getElem?,List.getElem?_toArray,List.getElem?_cons_succ,List.getElem?_cons_zero,Option.getD_some]);exact rfl));(case hu_q1=>exact rfl);(case hsz_q1=>kernel_rfl);(case hus_q1=>rfl);(case hl_q1=>rfl);(intro b1 w1 hB hb1;replace hA:=hB;clear hF hB;(simp only[List.drop_succ_cons,List.drop_zero]);obtain⟨hA,hF⟩:=fY hA;(try go_frame))
 go_wp2_with fail;go_ret;exact⟨rfl,close0 b hA sR sR sR⟩
theorem Zjg (h:Sep [BookP b] w) (hp:p.size≤maxLen) (h0:0≤n) (h1:n < big64) (hf:f.size≤maxLen) {x:Ent} (hfi:find b.es p n f=some x):
 Calls Tryz.prog 90 #[.pointer (some ⟨b.p,0,none⟩),.string p,.agg #[.int .u64 n,.string f]] w fun e w'=>e=.returned (.int .i64 0)∧At [BookP b] w [BookP (b.with (b.st.remove p n f))] w':=by
 obtain⟨kl,hk⟩:=keyP hp h0 h1 hf;have hA:=begin0 h;have hmem:=Hd (find_mem hfi);obtain⟨l1,l2,hes,rfl,rfl,rfl,_⟩:=find_split hfi;have hkeys:=ZkY (MapAt.keys (hA.get (A:=mapC b.m (ents b.es)) sR));rw[hes] at hkeys
 have hrem:b.st.remove x.path x.num x.foot=⟨b.first,l1++l2,b.cs⟩:=by
  unfold S3.remove Bk.st;simp only[hes];rw[Zjh hkeys]
 rw[hrem];have hF:=hA.facts;have hents:ents b.es=ents l1++(x.key,x.val)::ents l2:=by rw[hes];simp[ents,ent]
 have hes':=Hd hents;clear h hfi hkeys hrem hes hents;unfold Ent.val keyV at hmem;unfold keyV at hk;obtain⟨hA,hF⟩:=fY hA;go_enter Tryz.func90,Tryz.ntmps90
 go_wp2_with ((with_reducible refine gbx ?_);refine wCy (E:=35) hA ?_;clear hF hA;intro bS w1 hA hbS hF)
 (refine Zau (a1:= ?a1_q2) (v:= ?v_q2) 11 7 165 _ (.agg #[.string .empty,.int .u64 0,.string .empty,.int .i64 0,.int .u64 0,.int .i64 0]) [.string .empty,.int .u64 0,.string .empty,.int .i64 0,.int .u64 0,.int .i64 0] ([.string x.path,.int .u64 x.num,.string x.foot,.int .i64 x.mode,.int .u64 x.n,.int .i64 x.stamp]) (by kernel_rfl) (by kernel_rfl) rfl rfl ?hyd_q2 (by kernel_rfl) rfl hA ?h1_q2 ?hd_q2 ?hy_q2 ?hu_q2 ?hsz_q2 ?hus_q2 ?hl_q2 ?h2_q2);(case h1_q2=>(intro R wR hR;(try clear hF);(simp only[List.take_succ_cons,List.take_zero,List.drop_succ_cons,List.drop_zero]);(have hn1:=Cl.none hR);(have hn2:=Cl.none2 hR);(repeat(first|go_big_quiet_skip|(go_big_quiet_want;(first|(refine qM 35 2 ?_;go_frame;go_big_quiet_on)|((refine ZaG rfl rfl (by(try simp only[Act.eval,eV])<;>exact rfl) (k:=163) (es:=ents b.es) sR lawP Tryz.underlying114 hk hmem.out ?_);go_frame;go_big_quiet_on)|(refine qL ?_;go_frame;go_big_quiet_on)|(go_big_quiet_op;(first|go_big_quiet_on))))));(refine wpQuiet_nil ?_);exact rfl));(case hyd_q2=>rfl);(case hd_q2=>(first|decide|simp));(case hy_q2=>((try simp only[Act.eval,Array.getD_eq_getD_getElem?,List.getElem?_toArray,List.getElem?_cons_succ,List.getElem?_cons_zero,Option.getD_some]);exact rfl));(case hu_q2=>exact rfl);(case hsz_q2=>kernel_rfl);(case hus_q2=>rfl);(case hl_q2=>rfl);(intro b1 w1 hB hb1;replace hA:=hB;clear hF hB;(simp only[List.drop_succ_cons,List.drop_zero]);obtain⟨hA,hF⟩:=fY hA;(try go_frame))
 go_wp2_with fail;(try go_frame);(refine Zaj 7 (Cl _ _ _) (by kernel_rfl) (by kernel_rfl) (Cl.drew hA) ?_);(simp only[List.take_succ_cons,List.take_zero,List.drop_succ_cons,List.drop_zero]);(have hn1:=Cl.none hA);(have hn2:=Cl.none2 hA);(repeat(first|go_big_quiet_skip|(go_big_quiet_want;(first|(refine qM 35 2 ?_;go_frame;go_big_quiet_on)|(refine qL ?_;go_frame;go_big_quiet_on)|(go_big_quiet_op;(first|go_big_quiet_on))))))
 (refine wpQuiet_nil ?_);(intro w1 hB);(clear hF hA hn1 hn2);(have hA:=Cl.out hB);(clear hB);obtain⟨hA,hF⟩:=fY hA
 unfold mapC at hA;rw[hes'.out] at hA;unfold Ent.key keyV at hA;obtain⟨hA,hF⟩:=fY hA
 go_wp2_with (refine ZbB rfl rfl rfl (by(try simp only[Act.eval,eV])<;>exact rfl) hA (k:=163) sR lawP Tryz.underlying114 hk ?_;intro w1 hB;replace hA:=hB;clear hF hB;obtain⟨hA,hF⟩:=fY hA)
 go_ret;have hel:ents l1++ents l2=ents (l1++l2):=by simp[ents]
 rw[hel] at hA;exact⟨rfl,close0 ⟨b.p,b.m,b.c,b.first,l1++l2,b.cs⟩ hA sR sR sR⟩
theorem Zji (h:Sep [BookP b] w) (hp:p.size≤maxLen) (h0:0≤n) (h1:n < big64) (hf:f.size≤maxLen):
 Calls Tryz.prog 90 #[.pointer (some ⟨b.p,0,none⟩),.string p,.agg #[.int .u64 n,.string f]] w fun e w'=>e=.returned (.int .i64 (if(find b.es p n f).isSome=true then 0 else 52))∧At [BookP b] w [BookP (b.with (b.st.remove p n f))] w':=by
 cases hfi:find b.es p n f with
 |none=>
  have:=Zkm h hp h0 h1 hf hfi;rw[ZhQ hfi];exact this
 |some x=>exact Zjg h hp h0 h1 hf hfi
theorem Zht (h:Sep [BookP b] w) (hp:p.size≤1000000) (hok:∀x ∈ b.es,x.path.size≤1000000∧x.stamp≤1000000000):
 Calls Tryz.prog 100 #[.pointer (some ⟨b.p,0,none⟩),.string p,.int .i64 mode] w fun e w'=>e=.returned (.bool (Za3 b.es p mode))∧At [BookP b] w [BookP b] w':=by
 have hA:=At.start h;have hF:=hA.facts;have hr:=right_any p mode
 have hcd:Za3 b.es p mode=(Zcl p mode&&Za7 b.es ⟨p,0,.empty,mode,0,maxS b.es p + 1⟩):=by
  rw[Zh9,Bool.and_comm];rfl
 rw[hcd];have hst:=fun(w1:World) (q:Sep [BookP b] w1)=>ZgE q p hp hok;have hcl:=fun(w1:World) (q:Sep [BookP b] w1)=>Zhw q ⟨p,0,.empty,mode,0,maxS b.es p + 1⟩ hp (fun x hx=>(hok x hx).1);generalize Za7 b.es ⟨p,0,.empty,mode,0,maxS b.es p + 1⟩=c at *
 simp only at hcl;generalize maxS b.es p=ss at *
 generalize Zcl p mode=r at *
 clear h hok hcd;obtain⟨hA,hF⟩:=fY hA;go_enter Tryz.func100,Tryz.ntmps100;go_wp2_with fail;refine(hr w hp).mono ?_;clear hr;rintro e w2 ⟨rfl,hx⟩;replace hA:=hA.ext hx;clear hF hx;obtain⟨hA,hF⟩:=fY hA;cases r
 · go_wp2_with fail;go_ret;exact⟨rfl,hA.only1 sR⟩
 go_wp2_with fail;refine(hst _ (hA.sep1 (A:=BookP b) sR)).mono ?_;clear hst;rintro e w1 ⟨rfl,hT⟩;replace hA:=hA.call1 sR hT;clear hF hT;obtain⟨hA,hF⟩:=fY hA;go_wp2_with fail;refine(hcl _ (hA.sep1 (A:=BookP b) sR)).mono ?_;clear hcl;rintro e w1 ⟨rfl,hT⟩;replace hA:=hA.call1 sR hT;clear hF hT;obtain⟨hA,hF⟩:=fY hA;go_wp2_with fail;go_ret;exact⟨rfl,hA.only1 sR⟩
end
end Lock
end
section
namespace Tab
open Go.RowKit
open Path (bl Zag overB ZaB)
open Lease (Ses Ans fresh Zbx)
open Lock (S3 Ent)
open Cmd (Cm Zar)
def zs (s:Ses):Ses:={s with blk:=0,tm:=0}
theorem zs_is (s:Ses) (n:Int) (f:ByteArray):(zs s).is n f=s.is n f:=rfl
def lookA (S:List Ses) (n:Int) (f:ByteArray):Ses:=(Lease.find S n f).getD (fresh n f 0 0)
def updA (g:Ses→Ses) (n:Int) (f:ByteArray):List Ses→List Ses
 |[]=>[g (fresh n f 0 0)]
 |s::S=>if s.is n f then g s::S else s::updA g n f S
structure TS where
 S:List Ses
 L:S3
def ans0:Ans:=⟨0,0,false⟩
def ansE (e:Int):Ans:=⟨e,0,false⟩
def mayT (t:TS) (c:Cm):Int:=if(lookA t.S c.num c.foot).op=false then 50 else if ZaB (bl c.foot) (bl c.path)=false then 55 else 0
def addT (t:TS) (c:Cm):TS × Ans:=
 (⟨t.S,t.L.add c.path c.num c.foot c.mode⟩,if t.L.may c.path c.num c.foot c.mode=0 then⟨0,(t.L.newE c.path c.num c.foot c.mode).n,Lock.Za3 t.L.es c.path c.mode⟩ else ansE (t.L.may c.path c.num c.foot c.mode))
def tryT (t:TS) (c:Cm):TS × Ans:=
 if Lock.Za3 t.L.es c.path c.mode then addT t c else if t.L.may c.path c.num c.foot c.mode=0 then(t,ansE 51) else(t,ansE (t.L.may c.path c.num c.foot c.mode))
def Zbu (l:List Ent) (p:ByteArray) (n:Int):Bool:=l.any (fun e=>decide (e.path=p∧e.n=n)&&Lock.Za7 l e)
def ZbD (t:TS) (c:Cm):TS × Ans:=
 if mayT t c≠0 then(t,ansE (mayT t c))
 else if c.kind=4 then addT t c
 else if c.kind=5 then tryT t c
 else if c.kind=6 then(⟨t.S,t.L.remove c.path c.num c.foot⟩,ansE (if(Lock.find t.L.es c.path c.num c.foot).isSome then 0 else 52))
 else(t,ansE (if Zbu t.L.es c.path c.n then 0 else 52))
def opT (t:TS) (c:Cm) (g:Ses→Ses) (e:Int):TS:=if e=0 then⟨updA g c.num c.foot t.S,t.L⟩ else t
def endT (t:TS) (c:Cm) (e:Int):TS:=if e=0 then⟨updA Ses.ended c.num c.foot t.S,t.L.dropAll c.num c.foot⟩ else t
def doT (t:TS) (c:Cm):TS × Ans:=
 if c.kind=1 then(opT t c (fun s=>s.opened c.n c.time) (Lease.openE (lookA t.S c.num c.foot) (Lease.cnt t.S c.foot)),ansE (Lease.openE (lookA t.S c.num c.foot) (Lease.cnt t.S c.foot)))
 else if c.kind=2 then(endT t c (if(lookA t.S c.num c.foot).op then 0 else 50),ansE (if(lookA t.S c.num c.foot).op then 0 else 50))
 else if c.kind=3 then(opT t c (fun s=>s.kept c.time) (if(lookA t.S c.num c.foot).op then 0 else 50),ansE (if(lookA t.S c.num c.foot).op then 0 else 50))
 else ZbD t c
def tellT (t:TS) (c:Cm) (a:Ans):TS:=opT t c (fun s=>s.tell c.req a) (Lease.tellE (lookA t.S c.num c.foot) c.req)
def Zap (t:TS) (c:Cm):TS × Ans:=
 if Zar c=false∨c.kind=0 then(t,ans0)
 else if c.kind=8 then(endT t c (Lease.expB (lookA t.S c.num c.foot) c.time),ansE (Lease.expB (lookA t.S c.num c.foot) c.time))
 else match Lease.said (lookA t.S c.num c.foot).told c.req with
  |some a=>(t,a)
  |none=>if 256≤(lookA t.S c.num c.foot).told.length then(t,ansE 14) else(tellT (doT t c).1 c (doT t c).2,(doT t c).2)
theorem Zle (ss:List Ses) (n:Int) (f:ByteArray):Lease.find (ss.map zs) n f=(Lease.find ss n f).map zs:=by
 unfold Lease.find
 induction ss with
 |nil=>rfl
 |cons s ss ih=>
  rw[List.map_cons,List.find?_cons,List.find?_cons,zs_is];cases s.is n f
  · exact ih
  rfl
theorem Zol (ss:List Ses) (n:Int) (f:ByteArray):lookA (ss.map zs) n f=zs (Lease.look ss n f):=by
 unfold lookA Lease.look;rw[Zle];cases Lease.find ss n f<;>rfl
theorem cnt_zs (ss:List Ses) (f:ByteArray):Lease.cnt (ss.map zs) f=Lease.cnt ss f:=by
 unfold Lease.cnt;rw[List.filter_map,List.length_map];rfl
def keyE (s:Ses):Int × ByteArray:=(s.num,s.foot)
theorem is_key {s:Ses} {n:Int} {f:ByteArray}:s.is n f=true↔keyE s=(n,f):=by unfold Lease.Ses.is keyE;simp
theorem Zip {g:Ses→Ses} {n:Int} {f:ByteArray}:∀{S:List Ses},Lease.find S n f=none→updA g n f S=S++[g (fresh n f 0 0)]
 |[],_=>rfl
 |s::S,h=>by
  unfold Lease.find at h;rw[List.find?_cons] at h
  cases hq:s.is n f with
  |true=>rw[hq] at h;cases h
  |false=>
   rw[hq] at h;unfold updA;rw[hq,if_neg (by decide),Zip (S:=S) h];rfl
theorem ZjV {g:Ses→Ses} {n:Int} {f:ByteArray} {s:Ses} {l2:List Ses} (hs:s.is n f=true):∀{l1:List Ses},(∀x ∈ l1,x.is n f=false)→updA g n f (l1++s::l2)=l1++g s::l2
 |[],_=>by simp[updA,hs]
 |x::l1,h=>by
  have h1:=h x (by simp);have ih:=ZjV (g:=g) (l2:=l2) hs (l1:=l1) fun y hy=>h y (by simp[hy]);simp[updA,h1,ih]
def Kn (ss:List Ses):Prop:=(ss.map keyE).Nodup
theorem Zfg {ss ss':List Ses} {n:Int} {f:ByteArray} {g:Ses→Ses} (hk:Kn ss) (ht:Zbx ss n f g ss') (hg:∀s,zs (g s)=g (zs s)):ss'.map zs=updA g n f (ss.map zs):=by
 rcases ht with⟨l1,s,l2,hf,rfl,rfl⟩|⟨hf,b,t,rfl⟩
 · have hs:s.is n f=true:=by unfold Lease.find at hf;simpa using List.find?_some hf
   have hl:∀x ∈ l1.map zs,x.is n f=false:=fun x hx=>by
    obtain⟨y,hy,rfl⟩:=List.mem_map.1 hx
    cases q:(zs y).is n f with
    |false=>rfl
    |true=>
     unfold Kn at hk;rw[List.map_append,List.map_cons] at hk;have h1:=(List.nodup_append.1 hk).2.2 (keyE y) (List.mem_map.2 ⟨y,hy,rfl⟩) (keyE s) (by simp);exact absurd ((is_key.1 q).trans (is_key.1 hs).symm) h1
   rw[List.map_append,List.map_cons,List.map_append,List.map_cons,ZjV (s:=zs s) (by rw[zs_is];exact hs) hl,hg]
 rw[List.map_append,List.map_cons,List.map_nil,hg,Zip (by rw[Zle,hf];rfl)];rfl
abbrev headT (t p q:Nat):Part:=Part.cells t [.pointer (some ⟨p,0,none⟩),.pointer (some ⟨q,0,none⟩)] 87
def TabP (t p m:Nat) (ss:List Ses) (b:Lock.Bk):Part:=Part.all [headT t p b.p,Lease.BookP p m ss,Lock.BookP b]
theorem Zf3 (t p m:Nat) (ss:List Ses) (b:Lock.Bk) (F:List Part):Eqv (TabP t p m ss b::F) (headT t p b.p::Lease.BookP p m ss::Lock.BookP b::F):=Eqv.all [headT t p b.p,Lease.BookP p m ss,Lock.BookP b] F
theorem Zci {w:World} {t p m:Nat} {ss:List Ses} {b:Lock.Bk} (h:Sep [TabP t p m ss b] w):At [TabP t p m ss b] w [headT t p b.p,Lease.BookP p m ss,Lock.BookP b] w:=(At.start h).to (Zf3 t p m ss b [])
theorem ZaC {L0:List Part} {w0 w:World} {t p m:Nat} {ss:List Ses} {b:Lock.Bk} (h:At L0 w0 [headT t p b.p,Lease.BookP p m ss,Lock.BookP b] w):At L0 w0 [TabP t p m ss b] w:=h.to (Zf3 t p m ss b []).symm
structure TRel (ss:List Ses) (b:Lock.Bk) (t:TS):Prop where
 S:ss.map zs=t.S
 L:b.st=t.L
structure SInv (S:List Ses) (m:Nat):Prop where
 keys:Kn S
 num:∀s ∈ S,0≤s.num∧s.num < Lease.big64
 foot:∀s ∈ S,s.foot.size≤1000
 len:S.length≤m
structure TInv (t:TS) (k:Nat):Prop where
 s:SInv t.S (2 * k)
 lock:Lock.Inv t.L k
structure CmOk (c:Cm):Prop where
 num:0≤c.num∧c.num < Lease.big64
 foot:c.foot.size≤100
 path:c.path.size≤100
theorem ZfY {g:Ses→Ses} {n:Int} {f:ByteArray} (hg:∀s,keyE (g s)=keyE s):∀{S:List Ses} {x:Ses},x ∈ updA g n f S→keyE x=(n,f)∨∃y ∈ S,keyE y=keyE x
 |[],x,h=>by rw[List.mem_singleton.1 h,hg];exact .inl rfl
 |s::S,x,h=>by
  unfold updA at h;split at h
  · rcases List.mem_cons.1 h with rfl|h
    · exact .inr ⟨s,by simp,(hg s).symm⟩
    exact .inr ⟨x,by simp[h],rfl⟩
  rcases List.mem_cons.1 h with rfl|h
  · exact .inr ⟨x,by simp,rfl⟩
  rcases ZfY hg h with q|⟨y,h1,h2⟩
  · exact .inl q
  exact .inr ⟨y,by simp[h1],h2⟩
theorem ZjW (g:Ses→Ses) (n:Int) (f:ByteArray):∀S:List Ses,(updA g n f S).length≤S.length + 1
 |[]=>by simp[updA]
 |s::S=>by
  unfold updA;split
  · simp
  have:=ZjW g n f S
  simp only[List.length_cons];omega
theorem Znu {g:Ses→Ses} {n:Int} {f:ByteArray} (hg:∀s,keyE (g s)=keyE s):∀{S:List Ses},Kn S→Kn (updA g n f S)
 |[],_=>by simp[updA,Kn]
 |s::S,h=>by
  unfold Kn at h;rw[List.map_cons,List.nodup_cons] at h;unfold updA;split
  · unfold Kn;rw[List.map_cons,hg,List.nodup_cons];exact h
  rename_i hq;unfold Kn;rw[List.map_cons,List.nodup_cons];refine⟨fun q=> ?_,Znu hg h.2⟩;obtain⟨x,hx,e⟩:=List.mem_map.1 q;rcases ZfY hg hx with q2|⟨y,h1,h2⟩
  · exact hq (is_key.2 (e.symm.trans q2))
  exact h.1 (List.mem_map.2 ⟨y,h1,h2.trans e⟩)
theorem ZiO {x y:Ses} (h:keyE x=keyE y):x.num=y.num∧x.foot=y.foot:=⟨congrArg Prod.fst h,congrArg Prod.snd h⟩
theorem SInv.mono {S:List Ses} {m j:Nat} (h:SInv S m) (hj:m≤j):SInv S j:={h with len:=Nat.le_trans h.len hj}
theorem SInv.upd {S:List Ses} {m:Nat} {c:Cm} {g:Ses→Ses} (h:SInv S m) (hc:CmOk c) (hg:∀s,keyE (g s)=keyE s):SInv (updA g c.num c.foot S) (m + 1):=by
 refine⟨Znu hg h.keys,fun s hs=> ?_,fun s hs=> ?_,Nat.le_trans (ZjW g c.num c.foot S) (Nat.succ_le_succ h.len)⟩
 · rcases ZfY hg hs with q|⟨y,q1,q2⟩
   · rw[show s.num=c.num from congrArg Prod.fst q];exact hc.num
   rw[←(ZiO q2).1];exact h.num y q1
 rcases ZfY hg hs with q|⟨y,q1,q2⟩
 · rw[show s.foot=c.foot from congrArg Prod.snd q];exact Nat.le_trans hc.foot (by omega)
 rw[←(ZiO q2).2];exact h.foot y q1
theorem op_ok {c:Cm} (hc:CmOk c) (kind mode:Int):(⟨kind,mode,c.path,c.num,c.foot⟩:Lock.Op).ok:=⟨hc.path,hc.num.1,hc.num.2,Nat.le_trans hc.foot (by unfold maxLen;omega)⟩
theorem Zos {l:S3} {k:Nat} {c:Cm} (h:Lock.Inv l k) (hc:CmOk c):Lock.Inv (l.add c.path c.num c.foot c.mode) (k + 1):=Lock.Zgg h (op_ok hc 1 c.mode)
theorem Zjy {l:S3} {k:Nat} {c:Cm} (h:Lock.Inv l k) (hc:CmOk c):Lock.Inv (l.remove c.path c.num c.foot) (k + 1):=Lock.Zgg h (op_ok hc 2 c.mode)
theorem ZmF {l:S3} {k:Nat} {c:Cm} (h:Lock.Inv l k) (hc:CmOk c):Lock.Inv (l.dropAll c.num c.foot) (k + 1):=Lock.Zgg h (op_ok hc 3 c.mode)
theorem ZeJ {t:TS} {m:Nat} {c:Cm} {g:Ses→Ses} (e:Int) (h:SInv t.S m) (hc:CmOk c) (hg:∀s,keyE (g s)=keyE s):SInv (opT t c g e).S (m + 1)∧(opT t c g e).L=t.L:=by
 unfold opT;split
 · exact⟨h.upd hc hg,rfl⟩
 exact⟨h.mono (by omega),rfl⟩
theorem ZiY {t:TS} {m k:Nat} {c:Cm} (e:Int) (h:SInv t.S m) (hl:Lock.Inv t.L k) (hc:CmOk c):SInv (endT t c e).S (m + 1)∧Lock.Inv (endT t c e).L (k + 1):=by
 unfold endT;split
 · exact⟨h.upd hc fun s=>rfl,ZmF hl hc⟩
 exact⟨h.mono (by omega),hl.mono (by omega)⟩
theorem Zi6 {t:TS} {m k:Nat} {c:Cm} (h:SInv t.S m) (hl:Lock.Inv t.L k) (hc:CmOk c):SInv (addT t c).1.S (m + 1)∧Lock.Inv (addT t c).1.L (k + 1):=⟨h.mono (by omega),Zos hl hc⟩
theorem ZoJ {t:TS} {m k:Nat} {c:Cm} (h:SInv t.S m) (hl:Lock.Inv t.L k) (hc:CmOk c):SInv (doT t c).1.S (m + 1)∧Lock.Inv (doT t c).1.L (k + 1):=by
 have h0:SInv t.S (m + 1)∧Lock.Inv t.L (k + 1):=⟨h.mono (by omega),hl.mono (by omega)⟩
 unfold doT;split
 · obtain⟨q1,q2⟩:=ZeJ (Lease.openE (lookA t.S c.num c.foot) (Lease.cnt t.S c.foot)) (g:=fun s=>s.opened c.n c.time) h hc fun s=>rfl;exact⟨q1,by rw[q2];exact h0.2⟩
 split
 · exact ZiY _ h hl hc
 split
 · obtain⟨q1,q2⟩:=ZeJ (if(lookA t.S c.num c.foot).op then 0 else 50) (g:=fun s=>s.kept c.time) h hc fun s=>rfl;exact⟨q1,by rw[q2];exact h0.2⟩
 unfold ZbD;split
 · exact h0
 split
 · exact Zi6 h hl hc
 split
 · unfold tryT;split
   · exact Zi6 h hl hc
   split
   · exact h0
   exact h0
 split
 · exact⟨h0.1,Zjy hl hc⟩
 exact h0
theorem Zm4 {t:TS} {m:Nat} {c:Cm} (h:SInv t.S m) (hc:CmOk c):SInv (doT t c).1.S (m + 1):=by
 have h0:SInv t.S (m + 1):=h.mono (by omega);unfold doT;split
 · exact(ZeJ _ (g:=fun s=>s.opened c.n c.time) h hc fun s=>rfl).1
 split
 · unfold endT;split
   · exact h.upd hc fun s=>rfl
   exact h0
 split
 · exact(ZeJ _ (g:=fun s=>s.kept c.time) h hc fun s=>rfl).1
 unfold ZbD;split
 · exact h0
 split
 · exact h0
 split
 · unfold tryT;split
   · exact h0
   split
   · exact h0
   exact h0
 split
 · exact h0
 exact h0
theorem Zhx {t:TS} {k:Nat} {c:Cm} (h:TInv t k) (hc:CmOk c):TInv (Zap t c).1 (k + 1):=by
 have h0:TInv t (k + 1):=⟨h.s.mono (by omega),h.lock.mono (by omega)⟩
 unfold Zap;split
 · exact h0
 split
 · obtain⟨q1,q2⟩:=ZiY (Lease.expB (lookA t.S c.num c.foot) c.time) h.s h.lock hc;exact⟨q1.mono (by omega),q2⟩
 split
 · exact h0
 split
 · exact h0
 obtain⟨q1,q2⟩:=ZoJ h.s h.lock hc;obtain⟨q3,q4⟩:=ZeJ (t:=(doT t c).1) (Lease.tellE (lookA (doT t c).1.S c.num c.foot) c.req) (g:=fun s=>s.tell c.req (doT t c).2) q1 hc fun s=>rfl
 exact⟨q3.mono (by omega),by
  show Lock.Inv (opT _ _ _ _).L _
  rw[q4];exact q2⟩
def playT (t:TS) (l:List Cm):TS:=l.foldl (fun t c=>(Zap t c).1) t
def toldT:TS→List Cm→List Ans
 |_,[]=>[]
 |t,c::l=>(Zap t c).2::toldT (Zap t c).1 l
theorem Zjj (t:TS) (l:List Cm) (c:Cm):playT t (l++[c])=(Zap (playT t l) c).1:=by unfold playT;rw[List.foldl_append];rfl
theorem ZcA {l:List Cm} (hl:∀c ∈ l,CmOk c):∀{t:TS} {k:Nat},TInv t k→TInv (playT t l) (k + l.length):=by
 induction l with
 |nil=>exact fun h=>h
 |cons c l ih=>
  intro t k h;have h1:=ih (fun x hx=>hl x (by simp[hx])) (Zhx h (hl c (by simp)));have e:k + 1 + l.length=k + (c::l).length:=by simp only[List.length_cons];omega
  rw[←e];exact h1
theorem ZdM {first:Int} (h0:0≤first) (h1:first < Lock.big64):TInv ⟨[],⟨first,[],[]⟩⟩ 0:=⟨⟨by simp[Kn],nofun,nofun,by simp⟩,Lock.Zor h0 h1⟩
end Tab
end
section
namespace Tab
open Path (bl Zag overB ZaB)
open Lease (Ses Ans fresh)
open Lock (S3 Ent)
open Cmd (Cm Zar)
theorem ZjO {f p q:List UInt8} (h:ZaB f p=true) (ho:overB p q=true):overB f q=true:=by
 have hr:=Path.Zjm ho;rw[Path.Zcv] at h;simp only[Bool.and_eq_true,decide_eq_true_eq] at h;unfold overB at ho ⊢;rw[Path.Zcv,Path.Zcv] at ho ⊢;simp only[hr.1,hr.2,h.1.1,Bool.true_and,Bool.or_eq_true,decide_eq_true_eq] at ho ⊢;rcases ho with ho|ho
 · exact .inl (h.2.trans ho)
 rcases List.prefix_or_prefix_of_prefix h.2 ho with q1|q1
 · exact .inl q1
 exact .inr q1
def updO (g:Option (Ses→Ses)) (n:Int) (f:ByteArray) (S:List Ses):List Ses:=match g with
 |some g=>updA g n f S
 |none=>S
def KeyG (g:Ses→Ses):Prop:=∀s,keyE (g s)=keyE s
theorem KeyG.is {g:Ses→Ses} (h:KeyG g) (s:Ses) (n:Int) (f:ByteArray):(g s).is n f=s.is n f:=by
 rw[Bool.eq_iff_iff,is_key,is_key,h]
theorem Zgk (n:Int) (f:ByteArray) (m:Int) (k:ByteArray) (b t:Nat):(fresh n f b t).is m k=decide (n=m∧f=k):=rfl
theorem ZjU {g1 g2:Ses→Ses} {n:Int} {f:ByteArray} (h1:KeyG g1):∀S,updA g2 n f (updA g1 n f S)=updA (fun s=>g2 (g1 s)) n f S
 |[]=>by simp[updA,h1.is,Zgk]
 |s::S=>by
  unfold updA
  cases hq:s.is n f with
  |true=>simp[updA,h1.is,hq]
  |false=>simp[updA,hq,ZjU h1 S]
theorem Zfp {g:Ses→Ses} {n m:Int} {f k:ByteArray} (hg:KeyG g) (hne:¬(n=m∧f=k)):∀S,lookA (updA g m k S) n f=lookA S n f
 |[]=>by
  have:¬(m=n∧k=f):=fun q=>hne ⟨q.1.symm,q.2.symm⟩
  simp[lookA,updA,Lease.find,hg.is,Zgk,this]
 |s::S=>by
  unfold updA;have ih:=Zfp hg hne S
  cases hq:s.is m k with
  |true=>
   have h2:s.is n f=false:=by
    cases q:s.is n f with
    |false=>rfl
    |true=>
     have e:=(is_key.1 q).symm.trans (is_key.1 hq);exact absurd ⟨congrArg Prod.fst e,congrArg Prod.snd e⟩ hne
   simp[lookA,Lease.find,hg.is,h2]
  |false=>
   simp only[Bool.false_eq_true,if_false];unfold lookA Lease.find at *
   rw[List.find?_cons,List.find?_cons];cases s.is n f
   · exact ih
   rfl
theorem Ziq {g h:Ses→Ses} {n m:Int} {f k:ByteArray} (hg:KeyG g) (hh:KeyG h) (hne:¬(n=m∧f=k)):∀S,(updA g n f (updA h m k S)).Perm (updA h m k (updA g n f S))
 |[]=>by
  have q:¬(m=n∧k=f):=fun q=>hne ⟨q.1.symm,q.2.symm⟩;simp only[updA,hg.is,hh.is,Zgk,hne,q,decide_false,Bool.false_eq_true,if_false];exact .swap _ _ _
 |s::S=>by
  have ih:=Ziq hg hh hne S
  cases h1:s.is n f with
  |true=>
   have h2:s.is m k=false:=by
    cases q:s.is m k with
    |false=>rfl
    |true=>
     have e:=(is_key.1 h1).symm.trans (is_key.1 q);exact absurd ⟨congrArg Prod.fst e,congrArg Prod.snd e⟩ hne
   simp[updA,h1,h2,hg.is]
  |false=>
   cases h2:s.is m k with
   |true=>simp[updA,h1,h2,hh.is]
   |false=>
    simp only[updA,h1,h2,Bool.false_eq_true,if_false];exact ih.cons _
theorem Zop {s:Ses} {S:List Ses} (h:Kn (s::S)):(∀x ∈ S,keyE x≠keyE s)∧Kn S:=by
 unfold Kn at *
 rw[List.map_cons,List.nodup_cons] at h;exact⟨fun x hx e=>h.1 (List.mem_map.2 ⟨x,hx,e⟩),h.2⟩
theorem ZfZ {g:Ses→Ses} {n:Int} {f:ByteArray}:∀{S},Kn S→(updA g n f S).Perm (g (lookA S n f)::S.filter (fun x=> !x.is n f))
 |[],_=>by simp[updA,lookA,Lease.find]
 |s::S,hk=>by
  obtain⟨h1,h2⟩:=Zop hk;unfold updA
  cases hq:s.is n f with
  |true=>
   have hf:S.filter (fun x=> !x.is n f)=S:=List.filter_eq_self.2 fun x hx=>by
    cases q:x.is n f with
    |false=>rfl
    |true=>exact absurd ((is_key.1 q).trans (is_key.1 hq).symm) (h1 x hx)
   simp[hq,hf,lookA,Lease.find]
  |false=>
   have ih:=ZfZ (g:=g) (n:=n) (f:=f) h2;have hl:lookA (s::S) n f=lookA S n f:=by simp[lookA,Lease.find,hq]
   rw[hl,List.filter_cons,hq];simp only[Bool.false_eq_true,if_false,Bool.not_false,if_true];exact(ih.cons s).trans (.swap _ _ _)
theorem Zg0 {S S':List Ses} (h:S.Perm S') (hk:Kn S) (n:Int) (f:ByteArray):lookA S n f=lookA S' n f:=by
 have hk':Kn S':=by unfold Kn at *;exact(h.map keyE).nodup_iff.1 hk
 unfold lookA;congr 1
 unfold Lease.find
 cases h1:S.find? (·.is n f) with
 |none=>
  symm
  rw[List.find?_eq_none] at h1 ⊢;exact fun x hx=>h1 x (h.mem_iff.2 hx)
 |some s=>
  have a1:=List.find?_some h1;have a2:=h.mem_iff.1 (List.mem_of_find?_eq_some h1)
  cases h2:S'.find? (·.is n f) with
  |none=>exact absurd a1 (List.find?_eq_none.1 h2 s a2)
  |some r=>
   have b1:=List.find?_some h2;have b2:=List.mem_of_find?_eq_some h2;have e:keyE s=keyE r:=(is_key.1 a1).trans (is_key.1 b1).symm
   have key:∀{l:List Ses},(l.map keyE).Nodup→∀{x y},x ∈ l→y ∈ l→keyE x=keyE y→x=y:=by
    intro l
    induction l with
    |nil=>intro _ x y hx;cases hx
    |cons z l ih=>
     intro hn x y hx hy hxy;rw[List.map_cons,List.nodup_cons] at hn;rcases List.mem_cons.1 hx with e1|hx2<;>rcases List.mem_cons.1 hy with e2|hy2
     · rw[e1,e2]
     · subst e1;exact absurd (List.mem_map.2 ⟨y,hy2,hxy.symm⟩) hn.1
     · subst e2;exact absurd (List.mem_map.2 ⟨x,hx2,hxy⟩) hn.1
     exact ih hn.2 hx2 hy2 hxy
   rw[key hk' a2 b2 e]
theorem ZlW {S S':List Ses} (h:S.Perm S') (hk:Kn S) (g:Ses→Ses) (n:Int) (f:ByteArray):(updA g n f S).Perm (updA g n f S'):=by
 have hk':Kn S':=by unfold Kn at *;exact(h.map keyE).nodup_iff.1 hk
 refine(ZfZ hk).trans (.trans ?_ (ZfZ hk').symm);rw[Zg0 h hk];exact(h.filter _).cons _
theorem cnt_perm {S S':List Ses} (h:S.Perm S') (f:ByteArray):Lease.cnt S f=Lease.cnt S' f:=by
 unfold Lease.cnt;exact(h.filter _).length_eq
theorem ZdD (s:Ses) (S:List Ses) (f:ByteArray):Lease.cnt (s::S) f=(if s.foot.toList==f.toList&&s.op then 1 else 0) + Lease.cnt S f:=by
 unfold Lease.cnt;rw[List.filter_cons];split<;>simp<;>omega
theorem Zhu {g:Ses→Ses} {m:Int} {k f:ByteArray} (hg:KeyG g) (hne:k≠f∨∀s,(g s).op=s.op):∀S,Lease.cnt (updA g m k S) f=Lease.cnt S f
 |[]=>by
  have e:(g (fresh m k 0 0)).foot=k:=congrArg Prod.snd (hg (fresh m k 0 0));unfold updA;rw[ZdD,e];rcases hne with q|q
  · have:(k.toList==f.toList)=false:=by rw[Lock.same_ba];exact decide_eq_false q
    simp[this]
  rw[q];simp[fresh]
 |s::S=>by
  unfold updA;split
  · rename_i hq;have e:(g s).foot=s.foot:=congrArg Prod.snd (hg s);rw[ZdD,ZdD,e];rcases hne with q|q
    · have e2:s.foot=k:=congrArg Prod.snd (is_key.1 hq);have:(s.foot.toList==f.toList)=false:=by rw[Lock.same_ba,e2];exact decide_eq_false q
      simp[this]
    rw[q]
  rw[ZdD,ZdD,Zhu hg hne S]
def ovP (p:ByteArray) (e:Ent):Bool:=overB (bl e.path) (bl p)
structure LocL (l l':S3) (p:ByteArray) (n:Int) (f:ByteArray):Prop where
 first:l.first=l'.first
 own:(l.es.filter (·.of n f)).Perm (l'.es.filter (·.of n f))
 ov:(l.es.filter (ovP p)).Perm (l'.es.filter (ovP p))
 ctr:Lock.Zat l.first l.cs p=Lock.Zat l'.first l'.cs p
theorem Zfx (es:List Ent) (p:ByteArray) (n:Int) (f:ByteArray):(Lock.find es p n f).isSome=(es.filter (·.of n f)).any (·.is p n f):=by
 unfold Lock.find;rw[List.any_filter,Bool.eq_iff_iff,List.find?_isSome,List.any_eq_true];refine exists_congr fun x=>and_congr_right fun _=> ?_;simp only[Lock.Ent.is,Lock.Ent.of,Bool.and_eq_true,decide_eq_true_eq];exact⟨fun h=>⟨h.2,h⟩,fun h=>h.2⟩
theorem ZkP (es:List Ent) (p:ByteArray):Lock.maxS es p=Lock.maxS (es.filter (ovP p)) p:=by
 unfold Lock.maxS;rw[List.foldl_filter];congr 1
 funext m e
 unfold ovP;cases overB (bl e.path) (bl p)<;>rfl
theorem Zi3 (es:List Ent) (p:ByteArray) (mode:Int):Lock.Za3 es p mode=Lock.Za3 (es.filter (ovP p)) p mode:=by
 unfold Lock.Za3;rw[List.all_filter];congr 1
 congr 1
 funext x
 unfold Lock.wayB ovP;cases overB (bl x.path) (bl p)<;>simp
theorem Zna (es:List Ent) (p:ByteArray) {e:Ent} (he:e.path=p):Lock.Za7 es e=Lock.Za7 (es.filter (ovP p)) e:=by
 unfold Lock.Za7;rw[List.all_filter];congr 1
 funext x
 unfold Lock.wayB ovP;rw[he];cases overB (bl x.path) (bl p)<;>simp
theorem Zi5 (es:List Ent) {p:ByteArray} (hp:Zag (bl p)=true) (n:Int):Zbu es p n=Zbu (es.filter (ovP p)) p n:=by
 unfold Zbu;rw[List.any_filter];congr 1
 funext e
 by_cases he:e.path=p
 · have h1:ovP p e=true:=by unfold ovP;rw[he];exact Path.Zdl hp
   rw[h1,Bool.true_and,←Zna es p he]
 rw[decide_eq_false (fun q=>he q.1)];simp
theorem ZjN {l r:List Ent} (h:l.Perm r) (p:ByteArray) (n:Int):Zbu l p n=Zbu r p n:=by
 unfold Zbu;rw[h.any_eq];congr 1
 funext e
 rw[Lock.Ze1 h]
section
variable {l l':S3} {p:ByteArray} {n:Int} {f:ByteArray} (h:LocL l l' p n f)
include h
theorem LocL.find:(Lock.find l.es p n f).isSome=(Lock.find l'.es p n f).isSome:=by rw[Zfx,Zfx,h.own.any_eq]
theorem LocL.maxS:Lock.maxS l.es p=Lock.maxS l'.es p:=by rw[ZkP,ZkP l'.es,Lock.ZgX h.ov]
theorem LocL.could (mode:Int):Lock.Za3 l.es p mode=Lock.Za3 l'.es p mode:=by
 rw[Zi3,Zi3 l'.es];unfold Lock.Za3;rw[h.ov.all_eq]
theorem LocL.held:Lock.heldN l.es n f=Lock.heldN l'.es n f:=h.own.length_eq
theorem LocL.may (mode:Int):l.may p n f mode=l'.may p n f mode:=by
 unfold S3.may;rw[h.find,h.held,h.ctr]
theorem LocL.newE (mode:Int):l.newE p n f mode=l'.newE p n f mode:=by
 unfold S3.newE;rw[h.ctr,h.maxS]
theorem LocL.check (hp:Zag (bl p)=true) (m:Int):Zbu l.es p m=Zbu l'.es p m:=by
 rw[Zi5 _ hp,Zi5 l'.es hp,ZjN h.ov]
end
inductive LE where
 |nop
 |add (e:Ent)
 |rem (p:ByteArray) (n:Int) (f:ByteArray)
 |drop (n:Int) (f:ByteArray)
def LE.run (l:S3):LE→S3
 |.nop=>l
 |.add e=>⟨l.first,l.es++[e],Lock.putC l.cs e.path e.n⟩
 |.rem p n f=>l.remove p n f
 |.drop n f=>l.dropAll n f
structure LEq (l l':S3):Prop where
 first:l.first=l'.first
 es:l.es.Perm l'.es
 cs:l.cs.Perm l'.cs
def CK (cs:List (ByteArray × Int)):Prop:=cs.Pairwise (fun a b=>a.1≠b.1)
theorem Zm7 {cs cs':List (ByteArray × Int)} (h:cs.Perm cs') (hk:CK cs) (p:ByteArray):Lock.ctr cs p=Lock.ctr cs' p:=by
 have hk':CK cs':=h.pairwise hk fun {_ _} q=>q.symm;unfold Lock.ctr;congr 1
 have one:∀{l:List (ByteArray × Int)},CK l→∀{x y},x ∈ l→y ∈ l→x.1=y.1→x=y:=by
  intro l
  induction l with
  |nil=>intro _ x y hx;cases hx
  |cons z l ih=>
   intro hn x y hx hy hxy;have h1:=List.pairwise_cons.1 hn;rcases List.mem_cons.1 hx with e1|hx2<;>rcases List.mem_cons.1 hy with e2|hy2
   · rw[e1,e2]
   · subst e1;exact absurd hxy (h1.1 y hy2)
   · subst e2;exact absurd hxy.symm (h1.1 x hx2)
   exact ih h1.2 hx2 hy2 hxy
 cases h1:cs.find? (·.1=p) with
 |none=>
  symm
  rw[List.find?_eq_none] at h1 ⊢;exact fun x hx=>h1 x (h.mem_iff.2 hx)
 |some s=>
  have a1:=List.find?_some h1;have a2:=h.mem_iff.1 (List.mem_of_find?_eq_some h1)
  cases h2:cs'.find? (·.1=p) with
  |none=>exact absurd a1 (List.find?_eq_none.1 h2 s a2)
  |some r=>
   have b1:=List.find?_some h2;have b2:=List.mem_of_find?_eq_some h2;simp only[decide_eq_true_eq] at a1 b1;rw[one hk' a2 b2 (a1.trans b1.symm)]
theorem Zf9 {p:ByteArray} {n:Int}:∀{cs},CK cs→(Lock.putC cs p n).Perm ((p,n)::cs.filter (fun c=> !decide (c.1=p)))
 |[],_=>by simp[Lock.putC]
 |c::cs,hk=>by
  have hk':=List.pairwise_cons.1 hk;unfold Lock.putC;by_cases hc:c.1=p
  · have hf:cs.filter (fun c=> !decide (c.1=p))=cs:=List.filter_eq_self.2 fun x hx=>by
     have:=hk'.1 x hx;simp only[Bool.not_eq_true',decide_eq_false_iff_not]
     exact fun e=>this (hc.trans e.symm)
    rw[if_pos hc,List.filter_cons,decide_eq_true hc,hf];exact .refl _
  rw[if_neg hc,List.filter_cons,decide_eq_false hc];exact((Zf9 hk'.2).cons c).trans (.swap _ _ _)
theorem Zml {cs cs':List (ByteArray × Int)} (h:cs.Perm cs') (hk:CK cs) (p:ByteArray) (n:Int):(Lock.putC cs p n).Perm (Lock.putC cs' p n):=
 (Zf9 hk).trans (((h.filter _).cons _).trans (Zf9 (h.pairwise hk fun {_ _} q=>q.symm)).symm)
theorem put_comm {p q:ByteArray} {m n:Int} (hne:p≠q):∀cs,(Lock.putC (Lock.putC cs p m) q n).Perm (Lock.putC (Lock.putC cs q n) p m)
 |[]=>by
  simp only[Lock.putC,if_neg hne,if_neg (fun e=>hne (Eq.symm e))];exact .swap _ _ _
 |c::cs=>by
  have ih:=put_comm (m:=m) (n:=n) hne cs;by_cases h1:c.1=p
  · have h2:¬c.1=q:=fun e=>hne (h1.symm.trans e);simp[Lock.putC,h1,h2,hne]
  by_cases h2:c.1=q
  · have hne':¬q=p:=fun e=>hne e.symm;simp[Lock.putC,h1,h2,hne']
  simp only[Lock.putC,if_neg h1,if_neg h2];exact ih.cons _
theorem LEq.refl (l:S3):LEq l l:=⟨rfl,.refl _,.refl _⟩
theorem LEq.symm {l l':S3} (h:LEq l l'):LEq l' l:=⟨h.first.symm,h.es.symm,h.cs.symm⟩
theorem LEq.trans {l l' l'':S3} (h:LEq l l') (k:LEq l' l''):LEq l l'':=⟨h.first.trans k.first,h.es.trans k.es,h.cs.trans k.cs⟩
theorem LEq.loc {l l':S3} (h:LEq l l') (hk:CK l.cs) (p:ByteArray) (n:Int) (f:ByteArray):LocL l l' p n f:=
 ⟨h.first,h.es.filter _,h.es.filter _,by unfold Lock.Zat;rw[Zm7 h.cs hk,h.first]⟩
theorem LEq.run {l l':S3} (h:LEq l l') (hk:CK l.cs) (e:LE):LEq (e.run l) (e.run l'):=by
 cases e with
 |nop=>exact h
 |add e=>exact⟨h.first,h.es.append_right _,Zml h.cs hk _ _⟩
 |rem p n f=>exact⟨h.first,h.es.filter _,h.cs⟩
 |drop n f=>exact⟨h.first,h.es.filter _,h.cs⟩
end Tab
end
section
namespace Tab
open Lease (Ses Ans fresh)
open Lock (S3 Ent)
open Cmd (Cm Zar)
theorem ZiH {g:Ses→Ses} {n:Int} {f:ByteArray} (hg:∀s,keyE (g s)=keyE s):∀S:List Ses,lookA (updA g n f S) n f=g (lookA S n f)
 |[]=>by
  have h:(g (fresh n f 0 0)).is n f=true:=is_key.2 (by rw[hg];rfl);simp[lookA,updA,Lease.find,h]
 |s::S=>by
  unfold updA
  cases hq:s.is n f with
  |true=>
   have h:(g s).is n f=true:=is_key.2 (by rw[hg];exact is_key.1 hq);simp[lookA,Lease.find,hq,h]
  |false=>
   have ih:=ZiH (n:=n) (f:=f) hg S;simp only[Bool.false_eq_true,if_false];unfold lookA Lease.find at *
   rw[List.find?_cons,List.find?_cons,hq];exact ih
end Tab
end
end Go.Proofs.YtbeckijoabapkaaGreatDoor
