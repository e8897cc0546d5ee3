import Derived.Test.YtknoefbcmomalabGreatDoorP5
import Derived.Test.YtknoefbcmomalabGreatDoorSortt
import Derived.Sort.OwnSorted
import Derived.Lib.QuietBelow
set_option linter.unusedSimpArgs false
set_option linter.unusedVariables false
set_option maxRecDepth 100000
set_option maxHeartbeats 16000000
namespace Go.Proofs.YtknoefbcmomalabGreatDoor
section
namespace Lock
open Go.RowKit
open Go.Maps (Keyed)
open Path (bl Zaf overB)
theorem Zgy (l r:List (ByteArray × Int)):ctrs (l++r)=ctrs l++ctrs r:=by simp[ctrs]
section
variable {P:Program} {ops:Array Oper} {rest:List Oper} {o:Oper} {a:Act} {Q:Exit→Act→World→Prop} {L0 L F:List Part} {w0 w:World} {k:TypeId} {c:Nat}
theorem Ze6 {t:TypeId} {m x y:Operand} {cs:List (ByteArray × Int)} {p:ByteArray} {n:Int} (hg:o.guard=none) (hop:o.op=.mapUpdate t m x y) (hm:a.eval m=.map (some c)) (hx:a.eval x=.string p) (hy:a.eval y=.int .u64 n)
 (h:At L0 w0 L w) (s:Sel (Part.map P k c (ctrs cs)) L F) {e:TypeId} (K:Keyed P k) (ht:P.underlying t=some (.map k e)) {kl:Lit} (hk:keyOf P k (.string p)=some kl)
 (hK:∀w',At L0 w0 (Part.map P k c (ctrs (putC cs p n))::F) w'→wpList P ops Q rest (a.put o.dst undef) w'):wpList P ops Q (o::rest) a w:=by
 cases hq:ctr cs p with
 |none=>
  refine ZaP hg hop hm hx hy h s K ht hk (Zgz hq) fun w' h'=>hK w' ?_;rw[Zda hq,Zgy];exact h'
 |some u=>
  obtain⟨l1,l2,rfl,hl⟩:=ZeR hq;rw[Zgy] at s;refine ZcS (u:=.int .u64 u) (l1:=ctrs l1) (l2:=ctrs l2) hg hop hm hx hy h s K ht hk fun w' h'=>hK w' ?_;rw[ZdZ hl,Zgy];exact h'
end
section
variable {w:World} {b:Bk} {p f:ByteArray} {n mode:Int}
def Bk.with (b:Bk) (s:S3):Bk:=⟨b.p,b.m,b.c,b.first,s.es,s.cs⟩
theorem ZjC:b.with (b.st.added p n f mode)=⟨b.p,b.m,b.c,b.first,b.es++[b.st.newE p n f mode],putC b.cs p (counter b.first b.cs p + 1)⟩:=rfl
theorem ZnR (l:List Ent) (e:Ent):ents l++[(keyV e.path e.num e.foot,e.val)]=ents (l++[e]):=ents_snoc l e
theorem add_no (h:Sep [BookP b] w) (hp:p.size≤1000000) (h0:0≤n) (h1:n < big64) (hf:f.size≤maxLen) (hl:b.es.length≤1000000000) (hc:∀q,0≤counter b.first b.cs q) {c:Int} (hm:b.st.may p n f mode=c) (hm0:c≠0):
 Calls Tryz.prog 152 #[.pointer (some ⟨b.p,0,none⟩),.string p,.agg #[.int .u64 n,.string f],.int .i64 mode] w fun e w'=>e=.returned (.tuple #[nullE.val,.int .i64 c])∧At [BookP b] w [BookP b] w':=by
 have hA:=At.start h;have hF:=hA.facts;have hm':=Hd hm;have hm2:(c==0)=false:=by simpa using hm0
 clear h hm hm0;obtain⟨hA,hF⟩:=fY hA;go_enter Tryz.func152,Tryz.ntmps152
 go_wp2_with (first|((with_reducible refine gbx ?_);refine wCy (E:=39) hA ?_;clear hF hA;intro bS w1 hA hbS hF)|((with_reducible refine gal ?_);refine g5 hA ?_;clear hF hA;intro bE w1 hA hbE hF))
 refine(may_any (hA.sep1 (A:=BookP b) sR) hp h0 h1 hf hl hc).mono ?_;rw[hm'.out];rintro e w1 ⟨rfl,hT⟩;replace hA:=hA.call1 sR hT;clear hF hT;obtain⟨hA,hF⟩:=fY hA
 go_wp2_with ((with_reducible refine gst ?_);refine wTy hA ?_;clear hF hA;intro w1 hA hF)
 refine bodyPost_ret (v:=.tuple #[nullE.val,.int .i64 c]) (by simp[results,Tryz.results152,go_sem,hF,nullE,Ent.val]<;>rfl) rfl ⟨rfl,?_⟩;exact hA.only1 sR
theorem ZpE (h:Sep [BookP b] w) (hp:p.size≤1000000) (h0:0≤n) (h1:n < big64) (hf:f.size≤maxLen) (hl:b.es.length≤1000000000) (hc:∀q,0≤counter b.first b.cs q) (hok:∀x ∈ b.es,x.path.size≤1000000∧x.stamp≤1000000000) (hm:b.st.may p n f mode=0):
 Calls Tryz.prog 152 #[.pointer (some ⟨b.p,0,none⟩),.string p,.agg #[.int .u64 n,.string f],.int .i64 mode] w fun e w'=>e=.returned (.tuple #[(b.st.newE p n f mode).val,.int .i64 0])∧At [BookP b] w [BookP (b.with (b.st.added p n f mode))] w':=by
 obtain⟨kl,hk⟩:=keyP (p:=p) (by unfold maxLen;omega) h0 h1 hf;obtain⟨kl2,hk2⟩:=keyT (p:=p) (by unfold maxLen;omega);have hpm:p.size≤maxLen:=by unfold maxLen;omega
 obtain⟨_,hfi,_,hcl⟩:=ZeA hm;have hmiss:=Hd (find_none (es:=b.es) hfi);have hc0:=hc p;have hms:=Zdu (l:=b.es) (p:=p) (B:=1000000000) (by omega) (fun x hx=>(hok x hx).2);have hA:=At.start h;have hF:=hA.facts;have hm':=Hd hm;have hok':=Hd hok;have hcl':counter b.first b.cs p < 9223372036854775807:=hcl;have hwr:IntKind.u64.wrap (counter b.first b.cs p + 1)=counter b.first b.cs p + 1:=by rw[IntKind.wrap_u64];omega
 rw[ZjC];have hne:(b.st.newE p n f mode).val=.agg #[.string p,.int .u64 n,.string f,.int .i64 mode,.int .u64 (counter b.first b.cs p + 1),.int .i64 (maxS b.es p + 1)]:=rfl;rw[hne];have hone:ents b.es++[(.agg #[.string p,.int .u64 n,.string f],.agg #[.string p,.int .u64 n,.string f,.int .i64 mode,.int .u64 (counter b.first b.cs p + 1),.int .i64 (maxS b.es p + 1)])]=ents (b.es++[b.st.newE p n f mode]):=ZnR b.es (b.st.newE p n f mode);unfold keyV at *
 have hct:=fun(w1:World) (q:Sep [BookP b] w1)=>ZeS q (p:=p) hpm;have hst:=fun(w1:World) (q:Sep [BookP b] w1)=>ZgP q p hp hok;generalize hnn:b.st.newE p n f mode=e at *
 generalize counter b.first b.cs p=cc at *
 generalize maxS b.es p=ss at *
 have hone':=Hd hone;clear h hm hok hfi hcl hone hnn hne;obtain⟨hA,hF⟩:=fY hA;go_enter Tryz.func152,Tryz.ntmps152
 go_wp2_with (first|((with_reducible refine gbx ?_);refine wCy (E:=39) hA ?_;clear hF hA;intro bS w1 hA hbS hF)|((with_reducible refine gal ?_);refine g5 hA ?_;clear hF hA;intro bE w1 hA hbE hF))
 refine(may_any (hA.sep1 (A:=BookP b) sR) hp h0 h1 hf hl hc).mono ?_;rw[hm'.out];rintro e w1 ⟨rfl,hT⟩;replace hA:=hA.call1 sR hT;clear hF hT;obtain⟨hA,hF⟩:=fY hA;go_wp2_with fail;(refine Zau (a1:= ?a1_q1) (v:= ?v_q1) 11 11 61 _ (.agg #[.string .empty,.int .u64 0,.string .empty,.int .i64 0,.int .u64 0,.int .i64 0]) [.string .empty,.int .u64 0,.string .empty,.int .i64 0,.int .u64 0,.int .i64 0] ([.string p,.int .u64 n,.string f,.int .i64 mode,.int .u64 (cc + 1),.int .i64 (ss + 1)]) (by kernel_rfl) (by kernel_rfl) rfl rfl ?hyd_q1 (by kernel_rfl) rfl hA ?h1_q1 ?hd_q1 ?hy_q1 ?hu_q1 ?hsz_q1 ?hus_q1 ?hl_q1 ?h2_q1);(case h1_q1=>(intro R wR hR;(try clear hF);(simp only[List.take_succ_cons,List.take_zero,List.drop_succ_cons,List.drop_zero]);(have hn1:=Cl.none hR);(have hn2:=Cl.none2 hR);(repeat(first|go_big_quiet_skip|(go_big_quiet_want;(first|(refine qM 39 2 ?_;go_frame;go_big_quiet_on)|(refine qL ?_;go_frame;go_big_quiet_on)|(go_big_quiet_op;(first|go_big_quiet_on|((apply Exists.intro);(refine⟨fun w1 hw=> ?_,?_⟩);(focus((have hw:=Cl.out hw);(first|exact through1 hw (A:=BookP b) sR (hct _)|exact through1 hw (A:=BookP b) sR (hst _))));(go_big_quiet_on))))))));(refine wpQuiet_nil ?_);exact rfl));(case hyd_q1=>rfl);(case hd_q1=>(first|decide|simp));(case hy_q1=>((try simp only[Act.eval,Array.getD_eq_getD_getElem?,List.getElem?_toArray,List.getElem?_cons_succ,List.getElem?_cons_zero,Option.getD_some]);exact rfl));(case hu_q1=>exact rfl);(case hsz_q1=>kernel_rfl);(case hus_q1=>rfl);(case hl_q1=>rfl);(intro b1 w1 hB hb1;replace hA:=hB;clear hF hB;(simp only[List.drop_succ_cons,List.drop_zero]);obtain⟨hA,hF⟩:=fY hA;(try go_frame))
 clear hct hst;replace hA:=open0 hA sR;clear hF;obtain⟨hA,hF⟩:=fY hA;go_wp2_with fail;(refine Zaw 7 (Cl _ _ _) (by kernel_rfl) (by kernel_rfl) (Cl.drew hA) ?_);(simp only[List.take_succ_cons,List.take_zero,List.drop_succ_cons,List.drop_zero]);(have hn1:=Cl.none hA);(have hn2:=Cl.none2 hA);(repeat(first|go_big_quiet_skip|(go_big_quiet_want;(first|(refine qL ?_;go_frame;go_big_quiet_on)|(go_big_quiet_op;(first|go_big_quiet_on))))))
 (refine wpQuiet_nil ?_);(intro w1 hB);(clear hF hA hn1 hn2);(have hA:=Cl.out hB);(clear hB);obtain⟨hA,hF⟩:=fY hA
 go_wp2_with (refine Ze6 rfl rfl rfl (by(try simp only[Act.eval,eV])<;>exact rfl) (by exact rfl) hA (k:=9) (cs:=b.cs) sR lawT Tryz.underlying111 hk2 ?_;intro w1 hB;replace hA:=hB;clear hF hB;obtain⟨hA,hF⟩:=fY hA)
 (try go_frame);(refine Zaw 8 (Cl _ _ _) (by kernel_rfl) (by kernel_rfl) (Cl.drew hA) ?_);(simp only[List.take_succ_cons,List.take_zero,List.drop_succ_cons,List.drop_zero]);(have hn1:=Cl.none hA);(have hn2:=Cl.none2 hA);(repeat(first|go_big_quiet_skip|(go_big_quiet_want;(first|(refine qM 39 2 ?_;go_frame;go_big_quiet_on)|(refine qM 61 6 ?_;go_frame;go_big_quiet_on)|(refine qL ?_;go_frame;go_big_quiet_on)|(go_big_quiet_op;(first|go_big_quiet_on))))))
 (refine wpQuiet_nil ?_);(intro w1 hB);(clear hF hA hn1 hn2);(have hA:=Cl.out hB);(clear hB);obtain⟨hA,hF⟩:=fY hA
 go_wp2_with (first|((with_reducible refine gst ?_);refine wTy hA ?_;clear hF hA;intro w1 hA hF)|(refine ZaP rfl rfl rfl (by(try simp only[Act.eval,eV])<;>exact rfl) (by(try simp only[Act.eval,eV])<;>exact rfl) hA (k:=110) (es:=ents b.es) sR lawP Tryz.underlying108 hk hmiss.out ?_;intro w1 hB;rw[hone'.out] at hB;replace hA:=hB;clear hF hB;obtain⟨hA,hF⟩:=fY hA))
 refine bodyPost_ret (v:=.tuple #[.agg #[.string p,.int .u64 n,.string f,.int .i64 mode,.int .u64 (cc + 1),.int .i64 (ss + 1)],.int .i64 0]) (by simp[results,Tryz.results152,go_sem,hF]) rfl ⟨rfl,?_⟩;exact close0 ⟨b.p,b.m,b.c,b.first,b.es++[e],putC b.cs p (cc + 1)⟩ hA sR sR sR
theorem add_any (h:Sep [BookP b] w) (hp:p.size≤1000000) (h0:0≤n) (h1:n < big64) (hf:f.size≤maxLen) (hl:b.es.length≤1000000000) (hc:∀q,0≤counter b.first b.cs q) (hok:∀x ∈ b.es,x.path.size≤1000000∧x.stamp≤1000000000):
 Calls Tryz.prog 152 #[.pointer (some ⟨b.p,0,none⟩),.string p,.agg #[.int .u64 n,.string f],.int .i64 mode] w fun e w'=>e=.returned (.tuple #[(b.st.addE p n f mode).val,.int .i64 (b.st.may p n f mode)])∧At [BookP b] w [BookP (b.with (b.st.add p n f mode))] w':=by
 by_cases hm:b.st.may p n f mode=0
 · have:=ZpE h hp h0 h1 hf hl hc hok hm
   unfold S3.addE S3.add;rw[if_pos hm,if_pos hm,hm];exact this
 have:=add_no h hp h0 h1 hf hl hc (c:=b.st.may p n f mode) rfl hm
 unfold S3.addE S3.add;rw[if_neg hm,if_neg hm];exact this
end
end Lock
end
section
namespace Lock
open Go.RowKit
open Go.Maps (Keyed)
open Path (bl Zaf overB)
section
variable {w:World} {b:Bk} {p f:ByteArray} {n mode:Int}
theorem remove_none (h:find b.es p n f=none):b.st.remove p n f=b.st:=by
 unfold S3.remove Bk.st;congr 1
 rw[List.filter_eq_self];intro e he;have:=Zdg.1 h e he;simp only[Ent.is,Bool.not_eq_true',decide_eq_false_iff_not];exact this
theorem Zih {es:List Ent} (h:(ents es).Pairwise (fun p q=>p.1≠q.1)):es.Pairwise (fun a b=>a.key≠b.key):=by
 unfold ents at h;rw[List.pairwise_map] at h;exact h
theorem is_key {a e:Ent} (h:a.is e.path e.num e.foot=true):a.key=e.key:=by
 simp[Ent.is] at h;simp[Ent.key,keyV,h]
theorem ZjQ {l1 l2:List Ent} {e:Ent} (hk:(l1++e::l2).Pairwise (fun a b=>a.key≠b.key)):(l1++e::l2).filter (fun x=> !x.is e.path e.num e.foot)=l1++l2:=by
 have h1:=List.pairwise_append.1 hk;have h2:=List.pairwise_cons.1 h1.2.1;have he:e.is e.path e.num e.foot=true:=by simp[Ent.is]
 have f1:l1.filter (fun x=> !x.is e.path e.num e.foot)=l1:=by
  rw[List.filter_eq_self];intro x hx
  cases hq:x.is e.path e.num e.foot with
  |false=>rfl
  |true=>exact absurd (is_key hq) (h1.2.2 x hx e (by simp))
 have f2:l2.filter (fun x=> !x.is e.path e.num e.foot)=l2:=by
  rw[List.filter_eq_self];intro x hx
  cases hq:x.is e.path e.num e.foot with
  |false=>rfl
  |true=>exact absurd (is_key hq).symm (h2.1 x hx)
 rw[List.filter_append,List.filter_cons,he,f1,f2];rfl
theorem ZkY (h:Sep [BookP b] w) (hp:p.size≤maxLen) (h0:0≤n) (h1:n < big64) (hf:f.size≤maxLen) (hfi:find b.es p n f=none):
 Calls Tryz.prog 118 #[.pointer (some ⟨b.p,0,none⟩),.string p,.agg #[.int .u64 n,.string f]] w fun e w'=>e=.returned (.int .i64 52)∧At [BookP b] w [BookP b] w':=by
 obtain⟨kl,hk⟩:=keyP hp h0 h1 hf;have hA:=begin0 h;have hF:=hA.facts;have hmiss:=Hd (find_none hfi);clear h hfi;unfold keyV at *
 obtain⟨hA,hF⟩:=fY hA;go_enter Tryz.func118,Tryz.ntmps118
 go_wp2_with ((with_reducible refine gbx ?_);refine wCy (E:=39) hA ?_;clear hF hA;intro bS w1 hA hbS hF)
 (refine Zau (a1:= ?a1_q1) (v:= ?v_q1) 11 7 61 _ (.agg #[.string .empty,.int .u64 0,.string .empty,.int .i64 0,.int .u64 0,.int .i64 0]) [.string .empty,.int .u64 0,.string .empty,.int .i64 0,.int .u64 0,.int .i64 0] ([.string .empty,.int .u64 0,.string .empty,.int .i64 0,.int .u64 0,.int .i64 0]) (by kernel_rfl) (by kernel_rfl) rfl rfl ?hyd_q1 (by kernel_rfl) rfl hA ?h1_q1 ?hd_q1 ?hy_q1 ?hu_q1 ?hsz_q1 ?hus_q1 ?hl_q1 ?h2_q1);(case h1_q1=>(intro R wR hR;(try clear hF);(simp only[List.take_succ_cons,List.take_zero,List.drop_succ_cons,List.drop_zero]);(have hn1:=Cl.none hR);(have hn2:=Cl.none2 hR);(repeat(first|go_big_quiet_skip|(go_big_quiet_want;(first|(refine qM 39 2 ?_;go_frame;go_big_quiet_on)|((refine ZbR rfl rfl (by(try simp only[Act.eval,eV])<;>exact rfl) (k:=110) (es:=ents b.es) sR lawP Tryz.underlying108 hk hmiss.out (z:=nullE.val) (fun _=>by kernel_rfl) ?_);go_frame;go_big_quiet_on)|(refine qL ?_;go_frame;go_big_quiet_on)|(go_big_quiet_op;(first|go_big_quiet_on))))));(refine wpQuiet_nil ?_);exact rfl));(case hyd_q1=>rfl);(case hd_q1=>(first|decide|simp));(case hy_q1=>((try simp only[Act.eval,Array.getD_eq_getD_getElem?,List.getElem?_toArray,List.getElem?_cons_succ,List.getElem?_cons_zero,Option.getD_some]);exact rfl));(case hu_q1=>exact rfl);(case hsz_q1=>kernel_rfl);(case hus_q1=>rfl);(case hl_q1=>rfl);(intro b1 w1 hB hb1;replace hA:=hB;clear hF hB;(simp only[List.drop_succ_cons,List.drop_zero]);obtain⟨hA,hF⟩:=fY hA;(try go_frame))
 go_wp2_with fail;go_ret;exact⟨rfl,close0 b hA sR sR sR⟩
theorem ZjP (h:Sep [BookP b] w) (hp:p.size≤maxLen) (h0:0≤n) (h1:n < big64) (hf:f.size≤maxLen) {x:Ent} (hfi:find b.es p n f=some x):
 Calls Tryz.prog 118 #[.pointer (some ⟨b.p,0,none⟩),.string p,.agg #[.int .u64 n,.string f]] w fun e w'=>e=.returned (.int .i64 0)∧At [BookP b] w [BookP (b.with (b.st.remove p n f))] w':=by
 obtain⟨kl,hk⟩:=keyP hp h0 h1 hf;have hA:=begin0 h;have hmem:=Hd (find_mem hfi);obtain⟨l1,l2,hes,rfl,rfl,rfl,_⟩:=find_split hfi;have hkeys:=Zih (MapAt.keys (hA.get (A:=mapC b.m (ents b.es)) sR));rw[hes] at hkeys
 have hrem:b.st.remove x.path x.num x.foot=⟨b.first,l1++l2,b.cs⟩:=by
  unfold S3.remove Bk.st;simp only[hes];rw[ZjQ hkeys]
 rw[hrem];have hF:=hA.facts;have hents:ents b.es=ents l1++(x.key,x.val)::ents l2:=by rw[hes];simp[ents,ent]
 have hes':=Hd hents;clear h hfi hkeys hrem hes hents;unfold Ent.val keyV at hmem;unfold keyV at hk;obtain⟨hA,hF⟩:=fY hA;go_enter Tryz.func118,Tryz.ntmps118
 go_wp2_with ((with_reducible refine gbx ?_);refine wCy (E:=39) hA ?_;clear hF hA;intro bS w1 hA hbS hF)
 (refine Zau (a1:= ?a1_q2) (v:= ?v_q2) 11 7 61 _ (.agg #[.string .empty,.int .u64 0,.string .empty,.int .i64 0,.int .u64 0,.int .i64 0]) [.string .empty,.int .u64 0,.string .empty,.int .i64 0,.int .u64 0,.int .i64 0] ([.string x.path,.int .u64 x.num,.string x.foot,.int .i64 x.mode,.int .u64 x.n,.int .i64 x.stamp]) (by kernel_rfl) (by kernel_rfl) rfl rfl ?hyd_q2 (by kernel_rfl) rfl hA ?h1_q2 ?hd_q2 ?hy_q2 ?hu_q2 ?hsz_q2 ?hus_q2 ?hl_q2 ?h2_q2);(case h1_q2=>(intro R wR hR;(try clear hF);(simp only[List.take_succ_cons,List.take_zero,List.drop_succ_cons,List.drop_zero]);(have hn1:=Cl.none hR);(have hn2:=Cl.none2 hR);(repeat(first|go_big_quiet_skip|(go_big_quiet_want;(first|(refine qM 39 2 ?_;go_frame;go_big_quiet_on)|((refine ZbQ rfl rfl (by(try simp only[Act.eval,eV])<;>exact rfl) (k:=110) (es:=ents b.es) sR lawP Tryz.underlying108 hk hmem.out ?_);go_frame;go_big_quiet_on)|(refine qL ?_;go_frame;go_big_quiet_on)|(go_big_quiet_op;(first|go_big_quiet_on))))));(refine wpQuiet_nil ?_);exact rfl));(case hyd_q2=>rfl);(case hd_q2=>(first|decide|simp));(case hy_q2=>((try simp only[Act.eval,Array.getD_eq_getD_getElem?,List.getElem?_toArray,List.getElem?_cons_succ,List.getElem?_cons_zero,Option.getD_some]);exact rfl));(case hu_q2=>exact rfl);(case hsz_q2=>kernel_rfl);(case hus_q2=>rfl);(case hl_q2=>rfl);(intro b1 w1 hB hb1;replace hA:=hB;clear hF hB;(simp only[List.drop_succ_cons,List.drop_zero]);obtain⟨hA,hF⟩:=fY hA;(try go_frame))
 go_wp2_with fail;(try go_frame);(refine Zaw 7 (Cl _ _ _) (by kernel_rfl) (by kernel_rfl) (Cl.drew hA) ?_);(simp only[List.take_succ_cons,List.take_zero,List.drop_succ_cons,List.drop_zero]);(have hn1:=Cl.none hA);(have hn2:=Cl.none2 hA);(repeat(first|go_big_quiet_skip|(go_big_quiet_want;(first|(refine qM 39 2 ?_;go_frame;go_big_quiet_on)|(refine qL ?_;go_frame;go_big_quiet_on)|(go_big_quiet_op;(first|go_big_quiet_on))))))
 (refine wpQuiet_nil ?_);(intro w1 hB);(clear hF hA hn1 hn2);(have hA:=Cl.out hB);(clear hB);obtain⟨hA,hF⟩:=fY hA
 unfold mapC at hA;rw[hes'.out] at hA;unfold Ent.key keyV at hA;obtain⟨hA,hF⟩:=fY hA
 go_wp2_with (refine ZcT rfl rfl rfl (by(try simp only[Act.eval,eV])<;>exact rfl) hA (k:=110) sR lawP Tryz.underlying108 hk ?_;intro w1 hB;replace hA:=hB;clear hF hB;obtain⟨hA,hF⟩:=fY hA)
 go_ret;have hel:ents l1++ents l2=ents (l1++l2):=by simp[ents]
 rw[hel] at hA;exact⟨rfl,close0 ⟨b.p,b.m,b.c,b.first,l1++l2,b.cs⟩ hA sR sR sR⟩
theorem ZjR (h:Sep [BookP b] w) (hp:p.size≤maxLen) (h0:0≤n) (h1:n < big64) (hf:f.size≤maxLen):
 Calls Tryz.prog 118 #[.pointer (some ⟨b.p,0,none⟩),.string p,.agg #[.int .u64 n,.string f]] w fun e w'=>e=.returned (.int .i64 (if(find b.es p n f).isSome=true then 0 else 52))∧At [BookP b] w [BookP (b.with (b.st.remove p n f))] w':=by
 cases hfi:find b.es p n f with
 |none=>
  have:=ZkY h hp h0 h1 hf hfi;rw[remove_none hfi];exact this
 |some x=>exact ZjP h hp h0 h1 hf hfi
theorem ZhA (h:Sep [BookP b] w) (hp:p.size≤1000000) (hok:∀x ∈ b.es,x.path.size≤1000000∧x.stamp≤1000000000):
 Calls Tryz.prog 151 #[.pointer (some ⟨b.p,0,none⟩),.string p,.int .i64 mode] w fun e w'=>e=.returned (.bool (ZaJ b.es p mode))∧At [BookP b] w [BookP b] w':=by
 have hA:=At.start h;have hF:=hA.facts;have hr:=right_any p mode
 have hcd:ZaJ b.es p mode=(Zbh p mode&&ZaG b.es ⟨p,0,.empty,mode,0,maxS b.es p + 1⟩):=by
  rw[Zis,Bool.and_comm];rfl
 rw[hcd];have hst:=fun(w1:World) (q:Sep [BookP b] w1)=>ZgP q p hp hok;have hcl:=fun(w1:World) (q:Sep [BookP b] w1)=>ZeU q ⟨p,0,.empty,mode,0,maxS b.es p + 1⟩ hp (fun x hx=>(hok x hx).1);generalize ZaG b.es ⟨p,0,.empty,mode,0,maxS b.es p + 1⟩=c at *
 simp only at hcl;generalize maxS b.es p=ss at *
 generalize Zbh p mode=r at *
 clear h hok hcd;obtain⟨hA,hF⟩:=fY hA;go_enter Tryz.func151,Tryz.ntmps151;go_wp2_with fail;refine(hr w hp).mono ?_;clear hr;rintro e w2 ⟨rfl,hx⟩;replace hA:=hA.ext hx;clear hF hx;obtain⟨hA,hF⟩:=fY hA;cases r
 · go_wp2_with fail;go_ret;exact⟨rfl,hA.only1 sR⟩
 go_wp2_with fail;refine(hst _ (hA.sep1 (A:=BookP b) sR)).mono ?_;clear hst;rintro e w1 ⟨rfl,hT⟩;replace hA:=hA.call1 sR hT;clear hF hT;obtain⟨hA,hF⟩:=fY hA;go_wp2_with fail;refine(hcl _ (hA.sep1 (A:=BookP b) sR)).mono ?_;clear hcl;rintro e w1 ⟨rfl,hT⟩;replace hA:=hA.call1 sR hT;clear hF hT;obtain⟨hA,hF⟩:=fY hA;go_wp2_with fail;go_ret;exact⟨rfl,hA.only1 sR⟩
end
end Lock
end
section
namespace Lock
open Go.RowKit
open Go.Maps (Keyed)
open Path (bl Zaf overB)
attribute [-go_sem] run_eql_struct run_neq_struct run_eqGuard_agg
theorem eqlE6 (p1 f1 p2 f2:ByteArray) (n1 m1 k1 s1 n2 m2 k2 s2:Int) (w:World):(binOp .eql 61 (.agg #[.string p1,.int .u64 n1,.string f1,.int .i64 m1,.int .u64 k1,.int .i64 s1]) (.agg #[.string p2,.int .u64 n2,.string f2,.int .i64 m2,.int .u64 k2,.int .i64 s2])).run Tryz.prog w=.ok (.bool (decide ((⟨p1,n1,f1,m1,k1,s1⟩:Ent)=⟨p2,n2,f2,m2,k2,s2⟩))) w:=eqlE ⟨p1,n1,f1,m1,k1,s1⟩ ⟨p2,n2,f2,m2,k2,s2⟩ w
attribute [local go_sem] Zjf eqlE6
def grantedB (es:List Ent) (e:Ent):Bool:=decide (find es e.path e.num e.foot=some e)&&ZaG es e
section
variable {w:World} {b:Bk} {e:Ent}
theorem Zil (h:Sep [BookP b] w) (hp:e.path.size≤1000000) (h0:0≤e.num) (h1:e.num < big64) (hf:e.foot.size≤maxLen) (hok:∀x ∈ b.es,x.path.size≤1000000):
 Calls Tryz.prog 64 #[.pointer (some ⟨b.p,0,none⟩),e.val] w fun o w'=>o=.returned (.bool (grantedB b.es e))∧At [BookP b] w [BookP b] w':=by
 have hA:=At.start h;have hF:=hA.facts;have hpm:e.path.size≤maxLen:=by unfold maxLen;omega
 have hcl:=fun(w1:World) (q:Sep [BookP b] w1)=>ZeU q e hp hok;unfold grantedB;generalize ZaG b.es e=c at *
 cases hfi:find b.es e.path e.num e.foot with
 |none=>
  have hfn:=fun(w1:World) (q:Sep [BookP b] w1)=>Zpr q hpm h0 h1 hf hfi;clear h hfi hok;obtain⟨p1,n1,f1,m1,k1,s1⟩:=e;simp only[Ent.val] at *
  obtain⟨hA,hF⟩:=fY hA;go_enter Tryz.func64,Tryz.ntmps64
  go_wp2_with ((with_reducible refine gbx ?_);refine wCy (E:=61) hA ?_;clear hF hA;intro bX w1 hA hbX hF)
  refine(hfn _ (hA.sep1 (A:=BookP b) sR)).mono ?_;clear hfn;rintro e w1 ⟨rfl,hT⟩;replace hA:=hA.call1 sR hT;clear hF hT;obtain⟨hA,hF⟩:=fY hA
  go_wp2_with (first|((with_reducible refine gal ?_);refine g5 hA ?_;clear hF hA;intro bE w1 hA hbE hF)|((with_reducible refine gst ?_);refine wTy hA ?_;clear hF hA;intro w1 hA hF))
  go_ret;exact⟨rfl,hA.only1 sR⟩
 |some x=>
  have hfn:=fun(w1:World) (q:Sep [BookP b] w1)=>ZnN q hpm h0 h1 hf hfi;have hxe:(some x=some e)=(x=e):=by simp
  simp only[hxe];clear h hfi hok hxe;obtain⟨p1,n1,f1,m1,k1,s1⟩:=e;obtain⟨p2,n2,f2,m2,k2,s2⟩:=x;simp only[Ent.val] at *
  obtain⟨d,hd⟩:∃d,decide ((⟨p2,n2,f2,m2,k2,s2⟩:Ent)=⟨p1,n1,f1,m1,k1,s1⟩)=d:=⟨_,rfl⟩
  have eq6:∀w,(binOp .eql 61 (.agg #[.string p2,.int .u64 n2,.string f2,.int .i64 m2,.int .u64 k2,.int .i64 s2]) (.agg #[.string p1,.int .u64 n1,.string f1,.int .i64 m1,.int .u64 k1,.int .i64 s1])).run Tryz.prog w=.ok (.bool d) w:=fun w=>by rw[eqlE6,hd]
  rw[hd];clear hd;obtain⟨hA,hF⟩:=fY hA;go_enter Tryz.func64,Tryz.ntmps64
  go_wp2_with ((with_reducible refine gbx ?_);refine wCy (E:=61) hA ?_;clear hF hA;intro bX w1 hA hbX hF)
  refine(hfn _ (hA.sep1 (A:=BookP b) sR)).mono ?_;clear hfn;rintro e w1 ⟨rfl,hT⟩;replace hA:=hA.call1 sR hT;clear hF hT;obtain⟨hA,hF⟩:=fY hA;cases d
  · go_wp2_with (first|((with_reducible refine gal ?_);refine g5 hA ?_;clear hF hA;intro bE w1 hA hbE hF)|((with_reducible refine gst ?_);refine wTy hA ?_;clear hF hA;intro w1 hA hF))
    go_ret;exact⟨rfl,hA.only1 sR⟩
  go_wp2_with (first|((with_reducible refine gal ?_);refine g5 hA ?_;clear hF hA;intro bE w1 hA hbE hF)|((with_reducible refine gst ?_);refine wTy hA ?_;clear hF hA;intro w1 hA hF))
  refine(hcl _ (hA.sep1 (A:=BookP b) sR)).mono ?_;clear hcl;rintro e w1 ⟨rfl,hT⟩;replace hA:=hA.call1 sR hT;clear hF hT;obtain⟨hA,hF⟩:=fY hA;go_wp2_with fail;go_ret;exact⟨rfl,hA.only1 sR⟩
end
def ChRel (b:Bk) (r:Nat) (p:ByteArray) (n:Int) (w:World) (k:Nat) (wr:World):Prop:=
 ∃ds:List Ent,At [BookP b] w [Part.iter Tryz.prog 110 r b.m (ents b.es) (ents ds),headC b.p b.m b.c b.first,ctrC b.c (ctrs b.cs)] wr∧(∀s ∈ ds,s ∈ b.es∧¬(s.path=p∧s.n=n))∧ds.length + k=b.es.length
theorem Zl5 {w:World} {b:Bk} (h:Sep [BookP b] w) (p:ByteArray) (n:Int) (hok:∀x ∈ b.es,x.path.size≤1000000) {c:Bool} (h1:∀e ∈ b.es,e.path=p→e.n=n→ZaG b.es e=c) (h2:(∀e ∈ b.es,¬(e.path=p∧e.n=n))→c=false):
 Calls Tryz.prog 119 #[.pointer (some ⟨b.p,0,none⟩),.string p,.int .u64 n] w fun o w'=>o=.returned (.bool c)∧At [BookP b] w [BookP b] w':=by
 have hA:=begin0 h;have hF:=hA.facts;have h1':=Hd h1;have h2':=Hd h2;clear h1 h2;obtain⟨hA,hF⟩:=fY hA;clear h;go_enter Tryz.func119,Tryz.ntmps119
 go_wp2_with (refine ZaX rfl rfl rfl hA sR Tryz.underlying108 ?_;intro r w1 hB hr;replace hA:=hB;clear hF hB;obtain⟨hA,hF⟩:=fY hA)
 (try go_frame);go_loopg [] b.es.length (ChRel b r p n w)
 case atStart=>exact⟨[],hA.pick pZ,nofun,by simp⟩
 case round=>
  obtain⟨ds,hA2,hds,hk⟩:=hrel;clear hF hA;have hA:=hA2;clear hA2;obtain⟨hA,hF⟩:=fY hA;go_step
  go_step
  refine Zba rfl rfl rfl hA sR (fun hp=> ?_) (fun q w1 hq hd hB=> ?_)
  · have hpp:=ents_perm hp;have hc:=Hd (h2'.out (fun e he=>(hds e (hpp.mem_iff.1 he)).2));have hM:=At.ranged hA sR;clear hp hpp hds;go_wp2_with fail;go_ret;exact⟨by rw[hc.out];rfl,close0 b hM sR sR sR⟩
  obtain⟨s,hs,rfl⟩:=List.mem_map.1 hq;have hI:Zat Tryz.prog 110 w1 r b.m (ents b.es) (ents ds++[ent s]):=hB.get (A:=Part.iter _ _ r b.m (ents b.es) (ents ds++[ent s])) sR;have hen:=hI.entry;have hlen:(ds++[s]).length≤b.es.length:=by have:=hI.len;simpa [ents] using this
  have hsub:¬(s.path=p∧s.n=n)→∀x ∈ ds++[s],x ∈ b.es∧¬(x.path=p∧x.n=n):=fun hn x hx=>by
   rcases List.mem_append.1 hx with hx|hx
   · exact hds x hx
   have:x=s:=by simpa using hx
   rw[this];exact⟨hs,hn⟩
  rw[ents_snoc] at hB;have hs1:=hok s hs;clear hF hA;have hA:=hB;have hk':=Hd hk;have hsub':=Hd hsub;have hc1:=Hd (h1'.out s hs);have hcl:=fun(w1:World) (q:Sep [BookP b] w1)=>ZeU q s hs1 hok
  obtain⟨cc,hcc⟩:∃cc,ZaG b.es s=cc:=⟨_,rfl⟩
  rw[hcc] at hcl;have hcc':=Hd hcc;simp only[List.length_append,List.length_cons,List.length_nil,Nat.zero_add] at hlen;clear hI hB hk hsub hds hq hd hs hcc;obtain⟨hA,hF⟩:=fY hA;simp only[ent,Ent.key,Ent.val,keyV] at hen;by_cases e1:s.path=p
  · have b1:(s.path.toList==p.toList)=true:=by rw[same_ba];exact decide_eq_true e1
    have e1':=Hd e1;by_cases e2:s.n=n
    · have b2:(s.n==n)=true:=by simpa using e2
      have e2':=Hd e2;clear e1 e2
      go_wp2_with (first|((with_reducible refine gst ?_);refine wTy hA ?_;clear hF hA;intro w1 hA hF)|((with_reducible refine gal ?_);refine g5 hA ?_;clear hF hA;intro b1 w1 hA hb1 hF))
      have hM:=At.ranged hA sR;replace hA:=fold0 b hM sR sR sR;clear hF hM;refine(hcl _ (hA.sep1 (A:=BookP b) sR)).mono ?_;clear hcl;rintro o w2 ⟨rfl,hT⟩;have hB:=hA.call1 (A:=BookP b) sR hT;have hres:=Hd ((hc1.out e1'.out e2'.out).symm.trans hcc'.out);clear hA hT;go_wp2_with fail;go_ret;exact⟨by rw[hres.out];rfl,hB.only1 .here⟩
    have b2:(s.n==n)=false:=by simpa using e2
    have hs3:=Hd (hsub'.out (fun q=>e2 q.2));clear e1 e2
    go_wp2_with (first|((with_reducible refine gst ?_);refine wTy hA ?_;clear hF hA;intro w1 hA hF)|((with_reducible refine gal ?_);refine g5 hA ?_;clear hF hA;intro b1 w1 hA hb1 hF))
    go_roundg (gk - 1);case measure=>have:=hk'.out;omega
    case rel=>exact⟨ds++[s],hA.pick pR,hs3.out,by have:=hk'.out;simp;omega⟩
  have b1:(s.path.toList==p.toList)=false:=by rw[same_ba];exact decide_eq_false e1
  have hs3:=Hd (hsub'.out (fun q=>e1 q.1));clear e1
  go_wp2_with (first|((with_reducible refine gst ?_);refine wTy hA ?_;clear hF hA;intro w1 hA hF)|((with_reducible refine gal ?_);refine g5 hA ?_;clear hF hA;intro b1 w1 hA hb1 hF))
  go_roundg (gk - 1);case measure=>have:=hk'.out;omega
  case rel=>exact⟨ds++[s],hA.pick pR,hs3.out,by have:=hk'.out;simp;omega⟩
end Lock
end
section
namespace Mark
open Go.RowKit
open Go.Sort Go.Shelf
def orI (a b:Int):Int:=if a=0 then b else a
theorem or2 (a b:Int) (g:Nat) (w:World) (h0:w.cell? ⟨g,0,none⟩=some (.int .i64 a)) (h1:w.cell? ⟨g,1,none⟩=some (.int .i64 b)):
 Calls Tryz.prog 49 #[.slice (some ⟨g,0,none⟩) 2 2] w fun e w'=>e=.returned (.int .i64 (orI a b))∧w=w':=by
 by_cases ha:a=0
 · subst ha;by_cases hb:b=0
   · subst hb;go_enter Tryz.func49,Tryz.ntmps49;go_wp2
     refine wp_loop_rounds 3 ?_;rw[rounds_succ];go_wp2
     rw[rounds_succ];go_wp2
     rw[rounds_succ];go_wp2
     go_ret;exact⟨rfl,rfl⟩
   have hb':(b==0)=false:=by simpa using hb
   go_enter Tryz.func49,Tryz.ntmps49;go_wp2
   refine wp_loop_rounds 2 ?_;rw[rounds_succ];go_wp2
   rw[rounds_succ];go_wp2
   refine bodyPost_ret (results_tmp rfl _ _ _) rfl ?_;exact⟨rfl,rfl⟩
 have ha':(a==0)=false:=by simpa using ha
 have e:orI a b=a:=by simp[orI,ha]
 rw[e];go_enter Tryz.func49,Tryz.ntmps49;go_wp2
 refine wp_loop_rounds 1 ?_;rw[rounds_succ];go_wp2
 refine bodyPost_ret (results_tmp rfl _ _ _) rfl ?_;exact⟨rfl,rfl⟩
def cmpID (x y:Int × Int):Int:=orI (Lib.compareInt x.1 y.1) (Lib.compareInt x.2 y.2)
theorem Zfg (W:World) (A B C:Obj) (n:Nat):(((W.alloc A).alloc B).drewN n).alloc C=grow (W.drewN n) #[A,B,C]:=by
 rw[alloc_eq_grow W,alloc_eq_grow _ B,alloc_eq_grow _ C,grow_grow];show grow (grow (W.drewN n) _) _=_;rw[grow_grow];rfl
theorem ZcD (X:World) (n:Nat) (h:X.heap.size=n) (cs:Array Value) (t:TypeId) (j:Nat) (v:Value) (hv:cs[j]? =some v):(X.alloc (.cells cs t)).cell? ⟨n,j,none⟩=some v:=by
 subst h;rw[World.cell?,World.alloc_heap_new];exact hv
def ltID (x y:Int × Int):Prop:=x.1 < y.1∨(x.1=y.1∧x.2 < y.2)
instance (x y:Int × Int):Decidable (ltID x y):=by unfold ltID;infer_instance
theorem Zd5 (x y:Int × Int):ltOf cmpID x y=decide (ltID x y):=by
 unfold ltOf cmpID orI Lib.compareInt ltID;by_cases h1:x.1 < y.1
 · simp[h1]
 by_cases h2:y.1 < x.1
 · have:x.1≠y.1:=by omega
   simp[h1,h2,this]
 have:x.1=y.1:=by omega
 by_cases h3:x.2 < y.2
 · simp[this,h3]
 by_cases h4:y.2 < x.2<;>simp[this,h3,h4]
theorem totID (x y:Int × Int) (h1:ltOf cmpID x y=false) (h2:ltOf cmpID y x=false):x=y:=by
 rw[Zd5] at *
 simp only[decide_eq_true_eq,decide_eq_false_iff_not] at *
 obtain⟨a,b⟩:=x;obtain⟨c,d⟩:=y;unfold ltID at *
 simp only[Prod.mk.injEq];simp only at h1 h2;omega
def ZgR (l:List (Int × Int)):List (Int × Int):=l.mergeSort fun x y=> !ltOf cmpID y x
end Mark
end
section
namespace Lock
open Go.Sort Go.Shelf
open Go.Lib (compareBytes compareInt)
open _root_.Go.Proofs.YtknoefbcmomalabGreatDoor.Mark (orI)
open Path (bl Zaf overB Zah cmpL cmpP)
def keyL (e:Ent):List Path.Bs:=Zah (bl e.path)
def ltE (x y:Ent):Prop:=cmpL (keyL x) (keyL y) < 0∨(keyL x=keyL y∧x.stamp < y.stamp)
instance (x y:Ent):Decidable (ltE x y):=by unfold ltE;infer_instance
def cmpE (x y:Ent):Int:=orI (cmpP (bl x.path) (bl y.path)) (compareInt x.stamp y.stamp)
theorem bl_inj {a b:ByteArray} (h:bl a=bl b):a=b:=by
 unfold bl at h;have:a.data=b.data:=by rw[←Array.toList_inj];exact h
 cases a;cases b;simp_all
theorem Zd2 {x y:Ent} (h:keyL x=keyL y):x.path=y.path:=bl_inj (Path.ZcB h)
theorem ZpA {x y:Ent} (hx:Zaf (bl x.path)=true) (hy:Zaf (bl y.path)=true):decide (cmpE x y < 0)=decide (ltE x y):=by
 have hcp:cmpP (bl x.path) (bl y.path)=cmpL (Zah (bl x.path)) (Zah (bl y.path)):=by simp[cmpP,hx,hy]
 unfold cmpE orI compareInt ltE;rw[hcp];show _=decide (cmpL (Zah (bl x.path)) (Zah (bl y.path)) < 0∨(Zah (bl x.path)=Zah (bl y.path)∧x.stamp < y.stamp));generalize hp:Zah (bl x.path)=p;generalize hq:Zah (bl y.path)=q;by_cases h0:cmpL p q=0
 · have e:=Path.cl_eq h0;subst e;rw[Path.ZeW];by_cases h1:x.stamp < y.stamp
   · simp[h1]
   by_cases h2:y.stamp < x.stamp<;>simp[h1,h2]
 have hne:p≠q:=fun e=>h0 (by rw[e];exact Path.ZeW q);simp[h0,hne]
theorem Zdw (x:Ent):¬ltE x x:=by
 unfold ltE;rw[Path.ZeW];omega
theorem Zcs {x y z:Ent} (h1:ltE x y) (h2:ltE y z):ltE x z:=by
 unfold ltE at *
 rcases h1 with h1|⟨h1,h1'⟩
 · rcases h2 with h2|⟨h2,_⟩
   · exact .inl (Path.ZgA h1 h2)
   exact .inl (by rw[←h2];exact h1)
 rcases h2 with h2|⟨h2,h2'⟩
 · exact .inl (by rw[h1];exact h2)
 exact .inr ⟨h1.trans h2,by omega⟩
theorem Zgj (x y:Ent):ltE x y∨(keyL x=keyL y∧x.stamp=y.stamp)∨ltE y x:=by
 unfold ltE;have h:=Path.Ziu (keyL x) (keyL y);by_cases h0:cmpL (keyL x) (keyL y)=0
 · have e:=Path.cl_eq h0;rcases Int.lt_trichotomy x.stamp y.stamp with q|q|q
   · exact .inl (.inr ⟨e,q⟩)
   · exact .inr (.inl ⟨e,q⟩)
   exact .inr (.inr (.inr ⟨e.symm,q⟩))
 by_cases h1:cmpL (keyL x) (keyL y) < 0
 · exact .inl (.inl h1)
 exact .inr (.inr (.inl (by omega)))
abbrev EntI (es:List Ent):={e:Ent // e ∈ es}
def cmpI (es:List Ent) (x y:EntI es):Int:=cmpE x.1 y.1
def encI (es:List Ent) (x:EntI es):List Value:=x.1.cells
structure Sortable (es:List Ent):Prop where
 right:∀e ∈ es,Zaf (bl e.path)=true
 one:∀a ∈ es,∀b ∈ es,a.path=b.path→a.stamp=b.stamp→a=b
theorem Inv.sortable {s:S3} {k:Nat} (h:Inv s k):Sortable s.es:=⟨h.right,fun a ha b hb hp hs=>by
 obtain⟨i,hi⟩:=List.mem_iff_getElem?.1 ha;obtain⟨j,hj⟩:=List.mem_iff_getElem?.1 hb;obtain⟨hi1,hi2⟩:=List.getElem?_eq_some_iff.1 hi;obtain⟨hj1,hj2⟩:=List.getElem?_eq_some_iff.1 hj;have hp':=List.pairwise_iff_getElem.1 h.order;have ho:overB (bl a.path) (bl a.path)=true:=Path.Zg3 (h.right a ha);rcases Nat.lt_trichotomy i j with q|q|q
 · have:=hp' i j hi1 hj1 q
   rw[hi2,hj2,←hp] at this;have:=this ho;omega
 · subst q;rw[hi] at hj;exact Option.some.inj hj
 have:=hp' j i hj1 hi1 q
 rw[hi2,hj2,←hp] at this;have:=this ho
 omega⟩
section
variable {es:List Ent} (H:Sortable es)
include H
theorem cmpI_lt (x y:EntI es):ltOf (cmpI es) x y=decide (ltE x.1 y.1):=ZpA (H.right _ x.2) (H.right _ y.2)
theorem totI (x y:EntI es) (h1:ltOf (cmpI es) x y=false) (h2:ltOf (cmpI es) y x=false):x=y:=by
 rw[cmpI_lt H] at *
 rcases Zgj x.1 y.1 with q|q|q
 · exact absurd q (of_decide_eq_false h1)
 · exact Subtype.ext (H.one _ x.2 _ y.2 (Zd2 q.1) q.2)
 exact absurd q (of_decide_eq_false h2)
theorem swoI:SWO (ltOf (cmpI es)) where
 irrefl x:=by rw[cmpI_lt H];exact decide_eq_false (Zdw _)
 trans x y z h1 h2:=by rw[cmpI_lt H] at *;exact decide_eq_true (Zcs (of_decide_eq_true h1) (of_decide_eq_true h2))
 ntrans x y z h1 h2:=by
  rw[cmpI_lt H] at *
  refine decide_eq_false fun h=> ?_;have n1:=of_decide_eq_false h1;have n2:=of_decide_eq_false h2;rcases Zgj x.1 y.1 with q|q|q
  · exact n1 q
  · have e:x=y:=Subtype.ext (H.one _ x.2 _ y.2 (Zd2 q.1) q.2);subst e;exact n2 h
  exact n2 (Zcs q h)
def sortI (_:Sortable es) (l:List (EntI es)):List (EntI es):=l.mergeSort fun x y=> !ltOf (cmpI es) y x
omit H in
theorem sortI_len (H:Sortable es) (l:List (EntI es)):(sortI H l).length=l.length:=List.length_mergeSort l
omit H in
theorem sortI_perm (H:Sortable es) (l:List (EntI es)):(sortI H l).Perm l:=List.mergeSort_perm l _
omit H in
theorem ZmH (H:Sortable es) (l:List (EntI es)):(sortI H l).Pairwise (fun a b=>(!ltOf (cmpI es) b a)=true):=by
 refine List.pairwise_mergeSort ?_ ?_ l
 · intro a b c h1 h2;rw[cmpI_lt H] at *
   simp only[Bool.not_eq_true',decide_eq_false_iff_not] at *
   intro h;rcases Zgj b.1 a.1 with q|q|q
   · exact h1 q
   · have e:b=a:=Subtype.ext (H.one _ b.2 _ a.2 (Zd2 q.1) q.2);subst e;exact h2 h
   exact h2 (Zcs h q)
 intro a b;rw[cmpI_lt H,cmpI_lt H];simp only[Bool.or_eq_true,Bool.not_eq_true',decide_eq_false_iff_not];by_cases h:ltE b.1 a.1
 · right
   intro h';exact Zdw _ (Zcs h h')
 exact .inl h
end
theorem sortI_lt {es:List Ent} (H:Sortable es) (l:List (EntI es)) (hn:l.Nodup):((sortI H l).map (·.1)).Pairwise ltE:=by
 have h2:(sortI H l).Nodup:=(sortI_perm H l).nodup_iff.2 hn;rw[List.pairwise_map];refine((ZmH H l).and h2).imp ?_;rintro a b ⟨h,hne⟩;rw[cmpI_lt H] at h;simp only[Bool.not_eq_true',decide_eq_false_iff_not] at h;rcases Zgj a.1 b.1 with q|q|q
 · exact q
 · exact absurd (Subtype.ext (H.one _ a.2 _ b.2 (Zd2 q.1) q.2)) hne
 exact absurd q h
theorem ZjJ {l r:List Ent} (h1:l.Pairwise ltE) (h2:r.Pairwise ltE) (hp:l.Perm r):l=r:=
 hp.eq_of_pairwise (le:=ltE) (fun a b _ _ h3 h4=>absurd (Zcs h3 h4) (Zdw _)) h1 h2
def toI {es:List Ent}:(l:List Ent)→(∀x ∈ l,x ∈ es)→List (EntI es)
 |[],_=>[]
 |x::l,h=>⟨x,h x (by simp)⟩::toI l (fun y hy=>h y (by simp[hy]))
theorem toI_map {es:List Ent}:∀(l:List Ent) (h:∀x ∈ l,x ∈ es),(toI l h).map (·.1)=l
 |[],_=>rfl
 |x::l,h=>by rw[toI,List.map_cons,toI_map l]
theorem encI_flat {es:List Ent} (l:List (EntI es)):l.flatMap (encI es)=(l.map (·.1)).flatMap Ent.cells:=by
 induction l with
 |nil=>rfl
 |cons x l ih=>rw[List.flatMap_cons,List.map_cons,List.flatMap_cons,ih];rfl
end Lock
end
section
namespace Lock
open _root_.Go.Proofs.YtknoefbcmomalabGreatDoor.Mark (seenOf seenOf_eq iter_walk iter_keeps grown_of_exc grown_of_ext Box Box.own)
open Go.RowKit Go.Shelf
open Go.Maps (Keyed)
attribute [local go_sem] Oper.semAt_some
def unE2:Value→Ent
 |.agg #[.string p,.int _ n,.string f,.int _ m,.int _ k,.int _ s]=>⟨p,n,f,m,k,s⟩
 |_=>nullE
theorem Zh1 {l m:List Ent} (h:(l.map Ent.val).Perm (m.map Ent.val)):l.Perm m:=by
 have:=h.map unE2
 have e:∀x:Ent,unE2 x.val=x:=fun _=>rfl;simpa [List.map_map,Function.comp_def,e] using this
theorem Zmz (F:Fence) (n:Nat) (h1:F.fn 90) (hro:F.round=none) (hn:1≤n) (l Bm b:Nat) (es:List (Value × Value)) (ks:List (Ent)) (hes:es.map (·.2)=ks.map Ent.val) (J Jx:List (Ent)→World→Prop)
 (W:World) (hJ:AbidesFrom W.heap.size J)
 (hY:∀pre x W1,J pre W1→pre.length < ks.length→YieldAt F (n - 1) Tryz.prog l #[x.val] W1 fun e W'=>(e=.returned (.bool true)∧J (pre++[x]) W'∧KeepsWalks W1 W')∨(e=.returned (.bool false)∧Jx (pre++[x]) W'))
 (hm:W.cell? ⟨Bm,0,none⟩=some (.map (some b))) (hM:MapAt Tryz.prog 110 W b es) (h0:J [] W):
 CallsIn F n Tryz.prog 90 #[.func (.yield l) #[] #[],.pointer (some ⟨Bm,0,none⟩)] W fun e W'=>(∃v,e=.returned v)∧((∃ys,ys.Perm ks∧J ys W')∨(∃pre,True∧Jx pre W')):=by
 obtain⟨W0,hrun,hext,hI⟩:=Zat.start hM Tryz.underlying108;have hJ0:J [] W0:=hJ _ W W0 none h0 (grown_of_ext hext) (fun r e=>by cases e);refine callsIn_of_wp Tryz.func90 rfl h1 ?_ hro;simp only[Tryz.ntmps90,List.size_toArray,List.length_cons,List.length_nil,Nat.reduceAdd,Nat.reduceSub,Array.replicate_succ,Array.replicate_zero,List.push_toArray,List.append_toArray,List.nil_append,List.cons_append];gi_wp2
 clear hrun;(try go_frame)
 gi_loopw [4] (fun _ wr=>∃(done:List (Value × Value)) (ds:List (Ent)),Zat Tryz.prog 110 wr W.heap.size b es done∧done.map (·.2)=ds.map Ent.val∧J ds wr)
  (fun _ wr=>es.length - seenOf wr W.heap.size)
 case atStart=>exact⟨[],[],hI,rfl,hJ0⟩
 case round=>
  obtain⟨done,ds,hI1,hd,hJs⟩:=hrel;rcases hI1.next 0 with⟨hp,hrun⟩|⟨p,w',hp,hne,hrun,hI2,hx⟩
  · have hpp:ds.Perm ks:=(Zh1 (by rw[←hes,←hd];exact hp.map _)).symm;clear hes hd;gi_wp2
    go_end0
    exact⟨⟨_,rfl⟩,.inl ⟨ds,hpp,hJs⟩⟩
  obtain⟨pk,pv⟩:=p;have hpk:pv ∈ es.map (·.2):=List.mem_map.2 ⟨_,hp,rfl⟩;rw[hes] at hpk;obtain⟨x,_,rfl⟩:=List.mem_map.1 hpk
  have hlen:ds.length < ks.length:=by
   have e1:=congrArg List.length hes;have e2:=congrArg List.length hd;have e3:=hI2.len;simp at e1 e2 e3
   omega
  have hJ1:J ds w':=hJ ds wr w' (some W.heap.size) hJs (grown_of_exc hx) (fun r e=>by cases e;exact⟨Nat.le_refl _,iter_walk hI1⟩);have hJ2:J ds (w'.alloc (.cells #[.string x.path,.int .u64 x.num,.string x.foot,.int .i64 x.mode,.int .u64 x.n,.int .i64 x.stamp] 61)):=hJ _ _ _ none hJ1 (World.grownBy_alloc _ _ none) (fun r e=>by cases e);have hI3:Zat Tryz.prog 110 (w'.alloc (.cells #[.string x.path,.int .u64 x.num,.string x.foot,.int .i64 x.mode,.int .u64 x.n,.int .i64 x.stamp] 61)) W.heap.size b es (done++[(pk,x.val)]):=(Part.iter _ _ _ _ _ _).stay _ _ hI2 (fun q hq=>Below.heap_alloc _ _ _ ((Part.iter _ _ _ _ _ _).lt _ hI2 q hq));obtain⟨fn,tmps,assign,body,hy,hR⟩:=hY ds x _ hJ2 hlen;have hen:=hI2.entry;have hs0:=seenOf_eq hI1;have hes':=Hd hes;have hd':=Hd hd;have hs':=Hd hs0;have hle:=hI2.len;clear hes hd hs0 hpk hp hne hx;unfold Ent.val at hrun hen hy;gi_wp2
  refine hR.mono ?_;rintro e W3 (⟨rfl,hJ3,hk3⟩|⟨rfl,hJx3⟩)
  · gi_wp2
    go_roundw
    case rel=>exact⟨done++[(pk,x.val)],ds++[x],iter_keeps hI3 hk3,by simp[hd'.out],hJ3⟩
    case measure=>
     have e1:=seenOf_eq (iter_keeps hI3 hk3);have e2:=hs'.out;rw[e1,e2];simp at hle ⊢
     omega
  gi_wp2
  refine bodyPost_ret (results_none rfl _ _ _) rfl ?_;exact⟨⟨_,rfl⟩,.inr ⟨_,trivial,hJx3⟩⟩
theorem ZoN (F:Fence) (n:Nat) (h1:F.fn 46) (hro:F.round=none) (mb:Option Nat) (w:World):
 CallsIn F n Tryz.prog 46 #[.map mb] w fun e w'=>e=.returned (.func (.func 90) #[] #[.pointer (some ⟨w.heap.size,0,none⟩)])∧w'=w.alloc (.cells #[.map mb] 108):=by
 refine callsIn_of_wp Tryz.func46 rfl h1 ?_ hro;simp only[Tryz.ntmps46,List.size_toArray,List.length_cons,List.length_nil,Nat.reduceAdd,Nat.reduceSub,Array.replicate_succ,Array.replicate_zero,List.push_toArray,List.append_toArray,List.nil_append,List.cons_append];gi_wp2
 go_ret;exact⟨rfl,rfl⟩
theorem ZjE (F:Fence) (n:Nat) (h1:F.fn 90) (hro:F.round=none) (hn:1≤n) (Bm b:Nat) (es:List (Value × Value)) (ks:List (Ent)) (hes:es.map (·.2)=ks.map Ent.val) (w:World) (hBm:Bm < w.heap.size)
 (hm:w.cell? ⟨Bm,0,none⟩=some (.map (some b))) (hM:MapAt Tryz.prog 110 w b es):
 SeqStopsK F n Tryz.prog 90 #[.pointer (some ⟨Bm,0,none⟩)] (fun x:Ent=> #[x.val]) KeepsWalks (fun ys=>ys.Perm ks) (fun _=>True) ks.length w:=fun l J Jx W hW hJ _ hY h0=>
 Zmz F n h1 hro hn l Bm b es ks hes J Jx W hJ hY ((hW.cell (p:=⟨Bm,0,none⟩) hBm).trans hm) (hM.same (hW.block b hM.lt)) h0
theorem infoID:(Tryz.prog.info? 61).map (fun i=>(i.zero,i.size,i.bytes))=some (some (.agg #[.string .empty,.int .u64 0,.string .empty,.int .i64 0,.int .u64 0,.int .i64 0]),6,64):=by kernel_rfl
theorem ZoR (W:World) (a b c d e f:Value) (t:TypeId):∀(j:Nat) (u:Value),[a,b,c,d,e,f][j]? =some u→(W.alloc (.cells #[a,b,c,d,e,f] t)).cell? ((⟨W.heap.size,0,none⟩:Addr).add j)=some u:=by
 intro j u h
 match j,h with
 |0,h=>simp at h;subst h;simp[Addr.add]
 |1,h=>simp at h;subst h;simp[Addr.add]
 |2,h=>simp at h;subst h;simp[Addr.add]
 |3,h=>simp at h;subst h;simp[Addr.add]
 |4,h=>simp at h;subst h;simp[Addr.add]
 |5,h=>simp at h;subst h;simp[Addr.add]
 |j + 6,h=>simp at h
def MidI (w:World) (pre:List (Ent)) (W:World):Prop:=
 (∃v,Boxed W w.heap.size 53 v∧W.ownsRow w.heap.size 61 6 v pre.length (pre.flatMap Ent.cells)∧(v=.slice none 0 0↔pre=[]))∧Below w.heap.size w W
theorem midI_own (w:World) (B:Nat) (hB:w.heap.size≤B):OwnFrom B (MidI w):=
 OwnFrom.and (Own.from (holdsRow_own w.heap.size w.heap.size 53 61 6 (fun pre=>pre.length) (fun pre=>pre.flatMap Ent.cells) (fun pre v=>v=.slice none 0 0↔pre=[])) _) (ownFrom_below (Nat.le_refl _) hB)
def MidAx (w:World) (sv:Value) (x:Ent) (a':Act) (W:World):Prop:=
 ∃Bx,w.heap.size < Bx∧Box W Bx 61 #[.string x.path,.int .u64 x.num,.string x.foot,.int .i64 x.mode,.int .u64 x.n,.int .i64 x.stamp]∧a'={tmps:= #[.slice none 0 0,sv,.pointer (some ⟨w.heap.size,0,none⟩),undef,.slice none 0 0,.pointer (some ⟨Bx,0,none⟩),sv,x.val,undef,undef,undef,undef,undef],defers:=[]}
theorem midAx_own (w:World) (sv:Value) (B:Nat) (x:Ent) (a':Act):OwnFrom B (fun(_:Unit) W=>MidAx w sv x a' W):=by
 rintro s X Y row ⟨Bx,h1,h2,h3⟩ hg hr;exact⟨Bx,h1,(Box.own (β:=Unit) Bx _ _).from B () X Y row h2 hg hr,h3⟩
theorem appendSeq_in (F:Fence) (n:Nat) (hF:F.fn 89) (hro:F.round=none) (hn:3≤n) (gf:Nat) (lb:Array Value) (hFg:F.fn gf) (eg:∀args w,(callFunc gf args).run Tryz.prog w=.ok (.enter gf args) w)
 (S Sp:List (Ent)→Prop) (N:Nat) (hN:N≤100000000) (w:World) (hseq:SeqStopsK F (n - 1) Tryz.prog gf lb (fun x:Ent=> #[x.val]) KeepsWalks S Sp N w):
 CallsIn F n Tryz.prog 89 #[.slice none 0 0,.func (.func gf) #[] lb] w fun e w'=>∃(v:Value) (ss:List (Ent)),e=.returned v∧S ss∧w'.ownsRow w.heap.size 61 6 v ss.length (ss.flatMap Ent.cells)∧(v=.slice none 0 0↔ss=[])∧Below w.heap.size w w':=by
 have h1:1≤n:=by omega
 obtain⟨i0,hi,hz0,hz1,hz2⟩:=info_parts infoID;refine callsIn_of_wp_marks Tryz.func89 rfl hF ?_ hro;simp only[Tryz.ntmps89,List.size_toArray,List.length_cons,List.length_nil,Nat.reduceAdd,Nat.reduceSub,Array.replicate_succ,Array.replicate_zero,List.push_toArray,List.append_toArray,List.nil_append,List.cons_append];gi_wp2
 have bO:=Boxed.new w 53 (.slice none 0 0);have hB0:Below w.heap.size w (w.alloc (.cells #[.slice none 0 0] 53)):=(Below.refl _ w).alloc (Nat.le_refl _) _
 refine wpIn_rangeFunc_ownH hro h1 (gf:=gf) (lb:=lb) rfl hFg eg hseq walksK_t walksK_b hB0 (fun _=>rfl)
  (MidI w) (fun _ _ _=>False) (midI_own w _ (by simp)) (fun _ _ _ _ _ hs _ _=>hs)
  ⟨⟨_,bO,World.ownsRow_nil _ _ _ _,by simp⟩,hB0⟩
  (MidAx w (.func (.func gf) #[] lb)) (fun x a'=>midAx_own w _ _ x a') ?assign ?body ?done ?stop
 case assign=>
  rintro l pre x W K ⟨⟨v,hv,hrow,hnil⟩,hB⟩ hK;have hsz:=hB.size;unfold Ent.val;gi_wp2
  refine hK _ _ ((KeepsOthers.alloc _ _).from _) (KeepsWalks.alloc _ _) ⟨⟨v,hv.alloc _,hrow.alloc _,hnil⟩,hB.alloc hB.size _⟩ ⟨W.heap.size,hv.lt,World.alloc_heap_new W _,rfl⟩
 case body=>
  rintro l pre x a' W hl ⟨r,hr⟩ ⟨⟨v,hv,hrow,hnil⟩,hB⟩ ⟨Bx,hBx,bX,rfl⟩ hlt;have hc:=hv.cell;have c0:W.cell? ⟨Bx,0,none⟩=some (.string x.path):=by unfold Box at bX;simp[World.cell?,bX]
  have c1:W.cell? ⟨Bx,1,none⟩=some (.int .u64 x.num):=by unfold Box at bX;simp[World.cell?,bX]
  have c2:W.cell? ⟨Bx,2,none⟩=some (.string x.foot):=by unfold Box at bX;simp[World.cell?,bX]
  have c3:W.cell? ⟨Bx,3,none⟩=some (.int .i64 x.mode):=by unfold Box at bX;simp[World.cell?,bX]
  have c4:W.cell? ⟨Bx,4,none⟩=some (.int .u64 x.n):=by unfold Box at bX;simp[World.cell?,bX]
  have c5:W.cell? ⟨Bx,5,none⟩=some (.int .i64 x.stamp):=by unfold Box at bX;simp[World.cell?,bX]
  have hsz:=hB.size
  gi_wp2_with (gi_at_builtin;refine wpListIn_append_own _ rfl _ _ 53 rfl w.heap.size 61 i0 (.agg #[.string .empty,.int .u64 0,.string .empty,.int .i64 0,.int .u64 0,.int .i64 0]) 6 64 Tryz.underlying53 hi hz0 hz1 hz2 rfl (by decide) _ _ _ rfl (hrow.alloc _) ⟨W.heap.size,0,none⟩ 1 1 [.string x.path,.int .u64 x.num,.string x.foot,.int .i64 x.mode,.int .u64 x.n,.int .i64 x.stamp] rfl rfl (ZoR _ _ _ _ _ _ _ _) (by simp[Value.oneCell']) (by unfold maxLen;omega) (by omega) (by simp;omega) ?_;intro v' w1 hown' hgrow _;obtain⟨g',cap',rfl⟩:=ownsRow_succ hown';obtain⟨hv1,hv2,hr2,hk2,hb2⟩:=hv.appended (by decide) hrow hB.size (Nat.le_refl _) hown' hgrow;have hc1:=hv1.cell;have hf1:=hv1.frozen)
  exact⟨hk2.from _,hk2.walks,⟨_,hv2,by simpa [Ent.cells] using hr2,by simp⟩,hB.trans hb2⟩
 case done=>
  rintro D ys W hD hS ⟨⟨v,hv,hrow,hnil⟩,hB⟩ hK;have hc:=hv.cell;gi_wp2
  refine⟨by simp,.inl ⟨_,_,rfl,run_takeDeferred hK,?_⟩⟩;exact⟨_,results_tmp rfl _ _ _,v,ys,rfl,hS,ownsRow_putObj hrow _ hK rfl,hnil,hB.trans (belowK_b (w:=w) (Nat.le_refl _) W D _ _ (by simp at hD;omega) hK rfl rfl)⟩
 case stop=>
  rintro D c pre W _ _ h _;exact h.elim
theorem collect_in (F:Fence) (n:Nat) (hF:F.fn 45) (hF2:F.fn 89) (hro:F.round=none) (hn:4≤n) (gf:Nat) (lb:Array Value) (hFg:F.fn gf) (eg:∀args w,(callFunc gf args).run Tryz.prog w=.ok (.enter gf args) w)
 (S Sp:List (Ent)→Prop) (N:Nat) (hN:N≤100000000) (w:World) (hseq:SeqStopsK F (n - 1 - 1) Tryz.prog gf lb (fun x:Ent=> #[x.val]) KeepsWalks S Sp N w):
 CallsIn F n Tryz.prog 45 #[.func (.func gf) #[] lb] w fun e w'=>∃(v:Value) (ss:List (Ent)),e=.returned v∧S ss∧w'.ownsRow w.heap.size 61 6 v ss.length (ss.flatMap Ent.cells)∧(v=.slice none 0 0↔ss=[])∧Below w.heap.size w w':=by
 have h1:1≤n:=by omega
 refine callsIn_of_wp Tryz.func45 rfl hF ?_ hro;simp only[Tryz.ntmps45,List.size_toArray,List.length_cons,List.length_nil,Nat.reduceAdd,Nat.reduceSub,Array.replicate_succ,Array.replicate_zero,List.push_toArray,List.append_toArray,List.nil_append,List.cons_append]
 gi_wp2_with (gi_at_call 89;refine(appendSeq_in F (n - 1) hF2 hro (by omega) gf lb hFg eg S Sp N hN _ hseq).mono ?_;rintro e W ⟨v,ss,rfl,hS,hrow,hnil,hb⟩)
 go_ret;exact⟨v,ss,rfl,hS,hrow,hnil,hb⟩
theorem ZhD (Bm b:Nat) (es:List (Value × Value)) (ks:List (Ent)) (hes:es.map (·.2)=ks.map Ent.val) (w:World) (hBm:Bm < w.heap.size) (hm:w.cell? ⟨Bm,0,none⟩=some (.map (some b))) (hM:MapAt Tryz.prog 110 w b es) (hN:ks.length≤100000000):
 Calls Tryz.prog 45 #[.func (.func 90) #[] #[.pointer (some ⟨Bm,0,none⟩)]] w fun e w'=>∃(v:Value) (ss:List (Ent)),e=.returned v∧ss.Perm ks∧w'.ownsRow w.heap.size 61 6 v ss.length (ss.flatMap Ent.cells)∧(v=.slice none 0 0↔ss=[])∧Below w.heap.size w w':=
 callsIn_wide.1 (collect_in Fence.wide 5 trivial trivial rfl (by omega) _ _ trivial (enters_of Tryz.func90 (by kernel_rfl) rfl) _ _ ks.length hN w
  (ZjE Fence.wide _ trivial rfl (by omega) Bm b es ks hes w hBm hm hM))
end Lock
end
section
namespace Mark
open Go.RowKit Go.Shelf Go.Sort
open Go.Maps (Keyed)
section
variable {α:Type} [Inhabited α]
theorem Zfv (enc:α→List Value) (k:Nat) (hk:∀x,(enc x).length=k) (l:List α):(flatK enc k l.toArray).toList=l.flatMap enc:=by
 apply List.ext_getElem?;intro t;by_cases ht:t < l.length * k
 · have hk0:0 < k:=by
    rcases Nat.eq_zero_or_pos k with h|h
    · subst h;omega
    exact h
   have hq:t / k < l.length:=Nat.div_lt_of_lt_mul (by rw[Nat.mul_comm];exact ht);have e:=Zcc enc k hk l (t / k) l[t / k] (List.getElem?_eq_getElem hq) (t % k) (Nat.mod_lt _ hk0);rw[Nat.mul_comm,Nat.div_add_mod] at e;rw[e,Array.getElem?_toList];have hm:t % k < (enc l[t / k]).length:=by rw[hk];exact Nat.mod_lt _ hk0
   simp[flatK,ht,hq,hm]
 rw[List.getElem?_eq_none (by simp;omega),List.getElem?_eq_none (by rw[Zay enc k hk];omega)]
theorem Zhk {w:World} {g n:Nat} {os:Array Obj} {cur:Array Value} {e:TypeId} {fr:Nat × Nat} (F:Array Value) (hb:w.heap[g]? =some (.cells cur e fr)):
 (grow (putRow id (Sort.ahead w n) g 0 F) os).heap[g]? =some (.cells (putCells id 0 F cur) e fr):=by
 have hg:g < w.heap.size:=(Array.getElem?_eq_some_iff.1 hb).1;rw[heap_grow_old _ _ (by simpa using hg)];simp[putRow,mapBlock,Sort.ahead,Array.getElem?_modify,hb,onCells]
theorem Za6 {w:World} {g n:Nat} {os:Array Obj} (F:Array Value):w.grownBy (grow (putRow id (Sort.ahead w n) g 0 F) os) (some g):=by
 refine⟨rfl,rfl,rfl,by simp,fun k hk hne=> ?_⟩;rw[heap_grow_old _ _ (by simpa using hk)]
 have:g≠k:=fun e=>hne (by rw[e])
 simp[putRow,mapBlock,Sort.ahead,Array.getElem?_modify,this]
theorem ZkA (cur F:Array Value) (h:F.size≤cur.size):(putCells id 0 F cur).toList.take F.size=F.toList:=by
 apply List.ext_getElem?;intro j;by_cases hj:j < F.size
 · rw[List.getElem?_take_of_lt hj,Array.getElem?_toList];simp[putCells,hj,show j < cur.size by omega]
 rw[List.getElem?_take_eq_none (by omega),List.getElem?_eq_none (by simp;omega)]
theorem ZbY (enc:α→List Value) (k:Nat) (hk:∀x,(enc x).length=k) {w:World} {base g cap n:Nat} {e:TypeId} {os:Array Obj} {cur:Array Value} {ss ts:List α} (hl:ts.length=ss.length) (hbase:base≤g) (hb:w.heap[g]? =some (.cells cur e (0,0)))
 (h1:ss.length≤cap) (h2:cap≤maxLen) (h3:cur.size=cap * k):
 (sortWorldK enc k w g 0 n ts.toArray os).ownsRow base e k (.slice (some ⟨g,0,none⟩) ss.length cap) ss.length (ts.flatMap enc):=by
 have hsz:(flatK enc k ts.toArray).size=ss.length * k:=by simp[hl]
 refine⟨by rw[Zay enc k hk,hl],.inr ⟨g,cap,_,rfl,hbase,Zhk (flatK enc k ts.toArray) hb,h1,h2,by simp[putCells,h3],?_⟩⟩;have:=ZkA cur (flatK enc k ts.toArray) (by rw[hsz,h3];exact Nat.mul_le_mul_right _ h1);rw[hsz,Zfv enc k hk] at this;exact this
theorem Zct (enc:α→List Value) (k:Nat) (hk:∀x,(enc x).length=k) {w:World} {g:Nat} {cur:Array Value} {e:TypeId} {ss:List α} (hb:w.heap[g]? =some (.cells cur e (0,0))) (ht:cur.toList.take (ss.length * k)=ss.flatMap enc):HoldsK enc k w g 0 ss.toArray:=by
 intro j hj;have hj':j < ss.length * k:=by simpa using hj
 refine⟨?_,by simp[World.frozen?,hb]⟩
 have h1:(cur.toList.take (ss.length * k))[j]? =(flatK enc k ss.toArray).toList[j]? :=by rw[ht,Zfv enc k hk]
 rw[List.getElem?_take_of_lt hj',Array.getElem?_toList,Array.getElem?_toList,Array.getElem?_eq_getElem hj] at h1;simp only[World.cell?,hb,Nat.zero_add];simp only[Option.isSome_none,Bool.false_eq_true,if_false];rw[h1,getElem!_pos _ j hj];rfl
end
theorem sort_len (l:List (Int × Int)):(ZgR l).length=l.length:=List.length_mergeSort l
theorem sort_perm {l m:List (Int × Int)} (h:l.Perm m):ZgR l=ZgR m:=by
 have hp:(ZgR l).Perm (ZgR m):=(List.mergeSort_perm l _).trans (h.trans (List.mergeSort_perm m _).symm)
 have tr:∀a b c:Int × Int,(!ltOf cmpID b a)=true→(!ltOf cmpID c b)=true→(!ltOf cmpID c a)=true:=by
  intro a b c h1 h2;rw[Zd5] at *
  simp only[Bool.not_eq_true',decide_eq_false_iff_not] at *
  unfold ltID at *
  omega
 have tot:∀a b:Int × Int,((!ltOf cmpID b a) || !ltOf cmpID a b)=true:=by
  intro a b;rw[Zd5,Zd5];simp only[Bool.or_eq_true,Bool.not_eq_true',decide_eq_false_iff_not];unfold ltID;omega
 refine List.Perm.eq_of_pairwise (le:=fun a b=>(!ltOf cmpID b a)=true) ?_ (List.pairwise_mergeSort tr tot l) (List.pairwise_mergeSort tr tot m) hp;intro a b _ _ h1 h2;exact totID a b (by simpa using h2) (by simpa using h1)
end Mark
end
section
namespace Path
open Go.RowKit
theorem wpList_make_at {P:Program} {ops:Array Oper} {rest:List Oper} {o:Oper} {a:Act} {Q:Exit→Act→World→Prop} {L0 L:List Part} {w0 w:World} {t e:TypeId} {i:TypeInfo} {z:Value} {kl kc:IntKind} (hg:o.guard=none) (l c:Operand) (hop:o.op=.makeSlice t l c)
 (ht:P.underlying t=some (.slice e)) (hi:P.info? e=some i) (hz:i.zero=some z) (hsize:i.size=1) (hz1:z.cells= #[z]) (n:Nat) (hl:a.eval l=.int kl (n:Int)) (hc:a.eval c=.int kc (n:Int)) (hbytes:i.bytes * n≤281474976710656) (h63:n≤9223372036854775807)
 (h:At L0 w0 L w) (hK:∀b w',At L0 w0 (Part.cells b (List.replicate n z) e::L) w'→w0.heap.size≤b→wpList P ops Q rest (a.put o.dst (.slice (some ⟨b,0,none⟩) n n)) w'):wpList P ops Q (o::rest) a w:=by
 have hr:=run_make_row t e i z ht hi hz hsize hz1 kl kc n hbytes h63 w;have hA:=h.alloc (List.replicate n z) e;rw[show(List.replicate n z).toArray=madeCells #[z] n from by rw[←toList_madeCells_one z n]] at hA;refine Zal hg ?_ (hK _ _ hA h.size);simp[execOp,hop,hl,hc,hr,Result.andThen]
theorem ZdR:∀l:Bs,Lib.countByte l 47 + 1=(Zah l).length
 |[]=>rfl
 |c::r=>by
  have ih:=ZdR r;unfold Lib.countByte at ih ⊢;rw[ZaK];split
  · rename_i h;subst h;simp;omega
  rename_i h;rw[List.count_cons];have hl:=Zbo r;simp[h];omega
theorem count_any (s:ByteArray) (w:World):Calls Tryz.prog 197 #[.string s,.string ⟨#[47]⟩] w fun e w'=>e=.returned (.int .i64 (Lib.countByte s.data.toList 47))∧w=w':=
 (Tryz.strings_Count_one s 47 w).mono fun _ _ ⟨he,hw⟩=>⟨he,hw.symm⟩
theorem Zpl (r:ByteArray) (w:World):Calls Tryz.prog 198 #[.string r,.string ⟨#[47]⟩] w fun e w'=>e=.returned (.int .i64 (Lib.indexByte r.data.toList 47))∧w=w':=
 (Tryz.strings_Index_one _ _ _).mono fun _ _ ⟨he,hw⟩=>⟨he,hw.symm⟩
def strCells (ws:List ByteArray) (k:Nat):List Value:=ws.map Value.string++List.replicate k (.string ⟨#[]⟩)
theorem ZdK (ws:List ByteArray) (k:Nat) (x:ByteArray):setL (strCells ws (k + 1)) ws.length [.string x]=strCells (ws++[x]) k:=by
 simp[setL,strCells,List.replicate_succ]
theorem ZeM (ws:List ByteArray):flatS ws=ws.map Value.string:=by
 induction ws with
 |nil=>rfl
 |cons x r ih=>simp only[flatS,List.flatMap_cons,List.map_cons] at ih ⊢;rw[ih];rfl
def GenRel (s:ByteArray) (w:World) (g N:Nat) (k:Nat) (u0 u10:Value) (wr:World):Prop:=
 ∃(ws:List ByteArray) (r:ByteArray),u0=.string r∧u10=.int .i64 ws.length∧ws.length + k=N∧r.size≤s.size∧Zah (bl s)=ws.map bl++Zah (bl r)∧At [] w [Part.cells g (strCells ws k) 9] wr
def ZhH (s:ByteArray) (w:World) (e:Ending) (w':World):Prop:=∃(v:Value) (ws:List ByteArray),e=.returned v∧ws.map bl=Zah (bl s)∧At [] w [rowS v ws] w'
theorem Zhn (s:ByteArray) (w:World) (hs:s.size≤2000000):Calls Tryz.prog 168 #[.string s,.string ⟨#[47]⟩,.int .i64 0,.int .i64 (-1)] w (ZhH s w):=by
 have hA:=At.start (w0:=w) (L0:=[]) trivial;have hF:=hA.facts;obtain⟨i0,hi0,hz0,hz1,hz2⟩:=info_parts Zik;have hN0:=ZdR (bl s);have hle:=Za1 (bl s);have hsz:(bl s).length=s.size:=by simp
 have h1:=Zbo (bl s)
 obtain⟨N,hN⟩:∃N,(Zah (bl s)).length=N:=⟨_,rfl⟩
 rw[hN] at hN0 hle h1
 have hc:((Lib.countByte s.data.toList 47:Nat):Int)=(N:Int) - 1:=by
  have:Lib.countByte s.data.toList 47 + 1=N:=hN0
  omega
 have hN':=Hd hN;rw[hsz] at hle;clear hN0 hsz hN;have hcnt:=count_any s w;rw[hc] at hcnt;clear hc;have hmin:min (N:Int) ((s.size:Int) + 1)=N:=by omega
 go_enter Tryz.func168,Tryz.ntmps168;go_wp2_with fail;refine hcnt.mono ?_;clear hcnt;rintro e _ ⟨rfl,rfl⟩
 go_wp2_with (refine wpList_make_at rfl _ _ rfl Tryz.underlying162 hi0 hz0 hz1 rfl N (by(try simp only[Act.eval,eV])<;>exact rfl) (by(try simp only[Act.eval,eV])<;>exact rfl) (by rw[hz2];omega) (by omega) hA ?_;intro g w1 hB hg;replace hA:=hB;clear hF hB;obtain⟨hA,hF⟩:=fZ hA)
 (try go_frame);go_loopg [0,10] N (GenRel s w g N)
 case atStart=>exact⟨[],s,rfl,rfl,by simp,Nat.le_refl _,rfl,hA⟩
 case round=>
  obtain⟨ws,r,rfl,rfl,hk,hrs,hsp,hB⟩:=hrel;clear hF hA;have hA:=hB;clear hB
  have hrl:(Zah (bl r)).length=gk:=by
   have:=congrArg List.length hsp;rw[hN'.out] at this
   simp at this
   omega
  have hr1:=Zbo (bl r);by_cases hlt:ws.length + 1 < N
  · have hi:0≤Lib.indexByte (bl r) 47:=by
     rcases Int.lt_or_le (Lib.indexByte (bl r) 47) 0 with q|q
     · have:=idx_none q
       rw[this] at hrl;simp at hrl
       omega
     exact q
    obtain⟨i,hi2⟩:=Int.eq_ofNat_of_zero_le hi;obtain⟨hilt,hsr⟩:=Zje hi2
    obtain⟨m,rfl⟩:∃m,gk=m + 1:=⟨gk - 1,by omega⟩
    have hrz:(bl r).length=r.size:=by simp
    have hil:i + 1≤r.size:=by omega
    have hix:=Zpl r wr;rw[show Lib.indexByte r.data.toList 47=(i:Int) from hi2] at hix;have hst:=ZdK ws m (r.extract 0 i);have hsl:(strCells ws (m + 1)).length=ws.length + (m + 1):=by simp[strCells]
    have hsp':=Hd hsp;have hsr':=Hd hsr;have hst':=Hd hst;have hsl':=Hd hsl;clear hsp hsr hi2 hilt hi hrz hrl hst hsl hr1;obtain⟨hA,hF⟩:=fZ hA;go_wp2_with fail;refine hix.mono ?_;clear hix;rintro e _ ⟨rfl,rfl⟩;have hi':decide ((i:Int) < 0)=false:=by simp
    go_wp2_with (refine Zam (j:=ws.length) rfl rfl rfl (by(try simp only[Act.eval,eV])<;>exact rfl) (vs:=[.string (r.extract 0 i)]) (by exact rfl) hA sR (by kernel_rfl) rfl (by have:=hsl'.out;simp only[List.length_cons,List.length_nil];omega) ?_;intro w1 hB;replace hA:=hB;clear hF hB;rw[hst'.out] at hA;obtain⟨hA,hF⟩:=fZ hA)
    go_roundg m;case measure=>omega
    case rel=>
     have e1:bl (r.extract 0 i)=(bl r).take i:=by simp[bl]
     have e2:bl (r.extract (i + 1) r.size)=(bl r).drop (i + 1):=by simp only[bl];simp;rw[List.take_of_length_le (by simp)]
     exact⟨ws++[r.extract 0 i],r.extract (i + 1) r.size,rfl,by simp,by simp;omega,by simp;omega,by rw[hsp'.out,hsr'.out,e2];simp[e1],hA⟩
  obtain rfl:gk=1:=by omega
  have hone:Zah (bl r)=[bl r]:=by
   cases hq:Zah (bl r) with
   |nil=>exact absurd hq (Zbg _)
   |cons a b=>
    rw[hq] at hrl;simp at hrl
    subst hrl;have:=ZbJ (bl r);rw[hq,join_one] at this;rw[this]
  have hst:setL (strCells ws 1) ws.length [.string r]=strCells (ws++[r]) 0:=ZdK ws 0 r;have hsl:(strCells ws 1).length=ws.length + 1:=by simp[strCells]
  have hsp':=Hd hsp;have hone':=Hd hone;have hst':=Hd hst;have hsl':=Hd hsl;have hk':=Hd hk;have hge:¬((ws.length:Int) < (N:Int) - 1):=by omega
  clear hsp hone hst hsl hrl hr1;obtain⟨hA,hF⟩:=fZ hA
  go_wp2_with (refine Zam (j:=ws.length) rfl rfl rfl (by(try simp only[Act.eval,eV])<;>exact rfl) (vs:=[.string r]) (by exact rfl) hA sR (by kernel_rfl) rfl (by have:=hsl'.out;simp only[List.length_cons,List.length_nil];omega) ?_;intro w1 hB;replace hA:=hB;clear hF hB;rw[hst'.out] at hA;obtain⟨hA,hF⟩:=fZ hA)
  go_ret;have e:strCells (ws++[r]) 0=flatS (ws++[r]):=by simp[strCells,ZeM]
  rw[e] at hA;have hl:(ws++[r]).length=N:=by simp;exact hk'.out
  have hA2:=hA.row_shut (n:=(ws++[r]).length) (cap:=N) (size:=1) (xs:=flatS (ws++[r])) sR (by rw[ZeM];simp;have:=hk'.out;omega) (by omega) (by unfold maxLen;omega) (by rw[List.take_of_length_le (by rw[ZeM];simp)]);refine⟨_,ws++[r],?_,by rw[hsp'.out,hone'.out];simp,hA2.pick pR⟩;rw[hl];rfl
end Path
end
section
namespace Path
open Go.RowKit
open Go.Lib (compareBytes)
theorem ZkK (s:ByteArray) (w:World) (hs:s.size≤2000000):Calls Tryz.prog 140 #[.string s,.string ⟨#[47]⟩] w (ZhH s w):=by
 go_enter Tryz.func140,Tryz.ntmps140;go_wp2_with fail;refine(Zhn s w hs).mono ?_;rintro e w1 ⟨v,ws,rfl,h1,h2⟩;go_wp2_with fail;go_ret;exact⟨v,ws,rfl,h1,h2⟩
def Zmp (s:ByteArray) (w:World) (e:Ending) (w':World):Prop:=∃(v:Value) (ws:List ByteArray),e=.returned v∧ws.map bl=ZbI (bl s)∧At [] w [rowS v ws] w'
theorem Zg2 (s:ByteArray) (w:World) (hs:s.size≤2000000):Calls Tryz.prog 93 #[.string s] w (Zmp s w):=by
 cases h1:Zaf (bl s)
 · have e:ZbI (bl s)=[]:=by simp[ZbI,h1]
   have e':=Hd e;clear e;go_enter Tryz.func93,Tryz.ntmps93;go_wp2_with fail;refine(ZbB w hs h1).mono ?_;rintro e w1 ⟨rfl,hx⟩;go_wp2_with fail;go_ret;exact⟨_,[],rfl,by rw[e'.out];rfl,((At.start (w0:=w) (L0:=[]) trivial).ext hx).row_nil 9 1⟩
 have e:ZbI (bl s)=Zah (bl s):=by simp[ZbI,h1]
 have e':=Hd e;clear e;go_enter Tryz.func93,Tryz.ntmps93;go_wp2_with fail;refine(ZbB w hs h1).mono ?_;rintro e w1 ⟨rfl,hx⟩;go_wp2_with fail;refine(ZkK s w1 hs).mono ?_;rintro e w2 ⟨v,ws,rfl,h2,h3⟩;have hB:=((At.start (w0:=w) (L0:=[]) trivial).ext hx).call0 h3;clear h3 hx;go_wp2_with fail;go_ret;exact⟨_,ws,rfl,by rw[e'.out,h2],by simpa using hB⟩
theorem less_cb:∀(x y:List UInt8),Op.bytesLess x y=decide (compareBytes x y < 0)
 |[],[]=>by simp[Op.bytesLess,compareBytes]
 |[],_::_=>by simp[Op.bytesLess,compareBytes]
 |_::_,[]=>by simp[Op.bytesLess,compareBytes]
 |a::x,b::y=>by
  rw[Op.bytesLess,less_cb x y];simp only[compareBytes];rcases Nat.lt_trichotomy a.toNat b.toNat with h|h|h
  · have h1:a < b:=UInt8.lt_iff_toNat_lt.2 h;simp[h1]
  · have e:a=b:=UInt8.toNat_inj.1 h;subst e;have h1:¬a < a:=fun q=>by have:=UInt8.lt_iff_toNat_lt.1 q;omega
    simp[h1]
  have h1:b < a:=UInt8.lt_iff_toNat_lt.2 h;have h2:¬a < b:=fun q=>by have:=UInt8.lt_iff_toNat_lt.1 q;omega
  have h3:a≠b:=fun e=>by subst e;omega
  simp[h1,h2,h3]
theorem Zpb (s:ByteArray) (w:World):Calls Tryz.prog 170 #[.string s] w fun e w'=>e=.returned (.bool false)∧w=w':=by
 have h:(s.toList==s.toList)=true:=by simp
 go_enter Tryz.func170,Tryz.ntmps170;go_wp2_with fail;go_ret;exact⟨by simp,rfl⟩
theorem Zn4 (x y:ByteArray) (w:World):Calls Tryz.prog 142 #[.string x,.string y] w fun e w'=>e=.returned (.int .i64 (compareBytes (bl x) (bl y)))∧w=w':=by
 have key:∀c,compareBytes (bl x) (bl y)=c→(c= -1∨c=0∨c=1)→Calls Tryz.prog 142 #[.string x,.string y] w fun e w'=>e=.returned (.int .i64 c)∧w=w':=by
  intro c hc h3;have h1:Op.bytesLess x.toList y.toList=decide (c < 0):=by rw[Lib.toList_data,Lib.toList_data,less_cb,←hc]
  have h2:Op.bytesLess y.toList x.toList=decide (0 < c):=by rw[Lib.toList_data,Lib.toList_data,less_cb,←hc,Ziy (bl x) (bl y)];simp[bl]
  have h4:(x.toList==y.toList)=decide (c=0):=by
   rw[eqB];congr 1
   rw[←hc];exact propext ⟨fun e=>by rw[e];exact Ziw _,fun e=>cb_eq e⟩
  clear hc;rcases h3 with rfl|rfl|rfl
  all_goals
   simp only[Int.reduceNeg,Int.reduceLT,Int.reduceEq,decide_true,decide_false] at h1 h2 h4;go_enter Tryz.func142,Tryz.ntmps142
   go_wp2_with (refine(Zpb _ _).mono ?_;rintro e _ ⟨rfl,rfl⟩)
   go_ret;exact⟨rfl,rfl⟩
 exact key _ rfl (cb_three _ _)
def CmpRel (ws us:List ByteArray) (w:World) (k:Nat) (u11:Value) (wr:World):Prop:=
 ∃i:Nat,u11=.int .i64 i∧i + k=ws.length∧i≤us.length∧cmpL (ws.map bl) (us.map bl)=cmpL ((ws.drop i).map bl) ((us.drop i).map bl)∧wr=w
theorem ZhC {w:World} {ws us:List ByteArray} {g1 g2 c1 c2:Nat} (h1:∀(j:Nat) x,ws[j]? =some x→w.cell? ⟨g1,j,none⟩=some (.string x)) (h2:∀(j:Nat) x,us[j]? =some x→w.cell? ⟨g2,j,none⟩=some (.string x)) (hw:ws.length≤2000000) (hu:us.length≤2000000):
 Calls Tryz.prog 95 #[.slice (some ⟨g1,0,none⟩) ws.length c1,.slice (some ⟨g2,0,none⟩) us.length c2] w fun e w'=>e=.returned (.int .i64 (cmpL (ws.map bl) (us.map bl)))∧w=w':=by
 have h1':=Hd h1;have h2':=Hd h2;clear h1 h2;go_enter Tryz.func95,Tryz.ntmps95;go_wp2_with fail;go_loopg [5,6,7,8,11] ws.length (fun k _ _ _ _ u11 wr=>CmpRel ws us w k u11 wr)
 case atStart=>exact⟨0,rfl,by simp,by simp,rfl,rfl⟩
 case round=>
  obtain⟨i,rfl,hk,hiu,hc,rfl⟩:=hrel;by_cases hi:i < ws.length
  · have x1:=h1'.out i ws[i] (List.getElem?_eq_getElem hi);have hd:ws.drop i=ws[i]::ws.drop (i + 1):=List.drop_eq_getElem_cons hi;rw[hd] at hc;generalize ws[i]=x at *
    by_cases hj:i < us.length
    · have x2:=h2'.out i us[i] (List.getElem?_eq_getElem hj);have hd2:us.drop i=us[i]::us.drop (i + 1):=List.drop_eq_getElem_cons hj;rw[hd2] at hc;generalize us[i]=y at *
      simp only[List.map_cons] at hc;rw[cmpL] at hc
      obtain⟨cc,hcc⟩:∃c,compareBytes (bl x) (bl y)=c:=⟨_,rfl⟩
      have hcm:=Zn4 x y wr;rw[hcc] at hcm hc;have hc':=Hd hc;clear hc hd hd2 hcc;by_cases h0:cc=0
      · subst h0;go_wp2_with fail;refine hcm.mono ?_;clear hcm;rintro e _ ⟨rfl,rfl⟩;go_wp2_with fail;go_roundg (gk - 1);case measure=>omega
        case rel=>exact⟨i + 1,by simp,by omega,by omega,by rw[hc'.out];simp,rfl⟩
      have h0':(cc==0)=false:=by simpa using h0
      have hc2:=hc'.out;rw[if_neg h0] at hc2;have hc3:=Hd hc2;clear hc2 hc' h0;go_wp2_with fail;refine hcm.mono ?_;clear hcm;rintro e _ ⟨rfl,rfl⟩;go_wp2_with fail;go_ret;exact⟨by rw[hc3.out];rfl,rfl⟩
    have e2:us.drop i=[]:=List.drop_eq_nil_of_le (by omega);rw[e2] at hc;simp only[List.map_cons,List.map_nil] at hc;rw[cmpL] at hc;have hc':=Hd hc;have hge:(us.length:Int)≤i:=by omega
    clear hc hd e2;go_wp2_with fail;go_ret;exact⟨by rw[hc'.out];rfl,rfl⟩
  have e1:ws.drop i=[]:=List.drop_eq_nil_of_le (by omega);rw[e1] at hc;obtain rfl:i=ws.length:=by omega
  by_cases hlt:ws.length < us.length
  · obtain⟨y,ys,hy⟩:∃y ys,us.drop ws.length=y::ys:=by
     cases q:us.drop ws.length with
     |nil=>have:=List.drop_eq_nil_iff.1 q;omega
     |cons y ys=>exact⟨y,ys,rfl⟩
    rw[hy] at hc;simp only[List.map_cons,List.map_nil] at hc;rw[cmpL] at hc;have hc':=Hd hc;clear hc e1 hy;go_wp2_with fail;go_ret;exact⟨by rw[hc'.out];rfl,rfl⟩
  have e2:us.drop ws.length=[]:=List.drop_eq_nil_of_le (by omega);rw[e2] at hc;simp only[List.map_nil] at hc;rw[cmpL] at hc;have hc':=Hd hc;clear hc e1 e2;go_wp2_with fail;go_ret;exact⟨by rw[hc'.out];rfl,rfl⟩
end Path
end
section
namespace Path
open Go.RowKit
open Go.Sort (grow)
open Go.Lib (compareBytes)
theorem ZnQ {w w':World} (h:Ext w w') (hd:w.drawn≤w'.drawn):∃q os',w'=grow (w.drewN q) os':=by
 obtain⟨p,hp⟩:=regrown_of_below h;refine⟨p.d - w.drawn,p.os,?_⟩;have e:w'.drawn=p.d:=by rw[hp];rfl
 rw[hp];congr 1
 unfold World.drewN redrawn;congr 1
 omega
theorem ZfC {P:Program} {f:FuncId} {args:Array Value} {w:World} {v:Value} (h:Calls P f args w fun e w'=>e=.returned v∧Ext w w'):Calls P f args w fun e w'=>e=.returned v∧∃q os',w'=grow (w.drewN q) os':=
 (Ziz h (fun w' hr=>by cases hr.1)).mono fun e w' ⟨⟨he,hx⟩,hd⟩=>⟨he,ZnQ hx hd⟩
theorem ZhQ (p q:ByteArray) (w:World):Calls Tryz.prog 94 #[.string p,.string q] w fun e w'=>e=.returned (.int .i64 (compareBytes (bl p) (bl q)))∧w=w':=
 (Tryz.strings_Compare p q w).mono fun _ _ ⟨he,hw⟩=>⟨he,hw.symm⟩
theorem ZdS (p q:ByteArray) (w:World) (hp:p.size≤1000) (hq:q.size≤1000):Calls Tryz.prog 50 #[.string p,.string q] w fun e w'=>e=.returned (.int .i64 (cmpP (bl p) (bl q)))∧Ext w w':=by
 have hA:=At.start (w0:=w) (L0:=[]) trivial;have hF:=hA.facts;go_enter Tryz.func50,Tryz.ntmps50;go_wp2_with fail;refine(Zg2 p w (by omega)).mono ?_;rintro e w1 ⟨v,ws,rfl,hw1,hT⟩;replace hA:=hA.call0 hT;clear hF hT;simp only[List.append_nil] at hA;obtain⟨ax,kn,cap,hv0,hkn⟩:=hA.row_hid (v:=v) (xs:=flatS ws) sR;subst hv0;obtain⟨hA,hF⟩:=fZ hA;go_wp2_with fail;refine(Zg2 q w1 (by omega)).mono ?_;rintro e w2 ⟨u,us,rfl,hw2,hT⟩;replace hA:=hA.call0 hT;clear hF hT;simp only[uA] at hA;obtain⟨bx,km,cbp,hu0,hkm⟩:=hA.row_hid (v:=u) (xs:=flatS us) sR;subst hu0;obtain⟨hA,hF⟩:=fZ hA;have ek:=hkn.out;have em:=hkm.out;have hx:Ext w w2:=hA.toExt;have hl1:ws.length=(ZbI (bl p)).length:=by rw[←hw1];simp
 have hl2:us.length=(ZbI (bl q)).length:=by rw[←hw2];simp
 by_cases hr:Zaf (bl p)=true∧Zaf (bl q)=true
 · have e1:ZbI (bl p)=Zah (bl p):=by simp[ZbI,hr.1]
   have e2:ZbI (bl q)=Zah (bl q):=by simp[ZbI,hr.2]
   have hc:cmpP (bl p) (bl q)=cmpL (ws.map bl) (us.map bl):=by rw[hw1,hw2,e1,e2];simp[cmpP,hr]
   have n1:=Zbo (bl p);have n2:=Zbo (bl q);have m1:=Za1 (bl p);have m2:=Za1 (bl q);have z1:(bl p).length=p.size:=by simp
   have z2:(bl q).length=q.size:=by simp
   rw[e1] at hl1;rw[e2] at hl2;obtain rfl:kn=ws.length:=ek;obtain rfl:km=us.length:=em;obtain⟨g1,c1,rfl,_,_,hcl1,hct1,hB⟩:=hA.row_open (ax:=ax) (cap:=cap) (n:=ws.length) (xs:=flatS ws) sR (by omega);obtain⟨g2,c2,rfl,_,_,hcl2,hct2,hB2⟩:=hB.row_open (ax:=bx) (cap:=cbp) (n:=us.length) (xs:=flatS us) sR (by omega);have x1:∀(j:Nat) x,ws[j]? =some x→w2.cell? ⟨g1,j,none⟩=some (.string x):=fun j x hx=>((hB2.get (A:=Part.cells g1 c1 9) sR:Zaa w2 g1 c1 _).cell j).trans (ZcF hct1 hx);have x2:∀(j:Nat) x,us[j]? =some x→w2.cell? ⟨g2,j,none⟩=some (.string x):=fun j x hx=>((hB2.get (A:=Part.cells g2 c2 9) sR:Zaa w2 g2 c2 _).cell j).trans (ZcF hct2 hx);have hcs:=ZhC (c1:=cap) (c2:=cbp) x1 x2 (by omega) (by omega);have l1:0 < ws.length:=by omega
   have l2:0 < us.length:=by omega
   have n1':((ws.length:Int)==0)=false:=beq_eq_false_iff_ne.2 (by omega);have n2':((us.length:Int)==0)=false:=beq_eq_false_iff_ne.2 (by omega);have hc':=Hd hc;clear hc hA hB hB2 hF x1 x2 hct1 hct2 hcl1 hcl2 hw1 hw2 hl1 hl2 n1 n2 m1 m2 z1 z2 e1 e2 hr hkn hkm;go_wp2_with fail;refine hcs.mono ?_;clear hcs;rintro e _ ⟨rfl,rfl⟩;go_wp2_with fail;go_ret;exact⟨by rw[hc'.out];rfl,hx⟩
 have hc:cmpP (bl p) (bl q)=compareBytes (bl p) (bl q):=by simp[cmpP,hr]
 have hc':=Hd hc;have hst:=ZhQ p q w2;clear hc hA hF hw1 hw2;by_cases h1:ws.length=0
 · obtain rfl:kn=0:=ek.trans h1;clear ek em hl1 hl2 h1 hkn hkm;go_wp2_with fail;refine hst.mono ?_;clear hst;rintro e _ ⟨rfl,rfl⟩;go_wp2_with fail;go_ret;exact⟨by rw[hc'.out];rfl,hx⟩
 have h2:us.length=0:=by
  cases r1:Zaf (bl p)
  · have:ZbI (bl p)=[]:=by simp[ZbI,r1]
    rw[this] at hl1;exact absurd hl1 h1
  cases r2:Zaf (bl q)
  · have:ZbI (bl q)=[]:=by simp[ZbI,r2]
    rw[this] at hl2;exact hl2
  exact absurd ⟨r1,r2⟩ hr
 obtain rfl:km=0:=em.trans h2;have n1':((kn:Int)==0)=false:=beq_eq_false_iff_ne.2 (by omega);clear ek em hl1 hl2 h1 h2 hkn hkm hr;go_wp2_with fail;refine hst.mono ?_;clear hst;rintro e _ ⟨rfl,rfl⟩;go_wp2_with fail;go_ret;exact⟨by rw[hc'.out];rfl,hx⟩
end Path
end
section
namespace Lock
open _root_.Go.Proofs.YtknoefbcmomalabGreatDoor.Mark (Zct ZbY Za6 orI or2 ZcD)
open Go.RowKit Go.Shelf Go.Sort
open Go.Maps (Keyed)
open Path (bl Zaf overB cmpP)
theorem Zll (x y:Ent) (w:World) (hx:x.path.size≤1000) (hy:y.path.size≤1000):Calls Tryz.prog 48 #[x.val,y.val] w fun e w'=>e=.returned (.int .i64 (cmpE x y))∧Ext w w':=by
 have hA:At [] w [] w:=At.start (L0:=[]) trivial;have hF:=hA.facts;have hcp:=fun(w1:World)=>Path.ZdS x.path y.path w1 (by omega) (by omega);unfold cmpE;generalize cmpP (bl x.path) (bl y.path)=cp at *
 have hcc:=fun(w1:World)=>Tryz.cmp_Compare_int x.stamp y.stamp w1;generalize hcs:Lib.compareInt x.stamp y.stamp=cs at *
 obtain⟨p1,n1,f1,m1,k1,s1⟩:=x;obtain⟨p2,n2,f2,m2,k2,s2⟩:=y;simp only[Ent.val] at *
 go_enter Tryz.func48,Tryz.ntmps48
 go_wp2_with ((with_reducible refine gbx ?_);refine wCy (E:=61) hA ?_;clear hF hA;intro bX w1 hA hbX hF)
 (try go_frame);(refine Zaw 10 (Cl _ _ _) (by kernel_rfl) (by kernel_rfl) (Cl.drew hA) ?_);(simp only[List.take_succ_cons,List.take_zero,List.drop_succ_cons,List.drop_zero]);(have hn1:=Cl.none hA);(have hn2:=Cl.none2 hA);(repeat(first|go_big_quiet_skip|(go_big_quiet_want;(first|(refine qL ?_;go_frame;go_big_quiet_on)|(go_big_quiet_op;(first|go_big_quiet_on|((apply Exists.intro);(refine⟨fun w1 hw=> ?_,?_⟩);(focus((have hw:=Cl.out hw);(first|exact through0 hw (hcp _)|exact(hcc _).mono fun _ _ ⟨he,hq⟩=>⟨he,hq ▸ hw⟩)));(go_big_quiet_on))))))))
 (refine wpQuiet_nil ?_);(intro w1 hB);(clear hF hA hn1 hn2);(have hA:=Cl.out hB);(clear hB);obtain⟨hA,hF⟩:=fY hA
 clear hcp hcc;have hB:=hA.alloc [.int .i64 cp,.int .i64 cs] 3;have hx1:=hA.toExt;go_wp2_with fail;refine(or2 cp cs _ _ ?h0 ?h1).mono ?_;case h0=>exact ZcD _ _ (by simp) _ _ _ _ rfl
 case h1=>exact ZcD _ _ (by simp) _ _ _ _ rfl
 rintro e _ ⟨rfl,rfl⟩;go_wp2_with fail;go_ret;exact⟨rfl,hx1.alloc _⟩
section
variable {es:List Ent} (H:Sortable es)
theorem Zgv (x:EntI es):(encI es x).length=6:=rfl
theorem encI_one (x:EntI es):∀v ∈ encI es x,v.oneCell'=true:=by
 intro u hu;simp only[encI,Ent.cells,List.mem_cons,List.not_mem_nil,or_false] at hu;rcases hu with rfl|rfl|rfl|rfl|rfl|rfl<;>rfl
theorem cmpLaysI [Inhabited (EntI es)] (hs:∀e ∈ es,e.path.size≤1000) (blk off size:Nat) (w:World):CmpLays Tryz.prog 48 #[] (encI es) 6 (cmpI es) blk off size w:=
 fun _ _ _ _ x y=>Path.ZfC (Zll x.1 y.1 _ (hs _ x.2) (hs _ y.2))
end
abbrev rowL (v:Value) (l:List Ent):Part:=.row 61 6 v l.length (l.flatMap Ent.cells)
def Zon (w:World) (b:Bk) (e:Ending) (w':World):Prop:=∃(v:Value) (l:List Ent),e=.returned v∧l.Perm b.es∧l.Pairwise ltE∧At [BookP b] w [rowL v l,BookP b] w'
theorem Znq {es:List Ent} (h:es.Pairwise (fun a b=>a.key≠b.key)):es.Nodup:=h.imp (fun h e=>h (by rw[e]))
theorem Zd1 {w:World} {b:Bk} (h:Sep [BookP b] w) (H:Sortable b.es) (hmax:b.es.length≤1000000) (hs:∀e ∈ b.es,e.path.size≤1000):
 Calls Tryz.prog 21 #[.pointer (some ⟨b.p,0,none⟩)] w (Zon w b):=by
 have hA:=begin0 h;have hkeys:=Zih (MapAt.keys (hA.get (A:=mapC b.m (ents b.es)) sR));have hnd:=Znq hkeys;obtain⟨hA,hF⟩:=fY hA;clear h hkeys;go_enter Tryz.func21,Tryz.ntmps21;go_wp2_with fail;refine(callsIn_wide.1 (ZoN Fence.wide 1 trivial rfl (some b.m) w)).mono ?_;rintro e _ ⟨rfl,rfl⟩;have hB:=hA.alloc [.map (some b.m)] 108;go_wp2_with fail;refine(ZhD w.heap.size b.m (ents b.es) b.es (by simp[ents,ent]) _ (by simp) ((Zaa.alloc w [.map (some b.m)] 108).cell 0) (hB.get (A:=mapC b.m (ents b.es)) sR) (by omega)).mono ?_;rintro e w1 ⟨v,ss,rfl,hp,hrow,hnil,hb⟩;have hC:=hB.row_new hb hrow;have hB2:=fold0 b hC sR sR sR;have hC2:=hB2.only2 (A:=rowL v ss) (B:=BookP b) sZ sZ;have hll:=hp.length_eq;clear hF hA hB hC hB2;rcases hrow.2 with⟨rfl,hz⟩|⟨gb,cap,cur,rfl,hbase,hgb,r1,r2,r3,r4⟩
 · have hss:ss=[]:=List.eq_nil_of_length_eq_zero hz;subst hss;have hS:Calls Tryz.prog 47 #[.slice none 0 0,.func (.func 48) #[] #[]] w1 fun e w'=>e=.returned (.tuple #[])∧w'=w1:=AnyF.slices_SortFunc_none Tryz.sort47 none 0 _ w1;go_wp2_with fail;refine hS.mono ?_;rintro e _ ⟨rfl,rfl⟩;go_wp2_with fail;go_ret;exact⟨_,[],rfl,hp,.nil,hC2⟩
 have hsub:∀x ∈ ss,x ∈ b.es:=fun x hx=>hp.mem_iff.1 hx;have htm:=toI_map ss hsub
 obtain⟨ti,hti⟩:∃ti,toI ss hsub=ti:=⟨_,rfl⟩
 rw[hti] at htm;have htl:ti.length=ss.length:=by rw[←htm];simp
 have hflat:ti.flatMap (encI b.es)=ss.flatMap Ent.cells:=by rw[encI_flat,htm]
 have htn:ti.Nodup:=by
  have:(ti.map (·.1)).Nodup:=by rw[htm];exact hp.nodup_iff.2 hnd
  exact(List.pairwise_map.1 this).imp (fun q e=>q (by rw[e]))
 have hne:ss≠[]:=fun e=>by have:=hnil.2 e;cases this
 have hpos:0 < ss.length:=List.length_pos_iff.2 hne
 haveI:Inhabited (EntI b.es):=⟨⟨ss[0]'hpos,hsub _ (List.getElem_mem _)⟩⟩
 have hH:HoldsK (encI b.es) 6 w1 gb 0 ti.toArray:=Zct (encI b.es) 6 Zgv hgb (by rw[htl,hflat];exact r4);have hgl:gb < w1.heap.size:=(Array.getElem?_eq_some_iff.1 hgb).1;have hsz:ti.toArray.size < 4611686018427387904:=by simp;omega
 have hS:Calls Tryz.prog 47 #[.slice (some ⟨gb,0,none⟩) ti.length cap,.func (.func 48) #[] #[]] w1 fun e w'=>e=.returned (.tuple #[])∧∃n os,w'=sortWorldK (encI b.es) 6 w1 gb 0 n (sortI H ti).toArray os:=
  AnyQ.slices_SortFunc_total Tryz.sort47 6 Tryz.isAgg61 Tryz.sizeOf61 (encI b.es) Zgv encI_one (cmpI b.es) (swoI H) 48 #[] gb 0 cap ti.toArray w1 (enters_of Tryz.func48 (by kernel_rfl) rfl) (cmpLaysI hs _ _ _ _) hH hgl hsz (totI H)
 rw[htl] at hS;have htl':=Hd htl;clear hll hmax htl;go_wp2_with fail;refine hS.mono ?_;rintro e _ ⟨rfl,nn,os,rfl⟩;go_wp2_with fail;go_ret;have hown:=ZbY (encI b.es) 6 Zgv (w:=w1) (base:=0) (cap:=cap) (n:=nn) (os:=os) (sortI_len H ti) (Nat.zero_le _) hgb (by rw[htl'.out];exact r1) r2 r3;have hlt:=sortI_lt H ti htn
 have hlp:((sortI H ti).map (fun x:EntI b.es=>x.1)).Perm ss:=by
  have:=(sortI_perm H ti).map (fun x:EntI b.es=>x.1)
  rwa [htm] at this
 rw[encI_flat,htl'.out,←hlp.length_eq] at hown;generalize (sortI H ti).map (fun x:EntI b.es=>x.1)=l at *
 have hD:=hC2.turn (A:=rowL (.slice (some ⟨gb,0,none⟩) ss.length cap) ss) .here (rowL (.slice (some ⟨gb,0,none⟩) l.length cap) l) hown (fun b hb=>.inl hb) (Zbv (Za6 _));refine⟨_,l,?_,hlp.trans hp,hlt,hD⟩;rw[hlp.length_eq];rfl
end Lock
end
section
namespace Lock
open Go.RowKit
open Go.Maps (Keyed)
theorem Za3 (e:Ent):e.cells.length=6:=rfl
theorem Zjm (e:Ent):∀u ∈ e.cells,u.oneCell'=true:=List.all_eq_true.1 (show e.cells.all (·.oneCell')=true from rfl)
theorem ZiR {L0 K F:List Part} {w0 w:World} {g cap:Nat} {c:List Value} {l:List Ent} (hA:At L0 w0 K w) (s:Sel (Part.cells g c 61) K F) (hcl:c.length=cap * 6) (hcap:l.length≤cap) (hcm:cap≤maxLen) (hct:c.take (l.length * 6)=l.flatMap Ent.cells):
 At L0 w0 (rowL (.slice (some ⟨g,0,none⟩) l.length cap) l::F) w:=hA.row_shut s hcl hcap hcm hct
def CloE (F b3:Nat) (E:Part) (l:List Ent) (f:Ent→Bool):Prop:=∀w1,Sep [E] w1→∀x ∈ l,Calls Tryz.prog F #[x.val,.pointer (some ⟨b3,0,none⟩)] w1 fun e w'=>e=.returned (.bool (f x))∧At [E] w1 [E] w'
def ZpO (w:World) (v:Value) (l:List Ent) (E:Part) (f:Ent→Bool) (k:Nat) (u:Value) (wr:World):Prop:=
 ∃i:Nat,u=.int .i64 i∧i + k=l.length∧At [rowL v l,E] w [rowL v l,E] wr∧∀x ∈ l.take i,f x=false
def Zoo (w:World) (v:Value) (l:List Ent) (E:Part) (f:Ent→Bool) (e:Ending) (w':World):Prop:=
 ((∃i:Nat,e=.returned (.int .i64 i)∧i < l.length∧(∀h:i < l.length,f l[i]=true)∧∀x ∈ l.take i,f x=false)∨(e=.returned (.int .i64 (-1))∧∀x ∈ l,f x=false))∧At [rowL v l,E] w [rowL v l,E] w'
def keepE (f:Ent→Bool) (l:List Ent):List Ent:=l.filter (fun x=> !f x)
abbrev rowNE (v:Value) (n:Nat) (lc:List Ent):Part:=.row 61 6 v n (lc.flatMap Ent.cells)
theorem Zdy (f:Ent→Bool) (l:List Ent) (x:Ent):keepE f (l++[x])=keepE f l++(if f x then[] else[x]):=by
 unfold keepE;rw[List.filter_append];cases h:f x<;>simp[h]
theorem Zj7 (l:List Ent) (k:Nat):(l.flatMap Ent.cells).take (k * 6)=(l.take k).flatMap Ent.cells:=by
 induction l generalizing k with
 |nil=>simp
 |cons x l ih=>
  cases k with
  |zero=>simp
  |succ k=>
   have:=ih k;rw[List.take_succ_cons,List.flatMap_cons,List.flatMap_cons,←this,List.take_append];have e:(Ent.cells x).length=6:=rfl;rw[List.take_of_length_le (by omega),e,show(k + 1) * 6 - 6=k * 6 by omega]
structure MovedE (f:Ent→Bool) (l lc:List Ent) (i j:Nat):Prop where
 lt:i < j
 len:lc.length=l.length
 head:lc.take i=keepE f (l.take j)
 tail:lc.drop j=l.drop j
theorem MovedE.at {f:Ent→Bool} {l lc:List Ent} {i j:Nat} (h:MovedE f l lc i j) (hj:j < l.length):lc[j]? =some l[j]:=by
 have:=congrArg (fun m=>m[0]?) h.tail;simp only[List.getElem?_drop,Nat.add_zero] at this;rw[this,List.getElem?_eq_getElem hj]
theorem MovedE.tail1 {f:Ent→Bool} {l lc:List Ent} {i j:Nat} (h:MovedE f l lc i j):lc.drop (j + 1)=l.drop (j + 1):=by
 have:=congrArg (fun m=>m.drop 1) h.tail
 simpa [List.drop_drop,Nat.add_comm] using this
theorem MovedE.gone {f:Ent→Bool} {l lc:List Ent} {i j:Nat} (h:MovedE f l lc i j) (hj:j < l.length) (hf:f l[j]=true):MovedE f l lc i (j + 1):=
 ⟨by have:=h.lt;omega,h.len,by rw[h.head,List.take_succ_eq_append_getElem hj,Zdy,hf];exact(List.append_nil _).symm,h.tail1⟩
theorem MovedE.kept {f:Ent→Bool} {l lc:List Ent} {i j:Nat} (h:MovedE f l lc i j) (hj:j < l.length) (hf:f l[j]=false):MovedE f l (lc.set i l[j]) (i + 1) (j + 1):=by
 have hlt:=h.lt;have hil:i < lc.length:=by rw[h.len];omega
 refine⟨by omega,by rw[List.length_set,h.len],?_,?_⟩
 · rw[List.take_succ_eq_append_getElem hj,List.take_succ_eq_append_getElem (by rw[List.length_set];exact hil),List.take_set_of_le (Nat.le_refl _),h.head,Zdy,hf,List.getElem_set_self];rfl
 rw[List.drop_set_of_lt (by omega),h.tail1]
theorem MovedE.first {f:Ent→Bool} {l:List Ent} {i:Nat} (hi:i < l.length) (hf:f l[i]=true) (hn:∀x ∈ l.take i,f x=false):MovedE f l l i (i + 1):=by
 refine⟨by omega,rfl,?_,rfl⟩;rw[List.take_succ_eq_append_getElem hi,Zdy,hf];unfold keepE;rw[List.filter_eq_self.2 (fun x hx=>by rw[hn x hx];rfl)];exact(List.append_nil _).symm
def ZpR (w:World) (v:Value) (l:List Ent) (E:Part) (f:Ent→Bool) (k:Nat) (u5 u6:Value) (wr:World):Prop:=
 ∃(i j:Nat) (lc:List Ent),u5=.int .i64 i∧u6=.int .i64 j∧j + k=l.length∧MovedE f l lc i j∧At [rowL v l,E] w [rowNE v l.length lc,E] wr
def ZjA (w:World) (v:Value) (l:List Ent) (E:Part) (f:Ent→Bool) (e:Ending) (w':World):Prop:=
 ∃v',e=.returned v'∧At [rowL v l,E] w [rowL v' (keepE f l),E] w'
theorem ZnE {w:World} {v:Value} {l:List Ent} {F b3:Nat} {E:Part} {f:Ent→Bool} (h:Sep [rowL v l,E] w) (heg:∀args w,(callFunc F args).run Tryz.prog w=.ok (.enter F args) w) (hc:CloE F b3 E l f) (hmax:l.length≤1000000):
 Calls Tryz.prog 105 #[v,.func (.func F) #[] #[.pointer (some ⟨b3,0,none⟩)]] w (Zoo w v l E f):=by
 have hA:=At.start h;have hF:=hA.facts;clear h;obtain⟨ax,cap,rfl,hax,hcap,_⟩:=hA.row_form (v:=v) (xs:=l.flatMap Ent.cells) sR;have hc':=Hd hc;clear hc;go_enter Tryz.func105,Tryz.ntmps105;go_wp2_with fail;(try go_frame);go_loopg [8] l.length (ZpO w (.slice ax l.length cap) l E f)
 case atStart=>exact⟨0,rfl,by simp,hA,by simp⟩
 case round=>
  obtain⟨i,rfl,hik,hB,hno⟩:=hrel;have hno':=Hd hno;clear hF hA hno;have hA:=hB;clear hB;by_cases hi:i < l.length
  · obtain⟨g,c,rfl,cp1,hcm,hcl,hct,hB⟩:=hA.row_open (ax:=ax) (cap:=cap) (n:=l.length) (xs:=l.flatMap Ent.cells) sR (by omega);have hx:l[i]? =some l[i]:=List.getElem?_eq_getElem hi;have c0:c[i * 6]? =some (.string l[i].path):=Zae Za3 hct hx 0 (by omega);have c1:c[i * 6 + 1]? =some (.int .u64 l[i].num):=Zae Za3 hct hx 1 (by omega);have c2:c[i * 6 + 2]? =some (.string l[i].foot):=Zae Za3 hct hx 2 (by omega);have c3:c[i * 6 + 3]? =some (.int .i64 l[i].mode):=Zae Za3 hct hx 3 (by omega);have c4:c[i * 6 + 4]? =some (.int .u64 l[i].n):=Zae Za3 hct hx 4 (by omega);have c5:c[i * 6 + 5]? =some (.int .i64 l[i].stamp):=Zae Za3 hct hx 5 (by omega);have hcx:=hc'.out;have hml:=Hd (List.getElem_mem hi);have hts:=Hd (List.take_succ_eq_append_getElem hi)
    obtain⟨x,hxe⟩:∃z,l[i]=z:=⟨_,rfl⟩
    have hxe':=Hd hxe;rw[hxe] at c0 c1 c2 c3 c4 c5 hml hts;have hcx:=fun(w1:World) (q:Sep [E] w1)=>hc'.out w1 q x hml.out
    obtain⟨y,hy⟩:∃z,f x=z:=⟨_,rfl⟩
    have hy':=Hd hy;rw[hy] at hcx;obtain⟨path,num,foot,mode,n,stamp⟩:=x;simp only[Ent.val] at hcx c0 c1 c2 c3 c4 c5;have hcx':=Hd hcx;clear hA hcx hx hxe hy;have hA:=hB;clear hB;obtain⟨hA,hF⟩:=fZ hA;go_wp2_with fail;refine(hcx'.out _ (hA.sep1 (A:=E) sR)).mono ?_;rintro e w2 ⟨rfl,hT⟩;replace hA:=hA.call1 (A:=E) sR hT;clear hF hT;obtain⟨hA,hF⟩:=fZ hA;cases y
    · go_wp2_with fail;go_roundg (gk - 1);case measure=>omega
      case rel=>exact⟨i + 1,by simp,by omega,(ZiR hA sZ hcl (by omega) hcm hct).pick pZ,fun x hx=>by
       rw[hts.out] at hx;rcases List.mem_append.1 hx with hx|hx
       · exact hno'.out x hx
       rw[List.mem_singleton.1 hx];exact hy'.out⟩
    go_wp2_with fail;refine bodyPost_ret (results_tmp rfl _ _ _) rfl ?_;exact⟨.inl ⟨i,rfl,hi,fun _=>by rw[hxe'.out];exact hy'.out,hno'.out⟩,(ZiR hA sZ hcl (by omega) hcm hct).pick pZ⟩
  have hF:=hA.facts;obtain⟨hA,hF⟩:=fZ hA;go_wp2_with fail;go_ret;exact⟨.inr ⟨rfl,fun x hx=>hno'.out x (by rw[List.take_of_length_le (by omega)];exact hx)⟩,hA.pick pZ⟩
theorem Zgx {w:World} {v:Value} {l:List Ent} {F b3:Nat} {E:Part} {f:Ent→Bool} (h:Sep [rowL v l,E] w) (heg:∀args w,(callFunc F args).run Tryz.prog w=.ok (.enter F args) w) (hc:CloE F b3 E l f) (hmax:l.length≤1000000):
 Calls Tryz.prog 62 #[v,.func (.func F) #[] #[.pointer (some ⟨b3,0,none⟩)]] w (ZjA w v l E f):=by
 have hA:=At.start h;have hF:=hA.facts;clear h;have hc':=Hd hc;clear hc;obtain⟨ax,cap,rfl,hax,hcap,_⟩:=hA.row_form (v:=v) (xs:=l.flatMap Ent.cells) sR;go_enter Tryz.func62,Tryz.ntmps62;go_wp2_with fail;refine(ZnE hA.sep heg hc'.out hmax).mono ?_;rintro e w2 ⟨hr,hT⟩;replace hA:=hA.call2 (A:=rowL (.slice ax l.length cap) l) (B:=E) sR sR hT;clear hF hT;obtain⟨hA,hF⟩:=fZ hA;rcases hr with⟨i0,rfl,hi0,hf0,hno⟩|⟨rfl,hno⟩
 · have hM0:=Hd (MovedE.first hi0 (hf0 hi0) hno);clear hf0 hno;have hne:((i0:Int)== -1)=false:=by simp
   go_wp2_with fail;(try go_frame);go_loopg [5,6] (l.length - (i0 + 1)) (ZpR w (.slice ax l.length cap) l E f)
   case atStart=>exact⟨i0,i0 + 1,l,rfl,by simp,by omega,hM0.out,hA.pick pZ⟩
   case round=>
    obtain⟨i,j,lc,rfl,rfl,hjk,hMv,hB⟩:=hrel;have hMv':=Hd hMv;have hij:=hMv.lt;have hlen:=Hd hMv.len;clear hF hA hMv;have hA:=hB;clear hB;obtain⟨g,c,rfl,cp1,hcm,hcl,hct,hB⟩:=hA.row_open (ax:=ax) (cap:=cap) (n:=l.length) (xs:=lc.flatMap Ent.cells) sR (by omega);have hct':c.take (lc.length * 6)=lc.flatMap Ent.cells:=by rw[hlen.out];exact hct
    have hct2:=Hd hct';clear hA hct';have hA:=hB;clear hB;by_cases hj:j < l.length
    · have hx:lc[j]? =some l[j]:=hMv'.out.at hj;have hml:=Hd (List.getElem_mem hj)
      obtain⟨x,hxe⟩:∃z,l[j]=z:=⟨_,rfl⟩
      have hxe':=Hd hxe;rw[hxe] at hx hml;have c0:c[j * 6]? =some (.string x.path):=Zae Za3 hct2.out hx 0 (by omega);have c1:c[j * 6 + 1]? =some (.int .u64 x.num):=Zae Za3 hct2.out hx 1 (by omega);have c2:c[j * 6 + 2]? =some (.string x.foot):=Zae Za3 hct2.out hx 2 (by omega);have c3:c[j * 6 + 3]? =some (.int .i64 x.mode):=Zae Za3 hct2.out hx 3 (by omega);have c4:c[j * 6 + 4]? =some (.int .u64 x.n):=Zae Za3 hct2.out hx 4 (by omega);have c5:c[j * 6 + 5]? =some (.int .i64 x.stamp):=Zae Za3 hct2.out hx 5 (by omega);have hcx:=fun(w1:World) (q:Sep [E] w1)=>hc'.out w1 q x hml.out
      obtain⟨y,hy⟩:∃z,f x=z:=⟨_,rfl⟩
      rw[hy] at hcx;have hMk:=Hd (fun(q:y=false)=>hxe ▸ hMv'.out.kept hj (by rw[hxe,hy];exact q));have hMg:=Hd (fun(q:y=true)=>hMv'.out.gone hj (by rw[hxe,hy];exact q));have hwr:=Hd (ZgD Za3 hct2.out (i:=i) (by have:=hlen.out;omega) x);have hsl:=Hd (fun(q:List Ent) (hq:q=lc.set i x)=>hq);clear hx hxe hy hsl;obtain⟨path,num,foot,mode,n,stamp⟩:=x;simp only[Ent.val] at hcx c0 c1 c2 c3 c4 c5;have hcx':=Hd hcx;clear hcx;obtain⟨hA,hF⟩:=fZ hA
      go_wp2_with (first|((with_reducible refine gal ?_);refine g12 hA ?_;clear hF hA;intro bE w1 hA hbE hF)|((with_reducible refine gst ?_);refine wTz hA ?_;clear hF hA;intro w1 hA hF))
      refine(hcx'.out _ (hA.sep1 (A:=E) sR)).mono ?_;rintro e w2 ⟨rfl,hT⟩;replace hA:=hA.call1 (A:=E) sR hT;clear hF hT;obtain⟨hA,hF⟩:=fZ hA;cases y
      · go_wp2_with (refine Zam (b:=g) (j:=i * 6) (c:=c) (vs:=[.string path,.int .u64 num,.string foot,.int .i64 mode,.int .u64 n,.int .i64 stamp]) rfl rfl rfl (by(try simp only[Act.eval,eV])<;>exact rfl) (by exact rfl) hA sZ (by kernel_rfl) rfl (by show i * 6 + 6≤c.length;omega) ?_;intro w1 hB;clear hF hA;have hA:=hB;clear hB)
        go_roundg (gk - 1);case measure=>omega
        case rel=>
         have hS:=hA.row_shut (n:=l.length) (cap:=cap) (xs:=(lc.set i ⟨path,num,foot,mode,n,stamp⟩).flatMap Ent.cells) sZ (by rw[Zb9];exact hcl) (by omega) hcm (by have:=hwr.out;rw[List.length_set,hlen.out] at this;exact this);exact⟨i + 1,j + 1,_,by simp,by simp,by omega,hMk.out (by trivial),hS.pick pZ⟩
      go_wp2_with fail;go_roundg (gk - 1);case measure=>omega
      case rel=>
       have hS:=hA.row_shut (n:=l.length) (cap:=cap) (xs:=lc.flatMap Ent.cells) sZ hcl (by omega) hcm hct;exact⟨i,j + 1,lc,rfl,by simp,by omega,hMg.out (by trivial),hS.pick pZ⟩
    have hci:¬cap=i:=by omega
    have hil:i≤l.length:=by omega
    have hkl:(keepE f l).length=i:=by
     have:=congrArg List.length hMv'.out.head;have h2:=hlen.out;rw[List.take_of_length_le (l:=l) (by omega),List.length_take] at this
     omega
    have hfl:(keepE f l).flatMap Ent.cells=(lc.flatMap Ent.cells).take (i * 6):=by
     have:=hMv'.out.head;rw[List.take_of_length_le (l:=l) (by omega)] at this;rw[Zj7,this]
    have hkl':=Hd hkl;have hfl':=Hd hfl;clear hkl hfl;obtain⟨hA,hF⟩:=fZ hA
    go_wp2_with (refine Zea (e:=61) (z:=.agg #[.string .empty,.int .u64 0,.string .empty,.int .i64 0,.int .u64 0,.int .i64 0]) (b:=g) (off:=i * 6) (m:=l.length - i) (cp:=cap - i) (c:=c) (T:=61) rfl rfl Tryz.underlying53 (fun _=>by kernel_rfl) (Zjm ⟨.empty,0,.empty,0,0,0⟩) (by decide) (by(try simp only[Act.eval,eV])<;>exact rfl) (by omega) hA sZ (by show i * 6 + (l.length - i) * 6≤c.length;omega) ?_;intro c' w1 hcl' hct3 hB;replace hA:=hB;clear hF hB;obtain⟨hA,hF⟩:=fZ hA)
    go_ret
    have hS:=hA.row_shut (n:=i) (cap:=cap) (xs:=(keepE f l).flatMap Ent.cells) sZ (hcl'.trans hcl) (by omega) hcm (by
     rw[hfl'.out,hct3,←hct,List.take_take,Nat.min_eq_left (by omega)])
    refine⟨.slice (some ⟨g,0,none⟩) i cap,rfl,?_⟩;show At _ _ [Part.row 61 6 (.slice (some ⟨g,0,none⟩) i cap) (keepE f l).length ((keepE f l).flatMap Ent.cells),E] _;rw[hkl'.out];exact hS.pick pZ
 have hk:keepE f l=l:=List.filter_eq_self.2 (fun x hx=>by rw[hno x hx];rfl);have hk':=Hd hk;clear hno hk;go_wp2_with fail;refine bodyPost_ret (results_tmp rfl _ _ _) rfl ?_;exact⟨_,rfl,by rw[hk'.out];exact hA.pick pZ⟩
end Lock
end
section
namespace Lock
open Go.RowKit
open Go.Maps (Keyed)
attribute [-go_sem] run_eql_struct run_neq_struct run_eqGuard_agg
attribute [local go_sem] Zjf eqlE6
def IxERel (w:World) (v:Value) (l:List Ent) (x:Ent) (b3:Nat) (k:Nat) (u:Value) (wr:World):Prop:=
 ∃i:Nat,u=.int .i64 i∧i + k=l.length∧x ∉ l.take i∧At [rowL v l] w [Part.cells b3 x.cells 61,rowL v l] wr
def ZeH (l:List Ent) (x:Ent):Int:=if x ∈ l then l.idxOf x else -1
theorem Zlw {l:List Ent} {x:Ent} {i:Nat} (h:l[i]? =some x) (hn:x ∉ l.take i):ZeH l x=i:=by
 have hm:x ∈ l:=List.mem_of_getElem? h;unfold ZeH;rw[if_pos hm];obtain⟨hi,hx⟩:=List.getElem?_eq_some_iff.1 h
 have h1:l.idxOf x=i:=by
  have e:l=l.take i++l.drop i:=(List.take_append_drop i l).symm;rw[e,List.idxOf_append,if_neg hn,List.drop_eq_getElem_cons hi,hx,List.idxOf_cons_self,List.length_take];omega
 rw[h1]
theorem Zlv {l:List Ent} {x:Ent} (h:x ∉ l):ZeH l x= -1:=if_neg h
def Zmu (w:World) (v:Value) (l:List Ent) (x:Ent) (e:Ending) (w':World):Prop:=e=.returned (.int .i64 (ZeH l x))∧At [rowL v l] w [rowL v l] w'
theorem Zj2 {w:World} {v:Value} {l:List Ent} (h:Sep [rowL v l] w) (x:Ent) (hmax:l.length≤1000000):
 Calls Tryz.prog 108 #[v,x.val] w (Zmu w v l x):=by
 have hA:=At.start h;clear h;obtain⟨ax,cap,rfl,hax,hcap,_⟩:=hA.row_form (v:=v) (xs:=l.flatMap Ent.cells) sR;have hax':=Hd hax;clear hax;have hnox:=Hd (show x ∉ l.take 0 by simp);obtain⟨p1,n1,f1,m1,k1,s1⟩:=x;simp only[Ent.val];obtain⟨hA,hF⟩:=fZ hA;go_enter Tryz.func108,Tryz.ntmps108
 go_wp2_with ((with_reducible refine gbx ?_);refine wHz 61 [.string p1,.int .u64 n1,.string f1,.int .i64 m1,.int .u64 k1,.int .i64 s1] hA ?_;clear hF hA;intro b3 w1 hA hb3 hF)
 (try go_frame);go_loopg [8] l.length (IxERel w (.slice ax l.length cap) l ⟨p1,n1,f1,m1,k1,s1⟩ b3)
 case atStart=>exact⟨0,rfl,by simp,by simp,hA⟩
 case round=>
  obtain⟨i,rfl,hik,hno,hB⟩:=hrel;have hno':=Hd hno;clear hF hA hno;have hA:=hB;clear hB;simp only[Ent.cells] at hA;by_cases hi:i < l.length
  · obtain⟨g,c,rfl,_,hcm,hcl,hct,hB⟩:=hA.row_open (ax:=ax) (cap:=cap) (n:=l.length) (xs:=l.flatMap Ent.cells) sR (by omega);have hx:l[i]? =some l[i]:=List.getElem?_eq_getElem hi
    have he:(c.drop (i * 6)).take 6=l[i].cells:=by
     refine List.ext_getElem? fun k=> ?_;by_cases hk:k < 6
     · rw[List.getElem?_take_of_lt hk,List.getElem?_drop];rw[Zae Za3 hct hx k (by show k < 6;exact hk),List.getElem?_eq_getElem (by show k < 6;exact hk)]
     rw[List.getElem?_take_eq_none (by omega),List.getElem?_eq_none (by show 6≤k;omega)]
    have htk:l.take (i + 1)=l.take i++[l[i]]:=List.take_succ_eq_append_getElem hi;generalize hy:l[i]=y at *
    obtain⟨p0,n0,f0,m0,k0,s0⟩:=y;simp only[Ent.cells] at he;replace hA:=hB;clear hB
    obtain⟨d,hd⟩:∃d,decide ((⟨p1,n1,f1,m1,k1,s1⟩:Ent)=⟨p0,n0,f0,m0,k0,s0⟩)=d:=⟨_,rfl⟩
    have heq:∀w,(binOp .eql 61 (.agg #[.string p1,.int .u64 n1,.string f1,.int .i64 m1,.int .u64 k1,.int .i64 s1]) (.agg #[.string p0,.int .u64 n0,.string f0,.int .i64 m0,.int .u64 k0,.int .i64 s0])).run Tryz.prog w=.ok (.bool d) w:=fun w=>by rw[eqlE6,hd]
    have hd':=Hd hd;have hx':=Hd hx;have htk':=Hd htk;clear hx htk hy hd;obtain⟨hA,hF⟩:=fZ hA;cases d
    · go_wp2_with fail;(try go_frame);refine cl6 hA ?_;clear hF hA;intro w1 hA hF;(try simp only[uZ] at hA hF);go_wp2_with fail;go_roundg (gk - 1);case measure=>omega
      case rel=>
       have hB:=ZiR hA sR hcl hcap hcm hct;refine⟨i + 1,by simp,by omega,?_,hB.pick pZ⟩;rw[htk'.out];intro hm;rcases List.mem_append.1 hm with hm|hm
       · exact hno'.out hm
       exact of_decide_eq_false hd'.out (List.mem_singleton.1 hm)
    go_wp2_with fail;(try go_frame);refine cl6 hA ?_;clear hF hA;intro w1 hA hF;(try simp only[uZ] at hA hF);go_wp2_with fail;go_ret;have e0:=of_decide_eq_true hd'.out;have hx0:=hx'.out;rw[←e0] at hx0;exact⟨by rw[Zlw hx0 hno'.out];rfl,(ZiR hA sR hcl hcap hcm hct).only1 sR⟩
  have hF:=hA.facts;obtain⟨hA,hF⟩:=fZ hA;go_wp2_with fail;go_ret;have hno2:=hno'.out;rw[List.take_of_length_le (by omega)] at hno2;exact⟨by rw[Zlv hno2];rfl,hA.only1 sZ⟩
theorem ZhB {w:World} {v:Value} {l:List Ent} (h:Sep [rowL v l] w) (x:Ent) (hmax:l.length≤1000000):
 Calls Tryz.prog 67 #[v,x.val] w fun e w'=>e=.returned (.bool (decide (x ∈ l)))∧At [rowL v l] w [rowL v l] w':=by
 have hA:=At.start h;clear h;have hc:=fun(w1:World) (q:Sep [rowL v l] w1)=>Zj2 q x hmax
 have hdx:decide (x ∈ l)=decide (0≤ZeH l x):=by
  rw[decide_eq_decide];unfold ZeH;split<;>rename_i q
  · exact⟨fun _=>by omega,fun _=>q⟩
  exact⟨fun h=>absurd h q,fun h=>by omega⟩
 rw[hdx];unfold Zmu at hc;generalize ZeH l x=ix at *
 obtain⟨p1,n1,f1,m1,k1,s1⟩:=x;simp only[Ent.val] at *
 have hdx':=Hd hdx;clear hdx;obtain⟨hA,hF⟩:=fZ hA;go_enter Tryz.func67,Tryz.ntmps67
 go_wp2_with ((with_reducible refine gbx ?_);refine wHz 61 [.string p1,.int .u64 n1,.string f1,.int .i64 m1,.int .u64 k1,.int .i64 s1] hA ?_;clear hF hA;intro b3 w1 hA hb3 hF)
 refine(hc _ (hA.sep1 (A:=rowL v l) sZ)).mono ?_;rintro e w1 ⟨rfl,hT⟩;replace hA:=hA.call1 (A:=rowL v l) sZ hT;clear hF hT;simp only[uA] at hA;obtain⟨hA,hF⟩:=fZ hA;go_wp2_with fail;go_ret;exact⟨rfl,hA.only1 sZ⟩
theorem wpList_zero_at {P:Program} {ops:Array Oper} {rest:List Oper} {o:Oper} {a:Act} {Q:Exit→Act→World→Prop} {L0 L:List Part} {w0 w:World} {t e:TypeId} {size:Nat} (hg:o.guard=none) (hop:o.op=.buildSlice t 0 #[])
 (hrun:(Instr.buildSlice t 0 #[]).run P w=.ok (.slice (some ⟨w.heap.size,0,none⟩) 0 0) (w.alloc (.cells #[] e))) (h:At L0 w0 L w)
 (hK:∀b w',At L0 w0 (Part.row e size (.slice (some ⟨b,0,none⟩) 0 0) 0 []::L) w'→wpList P ops Q rest (a.put o.dst (.slice (some ⟨b,0,none⟩) 0 0)) w'):wpList P ops Q (o::rest) a w:=by
 refine Zal hg ?_ (hK w.heap.size (w.alloc (.cells #[] e)) ?_)
 · simp[execOp,hop,hrun,Result.andThen]
 exact(h.alloc [] e).row_shut (cap:=0) (n:=0) (xs:=[]) .here (by simp) (Nat.le_refl _) (by unfold maxLen;omega) (by simp)
theorem infoL:(Tryz.prog.info? 61).map (fun i=>(i.zero,i.size,i.bytes))=some (some (.agg #[.string .empty,.int .u64 0,.string .empty,.int .i64 0,.int .u64 0,.int .i64 0]),6,64):=by kernel_rfl
theorem ZfB {w:World} {v:Value} {l:List Ent} (h:Sep [rowL v l] w) (hmax:l.length≤1000000):
 Calls Tryz.prog 65 #[v] w fun e w'=>∃v',e=.returned v'∧At [rowL v l] w [rowL v' l,rowL v l] w':=by
 obtain⟨i0,hi0,hz0,hz1,hz2⟩:=info_parts infoL;have hA:=At.start h;clear h;obtain⟨ax,cap,rfl,hax,hcap,_⟩:=hA.row_form (v:=v) (xs:=l.flatMap Ent.cells) sR;have hax':=Hd hax;clear hax;obtain⟨hA,hF⟩:=fZ hA
 cases ax with
 |none=>
  have:l=[]:=List.eq_nil_of_length_eq_zero (hax'.out rfl);subst this
  have he:∀w,(binOp .eql 53 (.slice none 0 cap) (.slice none 0 0)).run Tryz.prog w=.ok (.bool true) w:=fun w=>by kernel_rfl
  go_enter Tryz.func65,Tryz.ntmps65;go_wp2_with fail;go_ret;exact⟨_,rfl,hA.row_nil 61 6⟩
 |some ad=>
  have he:∀w,(binOp .eql 53 (.slice (some ad) l.length cap) (.slice none 0 0)).run Tryz.prog w=.ok (.bool false) w:=fun w=>by kernel_rfl
  go_enter Tryz.func65,Tryz.ntmps65
  go_wp2_with (first
   |((with_reducible show wpList _ _ _ ({dst:=_,op:=Op.buildSlice _ _ _,type:=_,pos:=_,after:=_,guard:=_}::_) _ _);refine wpList_zero_at (e:=61) (size:=6) rfl rfl (by kernel_rfl) hA ?_;intro b2 w1 hB)
   |((with_reducible show wpList _ _ _ ({dst:=_,op:=Op.call {callee:=Callee.builtin Builtin.append,args:=_,argTypes:=_},type:=_,pos:=_,after:=_,guard:=_}::_) _ _);refine Zad (e:=61) (size:=6) (v:=.slice (some ⟨b2,0,none⟩) 0 0) (xs:=[]) (n:=0) (m:=l.length) (news:=l.flatMap Ent.cells) rfl _ _ 53 rfl Tryz.underlying53 hi0 hz0 hz1 hz2 rfl (by omega) hB sR (by(try simp only[Act.eval,eV])<;>exact rfl) (by(try simp only[Act.eval,eV])<;>exact rfl) (Zay _ _ Za3 _) ((hB.drop .here).row_reads .here) (ZaI Zjm _) (by unfold maxLen;omega) (by omega) ?_;intro v2 w2 hC))
  go_ret;rw[Nat.zero_add,List.nil_append] at hC;exact⟨v2,rfl,hC⟩
end Lock
end
end Go.Proofs.YtknoefbcmomalabGreatDoor
