/- LockG, LockH, WinJ, WinK, joined. -/
import Derived.Test.YtkdjkngfnapjcaaGreatDoorQ12
import Derived.Test.YtkdjkngfnapjcaaGreatDoorQ15
import Derived.Test.YtkdjkngfnapjcaaGreatDoorQ13
import Derived.Test.YtkdjkngfnapjcaaGreatDoorQ14
import Derived.Deep.CutBlock
import Derived.Deep.CutRange
set_option linter.unusedSimpArgs false
set_option linter.unusedVariables false
set_option maxRecDepth 100000
set_option maxHeartbeats 16000000
namespace Go.Proofs.YtkdjkngfnapjcaaGreatDoor
section
namespace Lock
open Go.RowKit
open Go.Maps (Keyed)
open Path (bl Zad overB)
def Bk.st (b:Bk):S3:=⟨b.first,b.es,b.cs⟩
theorem through1 {L0 L F:List Part} {A:Part} {w0 w:World} {P:Program} {f:FuncId} {args:Array Value} {v:Value} (h:At L0 w0 L w) (s:Sel A L F) (hc:Sep [A] w→Calls P f args w fun e w'=>e=.returned v∧At [A] w [A] w'):
 Calls P f args w fun e w'=>e=.returned v∧At L0 w0 L w':=
 (hc (h.sep1 s)).mono fun e w' ⟨he,t⟩=>⟨he,((h.call1 s t).perm s.perm.symm)⟩
theorem through0 {L0 L:List Part} {w0 w:World} {P:Program} {f:FuncId} {args:Array Value} {v:Value} (h:At L0 w0 L w) (hc:Calls P f args w fun e w'=>e=.returned v∧Ext w w'):
 Calls P f args w fun e w'=>e=.returned v∧At L0 w0 L w':=hc.mono fun e w' ⟨he,t⟩=>⟨he,h.ext t⟩
section
variable {w:World} {b:Bk} {p f:ByteArray} {n mode:Int}
theorem Zl5 {has:Bool} (hh:(find b.es p n f).isSome=has):b.st.may p n f mode=if ZaR p mode=false then 10 else if has=true then 15 else if 64≤heldN b.es n f then 14 else if lastN≤counter b.first b.cs p then 53 else 0:=by
 subst hh;rfl
theorem may_any (h:Sep [BookP b] w) (hp:p.size≤1000000) (h0:0≤n) (h1:n < big64) (hf:f.size≤maxLen) (hl:b.es.length≤1000000000) (hc:∀q,0≤counter b.first b.cs q):
 Calls Tryz.prog 262 #[.pointer (some ⟨b.p,0,none⟩),.string p,.agg #[.int .u64 n,.string f],.int .i64 mode] w fun e w'=>e=.returned (.int .i64 (b.st.may p n f mode))∧At [BookP b] w [BookP b] w':=by
 obtain⟨kl,hk⟩:=keyP (p:=p) (by unfold maxLen;omega) h0 h1 hf;have hA:=begin0 h;have hF:=hA.facts;have hr:=right_any p mode
 have hcode:=fun has=>Zl5 (b:=b) (p:=p) (f:=f) (n:=n) (mode:=mode) (has:=has)
 obtain⟨r,hrr⟩:∃r,ZaR p mode=r:=⟨_,rfl⟩
 rw[hrr] at hcode hr
 unfold keyV at *
 cases hfi:find b.es p n f with
 |none=>
  have hmiss:=Hd (find_none hfi);have hcode':=Hd (hcode false (by rw[hfi];rfl));clear h hfi hcode hrr;obtain⟨hA,hF⟩:=fY hA
  go_enter Tryz.func262,Tryz.ntmps262
  go_wp2_with ((with_reducible refine gbx ?_);refine wCy (E:=25) hA ?_;clear hF hA;intro bS w1 hA hbS hF)
  (refine Za4 (a1:= ?a1_q1) (v:= ?v_q1) 11 9 97 _ (.agg #[.string .empty,.int .u64 0,.string .empty,.int .i64 0,.int .u64 0,.int .i64 0]) [.string .empty,.int .u64 0,.string .empty,.int .i64 0,.int .u64 0,.int .i64 0] ([.string .empty,.int .u64 0,.string .empty,.int .i64 0,.int .u64 0,.int .i64 0]) (by kernel_rfl) (by kernel_rfl) rfl rfl ?hyd_q1 (by kernel_rfl) rfl hA ?h1_q1 ?hd_q1 ?hy_q1 ?hu_q1 ?hsz_q1 ?hus_q1 ?hl_q1 ?h2_q1);(case h1_q1=>(intro R wR hR;(try clear hF);(simp only[List.take_succ_cons,List.take_zero,List.drop_succ_cons,List.drop_zero]);(have hn1:=Cl.none hR);(have hn2:=Cl.none2 hR);(repeat(first|go_big_quiet_skip|(go_big_quiet_want;(first|(refine qM 25 2 ?_;go_frame;go_big_quiet_on)|((refine ZbH rfl rfl (by(try simp only[Act.eval,eV])<;>exact rfl) (k:=203) (es:=ents b.es) sR lawP Tryz.underlying201 hk hmiss.out (z:=nullE.val) (fun _=>by kernel_rfl) ?_);go_frame;go_big_quiet_on)|(refine qL ?_;go_frame;go_big_quiet_on)|(go_big_quiet_op;(first|go_big_quiet_on))))));(refine wpQuiet_nil ?_);exact rfl));(case hyd_q1=>rfl);(case hd_q1=>(first|decide|simp));(case hy_q1=>((try simp only[Act.eval,Array.getD_eq_getD_getElem?,List.getElem?_toArray,List.getElem?_cons_succ,List.getElem?_cons_zero,Option.getD_some]);exact rfl));(case hu_q1=>exact rfl);(case hsz_q1=>kernel_rfl);(case hus_q1=>rfl);(case hl_q1=>rfl);(intro b1 w1 hB hb1;clear hF hA;have hA:=hB;clear hB;(simp only[List.drop_succ_cons,List.drop_zero]);obtain⟨hA,hF⟩:=fY hA;(try go_frame))
  replace hA:=fold0 b hA sR sR sR;clear hF;obtain⟨hA,hF⟩:=fY hA
  go_wp2_with fail
  refine(hr w1 hp).mono ?_;clear hr;rintro e w2 ⟨rfl,hx⟩;replace hA:=hA.ext hx;clear hF hx;obtain⟨hA,hF⟩:=fY hA;cases r
  · go_wp2_with fail
    go_ret;exact⟨by rw[hcode'.out];rfl,hA.only1 sR⟩
  go_wp2_with fail
  refine(Zmf (hA.sep1 (A:=BookP b) sR) n f hl).mono ?_
  have hq0:heldN b.es n f≤1000000000:=by have:=ZiJ b.es n f;omega
  generalize heldN b.es n f=q at *
  rintro e w1 ⟨rfl,hT⟩;replace hA:=hA.call1 sR hT;clear hF hT;obtain⟨hA,hF⟩:=fY hA
  by_cases hq:64≤q
  · have hq':(64:Int)≤(q:Int):=by omega
    have hq2:=Hd hq;clear hq
    go_wp2_with fail
    go_ret;exact⟨by rw[hcode'.out];simp[hq2.out],hA.only1 sR⟩
  have hq':¬(64:Int)≤(q:Int):=by omega
  have hcode2:b.st.may p n f mode=if lastN≤counter b.first b.cs p then 53 else 0:=by rw[hcode'.out,if_neg (by simp),if_neg (by simp),if_neg hq]
  have hcode3:=Hd hcode2;clear hq hcode2 hcode'
  go_wp2_with fail
  refine(Zet (hA.sep1 (A:=BookP b) sR) (p:=p) (by unfold maxLen;omega)).mono ?_;have hc0:=hc p
  generalize counter b.first b.cs p=cc at *
  rintro e w1 ⟨rfl,hT⟩;replace hA:=hA.call1 sR hT;clear hF hT;obtain⟨hA,hF⟩:=fY hA
  by_cases hq3:9223372036854775807≤cc
  · have hcode4:=Hd (hcode3.out.trans (if_pos hq3))
    go_wp2_with fail
    go_ret;exact⟨by rw[hcode4.out];rfl,hA.only1 sR⟩
  have hcode4:=Hd (hcode3.out.trans (if_neg hq3))
  go_wp2_with fail
  go_ret;exact⟨by rw[hcode4.out];rfl,hA.only1 sR⟩
 |some x=>
  have hmem:=Hd (find_mem hfi);have hcode':=Hd (hcode true (by rw[hfi];rfl));clear h hfi hcode hrr;obtain⟨hA,hF⟩:=fY hA;unfold Ent.val keyV at hmem
  go_enter Tryz.func262,Tryz.ntmps262
  go_wp2_with ((with_reducible refine gbx ?_);refine wCy (E:=25) hA ?_;clear hF hA;intro bS w1 hA hbS hF)
  (refine Za4 (a1:= ?a1_q2) (v:= ?v_q2) 11 9 97 _ (.agg #[.string .empty,.int .u64 0,.string .empty,.int .i64 0,.int .u64 0,.int .i64 0]) [.string .empty,.int .u64 0,.string .empty,.int .i64 0,.int .u64 0,.int .i64 0] ([.string x.path,.int .u64 x.num,.string x.foot,.int .i64 x.mode,.int .u64 x.n,.int .i64 x.stamp]) (by kernel_rfl) (by kernel_rfl) rfl rfl ?hyd_q2 (by kernel_rfl) rfl hA ?h1_q2 ?hd_q2 ?hy_q2 ?hu_q2 ?hsz_q2 ?hus_q2 ?hl_q2 ?h2_q2);(case h1_q2=>(intro R wR hR;(try clear hF);(simp only[List.take_succ_cons,List.take_zero,List.drop_succ_cons,List.drop_zero]);(have hn1:=Cl.none hR);(have hn2:=Cl.none2 hR);(repeat(first|go_big_quiet_skip|(go_big_quiet_want;(first|(refine qM 25 2 ?_;go_frame;go_big_quiet_on)|((refine ZbG rfl rfl (by(try simp only[Act.eval,eV])<;>exact rfl) (k:=203) (es:=ents b.es) sR lawP Tryz.underlying201 hk hmem.out ?_);go_frame;go_big_quiet_on)|(refine qL ?_;go_frame;go_big_quiet_on)|(go_big_quiet_op;(first|go_big_quiet_on))))));(refine wpQuiet_nil ?_);exact rfl));(case hyd_q2=>rfl);(case hd_q2=>(first|decide|simp));(case hy_q2=>((try simp only[Act.eval,Array.getD_eq_getD_getElem?,List.getElem?_toArray,List.getElem?_cons_succ,List.getElem?_cons_zero,Option.getD_some]);exact rfl));(case hu_q2=>exact rfl);(case hsz_q2=>kernel_rfl);(case hus_q2=>rfl);(case hl_q2=>rfl);(intro b1 w1 hB hb1;clear hF hA;have hA:=hB;clear hB;(simp only[List.drop_succ_cons,List.drop_zero]);obtain⟨hA,hF⟩:=fY hA;(try go_frame))
  replace hA:=fold0 b hA sR sR sR;clear hF;obtain⟨hA,hF⟩:=fY hA
  go_wp2_with fail
  refine(hr w1 hp).mono ?_;clear hr;rintro e w2 ⟨rfl,hx⟩;replace hA:=hA.ext hx;clear hF hx;obtain⟨hA,hF⟩:=fY hA;cases r
  all_goals
   go_wp2_with fail
   go_ret;exact⟨by rw[hcode'.out];rfl,hA.only1 sR⟩
end
end Lock
end
section
namespace Lock
open Go.RowKit
open Go.Maps (Keyed)
open Path (bl Zad overB)
theorem Zf4 (l r:List (ByteArray × Int)):ctrs (l++r)=ctrs l++ctrs r:=by simp[ctrs]
section
variable {P:Program} {ops:Array Oper} {rest:List Oper} {o:Oper} {a:Act} {Q:Exit→Act→World→Prop} {L0 L F:List Part} {w0 w:World} {k:TypeId} {c:Nat}
theorem Zcs {t:TypeId} {m x y:Operand} {cs:List (ByteArray × Int)} {p:ByteArray} {n:Int} (hg:o.guard=none) (hop:o.op=.mapUpdate t m x y) (hm:a.eval m=.map (some c)) (hx:a.eval x=.string p) (hy:a.eval y=.int .u64 n)
 (h:At L0 w0 L w) (s:Sel (Part.map P k c (ctrs cs)) L F) {e:TypeId} (K:Keyed P k) (ht:P.underlying t=some (.map k e)) {kl:Lit} (hk:keyOf P k (.string p)=some kl)
 (hK:∀w',At L0 w0 (Part.map P k c (ctrs (putC cs p n))::F) w'→wpList P ops Q rest (a.put o.dst undef) w'):wpList P ops Q (o::rest) a w:=by
 cases hq:ctr cs p with
 |none=>
  refine Zao hg hop hm hx hy h s K ht hk (Zf5 hq) fun w' h'=>hK w' ?_
  rw[ZcO hq,Zf4];exact h'
 |some u=>
  obtain⟨l1,l2,rfl,hl⟩:=Zes hq;rw[Zf4] at s
  refine Zbx (u:=.int .u64 u) (l1:=ctrs l1) (l2:=ctrs l2) hg hop hm hx hy h s K ht hk fun w' h'=>hK w' ?_
  rw[ZfD hl,Zf4];exact h'
end
section
variable {w:World} {b:Bk} {p f:ByteArray} {n mode:Int}
def Bk.with (b:Bk) (s:S3):Bk:=⟨b.p,b.m,b.c,b.first,s.es,s.cs⟩
theorem Zi7:b.with (b.st.added p n f mode)=⟨b.p,b.m,b.c,b.first,b.es++[b.st.newE p n f mode],putC b.cs p (counter b.first b.cs p + 1)⟩:=rfl
theorem ZiO (l:List Ent) (e:Ent):ents l++[(keyV e.path e.num e.foot,e.val)]=ents (l++[e]):=ents_snoc l e
theorem add_no (h:Sep [BookP b] w) (hp:p.size≤1000000) (h0:0≤n) (h1:n < big64) (hf:f.size≤maxLen) (hl:b.es.length≤1000000000) (hc:∀q,0≤counter b.first b.cs q) {c:Int} (hm:b.st.may p n f mode=c) (hm0:c≠0):
 Calls Tryz.prog 261 #[.pointer (some ⟨b.p,0,none⟩),.string p,.agg #[.int .u64 n,.string f],.int .i64 mode] w fun e w'=>e=.returned (.tuple #[nullE.val,.int .i64 c])∧At [BookP b] w [BookP b] w':=by
 have hA:=At.start h;have hF:=hA.facts;have hm':=Hd hm
 have hm2:(c==0)=false:=by simpa using hm0
 clear h hm hm0;obtain⟨hA,hF⟩:=fY hA
 go_enter Tryz.func261,Tryz.ntmps261
 go_wp2_with (first|((with_reducible refine gbx ?_);refine wCy (E:=25) hA ?_;clear hF hA;intro bS w1 hA hbS hF)|((with_reducible refine gal ?_);refine g4 hA ?_;clear hF hA;intro bE w1 hA hbE hF))
 refine(may_any (hA.sep1 (A:=BookP b) sR) hp h0 h1 hf hl hc).mono ?_;rw[hm'.out];rintro e w1 ⟨rfl,hT⟩;replace hA:=hA.call1 sR hT;clear hF hT;obtain⟨hA,hF⟩:=fY hA
 go_wp2_with ((with_reducible refine gst ?_);refine wTy hA ?_;clear hF hA;intro w1 hA hF)
 refine bodyPost_ret (v:=.tuple #[nullE.val,.int .i64 c]) (by simp[results,Tryz.results261,go_sem,hF,nullE,Ent.val]<;>rfl) rfl ⟨rfl,?_⟩;exact hA.only1 sR
theorem Zn4 (h:Sep [BookP b] w) (hp:p.size≤1000000) (h0:0≤n) (h1:n < big64) (hf:f.size≤maxLen) (hl:b.es.length≤1000000000) (hc:∀q,0≤counter b.first b.cs q) (hok:∀x ∈ b.es,x.path.size≤1000000∧x.stamp≤1000000000) (hm:b.st.may p n f mode=0):
 Calls Tryz.prog 261 #[.pointer (some ⟨b.p,0,none⟩),.string p,.agg #[.int .u64 n,.string f],.int .i64 mode] w fun e w'=>e=.returned (.tuple #[(b.st.newE p n f mode).val,.int .i64 0])∧At [BookP b] w [BookP (b.with (b.st.added p n f mode))] w':=by
 obtain⟨kl,hk⟩:=keyP (p:=p) (by unfold maxLen;omega) h0 h1 hf;obtain⟨kl2,hk2⟩:=keyT (p:=p) (by unfold maxLen;omega)
 have hpm:p.size≤maxLen:=by unfold maxLen;omega
 obtain⟨_,hfi,_,hcl⟩:=Zei hm;have hmiss:=Hd (find_none (es:=b.es) hfi);have hc0:=hc p;have hms:=ZfJ (l:=b.es) (p:=p) (B:=1000000000) (by omega) (fun x hx=>(hok x hx).2);have hA:=At.start h;have hF:=hA.facts;have hm':=Hd hm;have hok':=Hd hok;have hcl':counter b.first b.cs p < 9223372036854775807:=hcl
 have hwr:IntKind.u64.wrap (counter b.first b.cs p + 1)=counter b.first b.cs p + 1:=by rw[IntKind.wrap_u64];omega
 rw[Zi7];have hne:(b.st.newE p n f mode).val=.agg #[.string p,.int .u64 n,.string f,.int .i64 mode,.int .u64 (counter b.first b.cs p + 1),.int .i64 (maxS b.es p + 1)]:=rfl;rw[hne];have hone:ents b.es++[(.agg #[.string p,.int .u64 n,.string f],.agg #[.string p,.int .u64 n,.string f,.int .i64 mode,.int .u64 (counter b.first b.cs p + 1),.int .i64 (maxS b.es p + 1)])]=ents (b.es++[b.st.newE p n f mode]):=ZiO b.es (b.st.newE p n f mode)
 unfold keyV at *
 have hct:=fun(w1:World) (q:Sep [BookP b] w1)=>Zet q (p:=p) hpm
 have hst:=fun(w1:World) (q:Sep [BookP b] w1)=>Zgm q p hp hok
 generalize hnn:b.st.newE p n f mode=e at *
 generalize counter b.first b.cs p=cc at *
 generalize maxS b.es p=ss at *
 have hone':=Hd hone;clear h hm hok hfi hcl hone hnn hne;obtain⟨hA,hF⟩:=fY hA
 go_enter Tryz.func261,Tryz.ntmps261
 go_wp2_with (first|((with_reducible refine gbx ?_);refine wCy (E:=25) hA ?_;clear hF hA;intro bS w1 hA hbS hF)|((with_reducible refine gal ?_);refine g4 hA ?_;clear hF hA;intro bE w1 hA hbE hF))
 refine(may_any (hA.sep1 (A:=BookP b) sR) hp h0 h1 hf hl hc).mono ?_;rw[hm'.out];rintro e w1 ⟨rfl,hT⟩;replace hA:=hA.call1 sR hT;clear hF hT;obtain⟨hA,hF⟩:=fY hA
 go_wp2_with fail
 (refine Za4 (a1:= ?a1_q1) (v:= ?v_q1) 11 11 97 _ (.agg #[.string .empty,.int .u64 0,.string .empty,.int .i64 0,.int .u64 0,.int .i64 0]) [.string .empty,.int .u64 0,.string .empty,.int .i64 0,.int .u64 0,.int .i64 0] ([.string p,.int .u64 n,.string f,.int .i64 mode,.int .u64 (cc + 1),.int .i64 (ss + 1)]) (by kernel_rfl) (by kernel_rfl) rfl rfl ?hyd_q1 (by kernel_rfl) rfl hA ?h1_q1 ?hd_q1 ?hy_q1 ?hu_q1 ?hsz_q1 ?hus_q1 ?hl_q1 ?h2_q1);(case h1_q1=>(intro R wR hR;(try clear hF);(simp only[List.take_succ_cons,List.take_zero,List.drop_succ_cons,List.drop_zero]);(have hn1:=Cl.none hR);(have hn2:=Cl.none2 hR);(repeat(first|go_big_quiet_skip|(go_big_quiet_want;(first|(refine qM 25 2 ?_;go_frame;go_big_quiet_on)|(refine qL ?_;go_frame;go_big_quiet_on)|(go_big_quiet_op;(first|go_big_quiet_on|((apply Exists.intro);(refine⟨fun w1 hw=> ?_,?_⟩);(focus((have hw:=Cl.out hw);(first|exact through1 hw (A:=BookP b) sR (hct _)|exact through1 hw (A:=BookP b) sR (hst _))));(go_big_quiet_on))))))));(refine wpQuiet_nil ?_);exact rfl));(case hyd_q1=>rfl);(case hd_q1=>(first|decide|simp));(case hy_q1=>((try simp only[Act.eval,Array.getD_eq_getD_getElem?,List.getElem?_toArray,List.getElem?_cons_succ,List.getElem?_cons_zero,Option.getD_some]);exact rfl));(case hu_q1=>exact rfl);(case hsz_q1=>kernel_rfl);(case hus_q1=>rfl);(case hl_q1=>rfl);(intro b1 w1 hB hb1;clear hF hA;have hA:=hB;clear hB;(simp only[List.drop_succ_cons,List.drop_zero]);obtain⟨hA,hF⟩:=fY hA;(try go_frame))
 clear hct hst;replace hA:=open0 hA sR;clear hF;obtain⟨hA,hF⟩:=fY hA
 go_wp2_with fail
 (refine Zaj 7 (Cl _ _ _) (by kernel_rfl) (by kernel_rfl) (Cl.drew hA) ?_);(simp only[List.take_succ_cons,List.take_zero,List.drop_succ_cons,List.drop_zero]);(have hn1:=Cl.none hA);(have hn2:=Cl.none2 hA);(repeat(first|go_big_quiet_skip|(go_big_quiet_want;(first|(refine qL ?_;go_frame;go_big_quiet_on)|(go_big_quiet_op;(first|go_big_quiet_on))))))
 (refine wpQuiet_nil ?_);(intro w1 hB);(clear hF hA hn1 hn2);(have hA:=Cl.out hB);(clear hB);obtain⟨hA,hF⟩:=fY hA
 go_wp2_with (refine Zcs rfl rfl rfl (by(try simp only[Act.eval,eV])<;>exact rfl) (by exact rfl) hA (k:=9) (cs:=b.cs) sR lawT Tryz.underlying204 hk2 ?_;intro w1 hB;clear hF hA;have hA:=hB;clear hB;obtain⟨hA,hF⟩:=fY hA)
 try go_frame
 (refine Zaj 8 (Cl _ _ _) (by kernel_rfl) (by kernel_rfl) (Cl.drew hA) ?_);(simp only[List.take_succ_cons,List.take_zero,List.drop_succ_cons,List.drop_zero]);(have hn1:=Cl.none hA);(have hn2:=Cl.none2 hA);(repeat(first|go_big_quiet_skip|(go_big_quiet_want;(first|(refine qM 25 2 ?_;go_frame;go_big_quiet_on)|(refine qM 97 6 ?_;go_frame;go_big_quiet_on)|(refine qL ?_;go_frame;go_big_quiet_on)|(go_big_quiet_op;(first|go_big_quiet_on))))))
 (refine wpQuiet_nil ?_);(intro w1 hB);(clear hF hA hn1 hn2);(have hA:=Cl.out hB);(clear hB);obtain⟨hA,hF⟩:=fY hA
 go_wp2_with (first|((with_reducible refine gst ?_);refine wTy hA ?_;clear hF hA;intro w1 hA hF)|(refine Zao rfl rfl rfl (by(try simp only[Act.eval,eV])<;>exact rfl) (by(try simp only[Act.eval,eV])<;>exact rfl) hA (k:=203) (es:=ents b.es) sR lawP Tryz.underlying201 hk hmiss.out ?_;intro w1 hB;rw[hone'.out] at hB;clear hF hA;have hA:=hB;clear hB;obtain⟨hA,hF⟩:=fY hA))
 refine bodyPost_ret (v:=.tuple #[.agg #[.string p,.int .u64 n,.string f,.int .i64 mode,.int .u64 (cc + 1),.int .i64 (ss + 1)],.int .i64 0]) (by simp[results,Tryz.results261,go_sem,hF]) rfl ⟨rfl,?_⟩;exact close0 ⟨b.p,b.m,b.c,b.first,b.es++[e],putC b.cs p (cc + 1)⟩ hA sR sR sR
theorem add_any (h:Sep [BookP b] w) (hp:p.size≤1000000) (h0:0≤n) (h1:n < big64) (hf:f.size≤maxLen) (hl:b.es.length≤1000000000) (hc:∀q,0≤counter b.first b.cs q) (hok:∀x ∈ b.es,x.path.size≤1000000∧x.stamp≤1000000000):
 Calls Tryz.prog 261 #[.pointer (some ⟨b.p,0,none⟩),.string p,.agg #[.int .u64 n,.string f],.int .i64 mode] w fun e w'=>e=.returned (.tuple #[(b.st.addE p n f mode).val,.int .i64 (b.st.may p n f mode)])∧At [BookP b] w [BookP (b.with (b.st.add p n f mode))] w':=by
 by_cases hm:b.st.may p n f mode=0
 · have:=Zn4 h hp h0 h1 hf hl hc hok hm
   unfold S3.addE S3.add;rw[if_pos hm,if_pos hm,hm];exact this
 have:=add_no h hp h0 h1 hf hl hc (c:=b.st.may p n f mode) rfl hm
 unfold S3.addE S3.add;rw[if_neg hm,if_neg hm];exact this
end
end Lock
end
section
namespace Lock
open Go.RowKit
open Go.Maps (Keyed)
open Path (bl Zad cmpP)
open _root_.Go.Proofs.YtkdjkngfnapjcaaGreatDoor.Wire
open Lease (Za6 Zbu Zdj Zed)
theorem ZmB {s:InS} (hb:Byt s.b):0≤s.byteV∧s.byteV < 256:=by
 unfold InS.byteV InS.takeL
 split
 · cases hq:s.b with
   |nil=>simp
   |cons x l=>
    have:=hb x (by rw[hq];simp)
    simpa using this
 simp
theorem Zlb (x y:Ent) (w:World) (hx:x.path.size≤1000) (hy:y.path.size≤1000):Calls Tryz.prog 244 #[x.val,y.val] w fun e w'=>e=.returned (.bool (aftB x y))∧Ext w w':=by
 have hcp:=fun(w1:World)=>Path.ZbJ x.path y.path w1 (by omega) (by omega)
 unfold aftB
 generalize cmpP (bl x.path) (bl y.path)=cp at *
 have hA:At [] w [] w:=At.start (L0:=[]) trivial;have hF:=hA.facts;obtain⟨p1,n1,f1,m1,k1,s1⟩:=x;obtain⟨p2,n2,f2,m2,k2,s2⟩:=y
 simp only[Ent.val] at *
 go_enter Tryz.func244,Tryz.ntmps244
 go_wp2_with (first|((with_reducible refine gbx ?_);refine wHz 97 [.string p1,.int .u64 n1,.string f1,.int .i64 m1,.int .u64 k1,.int .i64 s1] hA ?_;clear hF hA;intro bX w1 hA hbX hF)|((with_reducible refine gbx ?_);refine wHz 97 [.string p2,.int .u64 n2,.string f2,.int .i64 m2,.int .u64 k2,.int .i64 s2] hA ?_;clear hF hA;intro bY w1 hA hbY hF)|((with_reducible refine gst ?_);refine wTz hA ?_;clear hF hA;intro w1 hA hF)|((with_reducible refine gbx ?_);refine wCz hA ?_;clear hF hA;intro b1 w1 hA hb1 hF))
 refine(hcp _).mono ?_;clear hcp;rintro e w2 ⟨rfl,hx2⟩;replace hA:=hA.ext hx2;clear hx2 hF
 try simp only[uA] at hA
 obtain⟨hA,hF⟩:=fZ hA
 by_cases h1:cp < 0
 · have e1:=Hd (decide_eq_true h1)
   go_wp2_with (first|((with_reducible refine gst ?_);refine wTz hA ?_;clear hF hA;intro w1 hA hF)|((with_reducible refine gbx ?_);refine wCz hA ?_;clear hF hA;intro b1 w1 hA hb1 hF))
   go_ret;exact⟨by rw[e1.out];rfl,hA.toExt⟩
 have e1:=Hd (decide_eq_false h1)
 by_cases h2:cp=0
 · have e2:(cp==0)=true:=by simpa using h2
   have e3:=Hd (decide_eq_true h2);have g1:=(hA.get (A:=Part.cells bX [.string p1,.int .u64 n1,.string f1,.int .i64 m1,.int .u64 k1,.int .i64 s1] 97) sZ:Zaa _ _ _ _).cell 5;have g2:=(hA.get (A:=Part.cells bY [.string p2,.int .u64 n2,.string f2,.int .i64 m2,.int .u64 k2,.int .i64 s2] 97) sZ:Zaa _ _ _ _).cell 5;clear h2
   by_cases h3:s1 < s2
   · have e4:=Hd (decide_eq_true h3)
     go_wp2_with (first|((with_reducible refine gst ?_);refine wTz hA ?_;clear hF hA;intro w1 hA hF)|((with_reducible refine gbx ?_);refine wCz hA ?_;clear hF hA;intro b1 w1 hA hb1 hF))
     go_ret;exact⟨by rw[e1.out,e3.out,e4.out];rfl,hA.toExt⟩
   have e4:=Hd (decide_eq_false h3)
   go_wp2_with (first|((with_reducible refine gst ?_);refine wTz hA ?_;clear hF hA;intro w1 hA hF)|((with_reducible refine gbx ?_);refine wCz hA ?_;clear hF hA;intro b1 w1 hA hb1 hF))
   go_ret;exact⟨by rw[e1.out,e3.out,e4.out];rfl,hA.toExt⟩
 have e2:(cp==0)=false:=by simpa using h2
 have e3:=Hd (decide_eq_false h2);clear h2
 go_wp2_with (first|((with_reducible refine gst ?_);refine wTz hA ?_;clear hF hA;intro w1 hA hF)|((with_reducible refine gbx ?_);refine wCz hA ?_;clear hF hA;intro b1 w1 hA hb1 hF))
 go_ret;exact⟨by rw[e1.out,e3.out];rfl,hA.toExt⟩
def lastE (j:Nat) (last:Ent):Option Ent:=if j=0 then none else some last
theorem Ze4 {n:Nat} (hn:0 < n) (acc:List Ent) (last:Option Ent) (s:InS):entsD n acc last s=(if(if badE acc last (entV s) then(t6 s).fail 10 else t6 s).e≠0 then(acc,if badE acc last (entV s) then(t6 s).fail 10 else t6 s) else entsD (n - 1) (acc++[entV s]) (some (entV s)) (if badE acc last (entV s) then(t6 s).fail 10 else t6 s)):=by
 obtain⟨k,rfl⟩:∃k,n=k + 1:=⟨n - 1,by omega⟩
 rfl
def EnRel (w:World) (i p m c:Nat) (first:Int) (cs:List (ByteArray × Int)) (bL:Nat) (r r0:Rdr) (nn:Nat) (k:Nat) (u:Value) (wr:World):Prop:=∃(r1:Rdr) (acc:List Ent) (last:Ent) (j:Nat),u=.int .u64 j∧j + k=nn∧r1.Ok∧last.path.size≤64∧
 entsD nn [] none r0.s=entsD k acc (lastE j last) r1.s∧
 At [RdP i r,BookP ⟨p,m,c,first,[],cs⟩] w [Part.cells bL last.cells 97,RdP i r1,BookP ⟨p,m,c,first,acc,cs⟩] wr
def ZmR (w:World) (i p m c:Nat) (first:Int) (cs:List (ByteArray × Int)) (r:Rdr) (e:Ending) (w':World):Prop:=∃r':Rdr,e=.returned (.tuple #[])∧r'.s=entsS r.s∧r'.Ok∧
 At [RdP i r,BookP ⟨p,m,c,first,[],cs⟩] w [RdP i r',BookP ⟨p,m,c,first,entsV r.s,cs⟩] w'
def CutF (L0:List Part) (w:World) (L:List Part) (fd:Bool) (u7 u8:Value) (wc:World):Prop:=u8=.bool fd∧At L0 w L wc
def CutB (L0:List Part) (w:World) (L:List Part) (bad:Bool) (u:Value) (wc:World):Prop:=u=.bool bad∧At L0 w L wc
def CutR (L0:List Part) (w:World) (i:Nat) (L:List Part) (s:InS) (wc:World):Prop:=∃r':Rdr,r'.s=s∧r'.Ok∧At L0 w (RdP i r'::L) wc
set_option maxRecDepth 1000000 in
theorem ZhN {w:World} {i p m c:Nat} {first:Int} {cs:List (ByteArray × Int)} {r:Rdr} (h:Sep [RdP i r,BookP ⟨p,m,c,first,[],cs⟩] w) (hr:r.Ok):
 Calls Tryz.prog 187 #[.pointer (some ⟨p,0,none⟩),.pointer (some ⟨i,0,none⟩)] w (ZmR w i p m c first cs r):=by
 have hA:=At.start h;obtain⟨hA,hF⟩:=fZ hA;clear h
 go_enter Tryz.func187,Tryz.ntmps187
 go_wp2_with (first|((with_reducible refine gal ?_);refine g8 hA ?_;clear hF hA;intro bL w1 hA hbL hF)|((with_reducible refine gst ?_);refine wTz hA ?_;clear hF hA;intro w1 hA hF)|((with_reducible refine gbx ?_);refine wCz hA ?_;clear hF hA;intro b1 w1 hA hb1 hF))
 refine(ZdE (hA.sep1 (A:=RdP i r) sR) hr).mono ?_;rintro e w2 ⟨rfl,hT⟩;replace hA:=hA.call1 sR hT;clear hT hF
 try simp only[uA] at hA
 obtain⟨hA,hF⟩:=fZ hA
 have hll:r.s.left≤1000000000000:=by
  have h1:=hr.len;have h2:r.s.b.length=r.l.length - r.pos:=List.length_drop;unfold InS.left
  split<;>omega
 obtain⟨lf,hlf⟩:∃z,r.s.left=z:=⟨_,rfl⟩
 rw[hlf] at hll;have hlf':=Hd hlf
 have hwl:IntKind.u64.wrap (lf:Int)=(lf:Int):=by rw[IntKind.wrap_u64];omega
 rw[hlf];clear hlf
 go_wp2_with (first|((with_reducible refine gst ?_);refine wTz hA ?_;clear hF hA;intro w1 hA hF)|((with_reducible refine gbx ?_);refine wCz hA ?_;clear hF hA;intro b1 w1 hA hb1 hF))
 refine(Zbe (hA.sep1 (A:=RdP i r) sR) hr lf (by omega)).mono ?_;rintro e w3 ⟨r0,rfl,hz,hr0,hT⟩;have hsr0:=Hd hz;clear hz;replace hA:=hA.call1 sR hT;clear hT hF
 try simp only[uA] at hA
 obtain⟨hA,hF⟩:=fZ hA;have hnb:=Za6 r.s lf
 obtain⟨nn,hn⟩:∃z,r.s.shortV lf=z:=⟨_,rfl⟩
 rw[hn] at hnb;rw[hn]
 have eB:entsV r.s=(entsD nn [] none r0.s).1∧entsS r.s=(entsD nn [] none r0.s).2:=by
  unfold entsV entsS;rw[hlf'.out,hn,hsr0.out];exact⟨rfl,rfl⟩
 have eB':=Hd eB;clear eB hn hsr0 hlf'
 go_wp2_with (first|((with_reducible refine gst ?_);refine wTz hA ?_;clear hF hA;intro w1 hA hF)|((with_reducible refine gbx ?_);refine wCz hA ?_;clear hF hA;intro b1 w1 hA hb1 hF))
 try go_frame
 go_loopg [14] nn (EnRel w i p m c first cs bL r r0 nn)
 case atStart=>exact⟨r0,[],⟨.empty,0,.empty,0,0,0⟩,0,rfl,by omega,hr0,by decide,rfl,hA.pick pZ⟩
 case round=>
  obtain⟨r1,acc,⟨lp,ln,lf,lm,lk,ls⟩,j,rfl,hjk,hr1,hlp,hD,hB⟩:=hrel;have hD':=Hd hD;clear hD hr0;simp only[Ent.cells] at hB hlp;clear hF hA;have hA:=hB;clear hB
  try simp only[uA] at hA
  obtain⟨hA,hF⟩:=fZ hA
  by_cases hj:j < nn
  · have hst:=Ze4 (n:=gk) (by omega) acc (lastE j ⟨lp,ln,lf,lm,lk,ls⟩) r1.s
    go_wp2_with (first|((with_reducible refine gst ?_);refine wTz hA ?_;clear hF hA;intro w1 hA hF)|((with_reducible refine gbx ?_);refine wCz hA ?_;clear hF hA;intro b1 w1 hA hb1 hF))
    refine(Zfs (hA.sep1 (A:=RdP i r1) sR) hr1).mono ?_;rintro e w2 ⟨r2,rfl,hz,hr2,hT⟩;have hsr2:=Hd hz;clear hz;replace hA:=hA.call1 sR hT;clear hT hF
    try simp only[uA] at hA
    obtain⟨hA,hF⟩:=fZ hA
    go_wp2_with (first|((with_reducible refine gal ?_);refine g8 hA ?_;clear hF hA;intro bE w1 hA hbE hF)|((with_reducible refine gst ?_);refine wTz hA ?_;clear hF hA;intro w1 hA hF)|((with_reducible refine gbx ?_);refine wCz hA ?_;clear hF hA;intro b1 w1 hA hb1 hF))
    refine(ZcY (hA.sep1 (A:=RdP i r2) sR) hr2).mono ?_;rintro e w3 ⟨r3,rfl,hz,hr3,hT⟩;have hsr3:=Hd hz;clear hz;replace hA:=hA.call1 sR hT;clear hT hF
    try simp only[uA] at hA
    obtain⟨hA,hF⟩:=fZ hA
    go_wp2_with (first|((with_reducible refine gst ?_);refine wTz hA ?_;clear hF hA;intro w1 hA hF)|((with_reducible refine gbx ?_);refine wCz hA ?_;clear hF hA;intro b1 w1 hA hb1 hF))
    refine(Zfs (hA.sep1 (A:=RdP i r3) sR) hr3).mono ?_;rintro e w4 ⟨r4,rfl,hz,hr4,hT⟩;have hsr4:=Hd hz;clear hz;replace hA:=hA.call1 sR hT;clear hT hF
    try simp only[uA] at hA
    obtain⟨hA,hF⟩:=fZ hA
    go_wp2_with (first|((with_reducible refine gst ?_);refine wTz hA ?_;clear hF hA;intro w1 hA hF)|((with_reducible refine gbx ?_);refine wCz hA ?_;clear hF hA;intro b1 w1 hA hb1 hF))
    refine(ZiZ (hA.sep1 (A:=RdP i r4) sR) hr4).mono ?_;rintro e w5 ⟨r5,rfl,hz,hr5,hT⟩;have hsr5:=Hd hz;clear hz;replace hA:=hA.call1 sR hT;clear hT hF
    try simp only[uA] at hA
    obtain⟨hA,hF⟩:=fZ hA;have hbb:=ZmB (Zed hr4)
    have hw5:IntKind.i64.wrap r4.s.byteV=r4.s.byteV:=by rw[IntKind.wrap_i64]<;>omega
    have hbb':=Hd hbb;clear hbb
    go_wp2_with (first|((with_reducible refine gst ?_);refine wTz hA ?_;clear hF hA;intro w1 hA hF)|((with_reducible refine gbx ?_);refine wCz hA ?_;clear hF hA;intro b1 w1 hA hb1 hF))
    refine(ZcY (hA.sep1 (A:=RdP i r5) sR) hr5).mono ?_;rintro e w6 ⟨r6,rfl,hz,hr6,hT⟩;have hsr6:=Hd hz;clear hz;replace hA:=hA.call1 sR hT;clear hT hF
    try simp only[uA] at hA
    obtain⟨hA,hF⟩:=fZ hA
    go_wp2_with (first|((with_reducible refine gst ?_);refine wTz hA ?_;clear hF hA;intro w1 hA hF)|((with_reducible refine gbx ?_);refine wCz hA ?_;clear hF hA;intro b1 w1 hA hb1 hF))
    refine(Zbe (hA.sep1 (A:=RdP i r6) sR) hr6 4611686018427387903 (by omega)).mono ?_;rintro e w7 ⟨r7,rfl,hz,hr7,hT⟩;have hsr7:=Hd hz;clear hz;replace hA:=hA.call1 sR hT;clear hT hF
    try simp only[uA] at hA
    obtain⟨hA,hF⟩:=fZ hA;have hb7:=Za6 r6.s 4611686018427387903
    have hw7:IntKind.i64.wrap ((r6.s.shortV 4611686018427387903:Nat):Int)=((r6.s.shortV 4611686018427387903:Nat):Int):=by rw[IntKind.wrap_i64]<;>omega
    have hpl:=Hd (Zbu (s:=r1.s) (k:=64) (by omega));have hfl:=Hd (Zbu (s:=r3.s) (k:=64) (by omega));have hnl:=Hd (Zdj (Zed hr2));have hkl:=Hd (Zdj (Zed hr5));have e2:r2.s=t1 r1.s:=hsr2.out
    have e3:r3.s=t2 r1.s:=by rw[hsr3.out,e2];rfl
    have e4:r4.s=t3 r1.s:=by rw[hsr4.out,e3];rfl
    have e5:r5.s=t4 r1.s:=by rw[hsr5.out,e4];rfl
    have e6:r6.s=t5 r1.s:=by rw[hsr6.out,e5];rfl
    have e7:t6 r1.s=r7.s:=by rw[hsr7.out,e6];rfl
    rw[e7] at hst
    have hv:entV r1.s=⟨r1.s.textV 64,(r2.s.fixV:Nat),r3.s.textV 64,r4.s.byteV,(r5.s.fixV:Nat),(r6.s.shortV 4611686018427387903:Nat)⟩:=by rw[e2,e3,e4,e5,e6];rfl
    have hv':=Hd hv;clear hv e7 e2 e3 e4 e5 e6 hsr2 hsr3 hsr4 hsr5 hsr6 hsr7 hr1 hr2 hr3 hr4 hr5 hr6
    generalize r1.s.textV 64=path at *
    generalize r2.s.fixV=num at *
    generalize r3.s.textV 64=foot at *
    generalize r4.s.byteV=mode at *
    generalize r5.s.fixV=n at *
    generalize r6.s.shortV 4611686018427387903=stamp at *
    obtain⟨kl,hk⟩:=keyP (p:=path) (n:=(num:Int)) (f:=foot) (by have:=hpl.out;unfold maxLen;omega) (by omega) (by have:=hnl.out;unfold big64;omega) (by have:=hfl.out;unfold maxLen;omega);unfold keyV at hk;replace hA:=open0 hA (b:=⟨p,m,c,first,acc,cs⟩) sR;clear hF
    try simp only[uA] at hA
    obtain⟨hA,hF⟩:=fZ hA
    go_upto_region 9 with(first|((with_reducible refine gst ?_);refine wTz hA ?_;clear hF hA;intro w1 hA hF)|((with_reducible refine gbx ?_);refine wCz hA ?_;clear hF hA;intro b1 w1 hA hb1 hF))
    obtain⟨fo,hfo⟩:∃z,find acc path num foot=z:=⟨_,rfl⟩
    have hbE:=Hd (show badE acc (lastE j ⟨lp,ln,lf,lm,lk,ls⟩) (entV r1.s)=(!ZaR path mode || decide ((stamp:Int)=0) || fo.isSome || (lastE j ⟨lp,ln,lf,lm,lk,ls⟩).any (fun q=> !aftB q ⟨path,num,foot,mode,n,stamp⟩)) from by rw[hv'.out];unfold badE;simp only;rw[hfo])
    generalize hbad:badE acc (lastE j ⟨lp,ln,lf,lm,lk,ls⟩) (entV r1.s)=bad at *
    have hbE':=Hd hbE.out;have hfo':=Hd hfo;rw[hv'.out] at hst;have hst':=Hd hst;clear hbE hbad hfo hst
    try go_frame
    go_cut [7,8] from 37 to 49 (CutF [RdP i r,BookP ⟨p,m,c,first,[],cs⟩] w [Part.cells bE [.string path,.int .u64 num,.string foot,.int .i64 mode,.int .u64 n,.int .i64 stamp] 97,RdP i r7,headC p m c first,mapC m (ents acc),ctrC c (ctrs cs),Part.cells bL [.string lp,.int .u64 ln,.string lf,.int .i64 lm,.int .u64 lk,.int .i64 ls] 97] fo.isSome)
    case first=>
     cases fo with
     |none=>
      have hmiss:=Hd (find_none hfo'.out);have hl0:(Instr.lookup 201 (.map (some m)) (.agg #[.string path,.int .u64 num,.string foot]) true).run Tryz.prog w1.drew=.ok (.tuple #[.agg #[.string ⟨#[]⟩,.int .u64 0,.string ⟨#[]⟩,.int .i64 0,.int .u64 0,.int .i64 0],.bool false]) w1.drew:=MapAt.look_none (hA.drew.get (A:=mapC m (ents acc)) sR) lawP Tryz.underlying201 hk hmiss.out (by kernel_rfl) true;have hl1:(Instr.lookup 201 (.map (some m)) (.agg #[.string path,.int .u64 num,.string foot]) true).run Tryz.prog (w1.alloc (.cells #[.string ⟨#[]⟩,.int .u64 0,.string ⟨#[]⟩,.int .i64 0,.int .u64 0,.int .i64 0] 97)).drew=.ok (.tuple #[.agg #[.string ⟨#[]⟩,.int .u64 0,.string ⟨#[]⟩,.int .i64 0,.int .u64 0,.int .i64 0],.bool false]) (w1.alloc (.cells #[.string ⟨#[]⟩,.int .u64 0,.string ⟨#[]⟩,.int .i64 0,.int .u64 0,.int .i64 0] 97)).drew:=MapAt.look_none ((hA.alloc [.string ⟨#[]⟩,.int .u64 0,.string ⟨#[]⟩,.int .i64 0,.int .u64 0,.int .i64 0] 97).drew.get (A:=mapC m (ents acc)) sR) lawP Tryz.underlying201 hk hmiss.out (by kernel_rfl) true
      go_region
      all_goals
       have hB:At [RdP i r,BookP ⟨p,m,c,first,[],cs⟩] w _ (w1.alloc (.cells #[.string ⟨#[]⟩,.int .u64 0,.string ⟨#[]⟩,.int .i64 0,.int .u64 0,.int .i64 0] 97)).drew:=(hA.alloc [.string ⟨#[]⟩,.int .u64 0,.string ⟨#[]⟩,.int .i64 0,.int .u64 0,.int .i64 0] 97).drew;clear hF hA hl0 hl1
       generalize (w1.alloc (.cells #[.string ⟨#[]⟩,.int .u64 0,.string ⟨#[]⟩,.int .i64 0,.int .u64 0,.int .i64 0] 97)).drew=w2 at *
       have hA:=hB;clear hB;obtain⟨hA,hF⟩:=fZ hA
       go_wp2_with (first|((with_reducible refine gst ?_);refine wTz hA ?_;clear hF hA;intro w1 hA hF)|((with_reducible refine gbx ?_);refine wCz hA ?_;clear hF hA;intro b1 w1 hA hb1 hF))
       go_meet
       case rel=>exact⟨rfl,hA.pick pZ⟩
     |some x=>
      have hmem:=Hd (find_mem hfo'.out);unfold Ent.val keyV at hmem;have hl0:(Instr.lookup 201 (.map (some m)) (.agg #[.string path,.int .u64 num,.string foot]) true).run Tryz.prog w1.drew=.ok (.tuple #[.agg #[.string x.path,.int .u64 x.num,.string x.foot,.int .i64 x.mode,.int .u64 x.n,.int .i64 x.stamp],.bool true]) w1.drew:=MapAt.look_some (hA.drew.get (A:=mapC m (ents acc)) sR) lawP Tryz.underlying201 hk hmem.out true;have hl1:(Instr.lookup 201 (.map (some m)) (.agg #[.string path,.int .u64 num,.string foot]) true).run Tryz.prog (w1.alloc (.cells #[.string ⟨#[]⟩,.int .u64 0,.string ⟨#[]⟩,.int .i64 0,.int .u64 0,.int .i64 0] 97)).drew=.ok (.tuple #[.agg #[.string x.path,.int .u64 x.num,.string x.foot,.int .i64 x.mode,.int .u64 x.n,.int .i64 x.stamp],.bool true]) (w1.alloc (.cells #[.string ⟨#[]⟩,.int .u64 0,.string ⟨#[]⟩,.int .i64 0,.int .u64 0,.int .i64 0] 97)).drew:=MapAt.look_some ((hA.alloc [.string ⟨#[]⟩,.int .u64 0,.string ⟨#[]⟩,.int .i64 0,.int .u64 0,.int .i64 0] 97).drew.get (A:=mapC m (ents acc)) sR) lawP Tryz.underlying201 hk hmem.out true
      go_region
      all_goals
       have hB:At [RdP i r,BookP ⟨p,m,c,first,[],cs⟩] w _ (w1.alloc (.cells #[.string x.path,.int .u64 x.num,.string x.foot,.int .i64 x.mode,.int .u64 x.n,.int .i64 x.stamp] 97)).drew:=(hA.alloc [.string x.path,.int .u64 x.num,.string x.foot,.int .i64 x.mode,.int .u64 x.n,.int .i64 x.stamp] 97).drew;clear hF hA hl0 hl1
       generalize (w1.alloc (.cells #[.string x.path,.int .u64 x.num,.string x.foot,.int .i64 x.mode,.int .u64 x.n,.int .i64 x.stamp] 97)).drew=w2 at *
       have hA:=hB;clear hB;obtain⟨hA,hF⟩:=fZ hA
       go_wp2_with (first|((with_reducible refine gst ?_);refine wTz hA ?_;clear hF hA;intro w1 hA hF)|((with_reducible refine gbx ?_);refine wCz hA ?_;clear hF hA;intro b1 w1 hA hb1 hF))
       go_meet
       case rel=>exact⟨rfl,hA.pick pZ⟩
    case rest=>
     obtain⟨rfl,hB⟩:=hcut;clear hF hA;have hA:=hB;clear hB
     try simp only[uA] at hA
     obtain⟨hA,hF⟩:=fZ hA
     go_upto_region 10 with(first|((with_reducible refine gst ?_);refine wTz hA ?_;clear hF hA;intro w1 hA hF)|((with_reducible refine gbx ?_);refine wCz hA ?_;clear hF hA;intro b1 w1 hA hb1 hF))
     try go_frame
     go_cut [73] from 50 to 73 (CutB [RdP i r,BookP ⟨p,m,c,first,[],cs⟩] w [Part.cells bE [.string path,.int .u64 num,.string foot,.int .i64 mode,.int .u64 n,.int .i64 stamp] 97,RdP i r7,headC p m c first,mapC m (ents acc),ctrC c (ctrs cs),Part.cells bL [.string lp,.int .u64 ln,.string lf,.int .i64 lm,.int .u64 lk,.int .i64 ls] 97] bad)
     case first=>
      go_wp2_with (first|((with_reducible refine gst ?_);refine wTz hA ?_;clear hF hA;intro w1 hA hF)|((with_reducible refine gbx ?_);refine wCz hA ?_;clear hF hA;intro b1 w1 hA hb1 hF))
      refine(right_any path mode _ (by have:=hpl.out;omega)).mono ?_;rintro e wq ⟨rfl,hx⟩;replace hA:=hA.ext hx;clear hx hF
      try simp only[uA] at hA
      obtain⟨hA,hF⟩:=fZ hA
      have hcE:=(hA.get (A:=Part.cells bE [.string path,.int .u64 num,.string foot,.int .i64 mode,.int .u64 n,.int .i64 stamp] 97) sZ:Zaa _ _ _ _)
      have hcL:=(hA.get (A:=Part.cells bL [.string lp,.int .u64 ln,.string lf,.int .i64 lm,.int .u64 lk,.int .i64 ls] 97) sZ:Zaa _ _ _ _)
      have ce0:=hcE.cell 0;have cl0:=hcL.cell 0;have ce1:=hcE.cell 1;have cl1:=hcL.cell 1;have ce2:=hcE.cell 2;have cl2:=hcL.cell 2;have ce3:=hcE.cell 3;have cl3:=hcL.cell 3;have ce4:=hcE.cell 4;have cl4:=hcL.cell 4;have ce5:=hcE.cell 5;have cl5:=hcL.cell 5;clear hcE hcL
      generalize ZaR path mode=rm at *
      cases rm
      · have hz:=Hd (show bad=true from by rw[hbE'.out];rfl)
        go_wp2_with (first|((with_reducible refine gst ?_);refine wTz hA ?_;clear hF hA;intro w1 hA hF)|((with_reducible refine gbx ?_);refine wCz hA ?_;clear hF hA;intro b1 w1 hA hb1 hF))
        go_meet
        case rel=>exact⟨by rw[hz.out],hA.pick pZ⟩
      by_cases hs0:(stamp:Int)=0
      · have e1:((stamp:Int)==0)=true:=by simpa using hs0
        have hz:=Hd (show bad=true from by rw[hbE'.out,decide_eq_true hs0];rfl);clear hs0
        go_wp2_with (first|((with_reducible refine gst ?_);refine wTz hA ?_;clear hF hA;intro w1 hA hF)|((with_reducible refine gbx ?_);refine wCz hA ?_;clear hF hA;intro b1 w1 hA hb1 hF))
        go_meet
        case rel=>exact⟨by rw[hz.out],hA.pick pZ⟩
      have e1:((stamp:Int)==0)=false:=by simpa using hs0
      have hs1:=Hd (decide_eq_false hs0);clear hs0;have hz1:=Hd (show bad=(fo.isSome || (lastE j ⟨lp,ln,lf,lm,lk,ls⟩).any (fun q=> !aftB q ⟨path,num,foot,mode,n,stamp⟩)) from by rw[hbE'.out,hs1.out];rfl);clear hbE'
      generalize fo.isSome=fd at *
      cases fd
      · by_cases hj1:j=0
        · have hjz:¬(0:Int) < (j:Int):=by omega
          have hz:=Hd (show bad=false from by rw[hz1.out];unfold lastE;rw[if_pos hj1];rfl);clear hj1
          go_wp2_with (first|((with_reducible refine gst ?_);refine wTz hA ?_;clear hF hA;intro w1 hA hF)|((with_reducible refine gbx ?_);refine wCz hA ?_;clear hF hA;intro b1 w1 hA hb1 hF))
          go_meet
          case rel=>exact⟨by rw[hz.out],hA.pick pZ⟩
        have hjz:(0:Int) < (j:Int):=by omega
        have haf:=Zlb ⟨lp,ln,lf,lm,lk,ls⟩ ⟨path,num,foot,mode,n,stamp⟩;have hz:=Hd (show bad=(!aftB ⟨lp,ln,lf,lm,lk,ls⟩ ⟨path,num,foot,mode,n,stamp⟩) from by rw[hz1.out];unfold lastE;rw[if_neg hj1];rfl)
        generalize aftB ⟨lp,ln,lf,lm,lk,ls⟩ ⟨path,num,foot,mode,n,stamp⟩=af at *
        have haf':=Hd (fun w=>haf w (by show lp.size≤1000;omega) (by show path.size≤1000;have:=hpl.out;omega));clear haf
        go_wp2_with (first|((with_reducible refine gst ?_);refine wTz hA ?_;clear hF hA;intro w1 hA hF)|((with_reducible refine gbx ?_);refine wCz hA ?_;clear hF hA;intro b1 w1 hA hb1 hF))
        refine(haf'.out _).mono ?_;rintro e wq ⟨rfl,hx⟩;replace hA:=hA.ext hx;clear hx ce0 ce1 ce2 ce3 ce4 ce5 cl0 cl1 cl2 cl3 cl4 cl5 hF
        try simp only[uA] at hA
        obtain⟨hA,hF⟩:=fZ hA;cases af
        · go_wp2_with (first|((with_reducible refine gst ?_);refine wTz hA ?_;clear hF hA;intro w1 hA hF)|((with_reducible refine gbx ?_);refine wCz hA ?_;clear hF hA;intro b1 w1 hA hb1 hF))
          go_meet
          case rel=>exact⟨by rw[hz.out];rfl,hA.pick pZ⟩
        go_wp2_with (first|((with_reducible refine gst ?_);refine wTz hA ?_;clear hF hA;intro w1 hA hF)|((with_reducible refine gbx ?_);refine wCz hA ?_;clear hF hA;intro b1 w1 hA hb1 hF))
        go_meet
        case rel=>exact⟨by rw[hz.out];rfl,hA.pick pZ⟩
      have hz:=Hd (show bad=true from by rw[hz1.out];rfl)
      go_wp2_with (first|((with_reducible refine gst ?_);refine wTz hA ?_;clear hF hA;intro w1 hA hF)|((with_reducible refine gbx ?_);refine wCz hA ?_;clear hF hA;intro b1 w1 hA hb1 hF))
      go_meet
      case rel=>exact⟨by rw[hz.out],hA.pick pZ⟩
     case rest=>
      obtain⟨rfl,hB⟩:=hcut;clear hF hA;have hA:=hB;clear hB
      try simp only[uA] at hA
      obtain⟨hA,hF⟩:=fZ hA
      go_upto_if 73 with(first|((with_reducible refine gst ?_);refine wTz hA ?_;clear hF hA;intro w1 hA hF)|((with_reducible refine gbx ?_);refine wCz hA ?_;clear hF hA;intro b1 w1 hA hb1 hF))
      try go_frame
      go_cut [] from 74 to 75 (CutR [RdP i r,BookP ⟨p,m,c,first,[],cs⟩] w i [Part.cells bE [.string path,.int .u64 num,.string foot,.int .i64 mode,.int .u64 n,.int .i64 stamp] 97,headC p m c first,mapC m (ents acc),ctrC c (ctrs cs),Part.cells bL [.string lp,.int .u64 ln,.string lf,.int .i64 lm,.int .u64 lk,.int .i64 ls] 97] (if bad then r7.s.fail 10 else r7.s))
      case first=>
       cases bad
       · go_wp2_with (first|((with_reducible refine gst ?_);refine wTz hA ?_;clear hF hA;intro w1 hA hF)|((with_reducible refine gbx ?_);refine wCz hA ?_;clear hF hA;intro b1 w1 hA hb1 hF))
         go_meet
         case rel=>exact⟨r7,rfl,hr7,hA.pick pZ⟩
       go_wp2_with (first|((with_reducible refine gst ?_);refine wTz hA ?_;clear hF hA;intro w1 hA hF)|((with_reducible refine gbx ?_);refine wCz hA ?_;clear hF hA;intro b1 w1 hA hb1 hF))
       refine(Zck (hA.sep1 (A:=RdP i r7) sR) hr7 10).mono ?_;rintro e w8 ⟨r8,rfl,hz,hr8,hT⟩;have hsr8:=Hd hz;clear hz;replace hA:=hA.call1 sR hT;clear hT hF
       try simp only[uA] at hA
       obtain⟨hA,hF⟩:=fZ hA
       go_wp2_with (first|((with_reducible refine gst ?_);refine wTz hA ?_;clear hF hA;intro w1 hA hF)|((with_reducible refine gbx ?_);refine wCz hA ?_;clear hF hA;intro b1 w1 hA hb1 hF))
       go_meet
       case rel=>exact⟨r8,hsr8.out,hr8,hA.pick pZ⟩
      case rest=>
       obtain⟨r8,hz,hr8,hB⟩:=hcut;have hs8:=Hd hz;clear hz hr7;clear hF hA;have hA:=hB;clear hB
       try simp only[uA] at hA
       obtain⟨hA,hF⟩:=fZ hA
       go_wp2_with (first|((with_reducible refine gst ?_);refine wTz hA ?_;clear hF hA;intro w1 hA hF)|((with_reducible refine gbx ?_);refine wCz hA ?_;clear hF hA;intro b1 w1 hA hb1 hF))
       refine(ZaF (hA.sep1 (A:=RdP i r8) sR)).mono ?_;rintro e w7 ⟨rfl,hT⟩;replace hA:=hA.call1 sR hT;clear hT hF
       try simp only[uA] at hA
       obtain⟨hA,hF⟩:=fZ hA
       by_cases he:r8.s.e=0
       · have he2:=Hd he
         have hne:(r8.s.e != 0)=false:=by simpa using he
         clear he
         have hb0:bad=false:=by
          cases hbb:bad
          · rfl
          exfalso
          have h1:=hs8.out;rw[hbb] at h1;have h2:=he2.out;rw[h1] at h2;exact Zbj (by decide) h2
         have hfn:fo=none:=by
          cases hfq:fo with
          |none=>rfl
          |some x=>
           exfalso
           have h1:=hbE'.out;rw[hb0,hfq] at h1
           simp at h1
         have hmiss:=Hd (find_none (hfo'.out.trans hfn));have hst2:=Hd (show entsD gk acc (lastE j ⟨lp,ln,lf,lm,lk,ls⟩) r1.s=entsD (gk - 1) (acc++[⟨path,num,foot,mode,n,stamp⟩]) (some ⟨path,num,foot,mode,n,stamp⟩) r8.s from by rw[hst'.out,←hs8.out,if_neg (fun q=>q he2.out)]);clear hb0 hfn
         have hwj:IntKind.u64.wrap ((j:Int) + 1)=(j:Int) + 1:=by rw[IntKind.wrap_u64];omega
         have hone:=Hd (ZiO acc ⟨path,num,foot,mode,n,stamp⟩);unfold Ent.val keyV at hone
         go_wp2_with (first|((with_reducible refine gst ?_);refine wTz hA ?_;clear hF hA;intro w1 hA hF)|((with_reducible refine gbx ?_);refine wCz hA ?_;clear hF hA;intro b1 w1 hA hb1 hF))
         (refine Zaj 10 (fun w'=>∃n,w'=World.drewN _ n) (by kernel_rfl) (by kernel_rfl) ⟨1,rfl⟩ ?_);(simp only[List.take_succ_cons,List.take_zero,List.drop_succ_cons,List.drop_zero]);(repeat(first|go_big_quiet_step (fail)|quiet_step (fail)));(refine wpQuiet_nil ?_);(rintro _ ⟨nq,rfl⟩)
         have hA:=hA.drewN nq;generalize World.drewN _ nq=w1 at *;clear hF;obtain⟨hA,hF⟩:=fZ hA
         refine Zao rfl rfl rfl (by(try simp only[Act.eval,eV])<;>exact rfl) (by(try simp only[Act.eval,eV])<;>exact rfl) hA (k:=203) (es:=ents acc) sR lawP Tryz.underlying201 hk hmiss.out ?_;intro w1 hB;rw[hone.out] at hB;clear hF hA;have hA:=hB;clear hB
         try simp only[uA] at hA
         obtain⟨hA,hF⟩:=fZ hA
         go_wp2_with (first|((with_reducible refine gst ?_);refine wTz hA ?_;clear hF hA;intro w1 hA hF)|((with_reducible refine gbx ?_);refine wCz hA ?_;clear hF hA;intro b1 w1 hA hb1 hF))
         go_roundg (gk - 1)
         case rel=>
          refine⟨r8,acc++[⟨path,num,foot,mode,n,stamp⟩],⟨path,num,foot,mode,n,stamp⟩,j + 1,rfl,by omega,hr8,hpl.out,?_,?_⟩
          · rw[hD'.out,hst2.out,show lastE (j + 1) ⟨path,num,foot,mode,n,stamp⟩=some ⟨path,num,foot,mode,n,stamp⟩ from if_neg (by omega)]
          exact(fold0 ⟨p,m,c,first,acc++[⟨path,num,foot,mode,n,stamp⟩],cs⟩ hA sZ sZ sZ).pick pZ
         case measure=>omega
       have he2:=Hd he
       have hne:(r8.s.e != 0)=true:=by simpa using he
       have hst2:=Hd (show entsD gk acc (lastE j ⟨lp,ln,lf,lm,lk,ls⟩) r1.s=(acc,r8.s) from by rw[hst'.out,←hs8.out,if_pos he]);clear he
       go_wp2_with (first|((with_reducible refine gst ?_);refine wTz hA ?_;clear hF hA;intro w1 hA hF)|((with_reducible refine gbx ?_);refine wCz hA ?_;clear hF hA;intro b1 w1 hA hb1 hF))
       refine bodyPost_ret (v:=.tuple #[]) (by simp[results,Tryz.results187,go_sem]) rfl ?_
       have e1:entsD nn [] none r0.s=(acc,r8.s):=by rw[hD'.out,hst2.out]
       exact⟨r8,rfl,by rw[eB'.out.2,e1],hr8,by rw[eB'.out.1,e1];exact(fold0 ⟨p,m,c,first,acc,cs⟩ hA sZ sZ sZ).pick pZ⟩
  go_wp2_with (first|((with_reducible refine gst ?_);refine wTz hA ?_;clear hF hA;intro w1 hA hF)|((with_reducible refine gbx ?_);refine wCz hA ?_;clear hF hA;intro b1 w1 hA hb1 hF))
  have hk0:gk=0:=by omega
  have e1:entsD nn [] none r0.s=(acc,r1.s):=by rw[hD'.out,hk0];simp[entsD]
  refine bodyPost_ret (v:=.tuple #[]) (by simp[results,Tryz.results187,go_sem]) rfl ?_;exact⟨r1,rfl,by rw[eB'.out.2,e1],hr1,by rw[eB'.out.1,e1];exact hA.pick pZ⟩
end Lock
end
section
namespace Lock
open Go.RowKit
open Go.Maps (Keyed)
open Path (bl Zad cmpP cmpL Zae)
open _root_.Go.Proofs.YtkdjkngfnapjcaaGreatDoor.Wire
open Lease (Za6 Zbu Zdj Zed)
def lastC (j:Nat) (last:ByteArray):Option ByteArray:=if j=0 then none else some last
theorem Ze5 {n:Nat} (hn:0 < n) (first:Int) (last:Option ByteArray) (s:InS):cntsD first n last s=(if(if badC first last (cntV s) then(c2 s).fail 10 else c2 s).e≠0 then([],if badC first last (cntV s) then(c2 s).fail 10 else c2 s) else(cntV s::(cntsD first (n - 1) (some (cntV s).1) (if badC first last (cntV s) then(c2 s).fail 10 else c2 s)).1,(cntsD first (n - 1) (some (cntV s).1) (if badC first last (cntV s) then(c2 s).fail 10 else c2 s)).2)):=by
 obtain⟨k,rfl⟩:∃k,n=k + 1:=⟨n - 1,by omega⟩
 rfl
structure LastOk (j:Nat) (last:ByteArray) (acc:List (ByteArray × Int)):Prop where
 size:last.size≤64
 zero:j=0→acc=[]
 right:j≠0→Zad (bl last)=true
 all:∀a ∈ acc,a.1=last∨cmpL (Zae (bl a.1)) (Zae (bl last)) < 0
theorem LastOk.next {j:Nat} {last:ByteArray} {acc:List (ByteArray × Int)} (h:LastOk j last acc) {first:Int} {q:ByteArray × Int} (hb:badC first (lastC j last) q=false) (hq:q.1.size≤64):LastOk (j + 1) q.1 (acc++[q])∧ctr acc q.1=none:=by
 unfold badC at hb;simp only[Bool.or_eq_false_iff,Bool.not_eq_eq_eq_not,Bool.not_false,decide_eq_false_iff_not] at hb;obtain⟨⟨g1,g2⟩,g3⟩:=hb
 have hlt:∀a ∈ acc,cmpL (Zae (bl a.1)) (Zae (bl q.1)) < 0:=by
  intro a ha
  by_cases z:j=0
  · rw[h.zero z] at ha;cases ha
  unfold lastC at g3;rw[if_neg z] at g3
  have h3:¬0≤cmpP (bl last) (bl q.1):=by simpa using g3
  have hcp:cmpP (bl last) (bl q.1)=cmpL (Zae (bl last)) (Zae (bl q.1)):=by simp[cmpP,h.right z,g1]
  have hl:cmpL (Zae (bl last)) (Zae (bl q.1)) < 0:=by omega
  rcases h.all a ha with e|e
  · rw[e];exact hl
  exact Path.Zc3 e hl
 refine⟨⟨hq,fun z=>by omega,fun _=>g1,fun a ha=> ?_⟩,?_⟩
 · rcases List.mem_append.1 ha with ha|ha
   · exact .inr (hlt a ha)
   rw[List.mem_singleton.1 ha];exact .inl rfl
 unfold ctr;rw[Option.map_eq_none_iff,List.find?_eq_none];intro a ha e;have h1:=hlt a ha
 have e:a.1=q.1:=by simpa using e
 rw[e,Path.Zb3] at h1
 omega
def CnRel (w:World) (i p m c:Nat) (first:Int) (es:List Ent) (r r0:Rdr) (nn:Nat) (k:Nat) (u4 u:Value) (wr:World):Prop:=∃(r1:Rdr) (acc:List (ByteArray × Int)) (last:ByteArray) (j:Nat),u4=.string last∧u=.int .u64 j∧j + k=nn∧r1.Ok∧LastOk j last acc∧
 cntsD first nn none r0.s=(acc++(cntsD first k (lastC j last) r1.s).1,(cntsD first k (lastC j last) r1.s).2)∧
 At [RdP i r,BookP ⟨p,m,c,first,es,[]⟩] w [RdP i r1,headC p m c first,mapC m (ents es),ctrC c (ctrs acc)] wr
def Zlm (w:World) (i p m c:Nat) (first:Int) (es:List Ent) (r:Rdr) (e:Ending) (w':World):Prop:=∃r':Rdr,e=.returned (.tuple #[])∧r'.s=cntsS first r.s∧r'.Ok∧
 At [RdP i r,BookP ⟨p,m,c,first,es,[]⟩] w [RdP i r',BookP ⟨p,m,c,first,es,cntsV first r.s⟩] w'
set_option maxRecDepth 1000000 in
theorem Zg0 {w:World} {i p m c:Nat} {first:Int} {es:List Ent} {r:Rdr} (h:Sep [RdP i r,BookP ⟨p,m,c,first,es,[]⟩] w) (hr:r.Ok):
 Calls Tryz.prog 188 #[.pointer (some ⟨p,0,none⟩),.pointer (some ⟨i,0,none⟩)] w (Zlm w i p m c first es r):=by
 have hA:=At.start h;obtain⟨hA,hF⟩:=fZ hA;clear h
 go_enter Tryz.func188,Tryz.ntmps188
 go_wp2_with (first|((with_reducible refine gst ?_);refine wTz hA ?_;clear hF hA;intro w1 hA hF)|((with_reducible refine gbx ?_);refine wCz hA ?_;clear hF hA;intro b1 w1 hA hb1 hF))
 refine(ZdE (hA.sep1 (A:=RdP i r) sR) hr).mono ?_;rintro e w2 ⟨rfl,hT⟩;replace hA:=hA.call1 sR hT;clear hT hF
 try simp only[uA] at hA
 obtain⟨hA,hF⟩:=fZ hA
 have hll:r.s.left≤1000000000000:=by
  have h1:=hr.len;have h2:r.s.b.length=r.l.length - r.pos:=List.length_drop;unfold InS.left
  split<;>omega
 obtain⟨lf,hlf⟩:∃z,r.s.left=z:=⟨_,rfl⟩
 rw[hlf] at hll;have hlf':=Hd hlf
 have hwl:IntKind.u64.wrap (lf:Int)=(lf:Int):=by rw[IntKind.wrap_u64];omega
 rw[hlf];clear hlf
 go_wp2_with (first|((with_reducible refine gst ?_);refine wTz hA ?_;clear hF hA;intro w1 hA hF)|((with_reducible refine gbx ?_);refine wCz hA ?_;clear hF hA;intro b1 w1 hA hb1 hF))
 refine(Zbe (hA.sep1 (A:=RdP i r) sR) hr lf (by omega)).mono ?_;rintro e w3 ⟨r0,rfl,hz,hr0,hT⟩;have hsr0:=Hd hz;clear hz;replace hA:=hA.call1 sR hT;clear hT hF
 try simp only[uA] at hA
 obtain⟨hA,hF⟩:=fZ hA;have hnb:=Za6 r.s lf
 obtain⟨nn,hn⟩:∃z,r.s.shortV lf=z:=⟨_,rfl⟩
 rw[hn] at hnb;rw[hn]
 have eB:cntsV first r.s=(cntsD first nn none r0.s).1∧cntsS first r.s=(cntsD first nn none r0.s).2:=by
  unfold cntsV cntsS;rw[hlf'.out,hn,hsr0.out];exact⟨rfl,rfl⟩
 have eB':=Hd eB;clear eB hn hsr0 hlf';replace hA:=open0 hA (b:=⟨p,m,c,first,es,[]⟩) sR;clear hF
 try simp only[uA] at hA
 obtain⟨hA,hF⟩:=fZ hA
 go_wp2_with (first|((with_reducible refine gst ?_);refine wTz hA ?_;clear hF hA;intro w1 hA hF)|((with_reducible refine gbx ?_);refine wCz hA ?_;clear hF hA;intro b1 w1 hA hb1 hF))
 try go_frame
 go_loopg [4,13] nn (CnRel w i p m c first es r r0 nn)
 case atStart=>exact⟨r0,[],.empty,0,rfl,rfl,by omega,hr0,⟨by decide,fun _=>rfl,fun q=>absurd rfl q,nofun⟩,rfl,hA.pick pZ⟩
 case round=>
  obtain⟨r1,acc,last,j,rfl,rfl,hjk,hr1,hLO,hD,hB⟩:=hrel;have hD':=Hd hD;have hLO':=Hd hLO;clear hD hr0 hLO;clear hF hA;have hA:=hB;clear hB
  try simp only[uA] at hA
  obtain⟨hA,hF⟩:=fZ hA
  by_cases hj:j < nn
  · have hst:=Ze5 (n:=gk) (by omega) first (lastC j last) r1.s
    go_wp2_with (first|((with_reducible refine gst ?_);refine wTz hA ?_;clear hF hA;intro w1 hA hF)|((with_reducible refine gbx ?_);refine wCz hA ?_;clear hF hA;intro b1 w1 hA hb1 hF))
    refine(Zfs (hA.sep1 (A:=RdP i r1) sR) hr1).mono ?_;rintro e w2 ⟨r2,rfl,hz,hr2,hT⟩;have hsr2:=Hd hz;clear hz;replace hA:=hA.call1 sR hT;clear hT hF
    try simp only[uA] at hA
    obtain⟨hA,hF⟩:=fZ hA
    go_wp2_with (first|((with_reducible refine gst ?_);refine wTz hA ?_;clear hF hA;intro w1 hA hF)|((with_reducible refine gbx ?_);refine wCz hA ?_;clear hF hA;intro b1 w1 hA hb1 hF))
    refine(ZcY (hA.sep1 (A:=RdP i r2) sR) hr2).mono ?_;rintro e w3 ⟨r3,rfl,hz,hr3,hT⟩;have hsr3:=Hd hz;clear hz;replace hA:=hA.call1 sR hT;clear hT hF
    try simp only[uA] at hA
    obtain⟨hA,hF⟩:=fZ hA;have hpl:=Zbu (s:=r1.s) (k:=64) (by omega);have hnl:=Zdj (Zed hr2);have e2:r2.s=c1 r1.s:=hsr2.out
    have hs3:c2 r1.s=r3.s:=by rw[hsr3.out,e2];rfl
    have hv:cntV r1.s=(r1.s.textV 64,((r2.s.fixV:Nat):Int)):=by rw[e2];rfl
    rw[hv,hs3] at hst;simp only at hst;have hst':=Hd hst;clear hst hv e2 hs3 hsr2 hsr3 hr1 hr2
    generalize r1.s.textV 64=path at *
    generalize r2.s.fixV=n at *
    obtain⟨kl,hk⟩:=keyT (p:=path) (by unfold maxLen;omega)
    have hbd:badC first (lastC j last) (path,(n:Int))=(!Zad (bl path) || decide ((n:Int)=first) || (lastC j last).any (fun q=>decide (0≤cmpP (bl q) (bl path)))):=rfl
    generalize hbad:badC first (lastC j last) (path,(n:Int))=bad at *
    have hbad':=Hd hbad;have hbd':=Hd hbd;have hlz:=Hd hLO'.out.size;clear hbad hbd
    go_upto_region 5 with(first|((with_reducible refine gst ?_);refine wTz hA ?_;clear hF hA;intro w1 hA hF)|((with_reducible refine gbx ?_);refine wCz hA ?_;clear hF hA;intro b1 w1 hA hb1 hF))
    try go_frame
    go_cut [40] from 20 to 40 (CutB [RdP i r,BookP ⟨p,m,c,first,es,[]⟩] w [RdP i r3,headC p m c first,mapC m (ents es),ctrC c (ctrs acc)] bad)
    case first=>
     go_wp2_with (first|((with_reducible refine gst ?_);refine wTz hA ?_;clear hF hA;intro w1 hA hF)|((with_reducible refine gbx ?_);refine wCz hA ?_;clear hF hA;intro b1 w1 hA hb1 hF))
     refine(Path.right_any path _ (by omega)).mono ?_;rintro e wq ⟨rfl,hx⟩;replace hA:=hA.ext hx;clear hx hF
     try simp only[uA] at hA
     obtain⟨hA,hF⟩:=fZ hA;have hc0:=(hA.get (A:=headC p m c first) sZ:Zaa _ _ _ _).cell 0;cases hrm:Zad (bl path)
     · have hz:=Hd (show bad=true from by rw[hbd'.out,hrm];rfl)
       clear hrm
       go_wp2_with (first|((with_reducible refine gst ?_);refine wTz hA ?_;clear hF hA;intro w1 hA hF)|((with_reducible refine gbx ?_);refine wCz hA ?_;clear hF hA;intro b1 w1 hA hb1 hF))
       go_meet
       case rel=>exact⟨by rw[hz.out],hA.pick pZ⟩
     have hrm':=Hd hrm;clear hrm
     by_cases hn1:(n:Int)=first
     · have e1:((n:Int)==first)=true:=by simpa using hn1
       have hz:=Hd (show bad=true from by rw[hbd'.out,hrm'.out,decide_eq_true hn1];rfl);clear hn1
       go_wp2_with (first|((with_reducible refine gst ?_);refine wTz hA ?_;clear hF hA;intro w1 hA hF)|((with_reducible refine gbx ?_);refine wCz hA ?_;clear hF hA;intro b1 w1 hA hb1 hF))
       go_meet
       case rel=>exact⟨by rw[hz.out],hA.pick pZ⟩
     have e1:((n:Int)==first)=false:=by simpa using hn1
     have hn2:=Hd (decide_eq_false hn1);clear hn1
     by_cases hj1:j=0
     · have hjz:¬(0:Int) < (j:Int):=by omega
       have hz:=Hd (show bad=false from by rw[hbd'.out,hrm'.out,hn2.out];unfold lastC;rw[if_pos hj1];rfl);clear hj1
       go_wp2_with (first|((with_reducible refine gst ?_);refine wTz hA ?_;clear hF hA;intro w1 hA hF)|((with_reducible refine gbx ?_);refine wCz hA ?_;clear hF hA;intro b1 w1 hA hb1 hF))
       go_meet
       case rel=>exact⟨by rw[hz.out],hA.pick pZ⟩
     have hjz:(0:Int) < (j:Int):=by omega
     have hcm:=Path.ZbJ last path;have hz:=Hd (show bad=decide (0≤cmpP (bl last) (bl path)) from by rw[hbd'.out,hrm'.out,hn2.out];unfold lastC;rw[if_neg hj1];rfl)
     generalize cmpP (bl last) (bl path)=cp at *
     have hcm':=fun w=>hcm w (by have:=hlz.out;omega) (by omega)
     clear hcm
     go_wp2_with (first|((with_reducible refine gst ?_);refine wTz hA ?_;clear hF hA;intro w1 hA hF)|((with_reducible refine gbx ?_);refine wCz hA ?_;clear hF hA;intro b1 w1 hA hb1 hF))
     refine(hcm' _).mono ?_;rintro e wq ⟨rfl,hx⟩;replace hA:=hA.ext hx;clear hx hc0 hF
     try simp only[uA] at hA
     obtain⟨hA,hF⟩:=fZ hA
     by_cases hcp:0≤cp
     · have hz2:=Hd (hz.out.trans (decide_eq_true hcp))
       go_wp2_with (first|((with_reducible refine gst ?_);refine wTz hA ?_;clear hF hA;intro w1 hA hF)|((with_reducible refine gbx ?_);refine wCz hA ?_;clear hF hA;intro b1 w1 hA hb1 hF))
       go_meet
       case rel=>exact⟨by first|(rw[hz.out];done)|(rw[hz2.out];done),hA.pick pZ⟩
     have hz2:=Hd (hz.out.trans (decide_eq_false hcp))
     go_wp2_with (first|((with_reducible refine gst ?_);refine wTz hA ?_;clear hF hA;intro w1 hA hF)|((with_reducible refine gbx ?_);refine wCz hA ?_;clear hF hA;intro b1 w1 hA hb1 hF))
     go_meet
     case rel=>exact⟨by first|(rw[hz.out];done)|(rw[hz2.out];done),hA.pick pZ⟩
    case rest=>
     obtain⟨rfl,hB⟩:=hcut;clear hF hA;have hA:=hB;clear hB
     try simp only[uA] at hA
     obtain⟨hA,hF⟩:=fZ hA
     go_upto_if 40 with(first|((with_reducible refine gst ?_);refine wTz hA ?_;clear hF hA;intro w1 hA hF)|((with_reducible refine gbx ?_);refine wCz hA ?_;clear hF hA;intro b1 w1 hA hb1 hF))
     try go_frame
     go_cut [] from 41 to 42 (CutR [RdP i r,BookP ⟨p,m,c,first,es,[]⟩] w i [headC p m c first,mapC m (ents es),ctrC c (ctrs acc)] (if bad then r3.s.fail 10 else r3.s))
     case first=>
      cases bad
      · go_wp2_with (first|((with_reducible refine gst ?_);refine wTz hA ?_;clear hF hA;intro w1 hA hF)|((with_reducible refine gbx ?_);refine wCz hA ?_;clear hF hA;intro b1 w1 hA hb1 hF))
        go_meet
        case rel=>exact⟨r3,rfl,hr3,hA.pick pZ⟩
      go_wp2_with (first|((with_reducible refine gst ?_);refine wTz hA ?_;clear hF hA;intro w1 hA hF)|((with_reducible refine gbx ?_);refine wCz hA ?_;clear hF hA;intro b1 w1 hA hb1 hF))
      refine(Zck (hA.sep1 (A:=RdP i r3) sR) hr3 10).mono ?_;rintro e w4 ⟨r4,rfl,hz,hr4,hT⟩;have hsr4:=Hd hz;clear hz;replace hA:=hA.call1 sR hT;clear hT hF
      try simp only[uA] at hA
      obtain⟨hA,hF⟩:=fZ hA
      go_wp2_with (first|((with_reducible refine gst ?_);refine wTz hA ?_;clear hF hA;intro w1 hA hF)|((with_reducible refine gbx ?_);refine wCz hA ?_;clear hF hA;intro b1 w1 hA hb1 hF))
      go_meet
      case rel=>exact⟨r4,hsr4.out,hr4,hA.pick pZ⟩
     case rest=>
      obtain⟨r4,hz,hr4,hB⟩:=hcut;have hs4:=Hd hz;clear hz hr3;clear hF hA;have hA:=hB;clear hB
      try simp only[uA] at hA
      obtain⟨hA,hF⟩:=fZ hA
      go_wp2_with (first|((with_reducible refine gst ?_);refine wTz hA ?_;clear hF hA;intro w1 hA hF)|((with_reducible refine gbx ?_);refine wCz hA ?_;clear hF hA;intro b1 w1 hA hb1 hF))
      refine(ZaF (hA.sep1 (A:=RdP i r4) sR)).mono ?_;rintro e w7 ⟨rfl,hT⟩;replace hA:=hA.call1 sR hT;clear hT hF
      try simp only[uA] at hA
      obtain⟨hA,hF⟩:=fZ hA
      by_cases he:r4.s.e=0
      · have he2:=Hd he
        have hne:(r4.s.e != 0)=false:=by simpa using he
        clear he
        have hb0:bad=false:=by
         cases hbb:bad
         · rfl
         exfalso
         have h1:=hs4.out;rw[hbb] at h1;have h2:=he2.out;rw[h1] at h2;exact Zbj (by decide) h2
        have hnx:=hLO'.out.next (hbad'.out.trans hb0) (by omega);have hnx':=Hd hnx;have hputs:=Hd (ZcO (n:=(n:Int)) hnx.2);have hst2:=Hd (show cntsD first gk (lastC j last) r1.s=((path,(n:Int))::(cntsD first (gk - 1) (some path) r4.s).1,(cntsD first (gk - 1) (some path) r4.s).2) from by rw[hst'.out,←hs4.out,if_neg (fun q=>q he2.out)]);clear hnx hb0
        have hwj:IntKind.u64.wrap ((j:Int) + 1)=(j:Int) + 1:=by rw[IntKind.wrap_u64];omega
        go_wp2_with (first|((with_reducible refine gst ?_);refine wTz hA ?_;clear hF hA;intro w1 hA hF)|((with_reducible refine gbx ?_);refine wCz hA ?_;clear hF hA;intro b1 w1 hA hb1 hF)|(refine Zcs rfl rfl rfl (by(try simp only[Act.eval,eV])<;>exact rfl) (by exact rfl) hA (k:=9) (cs:=acc) sR lawT Tryz.underlying204 hk ?_;intro w1 hB;rw[hputs.out] at hB;clear hF hA;have hA:=hB;clear hB;obtain⟨hA,hF⟩:=fZ hA))
        go_roundg (gk - 1)
        case rel=>
         refine⟨r4,acc++[(path,(n:Int))],path,j + 1,rfl,rfl,by omega,hr4,hnx'.out.1,?_,hA.pick pZ⟩;rw[hD'.out,hst2.out,show lastC (j + 1) path=some path from if_neg (by omega)]
         simp
        case measure=>omega
      have he2:=Hd he
      have hne:(r4.s.e != 0)=true:=by simpa using he
      have hst2:=Hd (show cntsD first gk (lastC j last) r1.s=([],r4.s) from by rw[hst'.out,←hs4.out,if_pos he]);clear he
      go_wp2_with (first|((with_reducible refine gst ?_);refine wTz hA ?_;clear hF hA;intro w1 hA hF)|((with_reducible refine gbx ?_);refine wCz hA ?_;clear hF hA;intro b1 w1 hA hb1 hF))
      refine bodyPost_ret (v:=.tuple #[]) (by simp[results,Tryz.results188,go_sem]) rfl ?_
      have e1:cntsD first nn none r0.s=(acc,r4.s):=by rw[hD'.out,hst2.out,List.append_nil]
      exact⟨r4,rfl,by rw[eB'.out.2,e1],hr4,by rw[eB'.out.1,e1];exact(fold0 ⟨p,m,c,first,es,acc⟩ hA sZ sZ sZ).pick pZ⟩
  go_wp2_with (first|((with_reducible refine gst ?_);refine wTz hA ?_;clear hF hA;intro w1 hA hF)|((with_reducible refine gbx ?_);refine wCz hA ?_;clear hF hA;intro b1 w1 hA hb1 hF))
  have hk0:gk=0:=by omega
  have e1:cntsD first nn none r0.s=(acc,r1.s):=by rw[hD'.out,hk0];simp[cntsD]
  refine bodyPost_ret (v:=.tuple #[]) (by simp[results,Tryz.results188,go_sem]) rfl ?_;exact⟨r1,rfl,by rw[eB'.out.2,e1],hr1,by rw[eB'.out.1,e1];exact(fold0 ⟨p,m,c,first,es,acc⟩ hA sZ sZ sZ).pick pZ⟩
end Lock
end
end Go.Proofs.YtkdjkngfnapjcaaGreatDoor
