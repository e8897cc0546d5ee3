/- WireB, EncB, WinA, joined. -/
import Derived.Test.YtkdjkngfnapjcaaGreatDoorQ2
import Derived.Test.YtkdjkngfnapjcaaGreatDoorQ3
import Derived.Lib.AppendStr
set_option linter.unusedSimpArgs false
set_option linter.unusedVariables false
set_option maxRecDepth 100000
set_option maxHeartbeats 16000000
namespace Go.Proofs.YtkdjkngfnapjcaaGreatDoor
section
namespace Wire
open Go.RowKit
abbrev outC (b:Nat) (u:Value):Part:=.cells b [u] 64
def Zay (w:World) (b:Nat) (u:Value) (l m:List Int) (e:Ending) (w':World):Prop:=∃u',e=.returned (.pointer (some ⟨b,0,none⟩))∧At [outC b u,rowY u l] w [outC b u',rowY u' (l++m)] w'
theorem oneY (y:Int) (w:World):(Instr.buildSlice 62 1 #[(0,.int .u8 y)]).run Tryz.prog w=.ok (.slice (some ⟨w.heap.size,0,none⟩) 1 1) (w.alloc (.cells (encY y).toArray 5)):=by kernel_rfl
theorem ZhE {w:World} {b:Nat} {u:Value} {l:List Int} (h:Sep [outC b u,rowY u l] w) (y:Int) (hl:l.length≤100000000000000):
 Calls Tryz.prog 183 #[.pointer (some ⟨b,0,none⟩),.int .u8 y] w (Zay w b u l [y]):=by
 obtain⟨i0,hi0,hz0,hz1,hz2⟩:=info_parts infoY;have hA:=At.start h;have hF:=hA.facts;clear h;obtain⟨ax,cap,rfl,hax,hcap,_⟩:=hA.row_form (v:=u) (n:=l.length) (xs:=flatY l) sR;have hone:=oneY y;obtain⟨hA,hF⟩:=fZ hA
 go_enter Tryz.func183,Tryz.ntmps183
 go_wp2_with (first
  |((with_reducible show wpList _ _ _ ({dst:=_,op:=Op.buildSlice _ _ _,type:=_,pos:=_,after:=_,guard:=_}::_) _ _);refine Zbr (e:=5) (vs:=encY y) rfl rfl (by(try simp only[Act.eval,eV])<;>exact rfl) hone hA ?_;intro b2 w5 hB hb2;clear hF hA;have hA:=hB;clear hB;obtain⟨hA,hF⟩:=fZ hA)
  |((with_reducible show wpList _ _ _ ({dst:=_,op:=Op.call {callee:=Callee.builtin Builtin.append,args:=_,argTypes:=_},type:=_,pos:=_,after:=_,guard:=_}::_) _ _);refine Za1 (e:=5) (size:=1) (v:=.slice ax l.length cap) (xs:=flatY l) (n:=l.length) (m:=1) (news:=encY y) rfl _ _ 62 rfl Tryz.underlying62 hi0 hz0 hz1 hz2 rfl (by omega) hA sR (by(try simp only[Act.eval,eV])<;>exact rfl) (by(try simp only[Act.eval,eV])<;>exact rfl) rfl (hA.cells_reads sR _ _) (Zb2 _) (by unfold maxLen;omega) (by omega) ?_;intro v2 w7 hB;rw[Zee] at hB;obtain⟨cx,cn,ccap,hcv,hcn⟩:=hB.row_hid (v:=v2) (n:=(l++[y]).length) (xs:=flatY (l++[y])) sR;subst hcv;clear hF hA;have hA:=hB;clear hB;obtain⟨hA,hF⟩:=fZ hA)
  |((with_reducible refine gst ?_);refine wTz hA ?_;clear hF hA;intro w1 hA hF)|((with_reducible refine gbx ?_);refine wCz hA ?_;clear hF hA;intro b1 w1 hA hb1 hF))
 go_ret;exact⟨.slice cx cn ccap,rfl,hA.only2 (A:=outC b (.slice cx cn ccap)) (B:=rowY (.slice cx cn ccap) (l++[y])) sR sR⟩
theorem ZfG {w:World} {b:Nat} {u:Value} {l:List Int} (h:Sep [outC b u,rowY u l] w) (t:Bool) (hl:l.length≤100000000000000):
 Calls Tryz.prog 181 #[.pointer (some ⟨b,0,none⟩),.bool t] w (Zay w b u l [if t then 1 else 0]):=by
 cases t
 · go_enter Tryz.func181,Tryz.ntmps181
   go_wp2_with fail
   refine(ZhE h 0 hl).mono ?_;rintro e w' ⟨u',rfl,hT⟩
   go_wp2_with fail
   go_ret;exact⟨u',rfl,hT⟩
 go_enter Tryz.func181,Tryz.ntmps181
 go_wp2_with fail
 refine(ZhE h 1 hl).mono ?_;rintro e w' ⟨u',rfl,hT⟩
 go_wp2_with fail
 go_ret;exact⟨u',rfl,hT⟩
theorem Zbg {w:World} {b:Nat} {u:Value} {l:List Int} (h:Sep [outC b u,rowY u l] w) (v:Nat) (hv:v < 18446744073709551616) (hl:l.length≤100000000000000):
 Calls Tryz.prog 142 #[.pointer (some ⟨b,0,none⟩),.int .u64 v] w (Zay w b u l (Zaf v)):=by
 obtain⟨i0,hi0,hz0,hz1,hz2⟩:=info_parts infoY;have hA:=At.start h;have hF:=hA.facts;clear h;have hnl:(Zaf v).length≤10:=Zal 9 v (by omega);obtain⟨ax,cap,rfl,hax,hcap,_⟩:=hA.row_form (v:=u) (n:=l.length) (xs:=flatY l) sR;obtain⟨hA,hF⟩:=fZ hA
 go_enter Tryz.func142,Tryz.ntmps142
 go_wp2_with fail
 have hm:Tryz.prog.follows .mixedOrders=true:=by kernel_rfl
 have hA:=hA.drew;refine wp_region_held (S:=fun _=>True) hm ?_;change wpAnyH _ _ _ _ _ 11 _ _ w.drew
 generalize w.drew=w2 at *
 refine tZ 0 5 ((.pointer (some ⟨b,0,none⟩))) (r:=(fun w' hS=>by simp[execOp,go_sem,Act.eval,Act.put])) (s:=trivial) (h:= ?_);go_frame;refine tZ 1 6 ((.pointer (some ⟨b,0,none⟩))) (r:=(fun w' hS=>by simp[execOp,go_sem,Act.eval,Act.put])) (s:=trivial) (h:= ?_);go_frame;refine tZ 2 7 ((.pointer (some ⟨b,0,none⟩))) (r:=(fun w' hS=>by simp[execOp,go_sem,Act.eval,Act.put])) (s:=trivial) (h:= ?_);go_frame;refine tZ 3 8 ((.pointer (some ⟨b,0,none⟩))) (r:=(fun w' hS=>by kernel_rfl)) (s:=trivial) (h:= ?_);go_frame;refine tZ 5 10 ((.int .u64 v)) (r:=(fun w' hS=>by simp[execOp,go_sem,Act.eval,Act.put])) (s:=trivial) (h:= ?_);go_frame;refine ZbM (i:=4) (j:=6) (by kernel_rfl) ?_ ?_
 · skip
   refine Zcl (i:=4) (v:=.slice ax l.length cap) rfl rfl (Zab (b:=b) (j:=0) rfl (by exact rfl) (hA.get (A:=outC b (.slice ax l.length cap)) sR) (by kernel_rfl) rfl) ?_;refine⟨trivial,?_⟩;change wpAnyH _ _ _ _ _ _ _ (Act.put _ (some 9) _) _;go_frame;refine Zac (i:=6) (by kernel_rfl) ?_;refine Zan (i:=6) (d:=some 11) rfl rfl rfl (fn:=202) (args:= #[.int .u64 v]) (by simp[execOp,go_sem,Act.eval,Act.put]) (Zgr v w2 hv) ?_;intro uu z1 hT;have hB:=hA.call0 hT;simp only[uA] at hB;obtain⟨nx,nn,ncap,hnv,hnn⟩:=hB.row_hid (v:=uu) (n:=(Zaf v).length) (xs:=flatY (Zaf v)) sR;subst hnv;have hnn2:=hnn.out;subst hnn2;refine⟨trivial,?_⟩;go_frame;refine Zac (i:=7) (by kernel_rfl) ?_;refine ZbZ (k:=7) (d:=some 12) (e:=5) (size:=1) (v:=.slice ax l.length cap) (xs:=flatY l) (n:=l.length) (m:=(Zaf v).length) (news:=flatY (Zaf v)) rfl rfl rfl rfl (.tmp 9) (.tmp 11) 62 rfl Tryz.underlying62 hi0 hz0 hz1 hz2 rfl (by omega) hB sR (by(try simp only[Act.eval,eV])<;>exact rfl) (by(try simp only[Act.eval,eV])<;>exact rfl) (Zbi _ _ ZdI _) (hB.row_reads (v:=.slice nx (Zaf v).length ncap) (n:=(Zaf v).length) (xs:=flatY (Zaf v)) sR) (ZdG Zb2 _) (by unfold maxLen;omega) (by omega) ?_;intro v2 z2 hC;rw[ZcM] at hC;obtain⟨cx,cn,ccap,hcv,hcn⟩:=hC.row_hid (v:=v2) (n:=(l++Zaf v).length) (xs:=flatY (l++Zaf v)) sR;subst hcv;have hcn2:=hcn.out;clear hcn;refine⟨trivial,?_⟩;go_frame;refine tZ 8 13 ((.pointer (some ⟨b,0,none⟩))) (r:=(fun w' hS=>by simp[execOp,go_sem,Act.eval,Act.put])) (s:=trivial) (h:= ?_);go_frame;refine tZ 9 14 ((.pointer (some ⟨b,0,none⟩))) (r:=(fun w' hS=>by kernel_rfl)) (s:=trivial) (h:= ?_);go_frame;refine Zac (i:=10) (by kernel_rfl) ?_;refine ZbS (i:=10) (x:=.tmp 14) (y:=.tmp 12) (ty:=62) (b:=b) (j:=0) (v:=.slice cx cn ccap) (vs:=[.slice cx cn ccap]) rfl rfl rfl rfl (by(try simp only[Act.eval,eV])<;>exact rfl) (by(try simp only[Act.eval,eV])<;>exact rfl) rfl hC (c:=[.slice ax l.length cap]) sR (by kernel_rfl) rfl (by simp) ?_;intro z3 hD;simp only[setL,List.set_cons_zero] at hD;refine⟨trivial,?_⟩;refine wpAnyH_done (by kernel_rfl) ?_ _
   try go_frame
   go_wp2_with fail
   go_ret;exact⟨.slice cx cn ccap,rfl,hD.only2 (A:=outC b (.slice cx cn ccap)) (B:=rowY (.slice cx cn ccap) (l++Zaf v)) sR sR⟩
 skip;refine Zan (i:=6) (d:=some 11) rfl rfl rfl (fn:=202) (args:= #[.int .u64 v]) (by simp[execOp,go_sem,Act.eval,Act.put]) (Zgr v w2 hv) ?_;intro uu z1 hT;have hB:=hA.call0 hT;simp only[uA] at hB;obtain⟨nx,nn,ncap,hnv,hnn⟩:=hB.row_hid (v:=uu) (n:=(Zaf v).length) (xs:=flatY (Zaf v)) sR;subst hnv;have hnn2:=hnn.out;subst hnn2;refine⟨trivial,?_⟩;go_frame;refine Zac (i:=4) (by kernel_rfl) ?_;refine Zcl (i:=4) (v:=.slice ax l.length cap) rfl rfl (Zab (b:=b) (j:=0) rfl (by exact rfl) (hB.get (A:=outC b (.slice ax l.length cap)) sR) (by kernel_rfl) rfl) ?_;refine⟨trivial,?_⟩;change wpAnyH _ _ _ _ _ _ _ (Act.put _ (some 9) _) _;go_frame;refine Zac (i:=7) (by kernel_rfl) ?_;refine ZbZ (k:=7) (d:=some 12) (e:=5) (size:=1) (v:=.slice ax l.length cap) (xs:=flatY l) (n:=l.length) (m:=(Zaf v).length) (news:=flatY (Zaf v)) rfl rfl rfl rfl (.tmp 9) (.tmp 11) 62 rfl Tryz.underlying62 hi0 hz0 hz1 hz2 rfl (by omega) hB sR (by(try simp only[Act.eval,eV])<;>exact rfl) (by(try simp only[Act.eval,eV])<;>exact rfl) (Zbi _ _ ZdI _) (hB.row_reads (v:=.slice nx (Zaf v).length ncap) (n:=(Zaf v).length) (xs:=flatY (Zaf v)) sR) (ZdG Zb2 _) (by unfold maxLen;omega) (by omega) ?_;intro v2 z2 hC;rw[ZcM] at hC;obtain⟨cx,cn,ccap,hcv,hcn⟩:=hC.row_hid (v:=v2) (n:=(l++Zaf v).length) (xs:=flatY (l++Zaf v)) sR;subst hcv;have hcn2:=hcn.out;clear hcn;refine⟨trivial,?_⟩;go_frame;refine tZ 8 13 ((.pointer (some ⟨b,0,none⟩))) (r:=(fun w' hS=>by simp[execOp,go_sem,Act.eval,Act.put])) (s:=trivial) (h:= ?_);go_frame;refine tZ 9 14 ((.pointer (some ⟨b,0,none⟩))) (r:=(fun w' hS=>by kernel_rfl)) (s:=trivial) (h:= ?_);go_frame;refine Zac (i:=10) (by kernel_rfl) ?_;refine ZbS (i:=10) (x:=.tmp 14) (y:=.tmp 12) (ty:=62) (b:=b) (j:=0) (v:=.slice cx cn ccap) (vs:=[.slice cx cn ccap]) rfl rfl rfl rfl (by(try simp only[Act.eval,eV])<;>exact rfl) (by(try simp only[Act.eval,eV])<;>exact rfl) rfl hC (c:=[.slice ax l.length cap]) sR (by kernel_rfl) rfl (by simp) ?_;intro z3 hD;simp only[setL,List.set_cons_zero] at hD;refine⟨trivial,?_⟩;refine wpAnyH_done (by kernel_rfl) ?_ _
 try go_frame
 go_wp2_with fail
 go_ret;exact⟨.slice cx cn ccap,rfl,hD.only2 (A:=outC b (.slice cx cn ccap)) (B:=rowY (.slice cx cn ccap) (l++Zaf v)) sR sR⟩
theorem ZcS {w:World} {b:Nat} {u:Value} {l:List Int} (h:Sep [outC b u,rowY u l] w) (v:Nat) (hv:v < 18446744073709551616) (hl:l.length≤100000000000000):
 Calls Tryz.prog 81 #[.pointer (some ⟨b,0,none⟩),.int .u64 v] w (Zay w b u l (fixL v)):=by
 obtain⟨i0,hi0,hz0,hz1,hz2⟩:=info_parts infoY;have hA:=At.start h;have hF:=hA.facts;clear h
 have hnl:(fixL v).length≤10:=by simp[fixL]
 obtain⟨ax,cap,rfl,hax,hcap,_⟩:=hA.row_form (v:=u) (n:=l.length) (xs:=flatY l) sR;obtain⟨hA,hF⟩:=fZ hA
 go_enter Tryz.func81,Tryz.ntmps81
 go_wp2_with fail
 have hm:Tryz.prog.follows .mixedOrders=true:=by kernel_rfl
 have hA:=hA.drew;refine wp_region_held (S:=fun _=>True) hm ?_;change wpAnyH _ _ _ _ _ 11 _ _ w.drew
 generalize w.drew=w2 at *
 refine tZ 0 5 ((.pointer (some ⟨b,0,none⟩))) (r:=(fun w' hS=>by simp[execOp,go_sem,Act.eval,Act.put])) (s:=trivial) (h:= ?_);go_frame;refine tZ 1 6 ((.pointer (some ⟨b,0,none⟩))) (r:=(fun w' hS=>by simp[execOp,go_sem,Act.eval,Act.put])) (s:=trivial) (h:= ?_);go_frame;refine tZ 2 7 ((.pointer (some ⟨b,0,none⟩))) (r:=(fun w' hS=>by simp[execOp,go_sem,Act.eval,Act.put])) (s:=trivial) (h:= ?_);go_frame;refine tZ 3 8 ((.pointer (some ⟨b,0,none⟩))) (r:=(fun w' hS=>by kernel_rfl)) (s:=trivial) (h:= ?_);go_frame;refine tZ 5 10 ((.int .u64 v)) (r:=(fun w' hS=>by simp[execOp,go_sem,Act.eval,Act.put])) (s:=trivial) (h:= ?_);go_frame;refine ZbM (i:=4) (j:=6) (by kernel_rfl) ?_ ?_
 · skip
   refine Zcl (i:=4) (v:=.slice ax l.length cap) rfl rfl (Zab (b:=b) (j:=0) rfl (by exact rfl) (hA.get (A:=outC b (.slice ax l.length cap)) sR) (by kernel_rfl) rfl) ?_;refine⟨trivial,?_⟩;change wpAnyH _ _ _ _ _ _ _ (Act.put _ (some 9) _) _;go_frame;refine Zac (i:=6) (by kernel_rfl) ?_;refine Zan (i:=6) (d:=some 11) rfl rfl rfl (fn:=143) (args:= #[.int .u64 v,.int .i64 8]) (by simp[execOp,go_sem,Act.eval,Act.put]) (Ze8 v w2 hv) ?_;intro uu z1 hT;have hB:=hA.call0 hT;simp only[uA] at hB;obtain⟨nx,nn,ncap,hnv,hnn⟩:=hB.row_hid (v:=uu) (n:=(fixL v).length) (xs:=flatY (fixL v)) sR;subst hnv;have hnn2:=hnn.out;subst hnn2;refine⟨trivial,?_⟩;go_frame;refine Zac (i:=7) (by kernel_rfl) ?_;refine ZbZ (k:=7) (d:=some 12) (e:=5) (size:=1) (v:=.slice ax l.length cap) (xs:=flatY l) (n:=l.length) (m:=(fixL v).length) (news:=flatY (fixL v)) rfl rfl rfl rfl (.tmp 9) (.tmp 11) 62 rfl Tryz.underlying62 hi0 hz0 hz1 hz2 rfl (by omega) hB sR (by(try simp only[Act.eval,eV])<;>exact rfl) (by(try simp only[Act.eval,eV])<;>exact rfl) (Zbi _ _ ZdI _) (hB.row_reads (v:=.slice nx (fixL v).length ncap) (n:=(fixL v).length) (xs:=flatY (fixL v)) sR) (ZdG Zb2 _) (by unfold maxLen;omega) (by omega) ?_;intro v2 z2 hC;rw[ZcM] at hC;obtain⟨cx,cn,ccap,hcv,hcn⟩:=hC.row_hid (v:=v2) (n:=(l++fixL v).length) (xs:=flatY (l++fixL v)) sR;subst hcv;have hcn2:=hcn.out;clear hcn;refine⟨trivial,?_⟩;go_frame;refine tZ 8 13 ((.pointer (some ⟨b,0,none⟩))) (r:=(fun w' hS=>by simp[execOp,go_sem,Act.eval,Act.put])) (s:=trivial) (h:= ?_);go_frame;refine tZ 9 14 ((.pointer (some ⟨b,0,none⟩))) (r:=(fun w' hS=>by kernel_rfl)) (s:=trivial) (h:= ?_);go_frame;refine Zac (i:=10) (by kernel_rfl) ?_;refine ZbS (i:=10) (x:=.tmp 14) (y:=.tmp 12) (ty:=62) (b:=b) (j:=0) (v:=.slice cx cn ccap) (vs:=[.slice cx cn ccap]) rfl rfl rfl rfl (by(try simp only[Act.eval,eV])<;>exact rfl) (by(try simp only[Act.eval,eV])<;>exact rfl) rfl hC (c:=[.slice ax l.length cap]) sR (by kernel_rfl) rfl (by simp) ?_;intro z3 hD;simp only[setL,List.set_cons_zero] at hD;refine⟨trivial,?_⟩;refine wpAnyH_done (by kernel_rfl) ?_ _
   try go_frame
   go_wp2_with fail
   go_ret;exact⟨.slice cx cn ccap,rfl,hD.only2 (A:=outC b (.slice cx cn ccap)) (B:=rowY (.slice cx cn ccap) (l++fixL v)) sR sR⟩
 skip;refine Zan (i:=6) (d:=some 11) rfl rfl rfl (fn:=143) (args:= #[.int .u64 v,.int .i64 8]) (by simp[execOp,go_sem,Act.eval,Act.put]) (Ze8 v w2 hv) ?_;intro uu z1 hT;have hB:=hA.call0 hT;simp only[uA] at hB;obtain⟨nx,nn,ncap,hnv,hnn⟩:=hB.row_hid (v:=uu) (n:=(fixL v).length) (xs:=flatY (fixL v)) sR;subst hnv;have hnn2:=hnn.out;subst hnn2;refine⟨trivial,?_⟩;go_frame;refine Zac (i:=4) (by kernel_rfl) ?_;refine Zcl (i:=4) (v:=.slice ax l.length cap) rfl rfl (Zab (b:=b) (j:=0) rfl (by exact rfl) (hB.get (A:=outC b (.slice ax l.length cap)) sR) (by kernel_rfl) rfl) ?_;refine⟨trivial,?_⟩;change wpAnyH _ _ _ _ _ _ _ (Act.put _ (some 9) _) _;go_frame;refine Zac (i:=7) (by kernel_rfl) ?_;refine ZbZ (k:=7) (d:=some 12) (e:=5) (size:=1) (v:=.slice ax l.length cap) (xs:=flatY l) (n:=l.length) (m:=(fixL v).length) (news:=flatY (fixL v)) rfl rfl rfl rfl (.tmp 9) (.tmp 11) 62 rfl Tryz.underlying62 hi0 hz0 hz1 hz2 rfl (by omega) hB sR (by(try simp only[Act.eval,eV])<;>exact rfl) (by(try simp only[Act.eval,eV])<;>exact rfl) (Zbi _ _ ZdI _) (hB.row_reads (v:=.slice nx (fixL v).length ncap) (n:=(fixL v).length) (xs:=flatY (fixL v)) sR) (ZdG Zb2 _) (by unfold maxLen;omega) (by omega) ?_;intro v2 z2 hC;rw[ZcM] at hC;obtain⟨cx,cn,ccap,hcv,hcn⟩:=hC.row_hid (v:=v2) (n:=(l++fixL v).length) (xs:=flatY (l++fixL v)) sR;subst hcv;have hcn2:=hcn.out;clear hcn;refine⟨trivial,?_⟩;go_frame;refine tZ 8 13 ((.pointer (some ⟨b,0,none⟩))) (r:=(fun w' hS=>by simp[execOp,go_sem,Act.eval,Act.put])) (s:=trivial) (h:= ?_);go_frame;refine tZ 9 14 ((.pointer (some ⟨b,0,none⟩))) (r:=(fun w' hS=>by kernel_rfl)) (s:=trivial) (h:= ?_);go_frame;refine Zac (i:=10) (by kernel_rfl) ?_;refine ZbS (i:=10) (x:=.tmp 14) (y:=.tmp 12) (ty:=62) (b:=b) (j:=0) (v:=.slice cx cn ccap) (vs:=[.slice cx cn ccap]) rfl rfl rfl rfl (by(try simp only[Act.eval,eV])<;>exact rfl) (by(try simp only[Act.eval,eV])<;>exact rfl) rfl hC (c:=[.slice ax l.length cap]) sR (by kernel_rfl) rfl (by simp) ?_;intro z3 hD;simp only[setL,List.set_cons_zero] at hD;refine⟨trivial,?_⟩;refine wpAnyH_done (by kernel_rfl) ?_ _
 try go_frame
 go_wp2_with fail
 go_ret;exact⟨.slice cx cn ccap,rfl,hD.only2 (A:=outC b (.slice cx cn ccap)) (B:=rowY (.slice cx cn ccap) (l++fixL v)) sR sR⟩
def textL (s:ByteArray):List Int:=s.data.toList.map (fun x=>(x.toNat:Int))
theorem ZcL (s:ByteArray):(textL s).length=s.size:=by unfold textL;rw[List.length_map];exact Array.length_toList
theorem Zlw (s:ByteArray):Lib.strCells s=flatY (textL s):=by
 unfold Lib.strCells textL;generalize s.data.toList=r;show _=(r.map _).flatMap encY
 induction r with
 |nil=>rfl
 |cons c r ih=>rw[List.map_cons,List.map_cons,List.flatMap_cons,←ih];rfl
theorem Zh2 (w:World) {t u ty e:TypeId} {i:TypeInfo} {P:Program} (ht:P.underlying t=some (.slice e)) (hu:P.underlying u=some .string) (hi:P.info? e=some i) (hz:i.zero=some (.int .u8 0)) (hsize:i.size=1) (hby:i.bytes=1)
 (v:Value) (n:Nat) (xs:List Value) (hown:w.ownsRow 0 e 1 v n xs) (s:ByteArray) (h63:n + s.size≤130000000000000):
 ∃v' w',(Builtin.append_ #[t,u] ty #[v,.string s]).run P w=.ok v' w'∧w'.ownsRow 0 e 1 v' (n + s.size) (xs++Lib.strCells s)∧w.grownBy w' v.ownBlock∧(v'.ownBlock=v.ownBlock∨v'.ownBlock=some w.heap.size):=by
 obtain⟨v',w',h1,h2,h3,h4⟩:=Lib.run_append_own_string (P:=P) w 0 t u ty e i ht hu hi hz hsize hby v n xs hown s (by unfold maxLen;omega) (by omega) (Nat.zero_le _);refine⟨v',w',h1,h2,h3,?_⟩
 have hxl:xs.length=n:=by simpa using hown.1
 rcases hown.2 with⟨rfl,rfl⟩|⟨g,cap,cur,rfl,hbg,hg,hnc,hcm,hcs,htake⟩
 · by_cases hm:s.size=0
   · have:=h4.2 ⟨rfl,hm⟩
     subst this;exact .inl rfl
   have hr:=run_append_nil_string (P:=P) w t u ty e i (.int .u8 0) ht hu hi hz s (by omega) (by omega) (by rw[hby];omega);rw[h1] at hr;cases hr;exact .inr rfl
 by_cases hroom:n + s.size≤cap
 · have hr:=Lib.run_append_room_string (P:=P) w t u ty e i ht hu hi hsize g n cap cur hg s hroom (by omega)
   rw[h1] at hr;cases hr;exact .inl rfl
 have holds:∀j u,xs[j]? =some u→w.cell? ((⟨g,0,none⟩:Addr).add j)=some u:=hown.cells (g:=g) rfl
 have hr:=Lib.run_append_grow_string (P:=P) w t u ty e i (.int .u8 0) ht hu hi hz ⟨g,0,none⟩ n cap xs (by rw[hsize];simpa using hxl) holds s (by omega) (by omega) (by rw[hby];exact growslice_fits (by omega) (by omega));rw[h1] at hr;cases hr;exact .inr rfl
theorem Zb8 {P:Program} {ops:Array Oper} {rest:List Oper} {o:Oper} {a:Act} {Q:Exit→Act→World→Prop} {L0 L F:List Part} {w0 w:World} {e:TypeId} {n:Nat} {v:Value} {xs:List Value} {i:TypeInfo} (hg:o.guard=none) (s' x:Operand) (t u:TypeId) (ho:o.op=.call {callee:=.builtin .append,args:= #[s',x],argTypes:= #[t,u]})
 (ht:P.underlying t=some (.slice e)) (hu:P.underlying u=some .string) (hi:P.info? e=some i) (hz:i.zero=some (.int .u8 0)) (hsize:i.size=1) (hby:i.bytes=1)
 (h:At L0 w0 L w) (s:Sel (Part.row e 1 v n xs) L F) (hs:a.eval s'=v) {tx:ByteArray} (hx:a.eval x=.string tx) (h63:n + tx.size≤130000000000000)
 (hK:∀v' w',At L0 w0 (Part.row e 1 v' (n + tx.size) (xs++Lib.strCells tx)::F) w'→wpList P ops Q rest (a.put o.dst v') w'):wpList P ops Q (o::rest) a w:=by
 obtain⟨v',w',h1,h2,h3,h4⟩:=Zh2 (P:=P) (ty:=o.type) w ht hu hi hz hsize hby v n xs (h.get s) tx h63
 refine Zak hg ?_ (hK v' w' (h.turn s _ h2 (fun b hb=>by
  rcases h4 with h4|h4
  · exact .inl (show v.ownBlock=some b from by rw[←h4];exact hb)
  right
  have hb':v'.ownBlock=some b:=hb;rw[h4] at hb';cases hb'
  exact Nat.le_refl _) (Zbk h3)))
 simp[execOp,ho,resolve,invoke,builtin,hs,hx,h1,Result.andThen]
def textB (s:ByteArray):List Int:=Zaf s.size++textL s
theorem ZfH {w:World} {b:Nat} {u:Value} {l:List Int} (h:Sep [outC b u,rowY u l] w) (s:ByteArray) (hsz:s.size≤20000000000000) (hl:l.length≤100000000000000):
 Calls Tryz.prog 80 #[.pointer (some ⟨b,0,none⟩),.string s] w (Zay w b u l (textB s)):=by
 obtain⟨i0,hi0,hz0,hz1,hz2⟩:=info_parts infoY;have hA:=At.start h;have hF:=hA.facts
 have hw:IntKind.u64.wrap (s.size:Int)=(s.size:Int):=by rw[IntKind.wrap_u64];omega
 have hnl:(Zaf s.size).length≤10:=Zal 9 s.size (by omega);obtain⟨hA,hF⟩:=fZ hA
 go_enter Tryz.func80,Tryz.ntmps80
 go_wp2_with fail
 refine(Zbg h s.size (by omega) hl).mono ?_;clear h hF hA;rintro e w' ⟨u',rfl,hA⟩
 have hll:(l++Zaf s.size).length≤100000000000010:=by rw[List.length_append];omega
 obtain⟨l2,hl2⟩:∃z,l++Zaf s.size=z:=⟨_,rfl⟩
 rw[hl2] at hA hll;obtain⟨ax,an,cap,hav,han⟩:=hA.row_hid (v:=u') (n:=l2.length) (xs:=flatY l2) sR;subst hav;have han2:=han.out;subst han2;clear han;obtain⟨hA,hF⟩:=fZ hA
 go_wp2_with (first
  |(with_reducible show wpList _ _ _ ({dst:=_,op:=Op.call {callee:=Callee.builtin Builtin.append,args:=_,argTypes:=_},type:=_,pos:=_,after:=_,guard:=_}::_) _ _;refine Zb8 (e:=5) (v:=.slice ax l2.length cap) (xs:=flatY l2) (n:=l2.length) (tx:=s) rfl _ _ 62 9 rfl Tryz.underlying62 Tryz.underlying9 hi0 hz0 hz1 hz2 hA sR (by(try simp only[Act.eval,eV])<;>exact rfl) (by(try simp only[Act.eval,eV])<;>exact rfl) (by omega) ?_;intro v2 w7 hB;rw[Zlw,←ZcL,ZcM] at hB;obtain⟨cx,cn,ccap,hcv,hcn⟩:=hB.row_hid (v:=v2) (n:=(l2++textL s).length) (xs:=flatY (l2++textL s)) sR;subst hcv;clear hF hA;have hA:=hB;clear hB;obtain⟨hA,hF⟩:=fZ hA)
  |((with_reducible refine gst ?_);refine wTz hA ?_;clear hF hA;intro w1 hA hF)|((with_reducible refine gbx ?_);refine wCz hA ?_;clear hF hA;intro b1 w1 hA hb1 hF))
 go_ret;refine⟨.slice cx cn ccap,rfl,?_⟩;have hE:=hA.only2 (A:=outC b (.slice cx cn ccap)) (B:=rowY (.slice cx cn ccap) (l2++textL s)) sR sR;rw[←hl2,List.append_assoc] at hE;exact hE
end Wire
end
section
namespace Enc
open _root_.Go.Proofs.YtkdjkngfnapjcaaGreatDoor.Wire
theorem ZjO {s t:ByteArray} (h:textL s=textL t):s=t:=by
 unfold textL at h;refine Go.WideShapes.bytes_inj ?_
 have:∀(a b:List UInt8),a.map (fun x=>(x.toNat:Int))=b.map (fun x=>(x.toNat:Int))→a=b:=by
  intro a
  induction a with
  |nil=>intro b hb;cases b with
   |nil=>rfl
   |cons x b=>simp at hb
  |cons x a ih=>intro b hb;cases b with
   |nil=>simp at hb
   |cons y b=>
    simp only[List.map_cons,List.cons.injEq] at hb;rw[ih b hb.2,show x=y from UInt8.toNat_inj.1 (by omega)]
 exact this _ _ h
end Enc
end
section
namespace Wire
structure InS where
 b:List Int
 e:Int
def Byt (l:List Int):Prop:=∀x ∈ l,0≤x∧x < 256
theorem Byt.drop {l:List Int} (h:Byt l) (n:Nat):Byt (l.drop n):=fun x hx=>h x (List.mem_of_mem_drop hx)
theorem Byt.take {l:List Int} (h:Byt l) (n:Nat):Byt (l.take n):=fun x hx=>h x (List.mem_of_mem_take hx)
def InS.fail (s:InS) (x:Int):InS:=if s.e=0 then⟨s.b,x⟩ else s
def InS.okT (s:InS) (n:Nat):Prop:=s.e=0∧n≤s.b.length
instance (s:InS) (n:Nat):Decidable (s.okT n):=by unfold InS.okT;exact inferInstance
def InS.takeL (s:InS) (n:Nat):List Int:=if s.okT n then s.b.take n else[]
def InS.takeS (s:InS) (n:Nat):InS:=if s.okT n then⟨s.b.drop n,0⟩ else s.fail 20
def InS.byteV (s:InS):Int:=(s.takeL 1).headD 0
def InS.truthS (s:InS):InS:=if 1 < s.byteV then(s.takeS 1).fail 10 else s.takeS 1
def InS.truthV (s:InS):Bool:=decide (s.truthS.e=0)&&decide (s.byteV=1)
def rsL (i v:Nat):List Int→Nat × Nat × Int
 |[]=>if i < 10 then(0,0,20) else(0,0,12)
 |x::r=>if i < 10 then
  if i=9∧1 < x then(0,0,12)
  else if x < 128 then(if x=0∧0 < i then(0,0,10) else(v + x.toNat % 128 * 128 ^ i,i + 1,0))
  else rsL (i + 1) (v + x.toNat % 128 * 128 ^ i) r
  else(0,0,12)
def rs (b:List Int):Nat × Nat × Int:=rsL 0 0 b
def InS.shortV (s:InS) (most:Nat):Nat:=if s.e≠0 then 0 else if(rs s.b).2.2≠0 then 0 else if most < (rs s.b).1 then 0 else(rs s.b).1
def InS.shortS (s:InS) (most:Nat):InS:=if s.e≠0 then s else if(rs s.b).2.2≠0 then⟨s.b,(rs s.b).2.2⟩ else if most < (rs s.b).1 then⟨s.b,12⟩ else s.takeS (rs s.b).2.1
def bigN (l:List Int):Nat:=l.foldl (fun v x=>v * 256 + x.toNat) 0
def InS.fixV (s:InS):Nat:=bigN (s.takeL 8)
def InS.textL (s:InS) (most:Nat):List Int:=(s.shortS most).takeL (s.shortV most)
def InS.textS (s:InS) (most:Nat):InS:=(s.shortS most).takeS (s.shortV most)
def byL (l:List Int):ByteArray:=⟨(l.map fun x=>UInt8.ofNat x.toNat).toArray⟩
def InS.textV (s:InS) (most:Nat):ByteArray:=byL (s.textL most)
def InS.left (s:InS):Nat:=if s.e≠0 then 0 else s.b.length
def InS.fin (s:InS):Int:=if 0 < s.left then 21 else s.e
structure Goes (s s':InS):Prop where
 byt:Byt s.b→Byt s'.b
 len:s'.b.length≤s.b.length
 err:s.e≠0→s'.e≠0
theorem Goes.refl (s:InS):Goes s s:=⟨id,Nat.le_refl _,id⟩
theorem Goes.trans {a b c:InS} (h:Goes a b) (k:Goes b c):Goes a c:=⟨fun q=>k.byt (h.byt q),Nat.le_trans k.len h.len,fun q=>k.err (h.err q)⟩
theorem ZbU (s:InS) {x:Int} (hx:x≠0):Goes s (s.fail x):=by
 unfold InS.fail
 split
 · exact⟨id,Nat.le_refl _,fun _=>hx⟩
 exact Goes.refl s
theorem ZaL (s:InS) (n:Nat):Goes s (s.takeS n):=by
 unfold InS.takeS
 split
 · rename_i h
   exact⟨fun q=>q.drop n,by simp,fun q=>absurd h.1 q⟩
 exact ZbU s (by decide)
theorem Zbv (s:InS):Goes s s.truthS:=by
 unfold InS.truthS
 split
 · exact(ZaL s 1).trans (ZbU _ (by decide))
 exact ZaL s 1
theorem Zas (s:InS) (most:Nat):Goes s (s.shortS most):=by
 unfold InS.shortS
 split
 · exact Goes.refl s
 split
 · rename_i h q
   exact⟨id,Nat.le_refl _,fun _=>q⟩
 split
 · exact⟨id,Nat.le_refl _,fun _=>(by decide:(12:Int)≠0)⟩
 exact ZaL s _
theorem Zcj (s:InS) (most:Nat):Goes s (s.textS most):=(Zas s most).trans (ZaL _ _)
theorem Goes.ok {s s':InS} (h:Goes s s') (h0:s'.e=0):s.e=0:=by
 by_cases q:s.e=0
 · exact q
 exact absurd h0 (h.err q)
theorem Zbj {s:InS} {x:Int} (hx:x≠0):(s.fail x).e≠0:=by
 unfold InS.fail
 split
 · exact hx
 assumption
theorem ZdZ {s:InS} {n:Nat} (h:(s.takeS n).e=0):s.okT n∧s.b=s.takeL n++(s.takeS n).b∧(s.takeL n).length=n∧(s.takeS n)=⟨s.b.drop n,0⟩:=by
 unfold InS.takeS InS.takeL at *
 by_cases q:s.okT n
 · rw[if_pos q,if_pos q]
   exact⟨q,by simp,by rw[List.length_take];exact Nat.min_eq_left q.2,rfl⟩
 rw[if_neg q] at h;exact absurd h (Zbj (by decide))
theorem ZdY {s:InS} {l r:List Int} (he:s.e=0) (hb:s.b=l++r):s.takeL l.length=l∧s.takeS l.length=⟨r,0⟩:=by
 have q:s.okT l.length:=⟨he,by rw[hb];simp⟩
 unfold InS.takeL InS.takeS;rw[if_pos q,if_pos q,hb]
 simp
theorem Zk0 {s:InS} (h:(s.takeS 1).e=0):s.b=[s.byteV]++(s.takeS 1).b:=by
 obtain⟨_,h1,h2,_⟩:=ZdZ h
 obtain⟨x,hx⟩:∃x,s.takeL 1=[x]:=List.length_eq_one_iff.1 h2
 unfold InS.byteV;rw[hx] at h1 ⊢;exact h1
theorem ZkZ {s:InS} {x:Int} {r:List Int} (he:s.e=0) (hb:s.b=x::r):s.byteV=x∧s.takeS 1=⟨r,0⟩:=by
 obtain⟨h1,h2⟩:=ZdY (l:=[x]) (r:=r) he hb;have h1:s.takeL 1=[x]:=h1;unfold InS.byteV;rw[h1];exact⟨rfl,h2⟩
theorem Zfn {s:InS} (hb:Byt s.b) (h:s.truthS.e=0):s.b=[if s.truthV then 1 else 0]++s.truthS.b:=by
 unfold InS.truthV;rw[decide_eq_true h]
 unfold InS.truthS at *
 by_cases q:1 < s.byteV
 · rw[if_pos q] at h
   exact absurd h (Zbj (by decide))
 rw[if_neg q] at h ⊢;have h1:=Zk0 h;have h2:=hb s.byteV (by rw[h1];simp)
 rcases(show s.byteV=0∨s.byteV=1 by omega) with q1|q1
 · rw[q1] at h1 ⊢;exact h1
 rw[q1] at h1 ⊢;exact h1
theorem Zfm {s:InS} {t:Bool} {r:List Int} (he:s.e=0) (hb:s.b=(if t then 1 else 0)::r):s.truthV=t∧s.truthS=⟨r,0⟩:=by
 obtain⟨h1,h2⟩:=ZkZ he hb
 have h3:s.truthS=⟨r,0⟩:=by
  unfold InS.truthS;rw[if_neg (by rw[h1];cases t<;>decide),h2]
 unfold InS.truthV;rw[h3,h1]
 cases t<;>exact⟨rfl,rfl⟩
theorem rs_ok:∀(b:List Int) (hb:Byt b) (i v V n:Nat),v < 128 ^ i→rsL i v b=(V,n,0)→∃k r,V=v + k * 128 ^ i∧b=Zaf k++r∧n=i + (Zaf k).length∧V < 18446744073709551616∧(0 < i→0 < k):=by
 intro b
 induction b with
 |nil=>intro hb i v V n hv h;unfold rsL at h;split at h<;>simp at h
 |cons x r ih=>
  intro hb i v V n hv h;have hx:=hb x (by simp);unfold rsL at h
  split at h
  rotate_left
  · simp at h
  rename_i hi
  split at h
  · simp at h
  rename_i h9
  split at h
  · rename_i h128
    split at h
    · simp at h
    rename_i h0
    simp only[Prod.mk.injEq,and_true] at h;obtain⟨hV,hn⟩:=h;have e1:x.toNat % 128=x.toNat:=Nat.mod_eq_of_lt (by omega);rw[e1] at hV;refine⟨x.toNat,r,hV.symm,?_,?_,?_,fun q=> ?_⟩
    · rw[ZbY (by omega),Int.toNat_of_nonneg hx.1];rfl
    · rw[ZbY (by omega)];simpa using hn.symm
    · have hcs:i=0∨i=1∨i=2∨i=3∨i=4∨i=5∨i=6∨i=7∨i=8∨i=9:=by omega
      have hx9:i=9→x.toNat≤1:=fun q=>by
       by_cases q1:1 < x
       · exact absurd ⟨q,q1⟩ h9
       omega
      have hxn:x.toNat < 128:=by omega
      rcases hcs with rfl|rfl|rfl|rfl|rfl|rfl|rfl|rfl|rfl|rfl
      all_goals(simp only[Nat.reducePow] at hV hv;try have:=hx9 rfl);omega
    by_cases q1:x=0
    · exact absurd ⟨q1,q⟩ h0
    omega
  rename_i h128
  have hm:x.toNat % 128 < 128:=Nat.mod_lt _ (by decide)
  have hp:(128:Nat) ^ (i + 1)=128 * 128 ^ i:=by rw[Nat.pow_succ,Nat.mul_comm]
  have hv2:v + x.toNat % 128 * 128 ^ i < 128 ^ (i + 1):=by
   have h1:x.toNat % 128 * 128 ^ i≤127 * 128 ^ i:=Nat.mul_le_mul_right _ (by omega);rw[hp]
   omega
  obtain⟨k,s,e1,e2,e3,e4,e5⟩:=ih (fun y hy=>hb y (by simp[hy])) (i + 1) (v + x.toNat % 128 * 128 ^ i) V n hv2 h;have hk:=e5 (by omega)
  have hx2:x.toNat=x.toNat % 128 + 128:=by omega
  refine⟨x.toNat % 128 + 128 * k,s,?_,?_,?_,e4,fun _=>by omega⟩
  · rw[e1,hp,Nat.add_mul,Nat.add_assoc]
    congr 2
    rw[Nat.mul_comm 128 k,Nat.mul_assoc]
  · rw[Zcm (by omega),e2]
    have h1:(x.toNat % 128 + 128 * k) % 128=x.toNat % 128:=by omega
    have h2:(x.toNat % 128 + 128 * k) / 128=k:=by omega
    rw[h1,h2,←hx2,Int.toNat_of_nonneg hx.1]
    rfl
  rw[Zcm (by omega),List.length_cons,e3]
  have h2:(x.toNat % 128 + 128 * k) / 128=k:=by omega
  rw[h2]
  omega
theorem rs_on:∀(k:Nat) (i v:Nat) (r:List Int),v < 128 ^ i→v + k * 128 ^ i < 18446744073709551616→(0 < i→0 < k)→i < 10→rsL i v (Zaf k++r)=(v + k * 128 ^ i,i + (Zaf k).length,0):=by
 intro k
 induction k using Nat.strongRecOn with
 |_ k ih=>
  intro i v r hv hV hk hi
  by_cases q:k < 128
  · rw[ZbY q]
    show rsL i v ((k:Int)::r)=_;unfold rsL
    have h9:i=9→k≤1:=fun e=>by
     subst e;simp only[Nat.reducePow] at hV
     omega
    rw[if_pos hi,if_neg (fun q1=>by have:=h9 q1.1;omega),if_pos (by omega),if_neg (fun q1=>by have:=hk q1.2;omega)];simp only[Int.toNat_natCast,Nat.mod_eq_of_lt q]
    rfl
  rw[Zcm (by omega)];show rsL i v (((k % 128 + 128:Nat):Int)::(Zaf (k / 128)++r))=_
  have hp:(128:Nat) ^ (i + 1)=128 * 128 ^ i:=by rw[Nat.pow_succ,Nat.mul_comm]
  have hpos:0 < (128:Nat) ^ i:=Nat.pow_pos (by decide)
  have hi9:i < 9:=by
   by_cases q9:i=9
   · subst q9
     simp only[Nat.reducePow] at hV
     omega
   omega
  have hd:k=k % 128 + 128 * (k / 128):=by omega
  have hm:(k % 128 + 128) % 128=k % 128:=by omega
  have hv2:v + k % 128 * 128 ^ i < 128 ^ (i + 1):=by
   have h1:k % 128 * 128 ^ i≤127 * 128 ^ i:=Nat.mul_le_mul_right _ (by omega);rw[hp]
   omega
  have hs:v + k * 128 ^ i=v + k % 128 * 128 ^ i + k / 128 * 128 ^ (i + 1):=by
   conv=>lhs;rw[hd]
   rw[hp,Nat.add_mul,Nat.add_assoc]
   congr 2
   rw[Nat.mul_comm 128 (k / 128),Nat.mul_assoc]
  unfold rsL;rw[if_pos hi,if_neg (by omega),if_neg (by omega)];simp only[Int.toNat_natCast,hm];rw[ih (k / 128) (by omega) (i + 1) _ r hv2 (by rw[←hs];exact hV) (fun _=>by omega) (by omega),←hs,List.length_cons]
  congr 2
  omega
theorem Zbd {s:InS} (hb:Byt s.b) {most:Nat} (h:(s.shortS most).e=0):s.b=Zaf (s.shortV most)++(s.shortS most).b∧s.shortV most≤most∧s.shortV most < 18446744073709551616:=by
 have h0:s.e=0:=(Zas s most).ok h
 have hne:¬s.e≠0:=fun q=>q h0
 unfold InS.shortS at h ⊢;unfold InS.shortV;rw[if_neg hne] at h;rw[if_neg hne,if_neg hne]
 by_cases q1:(rs s.b).2.2=0
 · have hn1:¬(rs s.b).2.2≠0:=fun q=>q q1
   rw[if_neg hn1] at h;rw[if_neg hn1,if_neg hn1]
   by_cases q2:most < (rs s.b).1
   · rw[if_pos q2] at h
     exact absurd h (by show(12:Int)≠0;decide)
   rw[if_neg q2,if_neg q2]
   obtain⟨k,r,e1,e2,e3,e4,_⟩:=rs_ok s.b hb 0 0 (rs s.b).1 (rs s.b).2.1 (by decide) (show rs s.b=_ by rw[←q1])
   have e5:(rs s.b).1=k:=by simpa using e1
   have e6:(rs s.b).2.1=(Zaf k).length:=by simpa using e3
   have h7:=(ZdY (s:=s) h0 e2).2;rw[e5] at q2 e4 ⊢;rw[e6,h7];exact⟨e2,by omega,e4⟩
 rw[if_pos q1] at h;exact absurd h q1
theorem Zbc {s:InS} {most k:Nat} {r:List Int} (he:s.e=0) (hb:s.b=Zaf k++r) (hm:k≤most) (hk:k < 18446744073709551616):s.shortV most=k∧s.shortS most=⟨r,0⟩:=by
 have h1:rs s.b=(k,(Zaf k).length,0):=by
  unfold rs;rw[hb,rs_on k 0 0 r (by decide) (by omega) (by omega) (by decide)]
  simp
 unfold InS.shortV InS.shortS;rw[h1];simp only;rw[if_neg (by simpa using he),if_neg (by simp),if_neg (by omega),if_neg (by simpa using he),if_neg (by simp),if_neg (by omega)];exact⟨rfl,(ZdY he hb).2⟩
theorem Zn3 {v:Nat} (hv:v < 18446744073709551616):bigN (fixL v)=v:=by
 unfold bigN fixL byteN;simp only[List.foldl,Int.toNat_natCast,Nat.reducePow,Nat.div_one]
 omega
theorem horner {a b c d e f g h:Nat} (h1:a < 256) (h2:b < 256) (h3:c < 256) (h4:d < 256) (h5:e < 256) (h6:f < 256) (h7:g < 256) (h8:h < 256) {v:Nat} (hv:(((((((0 * 256 + a) * 256 + b) * 256 + c) * 256 + d) * 256 + e) * 256 + f) * 256 + g) * 256 + h=v):
 v / 72057594037927936 % 256=a∧v / 281474976710656 % 256=b∧v / 1099511627776 % 256=c∧v / 4294967296 % 256=d∧v / 16777216 % 256=e∧v / 65536 % 256=f∧v / 256 % 256=g∧v % 256=h∧v < 18446744073709551616:=by
 refine⟨?_,?_,?_,?_,?_,?_,?_,?_,?_⟩
 all_goals omega
theorem ZnT {l:List Int} (hl:l.length=8) (hb:Byt l):fixL (bigN l)=l∧bigN l < 18446744073709551616:=by
 match l,hl with
 |[a,b,c,d,e,f,g,h],_=>
  obtain⟨p1,q1⟩:=hb a (by simp);obtain⟨p2,q2⟩:=hb b (by simp);obtain⟨p3,q3⟩:=hb c (by simp);obtain⟨p4,q4⟩:=hb d (by simp);obtain⟨p5,q5⟩:=hb e (by simp);obtain⟨p6,q6⟩:=hb f (by simp);obtain⟨p7,q7⟩:=hb g (by simp);obtain⟨p8,q8⟩:=hb h (by simp);obtain⟨a,rfl⟩:=Int.eq_ofNat_of_zero_le p1;obtain⟨b,rfl⟩:=Int.eq_ofNat_of_zero_le p2;obtain⟨c,rfl⟩:=Int.eq_ofNat_of_zero_le p3;obtain⟨d,rfl⟩:=Int.eq_ofNat_of_zero_le p4;obtain⟨e,rfl⟩:=Int.eq_ofNat_of_zero_le p5;obtain⟨f,rfl⟩:=Int.eq_ofNat_of_zero_le p6;obtain⟨g,rfl⟩:=Int.eq_ofNat_of_zero_le p7;obtain⟨h,rfl⟩:=Int.eq_ofNat_of_zero_le p8
  obtain⟨v,hv⟩:∃v,(((((((0 * 256 + a) * 256 + b) * 256 + c) * 256 + d) * 256 + e) * 256 + f) * 256 + g) * 256 + h=v:=⟨_,rfl⟩
  have hq:=horner (by omega) (by omega) (by omega) (by omega) (by omega) (by omega) (by omega) (by omega) hv;have hbv:bigN [(a:Int),b,c,d,e,f,g,h]=v:=hv;rw[hbv];obtain⟨r1,r2,r3,r4,r5,r6,r7,r8,r9⟩:=hq;unfold fixL byteN;simp only[Nat.reducePow,Nat.div_one,r1,r2,r3,r4,r5,r6,r7,r8];exact⟨trivial,r9⟩
theorem ZgS {s:InS} (hb:Byt s.b) (h:(s.takeS 8).e=0):s.b=fixL s.fixV++(s.takeS 8).b∧s.fixV < 18446744073709551616:=by
 obtain⟨_,h1,h2,_⟩:=ZdZ h;obtain⟨q1,q2⟩:=ZnT h2 (fun x hx=>hb x (by rw[h1];simp[hx]));unfold InS.fixV;rw[q1];exact⟨h1,q2⟩
theorem ZgR {s:InS} {v:Nat} {r:List Int} (he:s.e=0) (hb:s.b=fixL v++r) (hv:v < 18446744073709551616):s.fixV=v∧s.takeS 8=⟨r,0⟩:=by
 obtain⟨h1,h2⟩:=ZdY (l:=fixL v) (r:=r) he hb;have h1:s.takeL 8=fixL v:=h1;unfold InS.fixV;rw[h1];exact⟨Zn3 hv,h2⟩
theorem Zgh {l:List Int} (hb:Byt l):Wire.textL (byL l)=l∧(byL l).size=l.length:=by
 constructor
 · unfold Wire.textL byL
   simp only[List.map_map];refine(List.map_congr_left (g:=id) fun x hx=> ?_).trans (List.map_id _);have:=hb x hx;simp only[Function.comp,id,UInt8.toNat_ofNat',Nat.reducePow]
   omega
 unfold byL ByteArray.size
 simp
theorem Zk2 (s:ByteArray):byL (Wire.textL s)=s:=by
 refine Enc.ZjO ?_;refine(Zgh fun x hx=> ?_).1;unfold Wire.textL at hx;obtain⟨y,_,rfl⟩:=List.mem_map.1 hx;have:=y.toNat_lt
 omega
theorem Zfr {s:InS} (hb:Byt s.b) {most:Nat} (h:(s.textS most).e=0):s.b=textB (s.textV most)++(s.textS most).b∧(s.textV most).size≤most:=by
 have h1:(s.shortS most).e=0:=(ZaL _ _).ok h;obtain⟨e1,e2,_⟩:=Zbd hb h1;obtain⟨_,e3,e4,_⟩:=ZdZ h
 have e5:Byt (s.textL most):=fun x hx=>(Zas s most).byt hb x (by rw[e3];exact List.mem_append_left _ hx)
 obtain⟨q1,q2⟩:=Zgh e5;have q3:(s.textL most).length=s.shortV most:=e4;unfold InS.textV textB;rw[q1,q2,q3];refine⟨?_,e2⟩;rw[List.append_assoc];refine e1.trans ?_
 congr 1
theorem Zfq {s:InS} {most:Nat} {t:ByteArray} {r:List Int} (he:s.e=0) (hb:s.b=textB t++r) (hm:t.size≤most) (ht:t.size < 18446744073709551616):s.textV most=t∧s.textS most=⟨r,0⟩:=by
 unfold textB at hb;rw[List.append_assoc] at hb;obtain⟨h1,h2⟩:=Zbc he hb hm ht;obtain⟨h3,h4⟩:=ZdY (s:=⟨Wire.textL t++r,0⟩) (l:=Wire.textL t) (r:=r) rfl rfl;rw[ZcL] at h3 h4;unfold InS.textV InS.textS InS.textL;rw[h1,h2,h3,h4];exact⟨Zk2 t,rfl⟩
end Wire
end
end Go.Proofs.YtkdjkngfnapjcaaGreatDoor
