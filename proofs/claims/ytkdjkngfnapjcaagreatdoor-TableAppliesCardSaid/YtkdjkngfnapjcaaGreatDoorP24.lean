/- WireB, WireC, PutL, LockLa, LockLb, EncB, TakB, TakC, TakD, joined. -/
import Derived.Test.YtkdjkngfnapjcaaGreatDoorP23
import Derived.Test.YtkdjkngfnapjcaaGreatDoorP15
import Derived.Lib.AppendStr
import Derived.Deep.QuietTactic
import Derived.BigQuiet
import Derived.Test.YtkdjkngfnapjcaaGreatDoorP14
import Derived.Test.YtkdjkngfnapjcaaGreatDoorP22
import Derived.Test.YtkdjkngfnapjcaaGreatDoorP16
import Derived.Test.YtkdjkngfnapjcaaGreatDoorP5
set_option linter.unusedSimpArgs false
set_option linter.unusedVariables false
set_option maxRecDepth 100000
set_option maxHeartbeats 16000000
namespace Go.Proofs.YtkdjkngfnapjcaaGreatDoor
section
namespace Wire
open Go.RowKit
abbrev outC (b:Nat) (u:Value):Part:=.cells b [u] 64
def ZaC (w:World) (b:Nat) (u:Value) (l m:List Int) (e:Ending) (w':World):Prop:=∃u',e=.returned (.pointer (some ⟨b,0,none⟩))∧At [outC b u,rowY u l] w [outC b u',rowY u' (l++m)] w'
theorem oneY (y:Int) (w:World):(Instr.buildSlice 62 1 #[(0,.int .u8 y)]).run Tryz.prog w=.ok (.slice (some ⟨w.heap.size,0,none⟩) 1 1) (w.alloc (.cells (encY y).toArray 5)):=by kernel_rfl
theorem ZhP {w:World} {b:Nat} {u:Value} {l:List Int} (h:Sep [outC b u,rowY u l] w) (y:Int) (hl:l.length≤100000000000000):
 Calls Tryz.prog 183 #[.pointer (some ⟨b,0,none⟩),.int .u8 y] w (ZaC w b u l [y]):=by
 obtain⟨i0,hi0,hz0,hz1,hz2⟩:=info_parts infoY;have hA:=At.start h;have hF:=hA.facts;clear h;obtain⟨ax,cap,rfl,hax,hcap,_⟩:=hA.row_form (v:=u) (n:=l.length) (xs:=flatY l) sR;have hone:=oneY y;obtain⟨hA,hF⟩:=fZ hA
 go_enter Tryz.func183,Tryz.ntmps183
 go_wp2_with (first
  |((with_reducible show wpList _ _ _ ({dst:=_,op:=Op.buildSlice _ _ _,type:=_,pos:=_,after:=_,guard:=_}::_) _ _);refine Zat (e:=5) (vs:=encY y) rfl rfl (by(try simp only[Act.eval,eV])<;>exact rfl) hone hA ?_;intro b2 w5 hB hb2;clear hF hA;have hA:=hB;clear hB;obtain⟨hA,hF⟩:=fZ hA)
  |((with_reducible show wpList _ _ _ ({dst:=_,op:=Op.call {callee:=Callee.builtin Builtin.append,args:=_,argTypes:=_},type:=_,pos:=_,after:=_,guard:=_}::_) _ _);refine Zae (e:=5) (size:=1) (v:=.slice ax l.length cap) (xs:=flatY l) (n:=l.length) (m:=1) (news:=encY y) rfl _ _ 62 rfl Tryz.underlying62 hi0 hz0 hz1 hz2 rfl (by omega) hA sR (by(try simp only[Act.eval,eV])<;>exact rfl) (by(try simp only[Act.eval,eV])<;>exact rfl) rfl (hA.cells_reads sR _ _) (Zb9 _) (by unfold maxLen;omega) (by omega) ?_;intro v2 w7 hB;rw[Zeq] at hB;obtain⟨cx,cn,ccap,hcv,hcn⟩:=hB.row_hid (v:=v2) (n:=(l++[y]).length) (xs:=flatY (l++[y])) sR;subst hcv;clear hF hA;have hA:=hB;clear hB;obtain⟨hA,hF⟩:=fZ hA)
  |((with_reducible refine gst ?_);refine wTz hA ?_;clear hF hA;intro w1 hA hF)|((with_reducible refine gbx ?_);refine wCz hA ?_;clear hF hA;intro b1 w1 hA hb1 hF))
 go_ret;exact⟨.slice cx cn ccap,rfl,hA.only2 (A:=outC b (.slice cx cn ccap)) (B:=rowY (.slice cx cn ccap) (l++[y])) sR sR⟩
theorem Zf2 {w:World} {b:Nat} {u:Value} {l:List Int} (h:Sep [outC b u,rowY u l] w) (t:Bool) (hl:l.length≤100000000000000):
 Calls Tryz.prog 181 #[.pointer (some ⟨b,0,none⟩),.bool t] w (ZaC w b u l [if t then 1 else 0]):=by
 cases t
 · go_enter Tryz.func181,Tryz.ntmps181
   go_wp2_with fail
   refine(ZhP h 0 hl).mono ?_;rintro e w' ⟨u',rfl,hT⟩
   go_wp2_with fail
   go_ret;exact⟨u',rfl,hT⟩
 go_enter Tryz.func181,Tryz.ntmps181
 go_wp2_with fail
 refine(ZhP h 1 hl).mono ?_;rintro e w' ⟨u',rfl,hT⟩
 go_wp2_with fail
 go_ret;exact⟨u',rfl,hT⟩
theorem Zbm {w:World} {b:Nat} {u:Value} {l:List Int} (h:Sep [outC b u,rowY u l] w) (v:Nat) (hv:v < 18446744073709551616) (hl:l.length≤100000000000000):
 Calls Tryz.prog 142 #[.pointer (some ⟨b,0,none⟩),.int .u64 v] w (ZaC w b u l (Zan v)):=by
 obtain⟨i0,hi0,hz0,hz1,hz2⟩:=info_parts infoY;have hA:=At.start h;have hF:=hA.facts;clear h;have hnl:(Zan v).length≤10:=Zaq 9 v (by omega);obtain⟨ax,cap,rfl,hax,hcap,_⟩:=hA.row_form (v:=u) (n:=l.length) (xs:=flatY l) sR;obtain⟨hA,hF⟩:=fZ hA
 go_enter Tryz.func142,Tryz.ntmps142
 go_wp2_with fail
 have hm:Tryz.prog.follows .mixedOrders=true:=by kernel_rfl
 have hA:=hA.drew;refine wp_region_held (S:=fun _=>True) hm ?_;change wpAnyH _ _ _ _ _ 11 _ _ w.drew
 generalize w.drew=w2 at *
 refine tZ 0 5 ((.pointer (some ⟨b,0,none⟩))) (r:=(fun w' hS=>by simp[execOp,go_sem,Act.eval,Act.put])) (s:=trivial) (h:= ?_);go_frame;refine tZ 1 6 ((.pointer (some ⟨b,0,none⟩))) (r:=(fun w' hS=>by simp[execOp,go_sem,Act.eval,Act.put])) (s:=trivial) (h:= ?_);go_frame;refine tZ 2 7 ((.pointer (some ⟨b,0,none⟩))) (r:=(fun w' hS=>by simp[execOp,go_sem,Act.eval,Act.put])) (s:=trivial) (h:= ?_);go_frame;refine tZ 3 8 ((.pointer (some ⟨b,0,none⟩))) (r:=(fun w' hS=>by kernel_rfl)) (s:=trivial) (h:= ?_);go_frame;refine tZ 5 10 ((.int .u64 v)) (r:=(fun w' hS=>by simp[execOp,go_sem,Act.eval,Act.put])) (s:=trivial) (h:= ?_);go_frame;refine ZaG (i:=4) (j:=6) (by kernel_rfl) ?_ ?_
 · skip
   refine Zb2 (i:=4) (v:=.slice ax l.length cap) rfl rfl (Zac (b:=b) (j:=0) rfl (by exact rfl) (hA.get (A:=outC b (.slice ax l.length cap)) sR) (by kernel_rfl) rfl) ?_;refine⟨trivial,?_⟩;change wpAnyH _ _ _ _ _ _ _ (Act.put _ (some 9) _) _;go_frame;refine Zaa (i:=6) (by kernel_rfl) ?_;refine Zar (i:=6) (d:=some 11) rfl rfl rfl (fn:=202) (args:= #[.int .u64 v]) (by simp[execOp,go_sem,Act.eval,Act.put]) (ZgD v w2 hv) ?_;intro uu z1 hT;have hB:=hA.call0 hT;simp only[uA] at hB;obtain⟨nx,nn,ncap,hnv,hnn⟩:=hB.row_hid (v:=uu) (n:=(Zan v).length) (xs:=flatY (Zan v)) sR;subst hnv;have hnn2:=hnn.out;subst hnn2;refine⟨trivial,?_⟩;go_frame;refine Zaa (i:=7) (by kernel_rfl) ?_;refine Zb6 (k:=7) (d:=some 12) (e:=5) (size:=1) (v:=.slice ax l.length cap) (xs:=flatY l) (n:=l.length) (m:=(Zan v).length) (news:=flatY (Zan v)) rfl rfl rfl rfl (.tmp 9) (.tmp 11) 62 rfl Tryz.underlying62 hi0 hz0 hz1 hz2 rfl (by omega) hB sR (by(try simp only[Act.eval,eV])<;>exact rfl) (by(try simp only[Act.eval,eV])<;>exact rfl) (Zaz _ _ ZdZ _) (hB.row_reads (v:=.slice nx (Zan v).length ncap) (n:=(Zan v).length) (xs:=flatY (Zan v)) sR) (ZaK Zb9 _) (by unfold maxLen;omega) (by omega) ?_;intro v2 z2 hC;rw[Zc0] at hC;obtain⟨cx,cn,ccap,hcv,hcn⟩:=hC.row_hid (v:=v2) (n:=(l++Zan v).length) (xs:=flatY (l++Zan v)) sR;subst hcv;have hcn2:=hcn.out;clear hcn;refine⟨trivial,?_⟩;go_frame;refine tZ 8 13 ((.pointer (some ⟨b,0,none⟩))) (r:=(fun w' hS=>by simp[execOp,go_sem,Act.eval,Act.put])) (s:=trivial) (h:= ?_);go_frame;refine tZ 9 14 ((.pointer (some ⟨b,0,none⟩))) (r:=(fun w' hS=>by kernel_rfl)) (s:=trivial) (h:= ?_);go_frame;refine Zaa (i:=10) (by kernel_rfl) ?_;refine ZbV (i:=10) (x:=.tmp 14) (y:=.tmp 12) (ty:=62) (b:=b) (j:=0) (v:=.slice cx cn ccap) (vs:=[.slice cx cn ccap]) rfl rfl rfl rfl (by(try simp only[Act.eval,eV])<;>exact rfl) (by(try simp only[Act.eval,eV])<;>exact rfl) rfl hC (c:=[.slice ax l.length cap]) sR (by kernel_rfl) rfl (by simp) ?_;intro z3 hD;simp only[setL,List.set_cons_zero] at hD;refine⟨trivial,?_⟩;refine wpAnyH_done (by kernel_rfl) ?_ _
   try go_frame
   go_wp2_with fail
   go_ret;exact⟨.slice cx cn ccap,rfl,hD.only2 (A:=outC b (.slice cx cn ccap)) (B:=rowY (.slice cx cn ccap) (l++Zan v)) sR sR⟩
 skip;refine Zar (i:=6) (d:=some 11) rfl rfl rfl (fn:=202) (args:= #[.int .u64 v]) (by simp[execOp,go_sem,Act.eval,Act.put]) (ZgD v w2 hv) ?_;intro uu z1 hT;have hB:=hA.call0 hT;simp only[uA] at hB;obtain⟨nx,nn,ncap,hnv,hnn⟩:=hB.row_hid (v:=uu) (n:=(Zan v).length) (xs:=flatY (Zan v)) sR;subst hnv;have hnn2:=hnn.out;subst hnn2;refine⟨trivial,?_⟩;go_frame;refine Zaa (i:=4) (by kernel_rfl) ?_;refine Zb2 (i:=4) (v:=.slice ax l.length cap) rfl rfl (Zac (b:=b) (j:=0) rfl (by exact rfl) (hB.get (A:=outC b (.slice ax l.length cap)) sR) (by kernel_rfl) rfl) ?_;refine⟨trivial,?_⟩;change wpAnyH _ _ _ _ _ _ _ (Act.put _ (some 9) _) _;go_frame;refine Zaa (i:=7) (by kernel_rfl) ?_;refine Zb6 (k:=7) (d:=some 12) (e:=5) (size:=1) (v:=.slice ax l.length cap) (xs:=flatY l) (n:=l.length) (m:=(Zan v).length) (news:=flatY (Zan v)) rfl rfl rfl rfl (.tmp 9) (.tmp 11) 62 rfl Tryz.underlying62 hi0 hz0 hz1 hz2 rfl (by omega) hB sR (by(try simp only[Act.eval,eV])<;>exact rfl) (by(try simp only[Act.eval,eV])<;>exact rfl) (Zaz _ _ ZdZ _) (hB.row_reads (v:=.slice nx (Zan v).length ncap) (n:=(Zan v).length) (xs:=flatY (Zan v)) sR) (ZaK Zb9 _) (by unfold maxLen;omega) (by omega) ?_;intro v2 z2 hC;rw[Zc0] at hC;obtain⟨cx,cn,ccap,hcv,hcn⟩:=hC.row_hid (v:=v2) (n:=(l++Zan v).length) (xs:=flatY (l++Zan v)) sR;subst hcv;have hcn2:=hcn.out;clear hcn;refine⟨trivial,?_⟩;go_frame;refine tZ 8 13 ((.pointer (some ⟨b,0,none⟩))) (r:=(fun w' hS=>by simp[execOp,go_sem,Act.eval,Act.put])) (s:=trivial) (h:= ?_);go_frame;refine tZ 9 14 ((.pointer (some ⟨b,0,none⟩))) (r:=(fun w' hS=>by kernel_rfl)) (s:=trivial) (h:= ?_);go_frame;refine Zaa (i:=10) (by kernel_rfl) ?_;refine ZbV (i:=10) (x:=.tmp 14) (y:=.tmp 12) (ty:=62) (b:=b) (j:=0) (v:=.slice cx cn ccap) (vs:=[.slice cx cn ccap]) rfl rfl rfl rfl (by(try simp only[Act.eval,eV])<;>exact rfl) (by(try simp only[Act.eval,eV])<;>exact rfl) rfl hC (c:=[.slice ax l.length cap]) sR (by kernel_rfl) rfl (by simp) ?_;intro z3 hD;simp only[setL,List.set_cons_zero] at hD;refine⟨trivial,?_⟩;refine wpAnyH_done (by kernel_rfl) ?_ _
 try go_frame
 go_wp2_with fail
 go_ret;exact⟨.slice cx cn ccap,rfl,hD.only2 (A:=outC b (.slice cx cn ccap)) (B:=rowY (.slice cx cn ccap) (l++Zan v)) sR sR⟩
theorem Zc4 {w:World} {b:Nat} {u:Value} {l:List Int} (h:Sep [outC b u,rowY u l] w) (v:Nat) (hv:v < 18446744073709551616) (hl:l.length≤100000000000000):
 Calls Tryz.prog 81 #[.pointer (some ⟨b,0,none⟩),.int .u64 v] w (ZaC w b u l (fixL v)):=by
 obtain⟨i0,hi0,hz0,hz1,hz2⟩:=info_parts infoY;have hA:=At.start h;have hF:=hA.facts;clear h
 have hnl:(fixL v).length≤10:=by simp[fixL]
 obtain⟨ax,cap,rfl,hax,hcap,_⟩:=hA.row_form (v:=u) (n:=l.length) (xs:=flatY l) sR;obtain⟨hA,hF⟩:=fZ hA
 go_enter Tryz.func81,Tryz.ntmps81
 go_wp2_with fail
 have hm:Tryz.prog.follows .mixedOrders=true:=by kernel_rfl
 have hA:=hA.drew;refine wp_region_held (S:=fun _=>True) hm ?_;change wpAnyH _ _ _ _ _ 11 _ _ w.drew
 generalize w.drew=w2 at *
 refine tZ 0 5 ((.pointer (some ⟨b,0,none⟩))) (r:=(fun w' hS=>by simp[execOp,go_sem,Act.eval,Act.put])) (s:=trivial) (h:= ?_);go_frame;refine tZ 1 6 ((.pointer (some ⟨b,0,none⟩))) (r:=(fun w' hS=>by simp[execOp,go_sem,Act.eval,Act.put])) (s:=trivial) (h:= ?_);go_frame;refine tZ 2 7 ((.pointer (some ⟨b,0,none⟩))) (r:=(fun w' hS=>by simp[execOp,go_sem,Act.eval,Act.put])) (s:=trivial) (h:= ?_);go_frame;refine tZ 3 8 ((.pointer (some ⟨b,0,none⟩))) (r:=(fun w' hS=>by kernel_rfl)) (s:=trivial) (h:= ?_);go_frame;refine tZ 5 10 ((.int .u64 v)) (r:=(fun w' hS=>by simp[execOp,go_sem,Act.eval,Act.put])) (s:=trivial) (h:= ?_);go_frame;refine ZaG (i:=4) (j:=6) (by kernel_rfl) ?_ ?_
 · skip
   refine Zb2 (i:=4) (v:=.slice ax l.length cap) rfl rfl (Zac (b:=b) (j:=0) rfl (by exact rfl) (hA.get (A:=outC b (.slice ax l.length cap)) sR) (by kernel_rfl) rfl) ?_;refine⟨trivial,?_⟩;change wpAnyH _ _ _ _ _ _ _ (Act.put _ (some 9) _) _;go_frame;refine Zaa (i:=6) (by kernel_rfl) ?_;refine Zar (i:=6) (d:=some 11) rfl rfl rfl (fn:=143) (args:= #[.int .u64 v,.int .i64 8]) (by simp[execOp,go_sem,Act.eval,Act.put]) (Zfp v w2 hv) ?_;intro uu z1 hT;have hB:=hA.call0 hT;simp only[uA] at hB;obtain⟨nx,nn,ncap,hnv,hnn⟩:=hB.row_hid (v:=uu) (n:=(fixL v).length) (xs:=flatY (fixL v)) sR;subst hnv;have hnn2:=hnn.out;subst hnn2;refine⟨trivial,?_⟩;go_frame;refine Zaa (i:=7) (by kernel_rfl) ?_;refine Zb6 (k:=7) (d:=some 12) (e:=5) (size:=1) (v:=.slice ax l.length cap) (xs:=flatY l) (n:=l.length) (m:=(fixL v).length) (news:=flatY (fixL v)) rfl rfl rfl rfl (.tmp 9) (.tmp 11) 62 rfl Tryz.underlying62 hi0 hz0 hz1 hz2 rfl (by omega) hB sR (by(try simp only[Act.eval,eV])<;>exact rfl) (by(try simp only[Act.eval,eV])<;>exact rfl) (Zaz _ _ ZdZ _) (hB.row_reads (v:=.slice nx (fixL v).length ncap) (n:=(fixL v).length) (xs:=flatY (fixL v)) sR) (ZaK Zb9 _) (by unfold maxLen;omega) (by omega) ?_;intro v2 z2 hC;rw[Zc0] at hC;obtain⟨cx,cn,ccap,hcv,hcn⟩:=hC.row_hid (v:=v2) (n:=(l++fixL v).length) (xs:=flatY (l++fixL v)) sR;subst hcv;have hcn2:=hcn.out;clear hcn;refine⟨trivial,?_⟩;go_frame;refine tZ 8 13 ((.pointer (some ⟨b,0,none⟩))) (r:=(fun w' hS=>by simp[execOp,go_sem,Act.eval,Act.put])) (s:=trivial) (h:= ?_);go_frame;refine tZ 9 14 ((.pointer (some ⟨b,0,none⟩))) (r:=(fun w' hS=>by kernel_rfl)) (s:=trivial) (h:= ?_);go_frame;refine Zaa (i:=10) (by kernel_rfl) ?_;refine ZbV (i:=10) (x:=.tmp 14) (y:=.tmp 12) (ty:=62) (b:=b) (j:=0) (v:=.slice cx cn ccap) (vs:=[.slice cx cn ccap]) rfl rfl rfl rfl (by(try simp only[Act.eval,eV])<;>exact rfl) (by(try simp only[Act.eval,eV])<;>exact rfl) rfl hC (c:=[.slice ax l.length cap]) sR (by kernel_rfl) rfl (by simp) ?_;intro z3 hD;simp only[setL,List.set_cons_zero] at hD;refine⟨trivial,?_⟩;refine wpAnyH_done (by kernel_rfl) ?_ _
   try go_frame
   go_wp2_with fail
   go_ret;exact⟨.slice cx cn ccap,rfl,hD.only2 (A:=outC b (.slice cx cn ccap)) (B:=rowY (.slice cx cn ccap) (l++fixL v)) sR sR⟩
 skip;refine Zar (i:=6) (d:=some 11) rfl rfl rfl (fn:=143) (args:= #[.int .u64 v,.int .i64 8]) (by simp[execOp,go_sem,Act.eval,Act.put]) (Zfp v w2 hv) ?_;intro uu z1 hT;have hB:=hA.call0 hT;simp only[uA] at hB;obtain⟨nx,nn,ncap,hnv,hnn⟩:=hB.row_hid (v:=uu) (n:=(fixL v).length) (xs:=flatY (fixL v)) sR;subst hnv;have hnn2:=hnn.out;subst hnn2;refine⟨trivial,?_⟩;go_frame;refine Zaa (i:=4) (by kernel_rfl) ?_;refine Zb2 (i:=4) (v:=.slice ax l.length cap) rfl rfl (Zac (b:=b) (j:=0) rfl (by exact rfl) (hB.get (A:=outC b (.slice ax l.length cap)) sR) (by kernel_rfl) rfl) ?_;refine⟨trivial,?_⟩;change wpAnyH _ _ _ _ _ _ _ (Act.put _ (some 9) _) _;go_frame;refine Zaa (i:=7) (by kernel_rfl) ?_;refine Zb6 (k:=7) (d:=some 12) (e:=5) (size:=1) (v:=.slice ax l.length cap) (xs:=flatY l) (n:=l.length) (m:=(fixL v).length) (news:=flatY (fixL v)) rfl rfl rfl rfl (.tmp 9) (.tmp 11) 62 rfl Tryz.underlying62 hi0 hz0 hz1 hz2 rfl (by omega) hB sR (by(try simp only[Act.eval,eV])<;>exact rfl) (by(try simp only[Act.eval,eV])<;>exact rfl) (Zaz _ _ ZdZ _) (hB.row_reads (v:=.slice nx (fixL v).length ncap) (n:=(fixL v).length) (xs:=flatY (fixL v)) sR) (ZaK Zb9 _) (by unfold maxLen;omega) (by omega) ?_;intro v2 z2 hC;rw[Zc0] at hC;obtain⟨cx,cn,ccap,hcv,hcn⟩:=hC.row_hid (v:=v2) (n:=(l++fixL v).length) (xs:=flatY (l++fixL v)) sR;subst hcv;have hcn2:=hcn.out;clear hcn;refine⟨trivial,?_⟩;go_frame;refine tZ 8 13 ((.pointer (some ⟨b,0,none⟩))) (r:=(fun w' hS=>by simp[execOp,go_sem,Act.eval,Act.put])) (s:=trivial) (h:= ?_);go_frame;refine tZ 9 14 ((.pointer (some ⟨b,0,none⟩))) (r:=(fun w' hS=>by kernel_rfl)) (s:=trivial) (h:= ?_);go_frame;refine Zaa (i:=10) (by kernel_rfl) ?_;refine ZbV (i:=10) (x:=.tmp 14) (y:=.tmp 12) (ty:=62) (b:=b) (j:=0) (v:=.slice cx cn ccap) (vs:=[.slice cx cn ccap]) rfl rfl rfl rfl (by(try simp only[Act.eval,eV])<;>exact rfl) (by(try simp only[Act.eval,eV])<;>exact rfl) rfl hC (c:=[.slice ax l.length cap]) sR (by kernel_rfl) rfl (by simp) ?_;intro z3 hD;simp only[setL,List.set_cons_zero] at hD;refine⟨trivial,?_⟩;refine wpAnyH_done (by kernel_rfl) ?_ _
 try go_frame
 go_wp2_with fail
 go_ret;exact⟨.slice cx cn ccap,rfl,hD.only2 (A:=outC b (.slice cx cn ccap)) (B:=rowY (.slice cx cn ccap) (l++fixL v)) sR sR⟩
def textL (s:ByteArray):List Int:=s.data.toList.map (fun x=>(x.toNat:Int))
theorem Zec (s:ByteArray):(textL s).length=s.size:=by unfold textL;rw[List.length_map];exact Array.length_toList
theorem ZlU (s:ByteArray):Lib.strCells s=flatY (textL s):=by
 unfold Lib.strCells textL;generalize s.data.toList=r;show _=(r.map _).flatMap encY
 induction r with
 |nil=>rfl
 |cons c r ih=>rw[List.map_cons,List.map_cons,List.flatMap_cons,←ih];rfl
theorem Zij (w:World) {t u ty e:TypeId} {i:TypeInfo} {P:Program} (ht:P.underlying t=some (.slice e)) (hu:P.underlying u=some .string) (hi:P.info? e=some i) (hz:i.zero=some (.int .u8 0)) (hsize:i.size=1) (hby:i.bytes=1)
 (v:Value) (n:Nat) (xs:List Value) (hown:w.ownsRow 0 e 1 v n xs) (s:ByteArray) (h63:n + s.size≤130000000000000):
 ∃v' w',(Builtin.append_ #[t,u] ty #[v,.string s]).run P w=.ok v' w'∧w'.ownsRow 0 e 1 v' (n + s.size) (xs++Lib.strCells s)∧w.grownBy w' v.ownBlock∧(v'.ownBlock=v.ownBlock∨v'.ownBlock=some w.heap.size):=by
 obtain⟨v',w',h1,h2,h3,h4⟩:=Lib.run_append_own_string (P:=P) w 0 t u ty e i ht hu hi hz hsize hby v n xs hown s (by unfold maxLen;omega) (by omega) (Nat.zero_le _);refine⟨v',w',h1,h2,h3,?_⟩
 have hxl:xs.length=n:=by simpa using hown.1
 rcases hown.2 with⟨rfl,rfl⟩|⟨g,cap,cur,rfl,hbg,hg,hnc,hcm,hcs,htake⟩
 · by_cases hm:s.size=0
   · have:=h4.2 ⟨rfl,hm⟩
     subst this;exact .inl rfl
   have hr:=run_append_nil_string (P:=P) w t u ty e i (.int .u8 0) ht hu hi hz s (by omega) (by omega) (by rw[hby];omega);rw[h1] at hr;cases hr;exact .inr rfl
 by_cases hroom:n + s.size≤cap
 · have hr:=Lib.run_append_room_string (P:=P) w t u ty e i ht hu hi hsize g n cap cur hg s hroom (by omega)
   rw[h1] at hr;cases hr;exact .inl rfl
 have holds:∀j u,xs[j]? =some u→w.cell? ((⟨g,0,none⟩:Addr).add j)=some u:=hown.cells (g:=g) rfl
 have hr:=Lib.run_append_grow_string (P:=P) w t u ty e i (.int .u8 0) ht hu hi hz ⟨g,0,none⟩ n cap xs (by rw[hsize];simpa using hxl) holds s (by omega) (by omega) (by rw[hby];exact growslice_fits (by omega) (by omega));rw[h1] at hr;cases hr;exact .inr rfl
theorem Zcg {P:Program} {ops:Array Oper} {rest:List Oper} {o:Oper} {a:Act} {Q:Exit→Act→World→Prop} {L0 L F:List Part} {w0 w:World} {e:TypeId} {n:Nat} {v:Value} {xs:List Value} {i:TypeInfo} (hg:o.guard=none) (s' x:Operand) (t u:TypeId) (ho:o.op=.call {callee:=.builtin .append,args:= #[s',x],argTypes:= #[t,u]})
 (ht:P.underlying t=some (.slice e)) (hu:P.underlying u=some .string) (hi:P.info? e=some i) (hz:i.zero=some (.int .u8 0)) (hsize:i.size=1) (hby:i.bytes=1)
 (h:At L0 w0 L w) (s:Sel (Part.row e 1 v n xs) L F) (hs:a.eval s'=v) {tx:ByteArray} (hx:a.eval x=.string tx) (h63:n + tx.size≤130000000000000)
 (hK:∀v' w',At L0 w0 (Part.row e 1 v' (n + tx.size) (xs++Lib.strCells tx)::F) w'→wpList P ops Q rest (a.put o.dst v') w'):wpList P ops Q (o::rest) a w:=by
 obtain⟨v',w',h1,h2,h3,h4⟩:=Zij (P:=P) (ty:=o.type) w ht hu hi hz hsize hby v n xs (h.get s) tx h63
 refine Zak hg ?_ (hK v' w' (h.turn s _ h2 (fun b hb=>by
  rcases h4 with h4|h4
  · exact .inl (show v.ownBlock=some b from by rw[←h4];exact hb)
  right
  have hb':v'.ownBlock=some b:=hb;rw[h4] at hb';cases hb'
  exact Nat.le_refl _) (Zbq h3)))
 simp[execOp,ho,resolve,invoke,builtin,hs,hx,h1,Result.andThen]
def textB (s:ByteArray):List Int:=Zan s.size++textL s
theorem Zf3 {w:World} {b:Nat} {u:Value} {l:List Int} (h:Sep [outC b u,rowY u l] w) (s:ByteArray) (hsz:s.size≤20000000000000) (hl:l.length≤100000000000000):
 Calls Tryz.prog 80 #[.pointer (some ⟨b,0,none⟩),.string s] w (ZaC w b u l (textB s)):=by
 obtain⟨i0,hi0,hz0,hz1,hz2⟩:=info_parts infoY;have hA:=At.start h;have hF:=hA.facts
 have hw:IntKind.u64.wrap (s.size:Int)=(s.size:Int):=by rw[IntKind.wrap_u64];omega
 have hnl:(Zan s.size).length≤10:=Zaq 9 s.size (by omega);obtain⟨hA,hF⟩:=fZ hA
 go_enter Tryz.func80,Tryz.ntmps80
 go_wp2_with fail
 refine(Zbm h s.size (by omega) hl).mono ?_;clear h hF hA;rintro e w' ⟨u',rfl,hA⟩
 have hll:(l++Zan s.size).length≤100000000000010:=by rw[List.length_append];omega
 obtain⟨l2,hl2⟩:∃z,l++Zan s.size=z:=⟨_,rfl⟩
 rw[hl2] at hA hll;obtain⟨ax,an,cap,hav,han⟩:=hA.row_hid (v:=u') (n:=l2.length) (xs:=flatY l2) sR;subst hav;have han2:=han.out;subst han2;clear han;obtain⟨hA,hF⟩:=fZ hA
 go_wp2_with (first
  |(with_reducible show wpList _ _ _ ({dst:=_,op:=Op.call {callee:=Callee.builtin Builtin.append,args:=_,argTypes:=_},type:=_,pos:=_,after:=_,guard:=_}::_) _ _;refine Zcg (e:=5) (v:=.slice ax l2.length cap) (xs:=flatY l2) (n:=l2.length) (tx:=s) rfl _ _ 62 9 rfl Tryz.underlying62 Tryz.underlying9 hi0 hz0 hz1 hz2 hA sR (by(try simp only[Act.eval,eV])<;>exact rfl) (by(try simp only[Act.eval,eV])<;>exact rfl) (by omega) ?_;intro v2 w7 hB;rw[ZlU,←Zec,Zc0] at hB;obtain⟨cx,cn,ccap,hcv,hcn⟩:=hB.row_hid (v:=v2) (n:=(l2++textL s).length) (xs:=flatY (l2++textL s)) sR;subst hcv;clear hF hA;have hA:=hB;clear hB;obtain⟨hA,hF⟩:=fZ hA)
  |((with_reducible refine gst ?_);refine wTz hA ?_;clear hF hA;intro w1 hA hF)|((with_reducible refine gbx ?_);refine wCz hA ?_;clear hF hA;intro b1 w1 hA hb1 hF))
 go_ret;refine⟨.slice cx cn ccap,rfl,?_⟩;have hE:=hA.only2 (A:=outC b (.slice cx cn ccap)) (B:=rowY (.slice cx cn ccap) (l2++textL s)) sR sR;rw[←hl2,List.append_assoc] at hE;exact hE
end Wire
end
section
namespace Wire
open Go.RowKit
theorem Zg7 (l:List Int):flatY l=l.map (Value.int .u8):=by
 induction l with
 |nil=>rfl
 |cons x l ih=>show encY x++flatY l=_;rw[ih];rfl
theorem ZeA (l:List Int) (i:Nat) (hi:i < l.length):(flatY l)[i]? =some (.int .u8 l[i]):=by
 rw[Zg7,List.getElem?_map,List.getElem?_eq_getElem hi];rfl
theorem Zli {L0 L F:List Part} {w0 w:World} {v:Value} {l:List Int} (hA:At L0 w0 L w) (s:Sel (rowY v l) L F) (hl:l.length≤140000000000000):
 Calls Tryz.prog 83 #[v] w fun e w'=>∃v',e=.returned v'∧At L0 w0 (rowY v' l::L) w':=by
 obtain⟨ax,cap,rfl,hax,hcap,_⟩:=hA.row_form (v:=v) (n:=l.length) (xs:=flatY l) s;have hr:=hA.row_reads (v:=.slice ax l.length cap) (n:=l.length) (xs:=flatY l) s
 cases ax with
 |none=>
  have h0:l=[]:=List.eq_nil_of_length_eq_zero (hax rfl);subst h0
  refine(Tryz.bytes_Clone_nil _ cap w).mono fun e w' h=> ?_
  obtain⟨he,hw⟩:=h;subst he;subst hw;exact⟨_,rfl,ZfQ hA⟩
 |some a=>
  refine(Tryz.bytes_Clone_at a l.length cap l w rfl (by omega) ?_).mono fun e w' h=> ?_
  · intro i hi
    obtain⟨ax',c',hv',_,hc⟩:=hr;cases hv';obtain⟨b,off,h,hx⟩:=hc i _ (ZeA l i hi);cases h;rw[List.getD_eq_getElem?_getD,List.getElem?_eq_getElem hi]
    by_cases q:i=0
    · subst q;simpa [Addr.add] using hx
    simpa [Addr.add,q] using hx
  obtain⟨v',rfl,hown,_,hb⟩:=h
  refine⟨v',rfl,?_⟩;have:=hA.row_new (e:=5) (size:=1) (n:=l.length) (xs:=flatY l) (v:=v') hb (by rw[Zg7];exact hown);exact this
theorem Zmv {w:World} {b:Nat} {u:Value} {l:List Int} (h:Sep [outC b u,rowY u l] w) (hl:l.length≤140000000000000):
 Calls Tryz.prog 23 #[.pointer (some ⟨b,0,none⟩)] w fun e w'=>∃v,e=.returned v∧At [outC b u,rowY u l] w [rowY v l,outC b u,rowY u l] w':=by
 have hA:=At.start h;have hF:=hA.facts;clear h;obtain⟨ax,cap,rfl,hax,hcap,_⟩:=hA.row_form (v:=u) (n:=l.length) (xs:=flatY l) sR;obtain⟨hA,hF⟩:=fZ hA
 go_enter Tryz.func23,Tryz.ntmps23
 go_wp2_with fail
 refine(Zli (v:=.slice ax l.length cap) (l:=l) hA sR hl).mono ?_;rintro e w1 ⟨v,rfl,hB⟩
 go_wp2_with fail
 go_ret;exact⟨v,rfl,hB⟩
def SmRel (w:World) (u v:Value) (a c:List Int) (k:Nat) (x:Value) (wr:World):Prop:=
 ∃i:Nat,x=.int .i64 i∧i + k=a.length∧a.take i=c.take i∧At [rowY u a,rowY v c] w [rowY u a,rowY v c] wr
theorem Zl1 {w:World} {u v:Value} {a c:List Int} (h:Sep [rowY u a,rowY v c] w) (hl:a.length≤140000000000000):
 Calls Tryz.prog 53 #[u,v] w fun e w'=>e=.returned (.bool (decide (a=c)))∧At [rowY u a,rowY v c] w [rowY u a,rowY v c] w':=by
 have hA:=At.start h;have hF:=hA.facts;clear h;obtain⟨ax,acap,rfl,hax,hacap,_⟩:=hA.row_form (v:=u) (n:=a.length) (xs:=flatY a) sR;obtain⟨cx,ccap,rfl,hcx,hccap,_⟩:=hA.row_form (v:=v) (n:=c.length) (xs:=flatY c) sR;obtain⟨hA,hF⟩:=fZ hA
 go_enter Tryz.func53,Tryz.ntmps53
 by_cases hn:a.length=c.length
 · have hn':((a.length:Int) != (c.length:Int))=false:=by simp[hn]
   go_wp2_with fail
   try go_frame
   clear hn'
   go_loopg [5] a.length (SmRel w (.slice ax a.length acap) (.slice cx c.length ccap) a c)
   case atStart=>exact⟨0,rfl,by simp,by simp,hA⟩
   case round=>
    obtain⟨i,rfl,hik,htk,hB⟩:=hrel;have htk':=Hd htk;clear hF hA htk;have hA:=hB;clear hB;have hnx:=Hd hn
    by_cases hi:i < a.length
    · have hic:i < c.length:=by omega
      have hy:=ZeA a i hi;have hz:=ZeA c i hic;obtain⟨ga,ca,rfl,ap1,am,al,atk,hB⟩:=hA.row_open (ax:=ax) (cap:=acap) (n:=a.length) (xs:=flatY a) sR (by omega)
      replace hA:=hB
      clear hB;obtain⟨gc,cc,rfl,cp1,cm,cl,ct,hB⟩:=hA.row_open (ax:=cx) (cap:=ccap) (n:=c.length) (xs:=flatY c) sR (by omega)
      replace hA:=hB
      clear hB
      have f1:ca[i]? =some (.int .u8 a[i]):=by
       rw[←hy,←atk,List.getElem?_take_of_lt (by omega)]
      have f2:cc[i]? =some (.int .u8 c[i]):=by
       rw[←hz,←ct,List.getElem?_take_of_lt (by omega)]
      have hstep:=Hd (show a[i]=c[i]→a.take (i + 1)=c.take (i + 1) from fun q=>by
       rw[List.take_succ_eq_append_getElem hi,List.take_succ_eq_append_getElem hic,htk'.out,q])
      have hne:=Hd (show a[i]≠c[i]→a≠c from fun q e=>q (by subst e;rfl))
      obtain⟨y,hyy⟩:∃y,a[i]=y:=⟨_,rfl⟩
      obtain⟨z,hzz⟩:∃z,c[i]=z:=⟨_,rfl⟩
      rw[hyy] at f1 hstep hne;rw[hzz] at f2 hstep hne;clear hy hz hyy hzz hn;obtain⟨hA,hF⟩:=fZ hA
      by_cases hq:y=z
      · subst hq
        have hs2:=Hd (hstep.out rfl);clear hstep hne
        go_wp2_with fail
        try go_frame
        refine cl2 hA ?_;clear hF hA;intro w1 hA hF;(try simp only[uZ] at hA hF)
        go_wp2_with fail
        go_roundg (gk - 1)
        case measure=>omega
        case rel=>
         have hS1:=hA.row_shut (e:=5) (size:=1) (n:=a.length) (cap:=acap) (xs:=flatY a) (g:=ga) (c:=ca) sR al ap1 am atk;have hS2:=hS1.row_shut (e:=5) (size:=1) (n:=c.length) (cap:=ccap) (xs:=flatY c) (g:=gc) (c:=cc) sR cl cp1 cm ct;exact⟨i + 1,by simp,by omega,hs2.out,hS2.pick pZ⟩
      have hq':(y != z)=true:=by simp[hq]
      have hf:decide (a=c)=false:=decide_eq_false (hne.out hq);clear hstep hne
      go_wp2_with fail
      try go_frame
      refine cl2 hA ?_;clear hF hA;intro w1 hA hF;(try simp only[uZ] at hA hF)
      go_wp2_with fail
      go_ret;have hS1:=hA.row_shut (e:=5) (size:=1) (n:=a.length) (cap:=acap) (xs:=flatY a) (g:=ga) (c:=ca) sR al ap1 am atk;have hS2:=hS1.row_shut (e:=5) (size:=1) (n:=c.length) (cap:=ccap) (xs:=flatY c) (g:=gc) (c:=cc) sR cl cp1 cm ct;exact⟨by rw[hf];rfl,hS2.pick pZ⟩
    have hac:a=c:=by
     have:=htk'.out
     rwa [List.take_of_length_le (by omega),List.take_of_length_le (by omega)] at this
    have hf:decide (a=c)=true:=decide_eq_true hac;have hf':=Hd hf;clear hf hac hn;obtain⟨hA,hF⟩:=fZ hA
    go_wp2_with fail
    go_ret;exact⟨by rw[hf'.out];rfl,hA⟩
 have hn':((a.length:Int) != (c.length:Int))=true:=by simp;omega
 have hf:decide (a=c)=false:=decide_eq_false (fun e=>hn (by rw[e]))
 go_wp2_with fail
 go_ret;exact⟨by rw[hf];rfl,hA⟩
end Wire
end
section
namespace Lease
open Go.RowKit
open _root_.Go.Proofs.YtkdjkngfnapjcaaGreatDoor.Wire
open _root_.Go.Proofs.YtkdjkngfnapjcaaGreatDoor.Sess (seL sortS)
attribute [-go_sem] run_eql_struct run_neq_struct run_eqGuard_agg
def wrN (e:Int):Nat:=(e % 18446744073709551616).toNat
def bB (t:Bool):List Int:=[if t then(1:Int) else 0]
def encA (a:AR):List Int:=Zan a.r.toNat++Zan (wrN a.e)++fixL a.n.toNat++bB a.g
def encS (s:SR):List Int:=fixL s.num.toNat++textB s.foot++bB s.op++bB s.dead++Zan s.dl.toNat++Zan s.ttl.toNat++Zan s.told.length++s.told.flatMap encA
def encL (L:List SR):List Int:=Zan L.length++L.flatMap encS
theorem ZaC.r {w w':World} {b:Nat} {u:Value} {l m:List Int} {e:Ending} (h:ZaC w b u l m e w'):∃x,e=.returned x∧(x=.pointer (some ⟨b,0,none⟩)∧∃u',At [outC b u,rowY u l] w [outC b u',rowY u' (l++m)] w'):=by
 obtain⟨u',rfl,hT⟩:=h;exact⟨_,rfl,rfl,u',hT⟩
theorem Zgv (s:ByteArray) (h:s.size≤20000000000000):(textB s).length≤10 + s.size:=by
 have h1:=Zaq 9 s.size (by omega);unfold textB;rw[List.length_append,Zec]
 omega
def PvRel (w:World) (p m b g bI bK:Nat) (ss:List Ses) (c cI cK:List Value) (u00:Value) (l00:List Int) (l7:List Int) (told:List AR) (vq:Value) (k:Nat) (x:Value) (wr:World):Prop:=
 ∃(j:Nat) (u:Value) (l:List Int),x=.int .i64 j∧j + k=told.length∧l=l7++(told.take j).flatMap encA∧l.length≤l7.length + j * 29∧At [BookP p m ss,outC b u00,rowY u00 l00] w [Part.row 23 1 vq told.length ((told.map (·.r)).flatMap Unt.seL),outC b u,rowY u l,.cells bI cI 121,BookP p m ss,.cells bK cK 25,.cells g c 25] wr
def PuRel (w:World) (p m b:Nat) (ss:List Ses) (L:List SR) (u0:Value) (l0:List Int) (vl:Value) (k:Nat) (x:Value) (wr:World):Prop:=
 ∃(i:Nat) (u:Value) (l:List Int),x=.int .i64 i∧i + k=L.length∧l=l0++Zan L.length++(L.take i).flatMap encS∧l.length≤l0.length + 10 + i * 2100000∧At [BookP p m ss,outC b u0,rowY u0 l0] w [Part.row 25 2 vl L.length ((L.map keyR).flatMap seL),BookP p m ss,outC b u,rowY u l] wr
theorem put_any {w:World} {p m b:Nat} {ss:List Ses} {L:List SR} {u00:Value} {l00:List Int} (h:Sep [BookP p m ss,outC b u00,rowY u00 l00] w) (hR:Rel ss L) (hk:∀s ∈ L,0≤s.num∧s.num < big64∧s.foot.size≤2000000) (hl:L.length≤100000) (hl0:l00.length≤1000000000000):
 Calls Tryz.prog 130 #[.pointer (some ⟨p,0,none⟩),.pointer (some ⟨b,0,none⟩)] w fun e w'=>e=.returned (.tuple #[])∧∃u,At [BookP p m ss,outC b u00,rowY u00 l00] w [BookP p m ss,outC b u,rowY u (l00++encL L)] w':=by
 have hm:Tryz.prog.follows .mixedOrders=true:=by kernel_rfl
 have hA:=At.start h;have hF:=hA.facts;clear h;have hR':=Hd hR;have hk':=Hd hk
 have hss:ss.length≤1000000:=by rw[hR.len];omega
 clear hR hk;obtain⟨hA,hF⟩:=fZ hA
 go_enter Tryz.func130,Tryz.ntmps130
 go_wp2_with fail
 refine(ZdE (hA.sep1 (A:=BookP p m ss) sR) hss).mono ?_;rintro e w1 ⟨vl,rfl,hT⟩;have hB:=hA.call1 (A:=BookP p m ss) sR hT;rw[hR'.out.sessions] at hB;simp only[uA] at hB;clear hF hA hT;have hA:At _ w (Part.row 25 2 vl (L.map keyR).length ((L.map keyR).flatMap seL)::_) _:=hB;clear hB;rw[List.length_map] at hA;obtain⟨lx,lcap,rfl,hlx,hlcap,_⟩:=hA.row_form (v:=vl) (n:=L.length) (xs:=(L.map keyR).flatMap seL) sR
 have hwL:IntKind.u64.wrap (L.length:Int)=(L.length:Int):=by rw[IntKind.wrap_u64];omega
 obtain⟨hA,hF⟩:=fZ hA
 go_wp2_with fail
 refine(Zbm (hA.sep2 (A:=outC b u00) (B:=rowY u00 l00) sR sR) L.length (by omega) (by omega)).mono ?_;rintro e w2 ⟨u1,rfl,hT⟩;have hB:=hA.call2 (A:=outC b u00) (B:=rowY u00 l00) sR sR hT;have hsl:=Zaq 9 L.length (by omega);clear hF hA hT;have hA:=hB;clear hB;simp only[uA] at hA;obtain⟨hA,hF⟩:=fZ hA
 go_wp2_with fail
 try go_frame
 go_loopg [21] L.length (PuRel w p m b ss L u00 l00 (.slice lx L.length lcap))
 case atStart=>exact⟨0,u1,l00++Zan L.length,rfl,by simp,by simp,by rw[List.length_append];omega,hA.pick pZ⟩
 case round=>
  obtain⟨i,u0,l0,rfl,hik,hle,hll,hB⟩:=hrel;have hle':=Hd hle;clear hF hA hle hsl;have hA:=hB;clear hB
  by_cases hi:i < L.length
  · have hmem:=List.getElem_mem hi
    obtain⟨n0,n1,hfz⟩:=hk'.out _ hmem;have hrs:=hR'.out.mine hmem;have htk:=Hd (List.take_succ_eq_append_getElem hi);obtain⟨g,c,rfl,cp1,cm,cl,ct,hB⟩:=hA.row_open (ax:=lx) (cap:=lcap) (n:=L.length) (xs:=(L.map keyR).flatMap seL) sR (by omega)
    have hx:(L.map keyR)[i]? =some (keyR L[i]):=by rw[List.getElem?_map,List.getElem?_eq_getElem hi];rfl
    have ct2:c.take ((L.map keyR).length * 2)=(L.map keyR).flatMap seL:=by rw[List.length_map];exact ct
    have c0:c[i * 2]? =some (.int .u64 L[i].num):=Zaf Sess.seL_len ct2 hx 0 (by omega);have c1:c[i * 2 + 1]? =some (.string L[i].foot):=Zaf Sess.seL_len ct2 hx 1 (by omega)
    obtain⟨s,hs⟩:∃s,L[i]=s:=⟨_,rfl⟩
    rw[hs] at hrs htk c0 c1 n0 n1 hfz;clear hA hx hs hmem;have hA:=hB;clear hB;obtain⟨num,foot,op,dead,dl,ttl,sax,scap,told⟩:=s;simp only at hrs c0 c1 n0 n1 hfz;have htb:=hrs.tb;have hdb:=hrs.db;have htl:=hrs.told.len;simp only at htb hdb htl
    obtain⟨num,rfl⟩:∃k:Nat,num=k:=⟨num.toNat,by omega⟩
    obtain⟨dl,rfl⟩:∃k:Nat,dl=k:=⟨dl.toNat,by omega⟩
    obtain⟨ttl,rfl⟩:∃k:Nat,ttl=k:=⟨ttl.toNat,by omega⟩
    have hn64:num < 18446744073709551616:=by unfold big64 at n1;omega
    have hwd:IntKind.u64.wrap (dl:Int)=(dl:Int):=by rw[IntKind.wrap_u64];omega
    have hwt:IntKind.u64.wrap (ttl:Int)=(ttl:Int):=by rw[IntKind.wrap_u64];omega
    have hws:IntKind.u64.wrap (told.length:Int)=(told.length:Int):=by rw[IntKind.wrap_u64];omega
    have hft:=Zgv foot (by omega)
    have hmx:foot.size≤maxLen:=by unfold maxLen;omega
    have hrs':=Hd hrs;have hib:i * 2100000≤100000 * 2100000:=Nat.mul_le_mul_right _ (by omega);clear hrs;obtain⟨hA,hF⟩:=fZ hA
    go_wp2_with (first|((with_reducible refine gal ?_);refine wGz 25 [.int .u64 0,.string .empty] hA ?_;clear hF hA;intro bK w1 hA hbK hF)|((with_reducible refine gst ?_);refine wTz hA ?_;clear hF hA;intro w1 hA hF))
    refine(Zg1 (hA.sep1 (A:=BookP p m ss) sR) n0 n1 hmx hrs'.out).mono ?_;rintro e w3 ⟨rfl,hT⟩;replace hA:=hA.call1 (A:=BookP p m ss) sR hT;clear hF hT;simp only[uA] at hA;obtain⟨hA,hF⟩:=fZ hA
    go_wp2_with (first|((with_reducible refine gal ?_);refine wGz 121 [.bool false,.bool false,.int .i64 0,.int .i64 0,.int .i64 0] hA ?_;clear hF hA;intro bI w1 hA hbI hF)|((with_reducible refine gst ?_);refine wTz hA ?_;clear hF hA;intro w1 hA hF))
    try go_frame
    have hAd:=hA.drew;clear hF hA;have hA:=hAd;clear hAd;refine wp_region_held (S:=fun w'=>Zab w' bK [.int .u64 (num:Int),.string foot] 25∧Zab w' bI [.bool op,.bool dead,.int .i64 (dl:Int),.int .i64 (ttl:Int),.int .i64 (told.length:Int)] 121) hm ?_;change wpAnyH _ _ _ _ _ 25 _ _ (World.drew _)
    generalize World.drew _=w2 at *
    have hS0:=(show Zab _ bK [.int .u64 (num:Int),.string foot] 25∧Zab _ bI [.bool op,.bool dead,.int .i64 (dl:Int),.int .i64 (ttl:Int),.int .i64 (told.length:Int)] 121 from⟨hA.get (A:=.cells bK [.int .u64 (num:Int),.string foot] 25) sR,hA.get (A:=.cells bI [.bool op,.bool dead,.int .i64 (dl:Int),.int .i64 (ttl:Int),.int .i64 (told.length:Int)] 121) sR⟩)
    refine tZ 0 28 ((.pointer (some ⟨b,0,none⟩))) (r:=(fun w' hS=>by simp[execOp,go_sem,Act.eval,Act.put])) (s:=hS0) (h:= ?_);go_frame;refine tZ 1 29 ((.pointer (some ⟨bK,0,none⟩))) (r:=(fun w' hS=>by kernel_rfl)) (s:=hS0) (h:= ?_);go_frame;refine tZ 2 30 ((.int .u64 (num:Int))) (r:=(fun w' hS=>Zac (b:=bK) (j:=0) rfl (by exact rfl) hS.1 (by kernel_rfl) rfl)) (s:=hS0) (h:= ?_);go_frame;refine tZ 4 32 ((.pointer (some ⟨bK,1,none⟩))) (r:=(fun w' hS=>by kernel_rfl)) (s:=hS0) (h:= ?_);go_frame;refine tZ 5 33 ((.string foot)) (r:=(fun w' hS=>Zac (b:=bK) (j:=1) rfl (by exact rfl) hS.1 (by kernel_rfl) rfl)) (s:=hS0) (h:= ?_);go_frame;refine tZ 7 35 ((.pointer (some ⟨bI,0,none⟩))) (r:=(fun w' hS=>by kernel_rfl)) (s:=hS0) (h:= ?_);go_frame;refine tZ 8 36 ((.bool op)) (r:=(fun w' hS=>Zac (b:=bI) (j:=0) rfl (by exact rfl) hS.2 (by kernel_rfl) rfl)) (s:=hS0) (h:= ?_);go_frame;refine tZ 10 38 ((.pointer (some ⟨bI,1,none⟩))) (r:=(fun w' hS=>by kernel_rfl)) (s:=hS0) (h:= ?_);go_frame;refine tZ 11 39 ((.bool dead)) (r:=(fun w' hS=>Zac (b:=bI) (j:=1) rfl (by exact rfl) hS.2 (by kernel_rfl) rfl)) (s:=hS0) (h:= ?_);go_frame;refine tZ 13 41 ((.pointer (some ⟨bI,2,none⟩))) (r:=(fun w' hS=>by kernel_rfl)) (s:=hS0) (h:= ?_);go_frame;refine tZ 14 42 ((.int .i64 (dl:Int))) (r:=(fun w' hS=>Zac (b:=bI) (j:=2) rfl (by exact rfl) hS.2 (by kernel_rfl) rfl)) (s:=hS0) (h:= ?_);go_frame;refine tZ 15 43 ((.int .u64 (dl:Int))) (r:=(fun w' hS=>by simp[execOp,go_sem,Act.eval,Act.put,hwd])) (s:=hS0) (h:= ?_);go_frame;refine tZ 17 45 ((.pointer (some ⟨bI,3,none⟩))) (r:=(fun w' hS=>by kernel_rfl)) (s:=hS0) (h:= ?_);go_frame;refine tZ 18 46 ((.int .i64 (ttl:Int))) (r:=(fun w' hS=>Zac (b:=bI) (j:=3) rfl (by exact rfl) hS.2 (by kernel_rfl) rfl)) (s:=hS0) (h:= ?_);go_frame;refine tZ 19 47 ((.int .u64 (ttl:Int))) (r:=(fun w' hS=>by simp[execOp,go_sem,Act.eval,Act.put,hwt])) (s:=hS0) (h:= ?_);go_frame;refine tZ 21 49 ((.pointer (some ⟨bI,4,none⟩))) (r:=(fun w' hS=>by kernel_rfl)) (s:=hS0) (h:= ?_);go_frame;refine tZ 22 50 ((.int .i64 (told.length:Int))) (r:=(fun w' hS=>Zac (b:=bI) (j:=4) rfl (by exact rfl) hS.2 (by kernel_rfl) rfl)) (s:=hS0) (h:= ?_);go_frame;refine tZ 23 51 ((.int .u64 (told.length:Int))) (r:=(fun w' hS=>by simp[execOp,go_sem,Act.eval,Act.put,hws])) (s:=hS0) (h:= ?_);go_frame;clear hS0;refine Zaa (i:=3) (by kernel_rfl) ?_;refine Zar (i:=3) (d:=some 31) rfl rfl rfl (fn:=81) (args:= #[(.pointer (some ⟨b,0,none⟩)),.int .u64 (num:Int)]) (by simp[execOp,go_sem,Act.eval,Act.put]) ((Zc4 (hA.sep2 (A:=outC b u0) (B:=rowY u0 l0) sR sR) num hn64 (by omega)).mono (fun e w' h=>ZaC.r h)) ?_;rintro xq zq ⟨rfl,u1,hT⟩;have hB:=hA.call2 (A:=outC b u0) (B:=rowY u0 l0) sR sR hT
    obtain⟨l1,he1⟩:∃z,l0++fixL num=z:=⟨_,rfl⟩
    have hl1:l1.length≤l0.length + 8:=by have:=(show(fixL num).length≤8 from by simp[fixL]);rw[←he1,List.length_append];omega
    rw[he1] at hB;have he1':=Hd he1;clear hA hT he1;have hA:=hB;clear hB;simp only[uA] at hA;refine⟨(show Zab _ bK [.int .u64 (num:Int),.string foot] 25∧Zab _ bI [.bool op,.bool dead,.int .i64 (dl:Int),.int .i64 (ttl:Int),.int .i64 (told.length:Int)] 121 from⟨hA.get (A:=.cells bK [.int .u64 (num:Int),.string foot] 25) sR,hA.get (A:=.cells bI [.bool op,.bool dead,.int .i64 (dl:Int),.int .i64 (ttl:Int),.int .i64 (told.length:Int)] 121) sR⟩),?_⟩;go_frame;refine Zaa (i:=6) (by kernel_rfl) ?_;refine Zar (i:=6) (d:=some 34) rfl rfl rfl (fn:=80) (args:= #[(.pointer (some ⟨b,0,none⟩)),.string foot]) (by simp[execOp,go_sem,Act.eval,Act.put]) ((Zf3 (hA.sep2 (A:=outC b u1) (B:=rowY u1 l1) sR sR) foot (by omega) (by omega)).mono (fun e w' h=>ZaC.r h)) ?_;rintro xq zq ⟨rfl,u2,hT⟩;have hB:=hA.call2 (A:=outC b u1) (B:=rowY u1 l1) sR sR hT
    obtain⟨l2,he2⟩:∃z,l1++textB foot=z:=⟨_,rfl⟩
    have hl2:l2.length≤l1.length + (10 + foot.size):=by have:=hft;rw[←he2,List.length_append];omega
    rw[he2] at hB;have he2':=Hd he2;clear hA hT he2;have hA:=hB;clear hB;simp only[uA] at hA;refine⟨(show Zab _ bK [.int .u64 (num:Int),.string foot] 25∧Zab _ bI [.bool op,.bool dead,.int .i64 (dl:Int),.int .i64 (ttl:Int),.int .i64 (told.length:Int)] 121 from⟨hA.get (A:=.cells bK [.int .u64 (num:Int),.string foot] 25) sR,hA.get (A:=.cells bI [.bool op,.bool dead,.int .i64 (dl:Int),.int .i64 (ttl:Int),.int .i64 (told.length:Int)] 121) sR⟩),?_⟩;go_frame;refine Zaa (i:=9) (by kernel_rfl) ?_;refine Zar (i:=9) (d:=some 37) rfl rfl rfl (fn:=181) (args:= #[(.pointer (some ⟨b,0,none⟩)),.bool op]) (by simp[execOp,go_sem,Act.eval,Act.put]) ((Zf2 (hA.sep2 (A:=outC b u2) (B:=rowY u2 l2) sR sR) op (by omega)).mono (fun e w' h=>ZaC.r h)) ?_;rintro xq zq ⟨rfl,u3,hT⟩;have hB:=hA.call2 (A:=outC b u2) (B:=rowY u2 l2) sR sR hT
    obtain⟨l3,he3⟩:∃z,l2++[if op then(1:Int) else 0]=z:=⟨_,rfl⟩
    have hl3:l3.length≤l2.length + 1:=by have:=(show([if op then(1:Int) else 0]:List Int).length≤1 from Nat.le_refl _);rw[←he3,List.length_append];omega
    rw[he3] at hB;have he3':=Hd he3;clear hA hT he3;have hA:=hB;clear hB;simp only[uA] at hA;refine⟨(show Zab _ bK [.int .u64 (num:Int),.string foot] 25∧Zab _ bI [.bool op,.bool dead,.int .i64 (dl:Int),.int .i64 (ttl:Int),.int .i64 (told.length:Int)] 121 from⟨hA.get (A:=.cells bK [.int .u64 (num:Int),.string foot] 25) sR,hA.get (A:=.cells bI [.bool op,.bool dead,.int .i64 (dl:Int),.int .i64 (ttl:Int),.int .i64 (told.length:Int)] 121) sR⟩),?_⟩;go_frame;refine Zaa (i:=12) (by kernel_rfl) ?_;refine Zar (i:=12) (d:=some 40) rfl rfl rfl (fn:=181) (args:= #[(.pointer (some ⟨b,0,none⟩)),.bool dead]) (by simp[execOp,go_sem,Act.eval,Act.put]) ((Zf2 (hA.sep2 (A:=outC b u3) (B:=rowY u3 l3) sR sR) dead (by omega)).mono (fun e w' h=>ZaC.r h)) ?_;rintro xq zq ⟨rfl,u4,hT⟩;have hB:=hA.call2 (A:=outC b u3) (B:=rowY u3 l3) sR sR hT
    obtain⟨l4,he4⟩:∃z,l3++[if dead then(1:Int) else 0]=z:=⟨_,rfl⟩
    have hl4:l4.length≤l3.length + 1:=by have:=(show([if dead then(1:Int) else 0]:List Int).length≤1 from Nat.le_refl _);rw[←he4,List.length_append];omega
    rw[he4] at hB;have he4':=Hd he4;clear hA hT he4;have hA:=hB;clear hB;simp only[uA] at hA;refine⟨(show Zab _ bK [.int .u64 (num:Int),.string foot] 25∧Zab _ bI [.bool op,.bool dead,.int .i64 (dl:Int),.int .i64 (ttl:Int),.int .i64 (told.length:Int)] 121 from⟨hA.get (A:=.cells bK [.int .u64 (num:Int),.string foot] 25) sR,hA.get (A:=.cells bI [.bool op,.bool dead,.int .i64 (dl:Int),.int .i64 (ttl:Int),.int .i64 (told.length:Int)] 121) sR⟩),?_⟩;go_frame;refine Zaa (i:=16) (by kernel_rfl) ?_;refine Zar (i:=16) (d:=some 44) rfl rfl rfl (fn:=142) (args:= #[(.pointer (some ⟨b,0,none⟩)),.int .u64 (dl:Int)]) (by simp[execOp,go_sem,Act.eval,Act.put]) ((Zbm (hA.sep2 (A:=outC b u4) (B:=rowY u4 l4) sR sR) (dl) (by omega) (by omega)).mono (fun e w' h=>ZaC.r h)) ?_;rintro xq zq ⟨rfl,u5,hT⟩;have hB:=hA.call2 (A:=outC b u4) (B:=rowY u4 l4) sR sR hT
    obtain⟨l5,he5⟩:∃z,l4++Zan (dl)=z:=⟨_,rfl⟩
    have hl5:l5.length≤l4.length + 10:=by have:=Zaq 9 (dl) (by omega);rw[←he5,List.length_append];omega
    rw[he5] at hB;have he5':=Hd he5;clear hA hT he5;have hA:=hB;clear hB;simp only[uA] at hA;refine⟨(show Zab _ bK [.int .u64 (num:Int),.string foot] 25∧Zab _ bI [.bool op,.bool dead,.int .i64 (dl:Int),.int .i64 (ttl:Int),.int .i64 (told.length:Int)] 121 from⟨hA.get (A:=.cells bK [.int .u64 (num:Int),.string foot] 25) sR,hA.get (A:=.cells bI [.bool op,.bool dead,.int .i64 (dl:Int),.int .i64 (ttl:Int),.int .i64 (told.length:Int)] 121) sR⟩),?_⟩;go_frame;refine Zaa (i:=20) (by kernel_rfl) ?_;refine Zar (i:=20) (d:=some 48) rfl rfl rfl (fn:=142) (args:= #[(.pointer (some ⟨b,0,none⟩)),.int .u64 (ttl:Int)]) (by simp[execOp,go_sem,Act.eval,Act.put]) ((Zbm (hA.sep2 (A:=outC b u5) (B:=rowY u5 l5) sR sR) (ttl) (by omega) (by omega)).mono (fun e w' h=>ZaC.r h)) ?_;rintro xq zq ⟨rfl,u6,hT⟩;have hB:=hA.call2 (A:=outC b u5) (B:=rowY u5 l5) sR sR hT
    obtain⟨l6,he6⟩:∃z,l5++Zan (ttl)=z:=⟨_,rfl⟩
    have hl6:l6.length≤l5.length + 10:=by have:=Zaq 9 (ttl) (by omega);rw[←he6,List.length_append];omega
    rw[he6] at hB;have he6':=Hd he6;clear hA hT he6;have hA:=hB;clear hB;simp only[uA] at hA;refine⟨(show Zab _ bK [.int .u64 (num:Int),.string foot] 25∧Zab _ bI [.bool op,.bool dead,.int .i64 (dl:Int),.int .i64 (ttl:Int),.int .i64 (told.length:Int)] 121 from⟨hA.get (A:=.cells bK [.int .u64 (num:Int),.string foot] 25) sR,hA.get (A:=.cells bI [.bool op,.bool dead,.int .i64 (dl:Int),.int .i64 (ttl:Int),.int .i64 (told.length:Int)] 121) sR⟩),?_⟩;go_frame;refine Zaa (i:=24) (by kernel_rfl) ?_;refine Zar (i:=24) (d:=some 52) rfl rfl rfl (fn:=142) (args:= #[(.pointer (some ⟨b,0,none⟩)),.int .u64 (told.length:Int)]) (by simp[execOp,go_sem,Act.eval,Act.put]) ((Zbm (hA.sep2 (A:=outC b u6) (B:=rowY u6 l6) sR sR) (told.length) (by omega) (by omega)).mono (fun e w' h=>ZaC.r h)) ?_;rintro xq zq ⟨rfl,u7,hT⟩;have hB:=hA.call2 (A:=outC b u6) (B:=rowY u6 l6) sR sR hT
    obtain⟨l7,he7⟩:∃z,l6++Zan (told.length)=z:=⟨_,rfl⟩
    have hl7:l7.length≤l6.length + 10:=by have:=Zaq 9 (told.length) (by omega);rw[←he7,List.length_append];omega
    rw[he7] at hB;have he7':=Hd he7;clear hA hT he7;have hA:=hB;clear hB;simp only[uA] at hA;refine⟨(show Zab _ bK [.int .u64 (num:Int),.string foot] 25∧Zab _ bI [.bool op,.bool dead,.int .i64 (dl:Int),.int .i64 (ttl:Int),.int .i64 (told.length:Int)] 121 from⟨hA.get (A:=.cells bK [.int .u64 (num:Int),.string foot] 25) sR,hA.get (A:=.cells bI [.bool op,.bool dead,.int .i64 (dl:Int),.int .i64 (ttl:Int),.int .i64 (told.length:Int)] 121) sR⟩),?_⟩;go_frame;refine wpAnyH_done (by kernel_rfl) ?_ _
    try go_frame
    obtain⟨hA,hF⟩:=fZ hA
    go_wp2_with fail
    refine(ZfT (hA.sep1 (A:=BookP p m ss) sR) n0 n1 hmx hrs'.out).mono ?_;rintro e w4 ⟨vq,rfl,hT⟩;replace hA:=hA.call1 (A:=BookP p m ss) sR hT;clear hF hT;simp only[uA] at hA;have hB:At _ w (Part.row 23 1 vq (told.map (·.r)).length ((told.map (·.r)).flatMap Unt.seL)::_) _:=hA;rw[List.length_map] at hB;clear hA;have hA:=hB;clear hB;obtain⟨qx,qcap,rfl,hqx,hqcap,_⟩:=hA.row_form (v:=vq) (n:=told.length) (xs:=(told.map (·.r)).flatMap Unt.seL) sR;obtain⟨hA,hF⟩:=fZ hA
    go_wp2_with fail
    try go_frame
    go_loopg [57] told.length (PvRel w p m b g bI bK ss c [.bool op,.bool dead,.int .i64 (dl:Int),.int .i64 (ttl:Int),.int .i64 (told.length:Int)] [.int .u64 (num:Int),.string foot] u00 l00 l7 told (.slice qx told.length qcap))
    case atStart=>exact⟨0,u7,l7,rfl,by simp,by simp,by omega,hA.pick pZ⟩
    case round=>
     obtain⟨j,u20,l20,rfl,hjk,hje,hjl,hB⟩:=hrel;have hje':=Hd hje;clear hF hA hje;have hA:=hB;clear hB
     by_cases hj:j < told.length
     · have hxm:=List.getElem_mem hj
       have hxb:=hrs'.out.told.bd _ hxm;have hxa:=hrs'.out.told.an _ hxm;have htj:=Hd (List.take_succ_eq_append_getElem hj);obtain⟨gq,cq,rfl,qp1,qm,ql,qt,hB⟩:=hA.row_open (ax:=qx) (cap:=qcap) (n:=told.length) (xs:=(told.map (·.r)).flatMap Unt.seL) sR (by omega)
       have hx:(told.map (·.r))[j]? =some told[j].r:=by rw[List.getElem?_map,List.getElem?_eq_getElem hj];rfl
       have qt2:cq.take ((told.map (·.r)).length * 1)=(told.map (·.r)).flatMap Unt.seL:=by rw[List.length_map];exact qt
       have d0:cq[j * 1]? =some (.int .u64 told[j].r):=Zaf (enc:=Unt.seL) (size:=1) (fun _=>rfl) qt2 hx 0 (by omega);rw[Nat.mul_one] at d0
       obtain⟨y,hy⟩:∃y,told[j]=y:=⟨_,rfl⟩
       rw[hy] at hxm hxb hxa htj d0;clear hA hx hy;have hA:=hB;clear hB;obtain⟨r,e,n,gg⟩:=y;unfold okA at hxa;simp only at hxb hxa d0;obtain⟨⟨xe0,xe1⟩,xn0,xn1⟩:=hxa;obtain⟨xr0,xr1⟩:=hxb
       obtain⟨r,rfl⟩:∃k:Nat,r=k:=⟨r.toNat,by omega⟩
       obtain⟨n,rfl⟩:∃k:Nat,n=k:=⟨n.toNat,by omega⟩
       have hr64:r < 18446744073709551616:=by unfold big64 at xr1;omega
       have hn64a:n < 18446744073709551616:=by unfold big64 at xn1;omega
       obtain⟨eN,heNe⟩:∃k:Nat,wrN e=k:=⟨_,rfl⟩
       have heN:eN < 18446744073709551616:=by rw[←heNe];unfold wrN;omega
       have hwe:IntKind.u64.wrap e=(eN:Int):=by rw[←heNe,IntKind.wrap_u64];unfold wrN;omega
       have heNe':=Hd heNe;have hjb:j * 29≤256 * 29:=Nat.mul_le_mul_right _ (by omega);have htold:=ZjY (n:=(num:Int)) (f:=foot) (hA.sep1 (A:=BookP p m ss) sR) n0 n1 hmx hrs'.out hxm;simp only at htold;clear heNe xe0 xe1 hxm;obtain⟨hA,hF⟩:=fZ hA
       go_wp2_with fail
       refine htold.mono ?_;clear htold;rintro e' w5 ⟨rfl,hT⟩;replace hA:=hA.call1 (A:=BookP p m ss) sR hT;clear hF hT;simp only[uA] at hA;obtain⟨hA,hF⟩:=fZ hA
       go_wp2_with (first|((with_reducible refine gal ?_);refine wGz 107 [.int .i64 0,.int .u64 0,.bool false] hA ?_;clear hF hA;intro bA w1 hA hbA hF)|((with_reducible refine gst ?_);refine wTz hA ?_;clear hF hA;intro w1 hA hF))
       try go_frame
       have hAd:=hA.drew;clear hF hA;have hA:=hAd;clear hAd;refine wp_region_held (S:=fun w'=>Zab w' bA [.int .i64 e,.int .u64 (n:Int),.bool gg] 107) hm ?_;change wpAnyH _ _ _ _ _ 13 _ _ (World.drew _)
       generalize World.drew _=w2 at *
       have hS0:=(show Zab _ bA [.int .i64 e,.int .u64 (n:Int),.bool gg] 107 from hA.get (A:=.cells bA [.int .i64 e,.int .u64 (n:Int),.bool gg] 107) sR)
       refine tZ 0 68 ((.pointer (some ⟨b,0,none⟩))) (r:=(fun w' hS=>by simp[execOp,go_sem,Act.eval,Act.put])) (s:=hS0) (h:= ?_);go_frame;refine tZ 1 69 ((.int .u64 (r:Int))) (r:=(fun w' hS=>by simp[execOp,go_sem,Act.eval,Act.put])) (s:=hS0) (h:= ?_);go_frame;refine tZ 3 71 ((.pointer (some ⟨bA,0,none⟩))) (r:=(fun w' hS=>by kernel_rfl)) (s:=hS0) (h:= ?_);go_frame;refine tZ 4 72 ((.int .i64 e)) (r:=(fun w' hS=>Zac (b:=bA) (j:=0) rfl (by exact rfl) hS (by kernel_rfl) rfl)) (s:=hS0) (h:= ?_);go_frame;refine tZ 5 73 ((.int .u64 (eN:Int))) (r:=(fun w' hS=>by simp[execOp,go_sem,Act.eval,Act.put,hwe])) (s:=hS0) (h:= ?_);go_frame;refine tZ 7 75 ((.pointer (some ⟨bA,1,none⟩))) (r:=(fun w' hS=>by kernel_rfl)) (s:=hS0) (h:= ?_);go_frame;refine tZ 8 76 ((.int .u64 (n:Int))) (r:=(fun w' hS=>Zac (b:=bA) (j:=1) rfl (by exact rfl) hS (by kernel_rfl) rfl)) (s:=hS0) (h:= ?_);go_frame;refine tZ 10 78 ((.pointer (some ⟨bA,2,none⟩))) (r:=(fun w' hS=>by kernel_rfl)) (s:=hS0) (h:= ?_);go_frame;refine tZ 11 79 ((.bool gg)) (r:=(fun w' hS=>Zac (b:=bA) (j:=2) rfl (by exact rfl) hS (by kernel_rfl) rfl)) (s:=hS0) (h:= ?_);go_frame;clear hS0;refine Zaa (i:=2) (by kernel_rfl) ?_;refine Zar (i:=2) (d:=some 70) rfl rfl rfl (fn:=142) (args:= #[(.pointer (some ⟨b,0,none⟩)),.int .u64 (r:Int)]) (by simp[execOp,go_sem,Act.eval,Act.put]) ((Zbm (hA.sep2 (A:=outC b u20) (B:=rowY u20 l20) sR sR) r hr64 (by omega)).mono (fun e w' h=>ZaC.r h)) ?_;rintro xq zq ⟨rfl,u21,hT⟩;have hB:=hA.call2 (A:=outC b u20) (B:=rowY u20 l20) sR sR hT
       obtain⟨l21,he21⟩:∃z,l20++Zan r=z:=⟨_,rfl⟩
       have hl21:l21.length≤l20.length + 10:=by have:=Zaq 9 r (by omega);rw[←he21,List.length_append];omega
       rw[he21] at hB;have he21':=Hd he21;clear hA hT he21;have hA:=hB;clear hB;simp only[uA] at hA;refine⟨(show Zab _ bA [.int .i64 e,.int .u64 (n:Int),.bool gg] 107 from hA.get (A:=.cells bA [.int .i64 e,.int .u64 (n:Int),.bool gg] 107) sR),?_⟩;go_frame;refine Zaa (i:=6) (by kernel_rfl) ?_;refine Zar (i:=6) (d:=some 74) rfl rfl rfl (fn:=142) (args:= #[(.pointer (some ⟨b,0,none⟩)),.int .u64 (eN:Int)]) (by simp[execOp,go_sem,Act.eval,Act.put]) ((Zbm (hA.sep2 (A:=outC b u21) (B:=rowY u21 l21) sR sR) eN heN (by omega)).mono (fun e w' h=>ZaC.r h)) ?_;rintro xq zq ⟨rfl,u22,hT⟩;have hB:=hA.call2 (A:=outC b u21) (B:=rowY u21 l21) sR sR hT
       obtain⟨l22,he22⟩:∃z,l21++Zan eN=z:=⟨_,rfl⟩
       have hl22:l22.length≤l21.length + 10:=by have:=Zaq 9 eN (by omega);rw[←he22,List.length_append];omega
       rw[he22] at hB;have he22':=Hd he22;clear hA hT he22;have hA:=hB;clear hB;simp only[uA] at hA;refine⟨(show Zab _ bA [.int .i64 e,.int .u64 (n:Int),.bool gg] 107 from hA.get (A:=.cells bA [.int .i64 e,.int .u64 (n:Int),.bool gg] 107) sR),?_⟩;go_frame;refine Zaa (i:=9) (by kernel_rfl) ?_;refine Zar (i:=9) (d:=some 77) rfl rfl rfl (fn:=81) (args:= #[(.pointer (some ⟨b,0,none⟩)),.int .u64 (n:Int)]) (by simp[execOp,go_sem,Act.eval,Act.put]) ((Zc4 (hA.sep2 (A:=outC b u22) (B:=rowY u22 l22) sR sR) n hn64a (by omega)).mono (fun e w' h=>ZaC.r h)) ?_;rintro xq zq ⟨rfl,u23,hT⟩;have hB:=hA.call2 (A:=outC b u22) (B:=rowY u22 l22) sR sR hT
       obtain⟨l23,he23⟩:∃z,l22++fixL n=z:=⟨_,rfl⟩
       have hl23:l23.length≤l22.length + 8:=by have:=(show(fixL n).length≤8 from by simp[fixL]);rw[←he23,List.length_append];omega
       rw[he23] at hB;have he23':=Hd he23;clear hA hT he23;have hA:=hB;clear hB;simp only[uA] at hA;refine⟨(show Zab _ bA [.int .i64 e,.int .u64 (n:Int),.bool gg] 107 from hA.get (A:=.cells bA [.int .i64 e,.int .u64 (n:Int),.bool gg] 107) sR),?_⟩;go_frame;refine Zaa (i:=12) (by kernel_rfl) ?_;refine Zar (i:=12) (d:=some 80) rfl rfl rfl (fn:=181) (args:= #[(.pointer (some ⟨b,0,none⟩)),.bool gg]) (by simp[execOp,go_sem,Act.eval,Act.put]) ((Zf2 (hA.sep2 (A:=outC b u23) (B:=rowY u23 l23) sR sR) gg (by omega)).mono (fun e w' h=>ZaC.r h)) ?_;rintro xq zq ⟨rfl,u24,hT⟩;have hB:=hA.call2 (A:=outC b u23) (B:=rowY u23 l23) sR sR hT
       obtain⟨l24,he24⟩:∃z,l23++[if gg then(1:Int) else 0]=z:=⟨_,rfl⟩
       have hl24:l24.length≤l23.length + 1:=by have:=(show([if gg then(1:Int) else 0]:List Int).length≤1 from Nat.le_refl _);rw[←he24,List.length_append];omega
       rw[he24] at hB;have he24':=Hd he24;clear hA hT he24;have hA:=hB;clear hB;simp only[uA] at hA;refine⟨(show Zab _ bA [.int .i64 e,.int .u64 (n:Int),.bool gg] 107 from hA.get (A:=.cells bA [.int .i64 e,.int .u64 (n:Int),.bool gg] 107) sR),?_⟩;go_frame;refine wpAnyH_done (by kernel_rfl) ?_ _
       try go_frame
       obtain⟨hA,hF⟩:=fZ hA
       go_wp2_with fail
       go_roundg (gk - 1)
       case measure=>omega
       case rel=>
        have hS:=hA.row_shut (e:=23) (size:=1) (n:=told.length) (cap:=qcap) (xs:=(told.map (·.r)).flatMap Unt.seL) (g:=gq) (c:=cq) sR ql qp1 qm qt;refine⟨j + 1,u24,l24,by simp,by omega,?_,by omega,hS.pick pZ⟩;rw[htj.out,←he24'.out,←he23'.out,←he22'.out,←he21'.out,hje'.out];simp only[List.flatMap_append,List.flatMap_cons,List.flatMap_nil,List.append_nil,encA,bB,heNe'.out,Int.toNat_natCast,List.append_assoc]
     have hjt:told.take j=told:=List.take_of_length_le (by omega);have hje2:=hje'.out;rw[hjt] at hje2;have hje3:=Hd hje2;clear hje2 hjt hje';obtain⟨hA,hF⟩:=fZ hA
     go_wp2_with fail
     go_roundg (L.length - (i + 1))
     case measure=>omega
     case rel=>
      have hS:=hA.row_shut (e:=25) (size:=2) (n:=L.length) (cap:=lcap) (xs:=(L.map keyR).flatMap seL) (g:=g) (c:=c) sR cl cp1 cm ct;refine⟨i + 1,u20,l20,by simp,by omega,?_,by omega,hS.pick pZ⟩;rw[hje3.out,htk.out,←he7'.out,←he6'.out,←he5'.out,←he4'.out,←he3'.out,←he2'.out,←he1'.out,hle'.out];simp only[List.flatMap_append,List.flatMap_cons,List.flatMap_nil,List.append_nil,encS,bB,Int.toNat_natCast,List.append_assoc]
  have hle2:=hle'.out;rw[List.take_of_length_le (by omega)] at hle2;obtain⟨hA,hF⟩:=fZ hA
  go_wp2_with fail
  first|go_ret|go_end0
  refine⟨rfl,u0,?_⟩;have hE:=hA.pick (K:=[BookP p m ss,outC b u0,rowY u0 l0]) pZ;rw[hle2,List.append_assoc] at hE;exact hE
end Lease
end
section
namespace Lock
open Go.RowKit
open Go.Maps (Keyed)
open Path (bl Zad overB)
theorem old_cell {W w:World} (h:(Part.old W).holds w) {b off:Nat} {u:Value} (hc:W.cell? ⟨b,off,none⟩=some u):w.cell? ⟨b,off,none⟩=some u:=by
 have hb:b < W.heap.size:=by
  rcases Nat.lt_or_ge b W.heap.size with q|q
  · exact q
  simp[World.cell?,Array.getElem?_eq_none q] at hc
 have:=h b hb;rw[←hc];simp[World.cell?,this]
theorem below_old {w w':World} {L F:List Part} (h:At [Part.old w] w L w') (s:Sel (Part.old w) L F):Below w.heap.size w w':=by
 have ho:(Part.old w).holds w':=h.get s;exact⟨h.exc.os,h.exc.tape,h.exc.output,h.exc.size,fun b hb=>ho b hb⟩
def pAB:ByteArray:=⟨#[97,47,98]⟩
def pA:ByteArray:=⟨#[97]⟩
def pAC:ByteArray:=⟨#[97,47,99]⟩
def e1:Ent:=⟨pAB,1,pA,2,1,1⟩
def e2:Ent:=⟨pA,1,pA,2,1,2⟩
def e3:Ent:=⟨pAC,1,pA,1,1,3⟩
def s0:S3:=⟨0,[],[]⟩
def s1:S3:=⟨0,[e1],[(pAB,1)]⟩
def s2:S3:=⟨0,[e1,e2],[(pAB,1),(pA,1)]⟩
def s3:S3:=⟨0,[e1,e2,e3],[(pAB,1),(pA,1),(pAC,1)]⟩
def s4:S3:=⟨0,[e2,e3],[(pAB,1),(pA,1),(pAC,1)]⟩
theorem ex2:s1.may pA 1 pA 2=0∧s1.addE pA 1 pA 2=e2∧s1.add pA 1 pA 2=s2:=⟨by kernel_rfl,by kernel_rfl,by kernel_rfl⟩
end Lock
end
section
namespace Lock
open Go.RowKit
open Go.Maps (Keyed)
open Path (bl Zad overB)
structure Pl where
 p:Nat
 m:Nat
 c:Nat
def Pl.at (a:Pl) (s:S3):Bk:=⟨a.p,a.m,a.c,s.first,s.es,s.cs⟩
abbrev bookS (a:Pl) (s:S3):Part:=BookP (a.at s)
theorem Inv.len' {s:S3} {k:Nat} (h:Inv s k) (hk:k≤1000):s.es.length≤1000000:=by have:=h.len;omega
section
variable {a:Pl} {s:S3} {k:Nat} {w:World} {p f:ByteArray} {n mode:Int}
def ZlH (w:World) (a:Pl) (s:S3) (e:Ending) (w':World):Prop:=∃(v:Value) (l:List Ent),e=.returned v∧l.Perm s.es∧l.Pairwise ltE∧At [bookS a s] w [rowL v l,bookS a s] w'
theorem Zob (h:Sep [bookS a s] w) (hI:Inv s k) (hk:k≤1000):Calls Tryz.prog 46 #[.pointer (some ⟨a.p,0,none⟩)] w (ZlH w a s):=
 Zf9 (b:=a.at s) h hI.sortable (hI.len' hk) (fun x hx=>by have:=hI.path x hx;omega)
end
end Lock
end
section
namespace Enc
open _root_.Go.Proofs.YtkdjkngfnapjcaaGreatDoor.Wire
end Enc
end
section
namespace Lock
open _root_.Go.Proofs.YtkdjkngfnapjcaaGreatDoor.Wire
open _root_.Go.Proofs.YtkdjkngfnapjcaaGreatDoor.Enc
def encE (e:Ent):List Int:=textB e.path++fixL e.num.toNat++textB e.foot++[e.mode]++fixL e.n.toNat++Zan e.stamp.toNat
def encC (c:ByteArray × Int):List Int:=textB c.1++fixL c.2.toNat
def encB (es:List Ent) (cs:List (ByteArray × Int)):List Int:=Zan es.length++es.flatMap encE++Zan cs.length++cs.flatMap encC
structure okE (e:Ent):Prop where
 n0:0≤e.num
 n1:e.num < 18446744073709551616
 k0:0≤e.n
 k1:e.n < 18446744073709551616
 s0:0≤e.stamp
def okC (c:ByteArray × Int):Prop:=0≤c.2∧c.2 < 18446744073709551616
end Lock
end
section
namespace Lock
end Lock
end
section
namespace Lock
open _root_.Go.Proofs.YtkdjkngfnapjcaaGreatDoor.Wire
open _root_.Go.Proofs.YtkdjkngfnapjcaaGreatDoor.Enc
theorem Zbv (s:ByteArray) (h:s.size≤20000000000000):(textB s).length≤10 + s.size:=by
 have h1:=Zaq 9 s.size (by omega);unfold textB;rw[List.length_append,Zec]
 omega
theorem Zge {α:Type} {f:α→List Int} {P:α→Prop} {k:Nat} (hf:∀a,P a→(f a).length≤k):∀l:List α,(∀a ∈ l,P a)→(l.flatMap f).length≤l.length * k
 |[],_=>by simp
 |x::l,h=>by
  have q1:=hf x (h x (by simp));have q2:=Zge hf l (fun a ha=>h a (by simp[ha]));rw[List.flatMap_cons,List.length_append,List.length_cons,Nat.add_mul]
  omega
structure okW (e:Ent):Prop where
 ok:okE e
 pb:e.path.size≤100
 fb:e.foot.size≤2000000
 sb:e.stamp≤1000
 m:e.mode=1∨e.mode=2
 nb:e.n≤lastN
structure okV (c:ByteArray × Int):Prop where
 ok:okC c
 pb:c.1.size≤100
theorem encE_len {e:Ent} (h:okW e):(encE e).length≤2100000:=by
 have q1:=Zbv e.path (by have:=h.pb;omega);have q2:=Zbv e.foot (by have:=h.fb;omega)
 have q3:(fixL e.num.toNat).length=8:=by simp[fixL]
 have q4:(fixL e.n.toNat).length=8:=by simp[fixL]
 have q5:=Zaq 9 e.stamp.toNat (by have:=h.sb;omega);have q6:=h.pb;have q7:=h.fb;unfold encE;simp only[List.length_append,List.length_cons,List.length_nil]
 omega
theorem encC_len {c:ByteArray × Int} (h:okV c):(encC c).length≤200:=by
 have q1:=Zbv c.1 (by have:=h.pb;omega)
 have q3:(fixL c.2.toNat).length=8:=by simp[fixL]
 have q6:=h.pb;unfold encC;simp only[List.length_append]
 omega
theorem encB_len {es:List Ent} {cs:List (ByteArray × Int)} (h:∀e ∈ es,okW e) (k:∀c ∈ cs,okV c) (hl:es.length≤1000) (hm:cs.length≤1000):(encB es cs).length≤3000000000:=by
 have q1:=Zaq 9 es.length (by omega);have q2:=Zge (f:=encE) (P:=okW) (k:=2100000) (fun a ha=>encE_len ha) es h;have q3:=Zaq 9 cs.length (by omega);have q4:=Zge (f:=encC) (P:=okV) (k:=200) (fun a ha=>encC_len ha) cs k;unfold encB;simp only[List.length_append]
 omega
def Feet (s:S3):Prop:=∀e ∈ s.es,e.foot.size≤2000000
theorem Inv.okW {s:S3} {k:Nat} (h:Inv s k) (hf:Feet s) (hk:k≤1000):∀e ∈ s.es,okW e:=fun e he=>
 {ok:={n0:=h.num0 e he,n1:=h.num1 e he,k0:=h.n0 e he,k1:=by have:=h.n1 e he;unfold lastN at this;omega,s0:=by have:=h.stamp0 e he;omega}
  pb:=h.path e he,fb:=hf e he,sb:=by have:=h.stamp1 e he;omega,m:=h.mode e he,nb:=h.n1 e he}
theorem Inv.okV {s:S3} {k:Nat} (h:Inv s k):∀c ∈ s.cs,okV c:=fun c hc=>
 {ok:=⟨by have:=h.c0 c hc;have:=h.first0;omega,by have:=h.c1 c hc;unfold lastN at this;omega⟩,pb:=h.cpath c hc}
end Lock
end
end Go.Proofs.YtkdjkngfnapjcaaGreatDoor
