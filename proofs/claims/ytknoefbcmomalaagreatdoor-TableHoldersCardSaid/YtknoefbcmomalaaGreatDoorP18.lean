import Derived.Test.YtknoefbcmomalaaGreatDoorP17
set_option linter.unusedSimpArgs false
set_option linter.unusedVariables false
set_option maxRecDepth 100000
set_option maxHeartbeats 16000000
namespace Go.Proofs.YtknoefbcmomalaaGreatDoor
section
namespace Cmd
open Go.RowKit
open Path (bl Zaf overB)
attribute [-go_sem] run_eql_struct run_neq_struct run_eqGuard_agg
attribute [local go_sem] Zn8
theorem ZnK (num:Int) (foot:ByteArray) (req:Int) (path:ByteArray) (mode n time:Int) (w:World) {eq rf rq rp m1 m2 nz ng t0 t1:Bool} (heq:decide ((⟨0,num,foot,req,path,mode,n,time⟩:Cm)=⟨0,0,.empty,0,.empty,0,0,0⟩)=eq) (ht0:decide (0≤time)=t0) (ht1:decide (time≤1099511627776)=t1):
 Calls Tryz.prog 53 #[.agg #[.int .i64 0,.int .u64 num,.string foot,.int .u64 req,.string path,.int .i64 mode,.int .u64 n,.int .i64 time]] w fun e w'=>e=.returned (.bool (eq&&(!false || rf)&&(!false || !rq)&&(!false || rp)&&(!false || !(m1&&m2))&&(!false || !(nz || ng))&&(t0&&t1)))∧Ext w w':=by
 have hA:At [] w [] w:=At.start (L0:=[]) trivial;have hF:=hA.facts;have hne:=fun w=>neqCm ⟨0,num,foot,req,path,mode,n,time⟩ ⟨0,0,.empty,0,.empty,0,0,0⟩ w;rw[heq] at hne;simp only[Cm.val] at hne;have hbr:=fun w=>bare_0 num foot req path mode n time w;clear heq;obtain⟨hA,hF⟩:=fY hA;go_enter Tryz.func53,Tryz.ntmps53
 go_wp2_with ((with_reducible refine gbx ?_);refine wCy (E:=43) hA ?_;clear hF hA;intro bX w1 hA hbX hF)
 refine(had_0 _).mono ?_;rintro e w1 ⟨rfl,hx⟩;replace hA:=hA.ext hx;clear hF hx;obtain⟨hA,hF⟩:=fY hA
 go_wp2_with (first|((with_reducible refine gal ?_);refine g2 hA ?_;clear hF hA;intro bH w1 hA hbH hF)|((with_reducible refine gst ?_);refine wTy hA ?_;clear hF hA;intro w1 hA hF))
 (try go_frame);refine cl2 hA ?_;clear hF hA;intro w1 hA hF;(try simp only[uY] at hA hF);clear hbr hne;cases eq
 · go_wp2_with fail;go_ret;exact⟨rfl,hA.toExt⟩
 go_wp2_with fail;(try go_frame);refine cl1 hA ?_;clear hF hA;intro w1 hA hF;(try simp only[uY] at hA hF);cases t0
 · go_wp2_with fail;go_ret;exact⟨rfl,hA.toExt⟩
 cases t1
 · go_wp2_with fail;go_ret;exact⟨rfl,hA.toExt⟩
 go_wp2_with fail;go_ret;exact⟨rfl,hA.toExt⟩
theorem ZnJ (num:Int) (foot:ByteArray) (req:Int) (path:ByteArray) (mode n time:Int) (w:World) {eq rf rq rp m1 m2 nz ng t0 t1:Bool} (heq:decide ((⟨1,num,foot,req,path,mode,n,time⟩:Cm)=⟨1,num,foot,req,.empty,0,n,time⟩)=eq) (hf:foot.size≤1000) (hrf0:Zaf (bl foot)=rf) (hrq:(req==0)=rq) (hnz:(n==0)=nz) (hng:decide (1048576 < n)=ng) (ht0:decide (0≤time)=t0) (ht1:decide (time≤1099511627776)=t1):
 Calls Tryz.prog 53 #[.agg #[.int .i64 1,.int .u64 num,.string foot,.int .u64 req,.string path,.int .i64 mode,.int .u64 n,.int .i64 time]] w fun e w'=>e=.returned (.bool (eq&&(!true || rf)&&(!true || !rq)&&(!false || rp)&&(!false || !(m1&&m2))&&(!true || !(nz || ng))&&(t0&&t1)))∧Ext w w':=by
 have hA:At [] w [] w:=At.start (L0:=[]) trivial;have hF:=hA.facts;have hne:=fun w=>neqCm ⟨1,num,foot,req,path,mode,n,time⟩ ⟨1,num,foot,req,.empty,0,n,time⟩ w;rw[heq] at hne;simp only[Cm.val] at hne;have hbr:=fun w=>bare_1 num foot req path mode n time w;have hrf:=fun w=>Path.right_any foot w (by omega);rw[hrf0] at hrf;have hmo:=fun w=>most_1 w;clear heq hrf0;obtain⟨hA,hF⟩:=fY hA;go_enter Tryz.func53,Tryz.ntmps53
 go_wp2_with ((with_reducible refine gbx ?_);refine wCy (E:=43) hA ?_;clear hF hA;intro bX w1 hA hbX hF)
 refine(had_1 _).mono ?_;rintro e w1 ⟨rfl,hx⟩;replace hA:=hA.ext hx;clear hF hx;obtain⟨hA,hF⟩:=fY hA
 go_wp2_with (first|((with_reducible refine gal ?_);refine g2 hA ?_;clear hF hA;intro bH w1 hA hbH hF)|((with_reducible refine gst ?_);refine wTy hA ?_;clear hF hA;intro w1 hA hF))
 (try go_frame);refine cl2 hA ?_;clear hF hA;intro w1 hA hF;(try simp only[uY] at hA hF);clear hbr hne;cases eq
 · go_wp2_with fail;go_ret;exact⟨rfl,hA.toExt⟩
 go_wp2_with fail;refine(hrf _).mono ?_;rintro e w4 ⟨rfl,hx⟩;replace hA:=hA.ext hx;clear hF hx;obtain⟨hA,hF⟩:=fY hA;cases rf
 · go_wp2_with fail;go_ret;exact⟨rfl,hA.toExt⟩
 cases rq
 · cases nz
   · cases ng
     · go_wp2_with fail;(try go_frame);refine cl3 hA ?_;clear hF hA;intro w1 hA hF;(try simp only[uY] at hA hF);cases t0
       · go_wp2_with fail;go_ret;exact⟨rfl,hA.toExt⟩
       cases t1
       · go_wp2_with fail;go_ret;exact⟨rfl,hA.toExt⟩
       go_wp2_with fail;go_ret;exact⟨rfl,hA.toExt⟩
     go_wp2_with fail;(try go_frame);refine cl3 hA ?_;clear hF hA;intro w1 hA hF;(try simp only[uY] at hA hF);go_wp2_with fail;go_ret;exact⟨rfl,hA.toExt⟩
   go_wp2_with fail;(try go_frame);refine cl3 hA ?_;clear hF hA;intro w1 hA hF;(try simp only[uY] at hA hF);go_wp2_with fail;go_ret;exact⟨rfl,hA.toExt⟩
 go_wp2_with fail;go_ret;exact⟨rfl,hA.toExt⟩
theorem ZnI (num:Int) (foot:ByteArray) (req:Int) (path:ByteArray) (mode n time:Int) (w:World) {eq rf rq rp m1 m2 nz ng t0 t1:Bool} (heq:decide ((⟨2,num,foot,req,path,mode,n,time⟩:Cm)=⟨2,num,foot,req,.empty,0,0,0⟩)=eq) (hf:foot.size≤1000) (hrf0:Zaf (bl foot)=rf) (hrq:(req==0)=rq) (ht0:decide (0≤time)=t0) (ht1:decide (time≤1099511627776)=t1):
 Calls Tryz.prog 53 #[.agg #[.int .i64 2,.int .u64 num,.string foot,.int .u64 req,.string path,.int .i64 mode,.int .u64 n,.int .i64 time]] w fun e w'=>e=.returned (.bool (eq&&(!true || rf)&&(!true || !rq)&&(!false || rp)&&(!false || !(m1&&m2))&&(!false || !(nz || ng))&&(t0&&t1)))∧Ext w w':=by
 have hA:At [] w [] w:=At.start (L0:=[]) trivial;have hF:=hA.facts;have hne:=fun w=>neqCm ⟨2,num,foot,req,path,mode,n,time⟩ ⟨2,num,foot,req,.empty,0,0,0⟩ w;rw[heq] at hne;simp only[Cm.val] at hne;have hbr:=fun w=>bare_2 num foot req path mode n time w;have hrf:=fun w=>Path.right_any foot w (by omega);rw[hrf0] at hrf;clear heq hrf0;obtain⟨hA,hF⟩:=fY hA;go_enter Tryz.func53,Tryz.ntmps53
 go_wp2_with ((with_reducible refine gbx ?_);refine wCy (E:=43) hA ?_;clear hF hA;intro bX w1 hA hbX hF)
 refine(had_2 _).mono ?_;rintro e w1 ⟨rfl,hx⟩;replace hA:=hA.ext hx;clear hF hx;obtain⟨hA,hF⟩:=fY hA
 go_wp2_with (first|((with_reducible refine gal ?_);refine g2 hA ?_;clear hF hA;intro bH w1 hA hbH hF)|((with_reducible refine gst ?_);refine wTy hA ?_;clear hF hA;intro w1 hA hF))
 (try go_frame);refine cl2 hA ?_;clear hF hA;intro w1 hA hF;(try simp only[uY] at hA hF);clear hbr hne;cases eq
 · go_wp2_with fail;go_ret;exact⟨rfl,hA.toExt⟩
 go_wp2_with fail;refine(hrf _).mono ?_;rintro e w4 ⟨rfl,hx⟩;replace hA:=hA.ext hx;clear hF hx;obtain⟨hA,hF⟩:=fY hA;cases rf
 · go_wp2_with fail;go_ret;exact⟨rfl,hA.toExt⟩
 cases rq
 · go_wp2_with fail;(try go_frame);refine cl1 hA ?_;clear hF hA;intro w1 hA hF;(try simp only[uY] at hA hF);cases t0
   · go_wp2_with fail;go_ret;exact⟨rfl,hA.toExt⟩
   cases t1
   · go_wp2_with fail;go_ret;exact⟨rfl,hA.toExt⟩
   go_wp2_with fail;go_ret;exact⟨rfl,hA.toExt⟩
 go_wp2_with fail;go_ret;exact⟨rfl,hA.toExt⟩
theorem ZnH (num:Int) (foot:ByteArray) (req:Int) (path:ByteArray) (mode n time:Int) (w:World) {eq rf rq rp m1 m2 nz ng t0 t1:Bool} (heq:decide ((⟨3,num,foot,req,path,mode,n,time⟩:Cm)=⟨3,num,foot,req,.empty,0,0,time⟩)=eq) (hf:foot.size≤1000) (hrf0:Zaf (bl foot)=rf) (hrq:(req==0)=rq) (ht0:decide (0≤time)=t0) (ht1:decide (time≤1099511627776)=t1):
 Calls Tryz.prog 53 #[.agg #[.int .i64 3,.int .u64 num,.string foot,.int .u64 req,.string path,.int .i64 mode,.int .u64 n,.int .i64 time]] w fun e w'=>e=.returned (.bool (eq&&(!true || rf)&&(!true || !rq)&&(!false || rp)&&(!false || !(m1&&m2))&&(!false || !(nz || ng))&&(t0&&t1)))∧Ext w w':=by
 have hA:At [] w [] w:=At.start (L0:=[]) trivial;have hF:=hA.facts;have hne:=fun w=>neqCm ⟨3,num,foot,req,path,mode,n,time⟩ ⟨3,num,foot,req,.empty,0,0,time⟩ w;rw[heq] at hne;simp only[Cm.val] at hne;have hbr:=fun w=>bare_3 num foot req path mode n time w;have hrf:=fun w=>Path.right_any foot w (by omega);rw[hrf0] at hrf;clear heq hrf0;obtain⟨hA,hF⟩:=fY hA;go_enter Tryz.func53,Tryz.ntmps53
 go_wp2_with ((with_reducible refine gbx ?_);refine wCy (E:=43) hA ?_;clear hF hA;intro bX w1 hA hbX hF)
 refine(had_3 _).mono ?_;rintro e w1 ⟨rfl,hx⟩;replace hA:=hA.ext hx;clear hF hx;obtain⟨hA,hF⟩:=fY hA
 go_wp2_with (first|((with_reducible refine gal ?_);refine g2 hA ?_;clear hF hA;intro bH w1 hA hbH hF)|((with_reducible refine gst ?_);refine wTy hA ?_;clear hF hA;intro w1 hA hF))
 (try go_frame);refine cl2 hA ?_;clear hF hA;intro w1 hA hF;(try simp only[uY] at hA hF);clear hbr hne;cases eq
 · go_wp2_with fail;go_ret;exact⟨rfl,hA.toExt⟩
 go_wp2_with fail;refine(hrf _).mono ?_;rintro e w4 ⟨rfl,hx⟩;replace hA:=hA.ext hx;clear hF hx;obtain⟨hA,hF⟩:=fY hA;cases rf
 · go_wp2_with fail;go_ret;exact⟨rfl,hA.toExt⟩
 cases rq
 · go_wp2_with fail;(try go_frame);refine cl1 hA ?_;clear hF hA;intro w1 hA hF;(try simp only[uY] at hA hF);cases t0
   · go_wp2_with fail;go_ret;exact⟨rfl,hA.toExt⟩
   cases t1
   · go_wp2_with fail;go_ret;exact⟨rfl,hA.toExt⟩
   go_wp2_with fail;go_ret;exact⟨rfl,hA.toExt⟩
 go_wp2_with fail;go_ret;exact⟨rfl,hA.toExt⟩
theorem ZnG (num:Int) (foot:ByteArray) (req:Int) (path:ByteArray) (mode n time:Int) (w:World) {eq rf rq rp m1 m2 nz ng t0 t1:Bool} (heq:decide ((⟨4,num,foot,req,path,mode,n,time⟩:Cm)=⟨4,num,foot,req,path,mode,0,0⟩)=eq) (hf:foot.size≤1000) (hrf0:Zaf (bl foot)=rf) (hrq:(req==0)=rq) (hp:path.size≤1000) (hrp0:Zaf (bl path)=rp) (hm1:(mode != 1)=m1) (hm2:(mode != 2)=m2) (ht0:decide (0≤time)=t0) (ht1:decide (time≤1099511627776)=t1):
 Calls Tryz.prog 53 #[.agg #[.int .i64 4,.int .u64 num,.string foot,.int .u64 req,.string path,.int .i64 mode,.int .u64 n,.int .i64 time]] w fun e w'=>e=.returned (.bool (eq&&(!true || rf)&&(!true || !rq)&&(!true || rp)&&(!true || !(m1&&m2))&&(!false || !(nz || ng))&&(t0&&t1)))∧Ext w w':=by
 have hA:At [] w [] w:=At.start (L0:=[]) trivial;have hF:=hA.facts;have hne:=fun w=>neqCm ⟨4,num,foot,req,path,mode,n,time⟩ ⟨4,num,foot,req,path,mode,0,0⟩ w;rw[heq] at hne;simp only[Cm.val] at hne;have hbr:=fun w=>bare_4 num foot req path mode n time w;have hrf:=fun w=>Path.right_any foot w (by omega);rw[hrf0] at hrf;have hrp:=fun w=>Path.right_any path w (by omega);rw[hrp0] at hrp;clear heq hrf0 hrp0;obtain⟨hA,hF⟩:=fY hA;go_enter Tryz.func53,Tryz.ntmps53
 go_wp2_with ((with_reducible refine gbx ?_);refine wCy (E:=43) hA ?_;clear hF hA;intro bX w1 hA hbX hF)
 refine(had_4 _).mono ?_;rintro e w1 ⟨rfl,hx⟩;replace hA:=hA.ext hx;clear hF hx;obtain⟨hA,hF⟩:=fY hA
 go_wp2_with (first|((with_reducible refine gal ?_);refine g2 hA ?_;clear hF hA;intro bH w1 hA hbH hF)|((with_reducible refine gst ?_);refine wTy hA ?_;clear hF hA;intro w1 hA hF))
 (try go_frame);refine cl2 hA ?_;clear hF hA;intro w1 hA hF;(try simp only[uY] at hA hF);clear hbr hne;cases eq
 · go_wp2_with fail;go_ret;exact⟨rfl,hA.toExt⟩
 go_wp2_with fail;refine(hrf _).mono ?_;rintro e w4 ⟨rfl,hx⟩;replace hA:=hA.ext hx;clear hF hx;obtain⟨hA,hF⟩:=fY hA;cases rf
 · go_wp2_with fail;go_ret;exact⟨rfl,hA.toExt⟩
 cases rq
 · go_wp2_with fail;refine(hrp _).mono ?_;rintro e w4 ⟨rfl,hx⟩;replace hA:=hA.ext hx;clear hF hx;obtain⟨hA,hF⟩:=fY hA;cases rp
   · go_wp2_with fail;go_ret;exact⟨rfl,hA.toExt⟩
   cases m1
   · go_wp2_with fail;(try go_frame);refine cl1 hA ?_;clear hF hA;intro w1 hA hF;(try simp only[uY] at hA hF);cases t0
     · go_wp2_with fail;go_ret;exact⟨rfl,hA.toExt⟩
     cases t1
     · go_wp2_with fail;go_ret;exact⟨rfl,hA.toExt⟩
     go_wp2_with fail;go_ret;exact⟨rfl,hA.toExt⟩
   cases m2
   · go_wp2_with fail;(try go_frame);refine cl1 hA ?_;clear hF hA;intro w1 hA hF;(try simp only[uY] at hA hF);cases t0
     · go_wp2_with fail;go_ret;exact⟨rfl,hA.toExt⟩
     cases t1
     · go_wp2_with fail;go_ret;exact⟨rfl,hA.toExt⟩
     go_wp2_with fail;go_ret;exact⟨rfl,hA.toExt⟩
   go_wp2_with fail;go_ret;exact⟨rfl,hA.toExt⟩
 go_wp2_with fail;go_ret;exact⟨rfl,hA.toExt⟩
theorem ZnF (num:Int) (foot:ByteArray) (req:Int) (path:ByteArray) (mode n time:Int) (w:World) {eq rf rq rp m1 m2 nz ng t0 t1:Bool} (heq:decide ((⟨5,num,foot,req,path,mode,n,time⟩:Cm)=⟨5,num,foot,req,path,mode,0,0⟩)=eq) (hf:foot.size≤1000) (hrf0:Zaf (bl foot)=rf) (hrq:(req==0)=rq) (hp:path.size≤1000) (hrp0:Zaf (bl path)=rp) (hm1:(mode != 1)=m1) (hm2:(mode != 2)=m2) (ht0:decide (0≤time)=t0) (ht1:decide (time≤1099511627776)=t1):
 Calls Tryz.prog 53 #[.agg #[.int .i64 5,.int .u64 num,.string foot,.int .u64 req,.string path,.int .i64 mode,.int .u64 n,.int .i64 time]] w fun e w'=>e=.returned (.bool (eq&&(!true || rf)&&(!true || !rq)&&(!true || rp)&&(!true || !(m1&&m2))&&(!false || !(nz || ng))&&(t0&&t1)))∧Ext w w':=by
 have hA:At [] w [] w:=At.start (L0:=[]) trivial;have hF:=hA.facts;have hne:=fun w=>neqCm ⟨5,num,foot,req,path,mode,n,time⟩ ⟨5,num,foot,req,path,mode,0,0⟩ w;rw[heq] at hne;simp only[Cm.val] at hne;have hbr:=fun w=>bare_5 num foot req path mode n time w;have hrf:=fun w=>Path.right_any foot w (by omega);rw[hrf0] at hrf;have hrp:=fun w=>Path.right_any path w (by omega);rw[hrp0] at hrp;clear heq hrf0 hrp0;obtain⟨hA,hF⟩:=fY hA;go_enter Tryz.func53,Tryz.ntmps53
 go_wp2_with ((with_reducible refine gbx ?_);refine wCy (E:=43) hA ?_;clear hF hA;intro bX w1 hA hbX hF)
 refine(had_5 _).mono ?_;rintro e w1 ⟨rfl,hx⟩;replace hA:=hA.ext hx;clear hF hx;obtain⟨hA,hF⟩:=fY hA
 go_wp2_with (first|((with_reducible refine gal ?_);refine g2 hA ?_;clear hF hA;intro bH w1 hA hbH hF)|((with_reducible refine gst ?_);refine wTy hA ?_;clear hF hA;intro w1 hA hF))
 (try go_frame);refine cl2 hA ?_;clear hF hA;intro w1 hA hF;(try simp only[uY] at hA hF);clear hbr hne;cases eq
 · go_wp2_with fail;go_ret;exact⟨rfl,hA.toExt⟩
 go_wp2_with fail;refine(hrf _).mono ?_;rintro e w4 ⟨rfl,hx⟩;replace hA:=hA.ext hx;clear hF hx;obtain⟨hA,hF⟩:=fY hA;cases rf
 · go_wp2_with fail;go_ret;exact⟨rfl,hA.toExt⟩
 cases rq
 · go_wp2_with fail;refine(hrp _).mono ?_;rintro e w4 ⟨rfl,hx⟩;replace hA:=hA.ext hx;clear hF hx;obtain⟨hA,hF⟩:=fY hA;cases rp
   · go_wp2_with fail;go_ret;exact⟨rfl,hA.toExt⟩
   cases m1
   · go_wp2_with fail;(try go_frame);refine cl1 hA ?_;clear hF hA;intro w1 hA hF;(try simp only[uY] at hA hF);cases t0
     · go_wp2_with fail;go_ret;exact⟨rfl,hA.toExt⟩
     cases t1
     · go_wp2_with fail;go_ret;exact⟨rfl,hA.toExt⟩
     go_wp2_with fail;go_ret;exact⟨rfl,hA.toExt⟩
   cases m2
   · go_wp2_with fail;(try go_frame);refine cl1 hA ?_;clear hF hA;intro w1 hA hF;(try simp only[uY] at hA hF);cases t0
     · go_wp2_with fail;go_ret;exact⟨rfl,hA.toExt⟩
     cases t1
     · go_wp2_with fail;go_ret;exact⟨rfl,hA.toExt⟩
     go_wp2_with fail;go_ret;exact⟨rfl,hA.toExt⟩
   go_wp2_with fail;go_ret;exact⟨rfl,hA.toExt⟩
 go_wp2_with fail;go_ret;exact⟨rfl,hA.toExt⟩
theorem ZnE (num:Int) (foot:ByteArray) (req:Int) (path:ByteArray) (mode n time:Int) (w:World) {eq rf rq rp m1 m2 nz ng t0 t1:Bool} (heq:decide ((⟨6,num,foot,req,path,mode,n,time⟩:Cm)=⟨6,num,foot,req,path,0,0,0⟩)=eq) (hf:foot.size≤1000) (hrf0:Zaf (bl foot)=rf) (hrq:(req==0)=rq) (hp:path.size≤1000) (hrp0:Zaf (bl path)=rp) (ht0:decide (0≤time)=t0) (ht1:decide (time≤1099511627776)=t1):
 Calls Tryz.prog 53 #[.agg #[.int .i64 6,.int .u64 num,.string foot,.int .u64 req,.string path,.int .i64 mode,.int .u64 n,.int .i64 time]] w fun e w'=>e=.returned (.bool (eq&&(!true || rf)&&(!true || !rq)&&(!true || rp)&&(!false || !(m1&&m2))&&(!false || !(nz || ng))&&(t0&&t1)))∧Ext w w':=by
 have hA:At [] w [] w:=At.start (L0:=[]) trivial;have hF:=hA.facts;have hne:=fun w=>neqCm ⟨6,num,foot,req,path,mode,n,time⟩ ⟨6,num,foot,req,path,0,0,0⟩ w;rw[heq] at hne;simp only[Cm.val] at hne;have hbr:=fun w=>bare_6 num foot req path mode n time w;have hrf:=fun w=>Path.right_any foot w (by omega);rw[hrf0] at hrf;have hrp:=fun w=>Path.right_any path w (by omega);rw[hrp0] at hrp;clear heq hrf0 hrp0;obtain⟨hA,hF⟩:=fY hA;go_enter Tryz.func53,Tryz.ntmps53
 go_wp2_with ((with_reducible refine gbx ?_);refine wCy (E:=43) hA ?_;clear hF hA;intro bX w1 hA hbX hF)
 refine(had_6 _).mono ?_;rintro e w1 ⟨rfl,hx⟩;replace hA:=hA.ext hx;clear hF hx;obtain⟨hA,hF⟩:=fY hA
 go_wp2_with (first|((with_reducible refine gal ?_);refine g2 hA ?_;clear hF hA;intro bH w1 hA hbH hF)|((with_reducible refine gst ?_);refine wTy hA ?_;clear hF hA;intro w1 hA hF))
 (try go_frame);refine cl2 hA ?_;clear hF hA;intro w1 hA hF;(try simp only[uY] at hA hF);clear hbr hne;cases eq
 · go_wp2_with fail;go_ret;exact⟨rfl,hA.toExt⟩
 go_wp2_with fail;refine(hrf _).mono ?_;rintro e w4 ⟨rfl,hx⟩;replace hA:=hA.ext hx;clear hF hx;obtain⟨hA,hF⟩:=fY hA;cases rf
 · go_wp2_with fail;go_ret;exact⟨rfl,hA.toExt⟩
 cases rq
 · go_wp2_with fail;refine(hrp _).mono ?_;rintro e w4 ⟨rfl,hx⟩;replace hA:=hA.ext hx;clear hF hx;obtain⟨hA,hF⟩:=fY hA;cases rp
   · go_wp2_with fail;go_ret;exact⟨rfl,hA.toExt⟩
   go_wp2_with fail;(try go_frame);refine cl1 hA ?_;clear hF hA;intro w1 hA hF;(try simp only[uY] at hA hF);cases t0
   · go_wp2_with fail;go_ret;exact⟨rfl,hA.toExt⟩
   cases t1
   · go_wp2_with fail;go_ret;exact⟨rfl,hA.toExt⟩
   go_wp2_with fail;go_ret;exact⟨rfl,hA.toExt⟩
 go_wp2_with fail;go_ret;exact⟨rfl,hA.toExt⟩
theorem ZnD (num:Int) (foot:ByteArray) (req:Int) (path:ByteArray) (mode n time:Int) (w:World) {eq rf rq rp m1 m2 nz ng t0 t1:Bool} (heq:decide ((⟨7,num,foot,req,path,mode,n,time⟩:Cm)=⟨7,num,foot,req,path,0,n,0⟩)=eq) (hf:foot.size≤1000) (hrf0:Zaf (bl foot)=rf) (hrq:(req==0)=rq) (hp:path.size≤1000) (hrp0:Zaf (bl path)=rp) (hnz:(n==0)=nz) (hng:decide (9223372036854775807 < n)=ng) (ht0:decide (0≤time)=t0) (ht1:decide (time≤1099511627776)=t1):
 Calls Tryz.prog 53 #[.agg #[.int .i64 7,.int .u64 num,.string foot,.int .u64 req,.string path,.int .i64 mode,.int .u64 n,.int .i64 time]] w fun e w'=>e=.returned (.bool (eq&&(!true || rf)&&(!true || !rq)&&(!true || rp)&&(!false || !(m1&&m2))&&(!true || !(nz || ng))&&(t0&&t1)))∧Ext w w':=by
 have hA:At [] w [] w:=At.start (L0:=[]) trivial;have hF:=hA.facts;have hne:=fun w=>neqCm ⟨7,num,foot,req,path,mode,n,time⟩ ⟨7,num,foot,req,path,0,n,0⟩ w;rw[heq] at hne;simp only[Cm.val] at hne;have hbr:=fun w=>bare_7 num foot req path mode n time w;have hrf:=fun w=>Path.right_any foot w (by omega);rw[hrf0] at hrf;have hrp:=fun w=>Path.right_any path w (by omega);rw[hrp0] at hrp;have hmo:=fun w=>most_7 w;clear heq hrf0 hrp0;obtain⟨hA,hF⟩:=fY hA;go_enter Tryz.func53,Tryz.ntmps53
 go_wp2_with ((with_reducible refine gbx ?_);refine wCy (E:=43) hA ?_;clear hF hA;intro bX w1 hA hbX hF)
 refine(had_7 _).mono ?_;rintro e w1 ⟨rfl,hx⟩;replace hA:=hA.ext hx;clear hF hx;obtain⟨hA,hF⟩:=fY hA
 go_wp2_with (first|((with_reducible refine gal ?_);refine g2 hA ?_;clear hF hA;intro bH w1 hA hbH hF)|((with_reducible refine gst ?_);refine wTy hA ?_;clear hF hA;intro w1 hA hF))
 (try go_frame);refine cl2 hA ?_;clear hF hA;intro w1 hA hF;(try simp only[uY] at hA hF);clear hbr hne;cases eq
 · go_wp2_with fail;go_ret;exact⟨rfl,hA.toExt⟩
 go_wp2_with fail;refine(hrf _).mono ?_;rintro e w4 ⟨rfl,hx⟩;replace hA:=hA.ext hx;clear hF hx;obtain⟨hA,hF⟩:=fY hA;cases rf
 · go_wp2_with fail;go_ret;exact⟨rfl,hA.toExt⟩
 cases rq
 · go_wp2_with fail;refine(hrp _).mono ?_;rintro e w4 ⟨rfl,hx⟩;replace hA:=hA.ext hx;clear hF hx;obtain⟨hA,hF⟩:=fY hA;cases rp
   · go_wp2_with fail;go_ret;exact⟨rfl,hA.toExt⟩
   cases nz
   · cases ng
     · go_wp2_with fail;(try go_frame);refine cl3 hA ?_;clear hF hA;intro w1 hA hF;(try simp only[uY] at hA hF);cases t0
       · go_wp2_with fail;go_ret;exact⟨rfl,hA.toExt⟩
       cases t1
       · go_wp2_with fail;go_ret;exact⟨rfl,hA.toExt⟩
       go_wp2_with fail;go_ret;exact⟨rfl,hA.toExt⟩
     go_wp2_with fail;(try go_frame);refine cl3 hA ?_;clear hF hA;intro w1 hA hF;(try simp only[uY] at hA hF);go_wp2_with fail;go_ret;exact⟨rfl,hA.toExt⟩
   go_wp2_with fail;(try go_frame);refine cl3 hA ?_;clear hF hA;intro w1 hA hF;(try simp only[uY] at hA hF);go_wp2_with fail;go_ret;exact⟨rfl,hA.toExt⟩
 go_wp2_with fail;go_ret;exact⟨rfl,hA.toExt⟩
theorem ZnC (num:Int) (foot:ByteArray) (req:Int) (path:ByteArray) (mode n time:Int) (w:World) {eq rf rq rp m1 m2 nz ng t0 t1:Bool} (heq:decide ((⟨8,num,foot,req,path,mode,n,time⟩:Cm)=⟨8,num,foot,0,.empty,0,0,time⟩)=eq) (hf:foot.size≤1000) (hrf0:Zaf (bl foot)=rf) (ht0:decide (0≤time)=t0) (ht1:decide (time≤1099511627776)=t1):
 Calls Tryz.prog 53 #[.agg #[.int .i64 8,.int .u64 num,.string foot,.int .u64 req,.string path,.int .i64 mode,.int .u64 n,.int .i64 time]] w fun e w'=>e=.returned (.bool (eq&&(!true || rf)&&(!false || !rq)&&(!false || rp)&&(!false || !(m1&&m2))&&(!false || !(nz || ng))&&(t0&&t1)))∧Ext w w':=by
 have hA:At [] w [] w:=At.start (L0:=[]) trivial;have hF:=hA.facts;have hne:=fun w=>neqCm ⟨8,num,foot,req,path,mode,n,time⟩ ⟨8,num,foot,0,.empty,0,0,time⟩ w;rw[heq] at hne;simp only[Cm.val] at hne;have hbr:=fun w=>bare_8 num foot req path mode n time w;have hrf:=fun w=>Path.right_any foot w (by omega);rw[hrf0] at hrf;clear heq hrf0;obtain⟨hA,hF⟩:=fY hA;go_enter Tryz.func53,Tryz.ntmps53
 go_wp2_with ((with_reducible refine gbx ?_);refine wCy (E:=43) hA ?_;clear hF hA;intro bX w1 hA hbX hF)
 refine(had_8 _).mono ?_;rintro e w1 ⟨rfl,hx⟩;replace hA:=hA.ext hx;clear hF hx;obtain⟨hA,hF⟩:=fY hA
 go_wp2_with (first|((with_reducible refine gal ?_);refine g2 hA ?_;clear hF hA;intro bH w1 hA hbH hF)|((with_reducible refine gst ?_);refine wTy hA ?_;clear hF hA;intro w1 hA hF))
 (try go_frame);refine cl2 hA ?_;clear hF hA;intro w1 hA hF;(try simp only[uY] at hA hF);clear hbr hne;cases eq
 · go_wp2_with fail;go_ret;exact⟨rfl,hA.toExt⟩
 go_wp2_with fail;refine(hrf _).mono ?_;rintro e w4 ⟨rfl,hx⟩;replace hA:=hA.ext hx;clear hF hx;obtain⟨hA,hF⟩:=fY hA;cases rf
 · go_wp2_with fail;go_ret;exact⟨rfl,hA.toExt⟩
 go_wp2_with fail;(try go_frame);refine cl1 hA ?_;clear hF hA;intro w1 hA hF;(try simp only[uY] at hA hF);cases t0
 · go_wp2_with fail;go_ret;exact⟨rfl,hA.toExt⟩
 cases t1
 · go_wp2_with fail;go_ret;exact⟨rfl,hA.toExt⟩
 go_wp2_with fail;go_ret;exact⟨rfl,hA.toExt⟩
theorem ZlG (c:Cm) (hk:hasOf c.kind=none) (w:World):Calls Tryz.prog 53 #[c.val] w fun e w'=>e=.returned (.bool false)∧Ext w w':=by
 have hA:At [] w [] w:=At.start (L0:=[]) trivial;have hF:=hA.facts;have hno:=fun w=>had_no c.kind hk w;clear hk;obtain⟨kind,num,foot,req,path,mode,n,time⟩:=c;simp only[Cm.val] at *
 obtain⟨hA,hF⟩:=fY hA;go_enter Tryz.func53,Tryz.ntmps53
 go_wp2_with ((with_reducible refine gbx ?_);refine wCy (E:=43) hA ?_;clear hF hA;intro bX w1 hA hbX hF)
 refine(hno _).mono ?_;clear hno;rintro e w1 ⟨rfl,hx⟩;replace hA:=hA.ext hx;clear hF hx;obtain⟨hA,hF⟩:=fY hA
 go_wp2_with (first|((with_reducible refine gal ?_);refine g2 hA ?_;clear hF hA;intro bH w1 hA hbH hF)|((with_reducible refine gst ?_);refine wTy hA ?_;clear hF hA;intro w1 hA hF))
 (try go_frame);refine cl1 hA ?_;clear hF hA;intro w1 hA hF;(try simp only[uY] at hA hF);go_wp2_with fail;go_ret;exact⟨rfl,hA.toExt⟩
theorem right_any (c:Cm) (w:World) (hf:c.foot.size≤1000) (hp:c.path.size≤1000):Calls Tryz.prog 53 #[c.val] w fun e w'=>e=.returned (.bool (Zao c))∧Ext w w':=by
 obtain⟨kind,num,foot,req,path,mode,n,time⟩:=c;simp only at hf hp;by_cases h0:kind=0
 · subst h0;exact ZnK num foot req path mode n time w (rf:=true) (rq:=true) (rp:=true) (m1:=true) (m2:=true) (nz:=true) (ng:=true) rfl rfl rfl
 by_cases h1:kind=1
 · subst h1;exact ZnJ num foot req path mode n time w (rp:=true) (m1:=true) (m2:=true) rfl hf rfl rfl rfl rfl rfl rfl
 by_cases h2:kind=2
 · subst h2;exact ZnI num foot req path mode n time w (rp:=true) (m1:=true) (m2:=true) (nz:=true) (ng:=true) rfl hf rfl rfl rfl rfl
 by_cases h3:kind=3
 · subst h3;exact ZnH num foot req path mode n time w (rp:=true) (m1:=true) (m2:=true) (nz:=true) (ng:=true) rfl hf rfl rfl rfl rfl
 by_cases h4:kind=4
 · subst h4;exact ZnG num foot req path mode n time w (nz:=true) (ng:=true) rfl hf rfl rfl hp rfl rfl rfl rfl rfl
 by_cases h5:kind=5
 · subst h5;exact ZnF num foot req path mode n time w (nz:=true) (ng:=true) rfl hf rfl rfl hp rfl rfl rfl rfl rfl
 by_cases h6:kind=6
 · subst h6;exact ZnE num foot req path mode n time w (m1:=true) (m2:=true) (nz:=true) (ng:=true) rfl hf rfl rfl hp rfl rfl rfl
 by_cases h7:kind=7
 · subst h7;exact ZnD num foot req path mode n time w (m1:=true) (m2:=true) rfl hf rfl rfl hp rfl rfl rfl rfl rfl
 by_cases h8:kind=8
 · subst h8;exact ZnC num foot req path mode n time w (rq:=true) (rp:=true) (m1:=true) (m2:=true) (nz:=true) (ng:=true) rfl hf rfl rfl rfl
 have hk:hasOf kind=none:=by unfold hasOf;simp[h0,h1,h2,h3,h4,h5,h6,h7,h8]
 have e:Zao ⟨kind,num,foot,req,path,mode,n,time⟩=false:=by unfold Zao;simp only[hk]
 rw[e];exact ZlG ⟨kind,num,foot,req,path,mode,n,time⟩ hk w
end Cmd
end
section
namespace Tab
open Go.RowKit
open Path (bl Zaf overB Zan)
open Lease (Ses Ans fresh ZaE)
open Lock (S3 Ent)
open Cmd (Cm Zao)
attribute [-go_sem] run_eql_struct run_neq_struct run_eqGuard_agg
def CutF (w:World) (t p m:Nat) (ss:List Ses) (b:Lock.Bk) (b3 b4:Nat) (c:List Value) (u v:Value) (wc:World):Prop:=∃b5:Nat,u=.pointer (some ⟨b5,0,none⟩)∧v=.bool false∧At [TabP t p m ss b] w [Part.cells b5 [.int .i64 0,.int .u64 0,.bool false] 65,Part.cells b4 [.int .i64 0,.int .u64 0,.bool false] 65,Part.cells b3 c 43,headT t p b.p,Lease.BookP p m ss,Lock.BookP b] wc
theorem Zgj {kind num:Int} {foot:ByteArray} {req:Int} {path:ByteArray} {mode n time:Int} (h:Zao ⟨kind,num,foot,req,path,mode,n,time⟩=true) (e:kind=1):n≤1048576:=by
 subst e;have h2:Cmd.Zbc ⟨1,num,foot,req,path,mode,n,time⟩ ⟨true,true,false,false,true,true⟩=true:=h;unfold Cmd.Zbc at h2;simp[Cmd.mostN] at h2;omega
theorem ZmV {w:World} {t p m:Nat} {ss:List Ses} {b:Lock.Bk} (h:Sep [TabP t p m ss b] w) (kind num:Int) (foot:ByteArray) (req:Int) (path:ByteArray) (mode n time:Int) {T:TS} (hR:TRel ss b T) {k:Nat} (hI:SInv T.S k) (hk:k≤200000) (hok:LkOk b) (hc:CmOk ⟨kind,num,foot,req,path,mode,n,time⟩) (hq0:0≤req) (hq1:req < Lease.big64) (hn0:0≤n):
 Calls Tryz.prog 22 #[.pointer (some ⟨t,0,none⟩),.agg #[.int .i64 kind,.int .u64 num,.string foot,.int .u64 req,.string path,.int .i64 mode,.int .u64 n,.int .i64 time]] w (TPost t p m ss b w (Zav T ⟨kind,num,foot,req,path,mode,n,time⟩).1 (Zav T ⟨kind,num,foot,req,path,mode,n,time⟩).2):=by
 have hm:Tryz.prog.follows .mixedOrders=true:=by kernel_rfl
 have hkn:=Hd (hR.kn hI);have hlen:=hR.len hI;have h0:0≤num:=hc.num.1;have h1:num < Lease.big64:=hc.num.2;have hf:foot.size≤1000:=Nat.le_trans hc.foot (by omega);have hp:path.size≤1000:=Nat.le_trans hc.path (by omega);have hmf:foot.size≤maxLen:=by unfold maxLen;omega
 have hrt:=Hd (fun w1=>Cmd.right_any ⟨kind,num,foot,req,path,mode,n,time⟩ w1 hf hp);have hR':=Hd hR;have hI':=Hd hI;have hc':=Hd hc;have hok':=Hd hok;have hlk:=hR.look num foot
 have hap:Zav T ⟨kind,num,foot,req,path,mode,n,time⟩=(if Zao ⟨kind,num,foot,req,path,mode,n,time⟩=false∨kind=0 then(T,ans0)
  else if kind=8 then(endT T ⟨kind,num,foot,req,path,mode,n,time⟩ (Lease.expB (Lease.look ss num foot) time),ansE (Lease.expB (Lease.look ss num foot) time))
  else match Lease.said (Lease.look ss num foot).told req with
   |some a=>(T,a)
   |none=>if 256≤(Lease.look ss num foot).told.length then(T,ansE 14) else(tellT (doT T ⟨kind,num,foot,req,path,mode,n,time⟩).1 ⟨kind,num,foot,req,path,mode,n,time⟩ (doT T ⟨kind,num,foot,req,path,mode,n,time⟩).2,(doT T ⟨kind,num,foot,req,path,mode,n,time⟩).2)):=by
  unfold Zav;simp only[hlk];rfl
 have hap0:=Hd hap;clear hap;have hex:=Hd (fun(w1:World) (q:Sep [Lease.BookP p m ss] w1)=>Lease.ZhL q h0 h1 hmf time);have htd:=Hd (fun(w1:World) (q:Sep [Lease.BookP p m ss] w1)=>Lease.Zlt q h0 h1 hmf hq0 hq1)
 obtain⟨rc,hrc⟩:∃z,Zao ⟨kind,num,foot,req,path,mode,n,time⟩=z:=⟨_,rfl⟩
 have hrt2:=hrt.out;simp only[hrc,Cm.val] at hrt2;have hrt3:=Hd hrt2;clear hrt hrt2 hR hI hc hok hlk;have hA:=At.start h;clear h;obtain⟨hA,hF⟩:=fY hA;go_enter Tryz.func22,Tryz.ntmps22
 go_wp2_with (first|((with_reducible refine gbx ?_);refine wHy 43 [.int .i64 kind,.int .u64 num,.string foot,.int .u64 req,.string path,.int .i64 mode,.int .u64 n,.int .i64 time] hA ?_;clear hF hA;intro b3 w1 hA hb3 hF)|((with_reducible refine gal ?_);refine g1 hA ?_;clear hF hA;intro b4 w1 hA hb4 hF))
 refine(hrt3.out _).mono ?_;rintro e w1 ⟨rfl,hx⟩;replace hA:=hA.ext hx;clear hx hF;obtain⟨hA,hF⟩:=fY hA;cases rc
 · have hz:=Hd (show Zav T ⟨kind,num,foot,req,path,mode,n,time⟩=(T,ans0) from hap0.out.trans (if_pos (.inl hrc)));clear hrc
   go_wp2_with ((with_reducible refine gst ?_);refine wTy hA ?_;clear hF hA;intro w1 hA hF)
   refine bodyPost_ret (v:=ansV 0 0 false) (by simp[results,Tryz.results22,go_sem,hF]) rfl ?_;rw[hz.out];exact⟨ss,b,rfl,hR'.out,hA.pick pZ⟩
 by_cases k0:kind=0
 · have hz:=Hd (show Zav T ⟨kind,num,foot,req,path,mode,n,time⟩=(T,ans0) from hap0.out.trans (if_pos (.inr k0)));subst k0;clear hrc
   go_wp2_with ((with_reducible refine gst ?_);refine wTy hA ?_;clear hF hA;intro w1 hA hF)
   refine bodyPost_ret (v:=ansV 0 0 false) (by simp[results,Tryz.results22,go_sem,hF]) rfl ?_;rw[hz.out];exact⟨ss,b,rfl,hR'.out,hA.pick pZ⟩
 have hap2:=hap0.out.trans (if_neg (fun q=>q.elim (fun q=>by rw[hrc] at q;cases q) k0));have hd0:decide (kind=0)=false:=decide_eq_false k0;clear hap0;by_cases x8:kind=8
 · have hz:=hap2.trans (if_pos x8);subst x8
   obtain⟨co,hco⟩:∃z,Lease.expB (Lease.look ss num foot) time=z:=⟨_,rfl⟩
   have hy:=hex.out;simp only[hco] at hy;rw[hco] at hz;have hex3:=Hd hy;have hz':=Hd hz;clear hy hco hex hz hap2 hrc;replace hA:=Zbr hA sZ;clear hF;obtain⟨hA,hF⟩:=fY hA;go_upto_region 4 with fail
   (try go_frame);replace hA:=hA.drew;clear hF;refine wp_region_held (S:=fun w'=>Zaa w' t (k2 p b.p) 87∧Zaa w' b3 (k8 8 num foot req path mode n time) 43) hm ?_;change wpAnyH _ _ _ _ _ 14 _ _ (World.drew _);generalize World.drew _=wd at *
   have hS0:=(⟨hA.get (A:=Part.cells t (k2 p b.p) 87) sZ,hA.get (A:=Part.cells b3 (k8 8 num foot req path mode n time) 43) sZ⟩:(fun w'=>Zaa w' t (k2 p b.p) 87∧Zaa w' b3 (k8 8 num foot req path mode n time) 43) wd)
   refine tP 0 22 (.pointer (some ⟨t,0,none⟩)) (s:=hS0) (h:= ?_);(try go_frame);refine tP 1 23 (.pointer (some ⟨b3,1,none⟩)) (s:=hS0) (h:= ?_);(try go_frame);refine tZ 2 24 (.agg #[.int .u64 num,.string foot]) (r:=(fun w' hS=>Zah (ty:=25) (n:=2) (b:=b3) (j:=1) rfl (by exact rfl) hS.2 (by kernel_rfl) (by kernel_rfl) rfl rfl)) (s:=hS0) (h:= ?_);(try go_frame);refine tP 3 25 (.pointer (some ⟨t,0,none⟩)) (s:=hS0) (h:= ?_);(try go_frame);refine tP 4 26 (.pointer (some ⟨t,0,none⟩)) (s:=hS0) (h:= ?_);(try go_frame);refine tP 5 27 (.pointer (some ⟨t,0,none⟩)) (s:=hS0) (h:= ?_);(try go_frame);refine tZ 6 28 (.pointer (some ⟨p,0,none⟩)) (r:=(fun w' hS=>Zae (ty:=85) (b:=t) (j:=0) rfl (by exact rfl) hS.1 (by kernel_rfl) rfl)) (s:=hS0) (h:= ?_);(try go_frame);refine tP 7 29 (.pointer (some ⟨b3,1,none⟩)) (s:=hS0) (h:= ?_);(try go_frame);refine tZ 8 30 (.agg #[.int .u64 num,.string foot]) (r:=(fun w' hS=>Zah (ty:=25) (n:=2) (b:=b3) (j:=1) rfl (by exact rfl) hS.2 (by kernel_rfl) (by kernel_rfl) rfl rfl)) (s:=hS0) (h:= ?_);(try go_frame);refine tP 9 31 (.pointer (some ⟨b3,7,none⟩)) (s:=hS0) (h:= ?_);(try go_frame);refine tZ 10 32 (.int .i64 time) (r:=(fun w' hS=>Zae (ty:=3) (b:=b3) (j:=7) rfl (by exact rfl) hS.2 (by kernel_rfl) rfl)) (s:=hS0) (h:= ?_);(try go_frame);refine Zab (i:=11) (by kernel_rfl) ?_;refine cY 11 33 55 (fun u w'=>∃ss',u=.int .i64 co∧At [Lease.BookP p m ss] _ [Lease.BookP p m ss'] w'∧(co≠0∧ss'=ss∨co=0∧ZaE ss num foot Ses.ended ss')) ((hex3.out _ (hA.sep1 (A:=Lease.BookP p m ss) sZ)).mono fun e w' ⟨ss',he,hT,hq⟩=>⟨_,he,ss',rfl,hT,hq⟩) ?_;rintro u w3 ⟨ss',rfl,hT,hq⟩;have hq':=Hd hq;have hB:=hA.call1 (A:=Lease.BookP p m ss) sZ hT;clear hT hq;simp only[uA] at hB;refine andH ⟨hB.ci,hB.ci⟩ fun hS0=> ?_;replace hA:=hB;clear hB;(try go_frame);refine Zab (i:=12) (by kernel_rfl) ?_;replace hA:=ZcR (ss:=ss') hA sZ sZ sZ;refine cY 12 34 54 (fun u w'=>u=ansV co 0 false∧At [TabP t p m ss' b] _ [TabP t p m ss' (if co=0 then b.with (b.st.dropAll num foot) else b)] w') ((ZgI (hA.sep1 (A:=TabP t p m ss' b) sZ) num foot co hok'.out).mono fun e w' ⟨he,hT⟩=>⟨_,he,rfl,hT⟩) ?_;rintro u w3 ⟨rfl,hT⟩;have hC:=hA.call1 (A:=TabP t p m ss' b) sZ hT;clear hT;simp only[uA] at hC
   obtain⟨b',hb'⟩:∃z,(if co=0 then b.with (b.st.dropAll num foot) else b)=z:=⟨_,rfl⟩
   rw[hb'] at hC;have hbp:b'.p=b.p:=by rw[←hb'];split<;>rfl
   have hB:=Zbr hC sZ;rw[hbp] at hB;have hb2:=Hd hb';have hbp':=Hd hbp;clear hC hb' hbp;refine andH ⟨hB.ci,hB.ci⟩ fun hS0=> ?_;replace hA:=hB;clear hB;(try go_frame);refine Zab (i:=13) (by kernel_rfl) ?_;refine stZ 13 b4 0 [.int .i64 co,.int .u64 0,.bool false] hA ?_;intro w3 hB;simp only[uA] at hB;refine andH ⟨hB.ci,hB.ci⟩ fun hS0=> ?_;replace hA:=hB;clear hB;(try go_frame);refine wpAnyH_done (by kernel_rfl) ?_ _;(try go_frame);clear hS0;obtain⟨hA,hF⟩:=fY hA;go_wp2_with fail;refine bodyPost_ret (v:=ansV co 0 false) (by simp[results,Tryz.results22,go_sem,hF]) rfl ?_;rw[hz'.out];exact⟨ss',b',rfl,by rw[←hb2.out];exact ZkP (c:=⟨8,num,foot,req,path,mode,n,time⟩) hR'.out hkn.out hq'.out,Zay (ss:=ss') (b:=b') (by rw[hbp'.out];exact hA.pick pZ)⟩
 have hap3:=hap2.trans (if_neg x8);have hd8:decide (kind=8)=false:=decide_eq_false x8
 have hn1:kind=1→0≤n∧n≤1048576:=fun e=>⟨hn0,Zgj hrc e⟩
 clear hap2 hrc hex
 obtain⟨sd,hsd⟩:∃z,Lease.said (Lease.look ss num foot).told req=z:=⟨_,rfl⟩
 have hy:=htd.out;simp only[hsd] at hy;rw[hsd] at hap3;have htd3:=Hd hy;clear hy htd hsd
 cases sd with
 |some a=>
  obtain⟨le,ln,lg⟩:=a;have hz':=Hd hap3;simp only[Lease.toldV] at htd3;clear hap3;replace hA:=Zbr hA sZ;clear hF;obtain⟨hA,hF⟩:=fY hA;go_upto_region 5 with fail
  (try go_frame);replace hA:=hA.drew;clear hF;refine wp_region_held (S:=fun w'=>Zaa w' t (k2 p b.p) 87∧Zaa w' b3 (k8 kind num foot req path mode n time) 43) hm ?_;change wpAnyH _ _ _ _ _ 15 _ _ (World.drew _);generalize World.drew _=wd at *
  have hS0:=(⟨hA.get (A:=Part.cells t (k2 p b.p) 87) sZ,hA.get (A:=Part.cells b3 (k8 kind num foot req path mode n time) 43) sZ⟩:(fun w'=>Zaa w' t (k2 p b.p) 87∧Zaa w' b3 (k8 kind num foot req path mode n time) 43) wd)
  refine tP 0 36 (.pointer (some ⟨t,0,none⟩)) (s:=hS0) (h:= ?_);(try go_frame);refine tP 1 37 (.pointer (some ⟨t,0,none⟩)) (s:=hS0) (h:= ?_);(try go_frame);refine tP 2 38 (.pointer (some ⟨t,0,none⟩)) (s:=hS0) (h:= ?_);(try go_frame);refine tZ 3 39 (.pointer (some ⟨p,0,none⟩)) (r:=(fun w' hS=>Zae (ty:=85) (b:=t) (j:=0) rfl (by exact rfl) hS.1 (by kernel_rfl) rfl)) (s:=hS0) (h:= ?_);(try go_frame);refine tP 4 40 (.pointer (some ⟨b3,1,none⟩)) (s:=hS0) (h:= ?_);(try go_frame);refine tZ 5 41 (.agg #[.int .u64 num,.string foot]) (r:=(fun w' hS=>Zah (ty:=25) (n:=2) (b:=b3) (j:=1) rfl (by exact rfl) hS.2 (by kernel_rfl) (by kernel_rfl) rfl rfl)) (s:=hS0) (h:= ?_);(try go_frame);refine tP 6 42 (.pointer (some ⟨b3,3,none⟩)) (s:=hS0) (h:= ?_);(try go_frame);refine tZ 7 43 (.int .u64 req) (r:=(fun w' hS=>Zae (ty:=22) (b:=b3) (j:=3) rfl (by exact rfl) hS.2 (by kernel_rfl) rfl)) (s:=hS0) (h:= ?_);(try go_frame);refine ZaY (i:=8) (j:=12) (by kernel_rfl) ?_ ?_
  · skip;refine cY 8 44 56 (fun u w'=>u=.tuple #[.agg #[.int .i64 le,.int .u64 ln,.bool lg],.bool true]∧At [Lease.BookP p m ss] _ [Lease.BookP p m ss] w') ((htd3.out _ (hA.sep1 (A:=Lease.BookP p m ss) sZ)).mono fun e w' ⟨he,hT⟩=>⟨_,he,rfl,hT⟩) ?_;rintro u w3 ⟨rfl,hT⟩;have hB:=hA.call1 (A:=Lease.BookP p m ss) sZ hT;clear hT;simp only[uA] at hB;refine andH ⟨hB.ci,hB.ci⟩ fun hS0=> ?_;replace hA:=hB;clear hB;(try go_frame);refine tP 9 35 (.tuple #[.agg #[.int .i64 le,.int .u64 ln,.bool lg],.bool true]) (s:=hS0) (h:= ?_);(try go_frame);refine tP 10 45 (.agg #[.int .i64 le,.int .u64 ln,.bool lg]) (s:=hS0) (h:= ?_);(try go_frame);refine tP 11 46 (.bool true) (s:=hS0) (h:= ?_);(try go_frame);refine Zab (i:=12) (by kernel_rfl) ?_;refine aZ 12 5 65 [.int .i64 0,.int .u64 0,.bool false] hA ?_;intro b5 w3 hB;refine andH ⟨hB.ci,hB.ci⟩ fun hS0=> ?_;replace hA:=hB;clear hB;(try go_frame);refine Zab (i:=13) (by kernel_rfl) ?_;refine stZ 13 b5 0 [.int .i64 le,.int .u64 ln,.bool lg] hA ?_;intro w3 hB;simp only[uA] at hB;refine andH ⟨hB.ci,hB.ci⟩ fun hS0=> ?_;replace hA:=hB;clear hB;(try go_frame);refine tP 14 6 (.bool true) (s:=hS0) (h:= ?_);(try go_frame);refine wpAnyH_done (by kernel_rfl) ?_ _;(try go_frame);clear hS0;obtain⟨hA,hF⟩:=fY hA
    go_wp2_with ((with_reducible refine gst ?_);refine wTy hA ?_;clear hF hA;intro w1 hA hF)
    refine bodyPost_ret (v:=ansV le ln lg) (by simp[results,Tryz.results22,go_sem,hF]) rfl ?_;rw[hz'.out];exact⟨ss,b,rfl,hR'.out,Zay (hA.pick pZ)⟩
  skip;refine aZ 12 5 65 [.int .i64 0,.int .u64 0,.bool false] hA ?_;intro b5 w3 hB;refine andH ⟨hB.ci,hB.ci⟩ fun hS0=> ?_;replace hA:=hB;clear hB;(try go_frame);refine Zab (i:=8) (by kernel_rfl) ?_;refine cY 8 44 56 (fun u w'=>u=.tuple #[.agg #[.int .i64 le,.int .u64 ln,.bool lg],.bool true]∧At [Lease.BookP p m ss] _ [Lease.BookP p m ss] w') ((htd3.out _ (hA.sep1 (A:=Lease.BookP p m ss) sZ)).mono fun e w' ⟨he,hT⟩=>⟨_,he,rfl,hT⟩) ?_;rintro u w3 ⟨rfl,hT⟩;have hB:=hA.call1 (A:=Lease.BookP p m ss) sZ hT;clear hT;simp only[uA] at hB;refine andH ⟨hB.ci,hB.ci⟩ fun hS0=> ?_;replace hA:=hB;clear hB;(try go_frame);refine tP 9 35 (.tuple #[.agg #[.int .i64 le,.int .u64 ln,.bool lg],.bool true]) (s:=hS0) (h:= ?_);(try go_frame);refine tP 10 45 (.agg #[.int .i64 le,.int .u64 ln,.bool lg]) (s:=hS0) (h:= ?_);(try go_frame);refine tP 11 46 (.bool true) (s:=hS0) (h:= ?_);(try go_frame);refine Zab (i:=13) (by kernel_rfl) ?_;refine stZ 13 b5 0 [.int .i64 le,.int .u64 ln,.bool lg] hA ?_;intro w3 hB;simp only[uA] at hB;refine andH ⟨hB.ci,hB.ci⟩ fun hS0=> ?_;replace hA:=hB;clear hB;(try go_frame);refine tP 14 6 (.bool true) (s:=hS0) (h:= ?_);(try go_frame);refine wpAnyH_done (by kernel_rfl) ?_ _;(try go_frame);clear hS0;obtain⟨hA,hF⟩:=fY hA
  go_wp2_with ((with_reducible refine gst ?_);refine wTy hA ?_;clear hF hA;intro w1 hA hF)
  refine bodyPost_ret (v:=ansV le ln lg) (by simp[results,Tryz.results22,go_sem,hF]) rfl ?_;rw[hz'.out];exact⟨ss,b,rfl,hR'.out,Zay (hA.pick pZ)⟩
 |none=>
  simp only[Lease.toldV] at htd3;have hap3':=Hd hap3;clear hap3;replace hA:=Zbr hA sZ;clear hF;obtain⟨hA,hF⟩:=fY hA;go_upto_region 5 with fail
  (try go_frame);go_cut [5,6] from 35 to 47 (CutF w t p m ss b b3 b4 [.int .i64 kind,.int .u64 num,.string foot,.int .u64 req,.string path,.int .i64 mode,.int .u64 n,.int .i64 time])
  case first=>
   replace hA:=hA.drew;clear hF;refine wp_region_held (S:=fun w'=>Zaa w' t (k2 p b.p) 87∧Zaa w' b3 (k8 kind num foot req path mode n time) 43) hm ?_;change wpAnyH _ _ _ _ _ 15 _ _ (World.drew _);generalize World.drew _=wd at *
   have hS0:=(⟨hA.get (A:=Part.cells t (k2 p b.p) 87) sZ,hA.get (A:=Part.cells b3 (k8 kind num foot req path mode n time) 43) sZ⟩:(fun w'=>Zaa w' t (k2 p b.p) 87∧Zaa w' b3 (k8 kind num foot req path mode n time) 43) wd)
   refine tP 0 36 (.pointer (some ⟨t,0,none⟩)) (s:=hS0) (h:= ?_);(try go_frame);refine tP 1 37 (.pointer (some ⟨t,0,none⟩)) (s:=hS0) (h:= ?_);(try go_frame);refine tP 2 38 (.pointer (some ⟨t,0,none⟩)) (s:=hS0) (h:= ?_);(try go_frame);refine tZ 3 39 (.pointer (some ⟨p,0,none⟩)) (r:=(fun w' hS=>Zae (ty:=85) (b:=t) (j:=0) rfl (by exact rfl) hS.1 (by kernel_rfl) rfl)) (s:=hS0) (h:= ?_);(try go_frame);refine tP 4 40 (.pointer (some ⟨b3,1,none⟩)) (s:=hS0) (h:= ?_);(try go_frame);refine tZ 5 41 (.agg #[.int .u64 num,.string foot]) (r:=(fun w' hS=>Zah (ty:=25) (n:=2) (b:=b3) (j:=1) rfl (by exact rfl) hS.2 (by kernel_rfl) (by kernel_rfl) rfl rfl)) (s:=hS0) (h:= ?_);(try go_frame);refine tP 6 42 (.pointer (some ⟨b3,3,none⟩)) (s:=hS0) (h:= ?_);(try go_frame);refine tZ 7 43 (.int .u64 req) (r:=(fun w' hS=>Zae (ty:=22) (b:=b3) (j:=3) rfl (by exact rfl) hS.2 (by kernel_rfl) rfl)) (s:=hS0) (h:= ?_);(try go_frame);refine ZaY (i:=8) (j:=12) (by kernel_rfl) ?_ ?_
   · skip;refine cY 8 44 56 (fun u w'=>u=.tuple #[.agg #[.int .i64 0,.int .u64 0,.bool false],.bool false]∧At [Lease.BookP p m ss] _ [Lease.BookP p m ss] w') ((htd3.out _ (hA.sep1 (A:=Lease.BookP p m ss) sZ)).mono fun e w' ⟨he,hT⟩=>⟨_,he,rfl,hT⟩) ?_;rintro u w3 ⟨rfl,hT⟩;have hB:=hA.call1 (A:=Lease.BookP p m ss) sZ hT;clear hT;simp only[uA] at hB;refine andH ⟨hB.ci,hB.ci⟩ fun hS0=> ?_;replace hA:=hB;clear hB;(try go_frame);refine tP 9 35 (.tuple #[.agg #[.int .i64 0,.int .u64 0,.bool false],.bool false]) (s:=hS0) (h:= ?_);(try go_frame);refine tP 10 45 (.agg #[.int .i64 0,.int .u64 0,.bool false]) (s:=hS0) (h:= ?_);(try go_frame);refine tP 11 46 (.bool false) (s:=hS0) (h:= ?_);(try go_frame);refine Zab (i:=12) (by kernel_rfl) ?_;refine aZ 12 5 65 [.int .i64 0,.int .u64 0,.bool false] hA ?_;intro b5 w3 hB;refine andH ⟨hB.ci,hB.ci⟩ fun hS0=> ?_;replace hA:=hB;clear hB;(try go_frame);refine Zab (i:=13) (by kernel_rfl) ?_;refine stZ 13 b5 0 [.int .i64 0,.int .u64 0,.bool false] hA ?_;intro w3 hB;simp only[uA] at hB;refine andH ⟨hB.ci,hB.ci⟩ fun hS0=> ?_;replace hA:=hB;clear hB;(try go_frame);refine tP 14 6 (.bool false) (s:=hS0) (h:= ?_);(try go_frame);refine wpAnyH_done (by kernel_rfl) ?_ _;(try go_frame);clear hS0;obtain⟨hA,hF⟩:=fY hA;go_wp2_with fail;go_meet;case rel=>exact⟨b5,rfl,rfl,hA.pick pZ⟩
   skip;refine aZ 12 5 65 [.int .i64 0,.int .u64 0,.bool false] hA ?_;intro b5 w3 hB;refine andH ⟨hB.ci,hB.ci⟩ fun hS0=> ?_;replace hA:=hB;clear hB;(try go_frame);refine Zab (i:=8) (by kernel_rfl) ?_;refine cY 8 44 56 (fun u w'=>u=.tuple #[.agg #[.int .i64 0,.int .u64 0,.bool false],.bool false]∧At [Lease.BookP p m ss] _ [Lease.BookP p m ss] w') ((htd3.out _ (hA.sep1 (A:=Lease.BookP p m ss) sZ)).mono fun e w' ⟨he,hT⟩=>⟨_,he,rfl,hT⟩) ?_;rintro u w3 ⟨rfl,hT⟩;have hB:=hA.call1 (A:=Lease.BookP p m ss) sZ hT;clear hT;simp only[uA] at hB;refine andH ⟨hB.ci,hB.ci⟩ fun hS0=> ?_;replace hA:=hB;clear hB;(try go_frame);refine tP 9 35 (.tuple #[.agg #[.int .i64 0,.int .u64 0,.bool false],.bool false]) (s:=hS0) (h:= ?_);(try go_frame);refine tP 10 45 (.agg #[.int .i64 0,.int .u64 0,.bool false]) (s:=hS0) (h:= ?_);(try go_frame);refine tP 11 46 (.bool false) (s:=hS0) (h:= ?_);(try go_frame);refine Zab (i:=13) (by kernel_rfl) ?_;refine stZ 13 b5 0 [.int .i64 0,.int .u64 0,.bool false] hA ?_;intro w3 hB;simp only[uA] at hB;refine andH ⟨hB.ci,hB.ci⟩ fun hS0=> ?_;replace hA:=hB;clear hB;(try go_frame);refine tP 14 6 (.bool false) (s:=hS0) (h:= ?_);(try go_frame);refine wpAnyH_done (by kernel_rfl) ?_ _;(try go_frame);clear hS0;obtain⟨hA,hF⟩:=fY hA;go_wp2_with fail;go_meet;case rel=>exact⟨b5,rfl,rfl,hA.pick pZ⟩
  case rest=>
   obtain⟨b5,rfl,rfl,hB⟩:=hcut;replace hA:=hB;clear hF hB;obtain⟨hA,hF⟩:=fY hA;by_cases hfull:256≤(Lease.look ss num foot).told.length
   · have hz':=Hd (hap3'.out.trans (if_pos hfull));have hro:=Hd (fun(w1:World) (q:Sep [Lease.BookP p m ss] w1)=>Lease.ZjQ q h0 h1 hmf (Nat.not_lt.2 hfull));clear hap3' hfull;go_upto_region 8 with fail
     (try go_frame);replace hA:=hA.drew;clear hF;refine wp_region_held (S:=fun w'=>Zaa w' t (k2 p b.p) 87∧Zaa w' b3 (k8 kind num foot req path mode n time) 43) hm ?_;change wpAnyH _ _ _ _ _ 8 _ _ (World.drew _);generalize World.drew _=wd at *
     have hS0:=(⟨hA.get (A:=Part.cells t (k2 p b.p) 87) sZ,hA.get (A:=Part.cells b3 (k8 kind num foot req path mode n time) 43) sZ⟩:(fun w'=>Zaa w' t (k2 p b.p) 87∧Zaa w' b3 (k8 kind num foot req path mode n time) 43) wd)
     refine tP 0 49 (.pointer (some ⟨t,0,none⟩)) (s:=hS0) (h:= ?_);(try go_frame);refine tP 1 50 (.pointer (some ⟨t,0,none⟩)) (s:=hS0) (h:= ?_);(try go_frame);refine tP 2 51 (.pointer (some ⟨t,0,none⟩)) (s:=hS0) (h:= ?_);(try go_frame);refine tZ 3 52 (.pointer (some ⟨p,0,none⟩)) (r:=(fun w' hS=>Zae (ty:=85) (b:=t) (j:=0) rfl (by exact rfl) hS.1 (by kernel_rfl) rfl)) (s:=hS0) (h:= ?_);(try go_frame);refine tP 4 53 (.pointer (some ⟨b3,1,none⟩)) (s:=hS0) (h:= ?_);(try go_frame);refine tZ 5 54 (.agg #[.int .u64 num,.string foot]) (r:=(fun w' hS=>Zah (ty:=25) (n:=2) (b:=b3) (j:=1) rfl (by exact rfl) hS.2 (by kernel_rfl) (by kernel_rfl) rfl rfl)) (s:=hS0) (h:= ?_);(try go_frame);refine Zab (i:=6) (by kernel_rfl) ?_;refine cY 6 55 57 (fun u w'=>u=.bool false∧At [Lease.BookP p m ss] _ [Lease.BookP p m ss] w') ((hro.out _ (hA.sep1 (A:=Lease.BookP p m ss) sZ)).mono fun e w' ⟨he,hT⟩=>⟨_,he,rfl,hT⟩) ?_;rintro u w3 ⟨rfl,hT⟩;have hB:=hA.call1 (A:=Lease.BookP p m ss) sZ hT;clear hT;simp only[uA] at hB;refine andH ⟨hB.ci,hB.ci⟩ fun hS0=> ?_;replace hA:=hB;clear hB;(try go_frame);refine tP 7 56 (.bool true) (s:=hS0) (h:= ?_);(try go_frame);refine wpAnyH_done (by kernel_rfl) ?_ _;(try go_frame);clear hS0;obtain⟨hA,hF⟩:=fY hA;go_wp2_with fail;refine(ZaA _ _).mono ?_;rintro e w1 ⟨rfl,hx⟩;replace hA:=hA.ext hx;clear hx hF;obtain⟨hA,hF⟩:=fY hA
     go_wp2_with ((with_reducible refine gst ?_);refine wTy hA ?_;clear hF hA;intro w1 hA hF)
     refine bodyPost_ret (v:=ansV 14 0 false) (by simp[results,Tryz.results22,go_sem,hF]) rfl ?_;rw[hz'.out];exact⟨ss,b,rfl,hR'.out,Zay (hA.pick pZ)⟩
   have hap4:=hap3'.out.trans (if_neg hfull);have hro:=Hd (fun(w1:World) (q:Sep [Lease.BookP p m ss] w1)=>Lease.Zfu q h0 h1 hmf (Nat.lt_of_not_le hfull));have hz':=Hd hap4;clear hap3' hap4 hfull;go_upto_region 8 with fail
   (try go_frame);replace hA:=hA.drew;clear hF;refine wp_region_held (S:=fun w'=>Zaa w' t (k2 p b.p) 87∧Zaa w' b3 (k8 kind num foot req path mode n time) 43) hm ?_;change wpAnyH _ _ _ _ _ 8 _ _ (World.drew _);generalize World.drew _=wd at *
   have hS0:=(⟨hA.get (A:=Part.cells t (k2 p b.p) 87) sZ,hA.get (A:=Part.cells b3 (k8 kind num foot req path mode n time) 43) sZ⟩:(fun w'=>Zaa w' t (k2 p b.p) 87∧Zaa w' b3 (k8 kind num foot req path mode n time) 43) wd)
   refine tP 0 49 (.pointer (some ⟨t,0,none⟩)) (s:=hS0) (h:= ?_);(try go_frame);refine tP 1 50 (.pointer (some ⟨t,0,none⟩)) (s:=hS0) (h:= ?_);(try go_frame);refine tP 2 51 (.pointer (some ⟨t,0,none⟩)) (s:=hS0) (h:= ?_);(try go_frame);refine tZ 3 52 (.pointer (some ⟨p,0,none⟩)) (r:=(fun w' hS=>Zae (ty:=85) (b:=t) (j:=0) rfl (by exact rfl) hS.1 (by kernel_rfl) rfl)) (s:=hS0) (h:= ?_);(try go_frame);refine tP 4 53 (.pointer (some ⟨b3,1,none⟩)) (s:=hS0) (h:= ?_);(try go_frame);refine tZ 5 54 (.agg #[.int .u64 num,.string foot]) (r:=(fun w' hS=>Zah (ty:=25) (n:=2) (b:=b3) (j:=1) rfl (by exact rfl) hS.2 (by kernel_rfl) (by kernel_rfl) rfl rfl)) (s:=hS0) (h:= ?_);(try go_frame);refine Zab (i:=6) (by kernel_rfl) ?_;refine cY 6 55 57 (fun u w'=>u=.bool true∧At [Lease.BookP p m ss] _ [Lease.BookP p m ss] w') ((hro.out _ (hA.sep1 (A:=Lease.BookP p m ss) sZ)).mono fun e w' ⟨he,hT⟩=>⟨_,he,rfl,hT⟩) ?_;rintro u w3 ⟨rfl,hT⟩;have hB:=hA.call1 (A:=Lease.BookP p m ss) sZ hT;clear hT;simp only[uA] at hB;refine andH ⟨hB.ci,hB.ci⟩ fun hS0=> ?_;replace hA:=hB;clear hB;(try go_frame);refine tP 7 56 (.bool false) (s:=hS0) (h:= ?_);(try go_frame);refine wpAnyH_done (by kernel_rfl) ?_ _;(try go_frame);clear hS0;obtain⟨hA,hF⟩:=fY hA;replace hA:=ZcR hA sZ sZ sZ;clear hF;obtain⟨hA,hF⟩:=fY hA;go_wp2_with fail;refine(do_any (hA.sep1 (A:=TabP t p m ss b) sZ) kind num foot req path mode n time hR'.out hI'.out (by omega) h0 h1 hf hp hok'.out hn1).mono ?_;rintro e w1 ⟨ss1,b1,rfl,hr2,hT⟩;replace hA:=hA.call1 (A:=TabP t p m ss b) sZ hT;clear hT hF;obtain⟨hA,hF⟩:=fY hA
   obtain⟨⟨le,ln,lg⟩,hla⟩:∃z,(doT T ⟨kind,num,foot,req,path,mode,n,time⟩).2=z:=⟨_,rfl⟩
   rw[hla];simp only[Lease.Ans.val];have hi1:=ZmL hI'.out hc'.out;have hkn2:=Hd (hr2.kn hi1)
   obtain⟨te,hte⟩:∃z,Lease.tellE (lookA (doT T ⟨kind,num,foot,req,path,mode,n,time⟩).1.S num foot) req=z:=⟨_,rfl⟩
   have hte2:Lease.tellE (Lease.look ss1 num foot) req=te:=by rw[←hte,hr2.look];rfl
   have htl:=fun(w1:World) (q:Sep [Lease.BookP p m ss1] w1)=>Lease.Zk7 q h0 h1 hmf hq0 hq1 ⟨le,ln,lg⟩;simp only[hte2] at htl;have htl3:=Hd htl;have hla':=Hd hla;have hte':=Hd hte;have hr2':=Hd hr2;clear htl hla hte hte2 hr2 hi1;obtain⟨hA,hF⟩:=fY hA;replace hA:=Zbr hA sZ;clear hF;obtain⟨hA,hF⟩:=fY hA
   go_upto_region 11 with(first|((with_reducible refine gal ?_);refine g1 hA ?_;clear hF hA;intro b7 w1 hA hb7 hF)|((with_reducible refine gst ?_);refine wTy hA ?_;clear hF hA;intro w1 hA hF))
   (try go_frame);replace hA:=hA.drew;clear hF;refine wp_region_held (S:=fun w'=>Zaa w' t [.pointer (some ⟨p,0,none⟩),.pointer (some ⟨b1.p,0,none⟩)] 87∧Zaa w' b3 (k8 kind num foot req path mode n time) 43∧Zaa w' b7 [.int .i64 le,.int .u64 ln,.bool lg] 65) hm ?_;change wpAnyH _ _ _ _ _ 10 _ _ (World.drew _);generalize World.drew _=wd at *
   have hS0:=(⟨hA.get (A:=Part.cells t [.pointer (some ⟨p,0,none⟩),.pointer (some ⟨b1.p,0,none⟩)] 87) sZ,hA.get (A:=Part.cells b3 (k8 kind num foot req path mode n time) 43) sZ,hA.get (A:=Part.cells b7 [.int .i64 le,.int .u64 ln,.bool lg] 65) sZ⟩:(fun w'=>Zaa w' t [.pointer (some ⟨p,0,none⟩),.pointer (some ⟨b1.p,0,none⟩)] 87∧Zaa w' b3 (k8 kind num foot req path mode n time) 43∧Zaa w' b7 [.int .i64 le,.int .u64 ln,.bool lg] 65) wd)
   refine tP 0 61 (.pointer (some ⟨t,0,none⟩)) (s:=hS0) (h:= ?_);(try go_frame);refine tP 1 62 (.pointer (some ⟨t,0,none⟩)) (s:=hS0) (h:= ?_);(try go_frame);refine tP 2 63 (.pointer (some ⟨t,0,none⟩)) (s:=hS0) (h:= ?_);(try go_frame);refine tZ 3 64 (.pointer (some ⟨p,0,none⟩)) (r:=(fun w' hS=>Zae (ty:=85) (b:=t) (j:=0) rfl (by exact rfl) hS.1 (by kernel_rfl) rfl)) (s:=hS0) (h:= ?_);(try go_frame);refine tP 4 65 (.pointer (some ⟨b3,1,none⟩)) (s:=hS0) (h:= ?_);(try go_frame);refine tZ 5 66 (.agg #[.int .u64 num,.string foot]) (r:=(fun w' hS=>Zah (ty:=25) (n:=2) (b:=b3) (j:=1) rfl (by exact rfl) hS.2.1 (by kernel_rfl) (by kernel_rfl) rfl rfl)) (s:=hS0) (h:= ?_);(try go_frame);refine tP 6 67 (.pointer (some ⟨b3,3,none⟩)) (s:=hS0) (h:= ?_);(try go_frame);refine tZ 7 68 (.int .u64 req) (r:=(fun w' hS=>Zae (ty:=22) (b:=b3) (j:=3) rfl (by exact rfl) hS.2.1 (by kernel_rfl) rfl)) (s:=hS0) (h:= ?_);(try go_frame);refine tZ 8 69 (.agg #[.int .i64 le,.int .u64 ln,.bool lg]) (r:=(fun w' hS=>Zah (ty:=65) (n:=3) (b:=b7) (j:=0) rfl (by exact rfl) hS.2.2 (by kernel_rfl) (by kernel_rfl) rfl rfl)) (s:=hS0) (h:= ?_);(try go_frame);refine Zab (i:=9) (by kernel_rfl) ?_;refine cY 9 70 60 (fun u w'=>∃ss2,u=.tuple #[]∧At [Lease.BookP p m ss1] _ [Lease.BookP p m ss2] w'∧(te≠0∧ss2=ss1∨te=0∧ZaE ss1 num foot (fun s=>s.tell req ⟨le,ln,lg⟩) ss2)) ((htl3.out _ (hA.sep1 (A:=Lease.BookP p m ss1) sZ)).mono fun e w' ⟨ss2,he,hT,hq⟩=>⟨_,he,ss2,rfl,hT,hq⟩) ?_;rintro u w3 ⟨ss2,rfl,hT,hq⟩;have hq':=Hd hq;have hB:=hA.call1 (A:=Lease.BookP p m ss1) sZ hT;clear hT hq;simp only[uA] at hB;refine andH ⟨hB.ci,hB.ci,hB.ci⟩ fun hS0=> ?_;replace hA:=hB;clear hB;(try go_frame);refine wpAnyH_done (by kernel_rfl) ?_ _;(try go_frame);clear hS0;obtain⟨hA,hF⟩:=fY hA
   go_wp2_with ((with_reducible refine gst ?_);refine wTy hA ?_;clear hF hA;intro w1 hA hF)
   refine bodyPost_ret (v:=ansV le ln lg) (by simp[results,Tryz.results22,go_sem,hF]) rfl ?_;rw[hz'.out]
   exact⟨ss2,b1,(by
    show Ending.returned (ansV le ln lg)=Ending.returned (doT T ⟨kind,num,foot,req,path,mode,n,time⟩).2.val;rw[hla'.out]
    rfl),by
    show TRel ss2 b1 (opT (doT T ⟨kind,num,foot,req,path,mode,n,time⟩).1 ⟨kind,num,foot,req,path,mode,n,time⟩ (fun s=>s.tell req (doT T ⟨kind,num,foot,req,path,mode,n,time⟩).2) (Lease.tellE (lookA (doT T ⟨kind,num,foot,req,path,mode,n,time⟩).1.S num foot) req));rw[hla'.out,hte'.out]
    exact Zj8 (c:=⟨kind,num,foot,req,path,mode,n,time⟩) hr2'.out hkn2.out (fun s=>rfl) hq'.out,(ZcR (ss:=ss2) hA sZ sZ sZ).pick pZ⟩
theorem Zlb {w:World} {t p m:Nat} {ss:List Ses} {b:Lock.Bk} (h:Sep [TabP t p m ss b] w) (kind num:Int) (foot:ByteArray) (req:Int) (path:ByteArray) (mode n time:Int) {T:TS} (hR:TRel ss b T) {k:Nat} (hI:TInv T k) (hk:k≤100000) (hc:CmOk ⟨kind,num,foot,req,path,mode,n,time⟩) (hq0:0≤req) (hq1:req < Lease.big64) (hn0:0≤n):
 Calls Tryz.prog 22 #[.pointer (some ⟨t,0,none⟩),.agg #[.int .i64 kind,.int .u64 num,.string foot,.int .u64 req,.string path,.int .i64 mode,.int .u64 n,.int .i64 time]] w (TPost t p m ss b w (Zav T ⟨kind,num,foot,req,path,mode,n,time⟩).1 (Zav T ⟨kind,num,foot,req,path,mode,n,time⟩).2):=
 ZmV h kind num foot req path mode n time hR hI.s (by omega) (LkOk.of (k:=k) (by rw[hR.L];exact hI.lock) (by omega)) hc hq0 hq1 hn0
end Tab
end
section
namespace Cmd
open Go.RowKit
open Path (bl Zaf overB)
attribute [-go_sem] run_eql_struct run_neq_struct run_eqGuard_agg
theorem Zby (w:World):Calls Tryz.prog 61 #[] w fun e w'=>e=.returned (.agg #[.bool false,.bool false,.bool false,.bool false,.bool false,.bool false,.bool true,.bool true,.bool false,.bool false,.bool true,.bool true,.bool true,.bool true,.bool false,.bool false,.bool false,.bool false,.bool true,.bool true,.bool false,.bool false,.bool false,.bool true,.bool true,.bool true,.bool true,.bool true,.bool false,.bool false,.bool true,.bool true,.bool true,.bool true,.bool false,.bool false,.bool true,.bool true,.bool true,.bool false,.bool false,.bool false,.bool true,.bool true,.bool true,.bool false,.bool true,.bool false,.bool true,.bool false,.bool false,.bool false,.bool false,.bool true])∧Ext w w':=by
 have hA:At [] w [] w:=At.start (L0:=[]) trivial;obtain⟨hA,hF⟩:=fY hA;go_enter Tryz.func61,Tryz.ntmps61
 go_wp2_with (first|((with_reducible refine gal ?_);refine g14 hA ?_;clear hF hA;intro bH w1 hA hbH hF)|((with_reducible refine gst ?_);refine wTy hA ?_;clear hF hA;intro w1 hA hF))
 have hg:Zaa w1 bH _ 122:=hA.get (A:=Part.cells bH _ 122) sR;unfold Zaa at hg;clear hF;exact bodyPost_ret (Go.results_cell_row (h:=rfl) _ _ bH _ _ _ _ rfl hg Tryz.underlying122 rfl (by kernel_rfl)) rfl ⟨rfl,hA.toExt⟩
theorem ZlH (num:Int) (foot:ByteArray) (req:Int) (path:ByteArray) (mode n time:Int) (w:World) {nr np nm nn rf t0 t1:Bool} (hnr:(req != 0)=nr) (hnp:if np then ¬path.toList=[] else path.toList=[]) (hnm:(mode != 0)=nm) (hnn:(n != 0)=nn) (hf:foot.size≤1000) (hrf0:Zaf (bl foot)=rf) (ht0:decide (0≤time)=t0) (ht1:decide (time≤1099511627776)=t1):
 Calls Tryz.prog 23 #[.agg #[.int .i64 8,.int .u64 num,.string foot,.int .u64 req,.string path,.int .i64 mode,.int .u64 n,.int .i64 time]] w fun e w'=>e=.returned (.bool (!nr&& !np&& !nm&& !nn&&rf&&(t0&&t1)))∧Ext w w':=by
 have hA:At [] w [] w:=At.start (L0:=[]) trivial;have hF:=hA.facts;have hh:=fun w=>Zby w;have hix:∀w,(Instr.index 122 (.agg #[.bool false,.bool false,.bool false,.bool false,.bool false,.bool false,.bool true,.bool true,.bool false,.bool false,.bool true,.bool true,.bool true,.bool true,.bool false,.bool false,.bool false,.bool false,.bool true,.bool true,.bool false,.bool false,.bool false,.bool true,.bool true,.bool true,.bool true,.bool true,.bool false,.bool false,.bool true,.bool true,.bool true,.bool true,.bool false,.bool false,.bool true,.bool true,.bool true,.bool false,.bool false,.bool false,.bool true,.bool true,.bool true,.bool false,.bool true,.bool false,.bool true,.bool false,.bool false,.bool false,.bool false,.bool true]) (.int .i64 8)).run Tryz.prog w=.ok (.agg #[.bool true,.bool false,.bool false,.bool false,.bool false,.bool true]) w:=fun w=>by kernel_rfl
 have hrf:=fun w=>Path.ZaI foot w (by omega);rw[hrf0] at hrf;clear hrf0;obtain⟨hA,hF⟩:=fY hA;go_enter Tryz.func23,Tryz.ntmps23
 go_wp2_with ((with_reducible refine gbx ?_);refine wHy 49 [.int .i64 8,.int .u64 num,.string foot,.int .u64 req,.string path,.int .i64 mode,.int .u64 n,.int .i64 time] hA ?_;clear hF hA;intro bX w1 hA hbX hF)
 (try go_frame);(refine Zaq (a1:= ?a1_q1) (v:= ?v_q1) 4 3 121 _ (.agg #[.bool false,.bool false,.bool false,.bool false,.bool false,.bool false]) [.bool false,.bool false,.bool false,.bool false,.bool false,.bool false] ([.bool true,.bool false,.bool false,.bool false,.bool false,.bool true]) (by kernel_rfl) (by kernel_rfl) rfl rfl ?hyd_q1 (by kernel_rfl) rfl hA ?h1_q1 ?hd_q1 ?hy_q1 ?hu_q1 ?hsz_q1 ?hus_q1 ?hl_q1 ?h2_q1);(case h1_q1=>(intro R wR hR;(try clear hF);(simp only[List.take_succ_cons,List.take_zero,List.drop_succ_cons,List.drop_zero]);(have hn1:=Cl.none hR);(have hn2:=Cl.none2 hR);(repeat(first|go_big_quiet_skip|(go_big_quiet_want;(first|(refine qL ?_;go_frame;go_big_quiet_on)|(go_big_quiet_op;(first|go_big_quiet_on|((apply Exists.intro);(refine⟨fun w1 hw=> ?_,?_⟩);(focus((have hw:=Cl.out hw);(first|exact through0 hw (hh _))));(go_big_quiet_on))))))));(refine wpQuiet_nil ?_);exact rfl));(case hyd_q1=>rfl);(case hd_q1=>(first|decide|simp));(case hy_q1=>((try simp only[Act.eval,Array.getD_eq_getD_getElem?,List.getElem?_toArray,List.getElem?_cons_succ,List.getElem?_cons_zero,Option.getD_some]);exact rfl));(case hu_q1=>exact rfl);(case hsz_q1=>kernel_rfl);(case hus_q1=>rfl);(case hl_q1=>rfl);(intro b1 w1 hB hb1;replace hA:=hB;clear hF hB;(simp only[List.drop_succ_cons,List.drop_zero]);obtain⟨hA,hF⟩:=fY hA;(try go_frame))
 clear hh hix;cases nr
 · cases np
   · simp only[Bool.false_eq_true,if_false] at hnp;cases nm
     · cases nn
       · go_wp2_with fail;refine(hrf _).mono ?_;rintro e w4 ⟨rfl,hx⟩;replace hA:=hA.ext hx;clear hF hx;obtain⟨hA,hF⟩:=fY hA;cases rf
         · go_wp2_with fail;go_ret;exact⟨rfl,hA.toExt⟩
         cases t0
         · go_wp2_with fail;go_ret;exact⟨rfl,hA.toExt⟩
         cases t1
         · go_wp2_with fail;go_ret;exact⟨rfl,hA.toExt⟩
         go_wp2_with fail;go_ret;exact⟨rfl,hA.toExt⟩
       go_wp2_with fail;go_ret;exact⟨rfl,hA.toExt⟩
     go_wp2_with fail;go_ret;exact⟨rfl,hA.toExt⟩
   simp only[if_true] at hnp;go_wp2_with fail;go_ret;exact⟨rfl,hA.toExt⟩
 go_wp2_with fail;go_ret;exact⟨rfl,hA.toExt⟩
end Cmd
end
end Go.Proofs.YtknoefbcmomalaaGreatDoor
