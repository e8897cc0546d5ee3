import Derived.Test.YtknoefbcmomalaaGreatDoorP18
set_option linter.unusedSimpArgs false
set_option linter.unusedVariables false
set_option maxRecDepth 100000
set_option maxHeartbeats 16000000
namespace Go.Proofs.YtknoefbcmomalaaGreatDoor
section
namespace Cmd
open Go.RowKit
open Path (bl Zaf overB)
attribute [-go_sem] run_eql_struct run_neq_struct run_eqGuard_agg
theorem ZlP (num:Int) (foot:ByteArray) (req:Int) (path:ByteArray) (mode n time:Int) (w:World) {ns nf nr np nm nn nt t0 t1:Bool} (hns:(num != 0)=ns) (hnf:if nf then ¬foot.toList=[] else foot.toList=[]) (hnr:(req != 0)=nr) (hnp:if np then ¬path.toList=[] else path.toList=[]) (hnm:(mode != 0)=nm) (hnn:(n != 0)=nn) (hnt:(time != 0)=nt) (ht0:decide (0≤time)=t0) (ht1:decide (time≤1099511627776)=t1):
 Calls Tryz.prog 23 #[.agg #[.int .i64 0,.int .u64 num,.string foot,.int .u64 req,.string path,.int .i64 mode,.int .u64 n,.int .i64 time]] w fun e w'=>e=.returned (.bool (!ns&& !nf&& !nr&& !np&& !nm&& !nn&& !nt&&(t0&&t1)))∧Ext w w':=by
 have hA:At [] w [] w:=At.start (L0:=[]) trivial;have hF:=hA.facts;have hh:=fun w=>Zby w;have hix:∀w,(Instr.index 122 (.agg #[.bool false,.bool false,.bool false,.bool false,.bool false,.bool false,.bool true,.bool true,.bool false,.bool false,.bool true,.bool true,.bool true,.bool true,.bool false,.bool false,.bool false,.bool false,.bool true,.bool true,.bool false,.bool false,.bool false,.bool true,.bool true,.bool true,.bool true,.bool true,.bool false,.bool false,.bool true,.bool true,.bool true,.bool true,.bool false,.bool false,.bool true,.bool true,.bool true,.bool false,.bool false,.bool false,.bool true,.bool true,.bool true,.bool false,.bool true,.bool false,.bool true,.bool false,.bool false,.bool false,.bool false,.bool true]) (.int .i64 0)).run Tryz.prog w=.ok (.agg #[.bool false,.bool false,.bool false,.bool false,.bool false,.bool false]) w:=fun w=>by kernel_rfl
 obtain⟨hA,hF⟩:=fY hA;go_enter Tryz.func23,Tryz.ntmps23
 go_wp2_with ((with_reducible refine gbx ?_);refine wHy 49 [.int .i64 0,.int .u64 num,.string foot,.int .u64 req,.string path,.int .i64 mode,.int .u64 n,.int .i64 time] hA ?_;clear hF hA;intro bX w1 hA hbX hF)
 (try go_frame);(refine Zaq (a1:= ?a1_q1) (v:= ?v_q1) 4 3 121 _ (.agg #[.bool false,.bool false,.bool false,.bool false,.bool false,.bool false]) [.bool false,.bool false,.bool false,.bool false,.bool false,.bool false] ([.bool false,.bool false,.bool false,.bool false,.bool false,.bool false]) (by kernel_rfl) (by kernel_rfl) rfl rfl ?hyd_q1 (by kernel_rfl) rfl hA ?h1_q1 ?hd_q1 ?hy_q1 ?hu_q1 ?hsz_q1 ?hus_q1 ?hl_q1 ?h2_q1);(case h1_q1=>(intro R wR hR;(try clear hF);(simp only[List.take_succ_cons,List.take_zero,List.drop_succ_cons,List.drop_zero]);(have hn1:=Cl.none hR);(have hn2:=Cl.none2 hR);(repeat(first|go_big_quiet_skip|(go_big_quiet_want;(first|(refine qL ?_;go_frame;go_big_quiet_on)|(go_big_quiet_op;(first|go_big_quiet_on|((apply Exists.intro);(refine⟨fun w1 hw=> ?_,?_⟩);(focus((have hw:=Cl.out hw);(first|exact through0 hw (hh _))));(go_big_quiet_on))))))));(refine wpQuiet_nil ?_);exact rfl));(case hyd_q1=>rfl);(case hd_q1=>(first|decide|simp));(case hy_q1=>((try simp only[Act.eval,Array.getD_eq_getD_getElem?,List.getElem?_toArray,List.getElem?_cons_succ,List.getElem?_cons_zero,Option.getD_some]);exact rfl));(case hu_q1=>exact rfl);(case hsz_q1=>kernel_rfl);(case hus_q1=>rfl);(case hl_q1=>rfl);(intro b1 w1 hB hb1;replace hA:=hB;clear hF hB;(simp only[List.drop_succ_cons,List.drop_zero]);obtain⟨hA,hF⟩:=fY hA;(try go_frame))
 clear hh hix;cases ns
 · cases nf
   · simp only[Bool.false_eq_true,if_false] at hnf;cases nr
     · cases np
       · simp only[Bool.false_eq_true,if_false] at hnp;cases nm
         · cases nn
           · cases nt
             · cases t0
               · go_wp2_with fail;go_ret;exact⟨rfl,hA.toExt⟩
               cases t1
               · go_wp2_with fail;go_ret;exact⟨rfl,hA.toExt⟩
               go_wp2_with fail;go_ret;exact⟨rfl,hA.toExt⟩
             go_wp2_with fail;go_ret;exact⟨rfl,hA.toExt⟩
           go_wp2_with fail;go_ret;exact⟨rfl,hA.toExt⟩
         go_wp2_with fail;go_ret;exact⟨rfl,hA.toExt⟩
       simp only[if_true] at hnp;go_wp2_with fail;go_ret;exact⟨rfl,hA.toExt⟩
     go_wp2_with fail;go_ret;exact⟨rfl,hA.toExt⟩
   simp only[if_true] at hnf;go_wp2_with fail;go_ret;exact⟨rfl,hA.toExt⟩
 go_wp2_with fail;go_ret;exact⟨rfl,hA.toExt⟩
theorem ZlO (num:Int) (foot:ByteArray) (req:Int) (path:ByteArray) (mode n time:Int) (w:World) {np nm rf rq nz ng nh t0 t1:Bool} (hnp:if np then ¬path.toList=[] else path.toList=[]) (hnm:(mode != 0)=nm) (hf:foot.size≤1000) (hrf0:Zaf (bl foot)=rf) (hrq:(req==0)=rq) (hnz:(n==0)=nz) (hng:decide (1048576 < n)=ng) (hnh:decide (9223372036854775807 < n)=nh) (hnhg:nh=true→ng=true) (ht0:decide (0≤time)=t0) (ht1:decide (time≤1099511627776)=t1):
 Calls Tryz.prog 23 #[.agg #[.int .i64 1,.int .u64 num,.string foot,.int .u64 req,.string path,.int .i64 mode,.int .u64 n,.int .i64 time]] w fun e w'=>e=.returned (.bool (!np&& !nm&&rf&& !rq&& !nz&& !ng&&(t0&&t1)))∧Ext w w':=by
 have hA:At [] w [] w:=At.start (L0:=[]) trivial;have hF:=hA.facts;have hh:=fun w=>Zby w;have hix:∀w,(Instr.index 122 (.agg #[.bool false,.bool false,.bool false,.bool false,.bool false,.bool false,.bool true,.bool true,.bool false,.bool false,.bool true,.bool true,.bool true,.bool true,.bool false,.bool false,.bool false,.bool false,.bool true,.bool true,.bool false,.bool false,.bool false,.bool true,.bool true,.bool true,.bool true,.bool true,.bool false,.bool false,.bool true,.bool true,.bool true,.bool true,.bool false,.bool false,.bool true,.bool true,.bool true,.bool false,.bool false,.bool false,.bool true,.bool true,.bool true,.bool false,.bool true,.bool false,.bool true,.bool false,.bool false,.bool false,.bool false,.bool true]) (.int .i64 1)).run Tryz.prog w=.ok (.agg #[.bool true,.bool true,.bool false,.bool false,.bool true,.bool true]) w:=fun w=>by kernel_rfl
 have hrf:=fun w=>Path.ZaI foot w (by omega);rw[hrf0] at hrf;clear hrf0;obtain⟨hA,hF⟩:=fY hA;go_enter Tryz.func23,Tryz.ntmps23
 go_wp2_with ((with_reducible refine gbx ?_);refine wHy 49 [.int .i64 1,.int .u64 num,.string foot,.int .u64 req,.string path,.int .i64 mode,.int .u64 n,.int .i64 time] hA ?_;clear hF hA;intro bX w1 hA hbX hF)
 (try go_frame);(refine Zaq (a1:= ?a1_q2) (v:= ?v_q2) 4 3 121 _ (.agg #[.bool false,.bool false,.bool false,.bool false,.bool false,.bool false]) [.bool false,.bool false,.bool false,.bool false,.bool false,.bool false] ([.bool true,.bool true,.bool false,.bool false,.bool true,.bool true]) (by kernel_rfl) (by kernel_rfl) rfl rfl ?hyd_q2 (by kernel_rfl) rfl hA ?h1_q2 ?hd_q2 ?hy_q2 ?hu_q2 ?hsz_q2 ?hus_q2 ?hl_q2 ?h2_q2);(case h1_q2=>(intro R wR hR;(try clear hF);(simp only[List.take_succ_cons,List.take_zero,List.drop_succ_cons,List.drop_zero]);(have hn1:=Cl.none hR);(have hn2:=Cl.none2 hR);(repeat(first|go_big_quiet_skip|(go_big_quiet_want;(first|(refine qL ?_;go_frame;go_big_quiet_on)|(go_big_quiet_op;(first|go_big_quiet_on|((apply Exists.intro);(refine⟨fun w1 hw=> ?_,?_⟩);(focus((have hw:=Cl.out hw);(first|exact through0 hw (hh _))));(go_big_quiet_on))))))));(refine wpQuiet_nil ?_);exact rfl));(case hyd_q2=>rfl);(case hd_q2=>(first|decide|simp));(case hy_q2=>((try simp only[Act.eval,Array.getD_eq_getD_getElem?,List.getElem?_toArray,List.getElem?_cons_succ,List.getElem?_cons_zero,Option.getD_some]);exact rfl));(case hu_q2=>exact rfl);(case hsz_q2=>kernel_rfl);(case hus_q2=>rfl);(case hl_q2=>rfl);(intro b1 w1 hB hb1;replace hA:=hB;clear hF hB;(simp only[List.drop_succ_cons,List.drop_zero]);obtain⟨hA,hF⟩:=fY hA;(try go_frame))
 clear hh hix;cases np
 · simp only[Bool.false_eq_true,if_false] at hnp;cases nm
   · go_wp2_with fail;refine(hrf _).mono ?_;rintro e w4 ⟨rfl,hx⟩;replace hA:=hA.ext hx;clear hF hx;obtain⟨hA,hF⟩:=fY hA;cases rf
     · go_wp2_with fail;go_ret;exact⟨rfl,hA.toExt⟩
     cases rq
     · cases nz
       · cases ng
         · have hnh0:nh=false:=by cases nh;rfl;exact absurd (hnhg rfl) nofun
           subst hnh0;cases t0
           · go_wp2_with fail;go_ret;exact⟨rfl,hA.toExt⟩
           cases t1
           · go_wp2_with fail;go_ret;exact⟨rfl,hA.toExt⟩
           go_wp2_with fail;go_ret;exact⟨rfl,hA.toExt⟩
         go_wp2_with fail;go_ret;exact⟨rfl,hA.toExt⟩
       go_wp2_with fail;go_ret;exact⟨rfl,hA.toExt⟩
     go_wp2_with fail;go_ret;exact⟨rfl,hA.toExt⟩
   go_wp2_with fail;go_ret;exact⟨rfl,hA.toExt⟩
 simp only[if_true] at hnp;go_wp2_with fail;go_ret;exact⟨rfl,hA.toExt⟩
theorem ZlN (num:Int) (foot:ByteArray) (req:Int) (path:ByteArray) (mode n time:Int) (w:World) {np nm nn nt rf rq t0 t1:Bool} (hnp:if np then ¬path.toList=[] else path.toList=[]) (hnm:(mode != 0)=nm) (hnn:(n != 0)=nn) (hnt:(time != 0)=nt) (hf:foot.size≤1000) (hrf0:Zaf (bl foot)=rf) (hrq:(req==0)=rq) (ht0:decide (0≤time)=t0) (ht1:decide (time≤1099511627776)=t1):
 Calls Tryz.prog 23 #[.agg #[.int .i64 2,.int .u64 num,.string foot,.int .u64 req,.string path,.int .i64 mode,.int .u64 n,.int .i64 time]] w fun e w'=>e=.returned (.bool (!np&& !nm&& !nn&& !nt&&rf&& !rq&&(t0&&t1)))∧Ext w w':=by
 have hA:At [] w [] w:=At.start (L0:=[]) trivial;have hF:=hA.facts;have hh:=fun w=>Zby w;have hix:∀w,(Instr.index 122 (.agg #[.bool false,.bool false,.bool false,.bool false,.bool false,.bool false,.bool true,.bool true,.bool false,.bool false,.bool true,.bool true,.bool true,.bool true,.bool false,.bool false,.bool false,.bool false,.bool true,.bool true,.bool false,.bool false,.bool false,.bool true,.bool true,.bool true,.bool true,.bool true,.bool false,.bool false,.bool true,.bool true,.bool true,.bool true,.bool false,.bool false,.bool true,.bool true,.bool true,.bool false,.bool false,.bool false,.bool true,.bool true,.bool true,.bool false,.bool true,.bool false,.bool true,.bool false,.bool false,.bool false,.bool false,.bool true]) (.int .i64 2)).run Tryz.prog w=.ok (.agg #[.bool true,.bool true,.bool false,.bool false,.bool false,.bool false]) w:=fun w=>by kernel_rfl
 have hrf:=fun w=>Path.ZaI foot w (by omega);rw[hrf0] at hrf;clear hrf0;obtain⟨hA,hF⟩:=fY hA;go_enter Tryz.func23,Tryz.ntmps23
 go_wp2_with ((with_reducible refine gbx ?_);refine wHy 49 [.int .i64 2,.int .u64 num,.string foot,.int .u64 req,.string path,.int .i64 mode,.int .u64 n,.int .i64 time] hA ?_;clear hF hA;intro bX w1 hA hbX hF)
 (try go_frame);(refine Zaq (a1:= ?a1_q3) (v:= ?v_q3) 4 3 121 _ (.agg #[.bool false,.bool false,.bool false,.bool false,.bool false,.bool false]) [.bool false,.bool false,.bool false,.bool false,.bool false,.bool false] ([.bool true,.bool true,.bool false,.bool false,.bool false,.bool false]) (by kernel_rfl) (by kernel_rfl) rfl rfl ?hyd_q3 (by kernel_rfl) rfl hA ?h1_q3 ?hd_q3 ?hy_q3 ?hu_q3 ?hsz_q3 ?hus_q3 ?hl_q3 ?h2_q3);(case h1_q3=>(intro R wR hR;(try clear hF);(simp only[List.take_succ_cons,List.take_zero,List.drop_succ_cons,List.drop_zero]);(have hn1:=Cl.none hR);(have hn2:=Cl.none2 hR);(repeat(first|go_big_quiet_skip|(go_big_quiet_want;(first|(refine qL ?_;go_frame;go_big_quiet_on)|(go_big_quiet_op;(first|go_big_quiet_on|((apply Exists.intro);(refine⟨fun w1 hw=> ?_,?_⟩);(focus((have hw:=Cl.out hw);(first|exact through0 hw (hh _))));(go_big_quiet_on))))))));(refine wpQuiet_nil ?_);exact rfl));(case hyd_q3=>rfl);(case hd_q3=>(first|decide|simp));(case hy_q3=>((try simp only[Act.eval,Array.getD_eq_getD_getElem?,List.getElem?_toArray,List.getElem?_cons_succ,List.getElem?_cons_zero,Option.getD_some]);exact rfl));(case hu_q3=>exact rfl);(case hsz_q3=>kernel_rfl);(case hus_q3=>rfl);(case hl_q3=>rfl);(intro b1 w1 hB hb1;replace hA:=hB;clear hF hB;(simp only[List.drop_succ_cons,List.drop_zero]);obtain⟨hA,hF⟩:=fY hA;(try go_frame))
 clear hh hix;cases np
 · simp only[Bool.false_eq_true,if_false] at hnp;cases nm
   · cases nn
     · cases nt
       · go_wp2_with fail;refine(hrf _).mono ?_;rintro e w4 ⟨rfl,hx⟩;replace hA:=hA.ext hx;clear hF hx;obtain⟨hA,hF⟩:=fY hA;cases rf
         · go_wp2_with fail;go_ret;exact⟨rfl,hA.toExt⟩
         cases rq
         · cases t0
           · go_wp2_with fail;go_ret;exact⟨rfl,hA.toExt⟩
           cases t1
           · go_wp2_with fail;go_ret;exact⟨rfl,hA.toExt⟩
           go_wp2_with fail;go_ret;exact⟨rfl,hA.toExt⟩
         go_wp2_with fail;go_ret;exact⟨rfl,hA.toExt⟩
       go_wp2_with fail;go_ret;exact⟨rfl,hA.toExt⟩
     go_wp2_with fail;go_ret;exact⟨rfl,hA.toExt⟩
   go_wp2_with fail;go_ret;exact⟨rfl,hA.toExt⟩
 simp only[if_true] at hnp;go_wp2_with fail;go_ret;exact⟨rfl,hA.toExt⟩
theorem ZlM (num:Int) (foot:ByteArray) (req:Int) (path:ByteArray) (mode n time:Int) (w:World) {np nm nn rf rq t0 t1:Bool} (hnp:if np then ¬path.toList=[] else path.toList=[]) (hnm:(mode != 0)=nm) (hnn:(n != 0)=nn) (hf:foot.size≤1000) (hrf0:Zaf (bl foot)=rf) (hrq:(req==0)=rq) (ht0:decide (0≤time)=t0) (ht1:decide (time≤1099511627776)=t1):
 Calls Tryz.prog 23 #[.agg #[.int .i64 3,.int .u64 num,.string foot,.int .u64 req,.string path,.int .i64 mode,.int .u64 n,.int .i64 time]] w fun e w'=>e=.returned (.bool (!np&& !nm&& !nn&&rf&& !rq&&(t0&&t1)))∧Ext w w':=by
 have hA:At [] w [] w:=At.start (L0:=[]) trivial;have hF:=hA.facts;have hh:=fun w=>Zby w;have hix:∀w,(Instr.index 122 (.agg #[.bool false,.bool false,.bool false,.bool false,.bool false,.bool false,.bool true,.bool true,.bool false,.bool false,.bool true,.bool true,.bool true,.bool true,.bool false,.bool false,.bool false,.bool false,.bool true,.bool true,.bool false,.bool false,.bool false,.bool true,.bool true,.bool true,.bool true,.bool true,.bool false,.bool false,.bool true,.bool true,.bool true,.bool true,.bool false,.bool false,.bool true,.bool true,.bool true,.bool false,.bool false,.bool false,.bool true,.bool true,.bool true,.bool false,.bool true,.bool false,.bool true,.bool false,.bool false,.bool false,.bool false,.bool true]) (.int .i64 3)).run Tryz.prog w=.ok (.agg #[.bool true,.bool true,.bool false,.bool false,.bool false,.bool true]) w:=fun w=>by kernel_rfl
 have hrf:=fun w=>Path.ZaI foot w (by omega);rw[hrf0] at hrf;clear hrf0;obtain⟨hA,hF⟩:=fY hA;go_enter Tryz.func23,Tryz.ntmps23
 go_wp2_with ((with_reducible refine gbx ?_);refine wHy 49 [.int .i64 3,.int .u64 num,.string foot,.int .u64 req,.string path,.int .i64 mode,.int .u64 n,.int .i64 time] hA ?_;clear hF hA;intro bX w1 hA hbX hF)
 (try go_frame);(refine Zaq (a1:= ?a1_q4) (v:= ?v_q4) 4 3 121 _ (.agg #[.bool false,.bool false,.bool false,.bool false,.bool false,.bool false]) [.bool false,.bool false,.bool false,.bool false,.bool false,.bool false] ([.bool true,.bool true,.bool false,.bool false,.bool false,.bool true]) (by kernel_rfl) (by kernel_rfl) rfl rfl ?hyd_q4 (by kernel_rfl) rfl hA ?h1_q4 ?hd_q4 ?hy_q4 ?hu_q4 ?hsz_q4 ?hus_q4 ?hl_q4 ?h2_q4);(case h1_q4=>(intro R wR hR;(try clear hF);(simp only[List.take_succ_cons,List.take_zero,List.drop_succ_cons,List.drop_zero]);(have hn1:=Cl.none hR);(have hn2:=Cl.none2 hR);(repeat(first|go_big_quiet_skip|(go_big_quiet_want;(first|(refine qL ?_;go_frame;go_big_quiet_on)|(go_big_quiet_op;(first|go_big_quiet_on|((apply Exists.intro);(refine⟨fun w1 hw=> ?_,?_⟩);(focus((have hw:=Cl.out hw);(first|exact through0 hw (hh _))));(go_big_quiet_on))))))));(refine wpQuiet_nil ?_);exact rfl));(case hyd_q4=>rfl);(case hd_q4=>(first|decide|simp));(case hy_q4=>((try simp only[Act.eval,Array.getD_eq_getD_getElem?,List.getElem?_toArray,List.getElem?_cons_succ,List.getElem?_cons_zero,Option.getD_some]);exact rfl));(case hu_q4=>exact rfl);(case hsz_q4=>kernel_rfl);(case hus_q4=>rfl);(case hl_q4=>rfl);(intro b1 w1 hB hb1;replace hA:=hB;clear hF hB;(simp only[List.drop_succ_cons,List.drop_zero]);obtain⟨hA,hF⟩:=fY hA;(try go_frame))
 clear hh hix;cases np
 · simp only[Bool.false_eq_true,if_false] at hnp;cases nm
   · cases nn
     · go_wp2_with fail;refine(hrf _).mono ?_;rintro e w4 ⟨rfl,hx⟩;replace hA:=hA.ext hx;clear hF hx;obtain⟨hA,hF⟩:=fY hA;cases rf
       · go_wp2_with fail;go_ret;exact⟨rfl,hA.toExt⟩
       cases rq
       · cases t0
         · go_wp2_with fail;go_ret;exact⟨rfl,hA.toExt⟩
         cases t1
         · go_wp2_with fail;go_ret;exact⟨rfl,hA.toExt⟩
         go_wp2_with fail;go_ret;exact⟨rfl,hA.toExt⟩
       go_wp2_with fail;go_ret;exact⟨rfl,hA.toExt⟩
     go_wp2_with fail;go_ret;exact⟨rfl,hA.toExt⟩
   go_wp2_with fail;go_ret;exact⟨rfl,hA.toExt⟩
 simp only[if_true] at hnp;go_wp2_with fail;go_ret;exact⟨rfl,hA.toExt⟩
theorem ZlL (num:Int) (foot:ByteArray) (req:Int) (path:ByteArray) (mode n time:Int) (w:World) {nn nt rf rq rp m1 m2 t0 t1:Bool} (hnn:(n != 0)=nn) (hnt:(time != 0)=nt) (hf:foot.size≤1000) (hrf0:Zaf (bl foot)=rf) (hrq:(req==0)=rq) (hp:path.size≤1000) (hrp0:Zaf (bl path)=rp) (hm1:decide (mode < 1)=m1) (hm2:decide (2 < mode)=m2) (ht0:decide (0≤time)=t0) (ht1:decide (time≤1099511627776)=t1):
 Calls Tryz.prog 23 #[.agg #[.int .i64 4,.int .u64 num,.string foot,.int .u64 req,.string path,.int .i64 mode,.int .u64 n,.int .i64 time]] w fun e w'=>e=.returned (.bool (!nn&& !nt&&rf&& !rq&&rp&& !m1&& !m2&&(t0&&t1)))∧Ext w w':=by
 have hA:At [] w [] w:=At.start (L0:=[]) trivial;have hF:=hA.facts;have hh:=fun w=>Zby w;have hix:∀w,(Instr.index 122 (.agg #[.bool false,.bool false,.bool false,.bool false,.bool false,.bool false,.bool true,.bool true,.bool false,.bool false,.bool true,.bool true,.bool true,.bool true,.bool false,.bool false,.bool false,.bool false,.bool true,.bool true,.bool false,.bool false,.bool false,.bool true,.bool true,.bool true,.bool true,.bool true,.bool false,.bool false,.bool true,.bool true,.bool true,.bool true,.bool false,.bool false,.bool true,.bool true,.bool true,.bool false,.bool false,.bool false,.bool true,.bool true,.bool true,.bool false,.bool true,.bool false,.bool true,.bool false,.bool false,.bool false,.bool false,.bool true]) (.int .i64 4)).run Tryz.prog w=.ok (.agg #[.bool true,.bool true,.bool true,.bool true,.bool false,.bool false]) w:=fun w=>by kernel_rfl
 have hrf:=fun w=>Path.ZaI foot w (by omega);rw[hrf0] at hrf;have hrp:=fun w=>Path.ZaI path w (by omega);rw[hrp0] at hrp;clear hrf0 hrp0;obtain⟨hA,hF⟩:=fY hA;go_enter Tryz.func23,Tryz.ntmps23
 go_wp2_with ((with_reducible refine gbx ?_);refine wHy 49 [.int .i64 4,.int .u64 num,.string foot,.int .u64 req,.string path,.int .i64 mode,.int .u64 n,.int .i64 time] hA ?_;clear hF hA;intro bX w1 hA hbX hF)
 (try go_frame);(refine Zaq (a1:= ?a1_q5) (v:= ?v_q5) 4 3 121 _ (.agg #[.bool false,.bool false,.bool false,.bool false,.bool false,.bool false]) [.bool false,.bool false,.bool false,.bool false,.bool false,.bool false] ([.bool true,.bool true,.bool true,.bool true,.bool false,.bool false]) (by kernel_rfl) (by kernel_rfl) rfl rfl ?hyd_q5 (by kernel_rfl) rfl hA ?h1_q5 ?hd_q5 ?hy_q5 ?hu_q5 ?hsz_q5 ?hus_q5 ?hl_q5 ?h2_q5);(case h1_q5=>(intro R wR hR;(try clear hF);(simp only[List.take_succ_cons,List.take_zero,List.drop_succ_cons,List.drop_zero]);(have hn1:=Cl.none hR);(have hn2:=Cl.none2 hR);(repeat(first|go_big_quiet_skip|(go_big_quiet_want;(first|(refine qL ?_;go_frame;go_big_quiet_on)|(go_big_quiet_op;(first|go_big_quiet_on|((apply Exists.intro);(refine⟨fun w1 hw=> ?_,?_⟩);(focus((have hw:=Cl.out hw);(first|exact through0 hw (hh _))));(go_big_quiet_on))))))));(refine wpQuiet_nil ?_);exact rfl));(case hyd_q5=>rfl);(case hd_q5=>(first|decide|simp));(case hy_q5=>((try simp only[Act.eval,Array.getD_eq_getD_getElem?,List.getElem?_toArray,List.getElem?_cons_succ,List.getElem?_cons_zero,Option.getD_some]);exact rfl));(case hu_q5=>exact rfl);(case hsz_q5=>kernel_rfl);(case hus_q5=>rfl);(case hl_q5=>rfl);(intro b1 w1 hB hb1;replace hA:=hB;clear hF hB;(simp only[List.drop_succ_cons,List.drop_zero]);obtain⟨hA,hF⟩:=fY hA;(try go_frame))
 clear hh hix;cases nn
 · cases nt
   · go_wp2_with fail;refine(hrf _).mono ?_;rintro e w4 ⟨rfl,hx⟩;replace hA:=hA.ext hx;clear hF hx;obtain⟨hA,hF⟩:=fY hA;cases rf
     · go_wp2_with fail;go_ret;exact⟨rfl,hA.toExt⟩
     cases rq
     · go_wp2_with fail;refine(hrp _).mono ?_;rintro e w4 ⟨rfl,hx⟩;replace hA:=hA.ext hx;clear hF hx;obtain⟨hA,hF⟩:=fY hA;cases rp
       · go_wp2_with fail;go_ret;exact⟨rfl,hA.toExt⟩
       cases m1
       · cases m2
         · cases t0
           · go_wp2_with fail;go_ret;exact⟨rfl,hA.toExt⟩
           cases t1
           · go_wp2_with fail;go_ret;exact⟨rfl,hA.toExt⟩
           go_wp2_with fail;go_ret;exact⟨rfl,hA.toExt⟩
         go_wp2_with fail;go_ret;exact⟨rfl,hA.toExt⟩
       go_wp2_with fail;go_ret;exact⟨rfl,hA.toExt⟩
     go_wp2_with fail;go_ret;exact⟨rfl,hA.toExt⟩
   go_wp2_with fail;go_ret;exact⟨rfl,hA.toExt⟩
 go_wp2_with fail;go_ret;exact⟨rfl,hA.toExt⟩
theorem ZlK (num:Int) (foot:ByteArray) (req:Int) (path:ByteArray) (mode n time:Int) (w:World) {nn nt rf rq rp m1 m2 t0 t1:Bool} (hnn:(n != 0)=nn) (hnt:(time != 0)=nt) (hf:foot.size≤1000) (hrf0:Zaf (bl foot)=rf) (hrq:(req==0)=rq) (hp:path.size≤1000) (hrp0:Zaf (bl path)=rp) (hm1:decide (mode < 1)=m1) (hm2:decide (2 < mode)=m2) (ht0:decide (0≤time)=t0) (ht1:decide (time≤1099511627776)=t1):
 Calls Tryz.prog 23 #[.agg #[.int .i64 5,.int .u64 num,.string foot,.int .u64 req,.string path,.int .i64 mode,.int .u64 n,.int .i64 time]] w fun e w'=>e=.returned (.bool (!nn&& !nt&&rf&& !rq&&rp&& !m1&& !m2&&(t0&&t1)))∧Ext w w':=by
 have hA:At [] w [] w:=At.start (L0:=[]) trivial;have hF:=hA.facts;have hh:=fun w=>Zby w;have hix:∀w,(Instr.index 122 (.agg #[.bool false,.bool false,.bool false,.bool false,.bool false,.bool false,.bool true,.bool true,.bool false,.bool false,.bool true,.bool true,.bool true,.bool true,.bool false,.bool false,.bool false,.bool false,.bool true,.bool true,.bool false,.bool false,.bool false,.bool true,.bool true,.bool true,.bool true,.bool true,.bool false,.bool false,.bool true,.bool true,.bool true,.bool true,.bool false,.bool false,.bool true,.bool true,.bool true,.bool false,.bool false,.bool false,.bool true,.bool true,.bool true,.bool false,.bool true,.bool false,.bool true,.bool false,.bool false,.bool false,.bool false,.bool true]) (.int .i64 5)).run Tryz.prog w=.ok (.agg #[.bool true,.bool true,.bool true,.bool true,.bool false,.bool false]) w:=fun w=>by kernel_rfl
 have hrf:=fun w=>Path.ZaI foot w (by omega);rw[hrf0] at hrf;have hrp:=fun w=>Path.ZaI path w (by omega);rw[hrp0] at hrp;clear hrf0 hrp0;obtain⟨hA,hF⟩:=fY hA;go_enter Tryz.func23,Tryz.ntmps23
 go_wp2_with ((with_reducible refine gbx ?_);refine wHy 49 [.int .i64 5,.int .u64 num,.string foot,.int .u64 req,.string path,.int .i64 mode,.int .u64 n,.int .i64 time] hA ?_;clear hF hA;intro bX w1 hA hbX hF)
 (try go_frame);(refine Zaq (a1:= ?a1_q6) (v:= ?v_q6) 4 3 121 _ (.agg #[.bool false,.bool false,.bool false,.bool false,.bool false,.bool false]) [.bool false,.bool false,.bool false,.bool false,.bool false,.bool false] ([.bool true,.bool true,.bool true,.bool true,.bool false,.bool false]) (by kernel_rfl) (by kernel_rfl) rfl rfl ?hyd_q6 (by kernel_rfl) rfl hA ?h1_q6 ?hd_q6 ?hy_q6 ?hu_q6 ?hsz_q6 ?hus_q6 ?hl_q6 ?h2_q6);(case h1_q6=>(intro R wR hR;(try clear hF);(simp only[List.take_succ_cons,List.take_zero,List.drop_succ_cons,List.drop_zero]);(have hn1:=Cl.none hR);(have hn2:=Cl.none2 hR);(repeat(first|go_big_quiet_skip|(go_big_quiet_want;(first|(refine qL ?_;go_frame;go_big_quiet_on)|(go_big_quiet_op;(first|go_big_quiet_on|((apply Exists.intro);(refine⟨fun w1 hw=> ?_,?_⟩);(focus((have hw:=Cl.out hw);(first|exact through0 hw (hh _))));(go_big_quiet_on))))))));(refine wpQuiet_nil ?_);exact rfl));(case hyd_q6=>rfl);(case hd_q6=>(first|decide|simp));(case hy_q6=>((try simp only[Act.eval,Array.getD_eq_getD_getElem?,List.getElem?_toArray,List.getElem?_cons_succ,List.getElem?_cons_zero,Option.getD_some]);exact rfl));(case hu_q6=>exact rfl);(case hsz_q6=>kernel_rfl);(case hus_q6=>rfl);(case hl_q6=>rfl);(intro b1 w1 hB hb1;replace hA:=hB;clear hF hB;(simp only[List.drop_succ_cons,List.drop_zero]);obtain⟨hA,hF⟩:=fY hA;(try go_frame))
 clear hh hix;cases nn
 · cases nt
   · go_wp2_with fail;refine(hrf _).mono ?_;rintro e w4 ⟨rfl,hx⟩;replace hA:=hA.ext hx;clear hF hx;obtain⟨hA,hF⟩:=fY hA;cases rf
     · go_wp2_with fail;go_ret;exact⟨rfl,hA.toExt⟩
     cases rq
     · go_wp2_with fail;refine(hrp _).mono ?_;rintro e w4 ⟨rfl,hx⟩;replace hA:=hA.ext hx;clear hF hx;obtain⟨hA,hF⟩:=fY hA;cases rp
       · go_wp2_with fail;go_ret;exact⟨rfl,hA.toExt⟩
       cases m1
       · cases m2
         · cases t0
           · go_wp2_with fail;go_ret;exact⟨rfl,hA.toExt⟩
           cases t1
           · go_wp2_with fail;go_ret;exact⟨rfl,hA.toExt⟩
           go_wp2_with fail;go_ret;exact⟨rfl,hA.toExt⟩
         go_wp2_with fail;go_ret;exact⟨rfl,hA.toExt⟩
       go_wp2_with fail;go_ret;exact⟨rfl,hA.toExt⟩
     go_wp2_with fail;go_ret;exact⟨rfl,hA.toExt⟩
   go_wp2_with fail;go_ret;exact⟨rfl,hA.toExt⟩
 go_wp2_with fail;go_ret;exact⟨rfl,hA.toExt⟩
theorem ZlJ (num:Int) (foot:ByteArray) (req:Int) (path:ByteArray) (mode n time:Int) (w:World) {nm nn nt rf rq rp t0 t1:Bool} (hnm:(mode != 0)=nm) (hnn:(n != 0)=nn) (hnt:(time != 0)=nt) (hf:foot.size≤1000) (hrf0:Zaf (bl foot)=rf) (hrq:(req==0)=rq) (hp:path.size≤1000) (hrp0:Zaf (bl path)=rp) (ht0:decide (0≤time)=t0) (ht1:decide (time≤1099511627776)=t1):
 Calls Tryz.prog 23 #[.agg #[.int .i64 6,.int .u64 num,.string foot,.int .u64 req,.string path,.int .i64 mode,.int .u64 n,.int .i64 time]] w fun e w'=>e=.returned (.bool (!nm&& !nn&& !nt&&rf&& !rq&&rp&&(t0&&t1)))∧Ext w w':=by
 have hA:At [] w [] w:=At.start (L0:=[]) trivial;have hF:=hA.facts;have hh:=fun w=>Zby w;have hix:∀w,(Instr.index 122 (.agg #[.bool false,.bool false,.bool false,.bool false,.bool false,.bool false,.bool true,.bool true,.bool false,.bool false,.bool true,.bool true,.bool true,.bool true,.bool false,.bool false,.bool false,.bool false,.bool true,.bool true,.bool false,.bool false,.bool false,.bool true,.bool true,.bool true,.bool true,.bool true,.bool false,.bool false,.bool true,.bool true,.bool true,.bool true,.bool false,.bool false,.bool true,.bool true,.bool true,.bool false,.bool false,.bool false,.bool true,.bool true,.bool true,.bool false,.bool true,.bool false,.bool true,.bool false,.bool false,.bool false,.bool false,.bool true]) (.int .i64 6)).run Tryz.prog w=.ok (.agg #[.bool true,.bool true,.bool true,.bool false,.bool false,.bool false]) w:=fun w=>by kernel_rfl
 have hrf:=fun w=>Path.ZaI foot w (by omega);rw[hrf0] at hrf;have hrp:=fun w=>Path.ZaI path w (by omega);rw[hrp0] at hrp;clear hrf0 hrp0;obtain⟨hA,hF⟩:=fY hA;go_enter Tryz.func23,Tryz.ntmps23
 go_wp2_with ((with_reducible refine gbx ?_);refine wHy 49 [.int .i64 6,.int .u64 num,.string foot,.int .u64 req,.string path,.int .i64 mode,.int .u64 n,.int .i64 time] hA ?_;clear hF hA;intro bX w1 hA hbX hF)
 (try go_frame);(refine Zaq (a1:= ?a1_q7) (v:= ?v_q7) 4 3 121 _ (.agg #[.bool false,.bool false,.bool false,.bool false,.bool false,.bool false]) [.bool false,.bool false,.bool false,.bool false,.bool false,.bool false] ([.bool true,.bool true,.bool true,.bool false,.bool false,.bool false]) (by kernel_rfl) (by kernel_rfl) rfl rfl ?hyd_q7 (by kernel_rfl) rfl hA ?h1_q7 ?hd_q7 ?hy_q7 ?hu_q7 ?hsz_q7 ?hus_q7 ?hl_q7 ?h2_q7);(case h1_q7=>(intro R wR hR;(try clear hF);(simp only[List.take_succ_cons,List.take_zero,List.drop_succ_cons,List.drop_zero]);(have hn1:=Cl.none hR);(have hn2:=Cl.none2 hR);(repeat(first|go_big_quiet_skip|(go_big_quiet_want;(first|(refine qL ?_;go_frame;go_big_quiet_on)|(go_big_quiet_op;(first|go_big_quiet_on|((apply Exists.intro);(refine⟨fun w1 hw=> ?_,?_⟩);(focus((have hw:=Cl.out hw);(first|exact through0 hw (hh _))));(go_big_quiet_on))))))));(refine wpQuiet_nil ?_);exact rfl));(case hyd_q7=>rfl);(case hd_q7=>(first|decide|simp));(case hy_q7=>((try simp only[Act.eval,Array.getD_eq_getD_getElem?,List.getElem?_toArray,List.getElem?_cons_succ,List.getElem?_cons_zero,Option.getD_some]);exact rfl));(case hu_q7=>exact rfl);(case hsz_q7=>kernel_rfl);(case hus_q7=>rfl);(case hl_q7=>rfl);(intro b1 w1 hB hb1;replace hA:=hB;clear hF hB;(simp only[List.drop_succ_cons,List.drop_zero]);obtain⟨hA,hF⟩:=fY hA;(try go_frame))
 clear hh hix;cases nm
 · cases nn
   · cases nt
     · go_wp2_with fail;refine(hrf _).mono ?_;rintro e w4 ⟨rfl,hx⟩;replace hA:=hA.ext hx;clear hF hx;obtain⟨hA,hF⟩:=fY hA;cases rf
       · go_wp2_with fail;go_ret;exact⟨rfl,hA.toExt⟩
       cases rq
       · go_wp2_with fail;refine(hrp _).mono ?_;rintro e w4 ⟨rfl,hx⟩;replace hA:=hA.ext hx;clear hF hx;obtain⟨hA,hF⟩:=fY hA;cases rp
         · go_wp2_with fail;go_ret;exact⟨rfl,hA.toExt⟩
         cases t0
         · go_wp2_with fail;go_ret;exact⟨rfl,hA.toExt⟩
         cases t1
         · go_wp2_with fail;go_ret;exact⟨rfl,hA.toExt⟩
         go_wp2_with fail;go_ret;exact⟨rfl,hA.toExt⟩
       go_wp2_with fail;go_ret;exact⟨rfl,hA.toExt⟩
     go_wp2_with fail;go_ret;exact⟨rfl,hA.toExt⟩
   go_wp2_with fail;go_ret;exact⟨rfl,hA.toExt⟩
 go_wp2_with fail;go_ret;exact⟨rfl,hA.toExt⟩
theorem ZlI (num:Int) (foot:ByteArray) (req:Int) (path:ByteArray) (mode n time:Int) (w:World) {nm nt rf rq rp nz ng t0 t1:Bool} (hnm:(mode != 0)=nm) (hnt:(time != 0)=nt) (hf:foot.size≤1000) (hrf0:Zaf (bl foot)=rf) (hrq:(req==0)=rq) (hp:path.size≤1000) (hrp0:Zaf (bl path)=rp) (hnz:(n==0)=nz) (hng:decide (9223372036854775807 < n)=ng) (ht0:decide (0≤time)=t0) (ht1:decide (time≤1099511627776)=t1):
 Calls Tryz.prog 23 #[.agg #[.int .i64 7,.int .u64 num,.string foot,.int .u64 req,.string path,.int .i64 mode,.int .u64 n,.int .i64 time]] w fun e w'=>e=.returned (.bool (!nm&& !nt&&rf&& !rq&&rp&& !nz&& !ng&&(t0&&t1)))∧Ext w w':=by
 have hA:At [] w [] w:=At.start (L0:=[]) trivial;have hF:=hA.facts;have hh:=fun w=>Zby w;have hix:∀w,(Instr.index 122 (.agg #[.bool false,.bool false,.bool false,.bool false,.bool false,.bool false,.bool true,.bool true,.bool false,.bool false,.bool true,.bool true,.bool true,.bool true,.bool false,.bool false,.bool false,.bool false,.bool true,.bool true,.bool false,.bool false,.bool false,.bool true,.bool true,.bool true,.bool true,.bool true,.bool false,.bool false,.bool true,.bool true,.bool true,.bool true,.bool false,.bool false,.bool true,.bool true,.bool true,.bool false,.bool false,.bool false,.bool true,.bool true,.bool true,.bool false,.bool true,.bool false,.bool true,.bool false,.bool false,.bool false,.bool false,.bool true]) (.int .i64 7)).run Tryz.prog w=.ok (.agg #[.bool true,.bool true,.bool true,.bool false,.bool true,.bool false]) w:=fun w=>by kernel_rfl
 have hrf:=fun w=>Path.ZaI foot w (by omega);rw[hrf0] at hrf;have hrp:=fun w=>Path.ZaI path w (by omega);rw[hrp0] at hrp;clear hrf0 hrp0;obtain⟨hA,hF⟩:=fY hA;go_enter Tryz.func23,Tryz.ntmps23
 go_wp2_with ((with_reducible refine gbx ?_);refine wHy 49 [.int .i64 7,.int .u64 num,.string foot,.int .u64 req,.string path,.int .i64 mode,.int .u64 n,.int .i64 time] hA ?_;clear hF hA;intro bX w1 hA hbX hF)
 (try go_frame);(refine Zaq (a1:= ?a1_q8) (v:= ?v_q8) 4 3 121 _ (.agg #[.bool false,.bool false,.bool false,.bool false,.bool false,.bool false]) [.bool false,.bool false,.bool false,.bool false,.bool false,.bool false] ([.bool true,.bool true,.bool true,.bool false,.bool true,.bool false]) (by kernel_rfl) (by kernel_rfl) rfl rfl ?hyd_q8 (by kernel_rfl) rfl hA ?h1_q8 ?hd_q8 ?hy_q8 ?hu_q8 ?hsz_q8 ?hus_q8 ?hl_q8 ?h2_q8);(case h1_q8=>(intro R wR hR;(try clear hF);(simp only[List.take_succ_cons,List.take_zero,List.drop_succ_cons,List.drop_zero]);(have hn1:=Cl.none hR);(have hn2:=Cl.none2 hR);(repeat(first|go_big_quiet_skip|(go_big_quiet_want;(first|(refine qL ?_;go_frame;go_big_quiet_on)|(go_big_quiet_op;(first|go_big_quiet_on|((apply Exists.intro);(refine⟨fun w1 hw=> ?_,?_⟩);(focus((have hw:=Cl.out hw);(first|exact through0 hw (hh _))));(go_big_quiet_on))))))));(refine wpQuiet_nil ?_);exact rfl));(case hyd_q8=>rfl);(case hd_q8=>(first|decide|simp));(case hy_q8=>((try simp only[Act.eval,Array.getD_eq_getD_getElem?,List.getElem?_toArray,List.getElem?_cons_succ,List.getElem?_cons_zero,Option.getD_some]);exact rfl));(case hu_q8=>exact rfl);(case hsz_q8=>kernel_rfl);(case hus_q8=>rfl);(case hl_q8=>rfl);(intro b1 w1 hB hb1;replace hA:=hB;clear hF hB;(simp only[List.drop_succ_cons,List.drop_zero]);obtain⟨hA,hF⟩:=fY hA;(try go_frame))
 clear hh hix;cases nm
 · cases nt
   · go_wp2_with fail;refine(hrf _).mono ?_;rintro e w4 ⟨rfl,hx⟩;replace hA:=hA.ext hx;clear hF hx;obtain⟨hA,hF⟩:=fY hA;cases rf
     · go_wp2_with fail;go_ret;exact⟨rfl,hA.toExt⟩
     cases rq
     · go_wp2_with fail;refine(hrp _).mono ?_;rintro e w4 ⟨rfl,hx⟩;replace hA:=hA.ext hx;clear hF hx;obtain⟨hA,hF⟩:=fY hA;cases rp
       · go_wp2_with fail;go_ret;exact⟨rfl,hA.toExt⟩
       cases nz
       · cases ng
         · cases t0
           · go_wp2_with fail;go_ret;exact⟨rfl,hA.toExt⟩
           cases t1
           · go_wp2_with fail;go_ret;exact⟨rfl,hA.toExt⟩
           go_wp2_with fail;go_ret;exact⟨rfl,hA.toExt⟩
         go_wp2_with fail;go_ret;exact⟨rfl,hA.toExt⟩
       go_wp2_with fail;go_ret;exact⟨rfl,hA.toExt⟩
     go_wp2_with fail;go_ret;exact⟨rfl,hA.toExt⟩
   go_wp2_with fail;go_ret;exact⟨rfl,hA.toExt⟩
 go_wp2_with fail;go_ret;exact⟨rfl,hA.toExt⟩
end Cmd
end
section
namespace Cmd
open Go.RowKit
open Path (bl Zaf overB)
theorem nilB (f:ByteArray):f.toList=[]↔f=.empty:=by
 have h:=same_ba f .empty;rw[show ByteArray.empty.toList=[] from by kernel_rfl] at h;constructor
 · intro q;rw[q] at h;simpa using h.symm
 intro q;rw[decide_eq_true q] at h;simpa using h
theorem ZeI (f:ByteArray):if decide (f≠.empty) then ¬f.toList=[] else f.toList=[]:=by
 by_cases h:f=.empty
 · rw[decide_eq_false (by simpa using h),if_neg (by decide)];exact(nilB f).2 h
 rw[decide_eq_true h,if_pos rfl];exact fun q=>h ((nilB f).1 q)
theorem ZjR (c:Cm) (hk:c.kind < 0∨8 < c.kind) (w:World):Calls Tryz.prog 23 #[c.val] w fun e w'=>e=.returned (.bool false)∧Ext w w':=by
 have hA:At [] w [] w:=At.start (L0:=[]) trivial;have hF:=hA.facts;obtain⟨kind,num,foot,req,path,mode,n,time⟩:=c;simp only[Cm.val] at *
 obtain⟨hA,hF⟩:=fY hA;rcases Int.lt_or_le kind 0 with h|h
 · clear hk;go_enter Tryz.func23,Tryz.ntmps23
   go_wp2_with ((with_reducible refine gbx ?_);refine wHy 49 [.int .i64 kind,.int .u64 num,.string foot,.int .u64 req,.string path,.int .i64 mode,.int .u64 n,.int .i64 time] hA ?_;clear hF hA;intro bX w1 hA hbX hF)
   go_ret;exact⟨rfl,hA.toExt⟩
 have h8:8 < kind:=by omega
 have e0:decide (kind < 0)=false:=decide_eq_false (by omega);clear hk h;go_enter Tryz.func23,Tryz.ntmps23
 go_wp2_with ((with_reducible refine gbx ?_);refine wHy 49 [.int .i64 kind,.int .u64 num,.string foot,.int .u64 req,.string path,.int .i64 mode,.int .u64 n,.int .i64 time] hA ?_;clear hF hA;intro bX w1 hA hbX hF)
 go_ret;exact⟨rfl,hA.toExt⟩
theorem Zhg (c:Cm) (hf:c.foot.size≤1000) (hp:c.path.size≤1000) (w:World):Calls Tryz.prog 23 #[c.val] w fun e w'=>e=.returned (.bool (Zao c))∧Ext w w':=by
 obtain⟨kind,num,foot,req,path,mode,n,time⟩:=c;simp only at hf hp;by_cases h0:kind=0
 · subst h0;refine(ZlP num foot req path mode n time w rfl (ZeI foot) rfl (ZeI path) rfl rfl rfl rfl rfl).mono ?_;rintro e w1 ⟨rfl,hx⟩;refine⟨congrArg (fun b=>Ending.returned (.bool b)) ?_,hx⟩;rw[Bool.eq_iff_iff];simp[Zao,hasOf,Zbc,bareC,mostN,Cm.mk.injEq];try grind
 by_cases h1:kind=1
 · subst h1;refine(ZlO num foot req path mode n time w (ZeI path) rfl hf rfl rfl rfl rfl rfl (fun h=>decide_eq_true (by have:=of_decide_eq_true h;omega)) rfl rfl).mono ?_;rintro e w1 ⟨rfl,hx⟩;refine⟨congrArg (fun b=>Ending.returned (.bool b)) ?_,hx⟩;rw[Bool.eq_iff_iff];simp[Zao,hasOf,Zbc,bareC,mostN,Cm.mk.injEq];try grind
 by_cases h2:kind=2
 · subst h2;refine(ZlN num foot req path mode n time w (ZeI path) rfl rfl rfl hf rfl rfl rfl rfl).mono ?_;rintro e w1 ⟨rfl,hx⟩;refine⟨congrArg (fun b=>Ending.returned (.bool b)) ?_,hx⟩;rw[Bool.eq_iff_iff];simp[Zao,hasOf,Zbc,bareC,mostN,Cm.mk.injEq];try grind
 by_cases h3:kind=3
 · subst h3;refine(ZlM num foot req path mode n time w (ZeI path) rfl rfl hf rfl rfl rfl rfl).mono ?_;rintro e w1 ⟨rfl,hx⟩;refine⟨congrArg (fun b=>Ending.returned (.bool b)) ?_,hx⟩;rw[Bool.eq_iff_iff];simp[Zao,hasOf,Zbc,bareC,mostN,Cm.mk.injEq];try grind
 by_cases h4:kind=4
 · subst h4;refine(ZlL num foot req path mode n time w rfl rfl hf rfl rfl hp rfl rfl rfl rfl rfl).mono ?_;rintro e w1 ⟨rfl,hx⟩;refine⟨congrArg (fun b=>Ending.returned (.bool b)) ?_,hx⟩;rw[Bool.eq_iff_iff];simp[Zao,hasOf,Zbc,bareC,mostN,Cm.mk.injEq];try grind
 by_cases h5:kind=5
 · subst h5;refine(ZlK num foot req path mode n time w rfl rfl hf rfl rfl hp rfl rfl rfl rfl rfl).mono ?_;rintro e w1 ⟨rfl,hx⟩;refine⟨congrArg (fun b=>Ending.returned (.bool b)) ?_,hx⟩;rw[Bool.eq_iff_iff];simp[Zao,hasOf,Zbc,bareC,mostN,Cm.mk.injEq];try grind
 by_cases h6:kind=6
 · subst h6;refine(ZlJ num foot req path mode n time w rfl rfl rfl hf rfl rfl hp rfl rfl rfl).mono ?_;rintro e w1 ⟨rfl,hx⟩;refine⟨congrArg (fun b=>Ending.returned (.bool b)) ?_,hx⟩;rw[Bool.eq_iff_iff];simp[Zao,hasOf,Zbc,bareC,mostN,Cm.mk.injEq];try grind
 by_cases h7:kind=7
 · subst h7;refine(ZlI num foot req path mode n time w rfl rfl hf rfl rfl hp rfl rfl rfl rfl rfl).mono ?_;rintro e w1 ⟨rfl,hx⟩;refine⟨congrArg (fun b=>Ending.returned (.bool b)) ?_,hx⟩;rw[Bool.eq_iff_iff];simp[Zao,hasOf,Zbc,bareC,mostN,Cm.mk.injEq];try grind
 by_cases h8:kind=8
 · subst h8;refine(ZlH num foot req path mode n time w rfl (ZeI path) rfl rfl hf rfl rfl rfl).mono ?_;rintro e w1 ⟨rfl,hx⟩;refine⟨congrArg (fun b=>Ending.returned (.bool b)) ?_,hx⟩;rw[Bool.eq_iff_iff];simp[Zao,hasOf,Zbc,bareC,mostN,Cm.mk.injEq];try grind
 have e:Zao ⟨kind,num,foot,req,path,mode,n,time⟩=false:=by
  unfold Zao hasOf;simp only[h0,h1,h2,h3,h4,h5,h6,h7,h8,if_false]
 rw[e];exact ZjR ⟨kind,num,foot,req,path,mode,n,time⟩ (by show kind < 0∨8 < kind;omega) w
end Cmd
end
end Go.Proofs.YtknoefbcmomalaaGreatDoor
