import Derived.Test.YtbeckijoabapkaaGreatDoorP7
import Derived.Test.YtbeckijoabapkaaGreatDoorP4
set_option linter.unusedSimpArgs false
set_option linter.unusedVariables false
set_option maxRecDepth 100000
set_option maxHeartbeats 16000000
namespace Go.Proofs.YtbeckijoabapkaaGreatDoor
section
namespace Cmd
open Go.RowKit
open Path (bl Zag overB)
attribute [-go_sem] run_eql_struct run_neq_struct run_eqGuard_agg
theorem through0 {L0 L:List Part} {w0 w:World} {P:Program} {f:FuncId} {args:Array Value} {v:Value} (h:At L0 w0 L w) (hc:Calls P f args w fun e w'=>e=.returned v∧Ext w w'):
 Calls P f args w fun e w'=>e=.returned v∧At L0 w0 L w':=hc.mono fun e w' ⟨he,hx⟩=>⟨he,h.ext hx⟩
theorem same_ba (f g:ByteArray):(f.toList==g.toList)=decide (f=g):=by
 rw[Path.eqB];by_cases h:f=g
 · subst h;simp
 rw[decide_eq_false h,decide_eq_false];intro e;apply h;unfold bl at e;have:f.data=g.data:=by rw[←Array.toList_inj];exact e
 cases f;cases g;simp_all
theorem ZgJ (x y:Cm) (w:World):(Go.Op.equalIn 10000 37 x.val y.val).run Tryz.prog w=.ok (decide (x=y)) w:=by
 unfold Cm.val;rw[run_equalIn_agg _ 9999 _ _ _ (by kernel_rfl) (by kernel_rfl)];obtain⟨a1,a2,a3,a4,a5,a6,a7,a8⟩:=x;obtain⟨b1,b2,b3,b4,b5,b6,b7,b8⟩:=y;simp[go_sem,Go.Op.eqFields,same_ba,Cm.mk.injEq];repeat' split
 all_goals simp_all
theorem ZcX (op:BinOp) (x y:Operand) (c1 c2 c3 c4 c5 c6 c7 c8 d1 d2 d3 d4 d5 d6 d7 d8:Value) (w:World):(eqGuard op 37 x y (.agg #[c1,c2,c3,c4,c5,c6,c7,c8]) (.agg #[d1,d2,d3,d4,d5,d6,d7,d8])).run Tryz.prog w=.ok () w:=run_eqGuard_agg _ _ _ _ _ _ _ (by kernel_rfl)
theorem neqCm (x y:Cm) (w:World):(binOp .neq 37 x.val y.val).run Tryz.prog w=.ok (.bool (!decide (x=y))) w:=by
 have:=ZgJ x y w
 unfold Cm.val at *
 rw[run_neq_struct,this];rfl
theorem had_0 (w:World):Calls Tryz.prog 45 #[.int .i64 0] w fun e w'=>e=.returned (.tuple #[.agg #[.bool false,.bool false,.bool false,.bool false,.bool false,.bool false],.bool true])∧Ext w w':=by
 have hA:At [] w [] w:=At.start (L0:=[]) trivial;obtain⟨hA,hF⟩:=fY hA;go_enter Tryz.func45,Tryz.ntmps45
 go_wp2_with (first|((with_reducible refine gal ?_);refine g0 hA ?_;clear hF hA;intro bH w1 hA hbH hF)|((with_reducible refine gst ?_);refine wTy hA ?_;clear hF hA;intro w1 hA hF))
 refine bodyPost_ret (v:=.tuple #[.agg #[.bool false,.bool false,.bool false,.bool false,.bool false,.bool false],.bool true]) (by simp[results,Tryz.results45,go_sem,hF]) rfl ⟨rfl,hA.toExt⟩
theorem had_1 (w:World):Calls Tryz.prog 45 #[.int .i64 1] w fun e w'=>e=.returned (.tuple #[.agg #[.bool true,.bool true,.bool false,.bool false,.bool true,.bool true],.bool true])∧Ext w w':=by
 have hA:At [] w [] w:=At.start (L0:=[]) trivial;obtain⟨hA,hF⟩:=fY hA;go_enter Tryz.func45,Tryz.ntmps45
 go_wp2_with (first|((with_reducible refine gal ?_);refine g0 hA ?_;clear hF hA;intro bH w1 hA hbH hF)|((with_reducible refine gst ?_);refine wTy hA ?_;clear hF hA;intro w1 hA hF))
 refine bodyPost_ret (v:=.tuple #[.agg #[.bool true,.bool true,.bool false,.bool false,.bool true,.bool true],.bool true]) (by simp[results,Tryz.results45,go_sem,hF]) rfl ⟨rfl,hA.toExt⟩
theorem had_2 (w:World):Calls Tryz.prog 45 #[.int .i64 2] w fun e w'=>e=.returned (.tuple #[.agg #[.bool true,.bool true,.bool false,.bool false,.bool false,.bool false],.bool true])∧Ext w w':=by
 have hA:At [] w [] w:=At.start (L0:=[]) trivial;obtain⟨hA,hF⟩:=fY hA;go_enter Tryz.func45,Tryz.ntmps45
 go_wp2_with (first|((with_reducible refine gal ?_);refine g0 hA ?_;clear hF hA;intro bH w1 hA hbH hF)|((with_reducible refine gst ?_);refine wTy hA ?_;clear hF hA;intro w1 hA hF))
 refine bodyPost_ret (v:=.tuple #[.agg #[.bool true,.bool true,.bool false,.bool false,.bool false,.bool false],.bool true]) (by simp[results,Tryz.results45,go_sem,hF]) rfl ⟨rfl,hA.toExt⟩
theorem had_3 (w:World):Calls Tryz.prog 45 #[.int .i64 3] w fun e w'=>e=.returned (.tuple #[.agg #[.bool true,.bool true,.bool false,.bool false,.bool false,.bool true],.bool true])∧Ext w w':=by
 have hA:At [] w [] w:=At.start (L0:=[]) trivial;obtain⟨hA,hF⟩:=fY hA;go_enter Tryz.func45,Tryz.ntmps45
 go_wp2_with (first|((with_reducible refine gal ?_);refine g0 hA ?_;clear hF hA;intro bH w1 hA hbH hF)|((with_reducible refine gst ?_);refine wTy hA ?_;clear hF hA;intro w1 hA hF))
 refine bodyPost_ret (v:=.tuple #[.agg #[.bool true,.bool true,.bool false,.bool false,.bool false,.bool true],.bool true]) (by simp[results,Tryz.results45,go_sem,hF]) rfl ⟨rfl,hA.toExt⟩
theorem had_4 (w:World):Calls Tryz.prog 45 #[.int .i64 4] w fun e w'=>e=.returned (.tuple #[.agg #[.bool true,.bool true,.bool true,.bool true,.bool false,.bool false],.bool true])∧Ext w w':=by
 have hA:At [] w [] w:=At.start (L0:=[]) trivial;obtain⟨hA,hF⟩:=fY hA;go_enter Tryz.func45,Tryz.ntmps45
 go_wp2_with (first|((with_reducible refine gal ?_);refine g0 hA ?_;clear hF hA;intro bH w1 hA hbH hF)|((with_reducible refine gst ?_);refine wTy hA ?_;clear hF hA;intro w1 hA hF))
 refine bodyPost_ret (v:=.tuple #[.agg #[.bool true,.bool true,.bool true,.bool true,.bool false,.bool false],.bool true]) (by simp[results,Tryz.results45,go_sem,hF]) rfl ⟨rfl,hA.toExt⟩
theorem had_5 (w:World):Calls Tryz.prog 45 #[.int .i64 5] w fun e w'=>e=.returned (.tuple #[.agg #[.bool true,.bool true,.bool true,.bool true,.bool false,.bool false],.bool true])∧Ext w w':=by
 have hA:At [] w [] w:=At.start (L0:=[]) trivial;obtain⟨hA,hF⟩:=fY hA;go_enter Tryz.func45,Tryz.ntmps45
 go_wp2_with (first|((with_reducible refine gal ?_);refine g0 hA ?_;clear hF hA;intro bH w1 hA hbH hF)|((with_reducible refine gst ?_);refine wTy hA ?_;clear hF hA;intro w1 hA hF))
 refine bodyPost_ret (v:=.tuple #[.agg #[.bool true,.bool true,.bool true,.bool true,.bool false,.bool false],.bool true]) (by simp[results,Tryz.results45,go_sem,hF]) rfl ⟨rfl,hA.toExt⟩
theorem had_6 (w:World):Calls Tryz.prog 45 #[.int .i64 6] w fun e w'=>e=.returned (.tuple #[.agg #[.bool true,.bool true,.bool true,.bool false,.bool false,.bool false],.bool true])∧Ext w w':=by
 have hA:At [] w [] w:=At.start (L0:=[]) trivial;obtain⟨hA,hF⟩:=fY hA;go_enter Tryz.func45,Tryz.ntmps45
 go_wp2_with (first|((with_reducible refine gal ?_);refine g0 hA ?_;clear hF hA;intro bH w1 hA hbH hF)|((with_reducible refine gst ?_);refine wTy hA ?_;clear hF hA;intro w1 hA hF))
 refine bodyPost_ret (v:=.tuple #[.agg #[.bool true,.bool true,.bool true,.bool false,.bool false,.bool false],.bool true]) (by simp[results,Tryz.results45,go_sem,hF]) rfl ⟨rfl,hA.toExt⟩
theorem had_7 (w:World):Calls Tryz.prog 45 #[.int .i64 7] w fun e w'=>e=.returned (.tuple #[.agg #[.bool true,.bool true,.bool true,.bool false,.bool true,.bool false],.bool true])∧Ext w w':=by
 have hA:At [] w [] w:=At.start (L0:=[]) trivial;obtain⟨hA,hF⟩:=fY hA;go_enter Tryz.func45,Tryz.ntmps45
 go_wp2_with (first|((with_reducible refine gal ?_);refine g0 hA ?_;clear hF hA;intro bH w1 hA hbH hF)|((with_reducible refine gst ?_);refine wTy hA ?_;clear hF hA;intro w1 hA hF))
 refine bodyPost_ret (v:=.tuple #[.agg #[.bool true,.bool true,.bool true,.bool false,.bool true,.bool false],.bool true]) (by simp[results,Tryz.results45,go_sem,hF]) rfl ⟨rfl,hA.toExt⟩
theorem had_8 (w:World):Calls Tryz.prog 45 #[.int .i64 8] w fun e w'=>e=.returned (.tuple #[.agg #[.bool true,.bool false,.bool false,.bool false,.bool false,.bool true],.bool true])∧Ext w w':=by
 have hA:At [] w [] w:=At.start (L0:=[]) trivial;obtain⟨hA,hF⟩:=fY hA;go_enter Tryz.func45,Tryz.ntmps45
 go_wp2_with (first|((with_reducible refine gal ?_);refine g0 hA ?_;clear hF hA;intro bH w1 hA hbH hF)|((with_reducible refine gst ?_);refine wTy hA ?_;clear hF hA;intro w1 hA hF))
 refine bodyPost_ret (v:=.tuple #[.agg #[.bool true,.bool false,.bool false,.bool false,.bool false,.bool true],.bool true]) (by simp[results,Tryz.results45,go_sem,hF]) rfl ⟨rfl,hA.toExt⟩
theorem ZnE (k:Int) (hk:hasOf k=none) (w:World):Calls Tryz.prog 45 #[.int .i64 k] w fun e w'=>e=.returned (.tuple #[.agg #[.bool false,.bool false,.bool false,.bool false,.bool false,.bool false],.bool false])∧Ext w w':=by
 have hA:At [] w [] w:=At.start (L0:=[]) trivial;have hF:=hA.facts
 have e0:(k==0)=false:=by
  rw[beq_eq_false_iff_ne];rintro rfl;simp[hasOf] at hk
 have e1:(k==1)=false:=by
  rw[beq_eq_false_iff_ne];rintro rfl;simp[hasOf] at hk
 have e2:(k==2)=false:=by
  rw[beq_eq_false_iff_ne];rintro rfl;simp[hasOf] at hk
 have e3:(k==3)=false:=by
  rw[beq_eq_false_iff_ne];rintro rfl;simp[hasOf] at hk
 have e4:(k==4)=false:=by
  rw[beq_eq_false_iff_ne];rintro rfl;simp[hasOf] at hk
 have e5:(k==5)=false:=by
  rw[beq_eq_false_iff_ne];rintro rfl;simp[hasOf] at hk
 have e6:(k==6)=false:=by
  rw[beq_eq_false_iff_ne];rintro rfl;simp[hasOf] at hk
 have e7:(k==7)=false:=by
  rw[beq_eq_false_iff_ne];rintro rfl;simp[hasOf] at hk
 have e8:(k==8)=false:=by
  rw[beq_eq_false_iff_ne];rintro rfl;simp[hasOf] at hk
 clear hk;obtain⟨hA,hF⟩:=fY hA;go_enter Tryz.func45,Tryz.ntmps45
 go_wp2_with (first|((with_reducible refine gal ?_);refine g0 hA ?_;clear hF hA;intro bH w1 hA hbH hF)|((with_reducible refine gst ?_);refine wTy hA ?_;clear hF hA;intro w1 hA hF))
 refine bodyPost_ret (v:=(.tuple #[.agg #[.bool false,.bool false,.bool false,.bool false,.bool false,.bool false],.bool false])) (by simp[results,Tryz.results45,go_sem,hF]) rfl ⟨rfl,hA.toExt⟩
theorem most_1 (w:World):Calls Tryz.prog 48 #[.int .i64 1] w fun e w'=>e=.returned (.int .u64 1048576)∧Ext w w':=by
 have hA:At [] w [] w:=At.start (L0:=[]) trivial;go_enter Tryz.func48,Tryz.ntmps48;go_wp2_with fail;go_ret;exact⟨rfl,hA.toExt⟩
theorem most_7 (w:World):Calls Tryz.prog 48 #[.int .i64 7] w fun e w'=>e=.returned (.int .u64 9223372036854775807)∧Ext w w':=by
 have hA:At [] w [] w:=At.start (L0:=[]) trivial;go_enter Tryz.func48,Tryz.ntmps48;go_wp2_with fail;go_ret;exact⟨rfl,hA.toExt⟩
theorem bare_0 (num:Int) (foot:ByteArray) (req:Int) (path:ByteArray) (mode n time:Int) (w:World):Calls Tryz.prog 46 #[.agg #[.int .i64 0,.int .u64 num,.string foot,.int .u64 req,.string path,.int .i64 mode,.int .u64 n,.int .i64 time],.agg #[.bool false,.bool false,.bool false,.bool false,.bool false,.bool false]] w fun e w'=>e=.returned (.agg #[.int .i64 0,.int .u64 0,.string .empty,.int .u64 0,.string .empty,.int .i64 0,.int .u64 0,.int .i64 0])∧Ext w w':=by
 have hA:At [] w [] w:=At.start (L0:=[]) trivial;obtain⟨hA,hF⟩:=fY hA;go_enter Tryz.func46,Tryz.ntmps46
 go_wp2_with (first|((with_reducible refine gbx ?_);refine wCy (E:=37) hA ?_;clear hF hA;intro bX w1 hA hbX hF)|((with_reducible refine gbx ?_);refine wCy (E:=101) hA ?_;clear hF hA;intro bH w1 hA hbH hF)|(((with_reducible refine galD 4 ?_);refine g2 hA ?_;clear hF hA;intro bR w1 hA hbR hF))|(((with_reducible refine galD 5 ?_);refine g2 hA ?_;clear hF hA;intro bO w1 hA hbO hF))|((with_reducible refine gst ?_);refine wTy hA ?_;clear hF hA;intro w1 hA hF))
 refine bodyPost_ret (v:=.agg #[.int .i64 0,.int .u64 0,.string ⟨#[]⟩,.int .u64 0,.string ⟨#[]⟩,.int .i64 0,.int .u64 0,.int .i64 0]) (by simp[results,Tryz.results46,go_sem,hF]) rfl ⟨rfl,hA.toExt⟩
theorem bare_1 (num:Int) (foot:ByteArray) (req:Int) (path:ByteArray) (mode n time:Int) (w:World):Calls Tryz.prog 46 #[.agg #[.int .i64 1,.int .u64 num,.string foot,.int .u64 req,.string path,.int .i64 mode,.int .u64 n,.int .i64 time],.agg #[.bool true,.bool true,.bool false,.bool false,.bool true,.bool true]] w fun e w'=>e=.returned (.agg #[.int .i64 1,.int .u64 num,.string foot,.int .u64 req,.string .empty,.int .i64 0,.int .u64 n,.int .i64 time])∧Ext w w':=by
 have hA:At [] w [] w:=At.start (L0:=[]) trivial;obtain⟨hA,hF⟩:=fY hA;go_enter Tryz.func46,Tryz.ntmps46
 go_wp2_with (first|((with_reducible refine gbx ?_);refine wCy (E:=37) hA ?_;clear hF hA;intro bX w1 hA hbX hF)|((with_reducible refine gbx ?_);refine wCy (E:=101) hA ?_;clear hF hA;intro bH w1 hA hbH hF)|(((with_reducible refine galD 4 ?_);refine g2 hA ?_;clear hF hA;intro bR w1 hA hbR hF))|(((with_reducible refine galD 5 ?_);refine g2 hA ?_;clear hF hA;intro bO w1 hA hbO hF))|((with_reducible refine gst ?_);refine wTy hA ?_;clear hF hA;intro w1 hA hF))
 refine bodyPost_ret (v:=.agg #[.int .i64 1,.int .u64 num,.string foot,.int .u64 req,.string ⟨#[]⟩,.int .i64 0,.int .u64 n,.int .i64 time]) (by simp[results,Tryz.results46,go_sem,hF]) rfl ⟨rfl,hA.toExt⟩
theorem bare_2 (num:Int) (foot:ByteArray) (req:Int) (path:ByteArray) (mode n time:Int) (w:World):Calls Tryz.prog 46 #[.agg #[.int .i64 2,.int .u64 num,.string foot,.int .u64 req,.string path,.int .i64 mode,.int .u64 n,.int .i64 time],.agg #[.bool true,.bool true,.bool false,.bool false,.bool false,.bool false]] w fun e w'=>e=.returned (.agg #[.int .i64 2,.int .u64 num,.string foot,.int .u64 req,.string .empty,.int .i64 0,.int .u64 0,.int .i64 0])∧Ext w w':=by
 have hA:At [] w [] w:=At.start (L0:=[]) trivial;obtain⟨hA,hF⟩:=fY hA;go_enter Tryz.func46,Tryz.ntmps46
 go_wp2_with (first|((with_reducible refine gbx ?_);refine wCy (E:=37) hA ?_;clear hF hA;intro bX w1 hA hbX hF)|((with_reducible refine gbx ?_);refine wCy (E:=101) hA ?_;clear hF hA;intro bH w1 hA hbH hF)|(((with_reducible refine galD 4 ?_);refine g2 hA ?_;clear hF hA;intro bR w1 hA hbR hF))|(((with_reducible refine galD 5 ?_);refine g2 hA ?_;clear hF hA;intro bO w1 hA hbO hF))|((with_reducible refine gst ?_);refine wTy hA ?_;clear hF hA;intro w1 hA hF))
 refine bodyPost_ret (v:=.agg #[.int .i64 2,.int .u64 num,.string foot,.int .u64 req,.string ⟨#[]⟩,.int .i64 0,.int .u64 0,.int .i64 0]) (by simp[results,Tryz.results46,go_sem,hF]) rfl ⟨rfl,hA.toExt⟩
theorem bare_3 (num:Int) (foot:ByteArray) (req:Int) (path:ByteArray) (mode n time:Int) (w:World):Calls Tryz.prog 46 #[.agg #[.int .i64 3,.int .u64 num,.string foot,.int .u64 req,.string path,.int .i64 mode,.int .u64 n,.int .i64 time],.agg #[.bool true,.bool true,.bool false,.bool false,.bool false,.bool true]] w fun e w'=>e=.returned (.agg #[.int .i64 3,.int .u64 num,.string foot,.int .u64 req,.string .empty,.int .i64 0,.int .u64 0,.int .i64 time])∧Ext w w':=by
 have hA:At [] w [] w:=At.start (L0:=[]) trivial;obtain⟨hA,hF⟩:=fY hA;go_enter Tryz.func46,Tryz.ntmps46
 go_wp2_with (first|((with_reducible refine gbx ?_);refine wCy (E:=37) hA ?_;clear hF hA;intro bX w1 hA hbX hF)|((with_reducible refine gbx ?_);refine wCy (E:=101) hA ?_;clear hF hA;intro bH w1 hA hbH hF)|(((with_reducible refine galD 4 ?_);refine g2 hA ?_;clear hF hA;intro bR w1 hA hbR hF))|(((with_reducible refine galD 5 ?_);refine g2 hA ?_;clear hF hA;intro bO w1 hA hbO hF))|((with_reducible refine gst ?_);refine wTy hA ?_;clear hF hA;intro w1 hA hF))
 refine bodyPost_ret (v:=.agg #[.int .i64 3,.int .u64 num,.string foot,.int .u64 req,.string ⟨#[]⟩,.int .i64 0,.int .u64 0,.int .i64 time]) (by simp[results,Tryz.results46,go_sem,hF]) rfl ⟨rfl,hA.toExt⟩
theorem bare_4 (num:Int) (foot:ByteArray) (req:Int) (path:ByteArray) (mode n time:Int) (w:World):Calls Tryz.prog 46 #[.agg #[.int .i64 4,.int .u64 num,.string foot,.int .u64 req,.string path,.int .i64 mode,.int .u64 n,.int .i64 time],.agg #[.bool true,.bool true,.bool true,.bool true,.bool false,.bool false]] w fun e w'=>e=.returned (.agg #[.int .i64 4,.int .u64 num,.string foot,.int .u64 req,.string path,.int .i64 mode,.int .u64 0,.int .i64 0])∧Ext w w':=by
 have hA:At [] w [] w:=At.start (L0:=[]) trivial;obtain⟨hA,hF⟩:=fY hA;go_enter Tryz.func46,Tryz.ntmps46
 go_wp2_with (first|((with_reducible refine gbx ?_);refine wCy (E:=37) hA ?_;clear hF hA;intro bX w1 hA hbX hF)|((with_reducible refine gbx ?_);refine wCy (E:=101) hA ?_;clear hF hA;intro bH w1 hA hbH hF)|(((with_reducible refine galD 4 ?_);refine g2 hA ?_;clear hF hA;intro bR w1 hA hbR hF))|(((with_reducible refine galD 5 ?_);refine g2 hA ?_;clear hF hA;intro bO w1 hA hbO hF))|((with_reducible refine gst ?_);refine wTy hA ?_;clear hF hA;intro w1 hA hF))
 refine bodyPost_ret (v:=.agg #[.int .i64 4,.int .u64 num,.string foot,.int .u64 req,.string path,.int .i64 mode,.int .u64 0,.int .i64 0]) (by simp[results,Tryz.results46,go_sem,hF]) rfl ⟨rfl,hA.toExt⟩
theorem bare_5 (num:Int) (foot:ByteArray) (req:Int) (path:ByteArray) (mode n time:Int) (w:World):Calls Tryz.prog 46 #[.agg #[.int .i64 5,.int .u64 num,.string foot,.int .u64 req,.string path,.int .i64 mode,.int .u64 n,.int .i64 time],.agg #[.bool true,.bool true,.bool true,.bool true,.bool false,.bool false]] w fun e w'=>e=.returned (.agg #[.int .i64 5,.int .u64 num,.string foot,.int .u64 req,.string path,.int .i64 mode,.int .u64 0,.int .i64 0])∧Ext w w':=by
 have hA:At [] w [] w:=At.start (L0:=[]) trivial;obtain⟨hA,hF⟩:=fY hA;go_enter Tryz.func46,Tryz.ntmps46
 go_wp2_with (first|((with_reducible refine gbx ?_);refine wCy (E:=37) hA ?_;clear hF hA;intro bX w1 hA hbX hF)|((with_reducible refine gbx ?_);refine wCy (E:=101) hA ?_;clear hF hA;intro bH w1 hA hbH hF)|(((with_reducible refine galD 4 ?_);refine g2 hA ?_;clear hF hA;intro bR w1 hA hbR hF))|(((with_reducible refine galD 5 ?_);refine g2 hA ?_;clear hF hA;intro bO w1 hA hbO hF))|((with_reducible refine gst ?_);refine wTy hA ?_;clear hF hA;intro w1 hA hF))
 refine bodyPost_ret (v:=.agg #[.int .i64 5,.int .u64 num,.string foot,.int .u64 req,.string path,.int .i64 mode,.int .u64 0,.int .i64 0]) (by simp[results,Tryz.results46,go_sem,hF]) rfl ⟨rfl,hA.toExt⟩
theorem bare_6 (num:Int) (foot:ByteArray) (req:Int) (path:ByteArray) (mode n time:Int) (w:World):Calls Tryz.prog 46 #[.agg #[.int .i64 6,.int .u64 num,.string foot,.int .u64 req,.string path,.int .i64 mode,.int .u64 n,.int .i64 time],.agg #[.bool true,.bool true,.bool true,.bool false,.bool false,.bool false]] w fun e w'=>e=.returned (.agg #[.int .i64 6,.int .u64 num,.string foot,.int .u64 req,.string path,.int .i64 0,.int .u64 0,.int .i64 0])∧Ext w w':=by
 have hA:At [] w [] w:=At.start (L0:=[]) trivial;obtain⟨hA,hF⟩:=fY hA;go_enter Tryz.func46,Tryz.ntmps46
 go_wp2_with (first|((with_reducible refine gbx ?_);refine wCy (E:=37) hA ?_;clear hF hA;intro bX w1 hA hbX hF)|((with_reducible refine gbx ?_);refine wCy (E:=101) hA ?_;clear hF hA;intro bH w1 hA hbH hF)|(((with_reducible refine galD 4 ?_);refine g2 hA ?_;clear hF hA;intro bR w1 hA hbR hF))|(((with_reducible refine galD 5 ?_);refine g2 hA ?_;clear hF hA;intro bO w1 hA hbO hF))|((with_reducible refine gst ?_);refine wTy hA ?_;clear hF hA;intro w1 hA hF))
 refine bodyPost_ret (v:=.agg #[.int .i64 6,.int .u64 num,.string foot,.int .u64 req,.string path,.int .i64 0,.int .u64 0,.int .i64 0]) (by simp[results,Tryz.results46,go_sem,hF]) rfl ⟨rfl,hA.toExt⟩
theorem bare_7 (num:Int) (foot:ByteArray) (req:Int) (path:ByteArray) (mode n time:Int) (w:World):Calls Tryz.prog 46 #[.agg #[.int .i64 7,.int .u64 num,.string foot,.int .u64 req,.string path,.int .i64 mode,.int .u64 n,.int .i64 time],.agg #[.bool true,.bool true,.bool true,.bool false,.bool true,.bool false]] w fun e w'=>e=.returned (.agg #[.int .i64 7,.int .u64 num,.string foot,.int .u64 req,.string path,.int .i64 0,.int .u64 n,.int .i64 0])∧Ext w w':=by
 have hA:At [] w [] w:=At.start (L0:=[]) trivial;obtain⟨hA,hF⟩:=fY hA;go_enter Tryz.func46,Tryz.ntmps46
 go_wp2_with (first|((with_reducible refine gbx ?_);refine wCy (E:=37) hA ?_;clear hF hA;intro bX w1 hA hbX hF)|((with_reducible refine gbx ?_);refine wCy (E:=101) hA ?_;clear hF hA;intro bH w1 hA hbH hF)|(((with_reducible refine galD 4 ?_);refine g2 hA ?_;clear hF hA;intro bR w1 hA hbR hF))|(((with_reducible refine galD 5 ?_);refine g2 hA ?_;clear hF hA;intro bO w1 hA hbO hF))|((with_reducible refine gst ?_);refine wTy hA ?_;clear hF hA;intro w1 hA hF))
 refine bodyPost_ret (v:=.agg #[.int .i64 7,.int .u64 num,.string foot,.int .u64 req,.string path,.int .i64 0,.int .u64 n,.int .i64 0]) (by simp[results,Tryz.results46,go_sem,hF]) rfl ⟨rfl,hA.toExt⟩
theorem bare_8 (num:Int) (foot:ByteArray) (req:Int) (path:ByteArray) (mode n time:Int) (w:World):Calls Tryz.prog 46 #[.agg #[.int .i64 8,.int .u64 num,.string foot,.int .u64 req,.string path,.int .i64 mode,.int .u64 n,.int .i64 time],.agg #[.bool true,.bool false,.bool false,.bool false,.bool false,.bool true]] w fun e w'=>e=.returned (.agg #[.int .i64 8,.int .u64 num,.string foot,.int .u64 0,.string .empty,.int .i64 0,.int .u64 0,.int .i64 time])∧Ext w w':=by
 have hA:At [] w [] w:=At.start (L0:=[]) trivial;obtain⟨hA,hF⟩:=fY hA;go_enter Tryz.func46,Tryz.ntmps46
 go_wp2_with (first|((with_reducible refine gbx ?_);refine wCy (E:=37) hA ?_;clear hF hA;intro bX w1 hA hbX hF)|((with_reducible refine gbx ?_);refine wCy (E:=101) hA ?_;clear hF hA;intro bH w1 hA hbH hF)|(((with_reducible refine galD 4 ?_);refine g2 hA ?_;clear hF hA;intro bR w1 hA hbR hF))|(((with_reducible refine galD 5 ?_);refine g2 hA ?_;clear hF hA;intro bO w1 hA hbO hF))|((with_reducible refine gst ?_);refine wTy hA ?_;clear hF hA;intro w1 hA hF))
 refine bodyPost_ret (v:=.agg #[.int .i64 8,.int .u64 num,.string foot,.int .u64 0,.string ⟨#[]⟩,.int .i64 0,.int .u64 0,.int .i64 time]) (by simp[results,Tryz.results46,go_sem,hF]) rfl ⟨rfl,hA.toExt⟩
end Cmd
end
section
namespace Cmd
open Go.RowKit
open Path (bl Zag overB)
attribute [-go_sem] run_eql_struct run_neq_struct run_eqGuard_agg
attribute [local go_sem] ZcX
theorem Zob (num:Int) (foot:ByteArray) (req:Int) (path:ByteArray) (mode n time:Int) (w:World) {eq rf rq rp m1 m2 nz ng t0 t1:Bool} (heq:decide ((⟨0,num,foot,req,path,mode,n,time⟩:Cm)=⟨0,0,.empty,0,.empty,0,0,0⟩)=eq) (ht0:decide (0≤time)=t0) (ht1:decide (time≤1099511627776)=t1):
 Calls Tryz.prog 28 #[.agg #[.int .i64 0,.int .u64 num,.string foot,.int .u64 req,.string path,.int .i64 mode,.int .u64 n,.int .i64 time]] w fun e w'=>e=.returned (.bool (eq&&(!false || rf)&&(!false || !rq)&&(!false || rp)&&(!false || !(m1&&m2))&&(!false || !(nz || ng))&&(t0&&t1)))∧Ext w w':=by
 have hA:At [] w [] w:=At.start (L0:=[]) trivial;have hF:=hA.facts;have hne:=fun w=>neqCm ⟨0,num,foot,req,path,mode,n,time⟩ ⟨0,0,.empty,0,.empty,0,0,0⟩ w;rw[heq] at hne;simp only[Cm.val] at hne;have hbr:=fun w=>bare_0 num foot req path mode n time w;clear heq;obtain⟨hA,hF⟩:=fY hA;go_enter Tryz.func28,Tryz.ntmps28
 go_wp2_with ((with_reducible refine gbx ?_);refine wCy (E:=37) hA ?_;clear hF hA;intro bX w1 hA hbX hF)
 refine(had_0 _).mono ?_;rintro e w1 ⟨rfl,hx⟩;replace hA:=hA.ext hx;clear hF hx;obtain⟨hA,hF⟩:=fY hA
 go_wp2_with (first|((with_reducible refine gal ?_);refine g0 hA ?_;clear hF hA;intro bH w1 hA hbH hF)|((with_reducible refine gst ?_);refine wTy hA ?_;clear hF hA;intro w1 hA hF))
 (try go_frame);refine cl3 hA ?_;clear hF hA;intro w1 hA hF;(try simp only[uY] at hA hF);clear hbr hne;cases eq
 · go_wp2_with fail;go_ret;exact⟨rfl,hA.toExt⟩
 go_wp2_with fail;(try go_frame);refine cl2 hA ?_;clear hF hA;intro w1 hA hF;(try simp only[uY] at hA hF);cases t0
 · go_wp2_with fail;go_ret;exact⟨rfl,hA.toExt⟩
 cases t1
 · go_wp2_with fail;go_ret;exact⟨rfl,hA.toExt⟩
 go_wp2_with fail;go_ret;exact⟨rfl,hA.toExt⟩
theorem Zoa (num:Int) (foot:ByteArray) (req:Int) (path:ByteArray) (mode n time:Int) (w:World) {eq rf rq rp m1 m2 nz ng t0 t1:Bool} (heq:decide ((⟨1,num,foot,req,path,mode,n,time⟩:Cm)=⟨1,num,foot,req,.empty,0,n,time⟩)=eq) (hf:foot.size≤1000) (hrf0:Zag (bl foot)=rf) (hrq:(req==0)=rq) (hnz:(n==0)=nz) (hng:decide (1048576 < n)=ng) (ht0:decide (0≤time)=t0) (ht1:decide (time≤1099511627776)=t1):
 Calls Tryz.prog 28 #[.agg #[.int .i64 1,.int .u64 num,.string foot,.int .u64 req,.string path,.int .i64 mode,.int .u64 n,.int .i64 time]] w fun e w'=>e=.returned (.bool (eq&&(!true || rf)&&(!true || !rq)&&(!false || rp)&&(!false || !(m1&&m2))&&(!true || !(nz || ng))&&(t0&&t1)))∧Ext w w':=by
 have hA:At [] w [] w:=At.start (L0:=[]) trivial;have hF:=hA.facts;have hne:=fun w=>neqCm ⟨1,num,foot,req,path,mode,n,time⟩ ⟨1,num,foot,req,.empty,0,n,time⟩ w;rw[heq] at hne;simp only[Cm.val] at hne;have hbr:=fun w=>bare_1 num foot req path mode n time w;have hrf:=fun w=>Path.right_any foot w (by omega);rw[hrf0] at hrf;have hmo:=fun w=>most_1 w;clear heq hrf0;obtain⟨hA,hF⟩:=fY hA;go_enter Tryz.func28,Tryz.ntmps28
 go_wp2_with ((with_reducible refine gbx ?_);refine wCy (E:=37) hA ?_;clear hF hA;intro bX w1 hA hbX hF)
 refine(had_1 _).mono ?_;rintro e w1 ⟨rfl,hx⟩;replace hA:=hA.ext hx;clear hF hx;obtain⟨hA,hF⟩:=fY hA
 go_wp2_with (first|((with_reducible refine gal ?_);refine g0 hA ?_;clear hF hA;intro bH w1 hA hbH hF)|((with_reducible refine gst ?_);refine wTy hA ?_;clear hF hA;intro w1 hA hF))
 (try go_frame);refine cl3 hA ?_;clear hF hA;intro w1 hA hF;(try simp only[uY] at hA hF);clear hbr hne;cases eq
 · go_wp2_with fail;go_ret;exact⟨rfl,hA.toExt⟩
 go_wp2_with fail;refine(hrf _).mono ?_;rintro e w4 ⟨rfl,hx⟩;replace hA:=hA.ext hx;clear hF hx;obtain⟨hA,hF⟩:=fY hA;cases rf
 · go_wp2_with fail;go_ret;exact⟨rfl,hA.toExt⟩
 cases rq
 · cases nz
   · cases ng
     · go_wp2_with fail;(try go_frame);refine cl4 hA ?_;clear hF hA;intro w1 hA hF;(try simp only[uY] at hA hF);cases t0
       · go_wp2_with fail;go_ret;exact⟨rfl,hA.toExt⟩
       cases t1
       · go_wp2_with fail;go_ret;exact⟨rfl,hA.toExt⟩
       go_wp2_with fail;go_ret;exact⟨rfl,hA.toExt⟩
     go_wp2_with fail;(try go_frame);refine cl4 hA ?_;clear hF hA;intro w1 hA hF;(try simp only[uY] at hA hF);go_wp2_with fail;go_ret;exact⟨rfl,hA.toExt⟩
   go_wp2_with fail;(try go_frame);refine cl4 hA ?_;clear hF hA;intro w1 hA hF;(try simp only[uY] at hA hF);go_wp2_with fail;go_ret;exact⟨rfl,hA.toExt⟩
 go_wp2_with fail;go_ret;exact⟨rfl,hA.toExt⟩
theorem Zn9 (num:Int) (foot:ByteArray) (req:Int) (path:ByteArray) (mode n time:Int) (w:World) {eq rf rq rp m1 m2 nz ng t0 t1:Bool} (heq:decide ((⟨2,num,foot,req,path,mode,n,time⟩:Cm)=⟨2,num,foot,req,.empty,0,0,0⟩)=eq) (hf:foot.size≤1000) (hrf0:Zag (bl foot)=rf) (hrq:(req==0)=rq) (ht0:decide (0≤time)=t0) (ht1:decide (time≤1099511627776)=t1):
 Calls Tryz.prog 28 #[.agg #[.int .i64 2,.int .u64 num,.string foot,.int .u64 req,.string path,.int .i64 mode,.int .u64 n,.int .i64 time]] w fun e w'=>e=.returned (.bool (eq&&(!true || rf)&&(!true || !rq)&&(!false || rp)&&(!false || !(m1&&m2))&&(!false || !(nz || ng))&&(t0&&t1)))∧Ext w w':=by
 have hA:At [] w [] w:=At.start (L0:=[]) trivial;have hF:=hA.facts;have hne:=fun w=>neqCm ⟨2,num,foot,req,path,mode,n,time⟩ ⟨2,num,foot,req,.empty,0,0,0⟩ w;rw[heq] at hne;simp only[Cm.val] at hne;have hbr:=fun w=>bare_2 num foot req path mode n time w;have hrf:=fun w=>Path.right_any foot w (by omega);rw[hrf0] at hrf;clear heq hrf0;obtain⟨hA,hF⟩:=fY hA;go_enter Tryz.func28,Tryz.ntmps28
 go_wp2_with ((with_reducible refine gbx ?_);refine wCy (E:=37) hA ?_;clear hF hA;intro bX w1 hA hbX hF)
 refine(had_2 _).mono ?_;rintro e w1 ⟨rfl,hx⟩;replace hA:=hA.ext hx;clear hF hx;obtain⟨hA,hF⟩:=fY hA
 go_wp2_with (first|((with_reducible refine gal ?_);refine g0 hA ?_;clear hF hA;intro bH w1 hA hbH hF)|((with_reducible refine gst ?_);refine wTy hA ?_;clear hF hA;intro w1 hA hF))
 (try go_frame);refine cl3 hA ?_;clear hF hA;intro w1 hA hF;(try simp only[uY] at hA hF);clear hbr hne;cases eq
 · go_wp2_with fail;go_ret;exact⟨rfl,hA.toExt⟩
 go_wp2_with fail;refine(hrf _).mono ?_;rintro e w4 ⟨rfl,hx⟩;replace hA:=hA.ext hx;clear hF hx;obtain⟨hA,hF⟩:=fY hA;cases rf
 · go_wp2_with fail;go_ret;exact⟨rfl,hA.toExt⟩
 cases rq
 · go_wp2_with fail;(try go_frame);refine cl2 hA ?_;clear hF hA;intro w1 hA hF;(try simp only[uY] at hA hF);cases t0
   · go_wp2_with fail;go_ret;exact⟨rfl,hA.toExt⟩
   cases t1
   · go_wp2_with fail;go_ret;exact⟨rfl,hA.toExt⟩
   go_wp2_with fail;go_ret;exact⟨rfl,hA.toExt⟩
 go_wp2_with fail;go_ret;exact⟨rfl,hA.toExt⟩
theorem Zn8 (num:Int) (foot:ByteArray) (req:Int) (path:ByteArray) (mode n time:Int) (w:World) {eq rf rq rp m1 m2 nz ng t0 t1:Bool} (heq:decide ((⟨3,num,foot,req,path,mode,n,time⟩:Cm)=⟨3,num,foot,req,.empty,0,0,time⟩)=eq) (hf:foot.size≤1000) (hrf0:Zag (bl foot)=rf) (hrq:(req==0)=rq) (ht0:decide (0≤time)=t0) (ht1:decide (time≤1099511627776)=t1):
 Calls Tryz.prog 28 #[.agg #[.int .i64 3,.int .u64 num,.string foot,.int .u64 req,.string path,.int .i64 mode,.int .u64 n,.int .i64 time]] w fun e w'=>e=.returned (.bool (eq&&(!true || rf)&&(!true || !rq)&&(!false || rp)&&(!false || !(m1&&m2))&&(!false || !(nz || ng))&&(t0&&t1)))∧Ext w w':=by
 have hA:At [] w [] w:=At.start (L0:=[]) trivial;have hF:=hA.facts;have hne:=fun w=>neqCm ⟨3,num,foot,req,path,mode,n,time⟩ ⟨3,num,foot,req,.empty,0,0,time⟩ w;rw[heq] at hne;simp only[Cm.val] at hne;have hbr:=fun w=>bare_3 num foot req path mode n time w;have hrf:=fun w=>Path.right_any foot w (by omega);rw[hrf0] at hrf;clear heq hrf0;obtain⟨hA,hF⟩:=fY hA;go_enter Tryz.func28,Tryz.ntmps28
 go_wp2_with ((with_reducible refine gbx ?_);refine wCy (E:=37) hA ?_;clear hF hA;intro bX w1 hA hbX hF)
 refine(had_3 _).mono ?_;rintro e w1 ⟨rfl,hx⟩;replace hA:=hA.ext hx;clear hF hx;obtain⟨hA,hF⟩:=fY hA
 go_wp2_with (first|((with_reducible refine gal ?_);refine g0 hA ?_;clear hF hA;intro bH w1 hA hbH hF)|((with_reducible refine gst ?_);refine wTy hA ?_;clear hF hA;intro w1 hA hF))
 (try go_frame);refine cl3 hA ?_;clear hF hA;intro w1 hA hF;(try simp only[uY] at hA hF);clear hbr hne;cases eq
 · go_wp2_with fail;go_ret;exact⟨rfl,hA.toExt⟩
 go_wp2_with fail;refine(hrf _).mono ?_;rintro e w4 ⟨rfl,hx⟩;replace hA:=hA.ext hx;clear hF hx;obtain⟨hA,hF⟩:=fY hA;cases rf
 · go_wp2_with fail;go_ret;exact⟨rfl,hA.toExt⟩
 cases rq
 · go_wp2_with fail;(try go_frame);refine cl2 hA ?_;clear hF hA;intro w1 hA hF;(try simp only[uY] at hA hF);cases t0
   · go_wp2_with fail;go_ret;exact⟨rfl,hA.toExt⟩
   cases t1
   · go_wp2_with fail;go_ret;exact⟨rfl,hA.toExt⟩
   go_wp2_with fail;go_ret;exact⟨rfl,hA.toExt⟩
 go_wp2_with fail;go_ret;exact⟨rfl,hA.toExt⟩
theorem Zn7 (num:Int) (foot:ByteArray) (req:Int) (path:ByteArray) (mode n time:Int) (w:World) {eq rf rq rp m1 m2 nz ng t0 t1:Bool} (heq:decide ((⟨4,num,foot,req,path,mode,n,time⟩:Cm)=⟨4,num,foot,req,path,mode,0,0⟩)=eq) (hf:foot.size≤1000) (hrf0:Zag (bl foot)=rf) (hrq:(req==0)=rq) (hp:path.size≤1000) (hrp0:Zag (bl path)=rp) (hm1:(mode != 1)=m1) (hm2:(mode != 2)=m2) (ht0:decide (0≤time)=t0) (ht1:decide (time≤1099511627776)=t1):
 Calls Tryz.prog 28 #[.agg #[.int .i64 4,.int .u64 num,.string foot,.int .u64 req,.string path,.int .i64 mode,.int .u64 n,.int .i64 time]] w fun e w'=>e=.returned (.bool (eq&&(!true || rf)&&(!true || !rq)&&(!true || rp)&&(!true || !(m1&&m2))&&(!false || !(nz || ng))&&(t0&&t1)))∧Ext w w':=by
 have hA:At [] w [] w:=At.start (L0:=[]) trivial;have hF:=hA.facts;have hne:=fun w=>neqCm ⟨4,num,foot,req,path,mode,n,time⟩ ⟨4,num,foot,req,path,mode,0,0⟩ w;rw[heq] at hne;simp only[Cm.val] at hne;have hbr:=fun w=>bare_4 num foot req path mode n time w;have hrf:=fun w=>Path.right_any foot w (by omega);rw[hrf0] at hrf;have hrp:=fun w=>Path.right_any path w (by omega);rw[hrp0] at hrp;clear heq hrf0 hrp0;obtain⟨hA,hF⟩:=fY hA;go_enter Tryz.func28,Tryz.ntmps28
 go_wp2_with ((with_reducible refine gbx ?_);refine wCy (E:=37) hA ?_;clear hF hA;intro bX w1 hA hbX hF)
 refine(had_4 _).mono ?_;rintro e w1 ⟨rfl,hx⟩;replace hA:=hA.ext hx;clear hF hx;obtain⟨hA,hF⟩:=fY hA
 go_wp2_with (first|((with_reducible refine gal ?_);refine g0 hA ?_;clear hF hA;intro bH w1 hA hbH hF)|((with_reducible refine gst ?_);refine wTy hA ?_;clear hF hA;intro w1 hA hF))
 (try go_frame);refine cl3 hA ?_;clear hF hA;intro w1 hA hF;(try simp only[uY] at hA hF);clear hbr hne;cases eq
 · go_wp2_with fail;go_ret;exact⟨rfl,hA.toExt⟩
 go_wp2_with fail;refine(hrf _).mono ?_;rintro e w4 ⟨rfl,hx⟩;replace hA:=hA.ext hx;clear hF hx;obtain⟨hA,hF⟩:=fY hA;cases rf
 · go_wp2_with fail;go_ret;exact⟨rfl,hA.toExt⟩
 cases rq
 · go_wp2_with fail;refine(hrp _).mono ?_;rintro e w4 ⟨rfl,hx⟩;replace hA:=hA.ext hx;clear hF hx;obtain⟨hA,hF⟩:=fY hA;cases rp
   · go_wp2_with fail;go_ret;exact⟨rfl,hA.toExt⟩
   cases m1
   · go_wp2_with fail;(try go_frame);refine cl2 hA ?_;clear hF hA;intro w1 hA hF;(try simp only[uY] at hA hF);cases t0
     · go_wp2_with fail;go_ret;exact⟨rfl,hA.toExt⟩
     cases t1
     · go_wp2_with fail;go_ret;exact⟨rfl,hA.toExt⟩
     go_wp2_with fail;go_ret;exact⟨rfl,hA.toExt⟩
   cases m2
   · go_wp2_with fail;(try go_frame);refine cl2 hA ?_;clear hF hA;intro w1 hA hF;(try simp only[uY] at hA hF);cases t0
     · go_wp2_with fail;go_ret;exact⟨rfl,hA.toExt⟩
     cases t1
     · go_wp2_with fail;go_ret;exact⟨rfl,hA.toExt⟩
     go_wp2_with fail;go_ret;exact⟨rfl,hA.toExt⟩
   go_wp2_with fail;go_ret;exact⟨rfl,hA.toExt⟩
 go_wp2_with fail;go_ret;exact⟨rfl,hA.toExt⟩
theorem Zn6 (num:Int) (foot:ByteArray) (req:Int) (path:ByteArray) (mode n time:Int) (w:World) {eq rf rq rp m1 m2 nz ng t0 t1:Bool} (heq:decide ((⟨5,num,foot,req,path,mode,n,time⟩:Cm)=⟨5,num,foot,req,path,mode,0,0⟩)=eq) (hf:foot.size≤1000) (hrf0:Zag (bl foot)=rf) (hrq:(req==0)=rq) (hp:path.size≤1000) (hrp0:Zag (bl path)=rp) (hm1:(mode != 1)=m1) (hm2:(mode != 2)=m2) (ht0:decide (0≤time)=t0) (ht1:decide (time≤1099511627776)=t1):
 Calls Tryz.prog 28 #[.agg #[.int .i64 5,.int .u64 num,.string foot,.int .u64 req,.string path,.int .i64 mode,.int .u64 n,.int .i64 time]] w fun e w'=>e=.returned (.bool (eq&&(!true || rf)&&(!true || !rq)&&(!true || rp)&&(!true || !(m1&&m2))&&(!false || !(nz || ng))&&(t0&&t1)))∧Ext w w':=by
 have hA:At [] w [] w:=At.start (L0:=[]) trivial;have hF:=hA.facts;have hne:=fun w=>neqCm ⟨5,num,foot,req,path,mode,n,time⟩ ⟨5,num,foot,req,path,mode,0,0⟩ w;rw[heq] at hne;simp only[Cm.val] at hne;have hbr:=fun w=>bare_5 num foot req path mode n time w;have hrf:=fun w=>Path.right_any foot w (by omega);rw[hrf0] at hrf;have hrp:=fun w=>Path.right_any path w (by omega);rw[hrp0] at hrp;clear heq hrf0 hrp0;obtain⟨hA,hF⟩:=fY hA;go_enter Tryz.func28,Tryz.ntmps28
 go_wp2_with ((with_reducible refine gbx ?_);refine wCy (E:=37) hA ?_;clear hF hA;intro bX w1 hA hbX hF)
 refine(had_5 _).mono ?_;rintro e w1 ⟨rfl,hx⟩;replace hA:=hA.ext hx;clear hF hx;obtain⟨hA,hF⟩:=fY hA
 go_wp2_with (first|((with_reducible refine gal ?_);refine g0 hA ?_;clear hF hA;intro bH w1 hA hbH hF)|((with_reducible refine gst ?_);refine wTy hA ?_;clear hF hA;intro w1 hA hF))
 (try go_frame);refine cl3 hA ?_;clear hF hA;intro w1 hA hF;(try simp only[uY] at hA hF);clear hbr hne;cases eq
 · go_wp2_with fail;go_ret;exact⟨rfl,hA.toExt⟩
 go_wp2_with fail;refine(hrf _).mono ?_;rintro e w4 ⟨rfl,hx⟩;replace hA:=hA.ext hx;clear hF hx;obtain⟨hA,hF⟩:=fY hA;cases rf
 · go_wp2_with fail;go_ret;exact⟨rfl,hA.toExt⟩
 cases rq
 · go_wp2_with fail;refine(hrp _).mono ?_;rintro e w4 ⟨rfl,hx⟩;replace hA:=hA.ext hx;clear hF hx;obtain⟨hA,hF⟩:=fY hA;cases rp
   · go_wp2_with fail;go_ret;exact⟨rfl,hA.toExt⟩
   cases m1
   · go_wp2_with fail;(try go_frame);refine cl2 hA ?_;clear hF hA;intro w1 hA hF;(try simp only[uY] at hA hF);cases t0
     · go_wp2_with fail;go_ret;exact⟨rfl,hA.toExt⟩
     cases t1
     · go_wp2_with fail;go_ret;exact⟨rfl,hA.toExt⟩
     go_wp2_with fail;go_ret;exact⟨rfl,hA.toExt⟩
   cases m2
   · go_wp2_with fail;(try go_frame);refine cl2 hA ?_;clear hF hA;intro w1 hA hF;(try simp only[uY] at hA hF);cases t0
     · go_wp2_with fail;go_ret;exact⟨rfl,hA.toExt⟩
     cases t1
     · go_wp2_with fail;go_ret;exact⟨rfl,hA.toExt⟩
     go_wp2_with fail;go_ret;exact⟨rfl,hA.toExt⟩
   go_wp2_with fail;go_ret;exact⟨rfl,hA.toExt⟩
 go_wp2_with fail;go_ret;exact⟨rfl,hA.toExt⟩
theorem Zn5 (num:Int) (foot:ByteArray) (req:Int) (path:ByteArray) (mode n time:Int) (w:World) {eq rf rq rp m1 m2 nz ng t0 t1:Bool} (heq:decide ((⟨6,num,foot,req,path,mode,n,time⟩:Cm)=⟨6,num,foot,req,path,0,0,0⟩)=eq) (hf:foot.size≤1000) (hrf0:Zag (bl foot)=rf) (hrq:(req==0)=rq) (hp:path.size≤1000) (hrp0:Zag (bl path)=rp) (ht0:decide (0≤time)=t0) (ht1:decide (time≤1099511627776)=t1):
 Calls Tryz.prog 28 #[.agg #[.int .i64 6,.int .u64 num,.string foot,.int .u64 req,.string path,.int .i64 mode,.int .u64 n,.int .i64 time]] w fun e w'=>e=.returned (.bool (eq&&(!true || rf)&&(!true || !rq)&&(!true || rp)&&(!false || !(m1&&m2))&&(!false || !(nz || ng))&&(t0&&t1)))∧Ext w w':=by
 have hA:At [] w [] w:=At.start (L0:=[]) trivial;have hF:=hA.facts;have hne:=fun w=>neqCm ⟨6,num,foot,req,path,mode,n,time⟩ ⟨6,num,foot,req,path,0,0,0⟩ w;rw[heq] at hne;simp only[Cm.val] at hne;have hbr:=fun w=>bare_6 num foot req path mode n time w;have hrf:=fun w=>Path.right_any foot w (by omega);rw[hrf0] at hrf;have hrp:=fun w=>Path.right_any path w (by omega);rw[hrp0] at hrp;clear heq hrf0 hrp0;obtain⟨hA,hF⟩:=fY hA;go_enter Tryz.func28,Tryz.ntmps28
 go_wp2_with ((with_reducible refine gbx ?_);refine wCy (E:=37) hA ?_;clear hF hA;intro bX w1 hA hbX hF)
 refine(had_6 _).mono ?_;rintro e w1 ⟨rfl,hx⟩;replace hA:=hA.ext hx;clear hF hx;obtain⟨hA,hF⟩:=fY hA
 go_wp2_with (first|((with_reducible refine gal ?_);refine g0 hA ?_;clear hF hA;intro bH w1 hA hbH hF)|((with_reducible refine gst ?_);refine wTy hA ?_;clear hF hA;intro w1 hA hF))
 (try go_frame);refine cl3 hA ?_;clear hF hA;intro w1 hA hF;(try simp only[uY] at hA hF);clear hbr hne;cases eq
 · go_wp2_with fail;go_ret;exact⟨rfl,hA.toExt⟩
 go_wp2_with fail;refine(hrf _).mono ?_;rintro e w4 ⟨rfl,hx⟩;replace hA:=hA.ext hx;clear hF hx;obtain⟨hA,hF⟩:=fY hA;cases rf
 · go_wp2_with fail;go_ret;exact⟨rfl,hA.toExt⟩
 cases rq
 · go_wp2_with fail;refine(hrp _).mono ?_;rintro e w4 ⟨rfl,hx⟩;replace hA:=hA.ext hx;clear hF hx;obtain⟨hA,hF⟩:=fY hA;cases rp
   · go_wp2_with fail;go_ret;exact⟨rfl,hA.toExt⟩
   go_wp2_with fail;(try go_frame);refine cl2 hA ?_;clear hF hA;intro w1 hA hF;(try simp only[uY] at hA hF);cases t0
   · go_wp2_with fail;go_ret;exact⟨rfl,hA.toExt⟩
   cases t1
   · go_wp2_with fail;go_ret;exact⟨rfl,hA.toExt⟩
   go_wp2_with fail;go_ret;exact⟨rfl,hA.toExt⟩
 go_wp2_with fail;go_ret;exact⟨rfl,hA.toExt⟩
theorem Zn4 (num:Int) (foot:ByteArray) (req:Int) (path:ByteArray) (mode n time:Int) (w:World) {eq rf rq rp m1 m2 nz ng t0 t1:Bool} (heq:decide ((⟨7,num,foot,req,path,mode,n,time⟩:Cm)=⟨7,num,foot,req,path,0,n,0⟩)=eq) (hf:foot.size≤1000) (hrf0:Zag (bl foot)=rf) (hrq:(req==0)=rq) (hp:path.size≤1000) (hrp0:Zag (bl path)=rp) (hnz:(n==0)=nz) (hng:decide (9223372036854775807 < n)=ng) (ht0:decide (0≤time)=t0) (ht1:decide (time≤1099511627776)=t1):
 Calls Tryz.prog 28 #[.agg #[.int .i64 7,.int .u64 num,.string foot,.int .u64 req,.string path,.int .i64 mode,.int .u64 n,.int .i64 time]] w fun e w'=>e=.returned (.bool (eq&&(!true || rf)&&(!true || !rq)&&(!true || rp)&&(!false || !(m1&&m2))&&(!true || !(nz || ng))&&(t0&&t1)))∧Ext w w':=by
 have hA:At [] w [] w:=At.start (L0:=[]) trivial;have hF:=hA.facts;have hne:=fun w=>neqCm ⟨7,num,foot,req,path,mode,n,time⟩ ⟨7,num,foot,req,path,0,n,0⟩ w;rw[heq] at hne;simp only[Cm.val] at hne;have hbr:=fun w=>bare_7 num foot req path mode n time w;have hrf:=fun w=>Path.right_any foot w (by omega);rw[hrf0] at hrf;have hrp:=fun w=>Path.right_any path w (by omega);rw[hrp0] at hrp;have hmo:=fun w=>most_7 w;clear heq hrf0 hrp0;obtain⟨hA,hF⟩:=fY hA;go_enter Tryz.func28,Tryz.ntmps28
 go_wp2_with ((with_reducible refine gbx ?_);refine wCy (E:=37) hA ?_;clear hF hA;intro bX w1 hA hbX hF)
 refine(had_7 _).mono ?_;rintro e w1 ⟨rfl,hx⟩;replace hA:=hA.ext hx;clear hF hx;obtain⟨hA,hF⟩:=fY hA
 go_wp2_with (first|((with_reducible refine gal ?_);refine g0 hA ?_;clear hF hA;intro bH w1 hA hbH hF)|((with_reducible refine gst ?_);refine wTy hA ?_;clear hF hA;intro w1 hA hF))
 (try go_frame);refine cl3 hA ?_;clear hF hA;intro w1 hA hF;(try simp only[uY] at hA hF);clear hbr hne;cases eq
 · go_wp2_with fail;go_ret;exact⟨rfl,hA.toExt⟩
 go_wp2_with fail;refine(hrf _).mono ?_;rintro e w4 ⟨rfl,hx⟩;replace hA:=hA.ext hx;clear hF hx;obtain⟨hA,hF⟩:=fY hA;cases rf
 · go_wp2_with fail;go_ret;exact⟨rfl,hA.toExt⟩
 cases rq
 · go_wp2_with fail;refine(hrp _).mono ?_;rintro e w4 ⟨rfl,hx⟩;replace hA:=hA.ext hx;clear hF hx;obtain⟨hA,hF⟩:=fY hA;cases rp
   · go_wp2_with fail;go_ret;exact⟨rfl,hA.toExt⟩
   cases nz
   · cases ng
     · go_wp2_with fail;(try go_frame);refine cl4 hA ?_;clear hF hA;intro w1 hA hF;(try simp only[uY] at hA hF);cases t0
       · go_wp2_with fail;go_ret;exact⟨rfl,hA.toExt⟩
       cases t1
       · go_wp2_with fail;go_ret;exact⟨rfl,hA.toExt⟩
       go_wp2_with fail;go_ret;exact⟨rfl,hA.toExt⟩
     go_wp2_with fail;(try go_frame);refine cl4 hA ?_;clear hF hA;intro w1 hA hF;(try simp only[uY] at hA hF);go_wp2_with fail;go_ret;exact⟨rfl,hA.toExt⟩
   go_wp2_with fail;(try go_frame);refine cl4 hA ?_;clear hF hA;intro w1 hA hF;(try simp only[uY] at hA hF);go_wp2_with fail;go_ret;exact⟨rfl,hA.toExt⟩
 go_wp2_with fail;go_ret;exact⟨rfl,hA.toExt⟩
theorem Zn3 (num:Int) (foot:ByteArray) (req:Int) (path:ByteArray) (mode n time:Int) (w:World) {eq rf rq rp m1 m2 nz ng t0 t1:Bool} (heq:decide ((⟨8,num,foot,req,path,mode,n,time⟩:Cm)=⟨8,num,foot,0,.empty,0,0,time⟩)=eq) (hf:foot.size≤1000) (hrf0:Zag (bl foot)=rf) (ht0:decide (0≤time)=t0) (ht1:decide (time≤1099511627776)=t1):
 Calls Tryz.prog 28 #[.agg #[.int .i64 8,.int .u64 num,.string foot,.int .u64 req,.string path,.int .i64 mode,.int .u64 n,.int .i64 time]] w fun e w'=>e=.returned (.bool (eq&&(!true || rf)&&(!false || !rq)&&(!false || rp)&&(!false || !(m1&&m2))&&(!false || !(nz || ng))&&(t0&&t1)))∧Ext w w':=by
 have hA:At [] w [] w:=At.start (L0:=[]) trivial;have hF:=hA.facts;have hne:=fun w=>neqCm ⟨8,num,foot,req,path,mode,n,time⟩ ⟨8,num,foot,0,.empty,0,0,time⟩ w;rw[heq] at hne;simp only[Cm.val] at hne;have hbr:=fun w=>bare_8 num foot req path mode n time w;have hrf:=fun w=>Path.right_any foot w (by omega);rw[hrf0] at hrf;clear heq hrf0;obtain⟨hA,hF⟩:=fY hA;go_enter Tryz.func28,Tryz.ntmps28
 go_wp2_with ((with_reducible refine gbx ?_);refine wCy (E:=37) hA ?_;clear hF hA;intro bX w1 hA hbX hF)
 refine(had_8 _).mono ?_;rintro e w1 ⟨rfl,hx⟩;replace hA:=hA.ext hx;clear hF hx;obtain⟨hA,hF⟩:=fY hA
 go_wp2_with (first|((with_reducible refine gal ?_);refine g0 hA ?_;clear hF hA;intro bH w1 hA hbH hF)|((with_reducible refine gst ?_);refine wTy hA ?_;clear hF hA;intro w1 hA hF))
 (try go_frame);refine cl3 hA ?_;clear hF hA;intro w1 hA hF;(try simp only[uY] at hA hF);clear hbr hne;cases eq
 · go_wp2_with fail;go_ret;exact⟨rfl,hA.toExt⟩
 go_wp2_with fail;refine(hrf _).mono ?_;rintro e w4 ⟨rfl,hx⟩;replace hA:=hA.ext hx;clear hF hx;obtain⟨hA,hF⟩:=fY hA;cases rf
 · go_wp2_with fail;go_ret;exact⟨rfl,hA.toExt⟩
 go_wp2_with fail;(try go_frame);refine cl2 hA ?_;clear hF hA;intro w1 hA hF;(try simp only[uY] at hA hF);cases t0
 · go_wp2_with fail;go_ret;exact⟨rfl,hA.toExt⟩
 cases t1
 · go_wp2_with fail;go_ret;exact⟨rfl,hA.toExt⟩
 go_wp2_with fail;go_ret;exact⟨rfl,hA.toExt⟩
theorem Zix (c:Cm) (hk:hasOf c.kind=none) (w:World):Calls Tryz.prog 28 #[c.val] w fun e w'=>e=.returned (.bool false)∧Ext w w':=by
 have hA:At [] w [] w:=At.start (L0:=[]) trivial;have hF:=hA.facts;have hno:=fun w=>ZnE c.kind hk w;clear hk;obtain⟨kind,num,foot,req,path,mode,n,time⟩:=c;simp only[Cm.val] at *
 obtain⟨hA,hF⟩:=fY hA;go_enter Tryz.func28,Tryz.ntmps28
 go_wp2_with ((with_reducible refine gbx ?_);refine wCy (E:=37) hA ?_;clear hF hA;intro bX w1 hA hbX hF)
 refine(hno _).mono ?_;clear hno;rintro e w1 ⟨rfl,hx⟩;replace hA:=hA.ext hx;clear hF hx;obtain⟨hA,hF⟩:=fY hA
 go_wp2_with (first|((with_reducible refine gal ?_);refine g0 hA ?_;clear hF hA;intro bH w1 hA hbH hF)|((with_reducible refine gst ?_);refine wTy hA ?_;clear hF hA;intro w1 hA hF))
 (try go_frame);refine cl2 hA ?_;clear hF hA;intro w1 hA hF;(try simp only[uY] at hA hF);go_wp2_with fail;go_ret;exact⟨rfl,hA.toExt⟩
theorem right_any (c:Cm) (w:World) (hf:c.foot.size≤1000) (hp:c.path.size≤1000):Calls Tryz.prog 28 #[c.val] w fun e w'=>e=.returned (.bool (Zar c))∧Ext w w':=by
 obtain⟨kind,num,foot,req,path,mode,n,time⟩:=c;simp only at hf hp;by_cases h0:kind=0
 · subst h0;exact Zob num foot req path mode n time w (rf:=true) (rq:=true) (rp:=true) (m1:=true) (m2:=true) (nz:=true) (ng:=true) rfl rfl rfl
 by_cases h1:kind=1
 · subst h1;exact Zoa num foot req path mode n time w (rp:=true) (m1:=true) (m2:=true) rfl hf rfl rfl rfl rfl rfl rfl
 by_cases h2:kind=2
 · subst h2;exact Zn9 num foot req path mode n time w (rp:=true) (m1:=true) (m2:=true) (nz:=true) (ng:=true) rfl hf rfl rfl rfl rfl
 by_cases h3:kind=3
 · subst h3;exact Zn8 num foot req path mode n time w (rp:=true) (m1:=true) (m2:=true) (nz:=true) (ng:=true) rfl hf rfl rfl rfl rfl
 by_cases h4:kind=4
 · subst h4;exact Zn7 num foot req path mode n time w (nz:=true) (ng:=true) rfl hf rfl rfl hp rfl rfl rfl rfl rfl
 by_cases h5:kind=5
 · subst h5;exact Zn6 num foot req path mode n time w (nz:=true) (ng:=true) rfl hf rfl rfl hp rfl rfl rfl rfl rfl
 by_cases h6:kind=6
 · subst h6;exact Zn5 num foot req path mode n time w (m1:=true) (m2:=true) (nz:=true) (ng:=true) rfl hf rfl rfl hp rfl rfl rfl
 by_cases h7:kind=7
 · subst h7;exact Zn4 num foot req path mode n time w (m1:=true) (m2:=true) rfl hf rfl rfl hp rfl rfl rfl rfl rfl
 by_cases h8:kind=8
 · subst h8;exact Zn3 num foot req path mode n time w (rq:=true) (rp:=true) (m1:=true) (m2:=true) (nz:=true) (ng:=true) rfl hf rfl rfl rfl
 have hk:hasOf kind=none:=by unfold hasOf;simp[h0,h1,h2,h3,h4,h5,h6,h7,h8]
 have e:Zar ⟨kind,num,foot,req,path,mode,n,time⟩=false:=by unfold Zar;simp only[hk]
 rw[e];exact Zix ⟨kind,num,foot,req,path,mode,n,time⟩ hk w
end Cmd
end
section
namespace Gr
open Go.RowKit
open Go.Maps (Keyed)
open Attr (A8 Zaz)
abbrev I2:=Int × Int
def idV (x:I2):Value:=.agg #[.int .i64 x.1,.int .i64 x.2]
def ent (e:I2 × A8):Value × Value:=(idV e.1,e.2.val)
def ents (l:List (I2 × A8)):List (Value × Value):=l.map ent
abbrev headC (p m:Nat):Part:=Part.cells p [.map (some m)] 81
abbrev mapC (m:Nat) (es:List (Value × Value)):Part:=Part.map Tryz.prog 33 m es
def GrP (p m:Nat) (es:List (I2 × A8)):Part:=Part.all [headC p m,mapC m (ents es)]
theorem eqv0 (p m:Nat) (es:List (I2 × A8)) (F:List Part):Eqv (GrP p m es::F) (headC p m::mapC m (ents es)::F):=Eqv.all [headC p m,mapC m (ents es)] F
theorem begin0 {w:World} {p m:Nat} {es:List (I2 × A8)} (h:Sep [GrP p m es] w):At [GrP p m es] w [headC p m,mapC m (ents es)] w:=(At.start h).to (eqv0 p m es [])
theorem fold0 {L0 L F G:List Part} {w0 w:World} {p m:Nat} {es:List (I2 × A8)} (h:At L0 w0 L w) (s1:Sel (headC p m) L F) (s2:Sel (mapC m (ents es)) F G):At L0 w0 (GrP p m es::G) w:=
 (h.perm (s1.perm.trans (s2.perm.cons _))).to (eqv0 p m es G).symm
theorem close0 {L0 L F G:List Part} {w0 w:World} {p m:Nat} {es:List (I2 × A8)} (h:At L0 w0 L w) (s1:Sel (headC p m) L F) (s2:Sel (mapC m (ents es)) F G):At L0 w0 [GrP p m es] w:=(fold0 h s1 s2).only1 .here
theorem laidOut:laidOutB Tryz.prog=true:=by kernel_rfl
theorem wideI:(match Tryz.prog.underlying 33 with|some (.array _ _)|some (.struct _)=>true|_=>false)=true:=by kernel_rfl
theorem rowI:(33:TypeId) < Tryz.prog.types.size:=of_decide_eq_true (by kernel_rfl)
theorem lawI:Keyed Tryz.prog 33:=Keyed.of_law (deep_law_laid laidOut (m:=2) (by omega) rowI (by kernel_rfl) wideI)
theorem ZmD:Tryz.prog.keyType 33=true:=by kernel_rfl
theorem ZnN:Tryz.prog.cellsOf 33=2:=by kernel_rfl
theorem Znd:Tryz.prog.cellsOf 3=1:=by kernel_rfl
theorem ZoA (c0 c1:Value):(Value.agg #[c0,c1]).formed Tryz.prog 33=true:=by simp[Value.formed,Tryz.underlying33,ZnN]
def okI (n:Int):Prop:= -9223372036854775808≤n∧n≤9223372036854775807
def okD (x:I2):Prop:=okI x.1∧okI x.2
theorem keyI {x:I2} (h:okD x):∃l,keyOf Tryz.prog 33 (idV x)=some l:=by
 have hw:∀n,okI n→(Lit.int .i64 n).wf=true:=fun n hn=>by unfold okI at hn;simp[Lit.wf,IntKind.min,IntKind.max,IntKind.signed,IntKind.bits];omega
 obtain⟨d,hd⟩:∃d,Tryz.prog.types.size=d + 1:=Nat.exists_eq_succ_of_ne_zero (Nat.ne_of_gt (Nat.lt_of_le_of_lt (Nat.zero_le _) rowI))
 have hl:Tryz.prog.keyLits (Tryz.prog.types.size + 1) 33 [.int .i64 x.1,.int .i64 x.2]=some [.int .i64 x.1,.int .i64 x.2]:=by
  rw[hd];simp[Program.keyLits,Tryz.underlying33,Tryz.underlying3,ZnN,Znd,hw _ h.1,hw _ h.2]
 exact⟨.string (keyBytes [.int .i64 x.1,.int .i64 x.2]),by
  unfold keyOf;rw[Tryz.underlying33];simp only[ZmD,idV,ZoA,Bool.and_self,if_true];rw[show(Value.agg #[.int .i64 x.1,.int .i64 x.2]).cells.toList=[.int .i64 x.1,.int .i64 x.2] from rfl,hl]
  rfl⟩
def getA (es:List (I2 × A8)) (x:I2):Option A8:=(es.find? (fun e=>decide (e.1=x))).map (·.2)
theorem Zdu {es:List (I2 × A8)} {x:I2} (h:getA es x=none):∀q ∈ ents es,q.1≠idV x:=by
 intro q hq e;obtain⟨y,hy,rfl⟩:=List.mem_map.1 hq;have h1:es.find? (fun e=>decide (e.1=x))=none:=by simpa [getA] using h
 have h2:=List.find?_eq_none.1 h1 y hy;obtain⟨⟨a,b⟩,v⟩:=y;obtain⟨c,d⟩:=x;simp[ent,idV] at e;simp[e] at h2
theorem ZbM {es:List (I2 × A8)} {x:I2} {a:A8} (h:getA es x=some a):(x,a) ∈ es:=by
 unfold getA at h;obtain⟨y,hy,e⟩:=Option.map_eq_some_iff.1 h;have h1:=List.find?_some hy;have h2:=List.mem_of_find?_eq_some hy;obtain⟨z,v⟩:=y;simp only[decide_eq_true_eq] at h1;simp only at e;subst h1 e;exact h2
theorem Zgi {es:List (I2 × A8)} {x:I2} {a:A8} (h:getA es x=some a):(idV x,a.val) ∈ ents es:=List.mem_map.2 ⟨(x,a),ZbM h,rfl⟩
theorem ZcY {es:List (I2 × A8)} {x:I2}:getA es x=none↔x ∉ es.map (·.1):=by
 unfold getA;rw[Option.map_eq_none_iff,List.find?_eq_none];constructor
 · intro h hx;obtain⟨e,he,rfl⟩:=List.mem_map.1 hx;exact h e he (by simp)
 intro h e he q;exact h (List.mem_map.2 ⟨e,he,of_decide_eq_true q⟩)
def Uq (es:List (I2 × A8)):Prop:=(es.map (·.1)).Nodup
theorem Zbn:∀{es:List (I2 × A8)},Uq es→∀{x:I2} {a:A8},(x,a) ∈ es→getA es x=some a
 |(y,b)::es,h,x,a,hm=>by
  have h':y ∉ es.map (·.1)∧Uq es:=by simpa [Uq] using h
  unfold getA;rw[List.find?_cons];rcases List.mem_cons.1 hm with e|hm
  · cases e;simp
  have:y≠x:=fun e=>h'.1 (List.mem_map.2 ⟨(x,a),hm,e.symm⟩)
  simp only[decide_eq_false this];exact Zbn h'.2 hm
def addG (es:List (I2 × A8)) (x:I2) (a:A8):List (I2 × A8) × Int:=
 if Attr.ownsB a x.1 x.2 then(match getA es x with
  |some b=>if Attr.eqA b a then(es,0) else(es,15)
  |none=>(es++[(x,a)],0))
 else(es,10)
structure F7 where
 f0:Int
 f1:Int
 f2:Int
 f3:Int
 f4:Int
 f5:Int
 f6:Int
deriving DecidableEq
def F7.cells (f:F7):List Value:=[.int .i64 f.f0,.int .i64 f.f1,.int .i64 f.f2,.int .i64 f.f3,.int .i64 f.f4,.int .i64 f.f5,.int .i64 f.f6]
def F7.val (f:F7):Value:=.agg #[.int .i64 f.f0,.int .i64 f.f1,.int .i64 f.f2,.int .i64 f.f3,.int .i64 f.f4,.int .i64 f.f5,.int .i64 f.f6]
def F7.at (f:F7) (q:Nat):Int:=match q with
 |0=>f.f0
 |1=>f.f1
 |2=>f.f2
 |3=>f.f3
 |4=>f.f4
 |5=>f.f5
 |_=>f.f6
def F7.set (f:F7) (q:Nat) (v:Int):F7:=match q with
 |0=>{f with f0:=v}
 |1=>{f with f1:=v}
 |2=>{f with f2:=v}
 |3=>{f with f3:=v}
 |4=>{f with f4:=v}
 |5=>{f with f5:=v}
 |_=>{f with f6:=v}
def behind (f:F7) (x:I2):Bool:=Zaz x.1 x.2&&decide (x.2 < f.at x.1.toNat)
def ZcO (f:F7) (a:A8) (m:Nat):List I2:=((List.range m).filter fun(q:Nat)=>decide (f.at q < a.dep q)).map fun(q:Nat)=>((q:Int),a.dep q - 1)
def leads (f:F7) (a:A8):List I2:=ZcO f a 7
def ZaA (es:List (I2 × A8)) (f:F7) (x:I2):List I2:=match getA es x with
 |some a=>leads f a
 |none=>[]
theorem ZhZ (f:F7) (a:A8) (m:Nat):ZcO f a (m + 1)=ZcO f a m++(if f.at m < a.dep m then[((m:Int),a.dep m - 1)] else[]):=by
 unfold ZcO;rw[List.range_succ,List.filter_append,List.map_append];by_cases h:f.at m < a.dep m
 · simp[h]
 simp[h]
theorem Zft (f:F7) (a:A8) (m:Nat):(ZcO f a m).length≤m:=by
 unfold ZcO;rw[List.length_map];exact Nat.le_trans (List.length_filter_le _ _) (by simp)
theorem Zg3 (f:F7) (a:A8):(leads f a).length≤7:=Zft f a 7
theorem ZdO (es:List (I2 × A8)) (f:F7) (x:I2):(ZaA es f x).length≤7:=by
 unfold ZaA;split
 · exact Zg3 _ _
 simp
def idL (x:I2):List Value:=[.int .i64 x.1,.int .i64 x.2]
theorem idL_len (x:I2):(idL x).length=2:=rfl
theorem idL_one (x:I2):∀v ∈ idL x,v.oneCell'=true:=by
 intro u hu;simp only[idL,List.mem_cons,List.not_mem_nil,or_false] at hu;rcases hu with rfl|rfl<;>rfl
def flatI (l:List I2):List Value:=l.flatMap idL
theorem ZeU (l:List I2):(flatI l).length=l.length * 2:=Zbl _ _ idL_len _
theorem Zdw (l:List I2):∀u ∈ flatI l,u.oneCell'=true:=by
 intro u hu;obtain⟨x,_,hx⟩:=List.mem_flatMap.1 hu;exact idL_one x u hx
theorem ZjE (l:List I2) (x:I2):flatI l++idL x=flatI (l++[x]):=by simp[flatI]
abbrev rowI2 (v:Value) (l:List I2):Part:=Part.row 33 2 v l.length (flatI l)
theorem ZdK (v:Value) (l:List I2) (x:I2):Part.row 33 2 v (l.length + 1) (flatI l++idL x)=rowI2 v (l++[x]):=by
 rw[ZjE];unfold rowI2;rw[List.length_append];rfl
theorem infoI:(Tryz.prog.info? 33).map (fun i=>(i.zero,i.size,i.bytes))=some (some (.agg #[.int .i64 0,.int .i64 0]),2,16):=by kernel_rfl
end Gr
namespace Ref
abbrev IA:=_root_.Go.Proofs.YtbeckijoabapkaaGreatDoor.Gr.I2 × _root_.Go.Proofs.YtbeckijoabapkaaGreatDoor.Attr.A8
end Ref
end
section
namespace Gr
open Go.RowKit
open Path (bl Zag overB)
open Attr (A8 Zaz thro ownsB eqA ZaY Zdk eq7g ZbE Zc0)
open Cmd (Cm Zar neqCm ZcX same_ba ZgJ)
attribute [-go_sem] run_eql_struct run_neq_struct run_eqGuard_agg
theorem Zkh (b:Int) (h0:0≤b) (h1:b < 4294967296) (w:World):Calls Tryz.prog 43 #[.int .u32 b] w fun e w'=>e=.returned (.int .i64 (b / 8))∧Ext w w':=by
 have hA:At [] w [] w:=At.start (L0:=[]) trivial;obtain⟨hA,hF⟩:=fY hA;go_enter Tryz.func43,Tryz.ntmps43;go_wp2_with fail;go_ret;exact⟨rfl,hA.toExt⟩
def low3 (b:Int):Int:=wrap64 (bits .and .u32 b 7)
theorem ZhP (b:Int) (w:World):Calls Tryz.prog 44 #[.int .u32 b] w fun e w'=>e=.returned (.int .i64 (low3 b))∧Ext w w':=by
 have hA:At [] w [] w:=At.start (L0:=[]) trivial;obtain⟨hA,hF⟩:=fY hA;go_enter Tryz.func44,Tryz.ntmps44;go_wp2_with fail;go_ret;exact⟨rfl,hA.toExt⟩
def balR (b:Int):Bool:=decide (b=0) || (decide (0 < b / 8)&&decide (b / 8 < 16777216)&&decide (low3 b≤6))
theorem Zd1 (b:Int) (h0:0≤b) (h1:b < 4294967296) (w:World):Calls Tryz.prog 27 #[.int .u32 b] w fun e w'=>e=.returned (.bool (balR b))∧Ext w w':=by
 have hA:At [] w [] w:=At.start (L0:=[]) trivial;have hF:=hA.facts;have hro:=fun w=>Zkh b h0 h1 w;have hre:=fun w=>ZhP b w;unfold balR;generalize b / 8=d at *
 generalize low3 b=r at *
 clear h0 h1
 obtain⟨p0,h0⟩:∃x,decide (b=0)=x:=⟨_,rfl⟩
 obtain⟨p1,h1⟩:∃x,decide (0 < d)=x:=⟨_,rfl⟩
 obtain⟨p2,h2⟩:∃x,decide (d < 16777216)=x:=⟨_,rfl⟩
 obtain⟨p3,h3⟩:∃x,decide (r≤6)=x:=⟨_,rfl⟩
 have hb:(b==0)=p0:=by rw[←h0];rfl
 rw[h0,h1,h2,h3];clear h0;obtain⟨hA,hF⟩:=fY hA;go_enter Tryz.func27,Tryz.ntmps27;cases p0
 · go_wp2_with fail;refine(hro _).mono ?_;rintro e w1 ⟨rfl,hx⟩;replace hA:=hA.ext hx;clear hF hx;obtain⟨hA,hF⟩:=fY hA;cases p1
   · go_wp2_with fail;go_ret;exact⟨rfl,hA.toExt⟩
   go_wp2_with fail;refine(hro _).mono ?_;rintro e w1 ⟨rfl,hx⟩;replace hA:=hA.ext hx;clear hF hx;obtain⟨hA,hF⟩:=fY hA;cases p2
   · go_wp2_with fail;go_ret;exact⟨rfl,hA.toExt⟩
   go_wp2_with fail;refine(hre _).mono ?_;rintro e w1 ⟨rfl,hx⟩;replace hA:=hA.ext hx;clear hF hx;obtain⟨hA,hF⟩:=fY hA;go_wp2_with fail;go_ret;exact⟨rfl,hA.toExt⟩
 go_wp2_with fail;go_ret;exact⟨rfl,hA.toExt⟩
end Gr
end
end Go.Proofs.YtbeckijoabapkaaGreatDoor
