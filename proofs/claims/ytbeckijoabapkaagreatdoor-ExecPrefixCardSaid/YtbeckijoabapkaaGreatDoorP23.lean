import Derived.Test.YtbeckijoabapkaaGreatDoorP11
set_option linter.unusedSimpArgs false
set_option linter.unusedVariables false
set_option maxRecDepth 100000
set_option maxHeartbeats 16000000
namespace Go.Proofs.YtbeckijoabapkaaGreatDoor
section
namespace Gr
open Go.RowKit
open Path (bl Zag overB)
open Attr (A8 Zaz thro ownsB eqA ZaY Zdk eq7 eq7g ZbE Zc0 ZkZ)
open Cmd (Cm Zar neqCm ZcX same_ba ZgJ)
attribute [-go_sem] run_eql_struct run_neq_struct run_eqGuard_agg Instr.build
def bareV (r t bal:Int):Value:=.agg #[.int .i64 r,.int .i64 t,.int .i64 0,.int .u32 bal,.int .u32 0,.bool false,.int .i64 0,.int .u64 0,.string ⟨#[]⟩,.int .u64 0,.string ⟨#[]⟩,.int .i64 0,.int .u64 0,.int .i64 0,.int .i64 0,.int .i64 0,.int .i64 0,.int .i64 0,.int .i64 0,.int .i64 0,.int .i64 0,.int .i64 0]
theorem ex_ite {p:Prop} [Decidable p] {x y:Result Bool} {w:World} (h:∃b,x=.ok b w) (h':∃b,y=.ok b w):∃b,(if p then x else y)=.ok b w:=by
 split
 · exact h
 exact h'
theorem ZiW (x:In) (r t bal:Int) (w:World):∃b,(Go.Op.equalIn 10000 53 x.val (bareV r t bal)).run Tryz.prog w=.ok b w:=by
 have h7:∀w,(Go.Op.equalIn 9998 49 (.agg #[.int .i64 x.a.d0,.int .i64 x.a.d1,.int .i64 x.a.d2,.int .i64 x.a.d3,.int .i64 x.a.d4,.int .i64 x.a.d5,.int .i64 x.a.d6]) (.agg #[.int .i64 0,.int .i64 0,.int .i64 0,.int .i64 0,.int .i64 0,.int .i64 0,.int .i64 0])).run Tryz.prog w=.ok (eq7 x.a.d0 x.a.d1 x.a.d2 x.a.d3 x.a.d4 x.a.d5 x.a.d6 0 0 0 0 0 0 0) w:=fun w=>eq7g 9996 x.a.d0 x.a.d1 x.a.d2 x.a.d3 x.a.d4 x.a.d5 x.a.d6 0 0 0 0 0 0 0 w;unfold In.val bareV;have he:∀(xs ys:Array Value) w,(Go.Op.equalIn 10000 53 (.agg xs) (.agg ys)).run Tryz.prog w=(Go.Op.eqFields 9999 xs ys (Tryz.prog.fieldsOf 53).toList).run Tryz.prog w:=fun xs ys w=>run_equalIn_agg w 9999 53 xs ys (by kernel_rfl) (by kernel_rfl);rw[he];simp[go_sem,Go.Op.eqFields,h7, -Bool.exists_bool];repeat' (first|exact⟨_,rfl⟩|refine ex_ite ?_ ?_)
theorem Zov (op:BinOp) (x y:Operand) (xs ys:Array Value) (w:World):(eqGuard op 53 x y (.agg xs) (.agg ys)).run Tryz.prog w=.ok () w:=run_eqGuard_agg _ _ _ _ _ _ _ (by kernel_rfl)
attribute [local go_sem] Zov
theorem Zlj (x:In) (r t bal:Int):∃b:World→Bool,∀w,(binOp .eql 53 x.val (bareV r t bal)).run Tryz.prog w=.ok (.bool (b w)) w:=by
 exact⟨fun w=>(ZiW x r t bal w).choose,fun w=>Attr.Zdg (ZiW x r t bal w).choose_spec⟩
theorem Zb7 (x:In) (hb0:0≤x.bal) (hb1:x.bal < 4294967296) (hv0:0≤x.vote) (hv1:x.vote < 4294967296) (hf:x.c.foot.size≤1000) (hp:x.c.path.size≤1000) (w:World):
 Calls Tryz.prog 15 #[x.val] w fun e w'=>∃b,e=.returned (.bool b)∧(x.st=3→b=Zdi x)∧Ext w w':=by
 have hA:At [] w [] w:=At.start (L0:=[]) trivial;have hF:=hA.facts;have hid:=fun w=>ZaY x.id.1 x.id.2 w;have hba:=fun w=>Zd1 x.bal hb0 hb1 w;have hvo:=fun w=>Zd1 x.vote hv0 hv1 w;have hcm:=fun w=>Cmd.right_any x.c w hf hp;have how:=fun w=>Zdk x.a x.id.1 x.id.2 w;obtain⟨eqf,hq⟩:=Zlj x x.id.1 x.id.2 x.bal;unfold Zdi;generalize Zaz x.id.1 x.id.2=p1 at *
 generalize balR x.bal=p2 at *
 generalize balR x.vote=p3 at *
 generalize Zar x.c=p5 at *
 generalize ownsB x.a x.id.1 x.id.2=p6 at *
 obtain⟨⟨r,t⟩,st,bal,vote,same,⟨kind,num,foot,req,path,mode,n,time⟩,⟨s,d0,d1,d2,d3,d4,d5,d6⟩⟩:=x;simp only[In.val,Cm.val,A8.val,bareV] at *
 obtain⟨p4,h4⟩:∃z,decide (bal < vote)=z:=⟨_,rfl⟩
 have h4':decide (vote≤bal)= !p4:=by rw[←h4,←decide_not,decide_eq_decide];omega
 rw[h4'];clear hb0 hb1 hv0 hv1 hf hp h4'
 obtain⟨z0,k0⟩:∃z,(st==0)=z:=⟨_,rfl⟩
 obtain⟨z1,k1⟩:∃z,decide (st < 0)=z:=⟨_,rfl⟩
 obtain⟨z2,k2⟩:∃z,decide (3 < st)=z:=⟨_,rfl⟩
 obtain⟨z4,k4⟩:∃z,(st==1)=z:=⟨_,rfl⟩
 obtain⟨z5,k5⟩:∃z,(vote==0)=z:=⟨_,rfl⟩
 obtain⟨hA,hF⟩:=fY hA;go_enter Tryz.func15,Tryz.ntmps15
 go_wp2_with ((with_reducible refine gbx ?_);refine wHy 53 [.int .i64 r,.int .i64 t,.int .i64 st,.int .u32 bal,.int .u32 vote,.bool same,.int .i64 kind,.int .u64 num,.string foot,.int .u64 req,.string path,.int .i64 mode,.int .u64 n,.int .i64 time,.int .i64 s,.int .i64 d0,.int .i64 d1,.int .i64 d2,.int .i64 d3,.int .i64 d4,.int .i64 d5,.int .i64 d6] hA ?_;clear hF hA;intro bX w1 hA hbX hF)
 refine(hid _).mono ?_;rintro e w1 ⟨rfl,hx⟩;replace hA:=hA.ext hx;clear hF hx;obtain⟨hA,hF⟩:=fY hA;cases p1
 · go_wp2_with fail;go_ret;exact⟨_,rfl,fun _=>rfl,hA.toExt⟩
 go_wp2_with fail;refine(hba _).mono ?_;rintro e w1 ⟨rfl,hx⟩;replace hA:=hA.ext hx;clear hF hx;obtain⟨hA,hF⟩:=fY hA;cases p2
 · go_wp2_with fail;go_ret;exact⟨_,rfl,fun _=>rfl,hA.toExt⟩
 go_wp2_with fail;refine(hvo _).mono ?_;rintro e w1 ⟨rfl,hx⟩;replace hA:=hA.ext hx;clear hF hx;obtain⟨hA,hF⟩:=fY hA;cases p3
 · go_wp2_with fail;go_ret;exact⟨_,rfl,fun _=>rfl,hA.toExt⟩
 cases p4
 · by_cases hst:st=3
   · obtain rfl:z0=false:=by rw[←k0,hst];rfl
     obtain rfl:z1=false:=by rw[←k1,hst];rfl
     obtain rfl:z2=false:=by rw[←k2,hst];rfl
     obtain rfl:z4=false:=by rw[←k4,hst];rfl
     cases same
     · go_wp2_with fail;refine(hcm _).mono ?_;rintro e w1 ⟨rfl,hx⟩;replace hA:=hA.ext hx;clear hF hx;obtain⟨hA,hF⟩:=fY hA;cases p5
       · go_wp2_with fail;go_ret;exact⟨_,rfl,fun _=>rfl,hA.toExt⟩
       go_wp2_with fail;refine(how _).mono ?_;rintro e w1 ⟨rfl,hx⟩;replace hA:=hA.ext hx;clear hF hx;obtain⟨hA,hF⟩:=fY hA;cases p6
       · go_wp2_with fail;go_ret;exact⟨_,rfl,fun _=>rfl,hA.toExt⟩
       go_wp2_with fail;go_ret;exact⟨_,rfl,fun _=>rfl,hA.toExt⟩
     go_wp2_with fail;go_ret;exact⟨_,rfl,fun _=>rfl,hA.toExt⟩
   cases z0
   · cases z1
     · cases z2
       · cases same
         · go_wp2_with fail;refine(hcm _).mono ?_;rintro e w1 ⟨rfl,hx⟩;replace hA:=hA.ext hx;clear hF hx;obtain⟨hA,hF⟩:=fY hA;cases p5
           · go_wp2_with fail;go_ret;exact⟨_,rfl,fun h=>absurd h hst,hA.toExt⟩
           go_wp2_with fail;refine(how _).mono ?_;rintro e w1 ⟨rfl,hx⟩;replace hA:=hA.ext hx;clear hF hx;obtain⟨hA,hF⟩:=fY hA;cases p6
           · go_wp2_with fail;go_ret;exact⟨_,rfl,fun h=>absurd h hst,hA.toExt⟩
           go_wp2_with fail;go_ret;exact⟨_,rfl,fun h=>absurd h hst,hA.toExt⟩
         cases z4
         · have k4b:(st != 1)=true:=by simp[bne,k4]
           go_wp2_with fail;go_ret;exact⟨_,rfl,fun h=>absurd h hst,hA.toExt⟩
         have k4b:(st != 1)=false:=by simp[bne,k4]
         cases z5
         · have k5b:(vote != 0)=true:=by simp[bne,k5]
           go_wp2_with fail;go_ret;exact⟨_,rfl,fun h=>absurd h hst,hA.toExt⟩
         have k5b:(vote != 0)=false:=by simp[bne,k5]
         go_wp2_with fail;refine(hcm _).mono ?_;rintro e w1 ⟨rfl,hx⟩;replace hA:=hA.ext hx;clear hF hx;obtain⟨hA,hF⟩:=fY hA;cases p5
         · go_wp2_with fail;go_ret;exact⟨_,rfl,fun h=>absurd h hst,hA.toExt⟩
         go_wp2_with fail;refine(how _).mono ?_;rintro e w1 ⟨rfl,hx⟩;replace hA:=hA.ext hx;clear hF hx;obtain⟨hA,hF⟩:=fY hA;cases p6
         · go_wp2_with fail;go_ret;exact⟨_,rfl,fun h=>absurd h hst,hA.toExt⟩
         go_wp2_with fail;go_ret;exact⟨_,rfl,fun h=>absurd h hst,hA.toExt⟩
       go_wp2_with fail;go_ret;exact⟨_,rfl,fun h=>absurd h hst,hA.toExt⟩
     go_wp2_with fail;go_ret;exact⟨_,rfl,fun h=>absurd h hst,hA.toExt⟩
   have hbl:=fun w=>run_build w _ #[(0,.agg #[.int .i64 r,.int .i64 t]),(2,.int .u32 bal)] _ (ZoF r t bal)
   go_wp2_with ((with_reducible show wpList _ _ _ ({dst:=some 31,op:=Op.load _ _,type:=_,pos:=_,after:=_,guard:=_}::_) _ _);refine Zad (vs:=[.int .i64 r,.int .i64 t,.int .i64 st,.int .u32 bal,.int .u32 vote,.bool same,.int .i64 kind,.int .u64 num,.string foot,.int .u64 req,.string path,.int .i64 mode,.int .u64 n,.int .i64 time,.int .i64 s,.int .i64 d0,.int .i64 d1,.int .i64 d2,.int .i64 d3,.int .i64 d4,.int .i64 d5,.int .i64 d6]) rfl rfl (by(try simp only[Act.eval,eV])<;>exact rfl) (ZbF (hA.get (A:=Part.cells bX [.int .i64 r,.int .i64 t,.int .i64 st,.int .u32 bal,.int .u32 vote,.bool same,.int .i64 kind,.int .u64 num,.string foot,.int .u64 req,.string path,.int .i64 mode,.int .u64 n,.int .i64 time,.int .i64 s,.int .i64 d0,.int .i64 d1,.int .i64 d2,.int .i64 d3,.int .i64 d4,.int .i64 d5,.int .i64 d6] 53) sZ)) (by kernel_rfl) (by kernel_rfl) ?_)
   go_ret;exact⟨_,rfl,fun h=>absurd h hst,hA.toExt⟩
 go_wp2_with fail;go_ret;exact⟨_,rfl,fun _=>rfl,hA.toExt⟩
end Gr
end
section
namespace Gr
open Go.RowKit
open _root_.Go.Proofs.YtbeckijoabapkaaGreatDoor.Attr (A8 Zaz Zas ZaY thro)
def covB (a:A8) (x:I2):Bool:=Zaz x.1 x.2&&decide (x.2 < a.dep x.1.toNat)
theorem ZfK (a:A8) (x:I2) (w:World):Calls Tryz.prog 18 #[a.val,idV x] w fun e w'=>e=.returned (.bool (covB a x))∧Ext w w':=by
 have hA:At [] w [] w:=At.start (L0:=[]) trivial;have hF:=hA.facts;obtain⟨r,t⟩:=x;have hri:=fun w=>ZaY r t w;unfold covB;obtain⟨s,d0,d1,d2,d3,d4,d5,d6⟩:=a
 cases h:Zaz r t with
 |false=>
  rw[h] at hri;clear h;simp only[A8.val,idV,Bool.false_and] at *
  obtain⟨hA,hF⟩:=fZ hA;go_enter Tryz.func18,Tryz.ntmps18
  go_wp2_with (first|((with_reducible refine gbx ?_);refine wHz 51 [.int .i64 s,.int .i64 d0,.int .i64 d1,.int .i64 d2,.int .i64 d3,.int .i64 d4,.int .i64 d5,.int .i64 d6] hA ?_;clear hF hA;intro bA w1 hA hbA hF)|((with_reducible refine gbx ?_);refine wHz 33 [.int .i64 r,.int .i64 t] hA ?_;clear hF hA;intro bI w1 hA hbI hF))
  (try go_frame);refine cl1 hA ?_;clear hF hA;intro w1 hA hF;(try simp only[uZ] at hA hF);go_wp2_with fail;go_ret;exact⟨rfl,hA.toExt⟩
 |true=>
  rw[h] at hri;simp only[Bool.true_and];rcases(show r=0∨r=1∨r=2∨r=3∨r=4∨r=5∨r=6 by have:=Zas.1 h;omega) with rfl|rfl|rfl|rfl|rfl|rfl|rfl
  · show Calls _ _ _ _ fun e w'=>e=.returned (.bool (decide (t < d0)))∧_;clear h;simp only[A8.val,idV] at *
    generalize hbb:decide (t < d0)=bb at *
    obtain⟨hA,hF⟩:=fZ hA;go_enter Tryz.func18,Tryz.ntmps18
    go_wp2_with (first|((with_reducible refine gbx ?_);refine wHz 51 [.int .i64 s,.int .i64 d0,.int .i64 d1,.int .i64 d2,.int .i64 d3,.int .i64 d4,.int .i64 d5,.int .i64 d6] hA ?_;clear hF hA;intro bA w1 hA hbA hF)|((with_reducible refine gbx ?_);refine wHz 33 [.int .i64 0,.int .i64 t] hA ?_;clear hF hA;intro bI w1 hA hbI hF))
    (try go_frame);refine cl1 hA ?_;clear hF hA;intro w1 hA hF;(try simp only[uZ] at hA hF);go_wp2_with fail;go_ret;exact⟨rfl,hA.toExt⟩
  · show Calls _ _ _ _ fun e w'=>e=.returned (.bool (decide (t < d1)))∧_;clear h;simp only[A8.val,idV] at *
    generalize hbb:decide (t < d1)=bb at *
    obtain⟨hA,hF⟩:=fZ hA;go_enter Tryz.func18,Tryz.ntmps18
    go_wp2_with (first|((with_reducible refine gbx ?_);refine wHz 51 [.int .i64 s,.int .i64 d0,.int .i64 d1,.int .i64 d2,.int .i64 d3,.int .i64 d4,.int .i64 d5,.int .i64 d6] hA ?_;clear hF hA;intro bA w1 hA hbA hF)|((with_reducible refine gbx ?_);refine wHz 33 [.int .i64 1,.int .i64 t] hA ?_;clear hF hA;intro bI w1 hA hbI hF))
    (try go_frame);refine cl1 hA ?_;clear hF hA;intro w1 hA hF;(try simp only[uZ] at hA hF);go_wp2_with fail;go_ret;exact⟨rfl,hA.toExt⟩
  · show Calls _ _ _ _ fun e w'=>e=.returned (.bool (decide (t < d2)))∧_;clear h;simp only[A8.val,idV] at *
    generalize hbb:decide (t < d2)=bb at *
    obtain⟨hA,hF⟩:=fZ hA;go_enter Tryz.func18,Tryz.ntmps18
    go_wp2_with (first|((with_reducible refine gbx ?_);refine wHz 51 [.int .i64 s,.int .i64 d0,.int .i64 d1,.int .i64 d2,.int .i64 d3,.int .i64 d4,.int .i64 d5,.int .i64 d6] hA ?_;clear hF hA;intro bA w1 hA hbA hF)|((with_reducible refine gbx ?_);refine wHz 33 [.int .i64 2,.int .i64 t] hA ?_;clear hF hA;intro bI w1 hA hbI hF))
    (try go_frame);refine cl1 hA ?_;clear hF hA;intro w1 hA hF;(try simp only[uZ] at hA hF);go_wp2_with fail;go_ret;exact⟨rfl,hA.toExt⟩
  · show Calls _ _ _ _ fun e w'=>e=.returned (.bool (decide (t < d3)))∧_;clear h;simp only[A8.val,idV] at *
    generalize hbb:decide (t < d3)=bb at *
    obtain⟨hA,hF⟩:=fZ hA;go_enter Tryz.func18,Tryz.ntmps18
    go_wp2_with (first|((with_reducible refine gbx ?_);refine wHz 51 [.int .i64 s,.int .i64 d0,.int .i64 d1,.int .i64 d2,.int .i64 d3,.int .i64 d4,.int .i64 d5,.int .i64 d6] hA ?_;clear hF hA;intro bA w1 hA hbA hF)|((with_reducible refine gbx ?_);refine wHz 33 [.int .i64 3,.int .i64 t] hA ?_;clear hF hA;intro bI w1 hA hbI hF))
    (try go_frame);refine cl1 hA ?_;clear hF hA;intro w1 hA hF;(try simp only[uZ] at hA hF);go_wp2_with fail;go_ret;exact⟨rfl,hA.toExt⟩
  · show Calls _ _ _ _ fun e w'=>e=.returned (.bool (decide (t < d4)))∧_;clear h;simp only[A8.val,idV] at *
    generalize hbb:decide (t < d4)=bb at *
    obtain⟨hA,hF⟩:=fZ hA;go_enter Tryz.func18,Tryz.ntmps18
    go_wp2_with (first|((with_reducible refine gbx ?_);refine wHz 51 [.int .i64 s,.int .i64 d0,.int .i64 d1,.int .i64 d2,.int .i64 d3,.int .i64 d4,.int .i64 d5,.int .i64 d6] hA ?_;clear hF hA;intro bA w1 hA hbA hF)|((with_reducible refine gbx ?_);refine wHz 33 [.int .i64 4,.int .i64 t] hA ?_;clear hF hA;intro bI w1 hA hbI hF))
    (try go_frame);refine cl1 hA ?_;clear hF hA;intro w1 hA hF;(try simp only[uZ] at hA hF);go_wp2_with fail;go_ret;exact⟨rfl,hA.toExt⟩
  · show Calls _ _ _ _ fun e w'=>e=.returned (.bool (decide (t < d5)))∧_;clear h;simp only[A8.val,idV] at *
    generalize hbb:decide (t < d5)=bb at *
    obtain⟨hA,hF⟩:=fZ hA;go_enter Tryz.func18,Tryz.ntmps18
    go_wp2_with (first|((with_reducible refine gbx ?_);refine wHz 51 [.int .i64 s,.int .i64 d0,.int .i64 d1,.int .i64 d2,.int .i64 d3,.int .i64 d4,.int .i64 d5,.int .i64 d6] hA ?_;clear hF hA;intro bA w1 hA hbA hF)|((with_reducible refine gbx ?_);refine wHz 33 [.int .i64 5,.int .i64 t] hA ?_;clear hF hA;intro bI w1 hA hbI hF))
    (try go_frame);refine cl1 hA ?_;clear hF hA;intro w1 hA hF;(try simp only[uZ] at hA hF);go_wp2_with fail;go_ret;exact⟨rfl,hA.toExt⟩
  show Calls _ _ _ _ fun e w'=>e=.returned (.bool (decide (t < d6)))∧_;clear h;simp only[A8.val,idV] at *
  generalize hbb:decide (t < d6)=bb at *
  obtain⟨hA,hF⟩:=fZ hA;go_enter Tryz.func18,Tryz.ntmps18
  go_wp2_with (first|((with_reducible refine gbx ?_);refine wHz 51 [.int .i64 s,.int .i64 d0,.int .i64 d1,.int .i64 d2,.int .i64 d3,.int .i64 d4,.int .i64 d5,.int .i64 d6] hA ?_;clear hF hA;intro bA w1 hA hbA hF)|((with_reducible refine gbx ?_);refine wHz 33 [.int .i64 6,.int .i64 t] hA ?_;clear hF hA;intro bI w1 hA hbI hF))
  (try go_frame);refine cl1 hA ?_;clear hF hA;intro w1 hA hF;(try simp only[uZ] at hA hF);go_wp2_with fail;go_ret;exact⟨rfl,hA.toExt⟩
end Gr
end
section
namespace Cmd
open Go.RowKit
open Path (bl Zag overB)
attribute [-go_sem] run_eql_struct run_neq_struct run_eqGuard_agg
theorem foot_0 (num:Int) (foot:ByteArray) (req:Int) (path:ByteArray) (mode n time:Int) (w:World) {rc:Bool} (hrc:∀w,Calls Tryz.prog 28 #[.agg #[.int .i64 0,.int .u64 num,.string foot,.int .u64 req,.string path,.int .i64 mode,.int .u64 n,.int .i64 time]] w fun e w'=>e=.returned (.bool rc)∧Ext w w'):
 Calls Tryz.prog 51 #[.agg #[.int .i64 0,.int .u64 num,.string foot,.int .u64 req,.string path,.int .i64 mode,.int .u64 n,.int .i64 time]] w fun e w'=>e=.returned (.tuple #[.string (if rc then foot else .empty),.bool (rc&&false)])∧Ext w w':=by
 have hA:At [] w [] w:=At.start (L0:=[]) trivial;obtain⟨hA,hF⟩:=fY hA;go_enter Tryz.func51,Tryz.ntmps51
 go_wp2_with ((with_reducible refine gbx ?_);refine wCy (E:=37) hA ?_;clear hF hA;intro bX w1 hA hbX hF)
 refine(had_0 _).mono ?_;rintro e w1 ⟨rfl,hx⟩;replace hA:=hA.ext hx;clear hF hx;obtain⟨hA,hF⟩:=fY hA
 go_wp2_with (first|((with_reducible refine gal ?_);refine g0 hA ?_;clear hF hA;intro bH w1 hA hbH hF)|((with_reducible refine gst ?_);refine wTy hA ?_;clear hF hA;intro w1 hA hF))
 refine(hrc _).mono ?_;rintro e w1 ⟨rfl,hx⟩;replace hA:=hA.ext hx;clear hF hx;obtain⟨hA,hF⟩:=fY hA;cases rc
 · go_wp2_with fail;refine bodyPost_ret (v:=.tuple #[.string ⟨#[]⟩,.bool false]) (by simp[results,Tryz.results51,go_sem,hF]) rfl ⟨rfl,hA.toExt⟩
 go_wp2_with fail;(try go_frame);refine cl0 hA ?_;clear hF hA;intro w1 hA hF;(try simp only[uY] at hA hF);go_wp2_with fail;refine bodyPost_ret (v:=.tuple #[.string foot,.bool false]) (by simp[results,Tryz.results51,go_sem,hF]) rfl ⟨rfl,hA.toExt⟩
theorem foot_1 (num:Int) (foot:ByteArray) (req:Int) (path:ByteArray) (mode n time:Int) (w:World) {rc:Bool} (hrc:∀w,Calls Tryz.prog 28 #[.agg #[.int .i64 1,.int .u64 num,.string foot,.int .u64 req,.string path,.int .i64 mode,.int .u64 n,.int .i64 time]] w fun e w'=>e=.returned (.bool rc)∧Ext w w'):
 Calls Tryz.prog 51 #[.agg #[.int .i64 1,.int .u64 num,.string foot,.int .u64 req,.string path,.int .i64 mode,.int .u64 n,.int .i64 time]] w fun e w'=>e=.returned (.tuple #[.string (if rc then foot else .empty),.bool (rc&&true)])∧Ext w w':=by
 have hA:At [] w [] w:=At.start (L0:=[]) trivial;obtain⟨hA,hF⟩:=fY hA;go_enter Tryz.func51,Tryz.ntmps51
 go_wp2_with ((with_reducible refine gbx ?_);refine wCy (E:=37) hA ?_;clear hF hA;intro bX w1 hA hbX hF)
 refine(had_1 _).mono ?_;rintro e w1 ⟨rfl,hx⟩;replace hA:=hA.ext hx;clear hF hx;obtain⟨hA,hF⟩:=fY hA
 go_wp2_with (first|((with_reducible refine gal ?_);refine g0 hA ?_;clear hF hA;intro bH w1 hA hbH hF)|((with_reducible refine gst ?_);refine wTy hA ?_;clear hF hA;intro w1 hA hF))
 refine(hrc _).mono ?_;rintro e w1 ⟨rfl,hx⟩;replace hA:=hA.ext hx;clear hF hx;obtain⟨hA,hF⟩:=fY hA;cases rc
 · go_wp2_with fail;refine bodyPost_ret (v:=.tuple #[.string ⟨#[]⟩,.bool false]) (by simp[results,Tryz.results51,go_sem,hF]) rfl ⟨rfl,hA.toExt⟩
 go_wp2_with fail;(try go_frame);refine cl0 hA ?_;clear hF hA;intro w1 hA hF;(try simp only[uY] at hA hF);go_wp2_with fail;refine bodyPost_ret (v:=.tuple #[.string foot,.bool true]) (by simp[results,Tryz.results51,go_sem,hF]) rfl ⟨rfl,hA.toExt⟩
theorem foot_2 (num:Int) (foot:ByteArray) (req:Int) (path:ByteArray) (mode n time:Int) (w:World) {rc:Bool} (hrc:∀w,Calls Tryz.prog 28 #[.agg #[.int .i64 2,.int .u64 num,.string foot,.int .u64 req,.string path,.int .i64 mode,.int .u64 n,.int .i64 time]] w fun e w'=>e=.returned (.bool rc)∧Ext w w'):
 Calls Tryz.prog 51 #[.agg #[.int .i64 2,.int .u64 num,.string foot,.int .u64 req,.string path,.int .i64 mode,.int .u64 n,.int .i64 time]] w fun e w'=>e=.returned (.tuple #[.string (if rc then foot else .empty),.bool (rc&&true)])∧Ext w w':=by
 have hA:At [] w [] w:=At.start (L0:=[]) trivial;obtain⟨hA,hF⟩:=fY hA;go_enter Tryz.func51,Tryz.ntmps51
 go_wp2_with ((with_reducible refine gbx ?_);refine wCy (E:=37) hA ?_;clear hF hA;intro bX w1 hA hbX hF)
 refine(had_2 _).mono ?_;rintro e w1 ⟨rfl,hx⟩;replace hA:=hA.ext hx;clear hF hx;obtain⟨hA,hF⟩:=fY hA
 go_wp2_with (first|((with_reducible refine gal ?_);refine g0 hA ?_;clear hF hA;intro bH w1 hA hbH hF)|((with_reducible refine gst ?_);refine wTy hA ?_;clear hF hA;intro w1 hA hF))
 refine(hrc _).mono ?_;rintro e w1 ⟨rfl,hx⟩;replace hA:=hA.ext hx;clear hF hx;obtain⟨hA,hF⟩:=fY hA;cases rc
 · go_wp2_with fail;refine bodyPost_ret (v:=.tuple #[.string ⟨#[]⟩,.bool false]) (by simp[results,Tryz.results51,go_sem,hF]) rfl ⟨rfl,hA.toExt⟩
 go_wp2_with fail;(try go_frame);refine cl0 hA ?_;clear hF hA;intro w1 hA hF;(try simp only[uY] at hA hF);go_wp2_with fail;refine bodyPost_ret (v:=.tuple #[.string foot,.bool true]) (by simp[results,Tryz.results51,go_sem,hF]) rfl ⟨rfl,hA.toExt⟩
theorem foot_3 (num:Int) (foot:ByteArray) (req:Int) (path:ByteArray) (mode n time:Int) (w:World) {rc:Bool} (hrc:∀w,Calls Tryz.prog 28 #[.agg #[.int .i64 3,.int .u64 num,.string foot,.int .u64 req,.string path,.int .i64 mode,.int .u64 n,.int .i64 time]] w fun e w'=>e=.returned (.bool rc)∧Ext w w'):
 Calls Tryz.prog 51 #[.agg #[.int .i64 3,.int .u64 num,.string foot,.int .u64 req,.string path,.int .i64 mode,.int .u64 n,.int .i64 time]] w fun e w'=>e=.returned (.tuple #[.string (if rc then foot else .empty),.bool (rc&&true)])∧Ext w w':=by
 have hA:At [] w [] w:=At.start (L0:=[]) trivial;obtain⟨hA,hF⟩:=fY hA;go_enter Tryz.func51,Tryz.ntmps51
 go_wp2_with ((with_reducible refine gbx ?_);refine wCy (E:=37) hA ?_;clear hF hA;intro bX w1 hA hbX hF)
 refine(had_3 _).mono ?_;rintro e w1 ⟨rfl,hx⟩;replace hA:=hA.ext hx;clear hF hx;obtain⟨hA,hF⟩:=fY hA
 go_wp2_with (first|((with_reducible refine gal ?_);refine g0 hA ?_;clear hF hA;intro bH w1 hA hbH hF)|((with_reducible refine gst ?_);refine wTy hA ?_;clear hF hA;intro w1 hA hF))
 refine(hrc _).mono ?_;rintro e w1 ⟨rfl,hx⟩;replace hA:=hA.ext hx;clear hF hx;obtain⟨hA,hF⟩:=fY hA;cases rc
 · go_wp2_with fail;refine bodyPost_ret (v:=.tuple #[.string ⟨#[]⟩,.bool false]) (by simp[results,Tryz.results51,go_sem,hF]) rfl ⟨rfl,hA.toExt⟩
 go_wp2_with fail;(try go_frame);refine cl0 hA ?_;clear hF hA;intro w1 hA hF;(try simp only[uY] at hA hF);go_wp2_with fail;refine bodyPost_ret (v:=.tuple #[.string foot,.bool true]) (by simp[results,Tryz.results51,go_sem,hF]) rfl ⟨rfl,hA.toExt⟩
theorem foot_4 (num:Int) (foot:ByteArray) (req:Int) (path:ByteArray) (mode n time:Int) (w:World) {rc:Bool} (hrc:∀w,Calls Tryz.prog 28 #[.agg #[.int .i64 4,.int .u64 num,.string foot,.int .u64 req,.string path,.int .i64 mode,.int .u64 n,.int .i64 time]] w fun e w'=>e=.returned (.bool rc)∧Ext w w'):
 Calls Tryz.prog 51 #[.agg #[.int .i64 4,.int .u64 num,.string foot,.int .u64 req,.string path,.int .i64 mode,.int .u64 n,.int .i64 time]] w fun e w'=>e=.returned (.tuple #[.string (if rc then path else .empty),.bool (rc&&true)])∧Ext w w':=by
 have hA:At [] w [] w:=At.start (L0:=[]) trivial;obtain⟨hA,hF⟩:=fY hA;go_enter Tryz.func51,Tryz.ntmps51
 go_wp2_with ((with_reducible refine gbx ?_);refine wCy (E:=37) hA ?_;clear hF hA;intro bX w1 hA hbX hF)
 refine(had_4 _).mono ?_;rintro e w1 ⟨rfl,hx⟩;replace hA:=hA.ext hx;clear hF hx;obtain⟨hA,hF⟩:=fY hA
 go_wp2_with (first|((with_reducible refine gal ?_);refine g0 hA ?_;clear hF hA;intro bH w1 hA hbH hF)|((with_reducible refine gst ?_);refine wTy hA ?_;clear hF hA;intro w1 hA hF))
 refine(hrc _).mono ?_;rintro e w1 ⟨rfl,hx⟩;replace hA:=hA.ext hx;clear hF hx;obtain⟨hA,hF⟩:=fY hA;cases rc
 · go_wp2_with fail;refine bodyPost_ret (v:=.tuple #[.string ⟨#[]⟩,.bool false]) (by simp[results,Tryz.results51,go_sem,hF]) rfl ⟨rfl,hA.toExt⟩
 go_wp2_with fail;refine bodyPost_ret (v:=.tuple #[.string path,.bool true]) (by simp[results,Tryz.results51,go_sem,hF]) rfl ⟨rfl,hA.toExt⟩
theorem foot_5 (num:Int) (foot:ByteArray) (req:Int) (path:ByteArray) (mode n time:Int) (w:World) {rc:Bool} (hrc:∀w,Calls Tryz.prog 28 #[.agg #[.int .i64 5,.int .u64 num,.string foot,.int .u64 req,.string path,.int .i64 mode,.int .u64 n,.int .i64 time]] w fun e w'=>e=.returned (.bool rc)∧Ext w w'):
 Calls Tryz.prog 51 #[.agg #[.int .i64 5,.int .u64 num,.string foot,.int .u64 req,.string path,.int .i64 mode,.int .u64 n,.int .i64 time]] w fun e w'=>e=.returned (.tuple #[.string (if rc then path else .empty),.bool (rc&&true)])∧Ext w w':=by
 have hA:At [] w [] w:=At.start (L0:=[]) trivial;obtain⟨hA,hF⟩:=fY hA;go_enter Tryz.func51,Tryz.ntmps51
 go_wp2_with ((with_reducible refine gbx ?_);refine wCy (E:=37) hA ?_;clear hF hA;intro bX w1 hA hbX hF)
 refine(had_5 _).mono ?_;rintro e w1 ⟨rfl,hx⟩;replace hA:=hA.ext hx;clear hF hx;obtain⟨hA,hF⟩:=fY hA
 go_wp2_with (first|((with_reducible refine gal ?_);refine g0 hA ?_;clear hF hA;intro bH w1 hA hbH hF)|((with_reducible refine gst ?_);refine wTy hA ?_;clear hF hA;intro w1 hA hF))
 refine(hrc _).mono ?_;rintro e w1 ⟨rfl,hx⟩;replace hA:=hA.ext hx;clear hF hx;obtain⟨hA,hF⟩:=fY hA;cases rc
 · go_wp2_with fail;refine bodyPost_ret (v:=.tuple #[.string ⟨#[]⟩,.bool false]) (by simp[results,Tryz.results51,go_sem,hF]) rfl ⟨rfl,hA.toExt⟩
 go_wp2_with fail;refine bodyPost_ret (v:=.tuple #[.string path,.bool true]) (by simp[results,Tryz.results51,go_sem,hF]) rfl ⟨rfl,hA.toExt⟩
theorem foot_6 (num:Int) (foot:ByteArray) (req:Int) (path:ByteArray) (mode n time:Int) (w:World) {rc:Bool} (hrc:∀w,Calls Tryz.prog 28 #[.agg #[.int .i64 6,.int .u64 num,.string foot,.int .u64 req,.string path,.int .i64 mode,.int .u64 n,.int .i64 time]] w fun e w'=>e=.returned (.bool rc)∧Ext w w'):
 Calls Tryz.prog 51 #[.agg #[.int .i64 6,.int .u64 num,.string foot,.int .u64 req,.string path,.int .i64 mode,.int .u64 n,.int .i64 time]] w fun e w'=>e=.returned (.tuple #[.string (if rc then path else .empty),.bool (rc&&true)])∧Ext w w':=by
 have hA:At [] w [] w:=At.start (L0:=[]) trivial;obtain⟨hA,hF⟩:=fY hA;go_enter Tryz.func51,Tryz.ntmps51
 go_wp2_with ((with_reducible refine gbx ?_);refine wCy (E:=37) hA ?_;clear hF hA;intro bX w1 hA hbX hF)
 refine(had_6 _).mono ?_;rintro e w1 ⟨rfl,hx⟩;replace hA:=hA.ext hx;clear hF hx;obtain⟨hA,hF⟩:=fY hA
 go_wp2_with (first|((with_reducible refine gal ?_);refine g0 hA ?_;clear hF hA;intro bH w1 hA hbH hF)|((with_reducible refine gst ?_);refine wTy hA ?_;clear hF hA;intro w1 hA hF))
 refine(hrc _).mono ?_;rintro e w1 ⟨rfl,hx⟩;replace hA:=hA.ext hx;clear hF hx;obtain⟨hA,hF⟩:=fY hA;cases rc
 · go_wp2_with fail;refine bodyPost_ret (v:=.tuple #[.string ⟨#[]⟩,.bool false]) (by simp[results,Tryz.results51,go_sem,hF]) rfl ⟨rfl,hA.toExt⟩
 go_wp2_with fail;refine bodyPost_ret (v:=.tuple #[.string path,.bool true]) (by simp[results,Tryz.results51,go_sem,hF]) rfl ⟨rfl,hA.toExt⟩
theorem foot_7 (num:Int) (foot:ByteArray) (req:Int) (path:ByteArray) (mode n time:Int) (w:World) {rc:Bool} (hrc:∀w,Calls Tryz.prog 28 #[.agg #[.int .i64 7,.int .u64 num,.string foot,.int .u64 req,.string path,.int .i64 mode,.int .u64 n,.int .i64 time]] w fun e w'=>e=.returned (.bool rc)∧Ext w w'):
 Calls Tryz.prog 51 #[.agg #[.int .i64 7,.int .u64 num,.string foot,.int .u64 req,.string path,.int .i64 mode,.int .u64 n,.int .i64 time]] w fun e w'=>e=.returned (.tuple #[.string (if rc then path else .empty),.bool (rc&&true)])∧Ext w w':=by
 have hA:At [] w [] w:=At.start (L0:=[]) trivial;obtain⟨hA,hF⟩:=fY hA;go_enter Tryz.func51,Tryz.ntmps51
 go_wp2_with ((with_reducible refine gbx ?_);refine wCy (E:=37) hA ?_;clear hF hA;intro bX w1 hA hbX hF)
 refine(had_7 _).mono ?_;rintro e w1 ⟨rfl,hx⟩;replace hA:=hA.ext hx;clear hF hx;obtain⟨hA,hF⟩:=fY hA
 go_wp2_with (first|((with_reducible refine gal ?_);refine g0 hA ?_;clear hF hA;intro bH w1 hA hbH hF)|((with_reducible refine gst ?_);refine wTy hA ?_;clear hF hA;intro w1 hA hF))
 refine(hrc _).mono ?_;rintro e w1 ⟨rfl,hx⟩;replace hA:=hA.ext hx;clear hF hx;obtain⟨hA,hF⟩:=fY hA;cases rc
 · go_wp2_with fail;refine bodyPost_ret (v:=.tuple #[.string ⟨#[]⟩,.bool false]) (by simp[results,Tryz.results51,go_sem,hF]) rfl ⟨rfl,hA.toExt⟩
 go_wp2_with fail;refine bodyPost_ret (v:=.tuple #[.string path,.bool true]) (by simp[results,Tryz.results51,go_sem,hF]) rfl ⟨rfl,hA.toExt⟩
theorem foot_8 (num:Int) (foot:ByteArray) (req:Int) (path:ByteArray) (mode n time:Int) (w:World) {rc:Bool} (hrc:∀w,Calls Tryz.prog 28 #[.agg #[.int .i64 8,.int .u64 num,.string foot,.int .u64 req,.string path,.int .i64 mode,.int .u64 n,.int .i64 time]] w fun e w'=>e=.returned (.bool rc)∧Ext w w'):
 Calls Tryz.prog 51 #[.agg #[.int .i64 8,.int .u64 num,.string foot,.int .u64 req,.string path,.int .i64 mode,.int .u64 n,.int .i64 time]] w fun e w'=>e=.returned (.tuple #[.string (if rc then foot else .empty),.bool (rc&&true)])∧Ext w w':=by
 have hA:At [] w [] w:=At.start (L0:=[]) trivial;obtain⟨hA,hF⟩:=fY hA;go_enter Tryz.func51,Tryz.ntmps51
 go_wp2_with ((with_reducible refine gbx ?_);refine wCy (E:=37) hA ?_;clear hF hA;intro bX w1 hA hbX hF)
 refine(had_8 _).mono ?_;rintro e w1 ⟨rfl,hx⟩;replace hA:=hA.ext hx;clear hF hx;obtain⟨hA,hF⟩:=fY hA
 go_wp2_with (first|((with_reducible refine gal ?_);refine g0 hA ?_;clear hF hA;intro bH w1 hA hbH hF)|((with_reducible refine gst ?_);refine wTy hA ?_;clear hF hA;intro w1 hA hF))
 refine(hrc _).mono ?_;rintro e w1 ⟨rfl,hx⟩;replace hA:=hA.ext hx;clear hF hx;obtain⟨hA,hF⟩:=fY hA;cases rc
 · go_wp2_with fail;refine bodyPost_ret (v:=.tuple #[.string ⟨#[]⟩,.bool false]) (by simp[results,Tryz.results51,go_sem,hF]) rfl ⟨rfl,hA.toExt⟩
 go_wp2_with fail;(try go_frame);refine cl0 hA ?_;clear hF hA;intro w1 hA hF;(try simp only[uY] at hA hF);go_wp2_with fail;refine bodyPost_ret (v:=.tuple #[.string foot,.bool true]) (by simp[results,Tryz.results51,go_sem,hF]) rfl ⟨rfl,hA.toExt⟩
theorem ZoB (c:Cm) (hk:hasOf c.kind=none) (w:World):Calls Tryz.prog 51 #[c.val] w fun e w'=>e=.returned (.tuple #[.string .empty,.bool false])∧Ext w w':=by
 have hA:At [] w [] w:=At.start (L0:=[]) trivial;have hF:=hA.facts;have hno:=fun w=>ZnE c.kind hk w;have hrc:=fun w=>Zix c hk w;clear hk;obtain⟨kind,num,foot,req,path,mode,n,time⟩:=c;simp only[Cm.val] at *
 obtain⟨hA,hF⟩:=fY hA;go_enter Tryz.func51,Tryz.ntmps51
 go_wp2_with ((with_reducible refine gbx ?_);refine wCy (E:=37) hA ?_;clear hF hA;intro bX w1 hA hbX hF)
 refine(hno _).mono ?_;clear hno;rintro e w1 ⟨rfl,hx⟩;replace hA:=hA.ext hx;clear hF hx;obtain⟨hA,hF⟩:=fY hA
 go_wp2_with (first|((with_reducible refine gal ?_);refine g0 hA ?_;clear hF hA;intro bH w1 hA hbH hF)|((with_reducible refine gst ?_);refine wTy hA ?_;clear hF hA;intro w1 hA hF))
 refine(hrc _).mono ?_;clear hrc;rintro e w1 ⟨rfl,hx⟩;replace hA:=hA.ext hx;clear hF hx;obtain⟨hA,hF⟩:=fY hA;go_wp2_with fail;refine bodyPost_ret (v:=.tuple #[.string ⟨#[]⟩,.bool false]) (by simp[results,Tryz.results51,go_sem,hF]) rfl ⟨rfl,hA.toExt⟩
theorem ZmQ (c:Cm) (w:World) (hf:c.foot.size≤1000) (hp:c.path.size≤1000):Calls Tryz.prog 51 #[c.val] w fun e w'=>e=.returned (.tuple #[.string (footC c).1,.bool (footC c).2])∧Ext w w':=by
 have hrc:=fun w=>right_any c w hf hp;obtain⟨kind,num,foot,req,path,mode,n,time⟩:=c;by_cases h0:kind=0
 · subst h0;have:=foot_0 num foot req path mode n time w hrc;have e:footC ⟨0,num,foot,req,path,mode,n,time⟩=(if Zar ⟨0,num,foot,req,path,mode,n,time⟩ then(foot,false) else(.empty,false)):=rfl;rw[e];cases hr:Zar ⟨0,num,foot,req,path,mode,n,time⟩
   · rw[hr] at this;exact this
   rw[hr] at this;exact this
 by_cases h1:kind=1
 · subst h1;have:=foot_1 num foot req path mode n time w hrc;have e:footC ⟨1,num,foot,req,path,mode,n,time⟩=(if Zar ⟨1,num,foot,req,path,mode,n,time⟩ then(foot,true) else(.empty,false)):=rfl;rw[e];cases hr:Zar ⟨1,num,foot,req,path,mode,n,time⟩
   · rw[hr] at this;exact this
   rw[hr] at this;exact this
 by_cases h2:kind=2
 · subst h2;have:=foot_2 num foot req path mode n time w hrc;have e:footC ⟨2,num,foot,req,path,mode,n,time⟩=(if Zar ⟨2,num,foot,req,path,mode,n,time⟩ then(foot,true) else(.empty,false)):=rfl;rw[e];cases hr:Zar ⟨2,num,foot,req,path,mode,n,time⟩
   · rw[hr] at this;exact this
   rw[hr] at this;exact this
 by_cases h3:kind=3
 · subst h3;have:=foot_3 num foot req path mode n time w hrc;have e:footC ⟨3,num,foot,req,path,mode,n,time⟩=(if Zar ⟨3,num,foot,req,path,mode,n,time⟩ then(foot,true) else(.empty,false)):=rfl;rw[e];cases hr:Zar ⟨3,num,foot,req,path,mode,n,time⟩
   · rw[hr] at this;exact this
   rw[hr] at this;exact this
 by_cases h4:kind=4
 · subst h4;have:=foot_4 num foot req path mode n time w hrc;have e:footC ⟨4,num,foot,req,path,mode,n,time⟩=(if Zar ⟨4,num,foot,req,path,mode,n,time⟩ then(path,true) else(.empty,false)):=rfl;rw[e];cases hr:Zar ⟨4,num,foot,req,path,mode,n,time⟩
   · rw[hr] at this;exact this
   rw[hr] at this;exact this
 by_cases h5:kind=5
 · subst h5;have:=foot_5 num foot req path mode n time w hrc;have e:footC ⟨5,num,foot,req,path,mode,n,time⟩=(if Zar ⟨5,num,foot,req,path,mode,n,time⟩ then(path,true) else(.empty,false)):=rfl;rw[e];cases hr:Zar ⟨5,num,foot,req,path,mode,n,time⟩
   · rw[hr] at this;exact this
   rw[hr] at this;exact this
 by_cases h6:kind=6
 · subst h6;have:=foot_6 num foot req path mode n time w hrc;have e:footC ⟨6,num,foot,req,path,mode,n,time⟩=(if Zar ⟨6,num,foot,req,path,mode,n,time⟩ then(path,true) else(.empty,false)):=rfl;rw[e];cases hr:Zar ⟨6,num,foot,req,path,mode,n,time⟩
   · rw[hr] at this;exact this
   rw[hr] at this;exact this
 by_cases h7:kind=7
 · subst h7;have:=foot_7 num foot req path mode n time w hrc;have e:footC ⟨7,num,foot,req,path,mode,n,time⟩=(if Zar ⟨7,num,foot,req,path,mode,n,time⟩ then(path,true) else(.empty,false)):=rfl;rw[e];cases hr:Zar ⟨7,num,foot,req,path,mode,n,time⟩
   · rw[hr] at this;exact this
   rw[hr] at this;exact this
 by_cases h8:kind=8
 · subst h8;have:=foot_8 num foot req path mode n time w hrc;have e:footC ⟨8,num,foot,req,path,mode,n,time⟩=(if Zar ⟨8,num,foot,req,path,mode,n,time⟩ then(foot,true) else(.empty,false)):=rfl;rw[e];cases hr:Zar ⟨8,num,foot,req,path,mode,n,time⟩
   · rw[hr] at this;exact this
   rw[hr] at this;exact this
 have hk:hasOf kind=none:=by unfold hasOf;simp[h0,h1,h2,h3,h4,h5,h6,h7,h8]
 have e:footC ⟨kind,num,foot,req,path,mode,n,time⟩=(.empty,false):=by unfold footC Zar;simp only[hk];rfl
 rw[e];exact ZoB ⟨kind,num,foot,req,path,mode,n,time⟩ hk w
theorem Zhd (c:Cm) (hf:c.foot.size≤1000) (hp:c.path.size≤1000):(footC c).1.size≤1000:=by
 have he:ByteArray.empty.size≤1000:=by decide
 unfold footC;split
 · split
   · split
     · exact hp
     exact hf
   exact he
 exact he
theorem ZnA (c:Cm) (w:World) (hf:c.foot.size≤1000) (hp:c.path.size≤1000):Calls Tryz.prog 30 #[c.val] w fun e w'=>e=.returned (.tuple #[.agg #[.string (if(footC c).2 then(footC c).1 else .empty),.int .u64 (if(footC c).2 then c.num else 0)],.bool (footC c).2])∧Ext w w':=by
 have hA:At [] w [] w:=At.start (L0:=[]) trivial;have hF:=hA.facts;have hfo:=fun w=>ZmQ c w hf hp;generalize footC c=fc at *
 obtain⟨fp,fb⟩:=fc;obtain⟨kind,num,foot,req,path,mode,n,time⟩:=c;simp only[Cm.val] at *
 obtain⟨hA,hF⟩:=fY hA;go_enter Tryz.func30,Tryz.ntmps30
 go_wp2_with (first|((with_reducible refine gbx ?_);refine wCy (E:=37) hA ?_;clear hF hA;intro bX w1 hA hbX hF)|((with_reducible refine gal ?_);refine g6 hA ?_;clear hF hA;intro bK w1 hA hbK hF))
 refine(hfo _).mono ?_;clear hfo;rintro e w1 ⟨rfl,hx⟩;replace hA:=hA.ext hx;clear hF hx;obtain⟨hA,hF⟩:=fY hA;cases fb
 · go_wp2_with ((with_reducible refine gst ?_);refine wTy hA ?_;clear hF hA;intro w1 hA hF)
   refine bodyPost_ret (v:=.tuple #[.agg #[.string ⟨#[]⟩,.int .u64 0],.bool false]) (by simp[results,Tryz.results30,go_sem,hF]) rfl ⟨rfl,hA.toExt⟩
 go_wp2_with ((with_reducible refine gst ?_);refine wTy hA ?_;clear hF hA;intro w1 hA hF)
 refine bodyPost_ret (v:=.tuple #[.agg #[.string fp,.int .u64 num],.bool true]) (by simp[results,Tryz.results30,go_sem,hF]) rfl ⟨rfl,hA.toExt⟩
theorem Zlw (f:ByteArray) (n:Int) (g:ByteArray) (m:Int) (w:World) (hf:f.size≤1000) (hg:g.size≤1000):Calls Tryz.prog 31 #[.agg #[.string f,.int .u64 n],.agg #[.string g,.int .u64 m]] w fun e w'=>e=.returned (.bool ((n==m) || overB (bl f) (bl g)))∧Ext w w':=by
 have hA:At [] w [] w:=At.start (L0:=[]) trivial;have hF:=hA.facts;have hov:=fun w=>Path.ZcW f g w (by omega) (by omega);generalize overB (bl f) (bl g)=ob at *
 obtain⟨x,hx0⟩:∃x,(n==m)=x:=⟨_,rfl⟩
 rw[hx0];obtain⟨hA,hF⟩:=fY hA;cases x
 · go_enter Tryz.func31,Tryz.ntmps31
   go_wp2_with (first|(((with_reducible refine gbxD 2 ?_);refine wHy 75 [.string f,.int .u64 n] hA ?_;clear hF hA;intro bA w1 hA hbA hF))|(((with_reducible refine gbxD 3 ?_);refine wHy 75 [.string g,.int .u64 m] hA ?_;clear hF hA;intro bB w1 hA hbB hF)))
   refine(hov _).mono ?_;clear hov;rintro e w1 ⟨rfl,hx⟩;replace hA:=hA.ext hx;clear hF hx;obtain⟨hA,hF⟩:=fY hA;go_wp2_with fail;go_ret;exact⟨rfl,hA.toExt⟩
 go_enter Tryz.func31,Tryz.ntmps31
 go_wp2_with (first|(((with_reducible refine gbxD 2 ?_);refine wHy 75 [.string f,.int .u64 n] hA ?_;clear hF hA;intro bA w1 hA hbA hF))|(((with_reducible refine gbxD 3 ?_);refine wHy 75 [.string g,.int .u64 m] hA ?_;clear hF hA;intro bB w1 hA hbB hF)))
 go_ret;exact⟨rfl,hA.toExt⟩
end Cmd
end
section
namespace Cmd
open Path (bl Zag overB)
def Zd0 (a b:Cm):Bool:=(footC a).2&&(footC b).2&&((a.num==b.num) || overB (bl (footC a).1) (bl (footC b).1))
end Cmd
end
section
namespace Cmd
open Go.RowKit
open Path (bl Zag overB)
attribute [-go_sem] run_eql_struct run_neq_struct run_eqGuard_agg
theorem ZjL (a b:Cm) (w:World) (ha:a.foot.size≤1000) (hap:a.path.size≤1000) (hb:b.foot.size≤1000) (hbp:b.path.size≤1000):Calls Tryz.prog 17 #[a.val,b.val] w fun e w'=>e=.returned (.bool (Zd0 a b))∧Ext w w':=by
 have hA:At [] w [] w:=At.start (L0:=[]) trivial;have hF:=hA.facts;have hoa:=fun w=>ZnA a w ha hap;have hob:=fun w=>ZnA b w hb hbp;have sa:=Zhd a ha hap;have sb:=Zhd b hb hbp;unfold Zd0;generalize footC a=fa at *
 generalize footC b=fb at *
 obtain⟨f,x⟩:=fa;obtain⟨g,y⟩:=fb;simp only at sa sb;have hcl:=fun w=>Zlw f a.num g b.num w sa sb;obtain⟨kind,num,foot,req,path,mode,n,time⟩:=a;obtain⟨kind2,num2,foot2,req2,path2,mode2,n2,time2⟩:=b;simp only[Cm.val] at *
 generalize ((num==num2) || overB (bl f) (bl g))=cb at *
 obtain⟨hA,hF⟩:=fY hA;cases x
 · simp only[Bool.false_and];cases y
   · go_enter Tryz.func17,Tryz.ntmps17
     go_wp2_with (first|(((with_reducible refine gbxD 2 ?_);refine wHy 37 [.int .i64 kind,.int .u64 num,.string foot,.int .u64 req,.string path,.int .i64 mode,.int .u64 n,.int .i64 time] hA ?_;clear hF hA;intro bA w1 hA hbA hF))|(((with_reducible refine gbxD 3 ?_);refine wHy 37 [.int .i64 kind2,.int .u64 num2,.string foot2,.int .u64 req2,.string path2,.int .i64 mode2,.int .u64 n2,.int .i64 time2] hA ?_;clear hF hA;intro bB w1 hA hbB hF)))
     refine(hoa _).mono ?_;clear hoa;rintro e w1 ⟨rfl,hx⟩;replace hA:=hA.ext hx;clear hF hx;obtain⟨hA,hF⟩:=fY hA
     go_wp2_with (first|((with_reducible refine gal ?_);refine g6 hA ?_;clear hF hA;intro bK w1 hA hbK hF)|((with_reducible refine gst ?_);refine wTy hA ?_;clear hF hA;intro w1 hA hF))
     refine(hob _).mono ?_;clear hob;rintro e w1 ⟨rfl,hx⟩;replace hA:=hA.ext hx;clear hF hx;obtain⟨hA,hF⟩:=fY hA
     go_wp2_with (first|((with_reducible refine gal ?_);refine g6 hA ?_;clear hF hA;intro bL w1 hA hbL hF)|((with_reducible refine gst ?_);refine wTy hA ?_;clear hF hA;intro w1 hA hF))
     go_ret;exact⟨rfl,hA.toExt⟩
   go_enter Tryz.func17,Tryz.ntmps17
   go_wp2_with (first|(((with_reducible refine gbxD 2 ?_);refine wHy 37 [.int .i64 kind,.int .u64 num,.string foot,.int .u64 req,.string path,.int .i64 mode,.int .u64 n,.int .i64 time] hA ?_;clear hF hA;intro bA w1 hA hbA hF))|(((with_reducible refine gbxD 3 ?_);refine wHy 37 [.int .i64 kind2,.int .u64 num2,.string foot2,.int .u64 req2,.string path2,.int .i64 mode2,.int .u64 n2,.int .i64 time2] hA ?_;clear hF hA;intro bB w1 hA hbB hF)))
   refine(hoa _).mono ?_;clear hoa;rintro e w1 ⟨rfl,hx⟩;replace hA:=hA.ext hx;clear hF hx;obtain⟨hA,hF⟩:=fY hA
   go_wp2_with (first|((with_reducible refine gal ?_);refine g6 hA ?_;clear hF hA;intro bK w1 hA hbK hF)|((with_reducible refine gst ?_);refine wTy hA ?_;clear hF hA;intro w1 hA hF))
   refine(hob _).mono ?_;clear hob;rintro e w1 ⟨rfl,hx⟩;replace hA:=hA.ext hx;clear hF hx;obtain⟨hA,hF⟩:=fY hA
   go_wp2_with (first|((with_reducible refine gal ?_);refine g6 hA ?_;clear hF hA;intro bL w1 hA hbL hF)|((with_reducible refine gst ?_);refine wTy hA ?_;clear hF hA;intro w1 hA hF))
   go_ret;exact⟨rfl,hA.toExt⟩
 cases y
 · simp only[Bool.and_false,Bool.false_and];go_enter Tryz.func17,Tryz.ntmps17
   go_wp2_with (first|(((with_reducible refine gbxD 2 ?_);refine wHy 37 [.int .i64 kind,.int .u64 num,.string foot,.int .u64 req,.string path,.int .i64 mode,.int .u64 n,.int .i64 time] hA ?_;clear hF hA;intro bA w1 hA hbA hF))|(((with_reducible refine gbxD 3 ?_);refine wHy 37 [.int .i64 kind2,.int .u64 num2,.string foot2,.int .u64 req2,.string path2,.int .i64 mode2,.int .u64 n2,.int .i64 time2] hA ?_;clear hF hA;intro bB w1 hA hbB hF)))
   refine(hoa _).mono ?_;clear hoa;rintro e w1 ⟨rfl,hx⟩;replace hA:=hA.ext hx;clear hF hx;obtain⟨hA,hF⟩:=fY hA
   go_wp2_with (first|((with_reducible refine gal ?_);refine g6 hA ?_;clear hF hA;intro bK w1 hA hbK hF)|((with_reducible refine gst ?_);refine wTy hA ?_;clear hF hA;intro w1 hA hF))
   refine(hob _).mono ?_;clear hob;rintro e w1 ⟨rfl,hx⟩;replace hA:=hA.ext hx;clear hF hx;obtain⟨hA,hF⟩:=fY hA
   go_wp2_with (first|((with_reducible refine gal ?_);refine g6 hA ?_;clear hF hA;intro bL w1 hA hbL hF)|((with_reducible refine gst ?_);refine wTy hA ?_;clear hF hA;intro w1 hA hF))
   go_ret;exact⟨rfl,hA.toExt⟩
 simp only[Bool.and_true,Bool.true_and,if_true] at *
 go_enter Tryz.func17,Tryz.ntmps17
 go_wp2_with (first|(((with_reducible refine gbxD 2 ?_);refine wHy 37 [.int .i64 kind,.int .u64 num,.string foot,.int .u64 req,.string path,.int .i64 mode,.int .u64 n,.int .i64 time] hA ?_;clear hF hA;intro bA w1 hA hbA hF))|(((with_reducible refine gbxD 3 ?_);refine wHy 37 [.int .i64 kind2,.int .u64 num2,.string foot2,.int .u64 req2,.string path2,.int .i64 mode2,.int .u64 n2,.int .i64 time2] hA ?_;clear hF hA;intro bB w1 hA hbB hF)))
 refine(hoa _).mono ?_;clear hoa;rintro e w1 ⟨rfl,hx⟩;replace hA:=hA.ext hx;clear hF hx;obtain⟨hA,hF⟩:=fY hA
 go_wp2_with (first|((with_reducible refine gal ?_);refine g6 hA ?_;clear hF hA;intro bK w1 hA hbK hF)|((with_reducible refine gst ?_);refine wTy hA ?_;clear hF hA;intro w1 hA hF))
 refine(hob _).mono ?_;clear hob;rintro e w1 ⟨rfl,hx⟩;replace hA:=hA.ext hx;clear hF hx;obtain⟨hA,hF⟩:=fY hA
 go_wp2_with (first|((with_reducible refine gal ?_);refine g6 hA ?_;clear hF hA;intro bL w1 hA hbL hF)|((with_reducible refine gst ?_);refine wTy hA ?_;clear hF hA;intro w1 hA hF))
 refine(hcl _).mono ?_;clear hcl;rintro e w1 ⟨rfl,hx⟩;replace hA:=hA.ext hx;clear hF hx;obtain⟨hA,hF⟩:=fY hA;go_wp2_with fail;go_ret;exact⟨rfl,hA.toExt⟩
end Cmd
end
end Go.Proofs.YtbeckijoabapkaaGreatDoor
