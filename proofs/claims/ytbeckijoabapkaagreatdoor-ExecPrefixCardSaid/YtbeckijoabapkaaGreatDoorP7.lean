import Derived.Test.YtbeckijoabapkaaGreatDoorP3
import Derived.Test.YtbeckijoabapkaaGreatDoorShelft
set_option linter.unusedSimpArgs false
set_option linter.unusedVariables false
set_option maxRecDepth 100000
set_option maxHeartbeats 16000000
namespace Go.Proofs.YtbeckijoabapkaaGreatDoor
section
namespace Attr
open Go.RowKit
theorem ZaY (r t:Int) (w:World):Calls Tryz.prog 26 #[.agg #[.int .i64 r,.int .i64 t]] w fun e w'=>e=.returned (.bool (Zaz r t))∧Ext w w':=by
 have hA:At [] w [] w:=At.start (L0:=[]) trivial;have hF:=hA.facts
 obtain⟨x0,h0⟩:∃x,decide (0≤r)=x:=⟨_,rfl⟩
 obtain⟨x1,h1⟩:∃x,decide (r≤6)=x:=⟨_,rfl⟩
 obtain⟨x2,h2⟩:∃x,decide (0≤t)=x:=⟨_,rfl⟩
 obtain⟨x3,h3⟩:∃x,decide (t < 1024)=x:=⟨_,rfl⟩
 have e:Zaz r t=(x0&&x1&&x2&&x3):=by unfold Zaz;rw[h0,h1,h2,h3]
 rw[e];clear e;obtain⟨hA,hF⟩:=fY hA;go_enter Tryz.func26,Tryz.ntmps26;cases x0
 · go_wp2_with ((with_reducible refine gbx ?_);refine wCy (E:=33) hA ?_;clear hF hA;intro bX w1 hA hbX hF)
   go_ret;exact⟨rfl,hA.toExt⟩
 cases x1
 · go_wp2_with ((with_reducible refine gbx ?_);refine wCy (E:=33) hA ?_;clear hF hA;intro bX w1 hA hbX hF)
   go_ret;exact⟨rfl,hA.toExt⟩
 cases x2
 · go_wp2_with ((with_reducible refine gbx ?_);refine wCy (E:=33) hA ?_;clear hF hA;intro bX w1 hA hbX hF)
   go_ret;exact⟨rfl,hA.toExt⟩
 cases x3
 · go_wp2_with ((with_reducible refine gbx ?_);refine wCy (E:=33) hA ?_;clear hF hA;intro bX w1 hA hbX hF)
   go_ret;exact⟨rfl,hA.toExt⟩
 go_wp2_with ((with_reducible refine gbx ?_);refine wCy (E:=33) hA ?_;clear hF hA;intro bX w1 hA hbX hF)
 go_ret;exact⟨rfl,hA.toExt⟩
theorem Zof (a:A8) (r t:Int) (w:World):Calls Tryz.prog 50 #[a.val,.agg #[.int .i64 r,.int .i64 t]] w fun e w'=>e=.returned (a.own r t).val∧Ext w w':=by
 have hA:At [] w [] w:=At.start (L0:=[]) trivial;have hF:=hA.facts;obtain⟨s,d0,d1,d2,d3,d4,d5,d6⟩:=a;have hr:=fun w=>ZaY r t w;by_cases hb:Zaz r t=true
 · rw[hb] at hr;have hq:=Zas.1 hb;have e:∀a:A8,a.own r t=a.set r.toNat t:=fun a=>by unfold A8.own;rw[if_pos hb]
   rw[e];clear e hb
   obtain⟨q,rfl⟩:∃q:Nat,r=q:=⟨r.toNat,by omega⟩
   have hq7:q=0∨q=1∨q=2∨q=3∨q=4∨q=5∨q=6:=by omega
   clear hq;obtain⟨hA,hF⟩:=fY hA;rcases hq7 with rfl|rfl|rfl|rfl|rfl|rfl|rfl
   · simp only[A8.val,A8.set,Int.toNat_natCast] at *
     go_enter Tryz.func50,Tryz.ntmps50
     go_wp2_with (first|((with_reducible refine gbx ?_);refine wHy 51 [.int .i64 s,.int .i64 d0,.int .i64 d1,.int .i64 d2,.int .i64 d3,.int .i64 d4,.int .i64 d5,.int .i64 d6] hA ?_;clear hF hA;intro bA w1 hA hbA hF)|((with_reducible refine gbx ?_);refine wHy 33 [.int .i64 ((0:Nat):Int),.int .i64 t] hA ?_;clear hF hA;intro bI w1 hA hbI hF)|((with_reducible refine gal ?_);refine g7 hA ?_;clear hF hA;intro bR w1 hA hbR hF))
     refine(hr _).mono ?_;clear hr;rintro e w1 ⟨rfl,hx⟩;replace hA:=hA.ext hx;clear hF hx;obtain⟨hA,hF⟩:=fY hA
     go_wp2_with ((with_reducible refine gst ?_);refine wTy hA ?_;clear hF hA;intro w1 hA hF)
     refine bodyPost_ret (v:=.agg #[.int .i64 s,.int .i64 t,.int .i64 d1,.int .i64 d2,.int .i64 d3,.int .i64 d4,.int .i64 d5,.int .i64 d6]) (by simp[results,Tryz.results50,go_sem,hF]) rfl ⟨rfl,hA.toExt⟩
   · simp only[A8.val,A8.set,Int.toNat_natCast] at *
     go_enter Tryz.func50,Tryz.ntmps50
     go_wp2_with (first|((with_reducible refine gbx ?_);refine wHy 51 [.int .i64 s,.int .i64 d0,.int .i64 d1,.int .i64 d2,.int .i64 d3,.int .i64 d4,.int .i64 d5,.int .i64 d6] hA ?_;clear hF hA;intro bA w1 hA hbA hF)|((with_reducible refine gbx ?_);refine wHy 33 [.int .i64 ((1:Nat):Int),.int .i64 t] hA ?_;clear hF hA;intro bI w1 hA hbI hF)|((with_reducible refine gal ?_);refine g7 hA ?_;clear hF hA;intro bR w1 hA hbR hF))
     refine(hr _).mono ?_;clear hr;rintro e w1 ⟨rfl,hx⟩;replace hA:=hA.ext hx;clear hF hx;obtain⟨hA,hF⟩:=fY hA
     go_wp2_with ((with_reducible refine gst ?_);refine wTy hA ?_;clear hF hA;intro w1 hA hF)
     refine bodyPost_ret (v:=.agg #[.int .i64 s,.int .i64 d0,.int .i64 t,.int .i64 d2,.int .i64 d3,.int .i64 d4,.int .i64 d5,.int .i64 d6]) (by simp[results,Tryz.results50,go_sem,hF]) rfl ⟨rfl,hA.toExt⟩
   · simp only[A8.val,A8.set,Int.toNat_natCast] at *
     go_enter Tryz.func50,Tryz.ntmps50
     go_wp2_with (first|((with_reducible refine gbx ?_);refine wHy 51 [.int .i64 s,.int .i64 d0,.int .i64 d1,.int .i64 d2,.int .i64 d3,.int .i64 d4,.int .i64 d5,.int .i64 d6] hA ?_;clear hF hA;intro bA w1 hA hbA hF)|((with_reducible refine gbx ?_);refine wHy 33 [.int .i64 ((2:Nat):Int),.int .i64 t] hA ?_;clear hF hA;intro bI w1 hA hbI hF)|((with_reducible refine gal ?_);refine g7 hA ?_;clear hF hA;intro bR w1 hA hbR hF))
     refine(hr _).mono ?_;clear hr;rintro e w1 ⟨rfl,hx⟩;replace hA:=hA.ext hx;clear hF hx;obtain⟨hA,hF⟩:=fY hA
     go_wp2_with ((with_reducible refine gst ?_);refine wTy hA ?_;clear hF hA;intro w1 hA hF)
     refine bodyPost_ret (v:=.agg #[.int .i64 s,.int .i64 d0,.int .i64 d1,.int .i64 t,.int .i64 d3,.int .i64 d4,.int .i64 d5,.int .i64 d6]) (by simp[results,Tryz.results50,go_sem,hF]) rfl ⟨rfl,hA.toExt⟩
   · simp only[A8.val,A8.set,Int.toNat_natCast] at *
     go_enter Tryz.func50,Tryz.ntmps50
     go_wp2_with (first|((with_reducible refine gbx ?_);refine wHy 51 [.int .i64 s,.int .i64 d0,.int .i64 d1,.int .i64 d2,.int .i64 d3,.int .i64 d4,.int .i64 d5,.int .i64 d6] hA ?_;clear hF hA;intro bA w1 hA hbA hF)|((with_reducible refine gbx ?_);refine wHy 33 [.int .i64 ((3:Nat):Int),.int .i64 t] hA ?_;clear hF hA;intro bI w1 hA hbI hF)|((with_reducible refine gal ?_);refine g7 hA ?_;clear hF hA;intro bR w1 hA hbR hF))
     refine(hr _).mono ?_;clear hr;rintro e w1 ⟨rfl,hx⟩;replace hA:=hA.ext hx;clear hF hx;obtain⟨hA,hF⟩:=fY hA
     go_wp2_with ((with_reducible refine gst ?_);refine wTy hA ?_;clear hF hA;intro w1 hA hF)
     refine bodyPost_ret (v:=.agg #[.int .i64 s,.int .i64 d0,.int .i64 d1,.int .i64 d2,.int .i64 t,.int .i64 d4,.int .i64 d5,.int .i64 d6]) (by simp[results,Tryz.results50,go_sem,hF]) rfl ⟨rfl,hA.toExt⟩
   · simp only[A8.val,A8.set,Int.toNat_natCast] at *
     go_enter Tryz.func50,Tryz.ntmps50
     go_wp2_with (first|((with_reducible refine gbx ?_);refine wHy 51 [.int .i64 s,.int .i64 d0,.int .i64 d1,.int .i64 d2,.int .i64 d3,.int .i64 d4,.int .i64 d5,.int .i64 d6] hA ?_;clear hF hA;intro bA w1 hA hbA hF)|((with_reducible refine gbx ?_);refine wHy 33 [.int .i64 ((4:Nat):Int),.int .i64 t] hA ?_;clear hF hA;intro bI w1 hA hbI hF)|((with_reducible refine gal ?_);refine g7 hA ?_;clear hF hA;intro bR w1 hA hbR hF))
     refine(hr _).mono ?_;clear hr;rintro e w1 ⟨rfl,hx⟩;replace hA:=hA.ext hx;clear hF hx;obtain⟨hA,hF⟩:=fY hA
     go_wp2_with ((with_reducible refine gst ?_);refine wTy hA ?_;clear hF hA;intro w1 hA hF)
     refine bodyPost_ret (v:=.agg #[.int .i64 s,.int .i64 d0,.int .i64 d1,.int .i64 d2,.int .i64 d3,.int .i64 t,.int .i64 d5,.int .i64 d6]) (by simp[results,Tryz.results50,go_sem,hF]) rfl ⟨rfl,hA.toExt⟩
   · simp only[A8.val,A8.set,Int.toNat_natCast] at *
     go_enter Tryz.func50,Tryz.ntmps50
     go_wp2_with (first|((with_reducible refine gbx ?_);refine wHy 51 [.int .i64 s,.int .i64 d0,.int .i64 d1,.int .i64 d2,.int .i64 d3,.int .i64 d4,.int .i64 d5,.int .i64 d6] hA ?_;clear hF hA;intro bA w1 hA hbA hF)|((with_reducible refine gbx ?_);refine wHy 33 [.int .i64 ((5:Nat):Int),.int .i64 t] hA ?_;clear hF hA;intro bI w1 hA hbI hF)|((with_reducible refine gal ?_);refine g7 hA ?_;clear hF hA;intro bR w1 hA hbR hF))
     refine(hr _).mono ?_;clear hr;rintro e w1 ⟨rfl,hx⟩;replace hA:=hA.ext hx;clear hF hx;obtain⟨hA,hF⟩:=fY hA
     go_wp2_with ((with_reducible refine gst ?_);refine wTy hA ?_;clear hF hA;intro w1 hA hF)
     refine bodyPost_ret (v:=.agg #[.int .i64 s,.int .i64 d0,.int .i64 d1,.int .i64 d2,.int .i64 d3,.int .i64 d4,.int .i64 t,.int .i64 d6]) (by simp[results,Tryz.results50,go_sem,hF]) rfl ⟨rfl,hA.toExt⟩
   simp only[A8.val,A8.set,Int.toNat_natCast] at *
   go_enter Tryz.func50,Tryz.ntmps50
   go_wp2_with (first|((with_reducible refine gbx ?_);refine wHy 51 [.int .i64 s,.int .i64 d0,.int .i64 d1,.int .i64 d2,.int .i64 d3,.int .i64 d4,.int .i64 d5,.int .i64 d6] hA ?_;clear hF hA;intro bA w1 hA hbA hF)|((with_reducible refine gbx ?_);refine wHy 33 [.int .i64 ((6:Nat):Int),.int .i64 t] hA ?_;clear hF hA;intro bI w1 hA hbI hF)|((with_reducible refine gal ?_);refine g7 hA ?_;clear hF hA;intro bR w1 hA hbR hF))
   refine(hr _).mono ?_;clear hr;rintro e w1 ⟨rfl,hx⟩;replace hA:=hA.ext hx;clear hF hx;obtain⟨hA,hF⟩:=fY hA
   go_wp2_with ((with_reducible refine gst ?_);refine wTy hA ?_;clear hF hA;intro w1 hA hF)
   refine bodyPost_ret (v:=.agg #[.int .i64 s,.int .i64 d0,.int .i64 d1,.int .i64 d2,.int .i64 d3,.int .i64 d4,.int .i64 d5,.int .i64 t]) (by simp[results,Tryz.results50,go_sem,hF]) rfl ⟨rfl,hA.toExt⟩
 have hb2:Zaz r t=false:=by simpa using hb
 rw[hb2] at hr;have e:∀a:A8,a.own r t=a:=fun a=>by unfold A8.own;rw[if_neg hb]
 rw[e];clear e hb hb2;simp only[A8.val];obtain⟨hA,hF⟩:=fY hA;go_enter Tryz.func50,Tryz.ntmps50
 go_wp2_with (first|((with_reducible refine gbx ?_);refine wHy 51 [.int .i64 s,.int .i64 d0,.int .i64 d1,.int .i64 d2,.int .i64 d3,.int .i64 d4,.int .i64 d5,.int .i64 d6] hA ?_;clear hF hA;intro bA w1 hA hbA hF)|((with_reducible refine gbx ?_);refine wHy 33 [.int .i64 r,.int .i64 t] hA ?_;clear hF hA;intro bI w1 hA hbI hF)|((with_reducible refine gal ?_);refine g7 hA ?_;clear hF hA;intro bR w1 hA hbR hF))
 refine(hr _).mono ?_;clear hr;rintro e w1 ⟨rfl,hx⟩;replace hA:=hA.ext hx;clear hF hx;obtain⟨hA,hF⟩:=fY hA
 go_wp2_with ((with_reducible refine gst ?_);refine wTy hA ?_;clear hF hA;intro w1 hA hF)
 refine bodyPost_ret (v:=.agg #[.int .i64 s,.int .i64 d0,.int .i64 d1,.int .i64 d2,.int .i64 d3,.int .i64 d4,.int .i64 d5,.int .i64 d6]) (by simp[results,Tryz.results50,go_sem,hF]) rfl ⟨rfl,hA.toExt⟩
theorem right_any (a:A8) (w:World):Calls Tryz.prog 49 #[a.val] w fun e w'=>e=.returned (.bool a.right)∧Ext w w':=by
 have hA:At [] w [] w:=At.start (L0:=[]) trivial;have hF:=hA.facts;obtain⟨s,d0,d1,d2,d3,d4,d5,d6⟩:=a;have hi0:∀w,(Instr.index 49 (.agg #[.int .i64 d0,.int .i64 d1,.int .i64 d2,.int .i64 d3,.int .i64 d4,.int .i64 d5,.int .i64 d6]) (.int .i64 0)).run Tryz.prog w=.ok (.int .i64 d0) w:=fun w=>by kernel_rfl
 have hi1:∀w,(Instr.index 49 (.agg #[.int .i64 d0,.int .i64 d1,.int .i64 d2,.int .i64 d3,.int .i64 d4,.int .i64 d5,.int .i64 d6]) (.int .i64 1)).run Tryz.prog w=.ok (.int .i64 d1) w:=fun w=>by kernel_rfl
 have hi2:∀w,(Instr.index 49 (.agg #[.int .i64 d0,.int .i64 d1,.int .i64 d2,.int .i64 d3,.int .i64 d4,.int .i64 d5,.int .i64 d6]) (.int .i64 2)).run Tryz.prog w=.ok (.int .i64 d2) w:=fun w=>by kernel_rfl
 have hi3:∀w,(Instr.index 49 (.agg #[.int .i64 d0,.int .i64 d1,.int .i64 d2,.int .i64 d3,.int .i64 d4,.int .i64 d5,.int .i64 d6]) (.int .i64 3)).run Tryz.prog w=.ok (.int .i64 d3) w:=fun w=>by kernel_rfl
 have hi4:∀w,(Instr.index 49 (.agg #[.int .i64 d0,.int .i64 d1,.int .i64 d2,.int .i64 d3,.int .i64 d4,.int .i64 d5,.int .i64 d6]) (.int .i64 4)).run Tryz.prog w=.ok (.int .i64 d4) w:=fun w=>by kernel_rfl
 have hi5:∀w,(Instr.index 49 (.agg #[.int .i64 d0,.int .i64 d1,.int .i64 d2,.int .i64 d3,.int .i64 d4,.int .i64 d5,.int .i64 d6]) (.int .i64 5)).run Tryz.prog w=.ok (.int .i64 d5) w:=fun w=>by kernel_rfl
 have hi6:∀w,(Instr.index 49 (.agg #[.int .i64 d0,.int .i64 d1,.int .i64 d2,.int .i64 d3,.int .i64 d4,.int .i64 d5,.int .i64 d6]) (.int .i64 6)).run Tryz.prog w=.ok (.int .i64 d6) w:=fun w=>by kernel_rfl
 obtain⟨x0,hx0⟩:∃x,decide (d0 < 0)=x:=⟨_,rfl⟩
 obtain⟨y0,hy0⟩:∃y,decide (1024 < d0)=y:=⟨_,rfl⟩
 obtain⟨x1,hx1⟩:∃x,decide (d1 < 0)=x:=⟨_,rfl⟩
 obtain⟨y1,hy1⟩:∃y,decide (1024 < d1)=y:=⟨_,rfl⟩
 obtain⟨x2,hx2⟩:∃x,decide (d2 < 0)=x:=⟨_,rfl⟩
 obtain⟨y2,hy2⟩:∃y,decide (1024 < d2)=y:=⟨_,rfl⟩
 obtain⟨x3,hx3⟩:∃x,decide (d3 < 0)=x:=⟨_,rfl⟩
 obtain⟨y3,hy3⟩:∃y,decide (1024 < d3)=y:=⟨_,rfl⟩
 obtain⟨x4,hx4⟩:∃x,decide (d4 < 0)=x:=⟨_,rfl⟩
 obtain⟨y4,hy4⟩:∃y,decide (1024 < d4)=y:=⟨_,rfl⟩
 obtain⟨x5,hx5⟩:∃x,decide (d5 < 0)=x:=⟨_,rfl⟩
 obtain⟨y5,hy5⟩:∃y,decide (1024 < d5)=y:=⟨_,rfl⟩
 obtain⟨x6,hx6⟩:∃x,decide (d6 < 0)=x:=⟨_,rfl⟩
 obtain⟨y6,hy6⟩:∃y,decide (1024 < d6)=y:=⟨_,rfl⟩
 obtain⟨s0,hs0⟩:∃x,decide (0≤s)=x:=⟨_,rfl⟩
 obtain⟨s1,hs1⟩:∃x,decide (s≤1073741824)=x:=⟨_,rfl⟩
 have e:A8.right ⟨s,d0,d1,d2,d3,d4,d5,d6⟩=(!(x0 || y0)&& !(x1 || y1)&& !(x2 || y2)&& !(x3 || y3)&& !(x4 || y4)&& !(x5 || y5)&& !(x6 || y6)&&(s0&&s1)):=by unfold A8.right badD;rw[hx0,hy0,hx1,hy1,hx2,hy2,hx3,hy3,hx4,hy4,hx5,hy5,hx6,hy6,hs0,hs1]
 rw[e];clear e;simp only[A8.val];obtain⟨hA,hF⟩:=fY hA;go_enter Tryz.func49,Tryz.ntmps49
 go_wp2_with ((with_reducible refine gbx ?_);refine wHy 51 [.int .i64 s,.int .i64 d0,.int .i64 d1,.int .i64 d2,.int .i64 d3,.int .i64 d4,.int .i64 d5,.int .i64 d6] hA ?_;clear hF hA;intro bA w1 hA hbA hF)
 refine wp_loop_rounds 8 ?_;rw[rounds_succ];cases x0
 · cases y0
   · go_wp2_with fail;rw[rounds_succ];cases x1
     · cases y1
       · go_wp2_with fail;rw[rounds_succ];cases x2
         · cases y2
           · go_wp2_with fail;rw[rounds_succ];cases x3
             · cases y3
               · go_wp2_with fail;rw[rounds_succ];cases x4
                 · cases y4
                   · go_wp2_with fail;rw[rounds_succ];cases x5
                     · cases y5
                       · go_wp2_with fail;rw[rounds_succ];cases x6
                         · cases y6
                           · go_wp2_with fail;rw[rounds_succ];cases s0
                             · go_wp2_with fail;go_ret;exact⟨rfl,hA.toExt⟩
                             go_wp2_with fail;go_ret;exact⟨rfl,hA.toExt⟩
                           go_wp2_with fail;go_ret;exact⟨rfl,hA.toExt⟩
                         go_wp2_with fail;go_ret;exact⟨rfl,hA.toExt⟩
                       go_wp2_with fail;go_ret;exact⟨rfl,hA.toExt⟩
                     go_wp2_with fail;go_ret;exact⟨rfl,hA.toExt⟩
                   go_wp2_with fail;go_ret;exact⟨rfl,hA.toExt⟩
                 go_wp2_with fail;go_ret;exact⟨rfl,hA.toExt⟩
               go_wp2_with fail;go_ret;exact⟨rfl,hA.toExt⟩
             go_wp2_with fail;go_ret;exact⟨rfl,hA.toExt⟩
           go_wp2_with fail;go_ret;exact⟨rfl,hA.toExt⟩
         go_wp2_with fail;go_ret;exact⟨rfl,hA.toExt⟩
       go_wp2_with fail;go_ret;exact⟨rfl,hA.toExt⟩
     go_wp2_with fail;go_ret;exact⟨rfl,hA.toExt⟩
   go_wp2_with fail;go_ret;exact⟨rfl,hA.toExt⟩
 go_wp2_with fail;go_ret;exact⟨rfl,hA.toExt⟩
end Attr
end
section
namespace Attr
open Go.RowKit
attribute [-go_sem] run_eql_struct run_neq_struct run_eqGuard_agg
attribute [local go_sem] Zk7 ZmX Zc0
theorem thro {L0 L:List Part} {w0 w:World} {P:Program} {f:FuncId} {args:Array Value} {v:Value} (h:At L0 w0 L w) (hc:Calls P f args w fun e w'=>e=.returned v∧Ext w w'):
 Calls P f args w fun e w'=>e=.returned v∧At L0 w0 L w':=hc.mono fun e w' ⟨he,hx⟩=>⟨he,h.ext hx⟩
theorem ZbE (op:BinOp) (x y:Operand) (s d0 d1 d2 d3 d4 d5 d6 u e0 e1 e2 e3 e4 e5 e6:Int) (w:World):(eqGuard op 51 x y (.agg #[.int .i64 s,.int .i64 d0,.int .i64 d1,.int .i64 d2,.int .i64 d3,.int .i64 d4,.int .i64 d5,.int .i64 d6]) (.agg #[.int .i64 u,.int .i64 e0,.int .i64 e1,.int .i64 e2,.int .i64 e3,.int .i64 e4,.int .i64 e5,.int .i64 e6])).run Tryz.prog w=.ok () w:=Zk7 op x y ⟨s,d0,d1,d2,d3,d4,d5,d6⟩ ⟨u,e0,e1,e2,e3,e4,e5,e6⟩ w
attribute [local go_sem] ZbE
def ownsB (a:A8) (r t:Int):Bool:=Zaz r t&&(a.right&&eqA (a.own r t) a)
theorem Zdk (a:A8) (r t:Int) (w:World):Calls Tryz.prog 29 #[a.val,.agg #[.int .i64 r,.int .i64 t]] w fun e w'=>e=.returned (.bool (ownsB a r t))∧Ext w w':=by
 have hA:At [] w [] w:=At.start (L0:=[]) trivial;have hF:=hA.facts;have hri:=fun w=>ZaY r t w;have har:=fun w=>right_any a w;have how:=fun w=>Zof a r t w;unfold ownsB;generalize Zaz r t=p at *
 generalize a.right=q at *
 generalize a.own r t=o at *
 obtain⟨s,d0,d1,d2,d3,d4,d5,d6⟩:=a;obtain⟨u,e0,e1,e2,e3,e4,e5,e6⟩:=o;simp only[A8.val] at *
 obtain⟨hA,hF⟩:=fZ hA;go_enter Tryz.func29,Tryz.ntmps29
 go_wp2_with (first|((with_reducible refine gbx ?_);refine wHz 51 [.int .i64 s,.int .i64 d0,.int .i64 d1,.int .i64 d2,.int .i64 d3,.int .i64 d4,.int .i64 d5,.int .i64 d6] hA ?_;clear hF hA;intro bA w1 hA hbA hF)|((with_reducible refine gbx ?_);refine wHz 33 [.int .i64 r,.int .i64 t] hA ?_;clear hF hA;intro bI w1 hA hbI hF))
 (try go_frame);cases p
 · refine cl7 hA ?_;clear hF hA;intro w1 hA hF;(try simp only[uZ] at hA hF);go_wp2_with fail;go_ret;exact⟨rfl,hA.toExt⟩
 cases q
 · refine cl7 hA ?_;clear hF hA;intro w1 hA hF;(try simp only[uZ] at hA hF);go_wp2_with fail;go_ret;exact⟨rfl,hA.toExt⟩
 refine cl7 hA ?_;clear hF hA;intro w1 hA hF;(try simp only[uZ] at hA hF);go_wp2_with fail;go_ret;exact⟨rfl,hA.toExt⟩
end Attr
end
section
namespace Path
open Go.RowKit Go.Shelf
attribute [local go_sem] Oper.semAt_some
abbrev bl (x:ByteArray):Bs:=x.data.toList
def Znx:ByteArray:=⟨#[47]⟩
def keep3 (b1 b2 b3:Nat) (W W':World):Prop:=∀b,b=b1∨b=b2∨b=b3→W'.heap[b]? =W.heap[b]?
def lenAt (w:World) (b:Nat):Nat:=match w.heap[b]? with|some (.cells #[.string r] _ _)=>r.size|_=>0
theorem ZiI {w:World} {b:Nat} {r:ByteArray} {t:TypeId} (h:Boxed w b t (.string r)):lenAt w b=r.size:=by
 unfold lenAt;rw[show w.heap[b]? =_ from h];rfl
theorem ZmL {l:Bs} (h:Lib.indexByte l 47 < 0):Zam l=[l]:=by
 refine ZbQ l (fun c hc e=> ?_);subst e;have h1:Lib.indexByte l 47= -1:=by have:=Lib.indexByte_ge l 47;omega
 obtain⟨k,hk⟩:=List.mem_iff_getElem?.1 hc;exact Lib.indexByte_none h1 k hk
theorem ZmK {l:Bs} {i:Nat} (h:Lib.indexByte l 47=i):i < l.length∧Zam l=l.take i::Zam (l.drop (i + 1)):=by
 obtain⟨h1,h2⟩:=Lib.indexByte_some h;have hi:=(List.getElem?_eq_some_iff.1 h1).1;refine⟨hi,?_⟩
 have e:l=l.take i++47::l.drop (i + 1):=by
  have:=(List.getElem?_eq_some_iff.1 h1).2;rw[←this,←List.drop_eq_getElem_cons hi,List.take_append_drop]
 conv=>lhs;rw[e]
 rw[ZdJ _ _ (fun c hc ec=> ?_)];subst ec;obtain⟨k,hk⟩:=List.mem_iff_getElem?.1 hc;rw[List.getElem?_take] at hk;split at hk
 · rename_i hki;exact h2 k hki hk
 cases hk
theorem Zg9 (n:Nat) (r:ByteArray) (w:World):CallsIn Fence.wide n Tryz.prog 138 #[.string r,.string ⟨#[47]⟩] w fun e w'=>e=.returned (.int .i64 (Lib.indexByte r.data.toList 47))∧w=w':=
 callsIn_wide.2 ((Tryz.strings_Index_one _ _ _).mono fun _ _ ⟨he,hw⟩=>⟨he,hw.symm⟩)
theorem Zj6 (n:Nat) (hn:3≤n) (l Bs Bp Bv:Nat) (h12:Bs≠Bp) (h13:Bs≠Bv) (s:ByteArray) (hs:s.size≤2000000) (J Jx:List ByteArray→World→Prop) (W:World) (hJ:Zij Bs J)
 (hY:∀pre x W1,J pre W1→pre.length < 2000001→YieldAt Fence.wide (n - 1) Tryz.prog l #[.string x] W1 fun e W'=>(e=.returned (.bool true)∧J (pre++[x]) W'∧keep3 Bs Bp Bv W1 W')∨(e=.returned (.bool false)∧Jx (pre++[x]) W'))
 (h1:Boxed W Bs 9 (.string s)) (h2:Boxed W Bp 9 (.string Znx)) (h3:Boxed W Bv 3 (.int .i64 0)) (h0:J [] W):
 CallsIn Fence.wide n Tryz.prog 136 #[.func (.yield l) #[] #[],.pointer (some ⟨Bp,0,none⟩),.pointer (some ⟨Bs,0,none⟩),.pointer (some ⟨Bv,0,none⟩)] W fun e W'=>
  (∃v,e=.returned v)∧((∃ys:List ByteArray,ys.map bl=Zam (bl s)∧J ys W')∨(∃pre:List ByteArray,pre.map bl <+:Zam (bl s)∧Jx pre W')):=by
 have hn1:1≤n:=by omega
 have c1:=h1.cell;have c2:=h2.cell;have c3:=h3.cell;refine callsIn_of_wp Tryz.func136 rfl trivial ?_ rfl;simp only[Tryz.ntmps136,List.size_toArray,List.length_cons,List.length_nil,Nat.reduceAdd,Nat.reduceSub,Array.replicate_succ,Array.replicate_zero,List.push_toArray,List.append_toArray,List.nil_append,List.cons_append];unfold Znx at c2;gi_wp2
 gi_loopw [7] (fun _ wr=>∃(pre:List ByteArray) (r:ByteArray),Zam (bl s)=pre.map bl++Zam (bl r)∧pre.length + r.size≤s.size∧J pre wr∧Boxed wr Bs 9 (.string r)∧Boxed wr Bp 9 (.string ⟨#[47]⟩)∧Boxed wr Bv 3 (.int .i64 0))
  (fun _ wr=>lenAt wr Bs)
 case atStart=>exact⟨[],s,rfl,by simp,h0,h1,h2,h3⟩
 case round=>
  obtain⟨pre,r,hsp,hlen,hJs,b1,b2,b3⟩:=hrel;clear c1 c2 c3;have c1:=b1.cell;have c2:=b2.cell;have c3:=b3.cell;rcases Int.lt_or_le (Lib.indexByte (bl r) 47) 0 with hi|hi
  · have hsr:=ZmL hi;have hi':decide (Lib.indexByte r.data.toList 47 < 0)=true:=by simpa using hi
    gi_wp2_with fail
    refine⟨trivial,(Zg9 _ _ _).mono ?_⟩;rintro e _ ⟨rfl,rfl⟩;obtain⟨fn,tmps,assign,body,hy,hR⟩:=hY pre r wr hJs (by omega);have hsp':=Hd hsp;have hsr':=Hd hsr;clear hsp hsr
    gi_wp2
    refine hR.mono ?_;rintro e W3 (⟨rfl,hJ3,hk3⟩|⟨rfl,hJx3⟩)
    · gi_wp2
      go_end0
      exact⟨⟨_,rfl⟩,.inl ⟨pre++[r],by rw[hsp'.out,hsr'.out];simp,hJ3⟩⟩
    gi_wp2
    go_end0
    exact⟨⟨_,rfl⟩,.inr ⟨pre++[r],by rw[hsp'.out,hsr'.out];simp,hJx3⟩⟩
  obtain⟨i,hi2⟩:=Int.eq_ofNat_of_zero_le hi;obtain⟨hilt,hsr⟩:=ZmK hi2;have hi':decide (Lib.indexByte r.data.toList 47 < 0)=false:=by simpa using hi
  have hi3:=Hd hi2;have hrl:(bl r).length=r.size:=by simp
  have hil:i + 1≤r.size:=by omega
  have hsp':=Hd hsp;have hsr':=Hd hsr;clear hsp hsr hi2;gi_wp2_with fail
  refine⟨trivial,(Zg9 _ _ _).mono ?_⟩;rintro e _ ⟨rfl,rfl⟩;rw[show Lib.indexByte r.data.toList 47=(i:Int) from hi3.out];clear hi hi' hi3 hilt hrl
  have hi':decide ((i:Int) < 0)=false:=by simp
  obtain⟨fn,tmps,assign,body,hy,hR⟩:=hY pre (r.extract 0 i) wr hJs (by omega);gi_wp2
  refine hR.mono ?_;have e1:bl (r.extract 0 i)=(bl r).take i:=by simp[bl]
  have e2:bl (r.extract (i + 1) r.size)=(bl r).drop (i + 1):=by simp only[bl];simp;rw[List.take_of_length_le (by simp)]
  have e1':=Hd e1;have e2':=Hd e2;clear e1 e2;rintro e W3 (⟨rfl,hJ3,hk3⟩|⟨rfl,hJx3⟩)
  · have d1:Boxed W3 Bs 9 (.string r):=(hk3 Bs (.inl rfl)).trans b1;have d2:Boxed W3 Bp 9 (.string ⟨#[47]⟩):=(hk3 Bp (.inr (.inl rfl))).trans b2;have d3:Boxed W3 Bv 3 (.int .i64 0):=(hk3 Bv (.inr (.inr rfl))).trans b3;have x1:=d1.cell;have x2:=d2.cell;have x3:=d3.cell;have f1:=d1.frozen;clear hR hy hk3;gi_wp2
    have g1:=d1.set (.string (r.extract (i + 1) r.size));go_roundw
    case rel=>
     refine⟨pre++[r.extract 0 i],r.extract (i + 1) r.size,?_,?_,?_,g1,d2.other (Ne.symm h12) _,d3.other (Ne.symm h13) _⟩
     · rw[hsp'.out,hsr'.out,e2'.out];simp[e1'.out]
     · simp;omega
     exact hJ _ _ _ (some Bs) hJ3 (grownBy_setCell' W3 Bs _) (fun q e=>by cases e;exact⟨rfl,_,g1,rfl⟩)
    case measure=>
     rw[ZiI g1,ZiI b1];simp;omega
  gi_wp2
  refine bodyPost_ret (results_none rfl _ _ _) rfl ?_;exact⟨⟨_,rfl⟩,.inr ⟨pre++[r.extract 0 i],⟨Zam ((bl r).drop (i + 1)),by rw[hsp'.out,hsr'.out,List.map_append,List.append_assoc];simp[e1'.out]⟩,hJx3⟩⟩
theorem ZgG (s:ByteArray) (w:World):Calls Tryz.prog 104 #[.string s,.string ⟨#[47]⟩] w fun e w'=>
 e=.returned (.func (.func 136) #[] #[.pointer (some ⟨w.heap.size + 1,0,none⟩),.pointer (some ⟨w.heap.size,0,none⟩),.pointer (some ⟨w.heap.size + 2,0,none⟩)])∧
  w'=((w.alloc (.cells #[.string s] 9)).alloc (.cells #[.string ⟨#[47]⟩] 9)).alloc (.cells #[.int .i64 0] 3):=by
 have h1:Calls Tryz.prog 125 #[.string s,.string ⟨#[47]⟩,.int .i64 0] w fun e w'=>
  e=.returned (.func (.func 136) #[] #[.pointer (some ⟨w.heap.size + 1,0,none⟩),.pointer (some ⟨w.heap.size,0,none⟩),.pointer (some ⟨w.heap.size + 2,0,none⟩)])∧
   w'=((w.alloc (.cells #[.string s] 9)).alloc (.cells #[.string ⟨#[47]⟩] 9)).alloc (.cells #[.int .i64 0] 3):=by
  go_enter Tryz.func125,Tryz.ntmps125;go_wp2
  go_ret;exact⟨rfl,rfl⟩
 go_enter Tryz.func104,Tryz.ntmps104;go_wp2_with fail;refine h1.mono ?_;rintro e _ ⟨rfl,rfl⟩;go_wp2_with fail;go_ret;exact⟨rfl,rfl⟩
end Path
end
end Go.Proofs.YtbeckijoabapkaaGreatDoor
section
namespace Go.Proofs.YtbeckijoabapkaaGreatDoor.Cmd
open Path (bl Zag overB)
structure Cm where
 kind:Int
 num:Int
 foot:ByteArray
 req:Int
 path:ByteArray
 mode:Int
 n:Int
 time:Int
deriving DecidableEq
def Cm.cells (c:Cm):List Value:=[.int .i64 c.kind,.int .u64 c.num,.string c.foot,.int .u64 c.req,.string c.path,.int .i64 c.mode,.int .u64 c.n,.int .i64 c.time]
def Cm.val (c:Cm):Value:=.agg #[.int .i64 c.kind,.int .u64 c.num,.string c.foot,.int .u64 c.req,.string c.path,.int .i64 c.mode,.int .u64 c.n,.int .i64 c.time]
structure Hs where
 session:Bool
 request:Bool
 path:Bool
 mode:Bool
 n:Bool
 time:Bool
def hasOf (k:Int):Option Hs:=
 if k=0 then some ⟨false,false,false,false,false,false⟩
 else if k=1 then some ⟨true,true,false,false,true,true⟩
 else if k=2 then some ⟨true,true,false,false,false,false⟩
 else if k=3 then some ⟨true,true,false,false,false,true⟩
 else if k=4 then some ⟨true,true,true,true,false,false⟩
 else if k=5 then some ⟨true,true,true,true,false,false⟩
 else if k=6 then some ⟨true,true,true,false,false,false⟩
 else if k=7 then some ⟨true,true,true,false,true,false⟩
 else if k=8 then some ⟨true,false,false,false,false,true⟩
 else none
def bareC (c:Cm) (h:Hs):Cm:=⟨c.kind,if h.session then c.num else 0,if h.session then c.foot else .empty,if h.request then c.req else 0,if h.path then c.path else .empty,if h.mode then c.mode else 0,if h.n then c.n else 0,if h.time then c.time else 0⟩
def mostN (k:Int):Int:=if k=1 then 1048576 else 9223372036854775807
def Zcm (c:Cm) (h:Hs):Bool:=decide (c=bareC c h)&&(!h.session || Zag (bl c.foot))&&(!h.request || !(c.req==0))&&(!h.path || Zag (bl c.path))&&(!h.mode || !((c.mode != 1)&&(c.mode != 2)))&&(!h.n || !((c.n==0) || decide (mostN c.kind < c.n)))&&(decide (0≤c.time)&&decide (c.time≤1099511627776))
def Zar (c:Cm):Bool:=match hasOf c.kind with
 |some h=>Zcm c h
 |none=>false
def footC (c:Cm):ByteArray × Bool:=if Zar c then(match hasOf c.kind with
 |some h=>if h.path then(c.path,true) else(c.foot,h.session)
 |none=>(.empty,false)) else(.empty,false)
def keyC (c:Cm):Option (ByteArray × Int):=if(footC c).2 then some ((footC c).1,c.num) else none
end Go.Proofs.YtbeckijoabapkaaGreatDoor.Cmd
namespace Go
abbrev k8 (k n:Int) (f:ByteArray) (r:Int) (p:ByteArray) (m u t:Int):List Value:=[.int .i64 k,.int .u64 n,.string f,.int .u64 r,.string p,.int .i64 m,.int .u64 u,.int .i64 t]
abbrev k2 (p q:Nat):List Value:=[.pointer (some ⟨p,0,none⟩),.pointer (some ⟨q,0,none⟩)]
end Go
end
namespace Go.Proofs.YtbeckijoabapkaaGreatDoor
section
namespace Path
open Go.RowKit Go.Shelf
attribute [local go_sem] Oper.semAt_some
def strC (x:ByteArray):List Value:=[.string x]
theorem Zit (x:ByteArray):(strC x).length=1:=rfl
theorem Zl3 (x:ByteArray):∀u ∈ strC x,u.oneCell'=true:=by intro u hu;simp[strC] at hu;subst hu;rfl
def flatS (ws:List ByteArray):List Value:=ws.flatMap strC
abbrev rowS (v:Value) (ws:List ByteArray):Part:=Part.row 9 1 v ws.length (flatS ws)
theorem Zot:(Tryz.prog.info? 9).map (fun i=>(i.zero,i.size,i.bytes))=some (some (.string .empty),1,16):=by kernel_rfl
def WI (w:World) (N:Nat) (pre:List ByteArray) (W:World):Prop:=
 ∃(v:Value) (ws:List ByteArray),At [] w [Part.hole (N + 3),Part.cells (N + 2) [v] 173,rowS v ws,Part.cells N [.slice none 0 0] 173,Part.cells (N + 1) [.int .i64 0] 38,Part.hole (N + 4),Part.hole (N + 5)] W∧
  walkL [] (pre.map bl)=some (ws.map bl)∧ws.length≤pre.length
def WIx (w:World) (N:Nat) (c:Code) (pre:List ByteArray) (W:World):Prop:=
 c=.ret∧At [] w [Part.hole (N + 3),Part.cells N [.slice none 0 0] 173,Part.cells (N + 1) [.int .i64 30] 38] W∧walkL [] (pre.map bl)=none
theorem wi_own (w:World) (N B:Nat) (hB:w.heap.size≤B):OwnB (N + 3) B (WI w N):=by
 rintro pre W W' row ⟨v,ws,hA,h1,h2⟩ hg hr;refine⟨v,ws,hA.ownB sR ?_ hB hg hr,h1,h2⟩;intro A hA;simp only[List.mem_cons,List.not_mem_nil,or_false] at hA;rcases hA with rfl|rfl|rfl|rfl|rfl|rfl|rfl;all_goals first|exact Part.cl_hole _|exact Part.cl_cells _ _ _|exact Part.cl_row _ _ _ _ _
theorem ZnT (w:World) (N B:Nat) (hB:w.heap.size≤B) (c:Code):OwnB (N + 3) B (WIx w N c):=by
 rintro pre W W' row ⟨hc,hA,h1⟩ hg hr;refine⟨hc,hA.ownB sR ?_ hB hg hr,h1⟩;intro A hA;simp only[List.mem_cons,List.not_mem_nil,or_false] at hA;rcases hA with rfl|rfl|rfl;all_goals first|exact Part.cl_hole _|exact Part.cl_cells _ _ _
def ZhD:Option (List Bs)→Int
 |none=>30
 |some _=>0
def Znm (s:ByteArray) (w:World) (e:Ending) (w':World):Prop:=
 ∃(v:Value) (ws:List ByteArray),e=.returned (.tuple #[v,.int .i64 (ZhD (walkL [] (Zam (bl s))))])∧At [] w [rowS v ws] w'∧(walkL [] (Zam (bl s))=some (ws.map bl)∨walkL [] (Zam (bl s))=none∧ws=[])∧ws.length≤s.size + 1
theorem Zde:∀l:Bs,(Zam l).length≤l.length + 1
 |[]=>by simp[Zam]
 |c::r=>by
  have ih:=Zde r;rw[ZaW];split
  · simpa using ih
  simp;omega
theorem Zio (l m acc:List Bs):walkL acc (l++m)=(walkL acc l).bind fun a=>walkL a m:=by
 induction l generalizing acc with
 |nil=>rfl
 |cons p l ih=>
  rw[List.cons_append,walkL,walkL]
  cases stepW acc p with
  |none=>rfl
  |some a=>exact ih a
theorem ZhK (n:Nat) (s:ByteArray) (w:World):CallsIn Fence.wide n Tryz.prog 104 #[.string s,.string ⟨#[47]⟩] w fun e w'=>
 e=.returned (.func (.func 136) #[] #[.pointer (some ⟨w.heap.size + 1,0,none⟩),.pointer (some ⟨w.heap.size,0,none⟩),.pointer (some ⟨w.heap.size + 2,0,none⟩)])∧
  ((w.alloc (.cells #[.string s] 9)).alloc (.cells #[.string ⟨#[47]⟩] 9)).alloc (.cells #[.int .i64 0] 3)=w':=
 callsIn_wide.2 ((ZgG s w).mono fun _ _ ⟨he,hw⟩=>⟨he,hw.symm⟩)
theorem _root_.Go.Proofs.YtbeckijoabapkaaGreatDoor.At.toHole {L0 L G:List Part} {w0 w:World} {b:Nat} {c:List Value} {T:TypeId} (h:At L0 w0 L w) (s:Sel (Part.cells b c T) L G):At L0 w0 (Part.hole b::G) w:=
 h.turn s (Part.hole b) ⟨_,(h.get s:Zaa w b c T),rfl⟩ (fun _ e=>.inl e) (Exc.refl _ _)
def Zcj (s:ByteArray) (w:World):World:=(((((w.alloc (.cells #[.slice none 0 0] 173)).alloc (.cells #[.int .i64 0] 38)).alloc (.cells #[.slice none 0 0] 173)).alloc (.cells #[.string s] 9)).alloc (.cells #[.string ⟨#[47]⟩] 9)).alloc (.cells #[.int .i64 0] 3)
theorem Zj5 (s:ByteArray) (w:World):At [] w [rowS (.slice none 0 0) [],Part.hole (w.heap.size + 5),Part.hole (w.heap.size + 4),Part.hole (w.heap.size + 3),Part.cells (w.heap.size + 2) [.slice none 0 0] 173,Part.cells (w.heap.size + 1) [.int .i64 0] 38,Part.cells w.heap.size [.slice none 0 0] 173] (Zcj s w)∧
 Boxed (Zcj s w) (w.heap.size + 3) 9 (.string s)∧Boxed (Zcj s w) (w.heap.size + 4) 9 (.string ⟨#[47]⟩)∧Boxed (Zcj s w) (w.heap.size + 5) 3 (.int .i64 0)∧(Zcj s w).heap.size=w.heap.size + 6:=by
 have q:=(At.start (w0:=w) (L0:=[]) trivial).alloc [.slice none 0 0] 173;have q:=q.alloc [.int .i64 0] 38;have q:=q.alloc [.slice none 0 0] 173;have q:=q.alloc [.string s] 9;have q:=q.alloc [.string ⟨#[47]⟩] 9;have q:=q.alloc [.int .i64 0] 3;simp only[World.size_alloc,Nat.add_assoc,Nat.reduceAdd] at q;change At [] w _ (Zcj s w) at q;have b1:Boxed (Zcj s w) (w.heap.size + 3) 9 (.string s):=q.get (A:=Part.cells (w.heap.size + 3) [.string s] 9) sR;have b2:Boxed (Zcj s w) (w.heap.size + 4) 9 (.string ⟨#[47]⟩):=q.get (A:=Part.cells (w.heap.size + 4) [.string ⟨#[47]⟩] 9) sR;have b3:Boxed (Zcj s w) (w.heap.size + 5) 3 (.int .i64 0):=q.get (A:=Part.cells (w.heap.size + 5) [.int .i64 0] 3) sR;have q:=q.toHole (b:=w.heap.size + 3) sR;have q:=q.toHole (b:=w.heap.size + 4) sR;have q:=q.toHole (b:=w.heap.size + 5) sR;have q:=q.row_nil 9 1;exact⟨q,b1,b2,b3,by simp[Zcj]⟩
theorem Znf {w W W':World} {N B:Nat} {K K':List Part} (h:At [] w (K++[Part.hole (N + 3),Part.hole (N + 4),Part.hole (N + 5)]) W) (hc:∀A ∈ K,A.Cl) (t:At K W K' W'):
 KeepsFrom B W W'∧keep3 (N + 3) (N + 4) (N + 5) W W'∧At [] w (K'++[Part.hole (N + 3),Part.hole (N + 4),Part.hole (N + 5)]) W':=by
 obtain⟨s1,s2,s3⟩:=h.sep.apart2;refine⟨t.keepsFrom s1 hc B,fun b hb=> ?_,h.frame t⟩
 have key:∀H:Part,H ∈ [Part.hole (N + 3),Part.hole (N + 4),Part.hole (N + 5)]→H.foot b→W'.heap[b]? =W.heap[b]? :=fun H hH hf=>
  t.exc.block b (s2.lt hH hf) (fun⟨A,hA,ha⟩=>s3 A hA H hH b ha hf)
 rcases hb with rfl|rfl|rfl
 · exact key (Part.hole (N + 3)) (by simp) rfl
 · exact key (Part.hole (N + 4)) (by simp) rfl
 exact key (Part.hole (N + 5)) (by simp) rfl
theorem step_nil {acc:List Bs}:stepW acc []=some acc:=by simp[stepW]
theorem Zl5 {acc:List Bs}:stepW acc [46]=some acc:=by simp[stepW]
theorem Zl4:stepW [] [46,46]=none:=by simp[stepW]
theorem ZnY {acc:List Bs} (h:acc≠[]):stepW acc [46,46]=some acc.dropLast:=by simp[stepW,h]
theorem ZnZ {acc:List Bs} {p:Bs} (h0:p≠[]) (h1:p≠[46]) (h2:p≠[46,46]) (h:partB p=false):stepW acc p=none:=by
 have h3:¬p.all letB=true:=fun q=>by rw[Zdj.2 ⟨h0,q⟩] at h;cases h
 simp[stepW,h0,h1,h2,h3]
theorem Ze3 {x y:ByteArray} (h:bl x=bl y):x=y:=Go.WideShapes.bytes_inj h
theorem ZjT {pre:List ByteArray} {x:ByteArray} {acc:List Bs} (h:walkL [] (pre.map bl)=some acc):walkL [] ((pre++[x]).map bl)=stepW acc (bl x):=by
 rw[List.map_append,Zio,h];simp only[List.map_cons,List.map_nil,Option.bind_some,walkL];cases stepW acc (bl x)<;>rfl
theorem _root_.Go.Proofs.YtbeckijoabapkaaGreatDoor.At.trans {L0 L L':List Part} {w0 w w':World} (h:At L0 w0 L w) (t:At L w L' w'):At L0 w0 L' w':=by
 have:=At.frame (F:=[]) (K:=L) (by simpa using h) t
 simpa using this
def WAct (s:ByteArray) (w:World) (x:ByteArray):Act:=
 {tmps:= #[.string s,undef,.pointer (some ⟨w.heap.size,0,none⟩),.pointer (some ⟨w.heap.size + 1,0,none⟩),.pointer (some ⟨w.heap.size + 2,0,none⟩),.string x,.string s,.func (.func 136) #[] #[.pointer (some ⟨w.heap.size + 4,0,none⟩),.pointer (some ⟨w.heap.size + 3,0,none⟩),.pointer (some ⟨w.heap.size + 5,0,none⟩)],.string x,
  undef,undef,undef,undef,undef,undef,undef,undef,undef,undef,undef,undef,undef,undef,undef,undef,undef,undef,undef,undef,undef,undef,undef,undef,undef,undef,undef,undef,undef,undef,undef,undef],defers:=[]}
theorem ZlV (s:ByteArray) (w:World) (hs:s.size≤2000000):Calls Tryz.prog 92 #[.string s] w (Znm s w):=by
 obtain⟨i0,hi0,hz0,hz1,hz2⟩:=info_parts Zot;refine(callsIn_wide (n:=9)).1 ?_;refine callsIn_of_wp_marks Tryz.func92 rfl trivial ?_ rfl;simp only[Tryz.ntmps92,List.size_toArray,List.length_cons,List.length_nil,Nat.reduceAdd,Nat.reduceSub,Array.replicate_succ,Array.replicate_zero,List.push_toArray,List.append_toArray,List.nil_append,List.cons_append];gi_wp2
 refine⟨trivial,(ZhK 8 s _).mono ?_⟩;rintro e _ ⟨rfl,rfl⟩
 gi_wp2
 obtain⟨W5,hW5⟩:∃W5,Zcj s w=W5:=⟨_,rfl⟩
 obtain⟨q,b1,b2,b3,hsz⟩:=Zj5 s w;simp only[World.size_alloc,Nat.add_assoc,Nat.reduceAdd];rw[show((((((w.alloc (.cells #[.slice none 0 0] 173)).alloc (.cells #[.int .i64 0] 38)).alloc (.cells #[.slice none 0 0] 173)).alloc (.cells #[.string s] 9)).alloc (.cells #[.string ⟨#[47]⟩] 9)).alloc (.cells #[.int .i64 0] 3))=W5 from hW5];rw[hW5] at q b1 b2 b3 hsz;clear hW5
 refine Zd4 rfl (by omega) (gf:=136) (lb:= #[.pointer (some ⟨w.heap.size + 4,0,none⟩),.pointer (some ⟨w.heap.size + 3,0,none⟩),.pointer (some ⟨w.heap.size + 5,0,none⟩)]) rfl trivial (enters_of Tryz.func136 (by kernel_rfl) rfl)
  (encs:=fun x:ByteArray=> #[.string x]) (Bs:=w.heap.size + 3) (Kp:=keep3 (w.heap.size + 3) (w.heap.size + 4) (w.heap.size + 5)) (S:=fun xs=>xs.map bl=Zam (bl s)) (Sp:=fun pre=>pre.map bl <+:Zam (bl s)) (N:=2000001)
  (fun l J Jx W hW hJ hY h0=>Zj6 _ (by omega) l _ _ _ (by omega) (by omega) s hs J Jx W hJ hY ((hW.block _ b1.lt).trans b1) ((hW.block _ b2.lt).trans b2) ((hW.block _ b3.lt).trans b3) h0)
  (by omega) (fun h k b hb=>(k b hb).trans (h b hb)) (fun W l o' hl b hb=>World.putObj_heap_other (by omega)) (fun _=>rfl)
  (WI w w.heap.size) (WIx w w.heap.size) (wi_own _ _ _ (by omega)) (ZnT _ _ _ (by omega)) ⟨_,[],q.pick pR,rfl,by simp⟩ (WAct s w) ?assign ?body ?done ?stop
 case assign=>
  intro l x W K hK;gi_wp2
  exact hK
 case body=>
  rintro l pre x W ⟨v,ws,hA,hwk,hle⟩ hlen;have h0:=hA.pick (K:=[Part.cells (w.heap.size + 2) [v] 173,rowS v ws,Part.cells w.heap.size [.slice none 0 0] 173,Part.cells (w.heap.size + 1) [.int .i64 0] 38,Part.hole (w.heap.size + 3),Part.hole (w.heap.size + 4),Part.hole (w.heap.size + 5)]) pR;have h1:At [] w ([Part.cells (w.heap.size + 2) [v] 173,rowS v ws,Part.cells w.heap.size [.slice none 0 0] 173,Part.cells (w.heap.size + 1) [.int .i64 0] 38]++[Part.hole (w.heap.size + 3),Part.hole (w.heap.size + 4),Part.hole (w.heap.size + 5)]) W:=h0
  have hcl:∀A ∈ [Part.cells (w.heap.size + 2) [v] 173,rowS v ws,Part.cells w.heap.size [.slice none 0 0] 173,Part.cells (w.heap.size + 1) [.int .i64 0] 38],A.Cl:=by
   intro A hA;simp only[List.mem_cons,List.not_mem_nil,or_false] at hA;rcases hA with rfl|rfl|rfl|rfl;all_goals first|exact Part.cl_cells _ _ _|exact Part.cl_row _ _ _ _ _
  have hfin:=fun(B:Nat) (K':List Part) (W':World) (t:At _ W K' W')=>Znf (B:=B) h1 hcl t;have hA2:=At.start h1.sep.apart2.1;have hsn:=fun x=>Hd (ZjT (x:=x) hwk);clear hA h0 h1 hcl hwk hsz q b1 b2 b3;have hA:=hA2;clear hA2;obtain⟨hA,hF⟩:=fZ hA;unfold WAct;by_cases e0:bl x=[]∨bl x=[46]
  · have hk:stepW (ws.map bl) (bl x)=some (ws.map bl):=by rcases e0 with e|e<;>rw[e]<;>first|exact step_nil|exact Zl5
    have hk':=Hd hk;clear hk;rcases e0 with e0|e0
    · obtain rfl:x=⟨#[]⟩:=Ze3 e0;gi_wp2
      obtain⟨k1,k2,k3⟩:=hfin _ _ _ hA;simp only[List.cons_append,List.nil_append] at k3;exact⟨k1,k2,v,ws,k3.pick pR,by rw[(hsn _).out,hk'.out],by simp;omega⟩
    obtain rfl:x=⟨#[46]⟩:=Ze3 e0;gi_wp2
    obtain⟨k1,k2,k3⟩:=hfin _ _ _ hA;simp only[List.cons_append,List.nil_append] at k3;exact⟨k1,k2,v,ws,k3.pick pR,by rw[(hsn _).out,hk'.out],by simp;omega⟩
  by_cases e1:bl x=[46,46]
  · obtain rfl:x=⟨#[46,46]⟩:=Ze3 e1;clear e0;obtain⟨ax,cap,rfl,hax,hcap,_⟩:=hA.row_form (v:=v) (xs:=flatS ws) sR;by_cases e2:ws=[]
    · subst e2
      gi_wp2_with (refine ZaR (by exact fun _=>trivial) rfl rfl rfl (by(try simp only[Act.eval,eV])<;>exact rfl) (by exact rfl) hA sR (by kernel_rfl) rfl (by first|decide|(simp;done)|omega) ?_;intro w1 hB;replace hA:=hB;clear hF hB;obtain⟨hA,hF⟩:=fZ hA)
      obtain⟨k1,k2,k3⟩:=hfin _ _ _ hA;simp only[List.cons_append,List.nil_append] at k3;exact⟨k1,rfl,k3.pick pR,by rw[(hsn _).out];exact Zl4⟩
    have hl:0 < ws.length:=List.length_pos_iff.2 e2;have hl1:((ws.length:Int)==0)=false:=by simpa using e2
    have hl2:=Hd (show((ws.length:Int) - 1)=((ws.length - 1:Nat):Int) by omega);have e2':=Hd e2;clear e2
    gi_wp2_with (first|(refine ZaR (by exact fun _=>trivial) rfl rfl rfl (by(try simp only[Act.eval,eV])<;>exact rfl) (by exact rfl) hA sR (by kernel_rfl) rfl (by first|decide|(simp;done)|omega) ?_;intro w1 hB;replace hA:=hB;clear hF hB;obtain⟨hA,hF⟩:=fZ hA)|(refine Zeh (k:=ws.length - 1) (by exact fun _=>trivial) rfl rfl Tryz.underlying173 hi0 hz1 (by(try simp only[Act.eval,eV])<;>exact rfl) (by exact congrArg (Value.int .i64) hl2.out) hA sR (by omega) ?_;intro v1 hB;obtain⟨ax3,n3,cap3,hv3,hn3⟩:=hB.row_hid .here;subst hv3;replace hA:=hB;clear hF hB;obtain⟨hA,hF⟩:=fZ hA))
    have e3:(flatS ws).take ((ws.length - 1) * 1)=flatS ws.dropLast:=by
     unfold flatS;rw[Zhe Zit,List.dropLast_eq_take]
    have e4:ws.length - 1=ws.dropLast.length:=by simp
    rw[e3] at hA;have hA2:At _ W _ w1:=hA;rw[e4] at hA2;obtain⟨k1,k2,k3⟩:=hfin _ _ _ hA2;simp only[List.cons_append,List.nil_append] at k3;exact⟨k1,k2,_,ws.dropLast,k3.pick pZ,by rw[(hsn _).out];exact(ZnY (by simpa using e2'.out)).trans (by rw[List.map_dropLast]),by simp;omega⟩
  have n0:x.toList.isEmpty=false:=by
   rw[Lib.toList_data];cases q:x.data.toList
   · exact absurd (Or.inl q) e0
   rfl
  have n1:(x.toList==[46])=false:=by rw[Lib.toList_data];simpa using fun q=>e0 (Or.inr q)
  have n2:(x.toList==[46,46])=false:=by rw[Lib.toList_data];simpa using e1
  have hne:bl x≠[]:=fun q=>e0 (Or.inl q);cases hp:partB (bl x)
  · have hk:=Hd (ZnZ (acc:=ws.map bl) hne (fun q=>e0 (Or.inr q)) e1 hp);clear e0 e1 hne;obtain⟨ax,cap,rfl,hax,hcap,_⟩:=hA.row_form (v:=v) (xs:=flatS ws) sR;gi_wp2_with fail
    refine⟨trivial,(CallsIn.inRound l (callsIn_wide.2 (ZiA x W))).mono ?_⟩;rw[show partB x.data.toList=false from hp];rintro e w1 ⟨rfl,hT⟩;replace hA:=hA.ext hT;clear hF hT;obtain⟨hA,hF⟩:=fZ hA
    gi_wp2_with (refine ZaR (by exact fun _=>trivial) rfl rfl rfl (by(try simp only[Act.eval,eV])<;>exact rfl) (by exact rfl) hA sR (by kernel_rfl) rfl (by first|decide|(simp;done)|omega) ?_;intro w1 hB;replace hA:=hB;clear hF hB;obtain⟨hA,hF⟩:=fZ hA)
    obtain⟨k1,k2,k3⟩:=hfin _ _ _ hA;simp only[List.cons_append,List.nil_append] at k3;exact⟨k1,rfl,k3.pick pR,by rw[(hsn _).out];exact hk.out⟩
  have hk:=Hd (ZgC (acc:=ws.map bl) hp);clear e0 e1 hne;obtain⟨ax,kn,cap,hv0,hkn⟩:=hA.row_hid (v:=v) (xs:=flatS ws) sR;subst hv0;gi_wp2_with fail
  refine⟨trivial,(CallsIn.inRound l (callsIn_wide.2 (ZiA x W))).mono ?_⟩;rw[show partB x.data.toList=true from hp];rintro e w1 ⟨rfl,hT⟩;replace hA:=hA.ext hT;clear hF hT;obtain⟨hA,hF⟩:=fZ hA
  gi_wp2_with (first|(refine ZaR (by exact fun _=>trivial) rfl rfl rfl (by(try simp only[Act.eval,eV])<;>exact rfl) (by exact rfl) hA sR (by kernel_rfl) rfl (by first|decide|(simp;done)|omega) ?_;intro w1 hB;replace hA:=hB;clear hF hB;obtain⟨hA,hF⟩:=fZ hA;try go_frame)|(refine Zeg (e:=9) (vs:=strC x) (by exact fun _=>trivial) rfl rfl (by(try simp only[Act.eval,eV])<;>exact rfl) (fun _=>by kernel_rfl) hA ?_;intro b2 w1 hB hb2;replace hA:=hB;clear hF hB;obtain⟨hA,hF⟩:=fZ hA;try go_frame)|(refine Zc9 (e:=9) (size:=1) (v:=.slice ax kn cap) (xs:=flatS ws) (m0:=ws.length) (m:=1) (news:=strC x) (by exact fun _=>trivial) rfl _ _ 173 rfl Tryz.underlying173 hi0 hz0 hz1 hz2 rfl (by omega) hA sR (by(try simp only[Act.eval,eV])<;>exact rfl) (by(try simp only[Act.eval,eV])<;>exact rfl) rfl (hA.cells_reads sR _ _) (Zl3 x) (by unfold maxLen;omega) (by omega) ?_;intro v1 w1 hB;obtain⟨ax3,n3,cap3,hv3,hn3⟩:=hB.row_hid .here;subst hv3;replace hA:=hB;clear hF hB;obtain⟨hA,hF⟩:=fZ hA;try go_frame))
  rw[show flatS ws++strC x=flatS (ws++[x]) by simp[flatS,List.flatMap_append],show ws.length + 1=(ws++[x]).length by simp] at hA;obtain⟨k1,k2,k3⟩:=hfin _ _ _ hA;simp only[List.cons_append,List.nil_append] at k3;exact⟨k1,k2,_,ws++[x],k3.pick pZ,by rw[(hsn _).out];exact hk.out.trans (by simp),by simp;omega⟩
 case done=>
  rintro D xs W hD hS ⟨v,ws,hA,hwk,hle⟩ hK;rw[hS] at hwk;obtain⟨ax,kn,cap,hv0,hkn⟩:=hA.row_hid (v:=v) (xs:=flatS ws) sR;subst hv0;have hwk':=Hd hwk;have hSl:xs.length=(Zam (bl s)).length:=by rw[←hS];simp
  have hS':=Hd hSl;have hK':=Hd hK;clear hS hwk hSl hK
  have hcl:∀A ∈ [Part.hole (w.heap.size + 3),Part.cells (w.heap.size + 2) [.slice ax kn cap] 173,rowS (.slice ax kn cap) ws,Part.cells w.heap.size [.slice none 0 0] 173,Part.cells (w.heap.size + 1) [.int .i64 0] 38,Part.hole (w.heap.size + 4),Part.hole (w.heap.size + 5)],A.Cl:=by
   intro A hA;simp only[List.mem_cons,List.not_mem_nil,or_false] at hA;rcases hA with rfl|rfl|rfl|rfl|rfl|rfl|rfl;all_goals first|exact Part.cl_hole _|exact Part.cl_cells _ _ _|exact Part.cl_row _ _ _ _ _
  have hcl2:∀A ∈ [Part.cells (w.heap.size + 1) [.int .i64 0] 38,Part.cells w.heap.size [.slice ax kn cap] 173,Part.hole (w.heap.size + 3),Part.cells (w.heap.size + 2) [.slice ax kn cap] 173,rowS (.slice ax kn cap) ws,Part.hole (w.heap.size + 4),Part.hole (w.heap.size + 5)],A.Cl:=by
   intro A hA;simp only[List.mem_cons,List.not_mem_nil,or_false] at hA;rcases hA with rfl|rfl|rfl|rfl|rfl|rfl|rfl;all_goals first|exact Part.cl_hole _|exact Part.cl_cells _ _ _|exact Part.cl_row _ _ _ _ _
  have hbk:=fun(L':List Part) (W':World) (t:At _ W L' W')=>(⟨hA.trans t,(t.keepsFrom hA.sep hcl 0).same D _ (Nat.zero_le _) hK'.out rfl⟩:At [] w L' W'∧W'.heap[D]? =some (.deferred (some [])))
  have hA2:=At.start hA.sep;clear hA hcl;have hA:=hA2;clear hA2;obtain⟨hA,hF⟩:=fZ hA
  gi_wp2_with (refine ZaR (by exact fun _=>trivial) rfl rfl rfl (by(try simp only[Act.eval,eV])<;>exact rfl) (by exact rfl) hA sR (by kernel_rfl) rfl (by first|decide|(simp;done)|omega) ?_;intro w1 hB;replace hA:=hB;clear hF hB;obtain⟨hA,hF⟩:=fZ hA;try go_frame)
  obtain⟨g1,g2⟩:=hbk _ _ hA;have g3:=g1.ownB (Bs:=w.heap.size + 3) sR hcl2 (B:=W5.heap.size) (by omega) (grownBy_putObj' w1 D (.deferred none)) (fun r e=>by cases e;exact .inr ⟨hD,_,g2,rfl⟩);have hF3:=g3.facts;(try simp only[ZfH,Zhi,ZeW,Zhg,ZfG,Zhh,Zhj,ZfF,Zdz,and_true,true_and] at hF3)
  clear hF hA hbk hcl2 g1;refine⟨by simp,.inl ⟨_,_,rfl,run_takeDeferred g2,?_⟩⟩;refine⟨.tuple #[.slice ax kn cap,.int .i64 0],by simp[results,Tryz.results92,go_sem,hF3],?_⟩;have hl:=Zde (bl s);have hl2:=hS'.out;have hl3:(bl s).length=s.size:=by simp
  exact⟨_,ws,by rw[hwk'.out];rfl,g3.pick pR,.inl hwk'.out,by omega⟩
 case stop=>
  rintro D c pre W hD hS ⟨rfl,hA,hwk⟩ hK
  have hnone:walkL [] (Zam (bl s))=none:=by
   obtain⟨r,hr⟩:=hS;rw[←hr,Zio,hwk];rfl
  have hn':=Hd hnone;clear hS hwk hnone
  have hcl:∀A ∈ [Part.hole (w.heap.size + 3),Part.cells w.heap.size [.slice none 0 0] 173,Part.cells (w.heap.size + 1) [.int .i64 30] 38],A.Cl:=by
   intro A hA;simp only[List.mem_cons,List.not_mem_nil,or_false] at hA;rcases hA with rfl|rfl|rfl;all_goals first|exact Part.cl_hole _|exact Part.cl_cells _ _ _
  have g3:=hA.ownB (Bs:=w.heap.size + 3) sR hcl (B:=W5.heap.size) (by omega) (grownBy_putObj' W D (.deferred none)) (fun r e=>by cases e;exact .inr ⟨hD,_,hK,rfl⟩);have hF3:=g3.facts;(try simp only[ZfH,Zhi,ZeW,Zhg,ZfG,Zhh,Zhj,ZfF,Zdz,and_true,true_and] at hF3)
  have g4:=g3.row_nil 9 1;clear hA hcl;gi_wp2
  refine⟨by simp,.inl ⟨_,_,rfl,run_takeDeferred hK,?_⟩⟩;refine⟨.tuple #[.slice none 0 0,.int .i64 30],by simp[results,Tryz.results92,go_sem,hF3],?_⟩;exact⟨_,[],by rw[hn'.out];rfl,g4.pick pZ,.inr ⟨hn'.out,rfl⟩,by simp⟩
end Path
end
section
namespace Path
open Go.RowKit
theorem Zin:∀{l acc a:List Bs},walkL acc l=some a→∀q ∈ a,q ∈ acc∨q ∈ l
 |[],acc,a,h,q,hq=>by simp[walkL] at h;subst h;exact .inl hq
 |p::r,acc,a,h,q,hq=>by
  rw[walkL] at h
  cases hs:stepW acc p with
  |none=>simp[hs] at h
  |some b=>
   simp only[hs] at h;rcases Zin h q hq with h1|h1
   · unfold stepW at hs;split at hs
     · cases hs;exact .inl h1
     split at hs
     · split at hs
       · cases hs
       cases hs;exact .inl (List.dropLast_subset _ h1)
     split at hs
     · cases hs;rcases List.mem_append.1 h1 with h1|h1
       · exact .inl h1
       rw[List.mem_singleton.1 h1];exact .inr (by simp)
     cases hs
   exact .inr (by simp[h1])
theorem ZcK:∀(s:Bs),∀q ∈ Zam s,q.length≤s.length
 |[],q,hq=>by simp[Zam] at hq;subst hq;simp
 |c::r,q,hq=>by
  have ih:=ZcK r;rw[ZaW] at hq;split at hq
  · rcases List.mem_cons.1 hq with rfl|hq
    · simp
    have:=ih q hq;simp;omega
  cases hs:Zam r with
  |nil=>exact absurd hs (ZbS r)
  |cons a b=>
   rw[hs] at hq ih;simp only[List.headD_cons,List.tail_cons] at hq;rcases List.mem_cons.1 hq with rfl|hq
   · have:=ih a (by simp);simp;omega
   have:=ih q (by simp[hq]);simp;omega
theorem ZiP:∀(l:List Bs) (m:Nat),(∀q ∈ l,q.length≤m)→(joinS l).length≤l.length * (m + 1)
 |[],m,_=>by simp[joinS,Lib.join]
 |[p],m,h=>by rw[join_one];have:=h p (by simp);simp;omega
 |p::q::r,m,h=>by
  rw[Zdr _ _ (by simp)];have ih:=ZiP (q::r) m (fun x hx=>h x (by simp[hx]));have:=h p (by simp);simp only[List.length_append,List.length_cons] at ih ⊢;have e:(r.length + 1 + 1) * (m + 1)=(r.length + 1) * (m + 1) + (m + 1):=by rw[Nat.add_mul (r.length + 1)];omega
  omega
theorem Zgf {s:Bs} {l:List Bs} (h:walkL [] (Zam s)=some l):(joinS l).length≤l.length * (s.length + 1):=
 ZiP l s.length (fun q hq=>by
  rcases Zin h q hq with h1|h1
  · simp at h1
  exact ZcK s q h1)
theorem ZmU {c:List Value} {ws:List ByteArray} (ht:c.take (ws.length * 1)=flatS ws) {j:Nat} {x:ByteArray} (hx:ws[j]? =some x):c[j]? =some (.string x):=by
 have:=Zaq Zit (enc:=strC) ht hx 0 (by omega)
 simpa [strC] using this
def Znp (s:ByteArray) (w:World) (e:Ending) (w':World):Prop:=
 ∃q:ByteArray,e=.returned (.tuple #[.string q,.int .i64 (normL (bl s)).2])∧bl q=(normL (bl s)).1∧Ext w w'
theorem Zju (s:ByteArray) (w:World) (hs:s.size≤2000000):Calls Tryz.prog 67 #[.string s] w (Znp s w):=by
 have hA:=At.start (w0:=w) (L0:=[]) trivial;have hF:=hA.facts;go_enter Tryz.func67,Tryz.ntmps67;go_wp2_with fail;refine(ZlV s w hs).mono ?_;rintro e w1 ⟨v,ws,rfl,hT,hres,hlen⟩;replace hA:=hA.call0 hT;clear hF hT;simp only[List.append_nil] at hA;obtain⟨ax,cap,hv,hax0,hcap0,_⟩:=hA.row_form (v:=v) (n:=ws.length) (xs:=flatS ws) sR;subst hv;have hcap:=Hd hcap0;clear hax0 hcap0
 have hn:normL (bl s)=(match walkL [] (Zam (bl s)) with
  |none=>([],30)
  |some l=>if l=[] then([],13) else if 8 < l.length then([],31) else if 64 < (joinS l).length then([],11) else(joinS l,0)):=rfl
 rcases hres with hre|⟨hre,hw0⟩
 · rw[hre] at hn;simp only at hn;have hjl:=Zgf hre;rw[hre];simp only[ZhD];simp only[List.length_map] at hjl hn;by_cases e1:ws=[]
   · subst e1;simp only[List.map_nil,if_pos] at hn;have hn':=Hd hn;clear hn hre hjl hlen hcap;obtain⟨hA,hF⟩:=fZ hA;go_wp2_with fail;go_ret2;exact⟨⟨#[]⟩,by rw[hn'.out];rfl,by rw[hn'.out],hA.toExt⟩
   rw[if_neg (by simpa using e1)] at hn;have hl0:((ws.length:Int)==0)=false:=by simpa using e1
   by_cases e2:8 < ws.length
   · rw[if_pos e2] at hn;have hn':=Hd hn;clear hn hre hjl hlen hcap e1;obtain⟨hA,hF⟩:=fZ hA;go_wp2_with fail;go_ret2;exact⟨⟨#[]⟩,by rw[hn'.out];rfl,by rw[hn'.out],hA.toExt⟩
   rw[if_neg e2] at hn;have hl1:0 < ws.length:=List.length_pos_iff.2 e1;obtain⟨g,c,hax,_,hcm,hcl,hct,hB⟩:=hA.row_open (ax:=ax) (cap:=cap) (n:=ws.length) (xs:=flatS ws) sR hl1;subst hax
   have hj:(Lib.join (ws.map (·.data.toList)) [47]).length≤140737488355328:=by
    have h1:(joinS (ws.map bl)).length≤ws.length * (s.size + 1):=by simpa using hjl
    have h2:ws.length * (s.size + 1)≤8 * 2000001:=Nat.mul_le_mul (by omega) (by omega);have h3:(Lib.join (ws.map (·.data.toList)) [47]).length=(joinS (ws.map bl)).length:=rfl;omega
   have hcl':g < w1.heap.size:=(hB.get (A:=Part.cells g c 9) sR:Zaa w1 g c _).lt
   have hjoin:=Tryz.strings_Join g 0 cap ws ⟨#[47]⟩ w1 (fun j x hx=>by
    rw[Nat.zero_add]
    exact((hB.get (A:=Part.cells g c 9) sR:Zaa w1 g c _).cell j).trans (ZmU hct hx)) hcl' (by omega) hcap.out hj
   clear hA;have hA:=hB;have hext:Ext w w1:=hA.toExt;clear hB hre hlen e1;have hn':=Hd hn;have hct':=Hd hct;have hcl2:=Hd hcl;clear hn hct hcl hjl hj;go_wp2_with fail;refine hjoin.mono ?_;clear hjoin;rintro e w2 ⟨rfl,hb⟩;have hext2:=hext.trans hb;clear hb hext hA
   obtain⟨jn,hjn⟩:∃q:ByteArray,(⟨(Lib.join (ws.map (·.data.toList)) [47]).toArray⟩:ByteArray)=q:=⟨_,rfl⟩
   have hjb:joinS (ws.map bl)=bl jn:=by rw[←hjn];rfl
   have hjs:(joinS (ws.map bl)).length=jn.size:=by rw[hjb];simp
   have hjb':=Hd hjb;have hn2:=hn'.out;rw[hjs] at hn2;rw[hjn];clear hjn hjb hjs hn' hct' hcl2;by_cases e3:64 < jn.size
   · rw[if_pos e3] at hn2;have hn3:=Hd hn2;clear hn2;go_wp2_with fail;go_ret2;exact⟨⟨#[]⟩,by rw[hn3.out];rfl,by rw[hn3.out],hext2⟩
   rw[if_neg e3] at hn2;have hn3:=Hd hn2;clear hn2;go_wp2_with fail;go_ret2;exact⟨jn,by rw[hn3.out];rfl,by rw[hn3.out];exact hjb'.out.symm,hext2⟩
 rw[hre] at hn;simp only at hn;subst hw0;rw[hre];simp only[ZhD];have hn':=Hd hn;clear hn hre hlen hcap;obtain⟨hA,hF⟩:=fZ hA;go_wp2_with fail;go_ret2;exact⟨⟨#[]⟩,by rw[hn'.out];rfl,by rw[hn'.out],hA.toExt⟩
end Path
end
section
namespace Path
open Go.RowKit
theorem eqB (s q:ByteArray):(s.toList==q.toList)=decide (bl s=bl q):=by
 rw[Lib.toList_data,Lib.toList_data];cases h:(s.data.toList==q.data.toList)
 · symm;simpa using h
 symm;simpa using h
theorem right_any (s:ByteArray) (w:World) (hs:s.size≤2000000):Calls Tryz.prog 47 #[.string s] w fun e w'=>e=.returned (.bool (Zag (bl s)))∧Ext w w':=by
 have hr:=Zjf (bl s);go_enter Tryz.func47,Tryz.ntmps47;go_wp2_with fail;refine(Zju s w hs).mono ?_;rintro e w1 ⟨q,rfl,hq,hx⟩;rw[←hq] at hr;have heq:=eqB s q
 obtain⟨n2,hn2⟩:∃n,(normL (bl s)).2=n:=⟨_,rfl⟩
 rw[hn2] at hr ⊢;clear hn2 hq;by_cases h0:n2=0
 · subst h0;by_cases h1:bl s=bl q
   · have hb:Zag (bl s)=true:=hr.1 ⟨rfl,h1.symm⟩;rw[decide_eq_true h1] at heq;have hb':=Hd hb;clear hb hr h1;go_wp2_with fail;go_ret;exact⟨by rw[hb'.out];rfl,hx⟩
   have hb:Zag (bl s)=false:=by
    cases hb:Zag (bl s)
    · rfl
    exact absurd (hr.2 hb).2.symm h1
   rw[decide_eq_false h1] at heq;have hb':=Hd hb;clear hb hr h1;go_wp2_with fail;go_ret;exact⟨by rw[hb'.out];rfl,hx⟩
 have hb:Zag (bl s)=false:=by
  cases hb:Zag (bl s)
  · rfl
  exact absurd (hr.2 hb).1 h0
 have hb':=Hd hb;have h0':(n2==0)=false:=by simpa using h0
 clear hb hr h0 heq;go_wp2_with fail;go_ret;exact⟨by rw[hb'.out];rfl,hx⟩
theorem Zb2 {s:ByteArray} {b:Bool} (w:World) (hs:s.size≤2000000) (hb:Zag (bl s)=b):Calls Tryz.prog 47 #[.string s] w fun e w'=>e=.returned (.bool b)∧Ext w w':=hb ▸ right_any s w hs
theorem pre_is (q p:ByteArray) (w:World):Calls Tryz.prog 94 #[.string q,.string p] w fun e w'=>e=.returned (.bool ((bl p).isPrefixOf (bl q)))∧w=w':=
 (Tryz.strings_HasPrefix q p w).mono fun _ _ ⟨he,hw⟩=>⟨he,hw.symm⟩
theorem Ze5 (p q:ByteArray) (w:World) (hp:p.size≤2000000) (hq:q.size≤2000000):Calls Tryz.prog 68 #[.string p,.string q] w fun e w'=>e=.returned (.bool (ZaB (bl p) (bl q)))∧Ext w w':=by
 have heq:=eqB p q;cases h1:Zag (bl p)
 · have hb:=Hd (show ZaB (bl p) (bl q)=false by simp[ZaB,h1]);clear heq;go_enter Tryz.func68,Tryz.ntmps68;go_wp2_with fail;refine(Zb2 w hp h1).mono ?_;rintro e w1 ⟨rfl,hx⟩;go_wp2_with fail;go_ret;exact⟨by rw[hb.out];rfl,hx⟩
 cases h2:Zag (bl q)
 · have hb:=Hd (show ZaB (bl p) (bl q)=false by simp[ZaB,h1,h2]);clear heq;go_enter Tryz.func68,Tryz.ntmps68;go_wp2_with fail;refine(Zb2 w hp h1).mono ?_;rintro e w1 ⟨rfl,hx⟩;go_wp2_with fail;refine(Zb2 w1 hq h2).mono ?_;rintro e w2 ⟨rfl,hx2⟩;go_wp2_with fail;go_ret;exact⟨by rw[hb.out];rfl,hx.trans hx2⟩
 by_cases h3:bl p=bl q
 · have hb:=Hd (show ZaB (bl p) (bl q)=true by simp[ZaB,h1,h2,h3]);rw[decide_eq_true h3] at heq;clear h3;go_enter Tryz.func68,Tryz.ntmps68;go_wp2_with fail;refine(Zb2 w hp h1).mono ?_;rintro e w1 ⟨rfl,hx⟩;go_wp2_with fail;refine(Zb2 w1 hq h2).mono ?_;rintro e w2 ⟨rfl,hx2⟩;go_wp2_with fail;go_ret;exact⟨by rw[hb.out];rfl,hx.trans hx2⟩
 have hb:=Hd (show ZaB (bl p) (bl q)=(bl p++[47]).isPrefixOf (bl q) by simp[ZaB,h1,h2,h3]);rw[decide_eq_false h3] at heq;clear h3;go_enter Tryz.func68,Tryz.ntmps68;go_wp2_with fail;refine(Zb2 w hp h1).mono ?_;rintro e w1 ⟨rfl,hx⟩;go_wp2_with fail;refine(Zb2 w1 hq h2).mono ?_;rintro e w2 ⟨rfl,hx2⟩;go_wp2_with fail;refine(pre_is _ _ _).mono ?_;rintro e _ ⟨rfl,rfl⟩;have hpa:bl (p++⟨#[47]⟩)=bl p++[47]:=by simp[bl]
 rw[hpa,←hb.out];clear hpa
 obtain⟨bb,hbb⟩:∃b,ZaB (bl p) (bl q)=b:=⟨_,rfl⟩
 rw[hbb];have hbb':=Hd hbb;clear hb hbb;cases bb
 all_goals
  go_wp2_with fail;go_ret;exact⟨by rw[hbb'.out];rfl,hx.trans hx2⟩
theorem ZcW (p q:ByteArray) (w:World) (hp:p.size≤2000000) (hq:q.size≤2000000):Calls Tryz.prog 52 #[.string p,.string q] w fun e w'=>e=.returned (.bool (overB (bl p) (bl q)))∧Ext w w':=by
 have h1:=Ze5 p q w hp hq;have h2:=fun w=>Ze5 q p w hq hp;have ho:overB (bl p) (bl q)=(ZaB (bl p) (bl q) || ZaB (bl q) (bl p)):=rfl;rw[ho];clear ho;generalize ZaB (bl p) (bl q)=b1 at *
 generalize ZaB (bl q) (bl p)=b2 at *
 cases b1
 · go_enter Tryz.func52,Tryz.ntmps52;go_wp2_with fail;refine h1.mono ?_;clear h1;rintro e w1 ⟨rfl,hx⟩;go_wp2_with fail;refine(h2 w1).mono ?_;clear h2;rintro e w2 ⟨rfl,hx2⟩;cases b2
   all_goals
    go_wp2_with fail;go_ret;exact⟨rfl,hx.trans hx2⟩
 go_enter Tryz.func52,Tryz.ntmps52;go_wp2_with fail;refine h1.mono ?_;clear h1;rintro e w1 ⟨rfl,hx⟩;go_wp2_with fail;go_ret;exact⟨rfl,hx⟩
end Path
end
end Go.Proofs.YtbeckijoabapkaaGreatDoor
