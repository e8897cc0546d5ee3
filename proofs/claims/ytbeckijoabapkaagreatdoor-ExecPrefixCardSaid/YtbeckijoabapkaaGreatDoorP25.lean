import Derived.Test.YtbeckijoabapkaaGreatDoorP24
import Derived.Lib.SmallJoins
set_option linter.unusedSimpArgs false
set_option linter.unusedVariables false
set_option maxRecDepth 100000
set_option maxHeartbeats 16000000
namespace Go.Proofs.YtbeckijoabapkaaGreatDoor
section
namespace Gr
open _root_.Go.Proofs.YtbeckijoabapkaaGreatDoor.Mark (ltID)
open _root_.Go.Proofs.YtbeckijoabapkaaGreatDoor.Tab (TS TRel TInv TabP CmIn CmOk ansZ playT Zap ZcA ZdM)
open _root_.Go.Proofs.YtbeckijoabapkaaGreatDoor.Ref (IA)
open Go.RowKit
open Attr (A8 Zaz Zas thro Zdt ZbA Zbz eqA Zb9 ownsB)
open Cmd (Cm)
attribute [-go_sem] run_eql_struct run_neq_struct run_eqGuard_agg
attribute [local go_sem] Zdt ZbA Zbz
def aX1:A8:=⟨0,1,0,0,0,0,0,0⟩
def aX0:A8:=⟨0,0,0,0,0,0,0,0⟩
def esX1:List IA:=[((1,0),aX1)]
def esX2:List IA:=[((1,0),aX1),((0,0),aX0)]
def fX1:F7:=⟨1,0,0,0,0,0,0⟩
def cmd0:I2→Cm:=fun _=>zeroC
theorem getX1 {x:I2} (h:x≠(1,0)):getA esX1 x=none:=by
 rw[ZcY];simp[esX1];exact h
theorem getX2 {x:I2} (h0:x≠(1,0)) (h1:x≠(0,0)):getA esX2 x=none:=by
 rw[ZcY];simp[esX2];exact⟨h0,h1⟩
theorem endX1:ZaM esX1 f0F none:=by
 intro k hk;rcases(show k=0∨k=1∨k=2∨k=3∨k=4∨k=5∨k=6 by omega) with rfl|rfl|rfl|rfl|rfl|rfl|rfl
 · exact .inr ⟨_,.refl,getX1 (by decide)⟩
 · exact .inr ⟨(0,0),.step .refl (by show _ ∈ ZaA esX1 f0F (1,0);decide),getX1 (by decide)⟩
 · exact .inr ⟨_,.refl,getX1 (by decide)⟩
 · exact .inr ⟨_,.refl,getX1 (by decide)⟩
 · exact .inr ⟨_,.refl,getX1 (by decide)⟩
 · exact .inr ⟨_,.refl,getX1 (by decide)⟩
 exact .inr ⟨_,.refl,getX1 (by decide)⟩
theorem RI_X0 {x:I2} (h:RI esX2 f0F (0,0) x):x=(0,0):=by
 induction h with
 |refl=>rfl
 |step _ hy ih=>
  subst ih;rw[show ZaA esX2 f0F (0,0)=[] from by decide] at hy;cases hy
theorem RI_X1 {x:I2} (h:RI esX2 fX1 (1,0) x):x=(1,0):=by
 induction h with
 |refl=>rfl
 |step _ hy ih=>
  subst ih;rw[show ZaA esX2 fX1 (1,0)=[] from by decide] at hy;cases hy
theorem ZoD:ZaM esX2 f0F (some [(0,0)]):=by
 refine⟨0,by decide,nofun,by decide,by simp,fun x=>⟨fun hx=> ?_,fun hx=> ?_⟩,fun x hx=> ?_⟩
 · rw[List.mem_singleton.1 hx];exact .refl
 · rw[RI_X0 hx];simp
 rw[List.mem_singleton.1 hx];decide
theorem ZoC:ZaM esX2 fX1 (some [(1,0)]):=by
 refine⟨1,by decide,fun k hk=> ?_,by decide,by simp,fun x=>⟨fun hx=> ?_,fun hx=> ?_⟩,fun x hx=> ?_⟩
 · obtain rfl:k=0:=by omega
   exact .inr ⟨_,.refl,getX2 (by decide) (by decide)⟩
 · rw[List.mem_singleton.1 hx];exact .refl
 · rw[RI_X1 hx];simp
 rw[List.mem_singleton.1 hx];decide
theorem endX2:ZaM esX2 (upF fX1 [(1,0)]) none:=by
 intro k hk;refine .inr ⟨_,.refl,?_⟩;rcases(show k=0∨k=1∨k=2∨k=3∨k=4∨k=5∨k=6 by omega) with rfl|rfl|rfl|rfl|rfl|rfl|rfl<;>exact getX2 (by decide) (by decide)
theorem runX1 {got:List I2} {g:F7} (h:RunR esX1 f0F got g):got=[]∧g=f0F:=Zkc h (.stop endX1)
theorem runX2 {got:List I2} {g:F7} (h:RunR esX2 f0F got g):got.length=2:=by
 have h1:RunR esX2 fX1 (ordG esX2 fX1 [(1,0)]++[]) _:=.go ZoC (.stop endX2);have h2:RunR esX2 f0F (ordG esX2 f0F [(0,0)]++(ordG esX2 fX1 [(1,0)]++[])) _:=.go ZoD (show RunR esX2 (upF f0F [(0,0)]) _ _ from h1);rw[(Zkc h h2).1,List.length_append,List.length_append,(ZbV _ _ _).length_eq,(ZbV _ _ _).length_eq];rfl
theorem addX1:addG [] (1,0) aX1=(esX1,0):=by decide
theorem addX2:addG esX1 (0,0) aX0=(esX2,0):=by decide
theorem Zoc:Zdi ⟨(1,0),3,0,0,false,zeroC,aX1⟩=true:=by kernel_rfl
theorem Zod:Zdi ⟨(0,0),3,0,0,false,zeroC,aX0⟩=true:=by kernel_rfl
theorem Zik:CmIn zeroC:=⟨⟨⟨by decide,by decide⟩,by decide,by decide⟩,by decide,by decide,by decide⟩
abbrev LX2:List IA:=[((1,0),aX1),((0,0),aX0)]
theorem plX1:Pl (fun x a=>(x,a) ∈ LX2) esX1 f0F []:=by
 have h:=(Pl.start (fun x a=>(x,a) ∈ LX2)).add (1,0) aX1 (by simp);rw[addX1] at h;exact h
theorem plX2:Pl (fun x a=>(x,a) ∈ LX2) esX2 f0F []:=by
 have h:=plX1.add (0,0) aX0 (by simp);rw[addX2] at h;exact h
theorem okX1:okD (1,0):=by
 unfold okD okI;decide
theorem okX0:okD (0,0):=by
 unfold okD okI;decide
theorem in_X1 {x:I2} (h:(getA esX1 x).isSome=true):x ∈ [((1:Int),(0:Int))]:=by
 by_cases e:x=(1,0)
 · simp[e]
 rw[getX1 e] at h;cases h
theorem in_X2 {x:I2} (h:(getA esX2 x).isSome=true):x ∈ [((1:Int),(0:Int)),(0,0)]:=by
 by_cases e:x=(1,0)
 · simp[e]
 by_cases e2:x=(0,0)
 · simp[e2]
 rw[getX2 e e2] at h;cases h
theorem ok_X2 {x:I2} (h:x ∈ [((1:Int),(0:Int)),(0,0)]):okD x:=by
 simp only[List.mem_cons,List.not_mem_nil,or_false] at h;rcases h with rfl|rfl
 · exact okX1
 exact okX0
theorem lnX1:ZcN f0F aX1 (1,0)=kn1:=by decide
theorem ri_of {x:I2} {a:A8} (h:Zdi ⟨x,3,0,0,false,zeroC,a⟩=true) (w:World):Calls Tryz.prog 15 #[In.val ⟨x,3,0,0,false,zeroC,a⟩] w fun e w'=>e=.returned (.bool true)∧Ext w w':=
 (Zb7 ⟨x,3,0,0,false,zeroC,a⟩ (show(0:Int)≤0 by decide) (show(0:Int) < 4294967296 by decide) (show(0:Int)≤0 by decide) (show(0:Int) < 4294967296 by decide) (show zeroC.foot.size≤1000 by decide) (show zeroC.path.size≤1000 by decide) w).mono fun e w' ⟨bq,he,hb,hx⟩=>⟨by rw[he,hb rfl,h],hx⟩
def AnX (w:World) (e:Ending) (w':World):Prop:=e=.returned (.bool true)∧Ext w w'
theorem Zih (w:World):Calls Tryz.prog 4 #[] w (AnX w):=by
 have hA0:At [] w [] w:=At.start (L0:=[]) trivial;have hA:At [] w [Part.all []] w:=hA0.to (Eqv.all [] []).symm;clear hA0;obtain⟨hA,hF⟩:=fZ hA;go_enter Tryz.func4,Tryz.ntmps4;go_wp2_with fail;refine(ZiE cmd0 (hA.sep1 (A:=Part.all []) sZ) 0).mono ?_;rintro e w1 ⟨X,b,rfl,hR0,hT⟩;replace hA:=hA.call1 (A:=Part.all []) sZ hT;clear hT hF;obtain⟨hA,hF⟩:=fZ hA;have hst1:=fun w=>ZgD (1,0) zeroC aX1 w;have hln1:=fun(w1:World) (q:Sep [ExP cmd0 X f0F f0F [] [] [] b (.slice none 0 0) []] w1)=>ZeN cmd0 q (1,0) aX1 0 0 false (ri_of Zoc) (by decide) (by rw[addX1]);have hI0:TInv (T0X 0) 0:=ZdM (by decide) (by decide);go_wp2_with fail;refine(hst1 _).mono ?_;rintro e w1 ⟨rfl,hx⟩;replace hA:=hA.ext hx;clear hF hx;obtain⟨hA,hF⟩:=fZ hA;go_wp2_with fail;refine(hln1 _ (hA.sep1 (A:=ExP cmd0 X f0F f0F [] [] [] b (.slice none 0 0) []) sZ)).mono ?_;rintro e w1 ⟨rfl,hT⟩;have hB:=hA.call1 (A:=ExP cmd0 X f0F f0F [] [] [] b (.slice none 0 0) []) sZ hT;clear hT hF hA hst1 hln1
 have hA:At [] w [ExP cmd0 X f0F kn1 esX1 [(1,0)] [] b (.slice none 0 0) [],Part.all []] w1:=by
  rw[addX1,lnX1] at hB;exact hB.pick pZ
 clear hB;obtain⟨hA,hF⟩:=fZ hA;go_wp2_with fail;refine(Zf5 cmd0 (hA.sep1 (A:=ExP cmd0 X f0F kn1 esX1 [(1,0)] [] b (.slice none 0 0) []) sZ) plX1 (by decide) (fun x h=>in_X1 h) (fun x h=>ok_X2 (by rw[List.mem_singleton.1 h];simp)) (fun x _=>Zik) hR0 hI0 (by decide) (by decide)).mono ?_;rintro e w1 ⟨v1,got,g,ss1,bk1,hv1,rfl,hrn,hR1,hT⟩;obtain⟨rfl,rfl⟩:=runX1 hrn;have hB:=hA.call1 (A:=ExP cmd0 X f0F kn1 esX1 [(1,0)] [] b (.slice none 0 0) []) sZ hT;clear hT hF hA hrn;have hA:At [] w [ExP cmd0 X f0F kn1 esX1 [(1,0)] ss1 bk1 hv1 [],rowDn cmd0 v1 [],Part.all []] _:=hB.pick pZ;clear hB;obtain⟨ax1,cap1,hv1e,_⟩:=hA.row_form (e:=42) (size:=13) (n:=0) (v:=v1) (xs:=Zba cmd0 []) sZ;subst hv1e;obtain⟨hA,hF⟩:=fZ hA;go_wp2_with fail;refine(ZmP cmd0 (hA.sep1 (A:=ExP cmd0 X f0F kn1 esX1 [(1,0)] ss1 bk1 hv1 []) sZ) (by decide) (by decide)).mono ?_;rintro e w1 ⟨v2,rfl,hT⟩;have hB:=hA.call1 (A:=ExP cmd0 X f0F kn1 esX1 [(1,0)] ss1 bk1 hv1 []) sZ hT;clear hT hF hA;have hA:At [] w [ExP cmd0 X f0F kn1 esX1 [(1,0)] ss1 bk1 hv1 [],rowI2 v2 [(0,0)],rowDn cmd0 (.slice ax1 0 cap1) [],Part.all []] _:=hB.pick pZ;clear hB;obtain⟨ax2,cap2,hv2e,_⟩:=hA.row_form (e:=33) (size:=2) (n:=1) (v:=v2) (xs:=flatI [(0,0)]) sZ;subst hv2e;obtain⟨hA,hF⟩:=fZ hA;have hst2:=fun w=>ZgD (0,0) zeroC aX0 w;have hln2:=fun(w1:World) (q:Sep [ExP cmd0 X f0F kn1 esX1 [(1,0)] ss1 bk1 hv1 []] w1)=>ZeN cmd0 q (0,0) aX0 0 0 false (ri_of Zod) (by decide) (by rw[addX2]);go_wp2_with fail;refine(hst2 _).mono ?_;rintro e w1 ⟨rfl,hx⟩;replace hA:=hA.ext hx;clear hF hx;obtain⟨hA,hF⟩:=fZ hA;go_wp2_with fail;refine(hln2 _ (hA.sep1 (A:=ExP cmd0 X f0F kn1 esX1 [(1,0)] ss1 bk1 hv1 []) sZ)).mono ?_;rintro e w1 ⟨rfl,hT⟩;have hB:=hA.call1 (A:=ExP cmd0 X f0F kn1 esX1 [(1,0)] ss1 bk1 hv1 []) sZ hT;clear hT hF hA hst2 hln2
 have hA:At [] w [ExP cmd0 X f0F (ZcN kn1 aX0 (0,0)) esX2 [(1,0),(0,0)] ss1 bk1 hv1 [],rowI2 (.slice ax2 1 cap2) [(0,0)],rowDn cmd0 (.slice ax1 0 cap1) [],Part.all []] w1:=by
  rw[addX2] at hB;exact hB.pick pZ
 clear hB;obtain⟨bt,offt,hax2,hce⟩:=ZbI (hA.row_reads (v:=.slice ax2 1 cap2) (n:=1) (xs:=flatI [(0,0)]) sZ) (show([(0,0)]:List I2)[0]? =some (0,0) from rfl);subst hax2;have hce':=Hd (show ∀(k:Nat) u,([.int .i64 0,.int .i64 0]:List Value)[k]? =some u→_ from hce);clear hce;obtain⟨hA,hF⟩:=fZ hA
 go_wp2_with ((with_reducible show wpList _ _ _ ({dst:=some 39,op:=Op.load _ _,type:=_,pos:=_,after:=_,guard:=_}::_) _ _);refine Zbi (vs:=[.int .i64 0,.int .i64 0]) (by kernel_rfl) rfl (by(try simp only[Act.eval,eV])<;>exact rfl) hce'.out (by kernel_rfl) (by kernel_rfl) ?_)
 refine(Zf5 cmd0 (hA.sep1 (A:=ExP cmd0 X f0F (ZcN kn1 aX0 (0,0)) esX2 [(1,0),(0,0)] ss1 bk1 hv1 []) sZ) plX2 (by decide) (fun x h=>in_X2 h) (fun x h=>ok_X2 h) (fun x _=>Zik) (T:=T0X 0) hR1 hI0 (by decide) (by decide)).mono ?_;rintro e w1 ⟨v3,got,g,ss2,bk2,hv2,rfl,hrn,hR2,hT⟩;have hgl:=runX2 hrn;replace hA:=hA.call1 (A:=ExP cmd0 X f0F (ZcN kn1 aX0 (0,0)) esX2 [(1,0),(0,0)] ss1 bk1 hv1 []) sZ hT;clear hT hF hrn;(try simp only[uA] at hA);obtain⟨ax3,cap3,hv3e,_⟩:=hA.row_form (e:=42) (size:=13) (v:=v3) (n:=(ansZ cmd0 (T0X 0) got).length) (xs:=Zba cmd0 (ansZ cmd0 (T0X 0) got)) sZ;subst hv3e;have hl2:(ansZ cmd0 (T0X 0) got).length=2:=by rw[Zea];exact hgl
 simp only[hl2];obtain⟨hA,hF⟩:=fZ hA;go_wp2_with fail;go_ret;exact⟨rfl,hA.toExt⟩
end Gr
end
section
namespace Gr
open Go.RowKit
open Attr (A8 Zdt ZbA Zbz)
open Cmd (Cm same_ba)
attribute [-go_sem] run_eql_struct run_neq_struct run_eqGuard_agg
attribute [local go_sem] Zdt ZbA Zbz
theorem selfDn (r t:Int) (c:Cm) (le ln:Int) (lg:Bool) (w:World):(Go.Op.equalIn 10000 42 (.agg #[.int .i64 r,.int .i64 t,.int .i64 c.kind,.int .u64 c.num,.string c.foot,.int .u64 c.req,.string c.path,.int .i64 c.mode,.int .u64 c.n,.int .i64 c.time,.int .i64 le,.int .u64 ln,.bool lg]) (.agg #[.int .i64 r,.int .i64 t,.int .i64 c.kind,.int .u64 c.num,.string c.foot,.int .u64 c.req,.string c.path,.int .i64 c.mode,.int .u64 c.n,.int .i64 c.time,.int .i64 le,.int .u64 ln,.bool lg])).run Tryz.prog w=.ok true w:=by
 rw[run_equalIn_agg _ 9999 _ _ _ (by kernel_rfl) (by kernel_rfl)];simp[go_sem,Go.Op.eqFields,same_ba]
theorem neqDn (r t:Int) (c:Cm) (le ln:Int) (lg:Bool) (w:World):(binOp .neq 42 (.agg #[.int .i64 r,.int .i64 t,.int .i64 c.kind,.int .u64 c.num,.string c.foot,.int .u64 c.req,.string c.path,.int .i64 c.mode,.int .u64 c.n,.int .i64 c.time,.int .i64 le,.int .u64 ln,.bool lg]) (.agg #[.int .i64 r,.int .i64 t,.int .i64 c.kind,.int .u64 c.num,.string c.foot,.int .u64 c.req,.string c.path,.int .i64 c.mode,.int .u64 c.n,.int .i64 c.time,.int .i64 le,.int .u64 ln,.bool lg])).run Tryz.prog w=.ok (.bool false) w:=by
 rw[run_neq_struct,selfDn r t c le ln lg w];rfl
theorem Zow (op:BinOp) (x y:Operand) (c1 c2 c3 c4 c5 c6 c7 c8 c9 ca cb cc cd d1 d2 d3 d4 d5 d6 d7 d8 d9 da db dc dd:Value) (w:World):(eqGuard op 42 x y (.agg #[c1,c2,c3,c4,c5,c6,c7,c8,c9,ca,cb,cc,cd]) (.agg #[d1,d2,d3,d4,d5,d6,d7,d8,d9,da,db,dc,dd])).run Tryz.prog w=.ok () w:=run_eqGuard_agg _ _ _ _ _ _ _ (by kernel_rfl)
abbrev ZlL (cmd:I2→Cm) (R:Part) (v:Value) (H:List AnI):Prop:=∀w,R.holds w→Reads w v H.length (Zba cmd H)
theorem ZdL {cmd:I2→Cm} {R:Part} {ax:Option Addr} {cap i:Nat} {H:List AnI} {x:AnI} (h:ZlL cmd R (.slice ax H.length cap) H) (hx:H[i]? =some x) {w:World} (hw:R.holds w):
 ∃b off,ax=some ⟨b,off,none⟩∧∀w,R.holds w→∀(k:Nat) u,(Zc2 cmd x)[k]? =some u→w.cell? ⟨b,off + i * 13 + k,none⟩=some u:=by
 obtain⟨b,off,e,_⟩:=ZaZ (Zc1 cmd) (by omega) (h w hw) hx;subst e;refine⟨b,off,rfl,fun w2 hw2=> ?_⟩;obtain⟨b2,off2,e2,h2⟩:=ZaZ (Zc1 cmd) (by omega) (h w2 hw2) hx;cases e2;exact h2
def PlcRel (w:World) (R:Part) (H:List AnI) (x:I2) (b3:Nat) (k:Nat) (u:Value) (wr:World):Prop:=
 ∃i:Nat,u=.int .i64 i∧i + k=H.length∧(∀p ∈ H.take i,p.1≠x)∧At [R] w [Part.cells b3 [.int .i64 x.1,.int .i64 x.2] 33,R] wr
def PlcP (w:World) (R:Part) (H:List AnI) (x:I2) (e:Ending) (w':World):Prop:=
 ∃k:Int,e=.returned (.int .i64 k)∧((k= -1∧∀p ∈ H,p.1≠x)∨∃(i:Nat) (p:AnI),k=i∧H[i]? =some p∧p.1=x)∧At [R] w [R] w'
theorem Zkt (cmd:I2→Cm) {w:World} {R:Part} (h:Sep [R] w) {v:Value} {H:List AnI} (hr:ZlL cmd R v H) (hl:H.length≤10000) (x:I2):
 Calls Tryz.prog 9 #[v,idV x] w (PlcP w R H x):=by
 have hA:=At.start h;obtain⟨ax,cap,rfl,_,_⟩:=hr w (hA.get .here);have hr':=Hd hr;clear h hr;obtain⟨r0,t0⟩:=x;simp only[idV];obtain⟨hA,hF⟩:=fZ hA;go_enter Tryz.func9,Tryz.ntmps9
 go_wp2_with ((with_reducible refine gbx ?_);refine wHz 33 [.int .i64 r0,.int .i64 t0] hA ?_;clear hF hA;intro b3 w1 hA hb3 hF)
 (try go_frame);clear hF;go_loopg [9] H.length (PlcRel w R H (r0,t0) b3)
 case atStart=>exact⟨0,rfl,by omega,nofun,hA.pick pZ⟩
 case round=>
  obtain⟨i,rfl,hik,hno,hB⟩:=hrel;clear hA;have hA:At [R] w [Part.cells b3 [.int .i64 r0,.int .i64 t0] 33,R] _:=hB;clear hB;have hno':=Hd hno;clear hno;by_cases hi:i < H.length
  · obtain⟨p,hp⟩:∃p,H[i]? =some p:=⟨_,List.getElem?_eq_getElem hi⟩
    have hiI:(i:Int) < H.length:=by omega
    obtain⟨bl,ofl,hax,hce⟩:=ZdL hr'.out hp (hA.get (A:=R) sZ);subst hax;have hce:=hce _ (hA.get (A:=R) sZ);have htk:H.take (i + 1)=H.take i++[p]:=by rw[List.take_add_one,hp];rfl
    have hnx:=Hd (show p.1≠(r0,t0)→∀y ∈ H.take (i + 1),y.1≠(r0,t0) from fun hn y hy=>by
     rw[htk] at hy;rcases List.mem_append.1 hy with q|q
     · exact hno'.out y q
     rw[List.mem_singleton.1 q]
     exact hn)
    have hp':=Hd hp;clear hp htk;obtain⟨⟨r,t⟩,⟨le,ln,lg⟩⟩:=p;have hrd':=Hd (show ∀(k:Nat) u,([.int .i64 r,.int .i64 t,.int .i64 (cmd (r,t)).kind,.int .u64 (cmd (r,t)).num,.string (cmd (r,t)).foot,.int .u64 (cmd (r,t)).req,.string (cmd (r,t)).path,.int .i64 (cmd (r,t)).mode,.int .u64 (cmd (r,t)).n,.int .i64 (cmd (r,t)).time,.int .i64 le,.int .u64 ln,.bool lg]:List Value)[k]? =some u→wr.cell? ⟨bl,ofl + i * 13 + k,none⟩=some u from hce);clear hce;by_cases hid:r=r0∧t=t0
    · have hid2:(decide (r=r0)&&decide (t=t0))=true:=by simpa using hid
      have hid':=Hd hid;clear hid;obtain⟨hA,hF⟩:=fZ hA
      go_wp2_with (first|((with_reducible refine gal ?_);refine g10 hA ?_;clear hF hA;intro b6 w1 hA hb6 hF)|((with_reducible show wpList _ _ _ ({dst:=some 13,op:=Op.load _ _,type:=_,pos:=_,after:=_,guard:=_}::_) _ _);refine Zad (vs:=[.int .i64 r,.int .i64 t,.int .i64 (cmd (r,t)).kind,.int .u64 (cmd (r,t)).num,.string (cmd (r,t)).foot,.int .u64 (cmd (r,t)).req,.string (cmd (r,t)).path,.int .i64 (cmd (r,t)).mode,.int .u64 (cmd (r,t)).n,.int .i64 (cmd (r,t)).time,.int .i64 le,.int .u64 ln,.bool lg]) rfl rfl (by(try simp only[Act.eval,eV])<;>exact rfl) hrd'.out (by kernel_rfl) (by kernel_rfl) ?_)|((with_reducible refine gst ?_);refine wTz hA ?_;clear hF hA;intro w1 hA hF))
      go_ret;exact⟨i,rfl,.inr ⟨i,_,rfl,hp'.out,by rw[hid'.out.1,hid'.out.2]⟩,hA.pick pZ⟩
    have hid2:(decide (r=r0)&&decide (t=t0))=false:=by
     cases hq:(decide (r=r0)&&decide (t=t0)) with
     |false=>rfl
     |true=>exact absurd (by simpa using hq) hid
    have hid':=Hd hid;clear hid;obtain⟨hA,hF⟩:=fZ hA
    go_wp2_with (first|((with_reducible refine gal ?_);refine g10 hA ?_;clear hF hA;intro b6 w1 hA hb6 hF)|((with_reducible show wpList _ _ _ ({dst:=some 13,op:=Op.load _ _,type:=_,pos:=_,after:=_,guard:=_}::_) _ _);refine Zad (vs:=[.int .i64 r,.int .i64 t,.int .i64 (cmd (r,t)).kind,.int .u64 (cmd (r,t)).num,.string (cmd (r,t)).foot,.int .u64 (cmd (r,t)).req,.string (cmd (r,t)).path,.int .i64 (cmd (r,t)).mode,.int .u64 (cmd (r,t)).n,.int .i64 (cmd (r,t)).time,.int .i64 le,.int .u64 ln,.bool lg]) rfl rfl (by(try simp only[Act.eval,eV])<;>exact rfl) hrd'.out (by kernel_rfl) (by kernel_rfl) ?_)|((with_reducible refine gst ?_);refine wTz hA ?_;clear hF hA;intro w1 hA hF))
    go_roundg (gk - 1);case measure=>omega
    case rel=>exact⟨i + 1,by simp,by omega,hnx.out fun e=>hid'.out (by cases e;exact⟨rfl,rfl⟩),hA.pick pZ⟩
  obtain rfl:i=H.length:=by omega
  rw[List.take_of_length_le (Nat.le_refl _)] at hno';have hiI:¬(H.length:Int) < H.length:=by omega
  obtain⟨hA,hF⟩:=fZ hA;go_wp2_with fail;go_ret;exact⟨-1,rfl,.inl ⟨rfl,hno'.out⟩,hA.pick pZ⟩
section
variable {P:Program} {o:Oper} {a:Act} {L0 L:List Part} {w0:World} {K:Act→Prop}
theorem Zfc {ty:TypeId} {x:Operand} {b j:Nat} {vs:List Value} (hop:o.op=.load ty x) (hx:a.eval x=.pointer (some ⟨b,j,none⟩)) (hc:∀w',At L0 w0 L w'→∀(k:Nat) u,vs[k]? =some u→w'.cell? ⟨b,j + k,none⟩=some u)
 (hu:(P.underlying ty).map (·.isRow)=some true) (hi:(P.info? ty).map (·.size)=some vs.length) (hk:K (a.put o.dst (.agg vs.toArray))):o.quiet P a (Cl L0 w0 L) K:=ZbJ _ (fun w' hw=>by
 obtain⟨d,hu,hd⟩:=Option.map_eq_some_iff.1 hu
 simp[execOp,hop,hx,run_loadAt_mid w' b j ty vs d (hc w' hw) hu hd hi,Result.andThen]) hk
end
end Gr
end
section
namespace Tab
open Path (bl Zag overB ZaB)
open Cmd (Cm Zar)
theorem ZfM (a b:Cm):Cmd.Zd0 a b=Za4 a b:=by
 unfold Cmd.Zd0 Za4 Cmd.keyC;cases(Cmd.footC a).2<;>cases(Cmd.footC b).2<;>simp
end Tab
end
section
namespace Gr
open _root_.Go.Proofs.YtbeckijoabapkaaGreatDoor.Tab (TS TRel TInv TabP CmIn CmOk ansZ playT Zap ZcA ZdM Good Za4)
open _root_.Go.Proofs.YtbeckijoabapkaaGreatDoor.Ref (IA)
open Go.RowKit
open Attr (A8 Zaz Zas thro eqA Zb9 ownsB)
open Cmd (Cm)
attribute [-go_sem] run_eql_struct run_neq_struct run_eqGuard_agg
attribute [local go_sem] Zow
theorem ZkF {W w:World} (h:(Part.old W).holds w) {b off:Nat} {u:Value} (hc:W.cell? ⟨b,off,none⟩=some u):w.cell? ⟨b,off,none⟩=some u:=by
 have hb:b < W.heap.size:=by
  rcases Nat.lt_or_ge b W.heap.size with q|q
  · exact q
  simp[World.cell?,Array.getElem?_eq_none q] at hc
 have:=h b hb;rw[←hc];simp[World.cell?,this]
theorem Zcu {w w':World} {L F:List Part} (h:At [Part.old w] w L w') (s:Sel (Part.old w) L F):Below w.heap.size w w':=by
 have ho:(Part.old w).holds w':=h.get s;exact⟨h.exc.os,h.exc.tape,h.exc.output,h.exc.size,fun b hb=>ho b hb⟩
theorem ZkE (w:World):At [Part.old w] w [Part.old w] w:=At.start ⟨fun _ _=>rfl,trivial,nofun⟩
def cmdL (l:List In) (z:I2):Cm:=((l.find? fun s=>decide (s.id=z)).map (·.c)).getD zeroC
theorem ZoR {l:List In} (h:CovL l l.length) {x:In} (hx:x ∈ l):x.c=cmdL l x.id:=by
 unfold cmdL
 cases hf:l.find? (fun s=>decide (s.id=x.id)) with
 |none=>
  have:=List.find?_eq_none.1 hf x hx
  simp at this
 |some y=>
  have h1:y.id=x.id:=by
   have:=List.find?_some hf
   simpa using this
  obtain⟨i,hi⟩:=List.getElem?_of_mem (List.mem_of_find?_eq_some hf);obtain⟨j,hj⟩:=List.getElem?_of_mem hx;show x.c=y.c;rcases Zh5 h hi hj with q|q|q
  · exact((q.1 h1).1).symm
  · exact(q.1 h1.symm).1
  rw[q]
theorem ZoP {l:List In} (h:CovL l l.length) {cmd:I2→Cm} (hcm:∀x ∈ l,x.c=cmd x.id) (x y:I2) (a b:A8) (ha:MX l x a) (hb:MX l y b) (hn:x≠y) (hc:Za4 (cmd x) (cmd y)=true):covA a y∨covA b x:=by
 obtain⟨i,s,h1,rfl,rfl⟩:=mx_at ha;obtain⟨j,u,g1,rfl,rfl⟩:=mx_at hb;rw[←hcm _ (List.mem_of_getElem? h1),←hcm _ (List.mem_of_getElem? g1),←Tab.ZfM] at hc
 have hcv:∀{a:A8} {z:I2},covB a z=true→covA a z:=fun {a z} q=>by
  unfold covB at q;rw[Bool.and_eq_true] at q;show z.2 < a.dep z.1.toNat;exact of_decide_eq_true q.2
 rcases Zh5 h h1 g1 with q|q|q
 · exact(q.2 hn hc).imp hcv hcv
 · have hc2:Cmd.Zd0 u.c s.c=true:=by
    rw[Tab.ZfM] at hc ⊢;rw[Tab.ZfN];exact hc
   exact((q.2 (fun e=>hn e.symm) hc2).imp hcv hcv).symm
 exact absurd (by rw[q]) hn
theorem ZhS {l:List In} (hc:CovL l l.length) {cmd:I2→Cm} (hcm:∀x ∈ l,x.c=cmd x.id) {first:Int} (f0:0≤first) (f1:first < Lease.big64) (hok:∀x ∈ l,CmIn x.c) {xs ys:List Int} (hs:∀n ∈ xs,n ∈ ys) {es es2:List IA} {f f2:F7} {K K2 out out2:List I2} {T T2:TS} {H H2:List AnI}
 (h:PlayedS cmd first l xs es f K out T H) (h2:PlayedS cmd first l ys es2 f2 K2 out2 T2 H2):∀p ∈ H,p ∈ H2:=by
 have hk:∀x ∈ K,x ∈ K2:=fun x hx=>by
  obtain⟨n,hn,r⟩:=(h.kin x).1 hx;exact(h2.kin x).2 ⟨n,hs n hn,r⟩
 rcases h2.fin with e|hn
 · have hK:∀x,x ∉ K:=fun x hx=>by
    have:=hk x hx;rw[e] at this;cases this
   have hout:out=[]:=List.eq_nil_iff_forall_not_mem.2 fun x hx=>hK x ((h.ex.keys x).1 (h.ex.pl.got x hx));rw[h.ex.hist,hout];exact fun p hp=>by cases hp
 refine h.ex.told (Zi2 hc) (ZoP hc hcm) h2.ex hn hk (k:=0) ⟨ZdM f0 f1,fun x hx=>by cases hx⟩ fun a ha=> ?_;obtain⟨u,hu,rfl⟩:=h2.in_l ((h2.ex.keys a).1 (h2.ex.pl.got a ha));rw[←hcm u hu];exact(hok u hu).ok
theorem Zk5 {cmd:I2→Cm} {l:List In} {first:Int} {xs:List Int} {es:List IA} {f:F7} {K out:List I2} {T:TS} {H:List AnI} (h:PlayedS cmd first l xs es f K out T H) {p q:AnI} (hp:p ∈ H) (hq:q ∈ H) (e:p.1=q.1):p=q:=by
 have hm:H.map (·.1)=out:=by
  rw[h.ex.hist];unfold ansZ;rw[←List.unzip_fst,List.unzip_zip (by rw[Tab.Zdb,List.length_map])]
 obtain⟨i,hi⟩:=List.getElem?_of_mem hp;obtain⟨j,hj⟩:=List.getElem?_of_mem hq;have h1:out[i]? =some p.1:=by rw[←hm,List.getElem?_map,hi];rfl
 have h2:out[j]? =some q.1:=by rw[←hm,List.getElem?_map,hj];rfl
 have hij:i=j:=by
  obtain⟨a1,a2⟩:=List.getElem?_eq_some_iff.1 h1;obtain⟨b1,b2⟩:=List.getElem?_eq_some_iff.1 h2;exact(List.getElem_inj (h:=h.ex.pl.once)).1 (by rw[a2,b2,e])
 subst hij;rw[hi] at hj;cases hj;rfl
structure InV (x:In):Prop where
 b0:0≤x.bal
 b1:x.bal < 4294967296
 v0:0≤x.vote
 v1:x.vote < 4294967296
 f:x.c.foot.size≤maxLen
 p:x.c.path.size≤maxLen
 num:0≤x.c.num∧x.c.num < Lease.big64
 req:0≤x.c.req∧x.c.req < Lease.big64
 n:0≤x.c.n
theorem InV.ok {x:In} (h:InV x) (hs:okX x=true):InOk x∧CmIn x.c:=by
 unfold okX at hs;simp only[Bool.and_eq_true,Bool.not_eq_true',decide_eq_false_iff_not] at hs;exact⟨⟨h.b0,h.b1,h.v0,h.v1,by omega,by omega⟩,⟨h.num,by omega,by omega⟩,h.req.1,h.req.2,h.n⟩
abbrev rowNX (v:Value) (xs:List Int):Part:=Part.row 3 1 v xs.length (xs.map (Value.int .i64))
theorem Zke (v:Value) (xs ys:List Int):Part.row 3 1 v (xs.length + ys.length) (xs.map (Value.int .i64)++ys.map (Value.int .i64))=rowNX v (xs++ys):=by
 unfold rowNX;rw[List.length_append,List.map_append]
theorem ZiR (xs:List Int):∀u ∈ xs.map (Value.int .i64),u.oneCell'=true:=by
 intro u hu;obtain⟨z,_,rfl⟩:=List.mem_map.1 hu;rfl
theorem infoN8:(Tryz.prog.info? 3).map (fun i=>(i.zero,i.size,i.bytes))=some (some (.int .i64 0),1,8):=by kernel_rfl
def OxRel (w:World) (F:List Part) (m:Nat) (k:Nat) (u:Value) (wr:World):Prop:=∃i:Nat,u=.int .i64 i∧i + k=m∧At [Part.old w] w F wr
def OxP (w:World) (e:Ending) (w':World):Prop:=e=.returned (.bool true)∧Below w.heap.size w w'
theorem prefix_law {w:World} {first:Int} (f0:0≤first) (f1:first < Lease.big64) {v av mv:Value} {l:List In} {xs ms:List Int} (hr:ZfQ (Part.old w) v l) (hvc:∃ax cap,v=.slice ax l.length cap∧l.length≤cap) (hl:l.length≤9223372036854775807) (hv:∀x ∈ l,InV x)
 (hx:Zi7 (Part.old w) av xs) (hxl:xs.length≤9223372036854775807) (hm:Zi7 (Part.old w) mv ms) (hml:ms.length≤9223372036854775807):
 Calls Tryz.prog 3 #[.int .u64 first,v,av,mv] w (OxP w):=by
 obtain⟨i0,hi0,hz0,hz1,hz2⟩:=info_parts infoN8;have hA:=ZkE w;have hvc':=Hd hvc;obtain⟨ax,cap,rfl,hcap⟩:=hvc;obtain⟨aa,ca,rfl,_,_⟩:=hx w (hA.get .here);obtain⟨am,cm,rfl,_,_⟩:=hm w (hA.get .here);have hr':=Hd hr;have hv':=Hd hv;have hx':=Hd hx;have hm':=Hd hm;have hf0':=Hd f0;have hf1':=Hd f1;clear hr hv hx hm f0 f1;obtain⟨hA,hF⟩:=fZ hA;go_enter Tryz.func3,Tryz.ntmps3;go_wp2_with fail;refine(Zih _).mono ?_;rintro e w1 ⟨rfl,hx⟩;replace hA:=hA.ext hx;clear hF hx;obtain⟨hA,hF⟩:=fZ hA;go_wp2_with fail;refine(Zjc (hA.sep1 (A:=Part.old w) sZ) hr'.out hl (fun x hx=>⟨(hv'.out x hx).p,(hv'.out x hx).f⟩) 16).mono ?_;rintro e w1 ⟨rfl,hT⟩;replace hA:=hA.call1 (A:=Part.old w) sZ hT;clear hT hF;obtain⟨hA,hF⟩:=fZ hA
 obtain⟨sm,hsm⟩:∃z,Zey l 16=z:=⟨_,rfl⟩
 rw[hsm]
 obtain⟨q1,hq1⟩:∃z,decide ((40:Int) < (xs.length:Int))=z:=⟨_,rfl⟩
 obtain⟨q2,hq2⟩:∃z,decide ((40:Int) < (ms.length:Int))=z:=⟨_,rfl⟩
 cases sm
 · go_wp2_with fail;go_ret;exact⟨rfl,Zcu hA sZ⟩
 cases q1
 · have hp1:¬(40:Int) < (xs.length:Int):=of_decide_eq_false hq1;cases q2
   · have hp2:¬(40:Int) < (ms.length:Int):=of_decide_eq_false hq2
     have hsm2:l.all okX=true∧(l.length:Int)≤16:=by
      unfold Zey at hsm;rw[Bool.and_eq_true,decide_eq_true_eq] at hsm;exact hsm
     obtain⟨hall,hl16⟩:=hsm2;have hoks:∀x ∈ l,InOk x∧CmIn x.c:=fun x hx=>(hv'.out x hx).ok (List.all_eq_true.1 hall x hx);have hoks':=Hd hoks;clear hoks hall hsm;go_wp2_with fail;refine(Zh4 (hA.sep1 (A:=Part.old w) sZ) hr'.out ⟨_,_,rfl,hcap⟩ (by omega) (fun x hx=>(hoks'.out x hx).1)).mono ?_;rintro e w1 ⟨bc,rfl,hcov,hT⟩;replace hA:=hA.call1 (A:=Part.old w) sZ hT;clear hT hF;obtain⟨hA,hF⟩:=fZ hA;cases bc
     · go_wp2_with fail;go_ret;exact⟨rfl,Zcu hA sZ⟩
     have hcov':=Hd (hcov rfl);clear hcov
     obtain⟨cmd,hcm⟩:∃cmd:I2→Cm,Hid (∀x ∈ l,x.c=cmd x.id):=⟨cmdL l,Hd fun x hx=>ZoR hcov'.out hx⟩
     go_wp2_with fail;refine(ZeI cmd (hA.sep1 (A:=Part.old w) sZ) hf0'.out hf1'.out hr'.out (by omega) hx'.out (by omega) hcov'.out (fun x hx=>(hoks'.out x hx).1) hcm.out (fun x hx=>(hoks'.out x hx).2)).mono ?_;rintro e w1 ⟨X,f,kn,es,K,out,ss,b,hv,H,T,rfl,hps,hT⟩;replace hA:=hA.call1 (A:=Part.old w) sZ hT;clear hT hF;obtain⟨hA,hF⟩:=fZ hA;have hps':=Hd hps;clear hps
     go_wp2_with (first|((with_reducible show wpList _ _ _ ({dst:=_,op:=Op.buildSlice _ _ _,type:=_,pos:=_,after:=_,guard:=_}::_) _ _);refine ZbO (e:=3) 1 rfl rfl (fun _=>by kernel_rfl) hA ?_;intro b41 w1 hB;replace hA:=hB;clear hF hB;obtain⟨hA,hF⟩:=fZ hA)|((with_reducible show wpList _ _ _ ({dst:=some 43,op:=Op.call {callee:=Callee.builtin Builtin.append,args:=_,argTypes:=_},type:=_,pos:=_,after:=_,guard:=_}::_) _ _);refine Zal (e:=3) (size:=1) (v:=.slice (some ⟨b41,0,none⟩) 0 0) (xs:=[]) (n:=0) (m:=ms.length) (news:=ms.map (Value.int .i64)) rfl _ _ 24 rfl Tryz.underlying24 hi0 hz0 hz1 hz2 rfl (by omega) hA sZ (by(try simp only[Act.eval,eV])<;>exact rfl) (by(try simp only[Act.eval,eV])<;>exact rfl) (by simp) (hm'.out _ (hA.get (A:=Part.old w) sZ)) (ZiR ms) (by unfold maxLen;omega) (by omega) ?_;intro v43 w1 hB;rw[Nat.zero_add,List.nil_append] at hB;replace hA:=hB;clear hF hB;obtain⟨hA,hF⟩:=fZ hA)|((with_reducible show wpList _ _ _ ({dst:=some 45,op:=Op.call {callee:=Callee.builtin Builtin.append,args:=_,argTypes:=_},type:=_,pos:=_,after:=_,guard:=_}::_) _ _);refine Zal (e:=3) (size:=1) (v:=v43) (xs:=ms.map (Value.int .i64)) (n:=ms.length) (m:=xs.length) (news:=xs.map (Value.int .i64)) rfl _ _ 24 rfl Tryz.underlying24 hi0 hz0 hz1 hz2 rfl (by omega) hA sZ (by(try simp only[Act.eval,eV])<;>exact rfl) (by(try simp only[Act.eval,eV])<;>exact rfl) (by simp) (hx'.out _ (hA.get (A:=Part.old w) sZ)) (ZiR xs) (by unfold maxLen;omega) (by omega) ?_;intro v45 w1 hB;rw[Zke] at hB;replace hA:=hB;clear hF hB;obtain⟨hA,hF⟩:=fZ hA))
     have hB:At [Part.old w] w [Part.all [Part.old w,rowNX v45 (ms++xs)],ExP cmd X f kn es K ss b hv H] _:=(hA.pick (K:=[Part.old w,rowNX v45 (ms++xs),ExP cmd X f kn es K ss b hv H]) pZ).to (Eqv.all [Part.old w,rowNX v45 (ms++xs)] [ExP cmd X f kn es K ss b hv H]).symm;replace hA:=hB;clear hF hB;obtain⟨hA,hF⟩:=fZ hA;refine(ZeI cmd (hA.sep1 (A:=Part.all [Part.old w,rowNX v45 (ms++xs)]) sZ) (ov:=v45) (xs:=ms++xs) hf0'.out hf1'.out (fun w2 (hw:Sep [Part.old w,rowNX v45 (ms++xs)] w2)=>hr'.out w2 hw.1) (by omega) (fun w2 (hw:Sep [Part.old w,rowNX v45 (ms++xs)] w2)=>ZbU hw.2.1.1) (by rw[List.length_append];omega) hcov'.out (fun x hx=>(hoks'.out x hx).1) hcm.out (fun x hx=>(hoks'.out x hx).2)).mono ?_;rintro e w1 ⟨Y,f2,kn2,es2,K2,out2,ss2,b2,hv2,H2,T2,rfl,hps2,hT⟩;have hB:=hA.call1 (A:=Part.all [Part.old w,rowNX v45 (ms++xs)]) sZ hT;clear hT hF hA;have hA:At [Part.old w] w ([Part.old w,rowNX v45 (ms++xs)]++[ExP cmd Y f2 kn2 es2 K2 ss2 b2 hv2 H2,ExP cmd X f kn es K ss b hv H]) w1:=(hB.pick (K:=[Part.all [Part.old w,rowNX v45 (ms++xs)],ExP cmd Y f2 kn2 es2 K2 ss2 b2 hv2 H2,ExP cmd X f kn es K ss b hv H]) pZ).to (Eqv.all [Part.old w,rowNX v45 (ms++xs)] [ExP cmd Y f2 kn2 es2 K2 ss2 b2 hv2 H2,ExP cmd X f kn es K ss b hv H]);clear hB;simp only[uA] at hA;obtain⟨hA,hF⟩:=fZ hA;have htold:=Hd (ZhS hcov'.out hcm.out hf0'.out hf1'.out (fun x hx=>(hoks'.out x hx).2) (fun n hn=>List.mem_append_right ms hn) hps'.out hps2);have hlH:=hps'.out.len;have hlH2:=hps2.len;have hps2':=Hd hps2;clear hps2;have hH1:H.length≤1000:=by omega
     have hH2:H2.length≤1000:=by omega
     clear hlH hlH2;go_wp2_with fail;refine(ZeT cmd (hA.sep1 (A:=ExP cmd Y f2 kn2 es2 K2 ss2 b2 hv2 H2) sZ) (by omega)).mono ?_;rintro e w1 ⟨qv,rfl,hT⟩;replace hA:=hA.call1 (A:=ExP cmd Y f2 kn2 es2 K2 ss2 b2 hv2 H2) sZ hT;clear hT hF;obtain⟨hA,hF⟩:=fZ hA;go_wp2_with fail;refine(ZeT cmd (hA.sep1 (A:=ExP cmd X f kn es K ss b hv H) sZ) (by omega)).mono ?_;rintro e w1 ⟨pv,rfl,hT⟩;replace hA:=hA.call1 (A:=ExP cmd X f kn es K ss b hv H) sZ hT;clear hT hF;obtain⟨hA,hF⟩:=fZ hA;obtain⟨axq,capq,hqe,_⟩:=hA.row_form (e:=42) (size:=13) (n:=H2.length) (v:=qv) (xs:=Zba cmd H2) sZ;subst hqe;obtain⟨axp,capp,hpe,_⟩:=hA.row_form (e:=42) (size:=13) (n:=H.length) (v:=pv) (xs:=Zba cmd H) sZ;subst hpe;go_wp2_with fail;(try go_frame);have hB:At [Part.old w] w [rowDn cmd (.slice axq H2.length capq) H2,rowDn cmd (.slice axp H.length capp) H,Part.old w] _:=hA.pick pR;clear hF hA;go_loopg [52] H.length (OxRel w [rowDn cmd (.slice axq H2.length capq) H2,rowDn cmd (.slice axp H.length capp) H,Part.old w] H.length)
     case atStart=>exact⟨0,rfl,by omega,hB⟩
     case round=>
      obtain⟨i,rfl,hik,hA⟩:=hrel;clear hB;by_cases hi:i < H.length
      · obtain⟨p,hp⟩:∃p,H[i]? =some p:=⟨_,List.getElem?_eq_getElem hi⟩
        have hiI:(i:Int) < H.length:=by omega
        have hpm:=htold.out p (List.mem_of_getElem? hp);obtain⟨bl,ofl,hax,hce⟩:=ZdL (R:=rowDn cmd (.slice axp H.length capp) H) (fun w2 hw=>ZbU hw) hp (hA.get (A:=rowDn cmd (.slice axp H.length capp) H) sR);subst hax;have hce:=hce _ (hA.get (A:=rowDn cmd (.slice (some ⟨bl,ofl,none⟩) H.length capp) H) sR);have hpl:=fun(w1:World) (q:Sep [rowDn cmd (.slice axq H2.length capq) H2] w1)=>Zkt cmd q (v:=.slice axq H2.length capq) (H:=H2) (fun w2 hw=>ZbU hw) (by omega) p.1;have hpm':=Hd hpm;clear hp hpm;obtain⟨⟨r,t⟩,⟨le,ln,lg⟩⟩:=p;simp only[idV] at hpl;have hpl':=Hd hpl;clear hpl;have hrd':=Hd (show ∀(k:Nat) u,([.int .i64 r,.int .i64 t,.int .i64 (cmd (r,t)).kind,.int .u64 (cmd (r,t)).num,.string (cmd (r,t)).foot,.int .u64 (cmd (r,t)).req,.string (cmd (r,t)).path,.int .i64 (cmd (r,t)).mode,.int .u64 (cmd (r,t)).n,.int .i64 (cmd (r,t)).time,.int .i64 le,.int .u64 ln,.bool lg]:List Value)[k]? =some u→wr.cell? ⟨bl,ofl + i * 13 + k,none⟩=some u from hce);clear hce;obtain⟨hA,hF⟩:=fZ hA
        go_wp2_with (first|((with_reducible refine gal ?_);refine g10 hA ?_;clear hF hA;intro b13 w1 hA hb13 hF)|((with_reducible show wpList _ _ _ ({dst:=some 55,op:=Op.load _ _,type:=_,pos:=_,after:=_,guard:=_}::_) _ _);refine Zad (vs:=[.int .i64 r,.int .i64 t,.int .i64 (cmd (r,t)).kind,.int .u64 (cmd (r,t)).num,.string (cmd (r,t)).foot,.int .u64 (cmd (r,t)).req,.string (cmd (r,t)).path,.int .i64 (cmd (r,t)).mode,.int .u64 (cmd (r,t)).n,.int .i64 (cmd (r,t)).time,.int .i64 le,.int .u64 ln,.bool lg]) rfl rfl (by(try simp only[Act.eval,eV])<;>exact rfl) hrd'.out (by kernel_rfl) (by kernel_rfl) ?_)|((with_reducible refine gst ?_);refine wTz hA ?_;clear hF hA;intro w1 hA hF))
        refine(hpl'.out _ (hA.sep1 (A:=rowDn cmd (.slice axq H2.length capq) H2) sR)).mono ?_;rintro e w1 ⟨k,rfl,hkk,hT⟩;replace hA:=hA.call1 (A:=rowDn cmd (.slice axq H2.length capq) H2) sR hT;clear hT hF hpl';(try simp only[uA] at hA)
        obtain⟨i2,hi2,rfl⟩:∃i2:Nat,H2[i2]? =some (((r,t),⟨le,ln,lg⟩):AnI)∧k=(i2:Int):=by
         rcases hkk with⟨_,hno⟩|⟨i2,p2,e2,h2,e3⟩
         · exact absurd rfl (hno _ hpm'.out)
         exact⟨i2,by rw[h2,Zk5 hps2'.out (List.mem_of_getElem? h2) hpm'.out e3],e2⟩
        clear hkk hpm';have hi2l:i2 < H2.length:=(List.getElem?_eq_some_iff.1 hi2).1;obtain⟨bq,oq,haxq,hcq⟩:=ZdL (R:=rowDn cmd (.slice axq H2.length capq) H2) (fun w2 hw=>ZbU hw) hi2 (hA.get (A:=rowDn cmd (.slice axq H2.length capq) H2) sR);subst haxq;have hcq':=Hd (show ∀w2,(rowDn cmd (.slice (some ⟨bq,oq,none⟩) H2.length capq) H2).holds w2→∀(k:Nat) u,([.int .i64 r,.int .i64 t,.int .i64 (cmd (r,t)).kind,.int .u64 (cmd (r,t)).num,.string (cmd (r,t)).foot,.int .u64 (cmd (r,t)).req,.string (cmd (r,t)).path,.int .i64 (cmd (r,t)).mode,.int .u64 (cmd (r,t)).n,.int .i64 (cmd (r,t)).time,.int .i64 le,.int .u64 ln,.bool lg]:List Value)[k]? =some u→w2.cell? ⟨bq,oq + i2 * 13 + k,none⟩=some u from hcq);clear hcq hi2;have hneg:decide ((i2:Int) < 0)=false:=decide_eq_false (by omega);have hneg2:¬((i2:Int) < 0):=by omega
        have hi2I:(i2:Int) < (H2.length:Int):=by omega
        have hne:=fun w=>neqDn r t (cmd (r,t)) le ln lg w;obtain⟨hA,hF⟩:=fZ hA;go_upto_region 12 with fail
        (try go_frame);(refine cA hA ?_);(have hn1:=Cl.none hA);(have hn2:=Cl.none2 hA);(repeat(first|go_big_quiet_skip|(go_big_quiet_want;(first|(refine qM 42 13 ?_;go_frame;go_big_quiet_on)|((((with_reducible show Oper.quiet _ {dst:=some 66,op:=Op.load _ _,type:=_,pos:=_,after:=_,guard:=_} _ _ _);refine Zfc (b:=bq) (j:=oq + i2 * 13) (vs:=[.int .i64 r,.int .i64 t,.int .i64 (cmd (r,t)).kind,.int .u64 (cmd (r,t)).num,.string (cmd (r,t)).foot,.int .u64 (cmd (r,t)).req,.string (cmd (r,t)).path,.int .i64 (cmd (r,t)).mode,.int .u64 (cmd (r,t)).n,.int .i64 (cmd (r,t)).time,.int .i64 le,.int .u64 ln,.bool lg]) rfl (by(try simp only[Act.eval,eV])<;>exact rfl) (fun w' hw=>hcq'.out w' (hw.get (A:=rowDn cmd (.slice (some ⟨bq,oq,none⟩) H2.length capq) H2) sR)) (by kernel_rfl) (by kernel_rfl) ?_));go_frame;go_big_quiet_on)|(refine qL ?_;go_frame;go_big_quiet_on)|(go_big_quiet_op;(first|go_big_quiet_on|((apply Exists.intro);(refine⟨fun w1 hw=> ?_,?_⟩);(focus((have hw:=Cl.out hw);(skip)));(go_big_quiet_on))))))))
        (refine wpQuiet_nil ?_);(intro w1 hB);(clear hF hA hn1 hn2);(have hA:=Cl.out hB);(clear hB);obtain⟨hA,hF⟩:=fZ hA
        go_wp2_with fail;go_roundg (gk - 1);case measure=>omega
        case rel=>exact⟨i + 1,by simp,by omega,hA.pick pR⟩
      have hiI:¬(i:Int) < (H.length:Int):=by omega
      obtain⟨hA,hF⟩:=fZ hA;go_wp2_with fail;go_ret;exact⟨rfl,Zcu hA sR⟩
   have hp2:(40:Int) < (ms.length:Int):=of_decide_eq_true hq2;go_wp2_with fail;go_ret;exact⟨rfl,Zcu hA sZ⟩
 have hp1:(40:Int) < (xs.length:Int):=of_decide_eq_true hq1;go_wp2_with fail;go_ret;exact⟨rfl,Zcu hA sZ⟩
end Gr
end
section
namespace Gr
open Go.RowKit Go.Joins Go.ChangeShapes Go.WideShapes
open Attr (A8)
open Cmd (Cm)
theorem ZaT {α:Type} (l:List α) (a s:Nat) {t:Nat} (h:a + s=t):l.drop a=(l.drop a).take s++l.drop t:=by
 subst h;conv=>lhs;rw[←List.take_append_drop s (l.drop a)]
 rw[List.drop_drop]
theorem ZdS {α:Type} (l:List α) {n:Nat} (h:l.length=n):l.drop n=[]:=List.drop_eq_nil_of_le (by omega)
theorem Zfn {W:World} {v:Value} {n:Nat} {xs:List Value} (h:Reads W v n xs) {w:World} (hw:(Part.old W).holds w):Reads w v n xs:=by
 obtain⟨ax,c,hx,ha,hn⟩:=h;refine⟨ax,c,hx,ha,fun j u hj=> ?_⟩;obtain⟨b,off,h1,h2⟩:=hn j u hj;exact⟨b,off,h1,ZkF hw h2⟩
section
variable {H:Type} {enc:TypeId × Value→H} {W:World} {base:Nat} {spare:Nat→Bool} {held:Bool} {fuel:Nat}
theorem wf64X {n:Int} (h:(Lit.int .u64 n).wf=true):0≤n∧n < Lease.big64:=by
 simp[Lit.wf,IntKind.min,IntKind.max,IntKind.signed,IntKind.bits] at h;unfold Lease.big64;omega
theorem wf32X {n:Int} (h:(Lit.int .u32 n).wf=true):0≤n∧n < 4294967296:=by
 simp[Lit.wf,IntKind.min,IntKind.max,IntKind.signed,IntKind.bits] at h;omega
theorem Zmh {α:Type} {encA:α→List Value} {size:Nat} (hs:∀x,(encA x).length=size) (h0:0 < size) {a:Addr} {len cap:Nat} {f:Nat→α} (h:∀i,i < len→W.cells? base (a.add (i * size)) size=some (encA (f i))):
 Reads W (.slice (some a) len cap) len (((List.range len).map f).flatMap encA):=by
 refine⟨some a,cap,rfl,nofun,fun j u hj=> ?_⟩
 have hj2:j < len * size:=by
  have:=(List.getElem?_eq_some_iff.1 hj).1;rw[Zbl encA size hs] at this
  simpa using this
 have hi:j / size < len:=Nat.div_lt_of_lt_mul (by rw[Nat.mul_comm];exact hj2);have hm:j % size < size:=Nat.mod_lt _ h0;obtain⟨h4,h5,h6⟩:=World.cells?_some (h (j / size) hi);have hz:=(World.cells?_some (h 0 (Nat.lt_of_le_of_lt (Nat.zero_le _) hi))).2.2 0 h0
 obtain⟨u0,hu0⟩:∃u,(encA (f 0))[0]? =some u:=⟨_,List.getElem?_eq_getElem (by rw[hs];exact h0)⟩
 rw[hu0] at hz;obtain⟨b,off,sp⟩:=a
 have hsn:sp=none:=by
  have:=congrArg Addr.spot (ZgF hz)
  simpa [Addr.add] using this
 subst hsn;have e:=ZcZ encA size hs ((List.range len).map f) (j / size) (f (j / size)) (by simp[hi]) (j % size) hm;have hjj:j / size * size + j % size=j:=by rw[Nat.mul_comm];exact Nat.div_add_mod j size
 rw[hjj] at e;rw[e] at hj;have h7:=h6 (j % size) hm;rw[Addr.add_lit,Addr.add_lit,Nat.add_assoc,hjj] at h7;exact⟨b,off,rfl,h7.trans hj⟩
theorem Zms {cs:List Value} {y:DataW H × List MemPlace} (h:DataW.trod enc Tryz.prog W base spare held fuel 33 cs=some y):∃a b,cs=[.int .i64 a,.int .i64 b]:=by
 obtain⟨xs,n,_,rfl,hl,hxl,hf⟩:=DataW.trod_struct Tryz.underlying33 h;have hn:cs.length=2:=hl.trans (by kernel_rfl);have hx:xs.length=2:=hxl;have hc_int:Tryz.prog.cellsOf 3=1:=by kernel_rfl
 match xs,hx with
 |[y0,y1],_=>
  have f0:DataW.trod enc Tryz.prog W base spare held n 3 ((cs.drop 0).take (Tryz.prog.cellsOf 3))=some y0:=hf 0 _ rfl;rw[hc_int] at f0;have f1:DataW.trod enc Tryz.prog W base spare held n 3 ((cs.drop 1).take (Tryz.prog.cellsOf 3))=some y1:=hf 1 _ rfl;rw[hc_int] at f1;obtain⟨k0,e0,_,w0⟩:=DataW.trod_int Tryz.underlying3 f0;obtain⟨k1,e1,_,w1⟩:=DataW.trod_int Tryz.underlying3 f1;have hcs:cs.drop 0=(cs.drop 0).take 1++((cs.drop 1).take 1++[]):=(ZaT cs 0 1 (t:=1) rfl).trans (congrArg (_++ ·) ((ZaT cs 1 1 (t:=2) rfl).trans (congrArg (_++ ·) (ZdS cs hn))));rw[e0,e1] at hcs;exact⟨k0,k1,hcs⟩
theorem ZhU {cs:List Value} {y:DataW H × List MemPlace} (h:DataW.trod enc Tryz.prog W base spare held fuel 49 cs=some y):∃d0 d1 d2 d3 d4 d5 d6,cs=[.int .i64 d0,.int .i64 d1,.int .i64 d2,.int .i64 d3,.int .i64 d4,.int .i64 d5,.int .i64 d6]:=by
 obtain⟨xs,n,_,rfl,hl,hxl,hf⟩:=DataW.trod_array Tryz.underlying49 h;have hn:cs.length=7:=hl.trans (by kernel_rfl);have hx:xs.length=7:=hxl;have hc_int:Tryz.prog.cellsOf 3=1:=by kernel_rfl
 match xs,hx with
 |[y0,y1,y2,y3,y4,y5,y6],_=>
  have f0:DataW.trod enc Tryz.prog W base spare held n 3 ((cs.drop (0 * Tryz.prog.cellsOf 3)).take (Tryz.prog.cellsOf 3))=some y0:=hf 0 (by omega);rw[hc_int] at f0;have f1:DataW.trod enc Tryz.prog W base spare held n 3 ((cs.drop (1 * Tryz.prog.cellsOf 3)).take (Tryz.prog.cellsOf 3))=some y1:=hf 1 (by omega);rw[hc_int] at f1;have f2:DataW.trod enc Tryz.prog W base spare held n 3 ((cs.drop (2 * Tryz.prog.cellsOf 3)).take (Tryz.prog.cellsOf 3))=some y2:=hf 2 (by omega);rw[hc_int] at f2;have f3:DataW.trod enc Tryz.prog W base spare held n 3 ((cs.drop (3 * Tryz.prog.cellsOf 3)).take (Tryz.prog.cellsOf 3))=some y3:=hf 3 (by omega);rw[hc_int] at f3;have f4:DataW.trod enc Tryz.prog W base spare held n 3 ((cs.drop (4 * Tryz.prog.cellsOf 3)).take (Tryz.prog.cellsOf 3))=some y4:=hf 4 (by omega);rw[hc_int] at f4;have f5:DataW.trod enc Tryz.prog W base spare held n 3 ((cs.drop (5 * Tryz.prog.cellsOf 3)).take (Tryz.prog.cellsOf 3))=some y5:=hf 5 (by omega);rw[hc_int] at f5;have f6:DataW.trod enc Tryz.prog W base spare held n 3 ((cs.drop (6 * Tryz.prog.cellsOf 3)).take (Tryz.prog.cellsOf 3))=some y6:=hf 6 (by omega);rw[hc_int] at f6;obtain⟨k0,e0,_,w0⟩:=DataW.trod_int Tryz.underlying3 f0;obtain⟨k1,e1,_,w1⟩:=DataW.trod_int Tryz.underlying3 f1;obtain⟨k2,e2,_,w2⟩:=DataW.trod_int Tryz.underlying3 f2;obtain⟨k3,e3,_,w3⟩:=DataW.trod_int Tryz.underlying3 f3;obtain⟨k4,e4,_,w4⟩:=DataW.trod_int Tryz.underlying3 f4;obtain⟨k5,e5,_,w5⟩:=DataW.trod_int Tryz.underlying3 f5;obtain⟨k6,e6,_,w6⟩:=DataW.trod_int Tryz.underlying3 f6;have hcs:cs.drop 0=(cs.drop 0).take 1++((cs.drop 1).take 1++((cs.drop 2).take 1++((cs.drop 3).take 1++((cs.drop 4).take 1++((cs.drop 5).take 1++((cs.drop 6).take 1++[])))))):=(ZaT cs 0 1 (t:=1) rfl).trans (congrArg (_++ ·) ((ZaT cs 1 1 (t:=2) rfl).trans (congrArg (_++ ·) ((ZaT cs 2 1 (t:=3) rfl).trans (congrArg (_++ ·) ((ZaT cs 3 1 (t:=4) rfl).trans (congrArg (_++ ·) ((ZaT cs 4 1 (t:=5) rfl).trans (congrArg (_++ ·) ((ZaT cs 5 1 (t:=6) rfl).trans (congrArg (_++ ·) ((ZaT cs 6 1 (t:=7) rfl).trans (congrArg (_++ ·) (ZdS cs hn))))))))))))));simp only[Nat.zero_mul,Nat.one_mul,Nat.mul_one] at e0 e1 e2 e3 e4 e5 e6;rw[e0,e1,e2,e3,e4,e5,e6] at hcs;exact⟨k0,k1,k2,k3,k4,k5,k6,hcs⟩
theorem Zjt {cs:List Value} {y:DataW H × List MemPlace} (h:DataW.trod enc Tryz.prog W base spare held fuel 51 cs=some y):∃s d0 d1 d2 d3 d4 d5 d6,cs=[.int .i64 s,.int .i64 d0,.int .i64 d1,.int .i64 d2,.int .i64 d3,.int .i64 d4,.int .i64 d5,.int .i64 d6]:=by
 obtain⟨xs,n,_,rfl,hl,hxl,hf⟩:=DataW.trod_struct Tryz.underlying51 h;have hn:cs.length=8:=hl.trans (by kernel_rfl);have hx:xs.length=2:=hxl;have hc_7int:Tryz.prog.cellsOf 49=7:=by kernel_rfl
 have hc_int:Tryz.prog.cellsOf 3=1:=by kernel_rfl
 match xs,hx with
 |[y0,y1],_=>
  have f0:DataW.trod enc Tryz.prog W base spare held n 3 ((cs.drop 0).take (Tryz.prog.cellsOf 3))=some y0:=hf 0 _ rfl;rw[hc_int] at f0;have f1:DataW.trod enc Tryz.prog W base spare held n 49 ((cs.drop 1).take (Tryz.prog.cellsOf 49))=some y1:=hf 1 _ rfl;rw[hc_7int] at f1;obtain⟨k0,e0,_,w0⟩:=DataW.trod_int Tryz.underlying3 f0;obtain⟨d0,d1,d2,d3,d4,d5,d6,e1⟩:=ZhU f1;have hcs:cs.drop 0=(cs.drop 0).take 1++((cs.drop 1).take 7++[]):=(ZaT cs 0 1 (t:=1) rfl).trans (congrArg (_++ ·) ((ZaT cs 1 7 (t:=8) rfl).trans (congrArg (_++ ·) (ZdS cs hn))));rw[e0,e1] at hcs;exact⟨k0,d0,d1,d2,d3,d4,d5,d6,hcs⟩
theorem Zjr {cs:List Value} {y:DataW H × List MemPlace} (h:DataW.trod enc Tryz.prog W base spare held fuel 35 cs=some y):∃n f,cs=[.int .u64 n,.string f]∧(0≤n∧n < Lease.big64)∧f.size≤maxLen:=by
 obtain⟨xs,n,_,rfl,hl,hxl,hf⟩:=DataW.trod_struct Tryz.underlying35 h;have hn:cs.length=2:=hl.trans (by kernel_rfl);have hx:xs.length=2:=hxl;have hc_string:Tryz.prog.cellsOf 9=1:=by kernel_rfl
 have hc_uint64:Tryz.prog.cellsOf 22=1:=by kernel_rfl
 match xs,hx with
 |[y0,y1],_=>
  have f0:DataW.trod enc Tryz.prog W base spare held n 22 ((cs.drop 0).take (Tryz.prog.cellsOf 22))=some y0:=hf 0 _ rfl;rw[hc_uint64] at f0;have f1:DataW.trod enc Tryz.prog W base spare held n 9 ((cs.drop 1).take (Tryz.prog.cellsOf 9))=some y1:=hf 1 _ rfl;rw[hc_string] at f1;obtain⟨k0,e0,_,w0⟩:=DataW.trod_int Tryz.underlying22 f0;obtain⟨k1,e1,_,w1⟩:=DataW.trod_string Tryz.underlying9 f1;have hcs:cs.drop 0=(cs.drop 0).take 1++((cs.drop 1).take 1++[]):=(ZaT cs 0 1 (t:=1) rfl).trans (congrArg (_++ ·) ((ZaT cs 1 1 (t:=2) rfl).trans (congrArg (_++ ·) (ZdS cs hn))));rw[e0,e1] at hcs;exact⟨k0,k1,hcs,wf64X w0,w1⟩
theorem ZkB {cs:List Value} {y:DataW H × List MemPlace} (h:DataW.trod enc Tryz.prog W base spare held fuel 37 cs=some y):∃k0 k1 k2 k3 k4 k5 k6 k7,cs=[.int .i64 k0,.int .u64 k1,.string k2,.int .u64 k3,.string k4,.int .i64 k5,.int .u64 k6,.int .i64 k7]∧(0≤k1∧k1 < Lease.big64)∧k2.size≤maxLen∧(0≤k3∧k3 < Lease.big64)∧k4.size≤maxLen∧0≤k6:=by
 obtain⟨xs,n,_,rfl,hl,hxl,hf⟩:=DataW.trod_struct Tryz.underlying37 h;have hn:cs.length=8:=hl.trans (by kernel_rfl);have hx:xs.length=7:=hxl;have hc_int:Tryz.prog.cellsOf 3=1:=by kernel_rfl
 have hc_moothillcmdSession:Tryz.prog.cellsOf 35=2:=by kernel_rfl
 have hc_string:Tryz.prog.cellsOf 9=1:=by kernel_rfl
 have hc_uint64:Tryz.prog.cellsOf 22=1:=by kernel_rfl
 match xs,hx with
 |[y0,y1,y2,y3,y4,y5,y6],_=>
  have f0:DataW.trod enc Tryz.prog W base spare held n 3 ((cs.drop 0).take (Tryz.prog.cellsOf 3))=some y0:=hf 0 _ rfl;rw[hc_int] at f0;have f1:DataW.trod enc Tryz.prog W base spare held n 35 ((cs.drop 1).take (Tryz.prog.cellsOf 35))=some y1:=hf 1 _ rfl;rw[hc_moothillcmdSession] at f1;have f2:DataW.trod enc Tryz.prog W base spare held n 22 ((cs.drop 3).take (Tryz.prog.cellsOf 22))=some y2:=hf 2 _ rfl;rw[hc_uint64] at f2;have f3:DataW.trod enc Tryz.prog W base spare held n 9 ((cs.drop 4).take (Tryz.prog.cellsOf 9))=some y3:=hf 3 _ rfl;rw[hc_string] at f3;have f4:DataW.trod enc Tryz.prog W base spare held n 3 ((cs.drop 5).take (Tryz.prog.cellsOf 3))=some y4:=hf 4 _ rfl;rw[hc_int] at f4;have f5:DataW.trod enc Tryz.prog W base spare held n 22 ((cs.drop 6).take (Tryz.prog.cellsOf 22))=some y5:=hf 5 _ rfl;rw[hc_uint64] at f5;have f6:DataW.trod enc Tryz.prog W base spare held n 3 ((cs.drop 7).take (Tryz.prog.cellsOf 3))=some y6:=hf 6 _ rfl;rw[hc_int] at f6;obtain⟨k0,e0,_,w0⟩:=DataW.trod_int Tryz.underlying3 f0;obtain⟨k1,k2,e1,w1,v1⟩:=Zjr f1;obtain⟨k3,e2,_,w2⟩:=DataW.trod_int Tryz.underlying22 f2;obtain⟨k4,e3,_,w3⟩:=DataW.trod_string Tryz.underlying9 f3;obtain⟨k5,e4,_,w4⟩:=DataW.trod_int Tryz.underlying3 f4;obtain⟨k6,e5,_,w5⟩:=DataW.trod_int Tryz.underlying22 f5;obtain⟨k7,e6,_,w6⟩:=DataW.trod_int Tryz.underlying3 f6;have hcs:cs.drop 0=(cs.drop 0).take 1++((cs.drop 1).take 2++((cs.drop 3).take 1++((cs.drop 4).take 1++((cs.drop 5).take 1++((cs.drop 6).take 1++((cs.drop 7).take 1++[])))))):=(ZaT cs 0 1 (t:=1) rfl).trans (congrArg (_++ ·) ((ZaT cs 1 2 (t:=3) rfl).trans (congrArg (_++ ·) ((ZaT cs 3 1 (t:=4) rfl).trans (congrArg (_++ ·) ((ZaT cs 4 1 (t:=5) rfl).trans (congrArg (_++ ·) ((ZaT cs 5 1 (t:=6) rfl).trans (congrArg (_++ ·) ((ZaT cs 6 1 (t:=7) rfl).trans (congrArg (_++ ·) ((ZaT cs 7 1 (t:=8) rfl).trans (congrArg (_++ ·) (ZdS cs hn))))))))))))));rw[e0,e1,e2,e3,e4,e5,e6] at hcs;exact⟨k0,k1,k2,k3,k4,k5,k6,k7,hcs,w1,v1,wf64X w2,w3,(wf64X w5).1⟩
theorem Zjs {cs:List Value} {y:DataW H × List MemPlace} (h:DataW.trod enc Tryz.prog W base spare held fuel 53 cs=some y):∃x:In,cs=x.cells∧InV x:=by
 obtain⟨xs,n,_,rfl,hl,hxl,hf⟩:=DataW.trod_struct Tryz.underlying53 h;have hn:cs.length=22:=hl.trans (by kernel_rfl);have hx:xs.length=7:=hxl;have hc_bool:Tryz.prog.cellsOf 4=1:=by kernel_rfl
 have hc_int:Tryz.prog.cellsOf 3=1:=by kernel_rfl
 have hc_moothillattrAttr:Tryz.prog.cellsOf 51=8:=by kernel_rfl
 have hc_moothillcmdCmd:Tryz.prog.cellsOf 37=8:=by kernel_rfl
 have hc_moothillmarkBallot:Tryz.prog.cellsOf 48=1:=by kernel_rfl
 have hc_moothillmarkID:Tryz.prog.cellsOf 33=2:=by kernel_rfl
 match xs,hx with
 |[y0,y1,y2,y3,y4,y5,y6],_=>
  have f0:DataW.trod enc Tryz.prog W base spare held n 33 ((cs.drop 0).take (Tryz.prog.cellsOf 33))=some y0:=hf 0 _ rfl;rw[hc_moothillmarkID] at f0;have f1:DataW.trod enc Tryz.prog W base spare held n 3 ((cs.drop 2).take (Tryz.prog.cellsOf 3))=some y1:=hf 1 _ rfl;rw[hc_int] at f1;have f2:DataW.trod enc Tryz.prog W base spare held n 48 ((cs.drop 3).take (Tryz.prog.cellsOf 48))=some y2:=hf 2 _ rfl;rw[hc_moothillmarkBallot] at f2;have f3:DataW.trod enc Tryz.prog W base spare held n 48 ((cs.drop 4).take (Tryz.prog.cellsOf 48))=some y3:=hf 3 _ rfl;rw[hc_moothillmarkBallot] at f3;have f4:DataW.trod enc Tryz.prog W base spare held n 4 ((cs.drop 5).take (Tryz.prog.cellsOf 4))=some y4:=hf 4 _ rfl;rw[hc_bool] at f4;have f5:DataW.trod enc Tryz.prog W base spare held n 37 ((cs.drop 6).take (Tryz.prog.cellsOf 37))=some y5:=hf 5 _ rfl;rw[hc_moothillcmdCmd] at f5;have f6:DataW.trod enc Tryz.prog W base spare held n 51 ((cs.drop 14).take (Tryz.prog.cellsOf 51))=some y6:=hf 6 _ rfl;rw[hc_moothillattrAttr] at f6;obtain⟨r,t,e0⟩:=Zms f0;obtain⟨st,e1,_,w1⟩:=DataW.trod_int Tryz.underlying3 f1;obtain⟨bal,e2,_,w2⟩:=DataW.trod_int Tryz.underlying48 f2;obtain⟨vote,e3,_,w3⟩:=DataW.trod_int Tryz.underlying48 f3;obtain⟨same,e4,_⟩:=DataW.trod_bool Tryz.underlying4 f4;obtain⟨c0,c1,c2,c3,c4,c5,c6,c7,e5,v1,v2,v3,v4,v5⟩:=ZkB f5;obtain⟨s,d0,d1,d2,d3,d4,d5,d6,e6⟩:=Zjt f6;have hcs:cs.drop 0=(cs.drop 0).take 2++((cs.drop 2).take 1++((cs.drop 3).take 1++((cs.drop 4).take 1++((cs.drop 5).take 1++((cs.drop 6).take 8++((cs.drop 14).take 8++[])))))):=(ZaT cs 0 2 (t:=2) rfl).trans (congrArg (_++ ·) ((ZaT cs 2 1 (t:=3) rfl).trans (congrArg (_++ ·) ((ZaT cs 3 1 (t:=4) rfl).trans (congrArg (_++ ·) ((ZaT cs 4 1 (t:=5) rfl).trans (congrArg (_++ ·) ((ZaT cs 5 1 (t:=6) rfl).trans (congrArg (_++ ·) ((ZaT cs 6 8 (t:=14) rfl).trans (congrArg (_++ ·) ((ZaT cs 14 8 (t:=22) rfl).trans (congrArg (_++ ·) (ZdS cs hn))))))))))))));rw[e0,e1,e2,e3,e4,e5,e6] at hcs;exact⟨⟨(r,t),st,bal,vote,same,⟨c0,c1,c2,c3,c4,c5,c6,c7⟩,⟨s,d0,d1,d2,d3,d4,d5,d6⟩⟩,hcs,(wf32X w2).1,(wf32X w2).2,(wf32X w3).1,(wf32X w3).2,v2,v4,v1,v3,v5⟩
theorem open_insts {v:Value} {y:DataW H × List MemPlace} (hsp:∀b,spare b=true) (h:DataW.trod enc Tryz.prog W base spare held fuel 23 [v]=some y):∃l:List In,ZfQ (Part.old W) v l∧(∃ax cap,v=.slice ax l.length cap∧l.length≤cap)∧(∀x ∈ l,InV x)∧l.length≤9223372036854775807:=by
 rcases Go.Deep.open_slice Tryz.underlying23 h with⟨hcs,_⟩|⟨a,len,cap,m,n,D,Pl,hcs,_,hl,hm,hmm,_,hel⟩
 · simp at hcs
   subst hcs;exact⟨[],fun w _=>⟨none,0,rfl,fun _=>rfl,fun j u hj=>by cases hj⟩,⟨none,0,rfl,by simp⟩,(fun x hx=>by cases hx),by simp⟩
 simp at hcs
 subst hcs;have hco:Tryz.prog.cellsOf 53=22:=by kernel_rfl
 rw[hco] at hel
 have hall:∀i,i < len→∃x:In,W.cells? base (a.add (i * 22)) 22=some x.cells∧InV x:=fun i hi=>by
  obtain⟨cs',h1,h2⟩:=hel i (by rw[hmm,hsp,if_pos rfl];omega);obtain⟨x,rfl,h3⟩:=Zjs h2;exact⟨x,h1,h3⟩
 obtain⟨f,hf⟩:=@Go.Deep.choose_lt In ⟨⟨(0,0),0,0,0,false,zeroC,⟨0,0,0,0,0,0,0,0⟩⟩⟩ len _ hall;have hlen:((List.range len).map f).length=len:=by simp
 refine⟨(List.range len).map f,fun w hw=> ?_,⟨some a,cap,by rw[hlen],by rw[hlen];exact hl⟩,fun x hx=> ?_,by rw[hlen];unfold maxLen at hm;omega⟩
 · rw[hlen];exact Zfn (Zmh ZfO (by omega) fun i hi=>(hf i hi).1) hw
 obtain⟨i,hi,rfl⟩:=List.mem_map.1 hx;exact(hf i (List.mem_range.1 hi)).2
theorem ZhR {w:World} {v:Value} {xs:List Int} (h:ZhC w v xs):Reads w v xs.length (xs.map (Value.int .i64)):=by
 obtain⟨a,c,hv,hc⟩:=h;refine⟨a,c,hv,fun e=> ?_,fun j u hj=> ?_⟩
 · cases hx:xs with
   |nil=>rfl
   |cons x t=>
    obtain⟨b,off,e2,_⟩:=hc 0 (by rw[hx];simp);rw[e] at e2;cases e2
 rw[List.getElem?_map] at hj;obtain⟨z,hz,rfl⟩:=Option.map_eq_some_iff.1 hj;have hl:=(List.getElem?_eq_some_iff.1 hz).1;obtain⟨b,off,e2,h2⟩:=hc j hl;refine⟨b,off,e2,?_⟩;rw[h2];rw[List.getD_eq_getElem?_getD,hz];rfl
theorem open_intsX {v:Value} {y:DataW H × List MemPlace} (h:DataW.trod enc Tryz.prog W 0 (fun _=>true) true fuel 24 [v]=some y):∃zs:List Int,Zi7 (Part.old W) v zs∧zs.length≤9223372036854775807:=by
 rcases Go.ChangeShapes.open_ints Tryz.underlying24 Tryz.underlying3 (by kernel_rfl) h with⟨hcs,_⟩|⟨x,len,cap,zs,hcs,_,hl,hm,hz,_,hc,_⟩
 · simp at hcs
   subst hcs;exact⟨[],fun w _=>⟨none,0,rfl,fun _=>rfl,fun j u hj=>by cases hj⟩,by simp⟩
 simp at hcs
 subst hcs;simp at hz
 refine⟨zs.take len,fun w hw=>Zfn ?_ hw,by unfold maxLen at hm;simp;omega⟩;exact ZhR (Zjz hl hz hc)
end
end Gr
end
end Go.Proofs.YtbeckijoabapkaaGreatDoor
