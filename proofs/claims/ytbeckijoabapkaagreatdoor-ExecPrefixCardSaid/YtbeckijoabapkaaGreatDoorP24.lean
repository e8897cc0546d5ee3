import Derived.Test.YtbeckijoabapkaaGreatDoorP23
import Derived.Test.YtbeckijoabapkaaGreatDoorP22
set_option linter.unusedSimpArgs false
set_option linter.unusedVariables false
set_option maxRecDepth 100000
set_option maxHeartbeats 16000000
namespace Go.Proofs.YtbeckijoabapkaaGreatDoor
section
namespace Gr
open Go.RowKit
open Attr (A8 Zaz Zas thro Zdt ZbA Zbz eqA Zb9)
open Cmd (Cm)
attribute [-go_sem] run_eql_struct run_neq_struct run_eqGuard_agg
attribute [local go_sem] Zdt ZbA Zbz
theorem ZfO (x:In):x.cells.length=22:=rfl
abbrev ZfQ (R:Part) (v:Value) (l:List In):Prop:=∀w,R.holds w→Reads w v l.length (l.flatMap In.cells)
theorem Zd7 {R:Part} {ax:Option Addr} {cap i:Nat} {l:List In} {x:In} (h:ZfQ R (.slice ax l.length cap) l) (hx:l[i]? =some x) {w:World} (hw:R.holds w):
 ∃b off,ax=some ⟨b,off,none⟩∧∀(k:Nat) u,x.cells[k]? =some u→w.cell? ⟨b,off + i * 22 + k,none⟩=some u:=ZaZ ZfO (by omega) (h w hw) hx
section
variable {P:Program} {ops:Array Oper} {rest:List Oper} {o:Oper} {a:Act} {Q:Exit→Act→World→Prop} {w:World}
theorem Zec {t e:TypeId} {i:TypeInfo} {x hi':Operand} {g off n cap k:Nat} (hg:o.guard=none) (hop:o.op=.slice t x none (some hi') none) (ht:P.underlying t=some (.slice e)) (hi:P.info? e=some i) (hx:a.eval x=.slice (some ⟨g,off,none⟩) n cap) (hh:a.eval hi'=.int .i64 (k:Int))
 (hk:k≤cap) (hK:wpList P ops Q rest (a.put o.dst (.slice (some ⟨g,off,none⟩) k cap)) w):wpList P ops Q (o::rest) a w:=by
 have hz:∀w,(sizeOf e).run P w=.ok i.size w:=fun w=>by simp[sizeOf,typeInfo,hi]
 refine Zah hg (w':=w) ?_ hK
 have hrun:(Instr.sliceAt t (.slice (some ⟨g,off,none⟩) n cap) none (some (.int .i64 (k:Int))) none).run P w=.ok (.slice (some ⟨g,off,none⟩) k cap) w:=by
  simp[Instr.sliceAt,Instr.slice,run_underlying ht,Instr.sliceBounds,run_sliceBound,hz,Result.andThen,show(k:Int)≤cap by omega,Addr.add]
 simp[execOp,hop,hx,hh,hrun,Result.andThen]
theorem Zbi {ty:TypeId} {x:Operand} (hw:Region.wanted o (yielded ops a.tmps)=true) (hop:o.op=.load ty x) {b j:Nat} (hx:a.eval x=.pointer (some ⟨b,j,none⟩)) {vs:List Value} (hr:∀(k:Nat) u,vs[k]? =some u→w.cell? ⟨b,j + k,none⟩=some u)
 (hu:(P.underlying ty).map (·.isRow)=some true) (hi:(P.info? ty).map (·.size)=some vs.length)
 (hK:wpList P ops Q rest (a.put o.dst (.agg vs.toArray)) w):wpList P ops Q (o::rest) a w:=by
 obtain⟨d,hu,hd⟩:=Option.map_eq_some_iff.1 hu;have hrun:(execOp a.eval o).run P w=.ok (.value (.agg vs.toArray)) w:=by simp[execOp,hop,hx,run_loadAt_mid w b j ty vs d (fun k v hk=>hr k v hk) hu hd hi,Result.andThen]
 exact wpList_step fun K hK'=>by
  rw[if_pos hw];unfold Oper.wp;rw[hrun];exact hK' _ _ hK
end
theorem infoIn:(Tryz.prog.info? 53).isSome=true:=by kernel_rfl
def okX (x:In):Bool:= !decide (100 < x.c.path.size)&& !decide (100 < x.c.foot.size)
def Zey (l:List In) (most:Int):Bool:=l.all okX&&decide ((l.length:Int)≤most)
def SxRel (w:World) (R:Part) (l:List In) (k:Nat) (u:Value) (wr:World):Prop:=
 ∃i:Nat,u=.int .i64 i∧i + k=l.length∧(l.take i).all okX=true∧At [R] w [R] wr
theorem Zjc {w:World} {R:Part} (h:Sep [R] w) {v:Value} {l:List In} (hr:ZfQ R v l) (hl:l.length≤9223372036854775807) (hsz:∀x ∈ l,x.c.path.size≤maxLen∧x.c.foot.size≤maxLen) (most:Int):
 Calls Tryz.prog 5 #[v,.int .i64 most] w fun e w'=>e=.returned (.bool (Zey l most))∧At [R] w [R] w':=by
 have hA:=At.start h;obtain⟨ax,cap,rfl,_,_⟩:=hr w (hA.get .here);have hr':=Hd hr;have hsz':=Hd hsz;clear h hr hsz;obtain⟨hA,hF⟩:=fZ hA;go_enter Tryz.func5,Tryz.ntmps5;go_wp2_with fail;(try go_frame);clear hF;go_loopg [9] l.length (SxRel w R l)
 case atStart=>exact⟨0,rfl,by omega,rfl,hA⟩
 case round=>
  obtain⟨i,rfl,hik,hal,hB⟩:=hrel;clear hA;have hA:=hB;clear hB;have hal':=Hd hal;clear hal;by_cases hi:i < l.length
  · skip;have hiI:(i:Int) < l.length:=by omega
    obtain⟨c,hc⟩:∃c,l[i]? =some c:=⟨_,List.getElem?_eq_getElem hi⟩
    have hcm:=List.mem_of_getElem? hc;have hcs:=hsz'.out c hcm;have htk:l.take (i + 1)=l.take i++[c]:=by rw[List.take_add_one,hc];rfl
    have hnx:=Hd (show(l.take (i + 1)).all okX=okX c by rw[htk,List.all_append,hal'.out];simp)
    have hbad:=Hd (show okX c=false→Zey l most=false from fun q=>by
     unfold Zey
     rw[show l.all okX=false from by
      cases h:l.all okX with
      |false=>rfl
      |true=>rw[List.all_eq_true.1 h c hcm] at q;cases q]
     rfl)
    obtain⟨bl0,ofl,hax,hrc⟩:=Zd7 hr'.out hc (hA.get (A:=R) sZ);subst hax;clear htk hc hcm;obtain⟨⟨r,t⟩,st,bal,vote,same,⟨kind,num,foot,req,path,mode,n,time⟩,⟨s,d0,d1,d2,d3,d4,d5,d6⟩⟩:=c;have hrc':=Hd (show ∀(k:Nat) u,([.int .i64 r,.int .i64 t,.int .i64 st,.int .u32 bal,.int .u32 vote,.bool same,.int .i64 kind,.int .u64 num,.string foot,.int .u64 req,.string path,.int .i64 mode,.int .u64 n,.int .i64 time,.int .i64 s,.int .i64 d0,.int .i64 d1,.int .i64 d2,.int .i64 d3,.int .i64 d4,.int .i64 d5,.int .i64 d6]:List Value)[k]? =some u→wr.cell? ⟨bl0,ofl + i * 22 + k,none⟩=some u from hrc);clear hrc;simp only[okX] at hnx hbad hcs
    obtain⟨d9,hd1⟩:∃d,decide (100 < path.size)=d:=⟨_,rfl⟩
    obtain⟨d8,hd2⟩:∃d,decide (100 < foot.size)=d:=⟨_,rfl⟩
    simp only[hd1,hd2] at hnx hbad;have hI1:decide ((100:Int) < (path.size:Int))=d9:=by rw[←hd1,decide_eq_decide];omega
    have hI2:decide ((100:Int) < (foot.size:Int))=d8:=by rw[←hd2,decide_eq_decide];omega
    obtain⟨hA,hF⟩:=fZ hA;cases d9
    · cases d8
      · have hp1:¬(100:Int) < path.size:=of_decide_eq_false hI1;have hp2:¬(100:Int) < foot.size:=of_decide_eq_false hI2
        go_wp2_with (first|((with_reducible refine gal ?_);refine g8 hA ?_;clear hF hA;intro b6 w1 hA hb6 hF)|((with_reducible show wpList _ _ _ ({dst:=some 12,op:=Op.load _ _,type:=_,pos:=_,after:=_,guard:=_}::_) _ _);refine Zad (vs:=[.int .i64 r,.int .i64 t,.int .i64 st,.int .u32 bal,.int .u32 vote,.bool same,.int .i64 kind,.int .u64 num,.string foot,.int .u64 req,.string path,.int .i64 mode,.int .u64 n,.int .i64 time,.int .i64 s,.int .i64 d0,.int .i64 d1,.int .i64 d2,.int .i64 d3,.int .i64 d4,.int .i64 d5,.int .i64 d6]) rfl rfl (by(try simp only[Act.eval,eV])<;>exact rfl) hrc'.out (by kernel_rfl) (by kernel_rfl) ?_)|((with_reducible refine gst ?_);refine wTz hA ?_;clear hF hA;intro w1 hA hF))
        go_roundg (gk - 1);case measure=>omega
        case rel=>exact⟨i + 1,by simp,by omega,by rw[hnx.out];rfl,hA.pick pZ⟩
      have hp1:¬(100:Int) < path.size:=of_decide_eq_false hI1;have hp2:(100:Int) < foot.size:=of_decide_eq_true hI2
      go_wp2_with (first|((with_reducible refine gal ?_);refine g8 hA ?_;clear hF hA;intro b6 w1 hA hb6 hF)|((with_reducible show wpList _ _ _ ({dst:=some 12,op:=Op.load _ _,type:=_,pos:=_,after:=_,guard:=_}::_) _ _);refine Zad (vs:=[.int .i64 r,.int .i64 t,.int .i64 st,.int .u32 bal,.int .u32 vote,.bool same,.int .i64 kind,.int .u64 num,.string foot,.int .u64 req,.string path,.int .i64 mode,.int .u64 n,.int .i64 time,.int .i64 s,.int .i64 d0,.int .i64 d1,.int .i64 d2,.int .i64 d3,.int .i64 d4,.int .i64 d5,.int .i64 d6]) rfl rfl (by(try simp only[Act.eval,eV])<;>exact rfl) hrc'.out (by kernel_rfl) (by kernel_rfl) ?_)|((with_reducible refine gst ?_);refine wTz hA ?_;clear hF hA;intro w1 hA hF))
      go_ret;exact⟨by rw[hbad.out rfl];rfl,hA.pick pZ⟩
    have hp1:(100:Int) < path.size:=of_decide_eq_true hI1
    go_wp2_with (first|((with_reducible refine gal ?_);refine g8 hA ?_;clear hF hA;intro b6 w1 hA hb6 hF)|((with_reducible show wpList _ _ _ ({dst:=some 12,op:=Op.load _ _,type:=_,pos:=_,after:=_,guard:=_}::_) _ _);refine Zad (vs:=[.int .i64 r,.int .i64 t,.int .i64 st,.int .u32 bal,.int .u32 vote,.bool same,.int .i64 kind,.int .u64 num,.string foot,.int .u64 req,.string path,.int .i64 mode,.int .u64 n,.int .i64 time,.int .i64 s,.int .i64 d0,.int .i64 d1,.int .i64 d2,.int .i64 d3,.int .i64 d4,.int .i64 d5,.int .i64 d6]) rfl rfl (by(try simp only[Act.eval,eV])<;>exact rfl) hrc'.out (by kernel_rfl) (by kernel_rfl) ?_)|((with_reducible refine gst ?_);refine wTz hA ?_;clear hF hA;intro w1 hA hF))
    go_ret;exact⟨by rw[hbad.out (by cases d8<;>rfl)];rfl,hA.pick pZ⟩
  have hi2:i=l.length:=by omega
  subst hi2;rw[List.take_of_length_le (Nat.le_refl _)] at hal';have hfin:=Hd (show Zey l most=decide ((l.length:Int)≤most) by unfold Zey;rw[hal'.out];rfl);generalize hdm:decide ((l.length:Int)≤most)=dm at *
  obtain⟨hA,hF⟩:=fZ hA;go_wp2_with fail;go_ret;exact⟨by rw[hfin.out];rfl,hA.pick pZ⟩
def ZcS (x y:In):Prop:=(x.id=y.id→x.c=y.c∧x.a=y.a)∧(x.id≠y.id→Cmd.Zd0 x.c y.c=true→covB x.a y.id=true∨covB y.a x.id=true)
theorem Zkv {x y:In} (h:ZhA x y=true) (e:x.id=y.id):ZcS x y:=by
 unfold ZhA at h;rw[Bool.and_eq_true,decide_eq_true_eq] at h;exact⟨fun _=>⟨h.1,Zb9.1 h.2⟩,fun n=>absurd e n⟩
theorem Zkw {x y:In} (h:x.id≠y.id) (hc:Cmd.Zd0 x.c y.c=false):ZcS x y:=⟨fun e=>absurd e h,fun _ q=>by rw[hc] at q;cases q⟩
theorem ZiB {x y:In} (h:x.id≠y.id) (hc:covB x.a y.id=true∨covB y.a x.id=true):ZcS x y:=⟨fun e=>absurd e h,fun _ _=>hc⟩
def CovL (l:List In) (m:Nat):Prop:=∀i,i < m→∀x,l[i]? =some x→x.st=3∧Zdi x=true∧∀j,j < i→∀y,l[j]? =some y→ZcS x y
structure InOk (x:In):Prop where
 b0:0≤x.bal
 b1:x.bal < 4294967296
 v0:0≤x.vote
 v1:x.vote < 4294967296
 f:x.c.foot.size≤1000
 p:x.c.path.size≤1000
def D1Rel (w:World) (R:Part) (l:List In) (k:Nat) (u:Value) (wr:World):Prop:=
 ∃i:Nat,u=.int .i64 i∧i + k=l.length∧CovL l i∧At [R] w [R] wr
def D2Rel (w:World) (R:Part) (l:List In) (x:In) (b4 i:Nat) (k:Nat) (u:Value) (wr:World):Prop:=
 ∃j:Nat,u=.int .i64 j∧j + k=i∧(∀b y,b < j→l[b]? =some y→ZcS x y)∧At [R] w [Part.cells b4 x.cells 53,R] wr
def CoP (w:World) (R:Part) (l:List In) (e:Ending) (w':World):Prop:=∃b:Bool,e=.returned (.bool b)∧(b=true→CovL l l.length)∧At [R] w [R] w'
theorem Zh4 {w:World} {R:Part} (h:Sep [R] w) {v:Value} {l:List In} (hr:ZfQ R v l) (hvc:∃ax cap,v=.slice ax l.length cap∧l.length≤cap) (hl:l.length≤1000) (hok:∀x ∈ l,InOk x):
 Calls Tryz.prog 6 #[v] w (CoP w R l):=by
 obtain⟨iX,hiX⟩:=Option.isSome_iff_exists.1 infoIn;have hA:=At.start h;obtain⟨ax,cap,rfl,hcap⟩:=hvc;have hr':=Hd hr;have hok':=Hd hok;clear h hr hok;obtain⟨hA,hF⟩:=fZ hA;go_enter Tryz.func6,Tryz.ntmps6;go_wp2_with fail;(try go_frame);clear hF;go_loopg [9] l.length (D1Rel w R l)
 case atStart=>exact⟨0,rfl,by omega,fun i h=>absurd h (by omega),hA⟩
 case round=>
  obtain⟨i,rfl,hik,hno,hB⟩:=hrel;have hno':=Hd hno;clear hA hno;have hA:=hB;clear hB;by_cases hi:i < l.length
  · obtain⟨x,hx⟩:∃x,l[i]? =some x:=⟨_,List.getElem?_eq_getElem hi⟩
    obtain⟨b0,off0,hax,hce⟩:=Zd7 hr'.out hx (hA.get (A:=R) sZ);subst hax;have hxo:=hok'.out x (List.mem_of_getElem? hx);have hrt:=fun w=>Zb7 x hxo.b0 hxo.b1 hxo.v0 hxo.v1 hxo.f hxo.p w;have hxf:=hxo.f;have hxp:=hxo.p;have hx':=Hd hx;clear hx hxo
    have hgd:=Hd (show x.st=3→Zdi x=true→(∀b y,b < i→l[b]? =some y→ZcS x y)→CovL l (i + 1) from fun h1 h2 h3 k hk z hz=>by
     rcases Nat.lt_or_eq_of_le (Nat.le_of_lt_succ hk) with c|c
     · exact hno'.out k c z hz
     subst c;rw[hx'.out] at hz;cases hz
     exact⟨h1,h2,fun j hj y hy=>h3 j y hj hy⟩)
    obtain⟨⟨r,t⟩,st,bal,vote,same,⟨kind,num,foot,req,path,mode,n,time⟩,⟨s,d0,d1,d2,d3,d4,d5,d6⟩⟩:=x;have hr1':=Hd (show ∀(k:Nat) u,([.int .i64 r,.int .i64 t,.int .i64 st,.int .u32 bal,.int .u32 vote,.bool same,.int .i64 kind,.int .u64 num,.string foot,.int .u64 req,.string path,.int .i64 mode,.int .u64 n,.int .i64 time,.int .i64 s,.int .i64 d0,.int .i64 d1,.int .i64 d2,.int .i64 d3,.int .i64 d4,.int .i64 d5,.int .i64 d6]:List Value)[k]? =some u→wr.cell? ⟨b0,off0 + i * 22 + k,none⟩=some u from hce);clear hce;have hrt':=Hd hrt;clear hrt;simp only at hxf hxp;have hiI:(i:Int) < l.length:=by omega
    have hic:i≤cap:=by omega
    obtain⟨G,hG⟩:∃G:Nat,Hid (i + 1 + G=l.length∧G < gk):=⟨gk - 1,Hd (by omega)⟩
    clear hik;obtain⟨hA,hF⟩:=fZ hA
    go_wp2_with (first|((with_reducible refine gal ?_);refine g8 hA ?_;clear hF hA;intro b4 w1 hA hb4 hF)|((with_reducible show wpList _ _ _ ({dst:=some 13,op:=Op.load _ _,type:=_,pos:=_,after:=_,guard:=_}::_) _ _);refine Zad (vs:=[.int .i64 r,.int .i64 t,.int .i64 st,.int .u32 bal,.int .u32 vote,.bool same,.int .i64 kind,.int .u64 num,.string foot,.int .u64 req,.string path,.int .i64 mode,.int .u64 n,.int .i64 time,.int .i64 s,.int .i64 d0,.int .i64 d1,.int .i64 d2,.int .i64 d3,.int .i64 d4,.int .i64 d5,.int .i64 d6]) rfl rfl (by(try simp only[Act.eval,eV])<;>exact rfl) hr1'.out (by kernel_rfl) (by kernel_rfl) ?_)|((with_reducible show wpList _ _ _ ({dst:=some 14,op:=Op.load _ _,type:=_,pos:=_,after:=_,guard:=_}::_) _ _);refine Zad (vs:=[.int .i64 r,.int .i64 t,.int .i64 st,.int .u32 bal,.int .u32 vote,.bool same,.int .i64 kind,.int .u64 num,.string foot,.int .u64 req,.string path,.int .i64 mode,.int .u64 n,.int .i64 time,.int .i64 s,.int .i64 d0,.int .i64 d1,.int .i64 d2,.int .i64 d3,.int .i64 d4,.int .i64 d5,.int .i64 d6]) rfl rfl (by(try simp only[Act.eval,eV])<;>exact rfl) (ZbF (hA.get (A:=Part.cells b4 [.int .i64 r,.int .i64 t,.int .i64 st,.int .u32 bal,.int .u32 vote,.bool same,.int .i64 kind,.int .u64 num,.string foot,.int .u64 req,.string path,.int .i64 mode,.int .u64 n,.int .i64 time,.int .i64 s,.int .i64 d0,.int .i64 d1,.int .i64 d2,.int .i64 d3,.int .i64 d4,.int .i64 d5,.int .i64 d6] 53) sZ)) (by kernel_rfl) (by kernel_rfl) ?_)|((with_reducible refine gst ?_);refine wTz hA ?_;clear hF hA;intro w1 hA hF))
    refine(hrt'.out _).mono ?_;rintro e w1 ⟨bb,rfl,hb3,hxx⟩;replace hA:=hA.ext hxx;clear hF hxx;obtain⟨hA,hF⟩:=fZ hA;have hb3':=Hd hb3;clear hb3 hrt';cases bb
    · go_wp2_with fail;go_ret;exact⟨false,rfl,nofun,hA.pick pZ⟩
    by_cases hst:st=3
    · subst hst;have hb4:=Hd ((hb3'.out rfl).symm);clear hb3'
      go_wp2_with ((with_reducible show wpList _ _ _ ({dst:=some 24,op:=Op.slice _ _ _ _ _,type:=_,pos:=_,after:=_,guard:=_}::_) _ _);refine Zec (k:=i) rfl rfl Tryz.underlying23 hiX (by(try simp only[Act.eval,eV])<;>exact rfl) (by(try simp only[Act.eval,eV])<;>exact rfl) hic ?_)
      (try go_frame);clear hF;go_loopg [26] i (D2Rel w R l ⟨⟨r,t⟩,3,bal,vote,same,⟨kind,num,foot,req,path,mode,n,time⟩,⟨s,d0,d1,d2,d3,d4,d5,d6⟩⟩ b4 i)
      case atStart=>exact⟨0,rfl,by omega,fun b y h=>absurd h (by omega),hA.pick pZ⟩
      case round=>
       obtain⟨j,rfl,hjk,hnj,hB⟩:=hrel;have hnj':=Hd hnj;clear hA hnj;have hA:At [R] w [Part.cells b4 [.int .i64 r,.int .i64 t,.int .i64 3,.int .u32 bal,.int .u32 vote,.bool same,.int .i64 kind,.int .u64 num,.string foot,.int .u64 req,.string path,.int .i64 mode,.int .u64 n,.int .i64 time,.int .i64 s,.int .i64 d0,.int .i64 d1,.int .i64 d2,.int .i64 d3,.int .i64 d4,.int .i64 d5,.int .i64 d6] 53,R] _:=hB;clear hB;by_cases hj:j < i
       · obtain⟨y,hy⟩:∃y,l[j]? =some y:=⟨_,List.getElem?_eq_getElem (by omega)⟩
         obtain⟨bq,oq,hax,hce⟩:=Zd7 hr'.out hy (hA.get (A:=R) sZ);cases hax;have hyo:=hok'.out y (List.mem_of_getElem? hy);have hyf:=hyo.f;have hyp:=hyo.p;have hy':=Hd hy;clear hy hyo
         have hnx:=Hd (show ZcS ⟨⟨r,t⟩,3,bal,vote,same,⟨kind,num,foot,req,path,mode,n,time⟩,⟨s,d0,d1,d2,d3,d4,d5,d6⟩⟩ y→∀b y',b < j + 1→l[b]? =some y'→ZcS ⟨⟨r,t⟩,3,bal,vote,same,⟨kind,num,foot,req,path,mode,n,time⟩,⟨s,d0,d1,d2,d3,d4,d5,d6⟩⟩ y' from fun h b y' hb he=>by
          rcases Nat.lt_or_eq_of_le (Nat.le_of_lt_succ hb) with c|c
          · exact hnj'.out b y' c he
          subst c;rw[hy'.out] at he;cases he
          exact h)
         have hali:=fun w=>ZlF ⟨⟨r,t⟩,3,bal,vote,same,⟨kind,num,foot,req,path,mode,n,time⟩,⟨s,d0,d1,d2,d3,d4,d5,d6⟩⟩ y w;have hcla:=fun w=>Cmd.ZjL ⟨kind,num,foot,req,path,mode,n,time⟩ y.c w hxf hxp hyf hyp;have hco1:=fun w=>ZfK ⟨s,d0,d1,d2,d3,d4,d5,d6⟩ y.id w;have hco2:=fun w=>ZfK y.a (r,t) w;obtain⟨⟨r2,t2⟩,st2,bal2,vote2,same2,⟨kind2,num2,foot2,req2,path2,mode2,n2,time2⟩,⟨s2,e0,e1,e2,e3,e4,e5,e6⟩⟩:=y;have hr2':=Hd (show ∀(k:Nat) u,([.int .i64 r2,.int .i64 t2,.int .i64 st2,.int .u32 bal2,.int .u32 vote2,.bool same2,.int .i64 kind2,.int .u64 num2,.string foot2,.int .u64 req2,.string path2,.int .i64 mode2,.int .u64 n2,.int .i64 time2,.int .i64 s2,.int .i64 e0,.int .i64 e1,.int .i64 e2,.int .i64 e3,.int .i64 e4,.int .i64 e5,.int .i64 e6]:List Value)[k]? =some u→wr.cell? ⟨b0,off0 + j * 22 + k,none⟩=some u from hce);clear hce hyf hyp hgd hnj' hy' hx' hno' hb4;simp only[In.val,Cm.val,A8.val,idV] at hali hcla hco1 hco2;have hjI:(j:Int) < i:=by omega
         by_cases hid:r=r2∧t=t2
         · have hid2:(decide (r=r2)&&decide (t=t2))=true:=by simpa using hid
           have hid':=Hd hid;clear hid
           obtain⟨al,hal⟩:∃z,ZhA ⟨⟨r,t⟩,3,bal,vote,same,⟨kind,num,foot,req,path,mode,n,time⟩,⟨s,d0,d1,d2,d3,d4,d5,d6⟩⟩ ⟨⟨r2,t2⟩,st2,bal2,vote2,same2,⟨kind2,num2,foot2,req2,path2,mode2,n2,time2⟩,⟨s2,e0,e1,e2,e3,e4,e5,e6⟩⟩=z:=⟨_,rfl⟩
           rw[hal] at hali;obtain⟨hA,hF⟩:=fZ hA
           go_wp2_with (first|((with_reducible refine gal ?_);refine g8 hA ?_;clear hF hA;intro b6 w1 hA hb6 hF)|((with_reducible show wpList _ _ _ ({dst:=some 29,op:=Op.load _ _,type:=_,pos:=_,after:=_,guard:=_}::_) _ _);refine Zad (vs:=[.int .i64 r2,.int .i64 t2,.int .i64 st2,.int .u32 bal2,.int .u32 vote2,.bool same2,.int .i64 kind2,.int .u64 num2,.string foot2,.int .u64 req2,.string path2,.int .i64 mode2,.int .u64 n2,.int .i64 time2,.int .i64 s2,.int .i64 e0,.int .i64 e1,.int .i64 e2,.int .i64 e3,.int .i64 e4,.int .i64 e5,.int .i64 e6]) rfl rfl (by(try simp only[Act.eval,eV])<;>exact rfl) hr2'.out (by kernel_rfl) (by kernel_rfl) ?_)|((with_reducible show wpList _ _ _ ({dst:=some 36,op:=Op.load _ _,type:=_,pos:=_,after:=_,guard:=_}::_) _ _);refine Zbi (vs:=[.int .i64 r,.int .i64 t,.int .i64 3,.int .u32 bal,.int .u32 vote,.bool same,.int .i64 kind,.int .u64 num,.string foot,.int .u64 req,.string path,.int .i64 mode,.int .u64 n,.int .i64 time,.int .i64 s,.int .i64 d0,.int .i64 d1,.int .i64 d2,.int .i64 d3,.int .i64 d4,.int .i64 d5,.int .i64 d6]) (by kernel_rfl) rfl (by(try simp only[Act.eval,eV])<;>exact rfl) (ZbF (hA.get (A:=Part.cells b4 [.int .i64 r,.int .i64 t,.int .i64 3,.int .u32 bal,.int .u32 vote,.bool same,.int .i64 kind,.int .u64 num,.string foot,.int .u64 req,.string path,.int .i64 mode,.int .u64 n,.int .i64 time,.int .i64 s,.int .i64 d0,.int .i64 d1,.int .i64 d2,.int .i64 d3,.int .i64 d4,.int .i64 d5,.int .i64 d6] 53) sZ)) (by kernel_rfl) (by kernel_rfl) ?_)|((with_reducible show wpList _ _ _ ({dst:=some 37,op:=Op.load _ _,type:=_,pos:=_,after:=_,guard:=_}::_) _ _);refine Zbi (vs:=[.int .i64 r2,.int .i64 t2,.int .i64 st2,.int .u32 bal2,.int .u32 vote2,.bool same2,.int .i64 kind2,.int .u64 num2,.string foot2,.int .u64 req2,.string path2,.int .i64 mode2,.int .u64 n2,.int .i64 time2,.int .i64 s2,.int .i64 e0,.int .i64 e1,.int .i64 e2,.int .i64 e3,.int .i64 e4,.int .i64 e5,.int .i64 e6]) (by kernel_rfl) rfl (by(try simp only[Act.eval,eV])<;>exact rfl) (ZbF (hA.get (A:=Part.cells b6 [.int .i64 r2,.int .i64 t2,.int .i64 st2,.int .u32 bal2,.int .u32 vote2,.bool same2,.int .i64 kind2,.int .u64 num2,.string foot2,.int .u64 req2,.string path2,.int .i64 mode2,.int .u64 n2,.int .i64 time2,.int .i64 s2,.int .i64 e0,.int .i64 e1,.int .i64 e2,.int .i64 e3,.int .i64 e4,.int .i64 e5,.int .i64 e6] 53) sZ)) (by kernel_rfl) (by kernel_rfl) ?_)|((with_reducible refine gst ?_);refine wTz hA ?_;clear hF hA;intro w1 hA hF))
           refine(hali _).mono ?_;rintro e w1 ⟨rfl,hx⟩;replace hA:=hA.ext hx;clear hF hx;obtain⟨hA,hF⟩:=fZ hA;cases al
           · go_wp2_with fail;go_ret;exact⟨false,rfl,nofun,hA.pick pZ⟩
           go_wp2_with fail;go_roundg (gk - 1);case measure=>omega
           case rel=>exact⟨j + 1,by simp,by omega,hnx.out (Zkv hal (by rw[hid'.out.1,hid'.out.2])),hA.pick pZ⟩
         have hid2:(decide (r=r2)&&decide (t=t2))=false:=by
          cases hq:(decide (r=r2)&&decide (t=t2)) with
          |false=>rfl
          |true=>exact absurd (by simpa using hq) hid
         have hne:=Hd (show((r,t):I2)≠(r2,t2) from fun e=>hid (by cases e;exact⟨rfl,rfl⟩));clear hid
         obtain⟨cb,hcb⟩:∃z,Cmd.Zd0 ⟨kind,num,foot,req,path,mode,n,time⟩ ⟨kind2,num2,foot2,req2,path2,mode2,n2,time2⟩=z:=⟨_,rfl⟩
         obtain⟨c1,hc1⟩:∃z,covB ⟨s,d0,d1,d2,d3,d4,d5,d6⟩ (r2,t2)=z:=⟨_,rfl⟩
         obtain⟨c2,hc2⟩:∃z,covB ⟨s2,e0,e1,e2,e3,e4,e5,e6⟩ (r,t)=z:=⟨_,rfl⟩
         rw[hcb] at hcla;rw[hc1] at hco1;rw[hc2] at hco2;obtain⟨hA,hF⟩:=fZ hA
         go_wp2_with (first|((with_reducible refine gal ?_);refine g8 hA ?_;clear hF hA;intro b6 w1 hA hb6 hF)|((with_reducible show wpList _ _ _ ({dst:=some 29,op:=Op.load _ _,type:=_,pos:=_,after:=_,guard:=_}::_) _ _);refine Zad (vs:=[.int .i64 r2,.int .i64 t2,.int .i64 st2,.int .u32 bal2,.int .u32 vote2,.bool same2,.int .i64 kind2,.int .u64 num2,.string foot2,.int .u64 req2,.string path2,.int .i64 mode2,.int .u64 n2,.int .i64 time2,.int .i64 s2,.int .i64 e0,.int .i64 e1,.int .i64 e2,.int .i64 e3,.int .i64 e4,.int .i64 e5,.int .i64 e6]) rfl rfl (by(try simp only[Act.eval,eV])<;>exact rfl) hr2'.out (by kernel_rfl) (by kernel_rfl) ?_)|((with_reducible refine gst ?_);refine wTz hA ?_;clear hF hA;intro w1 hA hF))
         refine(hcla _).mono ?_;rintro e w1 ⟨rfl,hx⟩;replace hA:=hA.ext hx;clear hF hx;obtain⟨hA,hF⟩:=fZ hA;cases cb
         · go_wp2_with fail;go_roundg (gk - 1);case measure=>omega
           case rel=>exact⟨j + 1,by simp,by omega,hnx.out (Zkw hne.out hcb),hA.pick pZ⟩
         go_wp2_with fail;refine(hco1 _).mono ?_;rintro e w1 ⟨rfl,hx⟩;replace hA:=hA.ext hx;clear hF hx;obtain⟨hA,hF⟩:=fZ hA;cases c1
         · go_wp2_with fail;refine(hco2 _).mono ?_;rintro e w1 ⟨rfl,hx⟩;replace hA:=hA.ext hx;clear hF hx;obtain⟨hA,hF⟩:=fZ hA;cases c2
           · go_wp2_with fail;go_ret;exact⟨false,rfl,nofun,hA.pick pZ⟩
           go_wp2_with fail;go_roundg (gk - 1);case measure=>omega
           case rel=>exact⟨j + 1,by simp,by omega,hnx.out (ZiB hne.out (.inr hc2)),hA.pick pZ⟩
         go_wp2_with fail;go_roundg (gk - 1);case measure=>omega
         case rel=>exact⟨j + 1,by simp,by omega,hnx.out (ZiB hne.out (.inl hc1)),hA.pick pZ⟩
       obtain rfl:j=i:=by omega
       have hnn:=Hd (hgd.out (by trivial) hb4.out hnj'.out);clear hgd hb4 hnj';obtain⟨hA,hF⟩:=fZ hA;go_wp2_with fail;go_roundg G;case measure=>exact hG.out.2
       case rel=>exact⟨j + 1,by simp,hG.out.1,hnn.out,hA.pick pZ⟩
    have hst2:(st != 3)=true:=by simpa [bne] using hst
    go_wp2_with fail;go_ret;exact⟨false,rfl,nofun,hA.pick pZ⟩
  obtain rfl:i=l.length:=by omega
  obtain⟨hA,hF⟩:=fZ hA;go_wp2_with fail;go_ret;exact⟨true,rfl,fun _=>hno'.out,hA.pick pZ⟩
end Gr
end
section
namespace Gr
open _root_.Go.Proofs.YtbeckijoabapkaaGreatDoor.Tab (TS TRel TInv TabP CmIn CmOk ansZ playT Zap ZcA ZdM)
open _root_.Go.Proofs.YtbeckijoabapkaaGreatDoor.Ref (IA)
open Go.RowKit
open Attr (A8 Zaz Zas thro eqA Zb9 ownsB)
open Cmd (Cm)
attribute [-go_sem] run_eql_struct run_neq_struct run_eqGuard_agg
abbrev LX (l:List In):List IA:=l.map fun s=>(s.id,s.a)
abbrev MX (l:List In):I2→A8→Prop:=fun x a=>(x,a) ∈ LX l
abbrev T0X (first:Int):TS:=⟨[],⟨first,[],[]⟩⟩
theorem mx_at {l:List In} {x:I2} {a:A8} (h:MX l x a):∃(q:Nat) (s:In),l[q]? =some s∧s.id=x∧s.a=a:=by
 obtain⟨s,hs,e⟩:=List.mem_map.1 h;obtain⟨q,hq⟩:=List.getElem?_of_mem hs;cases e;exact⟨q,s,hq,rfl,rfl⟩
theorem mx_of {l:List In} {q:Nat} {s:In} (h:l[q]? =some s):MX l s.id s.a:=List.mem_map.2 ⟨s,List.mem_of_getElem? h,rfl⟩
theorem Zh5 {l:List In} (h:CovL l l.length) {i j:Nat} {x y:In} (hi:l[i]? =some x) (hj:l[j]? =some y):ZcS x y∨ZcS y x∨x=y:=by
 have h1:=(List.getElem?_eq_some_iff.1 hi).1;have h2:=(List.getElem?_eq_some_iff.1 hj).1;rcases Nat.lt_trichotomy i j with q|q|q
 · exact .inr (.inl ((h j h2 y hj).2.2 i q x hi))
 · subst q;rw[hi] at hj;cases hj;exact .inr (.inr rfl)
 exact .inl ((h i h1 x hi).2.2 j q y hj)
theorem Zi2 {l:List In} (h:CovL l l.length) (x:I2) (a b:A8) (ha:MX l x a) (hb:MX l x b):a=b:=by
 obtain⟨i,s,h1,h2,h3⟩:=mx_at ha;obtain⟨j,u,g1,g2,g3⟩:=mx_at hb;subst h3 g3;rcases Zh5 h h1 g1 with q|q|q
 · exact(q.1 (h2.trans g2.symm)).2
 · exact((q.1 (g2.trans h2.symm)).2).symm
 rw[q]
structure PlayedS (cmd:I2→Cm) (first:Int) (l:List In) (xs:List Int) (es:List IA) (f:F7) (K out:List I2) (T:TS) (H:List AnI):Prop where
 ex:ExS (MX l) cmd (T0X first) K es f out T H
 fin:K=[]∨ZaM es f none
 kin:∀z,z ∈ K↔∃n ∈ xs,∃(q:Nat) (s:In),n=(q:Int)∧l[q]? =some s∧s.id=z
theorem PlayedS.len {cmd:I2→Cm} {first:Int} {l:List In} {xs:List Int} {es:List IA} {f:F7} {K out:List I2} {T:TS} {H:List AnI} (h:PlayedS cmd first l xs es f K out T H):es.length≤l.length∧out.length≤l.length∧H.length=out.length:=by
 have h1:=h.ex.pl.len;rw[List.length_map] at h1;exact⟨h1.1,h1.2,by rw[h.ex.hist,Zea]⟩
theorem PlayedS.in_l {cmd:I2→Cm} {first:Int} {l:List In} {xs:List Int} {es:List IA} {f:F7} {K out:List I2} {T:TS} {H:List AnI} (h:PlayedS cmd first l xs es f K out T H) {x:I2} (hx:x ∈ K):∃s ∈ l,s.id=x:=by
 obtain⟨_,_,q,s,_,hs,e⟩:=(h.kin x).1 hx;exact⟨s,List.mem_of_getElem? hs,e⟩
theorem PlayedS.skip {cmd:I2→Cm} {first:Int} {l:List In} {xs:List Int} {n:Int} {es:List IA} {f:F7} {K out:List I2} {T:TS} {H:List AnI} (h:PlayedS cmd first l xs es f K out T H) (hn:n < 0∨(l.length:Int)≤n):PlayedS cmd first l (xs++[n]) es f K out T H:=by
 refine⟨h.ex,h.fin,fun z=> ?_⟩;rw[h.kin]
 constructor
 · rintro⟨m,hm,r⟩
   exact⟨m,List.mem_append_left _ hm,r⟩
 rintro⟨m,hm,q,s,e,hs,r⟩
 rcases List.mem_append.1 hm with hm|hm
 · exact⟨m,hm,q,s,e,hs,r⟩
 rw[List.mem_singleton.1 hm] at e;have:=(List.getElem?_eq_some_iff.1 hs).1
 omega
theorem PlayedS.go {cmd:I2→Cm} {first:Int} {l:List In} {xs:List Int} {q:Nat} {x:I2} {a:A8} {s:In} {es:List IA} {f g:F7} {K out got:List I2} {T:TS} {H:List AnI} (h:PlayedS cmd first l xs es f K out T H) (hc:CovL l l.length)
 (hs:l[q]? =some s) (hx:s.id=x) (ha:s.a=a) (ho:ownsB a x.1 x.2=true) (hr:RunR (addG es x a).1 f got g):
 PlayedS cmd first l (xs++[(q:Int)]) (addG es x a).1 g (Zbg K x) (out++got) (playT T (got.map cmd)) (H++ansZ cmd T got):=by
 subst hx ha;have h1:=h.ex.learn (Zi2 hc) (mx_of hs) ho;obtain⟨h2,h3⟩:=h1.run hr;refine⟨⟨h2.pl,fun z=>(h2.keys z).trans (Zdo K s.id z).symm,h2.tab,h2.hist⟩,.inr h3,fun z=> ?_⟩;rw[Zdo,List.mem_append,h.kin,List.mem_singleton];constructor
 · rintro(⟨m,hm,r⟩|rfl)
   · exact⟨m,List.mem_append_left _ hm,r⟩
   exact⟨_,List.mem_append_right _ (List.mem_singleton.2 rfl),q,s,rfl,hs,rfl⟩
 rintro⟨m,hm,q1,s1,e,hs1,r⟩
 rcases List.mem_append.1 hm with hm|hm
 · exact .inl ⟨m,hm,q1,s1,e,hs1,r⟩
 rw[List.mem_singleton.1 hm] at e;have:q1=q:=by omega
 subst this;rw[hs] at hs1;cases hs1;exact .inr r.symm
theorem PlayedS.start (cmd:I2→Cm) (first:Int) (l:List In):PlayedS cmd first l [] [] f0F [] [] (T0X first) []:=⟨ExS.start _ _ _,.inl rfl,fun z=>by simp⟩
theorem ZeF {x:In} (h:Zdi x=true):Zaz x.id.1 x.id.2=true∧ownsB x.a x.id.1 x.id.2=true:=by
 unfold Zdi at h;simp only[Bool.and_eq_true] at h;exact⟨h.1,h.2.2.2.2.2.2⟩
theorem add_ok {es:List IA} {x:I2} {a:A8} (ho:ownsB a x.1 x.2=true) (h:∀b,getA es x=some b→b=a):(addG es x a).2=0:=by
 unfold addG;rw[if_pos ho]
 cases hg:getA es x with
 |none=>rfl
 |some b=>
  rw[h b hg];simp[Zb9.2 rfl]
abbrev Zi7 (R:Part) (v:Value) (xs:List Int):Prop:=∀w,R.holds w→Reads w v xs.length (xs.map (Value.int .i64))
theorem Zbj {P:Program} {ops:Array Oper} {rest:List Oper} {o:Oper} {a:Act} {Q:Exit→Act→World→Prop} {w:World} {ty:TypeId} {x:Operand} (hg:o.guard=none) (hop:o.op=.load ty x) {b j:Nat} (hx:a.eval x=.pointer (some ⟨b,j,none⟩)) {v:Value} (hc:w.cell? ⟨b,j,none⟩=some v) (hu:(P.underlying ty).map (·.isRow)=some false)
 (hK:wpList P ops Q rest (a.put o.dst v) w):wpList P ops Q (o::rest) a w:=by
 refine Zah hg (w':=w) ?_ hK;obtain⟨d,hu,hd⟩:=Option.map_eq_some_iff.1 hu
 have hagg:(isAgg ty).run P w=.ok false w:=by
  unfold isAgg;rw[Sem.run_bind,run_underlying hu w];cases d<;>simp_all
 simp[execOp,hop,hx,Instr.loadAt,Instr.sureAddr,loadVar,Sem.run_bind,hagg,Result.andThen,run_load,hc]
def PxRel (w:World) (R:Part) (cmd:I2→Cm) (first:Int) (l:List In) (xs:List Int) (X:Xb) (k:Nat) (u:Value) (wr:World):Prop:=
 ∃(i:Nat) (f kn:F7) (es:List IA) (K out:List I2) (ss:List Lease.Ses) (b:Lock.Bk) (hv:Value) (H:List AnI) (T:TS),u=.int .i64 i∧i + k=xs.length∧PlayedS cmd first l (xs.take i) es f K out T H∧TRel ss b T∧At [R] w [ExP cmd X f kn es K ss b hv H,R] wr
def PxP (R:Part) (cmd:I2→Cm) (first:Int) (l:List In) (xs:List Int) (w:World) (e:Ending) (w':World):Prop:=
 ∃(X:Xb) (f kn:F7) (es:List IA) (K out:List I2) (ss:List Lease.Ses) (b:Lock.Bk) (hv:Value) (H:List AnI) (T:TS),e=.returned (.pointer (some ⟨X.p,0,none⟩))∧PlayedS cmd first l xs es f K out T H∧At [R] w [ExP cmd X f kn es K ss b hv H,R] w'
theorem ZeI (cmd:I2→Cm) {w:World} {R:Part} {v ov:Value} {l:List In} {xs:List Int} (h:Sep [R] w) {first:Int} (f0:0≤first) (f1:first < Lease.big64) (hr:ZfQ R v l) (hl:l.length≤1000) (hx:Zi7 R ov xs) (hxl:xs.length≤1000) (hcov:CovL l l.length) (hok:∀x ∈ l,InOk x)
 (hcm:∀x ∈ l,x.c=cmd x.id) (hci:∀x ∈ l,CmIn x.c):
 Calls Tryz.prog 7 #[.int .u64 first,v,ov] w (PxP R cmd first l xs w):=by
 have hA:=At.start h;have hr':=Hd hr;have hx':=Hd hx;have hcov':=Hd hcov;have hok':=Hd hok;have hcm':=Hd hcm;have hci':=Hd hci;have hi0':=Hd (ZdM f0 f1);clear h hr hx hcov hok hcm hci f0 f1;obtain⟨ax,cap,rfl,_,_⟩:=hr'.out w (hA.get (A:=R) .here);obtain⟨ay,cay,rfl,_,_⟩:=hx'.out w (hA.get (A:=R) .here);obtain⟨hA,hF⟩:=fZ hA;go_enter Tryz.func7,Tryz.ntmps7;go_wp2_with fail;refine(ZiE cmd (hA.sep1 (A:=R) sZ) first).mono ?_;rintro e w1 ⟨X,b,rfl,hR0,hT⟩;replace hA:=hA.call1 (A:=R) sZ hT;clear hT hF;(try simp only[uA] at hA);have hR0':=Hd hR0;clear hR0;obtain⟨hA,hF⟩:=fZ hA;go_wp2_with fail;(try go_frame);have hB:At [R] w [ExP cmd X f0F f0F [] [] [] b (.slice none 0 0) [],R] _:=hA.pick pZ;clear hF hA;go_loopg [14] xs.length (PxRel w R cmd first l xs X)
 case atStart=>exact⟨0,f0F,f0F,[],[],[],[],b,_,[],_,rfl,by omega,PlayedS.start cmd first l,hR0'.out,hB⟩
 case round=>
  obtain⟨i,f,kn,es,K,out,ss,b,hv,H,T,rfl,hik,hpl,hRT,hA⟩:=hrel;clear hB;have hpl':=Hd hpl;have hRT':=Hd hRT;clear hpl hRT;by_cases hi:i < xs.length
  · obtain⟨z,hz⟩:∃z,xs[i]? =some z:=⟨_,List.getElem?_eq_getElem hi⟩
    have htk:xs.take (i + 1)=xs.take i++[z]:=by rw[List.take_add_one,hz];rfl
    have htk':=Hd htk;clear htk;obtain⟨axq,cq,hvq,_,hrq⟩:=hx'.out _ (hA.get (A:=R) sZ);cases hvq;obtain⟨bt,offt,rfl,hcz⟩:=hrq i (.int .i64 z) (by rw[List.getElem?_map,hz];rfl);have hcz':=Hd hcz;clear hrq hcz hz;have hiI:(i:Int) < xs.length:=by omega
    by_cases hzn:z < 0
    · have hF:=hA.facts;obtain⟨hA,hF⟩:=fZ hA
      go_wp2_with ((with_reducible show wpList _ _ _ ({dst:=some 17,op:=Op.load _ _,type:=_,pos:=_,after:=_,guard:=_}::_) _ _);refine Zbj rfl rfl (by(try simp only[Act.eval,eV])<;>exact rfl) hcz'.out (by kernel_rfl) ?_)
      go_roundg (gk - 1);case measure=>omega
      case rel=>exact⟨i + 1,f,kn,es,K,out,ss,b,hv,H,T,by simp,by omega,by rw[htk'.out];exact hpl'.out.skip (.inl hzn),hRT'.out,hA.pick pZ⟩
    by_cases hzl:(l.length:Int)≤z
    · have hF:=hA.facts;obtain⟨hA,hF⟩:=fZ hA
      go_wp2_with ((with_reducible show wpList _ _ _ ({dst:=some 17,op:=Op.load _ _,type:=_,pos:=_,after:=_,guard:=_}::_) _ _);refine Zbj rfl rfl (by(try simp only[Act.eval,eV])<;>exact rfl) hcz'.out (by kernel_rfl) ?_)
      go_roundg (gk - 1);case measure=>omega
      case rel=>exact⟨i + 1,f,kn,es,K,out,ss,b,hv,H,T,by simp,by omega,by rw[htk'.out];exact hpl'.out.skip (.inr hzl),hRT'.out,hA.pick pZ⟩
    obtain⟨q,rfl⟩:∃q:Nat,z=q:=⟨z.toNat,by omega⟩
    have hql:q < l.length:=by omega
    obtain⟨s,hs⟩:∃e,l[q]? =some e:=⟨_,List.getElem?_eq_getElem hql⟩
    have hsm:=List.mem_of_getElem? hs;have hs3:=(hcov'.out q hql s hs).1;have hsr:=(hcov'.out q hql s hs).2.1;obtain⟨hxr,how⟩:=ZeF hsr;have hso:=hok'.out s hsm;have hsc:=hcm'.out s hsm
    have hri:∀w,Calls Tryz.prog 15 #[s.val] w fun e w'=>e=.returned (.bool true)∧Ext w w':=fun w=>(Zb7 s hso.b0 hso.b1 hso.v0 hso.v1 hso.f hso.p w).mono fun e w' ⟨bq,he,hb,hx⟩=>⟨by rw[he,hb hs3,hsr],hx⟩
    have ha0:(addG es s.id s.a).2=0:=add_ok how fun b hb=>Zi2 hcov'.out s.id b s.a (hpl'.out.ex.pl.sub _ _ hb) (mx_of hs)
    have hkl:∀x ∈ Zbg K s.id,∃u ∈ l,u.id=x:=fun x hx=>by
     rcases List.mem_append.1 ((Zdo K s.id x).1 hx) with h|h
     · exact hpl'.out.in_l h
     exact⟨s,hsm,(List.mem_singleton.1 h).symm⟩
    have hkl':=Hd hkl;have hle:=hpl'.out.len;have hle1:=hle.1;have hle2:=hle.2.1;have hle3:=hle.2.2;have hpa:=hpl'.out.ex.pl.add s.id s.a (mx_of hs);have hkey:∀x,(getA (addG es s.id s.a).1 x).isSome=true→x ∈ Zbg K s.id:=fun x hx=>(Zdo K s.id x).2 (((hpl'.out.ex.learn (Zi2 hcov'.out) (mx_of hs) how).keys x).1 hx)
    have hIT:TInv T (0 + (out.map cmd).length):=by
     rw[hpl'.out.ex.tab];refine ZcA (fun c hc=> ?_) hi0'.out;obtain⟨y,hy,rfl⟩:=List.mem_map.1 hc;obtain⟨u,hu,rfl⟩:=hpl'.out.in_l ((hpl'.out.ex.keys y).1 (hpl'.out.ex.pl.got y hy));rw[←hcm'.out u hu];exact(hci'.out u hu).ok
    have hgo:=Hd (show ∀got g,RunR (addG es s.id s.a).1 f got g→PlayedS cmd first l (xs.take (i + 1)) (addG es s.id s.a).1 g (Zbg K s.id) (out++got) (playT T (got.map cmd)) (H++ansZ cmd T got) from fun got g hrn=>by
     rw[htk'.out]
     exact hpl'.out.go hcov'.out hs rfl rfl how hrn)
    have hokK:∀x ∈ Zbg K s.id,okD x:=fun x hx=>by
     obtain⟨u,hu,rfl⟩:=hkl'.out x hx;obtain⟨k,hk⟩:=List.getElem?_of_mem hu;have h4:=Zas.1 (ZeF (hcov'.out k (List.getElem?_eq_some_iff.1 hk).1 u hk).2.1).1;unfold okD okI;omega
    have hcmK:∀x ∈ Zbg K s.id,CmIn (cmd x):=fun x hx=>by
     obtain⟨u,hu,rfl⟩:=hkl'.out x hx;rw[←hcm'.out u hu];exact hci'.out u hu
    obtain⟨bl,ofl,hax,hce⟩:=Zd7 hr'.out hs (hA.get (A:=R) sZ);subst hax;clear hs hsm hso hle;obtain⟨⟨r,t⟩,st,bal,vote,same,c,a⟩:=s;obtain rfl:st=3:=hs3;obtain rfl:c=cmd (r,t):=hsc;have hrd':=Hd (show ∀(k:Nat) u,([.int .i64 r,.int .i64 t,.int .i64 3,.int .u32 bal,.int .u32 vote,.bool same,.int .i64 (cmd (r,t)).kind,.int .u64 (cmd (r,t)).num,.string (cmd (r,t)).foot,.int .u64 (cmd (r,t)).req,.string (cmd (r,t)).path,.int .i64 (cmd (r,t)).mode,.int .u64 (cmd (r,t)).n,.int .i64 (cmd (r,t)).time,.int .i64 a.s,.int .i64 a.d0,.int .i64 a.d1,.int .i64 a.d2,.int .i64 a.d3,.int .i64 a.d4,.int .i64 a.d5,.int .i64 a.d6]:List Value)[k]? =some u→wr.cell? ⟨bl,ofl + q * 22 + k,none⟩=some u from hce);clear hce hsr how hkl;simp only at hri ha0 hxr hpa hkey hokK hcmK hkl' hgo;have hln:=fun(w1:World) (q:Sep [ExP cmd X f kn es K ss b hv H] w1)=>ZeN cmd q (r,t) a bal vote same hri hxr ha0;simp only[In.val] at hln;generalize hes:(addG es (r,t) a).1=es2 at *
    have hrx:=fun(w1:World) (q:Sep [ExP cmd X f (ZcN kn a (r,t)) es2 (Zbg K (r,t)) ss b hv H] w1)=>Zf5 cmd q (L:=LX l) (out:=out) (T:=T) (k0:=0 + (out.map cmd).length) hpa (by rw[List.length_map];exact hl) hkey hokK hcmK hRT'.out hIT (by rw[List.length_map];omega) (by omega);have hln':=Hd hln;have hrx':=Hd hrx;have hes':=Hd hes;clear hln hrx hri ha0 hxr hpa hkey hokK hcmK hkl' hIT hes;obtain⟨hA,hF⟩:=fZ hA
    go_wp2_with (first|((with_reducible show wpList _ _ _ ({dst:=some 17,op:=Op.load _ _,type:=_,pos:=_,after:=_,guard:=_}::_) _ _);refine Zbj rfl rfl (by(try simp only[Act.eval,eV])<;>exact rfl) hcz'.out (by kernel_rfl) ?_)|((with_reducible show wpList _ _ _ ({dst:=some 30,op:=Op.load _ _,type:=_,pos:=_,after:=_,guard:=_}::_) _ _);refine Zad (vs:=[.int .i64 r,.int .i64 t,.int .i64 3,.int .u32 bal,.int .u32 vote,.bool same,.int .i64 (cmd (r,t)).kind,.int .u64 (cmd (r,t)).num,.string (cmd (r,t)).foot,.int .u64 (cmd (r,t)).req,.string (cmd (r,t)).path,.int .i64 (cmd (r,t)).mode,.int .u64 (cmd (r,t)).n,.int .i64 (cmd (r,t)).time,.int .i64 a.s,.int .i64 a.d0,.int .i64 a.d1,.int .i64 a.d2,.int .i64 a.d3,.int .i64 a.d4,.int .i64 a.d5,.int .i64 a.d6]) rfl rfl (by(try simp only[Act.eval,eV])<;>exact rfl) hrd'.out (by kernel_rfl) (by kernel_rfl) ?_))
    refine(hln'.out _ (hA.sep1 (A:=ExP cmd X f kn es K ss b hv H) sZ)).mono ?_;rintro e w1 ⟨rfl,hT⟩;replace hA:=hA.call1 (A:=ExP cmd X f kn es K ss b hv H) sZ hT;clear hT hF;rw[hes'.out] at hA;obtain⟨hA,hF⟩:=fZ hA;go_wp2_with fail;refine(hrx'.out _ (hA.sep1 (A:=ExP cmd X f (ZcN kn a (r,t)) es2 (Zbg K (r,t)) ss b hv H) sZ)).mono ?_;rintro e w1 ⟨v,got,g,ss1,bk1,hv1,rfl,hrn,hR1,hT⟩;replace hA:=hA.call1 (A:=ExP cmd X f (ZcN kn a (r,t)) es2 (Zbg K (r,t)) ss b hv H) sZ hT;clear hT hF;obtain⟨hA,hF⟩:=fZ hA;have hps:=Hd (hgo.out got g hrn);have hR1':=Hd hR1;clear hrn hR1;go_wp2_with fail;go_roundg (gk - 1);case measure=>omega
    case rel=>exact⟨i + 1,g,ZcN kn a (r,t),es2,Zbg K (r,t),out++got,ss1,bk1,hv1,H++ansZ cmd T got,playT T (got.map cmd),by simp,by omega,hps.out,hR1'.out,hA.pick pZ⟩
  rw[List.take_of_length_le (by omega)] at hpl';obtain⟨hA,hF⟩:=fZ hA;have hiI:¬(i:Int) < xs.length:=by omega
  go_wp2_with fail;go_ret;exact⟨X,f,kn,es,K,out,ss,b,hv,H,T,rfl,hpl'.out,hA.pick pZ⟩
end Gr
end
section
namespace Gr
open _root_.Go.Proofs.YtbeckijoabapkaaGreatDoor.Tab (TS TRel TabP)
open Go.RowKit
open Go.Maps (Keyed)
open Attr (A8 Zaz Zas thro)
open Cmd (Cm)
attribute [-go_sem] run_eql_struct run_neq_struct run_eqGuard_agg
def kn1:F7:=⟨1,1,0,0,0,0,0⟩
abbrev headA (X:Xb) (hv:Value):Part:=Part.cells X.p [.pointer (some ⟨X.gp,0,none⟩),.int .i64 0,.int .i64 0,.int .i64 0,.int .i64 0,.int .i64 0,.int .i64 0,.int .i64 0,.int .i64 1,.int .i64 1,.int .i64 0,.int .i64 0,.int .i64 0,.int .i64 0,.int .i64 0,.map (some X.cm),.pointer (some ⟨X.t,0,none⟩),hv] 66
def GpRel (L0:List Part) (w:World) (F:List Part) (k:Nat) (u u3:Value) (wr:World):Prop:=
 ∃i:Nat,u=.int .i64 i∧i + k=7∧At L0 w (rowI2 u3 (if i=0 then[] else[((0:Int),(0:Int))])::F) wr
def GiRel (L0:List Part) (w:World) (F:List Part) (b6:Nat) (k:Nat) (wr:World):Prop:=
 ∃s:Int,(s=0∧k=1∨s=1∧k=0)∧At L0 w (Part.cells b6 [.int .i64 1,.int .i64 s] 33::F) wr
def GzRel (L0:List Part) (w:World) (F:List Part) (k:Nat) (wr:World):Prop:=At L0 w F wr
def GpP (cmd:I2→Cm) (X:Xb) (es:List (I2 × A8)) (K:List I2) (ss:List Lease.Ses) (b:Lock.Bk) (hv:Value) (H:List AnI) (w:World) (e:Ending) (w':World):Prop:=
 ∃v,e=.returned v∧At [ExP cmd X f0F kn1 es K ss b hv H] w [rowI2 v [(0,0)],ExP cmd X f0F kn1 es K ss b hv H] w'
theorem ZmP (cmd:I2→Cm) {w:World} {X:Xb} {es:List (I2 × A8)} {K:List I2} {ss:List Lease.Ses} {b:Lock.Bk} {hv:Value} {H:List AnI} (h:Sep [ExP cmd X f0F kn1 es K ss b hv H] w) (h0:getA es (0,0)=none) (h1:(getA es (1,0)).isSome=true):
 Calls Tryz.prog 14 #[.pointer (some ⟨X.p,0,none⟩)] w (GpP cmd X es K ss b hv H w):=by
 obtain⟨i0,hi0,hz0,hz1,hz2⟩:=info_parts infoI;have has0:=fun(w1:World) (q:Sep [GrP X.gp X.gm es] w1)=>Zgh q (0,0) (by unfold okD okI;decide);have has1:=fun(w1:World) (q:Sep [GrP X.gp X.gm es] w1)=>Zgh q (1,0) (by unfold okD okI;decide);rw[h0] at has0;rw[h1] at has1;simp only[idV,Option.isSome_none] at has0 has1;have has0':=Hd has0;have has1':=Hd has1;clear has0 has1 h0 h1;have hA:At [ExP cmd X f0F kn1 es K ss b hv H] w [headA X hv,GrP X.gp X.gm es,mapC X.cm (entsC cmd K),TabP X.t X.tp X.tm ss b,rowDn cmd hv H] w:=Zd9 h;clear h;obtain⟨hA,hF⟩:=fZ hA;go_enter Tryz.func14,Tryz.ntmps14;go_wp2_with fail;(try go_frame);have hB:At [ExP cmd X f0F kn1 es K ss b hv H] w [rowI2 (.slice none 0 0) [],headA X hv,GrP X.gp X.gm es,mapC X.cm (entsC cmd K),TabP X.t X.tp X.tm ss b,rowDn cmd hv H] _:=(hA.row_nil 33 2).pick pZ;clear hF hA;go_loopg [11,3] 7 (GpRel [ExP cmd X f0F kn1 es K ss b hv H] w [headA X hv,GrP X.gp X.gm es,mapC X.cm (entsC cmd K),TabP X.t X.tp X.tm ss b,rowDn cmd hv H])
 case atStart=>exact⟨0,rfl,by omega,by simp only[if_true];exact hB⟩
 case round=>
  obtain⟨i,rfl,hik,hA⟩:=hrel;clear hB;by_cases hi:i < 7
  · rcases(show i=0∨i=1∨i=2∨i=3∨i=4∨i=5∨i=6 by omega) with rfl|rfl|rfl|rfl|rfl|rfl|rfl
    · skip;have hix:∀w,(Instr.index 62 (.agg #[.int .i64 1,.int .i64 1,.int .i64 0,.int .i64 0,.int .i64 0,.int .i64 0,.int .i64 0]) (.int .i64 0)).run Tryz.prog w=.ok (.int .i64 1) w:=fun w=>by kernel_rfl
      simp only[if_true] at hA;obtain⟨hA,hF⟩:=fZ hA
      go_wp2_with (first|((with_reducible refine gal ?_);refine g3 hA ?_;clear hF hA;intro b6 w1 hA hb6 hF)|((with_reducible refine gst ?_);refine wTz hA ?_;clear hF hA;intro w1 hA hF))
      (try go_frame);have hB:At [ExP cmd X f0F kn1 es K ss b hv H] w [Part.cells b6 [.int .i64 0,.int .i64 0] 33,rowI2 u3 [],headA X hv,GrP X.gp X.gm es,mapC X.cm (entsC cmd K),TabP X.t X.tp X.tm ss b,rowDn cmd hv H] _:=hA.pick pZ;clear hF hA
      obtain⟨G,hG⟩:∃G:Nat,Hid (1 + G=7∧G < gk):=⟨gk - 1,Hd (by omega)⟩
      go_loopg [] 0 (GzRel [ExP cmd X f0F kn1 es K ss b hv H] w [Part.cells b6 [.int .i64 0,.int .i64 0] 33,rowI2 u3 [],headA X hv,GrP X.gp X.gm es,mapC X.cm (entsC cmd K),TabP X.t X.tp X.tm ss b,rowDn cmd hv H])
      case atStart=>exact hB
      case round=>
       have hA:At [ExP cmd X f0F kn1 es K ss b hv H] w [Part.cells b6 [.int .i64 0,.int .i64 0] 33,rowI2 u3 [],headA X hv,GrP X.gp X.gm es,mapC X.cm (entsC cmd K),TabP X.t X.tp X.tm ss b,rowDn cmd hv H] _:=hrel;clear hB hrel;obtain⟨axo,capo,hvo,_,hcpo,_⟩:=hA.row_form (e:=33) (size:=2) (n:=0) (v:=u3) (xs:=flatI []) sZ;subst hvo;obtain⟨hA,hF⟩:=fZ hA;go_upto_region 6 with fail
       (try go_frame);(refine cA hA ?_);(have hn1:=Cl.none hA);(have hn2:=Cl.none2 hA);(repeat(first|go_big_quiet_skip|(go_big_quiet_want;(first|(refine qM 33 2 ?_;go_frame;go_big_quiet_on)|(refine qL ?_;go_frame;go_big_quiet_on)|(go_big_quiet_op;(first|go_big_quiet_on|((apply Exists.intro);(refine⟨fun w1 hw=> ?_,?_⟩);(focus((have hw:=Cl.out hw);(exact Lock.through1 hw (A:=GrP X.gp X.gm es) sZ (has0'.out _))));(go_big_quiet_on))))))))
       (refine wpQuiet_nil ?_);(intro w1 hB);(clear hF hA hn1 hn2);(have hA:=Cl.out hB);(clear hB);obtain⟨hA,hF⟩:=fZ hA
       go_wp2_with (first|((with_reducible show wpList _ _ _ ({dst:=_,op:=Op.buildSlice _ _ _,type:=_,pos:=_,after:=_,guard:=_}::_) _ _);refine ZaO (e:=33) (vs:=[.int .i64 0,.int .i64 0]) rfl rfl (by(try simp only[Act.eval,eV])<;>exact rfl) (fun _=>by kernel_rfl) hA ?_;intro b45 w1 hB hb45;replace hA:=hB;clear hF hB;obtain⟨hA,hF⟩:=fZ hA)|((with_reducible show wpList _ _ _ ({dst:=_,op:=Op.call {callee:=Callee.builtin Builtin.append,args:=_,argTypes:=_},type:=_,pos:=_,after:=_,guard:=_}::_) _ _);refine Zal (e:=33) (size:=2) (v:=.slice axo 0 capo) (xs:=flatI []) (n:=0) (m:=1) (news:=[.int .i64 0,.int .i64 0]) rfl _ _ 55 rfl Tryz.underlying55 hi0 hz0 hz1 hz2 rfl (by omega) hA sZ (by(try simp only[Act.eval,eV])<;>exact rfl) (by(try simp only[Act.eval,eV])<;>exact rfl) rfl (hA.cells_reads (b:=b45) (c:=[.int .i64 0,.int .i64 0]) (T:=33) sZ _ _) (Zdw [((0:Int),(0:Int))]) (by unfold maxLen;omega) (by omega) ?_;intro v46 w1 hB;replace hA:=hB;clear hF hB;obtain⟨hA,hF⟩:=fZ hA))
       go_roundg G;case measure=>exact hG.out.2
       case rel=>exact⟨1,by simp,hG.out.1,by simp only[show ¬(1=0) from by decide,if_false];exact hA.pick pZ⟩
    · skip;have hix:∀w,(Instr.index 62 (.agg #[.int .i64 1,.int .i64 1,.int .i64 0,.int .i64 0,.int .i64 0,.int .i64 0,.int .i64 0]) (.int .i64 1)).run Tryz.prog w=.ok (.int .i64 1) w:=fun w=>by kernel_rfl
      simp only[show ¬(1=0) from by decide,if_false] at hA;obtain⟨hA,hF⟩:=fZ hA
      go_wp2_with (first|((with_reducible refine gal ?_);refine g3 hA ?_;clear hF hA;intro b6 w1 hA hb6 hF)|((with_reducible refine gst ?_);refine wTz hA ?_;clear hF hA;intro w1 hA hF))
      (try go_frame);have hB:At [ExP cmd X f0F kn1 es K ss b hv H] w [Part.cells b6 [.int .i64 1,.int .i64 0] 33,rowI2 u3 [((0:Int),(0:Int))],headA X hv,GrP X.gp X.gm es,mapC X.cm (entsC cmd K),TabP X.t X.tp X.tm ss b,rowDn cmd hv H] _:=hA.pick pZ;clear hF hA
      obtain⟨G,hG⟩:∃G:Nat,Hid (2 + G=7∧G < gk):=⟨gk - 1,Hd (by omega)⟩
      go_loopg [] 1 (GiRel [ExP cmd X f0F kn1 es K ss b hv H] w [rowI2 u3 [((0:Int),(0:Int))],headA X hv,GrP X.gp X.gm es,mapC X.cm (entsC cmd K),TabP X.t X.tp X.tm ss b,rowDn cmd hv H] b6)
      case atStart=>exact⟨0,.inl ⟨rfl,rfl⟩,hB⟩
      case round=>
       obtain⟨s,hsk,hA⟩:=hrel;clear hB;rcases hsk with⟨rfl,hsk⟩|⟨rfl,hsk⟩
       · have hF:=hA.facts;obtain⟨hA,hF⟩:=fZ hA;go_upto_region 6 with fail
         (try go_frame);(refine cA hA ?_);(have hn1:=Cl.none hA);(have hn2:=Cl.none2 hA);(repeat(first|go_big_quiet_skip|(go_big_quiet_want;(first|(refine qM 33 2 ?_;go_frame;go_big_quiet_on)|(refine qL ?_;go_frame;go_big_quiet_on)|(go_big_quiet_op;(first|go_big_quiet_on|((apply Exists.intro);(refine⟨fun w1 hw=> ?_,?_⟩);(focus((have hw:=Cl.out hw);(exact Lock.through1 hw (A:=GrP X.gp X.gm es) sZ (has1'.out _))));(go_big_quiet_on))))))))
         (refine wpQuiet_nil ?_);(intro w1 hB);(clear hF hA hn1 hn2);(have hA:=Cl.out hB);(clear hB);obtain⟨hA,hF⟩:=fZ hA
         go_wp2_with ((with_reducible refine gst ?_);refine wTz hA ?_;clear hF hA;intro w1 hA hF)
         go_roundg (gk - 1);case measure=>omega
         case rel=>exact⟨1,.inr ⟨rfl,by omega⟩,hA.pick pZ⟩
       have hF:=hA.facts;obtain⟨hA,hF⟩:=fZ hA;go_upto_region 6 with fail
       (try go_frame);refine cl5 hA ?_;clear hF hA;intro w1 hA hF;(try simp only[uZ] at hA hF);go_wp2_with fail;go_roundg G;case measure=>exact hG.out.2
       case rel=>exact⟨2,by simp,hG.out.1,by simp only[show ¬(2=0) from by decide,if_false];exact hA.pick pZ⟩
    · skip;have hix:∀w,(Instr.index 62 (.agg #[.int .i64 1,.int .i64 1,.int .i64 0,.int .i64 0,.int .i64 0,.int .i64 0,.int .i64 0]) (.int .i64 2)).run Tryz.prog w=.ok (.int .i64 0) w:=fun w=>by kernel_rfl
      simp only[show ¬(2=0) from by decide,if_false] at hA;obtain⟨hA,hF⟩:=fZ hA
      go_wp2_with (first|((with_reducible refine gal ?_);refine g3 hA ?_;clear hF hA;intro b6 w1 hA hb6 hF)|((with_reducible refine gst ?_);refine wTz hA ?_;clear hF hA;intro w1 hA hF))
      (try go_frame);have hB:At [ExP cmd X f0F kn1 es K ss b hv H] w [Part.cells b6 [.int .i64 2,.int .i64 0] 33,rowI2 u3 [((0:Int),(0:Int))],headA X hv,GrP X.gp X.gm es,mapC X.cm (entsC cmd K),TabP X.t X.tp X.tm ss b,rowDn cmd hv H] _:=hA.pick pZ;clear hF hA
      obtain⟨G,hG⟩:∃G:Nat,Hid (3 + G=7∧G < gk):=⟨gk - 1,Hd (by omega)⟩
      go_loopg [] 0 (GzRel [ExP cmd X f0F kn1 es K ss b hv H] w [Part.cells b6 [.int .i64 2,.int .i64 0] 33,rowI2 u3 [((0:Int),(0:Int))],headA X hv,GrP X.gp X.gm es,mapC X.cm (entsC cmd K),TabP X.t X.tp X.tm ss b,rowDn cmd hv H])
      case atStart=>exact hB
      case round=>
       have hA:At [ExP cmd X f0F kn1 es K ss b hv H] w [Part.cells b6 [.int .i64 2,.int .i64 0] 33,rowI2 u3 [((0:Int),(0:Int))],headA X hv,GrP X.gp X.gm es,mapC X.cm (entsC cmd K),TabP X.t X.tp X.tm ss b,rowDn cmd hv H] _:=hrel;clear hB hrel;obtain⟨hA,hF⟩:=fZ hA;go_upto_region 6 with fail
       (try go_frame);refine cl5 hA ?_;clear hF hA;intro w1 hA hF;(try simp only[uZ] at hA hF);go_wp2_with fail;go_roundg G;case measure=>exact hG.out.2
       case rel=>exact⟨3,by simp,hG.out.1,by simp only[show ¬(3=0) from by decide,if_false];exact hA.pick pZ⟩
    · skip;have hix:∀w,(Instr.index 62 (.agg #[.int .i64 1,.int .i64 1,.int .i64 0,.int .i64 0,.int .i64 0,.int .i64 0,.int .i64 0]) (.int .i64 3)).run Tryz.prog w=.ok (.int .i64 0) w:=fun w=>by kernel_rfl
      simp only[show ¬(3=0) from by decide,if_false] at hA;obtain⟨hA,hF⟩:=fZ hA
      go_wp2_with (first|((with_reducible refine gal ?_);refine g3 hA ?_;clear hF hA;intro b6 w1 hA hb6 hF)|((with_reducible refine gst ?_);refine wTz hA ?_;clear hF hA;intro w1 hA hF))
      (try go_frame);have hB:At [ExP cmd X f0F kn1 es K ss b hv H] w [Part.cells b6 [.int .i64 3,.int .i64 0] 33,rowI2 u3 [((0:Int),(0:Int))],headA X hv,GrP X.gp X.gm es,mapC X.cm (entsC cmd K),TabP X.t X.tp X.tm ss b,rowDn cmd hv H] _:=hA.pick pZ;clear hF hA
      obtain⟨G,hG⟩:∃G:Nat,Hid (4 + G=7∧G < gk):=⟨gk - 1,Hd (by omega)⟩
      go_loopg [] 0 (GzRel [ExP cmd X f0F kn1 es K ss b hv H] w [Part.cells b6 [.int .i64 3,.int .i64 0] 33,rowI2 u3 [((0:Int),(0:Int))],headA X hv,GrP X.gp X.gm es,mapC X.cm (entsC cmd K),TabP X.t X.tp X.tm ss b,rowDn cmd hv H])
      case atStart=>exact hB
      case round=>
       have hA:At [ExP cmd X f0F kn1 es K ss b hv H] w [Part.cells b6 [.int .i64 3,.int .i64 0] 33,rowI2 u3 [((0:Int),(0:Int))],headA X hv,GrP X.gp X.gm es,mapC X.cm (entsC cmd K),TabP X.t X.tp X.tm ss b,rowDn cmd hv H] _:=hrel;clear hB hrel;obtain⟨hA,hF⟩:=fZ hA;go_upto_region 6 with fail
       (try go_frame);refine cl5 hA ?_;clear hF hA;intro w1 hA hF;(try simp only[uZ] at hA hF);go_wp2_with fail;go_roundg G;case measure=>exact hG.out.2
       case rel=>exact⟨4,by simp,hG.out.1,by simp only[show ¬(4=0) from by decide,if_false];exact hA.pick pZ⟩
    · skip;have hix:∀w,(Instr.index 62 (.agg #[.int .i64 1,.int .i64 1,.int .i64 0,.int .i64 0,.int .i64 0,.int .i64 0,.int .i64 0]) (.int .i64 4)).run Tryz.prog w=.ok (.int .i64 0) w:=fun w=>by kernel_rfl
      simp only[show ¬(4=0) from by decide,if_false] at hA;obtain⟨hA,hF⟩:=fZ hA
      go_wp2_with (first|((with_reducible refine gal ?_);refine g3 hA ?_;clear hF hA;intro b6 w1 hA hb6 hF)|((with_reducible refine gst ?_);refine wTz hA ?_;clear hF hA;intro w1 hA hF))
      (try go_frame);have hB:At [ExP cmd X f0F kn1 es K ss b hv H] w [Part.cells b6 [.int .i64 4,.int .i64 0] 33,rowI2 u3 [((0:Int),(0:Int))],headA X hv,GrP X.gp X.gm es,mapC X.cm (entsC cmd K),TabP X.t X.tp X.tm ss b,rowDn cmd hv H] _:=hA.pick pZ;clear hF hA
      obtain⟨G,hG⟩:∃G:Nat,Hid (5 + G=7∧G < gk):=⟨gk - 1,Hd (by omega)⟩
      go_loopg [] 0 (GzRel [ExP cmd X f0F kn1 es K ss b hv H] w [Part.cells b6 [.int .i64 4,.int .i64 0] 33,rowI2 u3 [((0:Int),(0:Int))],headA X hv,GrP X.gp X.gm es,mapC X.cm (entsC cmd K),TabP X.t X.tp X.tm ss b,rowDn cmd hv H])
      case atStart=>exact hB
      case round=>
       have hA:At [ExP cmd X f0F kn1 es K ss b hv H] w [Part.cells b6 [.int .i64 4,.int .i64 0] 33,rowI2 u3 [((0:Int),(0:Int))],headA X hv,GrP X.gp X.gm es,mapC X.cm (entsC cmd K),TabP X.t X.tp X.tm ss b,rowDn cmd hv H] _:=hrel;clear hB hrel;obtain⟨hA,hF⟩:=fZ hA;go_upto_region 6 with fail
       (try go_frame);refine cl5 hA ?_;clear hF hA;intro w1 hA hF;(try simp only[uZ] at hA hF);go_wp2_with fail;go_roundg G;case measure=>exact hG.out.2
       case rel=>exact⟨5,by simp,hG.out.1,by simp only[show ¬(5=0) from by decide,if_false];exact hA.pick pZ⟩
    · skip;have hix:∀w,(Instr.index 62 (.agg #[.int .i64 1,.int .i64 1,.int .i64 0,.int .i64 0,.int .i64 0,.int .i64 0,.int .i64 0]) (.int .i64 5)).run Tryz.prog w=.ok (.int .i64 0) w:=fun w=>by kernel_rfl
      simp only[show ¬(5=0) from by decide,if_false] at hA;obtain⟨hA,hF⟩:=fZ hA
      go_wp2_with (first|((with_reducible refine gal ?_);refine g3 hA ?_;clear hF hA;intro b6 w1 hA hb6 hF)|((with_reducible refine gst ?_);refine wTz hA ?_;clear hF hA;intro w1 hA hF))
      (try go_frame);have hB:At [ExP cmd X f0F kn1 es K ss b hv H] w [Part.cells b6 [.int .i64 5,.int .i64 0] 33,rowI2 u3 [((0:Int),(0:Int))],headA X hv,GrP X.gp X.gm es,mapC X.cm (entsC cmd K),TabP X.t X.tp X.tm ss b,rowDn cmd hv H] _:=hA.pick pZ;clear hF hA
      obtain⟨G,hG⟩:∃G:Nat,Hid (6 + G=7∧G < gk):=⟨gk - 1,Hd (by omega)⟩
      go_loopg [] 0 (GzRel [ExP cmd X f0F kn1 es K ss b hv H] w [Part.cells b6 [.int .i64 5,.int .i64 0] 33,rowI2 u3 [((0:Int),(0:Int))],headA X hv,GrP X.gp X.gm es,mapC X.cm (entsC cmd K),TabP X.t X.tp X.tm ss b,rowDn cmd hv H])
      case atStart=>exact hB
      case round=>
       have hA:At [ExP cmd X f0F kn1 es K ss b hv H] w [Part.cells b6 [.int .i64 5,.int .i64 0] 33,rowI2 u3 [((0:Int),(0:Int))],headA X hv,GrP X.gp X.gm es,mapC X.cm (entsC cmd K),TabP X.t X.tp X.tm ss b,rowDn cmd hv H] _:=hrel;clear hB hrel;obtain⟨hA,hF⟩:=fZ hA;go_upto_region 6 with fail
       (try go_frame);refine cl5 hA ?_;clear hF hA;intro w1 hA hF;(try simp only[uZ] at hA hF);go_wp2_with fail;go_roundg G;case measure=>exact hG.out.2
       case rel=>exact⟨6,by simp,hG.out.1,by simp only[show ¬(6=0) from by decide,if_false];exact hA.pick pZ⟩
    skip;have hix:∀w,(Instr.index 62 (.agg #[.int .i64 1,.int .i64 1,.int .i64 0,.int .i64 0,.int .i64 0,.int .i64 0,.int .i64 0]) (.int .i64 6)).run Tryz.prog w=.ok (.int .i64 0) w:=fun w=>by kernel_rfl
    simp only[show ¬(6=0) from by decide,if_false] at hA;obtain⟨hA,hF⟩:=fZ hA
    go_wp2_with (first|((with_reducible refine gal ?_);refine g3 hA ?_;clear hF hA;intro b6 w1 hA hb6 hF)|((with_reducible refine gst ?_);refine wTz hA ?_;clear hF hA;intro w1 hA hF))
    (try go_frame);have hB:At [ExP cmd X f0F kn1 es K ss b hv H] w [Part.cells b6 [.int .i64 6,.int .i64 0] 33,rowI2 u3 [((0:Int),(0:Int))],headA X hv,GrP X.gp X.gm es,mapC X.cm (entsC cmd K),TabP X.t X.tp X.tm ss b,rowDn cmd hv H] _:=hA.pick pZ;clear hF hA
    obtain⟨G,hG⟩:∃G:Nat,Hid (7 + G=7∧G < gk):=⟨gk - 1,Hd (by omega)⟩
    go_loopg [] 0 (GzRel [ExP cmd X f0F kn1 es K ss b hv H] w [Part.cells b6 [.int .i64 6,.int .i64 0] 33,rowI2 u3 [((0:Int),(0:Int))],headA X hv,GrP X.gp X.gm es,mapC X.cm (entsC cmd K),TabP X.t X.tp X.tm ss b,rowDn cmd hv H])
    case atStart=>exact hB
    case round=>
     have hA:At [ExP cmd X f0F kn1 es K ss b hv H] w [Part.cells b6 [.int .i64 6,.int .i64 0] 33,rowI2 u3 [((0:Int),(0:Int))],headA X hv,GrP X.gp X.gm es,mapC X.cm (entsC cmd K),TabP X.t X.tp X.tm ss b,rowDn cmd hv H] _:=hrel;clear hB hrel;obtain⟨hA,hF⟩:=fZ hA;go_upto_region 6 with fail
     (try go_frame);refine cl5 hA ?_;clear hF hA;intro w1 hA hF;(try simp only[uZ] at hA hF);go_wp2_with fail;go_roundg G;case measure=>exact hG.out.2
     case rel=>exact⟨7,by simp,hG.out.1,by simp only[show ¬(7=0) from by decide,if_false];exact hA.pick pZ⟩
  obtain rfl:i=7:=by omega
  simp only[show ¬(7=0) from by decide,if_false] at hA;obtain⟨hA,hF⟩:=fZ hA;go_wp2_with fail;go_ret;exact⟨u3,rfl,(ZdA (f:=f0F) (kn:=kn1) (F:=[rowI2 u3 [(0,0)]]) (hA.pick pZ)).pick pZ⟩
end Gr
end
end Go.Proofs.YtbeckijoabapkaaGreatDoor
