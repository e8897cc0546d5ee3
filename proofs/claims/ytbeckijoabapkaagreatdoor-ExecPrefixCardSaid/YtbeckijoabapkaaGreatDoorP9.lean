import Derived.Test.YtbeckijoabapkaaGreatDoorP8
import Derived.Test.YtbeckijoabapkaaGreatDoorP6
set_option linter.unusedSimpArgs false
set_option linter.unusedVariables false
set_option maxRecDepth 100000
set_option maxHeartbeats 16000000
namespace Go.Proofs.YtbeckijoabapkaaGreatDoor
section
namespace Gr
open Go.RowKit
open Path (bl Zag overB)
open Attr (A8 Zaz thro ownsB eqA ZaY Zdk eq7 eq7g ZbE Zc0 ZkZ)
open Cmd (Cm Zar neqCm ZcX same_ba ZgJ)
attribute [-go_sem] run_eql_struct run_neq_struct run_eqGuard_agg
structure In where
 id:I2
 st:Int
 bal:Int
 vote:Int
 same:Bool
 c:Cm
 a:A8
def In.cells (x:In):List Value:=[.int .i64 x.id.1,.int .i64 x.id.2,.int .i64 x.st,.int .u32 x.bal,.int .u32 x.vote,.bool x.same,.int .i64 x.c.kind,.int .u64 x.c.num,.string x.c.foot,.int .u64 x.c.req,.string x.c.path,.int .i64 x.c.mode,.int .u64 x.c.n,.int .i64 x.c.time,.int .i64 x.a.s,.int .i64 x.a.d0,.int .i64 x.a.d1,.int .i64 x.a.d2,.int .i64 x.a.d3,.int .i64 x.a.d4,.int .i64 x.a.d5,.int .i64 x.a.d6]
def In.val (x:In):Value:=.agg #[.int .i64 x.id.1,.int .i64 x.id.2,.int .i64 x.st,.int .u32 x.bal,.int .u32 x.vote,.bool x.same,.int .i64 x.c.kind,.int .u64 x.c.num,.string x.c.foot,.int .u64 x.c.req,.string x.c.path,.int .i64 x.c.mode,.int .u64 x.c.n,.int .i64 x.c.time,.int .i64 x.a.s,.int .i64 x.a.d0,.int .i64 x.a.d1,.int .i64 x.a.d2,.int .i64 x.a.d3,.int .i64 x.a.d4,.int .i64 x.a.d5,.int .i64 x.a.d6]
def Zdi (x:In):Bool:=Zaz x.id.1 x.id.2&&(balR x.bal&&(balR x.vote&&(decide (x.vote≤x.bal)&&(!x.same&&(Zar x.c&&ownsB x.a x.id.1 x.id.2)))))
theorem eqlCm (x y:Cm) (w:World):(binOp .eql 37 x.val y.val).run Tryz.prog w=.ok (.bool (decide (x=y))) w:=by
 have:=ZgJ x y w
 unfold Cm.val at *
 exact Attr.Zdg this
def ZhA (x y:In):Bool:=decide (x.c=y.c)&&eqA x.a y.a
attribute [local go_sem] ZcX ZbE Zc0
theorem ZlF (x y:In) (w:World):
 Calls Tryz.prog 16 #[x.val,y.val] w fun e w'=>e=.returned (.bool (ZhA x y))∧Ext w w':=by
 have hA:At [] w [] w:=At.start (L0:=[]) trivial;have hF:=hA.facts;have hq:=fun w=>eqlCm x.c y.c w;unfold ZhA;generalize decide (x.c=y.c)=p at *
 obtain⟨⟨r,t⟩,st,bal,vote,same,⟨kind,num,foot,req,path,mode,n,time⟩,⟨s,d0,d1,d2,d3,d4,d5,d6⟩⟩:=x;obtain⟨⟨r2,t2⟩,st2,bal2,vote2,same2,⟨kind2,num2,foot2,req2,path2,mode2,n2,time2⟩,⟨s2,e0,e1,e2,e3,e4,e5,e6⟩⟩:=y;simp only[In.val,Cm.val] at *
 obtain⟨q,hqa⟩:∃z,eqA ⟨s,d0,d1,d2,d3,d4,d5,d6⟩ ⟨s2,e0,e1,e2,e3,e4,e5,e6⟩=z:=⟨_,rfl⟩
 rw[hqa];obtain⟨hA,hF⟩:=fY hA;go_enter Tryz.func16,Tryz.ntmps16;cases p
 · go_wp2_with (first|(((with_reducible refine gbxD 2 ?_);refine wHy 53 [.int .i64 r,.int .i64 t,.int .i64 st,.int .u32 bal,.int .u32 vote,.bool same,.int .i64 kind,.int .u64 num,.string foot,.int .u64 req,.string path,.int .i64 mode,.int .u64 n,.int .i64 time,.int .i64 s,.int .i64 d0,.int .i64 d1,.int .i64 d2,.int .i64 d3,.int .i64 d4,.int .i64 d5,.int .i64 d6] hA ?_;clear hF hA;intro bX w1 hA hbX hF))|(((with_reducible refine gbxD 3 ?_);refine wHy 53 [.int .i64 r2,.int .i64 t2,.int .i64 st2,.int .u32 bal2,.int .u32 vote2,.bool same2,.int .i64 kind2,.int .u64 num2,.string foot2,.int .u64 req2,.string path2,.int .i64 mode2,.int .u64 n2,.int .i64 time2,.int .i64 s2,.int .i64 e0,.int .i64 e1,.int .i64 e2,.int .i64 e3,.int .i64 e4,.int .i64 e5,.int .i64 e6] hA ?_;clear hF hA;intro bY w1 hA hbY hF)))
   go_ret;exact⟨rfl,hA.toExt⟩
 go_wp2_with (first|(((with_reducible refine gbxD 2 ?_);refine wHy 53 [.int .i64 r,.int .i64 t,.int .i64 st,.int .u32 bal,.int .u32 vote,.bool same,.int .i64 kind,.int .u64 num,.string foot,.int .u64 req,.string path,.int .i64 mode,.int .u64 n,.int .i64 time,.int .i64 s,.int .i64 d0,.int .i64 d1,.int .i64 d2,.int .i64 d3,.int .i64 d4,.int .i64 d5,.int .i64 d6] hA ?_;clear hF hA;intro bX w1 hA hbX hF))|(((with_reducible refine gbxD 3 ?_);refine wHy 53 [.int .i64 r2,.int .i64 t2,.int .i64 st2,.int .u32 bal2,.int .u32 vote2,.bool same2,.int .i64 kind2,.int .u64 num2,.string foot2,.int .u64 req2,.string path2,.int .i64 mode2,.int .u64 n2,.int .i64 time2,.int .i64 s2,.int .i64 e0,.int .i64 e1,.int .i64 e2,.int .i64 e3,.int .i64 e4,.int .i64 e5,.int .i64 e6] hA ?_;clear hF hA;intro bY w1 hA hbY hF)))
 go_ret;exact⟨rfl,hA.toExt⟩
theorem ZbF {w:World} {b:Nat} {c:List Value} {T:TypeId} (h:Zaa w b c T):∀(k:Nat) u,c[k]? =some u→w.cell? ⟨b,0 + k,none⟩=some u:=fun k u hu=>by
 rw[Nat.zero_add,h.cell,hu]
theorem ZoF (r t bal:Int):Tryz.prog.built 53 [(0,.agg #[.int .i64 r,.int .i64 t]),(2,.int .u32 bal)]=some #[.int .i64 r,.int .i64 t,.int .i64 0,.int .u32 bal,.int .u32 0,.bool false,.int .i64 0,.int .u64 0,.string ⟨#[]⟩,.int .u64 0,.string ⟨#[]⟩,.int .i64 0,.int .u64 0,.int .i64 0,.int .i64 0,.int .i64 0,.int .i64 0,.int .i64 0,.int .i64 0,.int .i64 0,.int .i64 0,.int .i64 0]:=by
 kernel_rfl
theorem ZoE (r t kind num:Int) (foot:ByteArray) (req:Int) (path:ByteArray) (mode n time s d0 d1 d2 d3 d4 d5 d6:Int):Tryz.prog.built 53 [(0,.agg #[.int .i64 r,.int .i64 t]),(1,.int .i64 3),(5,.agg #[.int .i64 kind,.int .u64 num,.string foot,.int .u64 req,.string path,.int .i64 mode,.int .u64 n,.int .i64 time]),(6,.agg #[.int .i64 s,.int .i64 d0,.int .i64 d1,.int .i64 d2,.int .i64 d3,.int .i64 d4,.int .i64 d5,.int .i64 d6])]=some #[.int .i64 r,.int .i64 t,.int .i64 3,.int .u32 0,.int .u32 0,.bool false,.int .i64 kind,.int .u64 num,.string foot,.int .u64 req,.string path,.int .i64 mode,.int .u64 n,.int .i64 time,.int .i64 s,.int .i64 d0,.int .i64 d1,.int .i64 d2,.int .i64 d3,.int .i64 d4,.int .i64 d5,.int .i64 d6]:=by
 kernel_rfl
end Gr
end
section
namespace Lock
open Go.RowKit
open Go.Maps (Keyed)
open Path (bl Zag overB)
structure Ent where
 path:ByteArray
 num:Int
 foot:ByteArray
 mode:Int
 n:Int
 stamp:Int
deriving DecidableEq
def keyV (p:ByteArray) (n:Int) (f:ByteArray):Value:=.agg #[.string p,.int .u64 n,.string f]
def Ent.key (e:Ent):Value:=keyV e.path e.num e.foot
def Ent.cells (e:Ent):List Value:=[.string e.path,.int .u64 e.num,.string e.foot,.int .i64 e.mode,.int .u64 e.n,.int .i64 e.stamp]
def Ent.val (e:Ent):Value:=.agg #[.string e.path,.int .u64 e.num,.string e.foot,.int .i64 e.mode,.int .u64 e.n,.int .i64 e.stamp]
def ent (e:Ent):Value × Value:=(e.key,e.val)
def ents (l:List Ent):List (Value × Value):=l.map ent
def ctrE (c:ByteArray × Int):Value × Value:=(.string c.1,.int .u64 c.2)
def ctrs (l:List (ByteArray × Int)):List (Value × Value):=l.map ctrE
abbrev headC (p m c:Nat) (first:Int):Part:=Part.cells p [.int .u64 first,.map (some m),.map (some c)] 117
abbrev mapC (m:Nat) (es:List (Value × Value)):Part:=Part.map Tryz.prog 163 m es
abbrev ctrC (c:Nat) (cs:List (Value × Value)):Part:=Part.map Tryz.prog 9 c cs
structure Bk where
 p:Nat
 m:Nat
 c:Nat
 first:Int
 es:List Ent
 cs:List (ByteArray × Int)
def BookP (b:Bk):Part:=Part.all [headC b.p b.m b.c b.first,mapC b.m (ents b.es),ctrC b.c (ctrs b.cs)]
theorem eqv0 (b:Bk) (F:List Part):Eqv (BookP b::F) (headC b.p b.m b.c b.first::mapC b.m (ents b.es)::ctrC b.c (ctrs b.cs)::F):=Eqv.all [headC b.p b.m b.c b.first,mapC b.m (ents b.es),ctrC b.c (ctrs b.cs)] F
theorem begin0 {w:World} {b:Bk} (h:Sep [BookP b] w):At [BookP b] w [headC b.p b.m b.c b.first,mapC b.m (ents b.es),ctrC b.c (ctrs b.cs)] w:=(At.start h).to (eqv0 b [])
theorem open0 {L0 L F:List Part} {w0 w:World} {b:Bk} (h:At L0 w0 L w) (q:Sel (BookP b) L F):At L0 w0 (headC b.p b.m b.c b.first::mapC b.m (ents b.es)::ctrC b.c (ctrs b.cs)::F) w:=(h.take q).to (eqv0 b F)
theorem fold0 {L0 L F G H:List Part} {w0 w:World} (b:Bk) (h:At L0 w0 L w) (s1:Sel (headC b.p b.m b.c b.first) L F) (s2:Sel (mapC b.m (ents b.es)) F G) (s3:Sel (ctrC b.c (ctrs b.cs)) G H):At L0 w0 (BookP b::H) w:=
 (h.perm (s1.perm.trans ((s2.perm.trans (s3.perm.cons _)).cons _))).to (eqv0 b H).symm
theorem close0 {L0 L F G H:List Part} {w0 w:World} (b:Bk) (h:At L0 w0 L w) (s1:Sel (headC b.p b.m b.c b.first) L F) (s2:Sel (mapC b.m (ents b.es)) F G) (s3:Sel (ctrC b.c (ctrs b.cs)) G H):At L0 w0 [BookP b] w:=(fold0 b h s1 s2 s3).only1 .here
theorem laidOut:laidOutB Tryz.prog=true:=by kernel_rfl
theorem wideP:(match Tryz.prog.underlying 163 with|some (.array _ _)|some (.struct _)=>true|_=>false)=true:=by kernel_rfl
theorem rowP:(163:TypeId) < Tryz.prog.types.size:=of_decide_eq_true (by kernel_rfl)
theorem lawP:Keyed Tryz.prog 163:=Keyed.of_law (deep_law_laid laidOut (m:=3) (by omega) rowP (by kernel_rfl) wideP)
theorem lawT:Keyed Tryz.prog 9:=Go.Maps.string_keyed Tryz.underlying9
theorem ZmC:Tryz.prog.keyType 163=true:=by kernel_rfl
theorem ZnM:Tryz.prog.cellsOf 163=3:=by kernel_rfl
theorem cellsS:Tryz.prog.cellsOf 35=2:=by kernel_rfl
theorem cellsU:Tryz.prog.cellsOf 22=1:=by kernel_rfl
theorem cellsStr:Tryz.prog.cellsOf 9=1:=by kernel_rfl
theorem Zoz (c0 c1 c2:Value):(Value.agg #[c0,c1,c2]).formed Tryz.prog 163=true:=by simp[Value.formed,Tryz.underlying163,ZnM]
def big64:Int:=18446744073709551616
theorem keyP {p:ByteArray} {n:Int} {f:ByteArray} (hp:p.size≤maxLen) (h0:0≤n) (h1:n < big64) (hf:f.size≤maxLen):∃l,keyOf Tryz.prog 163 (keyV p n f)=some l:=by
 have hw:(Lit.int .u64 n).wf=true:=by simp[Lit.wf,IntKind.min,IntKind.max,IntKind.signed,IntKind.bits];unfold big64 at h1;omega
 obtain⟨d,hd⟩:∃d,Tryz.prog.types.size=d + 2:=⟨Tryz.prog.types.size - 2,by have:2≤Tryz.prog.types.size:=of_decide_eq_true (by kernel_rfl);omega⟩
 have hl:Tryz.prog.keyLits (Tryz.prog.types.size + 1) 163 [.string p,.int .u64 n,.string f]=some [.string p.data.toList,.int .u64 n,.string f.data.toList]:=by
  rw[hd];simp[Program.keyLits,Tryz.underlying163,Tryz.underlying35,Tryz.underlying22,Tryz.underlying9,ZnM,cellsS,cellsU,cellsStr,hw,hf,hp];rw[if_pos (by decide)];rfl
 exact⟨.string (keyBytes [.string p.data.toList,.int .u64 n,.string f.data.toList]),by
  unfold keyOf;rw[Tryz.underlying163];simp only[ZmC,keyV,Zoz,Bool.and_self,if_true];rw[show(Value.agg #[.string p,.int .u64 n,.string f]).cells.toList=[.string p,.int .u64 n,.string f] from rfl,hl]
  rfl⟩
theorem keyT {p:ByteArray} (hp:p.size≤maxLen):∃l,keyOf Tryz.prog 9 (.string p)=some l:=⟨_,WideMaps.keyOf_string_mk Tryz.underlying9 hp⟩
def Ent.is (e:Ent) (p:ByteArray) (n:Int) (f:ByteArray):Bool:=decide (e.path=p∧e.num=n∧e.foot=f)
def find (es:List Ent) (p:ByteArray) (n:Int) (f:ByteArray):Option Ent:=es.find? (·.is p n f)
theorem find_split {es:List Ent} {p:ByteArray} {n:Int} {f:ByteArray} {e:Ent} (h:find es p n f=some e):∃l1 l2,es=l1++e::l2∧e.path=p∧e.num=n∧e.foot=f∧∀x ∈ l1,x.is p n f=false:=by
 obtain⟨h1,l1,l2,h2,h3⟩:=List.find?_eq_some_iff_append.1 h;have h4:e.path=p∧e.num=n∧e.foot=f:=by simpa [Ent.is] using h1
 exact⟨l1,l2,h2,h4.1,h4.2.1,h4.2.2,fun x hx=>by simpa using h3 x hx⟩
theorem find_none {es:List Ent} {p:ByteArray} {n:Int} {f:ByteArray} (h:find es p n f=none):∀q ∈ ents es,q.1≠keyV p n f:=by
 intro q hq;obtain⟨e,he,rfl⟩:=List.mem_map.1 hq;have h1:¬e.is p n f=true:=List.find?_eq_none.1 h e he;intro q2;apply h1;simp[ent,Ent.key,keyV] at q2;simp[Ent.is,q2]
theorem find_mem {es:List Ent} {p:ByteArray} {n:Int} {f:ByteArray} {e:Ent} (h:find es p n f=some e):(keyV p n f,e.val) ∈ ents es:=by
 obtain⟨l1,l2,rfl,rfl,rfl,rfl,_⟩:=find_split h;simp[ents,ent,Ent.key]
def ctr (cs:List (ByteArray × Int)) (p:ByteArray):Option Int:=(cs.find? (·.1=p)).map (·.2)
def Zat (first:Int) (cs:List (ByteArray × Int)) (p:ByteArray):Int:=(ctr cs p).getD first
theorem Zgo {cs:List (ByteArray × Int)} {p:ByteArray} (h:ctr cs p=none):∀q ∈ ctrs cs,q.1≠.string p:=by
 intro q hq;obtain⟨s,hs,rfl⟩:=List.mem_map.1 hq;unfold ctr at h;simp at h
 intro e;simp[ctrE] at e;exact h s.1 s.2 hs e
theorem ZoO {cs:List (ByteArray × Int)} {p:ByteArray} {n:Int} (h:ctr cs p=some n):(.string p,.int .u64 n) ∈ ctrs cs:=by
 unfold ctr at h;simp only[Option.map_eq_some_iff] at h;obtain⟨q,h1,h2⟩:=h;have h3:=List.find?_some h1;have h4:=List.mem_of_find?_eq_some h1;refine List.mem_map.2 ⟨q,h4,?_⟩;simp at h3
 simp[ctrE,h3,h2]
def wayB (a b:Ent):Bool:=(decide (a.mode=2) || decide (b.mode=2))&&overB (bl a.path) (bl b.path)
end Lock
end
section
namespace Lock
open Go.RowKit
open Go.Maps (Keyed)
open Path (bl Zag overB)
def NewPost (first:Int) (w:World) (e:Ending) (w':World):Prop:=∃b:Bk,e=.returned (.pointer (some ⟨b.p,0,none⟩))∧b.first=first∧b.es=[]∧b.cs=[]∧At [] w [BookP b] w'
theorem new_any (w:World) (first:Int):Calls Tryz.prog 33 #[.int .u64 first] w (NewPost first w):=by
 have hA:At [] w [] w:=At.start (L0:=[]) trivial;have hF:=hA.facts;go_enter Tryz.func33,Tryz.ntmps33
 go_wp2_with (first|((with_reducible refine gbx ?_);refine wCy hA ?_;clear hF hA;intro b1 w1 hA hb1 hF)|(refine Zav Tryz.prog 163 rfl rfl hA ?_;intro b1 w1 hB hb1;replace hA:=hB;clear hF hB;obtain⟨hA,hF⟩:=fY hA;refine Zav Tryz.prog 9 rfl rfl hA ?_;intro b2 w1 hB hb2;replace hA:=hB;clear hF hB;obtain⟨hA,hF⟩:=fY hA))
 go_ret;exact⟨⟨_,_,_,first,[],[]⟩,rfl,rfl,rfl,rfl,close0 ⟨_,_,_,first,[],[]⟩ hA sR sZ sZ⟩
theorem Zhs {w:World} {b:Bk} (h:Sep [BookP b] w) {p:ByteArray} (hp:p.size≤maxLen) (hn:ctr b.cs p=none):
 Calls Tryz.prog 122 #[.pointer (some ⟨b.p,0,none⟩),.string p] w fun e w'=>e=.returned (.int .u64 b.first)∧At [BookP b] w [BookP b] w':=by
 obtain⟨kl,hk⟩:=keyT hp;have hmiss:=Hd (Zgo hn);have hA:=begin0 h;have hF:=hA.facts;clear h hn;obtain⟨hA,hF⟩:=fY hA;go_enter Tryz.func122,Tryz.ntmps122
 go_wp2_with (refine Zbf rfl rfl rfl (by(try simp only[Act.eval,eV])<;>exact rfl) hA (k:=9) (es:=ctrs b.cs) sR lawT Tryz.underlying115 hk hmiss.out (z:=.int .u64 0) (fun _=>by kernel_rfl) ?_)
 go_ret;exact⟨rfl,close0 b hA sR sR sR⟩
theorem Zhr {w:World} {b:Bk} (h:Sep [BookP b] w) {p:ByteArray} (hp:p.size≤maxLen) {n:Int} (hn:ctr b.cs p=some n):
 Calls Tryz.prog 122 #[.pointer (some ⟨b.p,0,none⟩),.string p] w fun e w'=>e=.returned (.int .u64 n)∧At [BookP b] w [BookP b] w':=by
 obtain⟨kl,hk⟩:=keyT hp;have hmem:=Hd (ZoO hn);have hA:=begin0 h;have hF:=hA.facts;clear h hn;obtain⟨hA,hF⟩:=fY hA;go_enter Tryz.func122,Tryz.ntmps122
 go_wp2_with (refine Zbe rfl rfl rfl (by(try simp only[Act.eval,eV])<;>exact rfl) hA (k:=9) (es:=ctrs b.cs) sR lawT Tryz.underlying115 hk hmem.out ?_)
 go_ret;exact⟨rfl,close0 b hA sR sR sR⟩
theorem ZeZ {w:World} {b:Bk} (h:Sep [BookP b] w) {p:ByteArray} (hp:p.size≤maxLen):
 Calls Tryz.prog 122 #[.pointer (some ⟨b.p,0,none⟩),.string p] w fun e w'=>e=.returned (.int .u64 (Zat b.first b.cs p))∧At [BookP b] w [BookP b] w':=by
 cases hn:ctr b.cs p with
 |none=>have:=Zhs h hp hn;unfold Zat;rw[hn];exact this
 |some n=>have:=Zhr h hp hn;unfold Zat;rw[hn];exact this
def Zcl (p:ByteArray) (mode:Int):Bool:=Zag (bl p)&&(decide (mode=1) || decide (mode=2))
theorem right_any (p:ByteArray) (mode:Int) (w:World) (hp:p.size≤1000000):Calls Tryz.prog 120 #[.string p,.int .i64 mode] w fun e w'=>e=.returned (.bool (Zcl p mode))∧Ext w w':=by
 have hr:=Path.right_any p w (by omega);unfold Zcl;generalize Zag (bl p)=rb at *
 go_enter Tryz.func120,Tryz.ntmps120;go_wp2_with fail;refine hr.mono ?_;clear hr;rintro e w1 ⟨rfl,hx⟩;by_cases h1:mode=1
 · subst h1;cases rb
   all_goals
    go_wp2_with fail;go_ret;exact⟨rfl,hx⟩
 have e1:(mode==1)=false:=by simpa using h1
 by_cases h2:mode=2
 · subst h2;cases rb
   all_goals
    go_wp2_with fail;go_ret;exact⟨rfl,hx⟩
 have e2:(mode==2)=false:=by simpa using h2
 have d1:=decide_eq_false h1;have d2:=decide_eq_false h2;clear h1 h2;cases rb
 all_goals
  go_wp2_with fail;go_ret;exact⟨by simp[d1,d2],hx⟩
theorem ZnU (x y:Ent) (w:World) (hx:x.path.size≤1000000) (hy:y.path.size≤1000000):Calls Tryz.prog 124 #[x.val,y.val] w fun e w'=>e=.returned (.bool (wayB x y))∧Ext w w':=by
 have ho:=fun w=>Path.ZcW x.path y.path w (by omega) (by omega);unfold wayB;generalize overB (bl x.path) (bl y.path)=ob at *
 have hA:At [] w [] w:=At.start (L0:=[]) trivial;have hF:=hA.facts;obtain⟨p1,n1,f1,m1,k1,s1⟩:=x;obtain⟨p2,n2,f2,m2,k2,s2⟩:=y;simp only[Ent.val] at *
 by_cases h1:m1=2
 · subst h1;go_enter Tryz.func124,Tryz.ntmps124
   go_wp2_with ((with_reducible refine gbx ?_);refine wCy hA ?_;clear hF hA;intro b1 w1 hA hb1 hF)
   refine(ho _).mono ?_;clear ho;rintro e w2 ⟨rfl,hx2⟩;cases ob
   all_goals
    go_wp2_with fail;go_ret;exact⟨rfl,hA.toExt.trans hx2⟩
 have e1:(m1==2)=false:=by simpa using h1
 have d1:=Hd (decide_eq_false h1);clear h1;by_cases h2:m2=2
 · subst h2;go_enter Tryz.func124,Tryz.ntmps124
   go_wp2_with ((with_reducible refine gbx ?_);refine wCy hA ?_;clear hF hA;intro b1 w1 hA hb1 hF)
   refine(ho _).mono ?_;clear ho;rintro e w2 ⟨rfl,hx2⟩;cases ob
   all_goals
    go_wp2_with fail;go_ret;exact⟨by rw[d1.out];rfl,hA.toExt.trans hx2⟩
 have e2:(m2==2)=false:=by simpa using h2
 have d2:=Hd (decide_eq_false h2);clear h2 ho;go_enter Tryz.func124,Tryz.ntmps124
 go_wp2_with ((with_reducible refine gbx ?_);refine wCy hA ?_;clear hF hA;intro b1 w1 hA hb1 hF)
 go_ret;exact⟨by rw[d1.out,d2.out];rfl,hA.toExt⟩
end Lock
end
section
namespace Lock
open Go.RowKit
open Go.Maps (Keyed)
open Path (bl Zag overB)
def nullE:Ent:=⟨.empty,0,.empty,0,0,0⟩
end Lock
end
section
namespace Lock
open Go.RowKit
open Go.Maps (Keyed)
open Path (bl Zag overB)
def unE:Value × Value→Ent
 |(_,.agg #[.string p,.int _ n,.string f,.int _ m,.int _ k,.int _ s])=>⟨p,n,f,m,k,s⟩
 |_=>nullE
theorem ZhH (l:List Ent):(ents l).map unE=l:=by
 unfold ents;rw[List.map_map];conv=>rhs;rw[←List.map_id l]
 rfl
theorem ents_perm {l r:List Ent} (h:(ents l).Perm (ents r)):l.Perm r:=by
 have:=h.map unE
 rwa [ZhH,ZhH] at this
theorem ents_snoc (ds:List Ent) (s:Ent):ents ds++[ent s]=ents (ds++[s]):=by simp[ents]
theorem ZoI {e:Ent} {l:List Ent} (h:ent e ∈ ents l):e ∈ l:=by
 have:=List.mem_map_of_mem (f:=unE) h
 rwa [ZhH] at this
def maxS (l:List Ent) (p:ByteArray):Int:=l.foldl (fun m e=>if overB (bl e.path) (bl p) then max m e.stamp else m) 0
theorem ZkO (l:List Ent) (e:Ent) (p:ByteArray):maxS (l++[e]) p=if overB (bl e.path) (bl p) then max (maxS l p) e.stamp else maxS l p:=by simp[maxS,List.foldl_append]
theorem ZgX {l r:List Ent} (h:l.Perm r) (p:ByteArray):maxS l p=maxS r p:=by
 unfold maxS;refine h.foldl_eq' (fun x _ y _ z=> ?_) 0;split<;>split<;>omega
theorem Zgd {l:List Ent} {p:ByteArray} {B:Int} (hB:0≤B) (h:∀e ∈ l,e.stamp≤B):0≤maxS l p∧maxS l p≤B:=by
 have:∀(l:List Ent) (m:Int),(∀e ∈ l,e.stamp≤B)→0≤m→m≤B→0≤l.foldl (fun m e=>if overB (bl e.path) (bl p) then max m e.stamp else m) m∧l.foldl (fun m e=>if overB (bl e.path) (bl p) then max m e.stamp else m) m≤B:=by
  intro l
  induction l with
  |nil=>intro m _ h1 h2;exact⟨h1,h2⟩
  |cons e l ih=>
   intro m hl h1 h2;have:=hl e (by simp);rw[List.foldl_cons];refine ih _ (fun x hx=>hl x (by simp[hx])) ?_ ?_<;>split<;>omega
 exact this l 0 h (Int.le_refl 0) hB
def Za7 (l:List Ent) (e:Ent):Bool:=l.all (fun x=> !(decide (x.stamp < e.stamp)&&wayB x e))
theorem Ze1 {l r:List Ent} (h:l.Perm r) (e:Ent):Za7 l e=Za7 r e:=h.all_eq
def StRel (b:Bk) (r:Nat) (p:ByteArray) (w:World) (k:Nat) (v:Value) (wr:World):Prop:=
 ∃ds:List Ent,At [BookP b] w [Part.iter Tryz.prog 163 r b.m (ents b.es) (ents ds),headC b.p b.m b.c b.first,ctrC b.c (ctrs b.cs)] wr∧(∀s ∈ ds,s ∈ b.es)∧v=.int .i64 (maxS ds p)∧ds.length + k=b.es.length
theorem ZgE {w:World} {b:Bk} (h:Sep [BookP b] w) (p:ByteArray) (hp:p.size≤1000000) (hok:∀x ∈ b.es,x.path.size≤1000000∧x.stamp≤1000000000):
 Calls Tryz.prog 121 #[.pointer (some ⟨b.p,0,none⟩),.string p] w fun e w'=>e=.returned (.int .i64 (maxS b.es p + 1))∧At [BookP b] w [BookP b] w':=by
 have hA:=begin0 h;obtain⟨hA,hF⟩:=fY hA;clear h;go_enter Tryz.func121,Tryz.ntmps121
 go_wp2_with (refine ZaQ rfl rfl rfl hA sR Tryz.underlying114 ?_;intro r w1 hB hr;replace hA:=hB;clear hF hB;obtain⟨hA,hF⟩:=fY hA)
 go_frame;go_loopg [5] b.es.length (StRel b r p w)
 case atStart=>exact⟨[],hA,nofun,by simp[maxS],by simp⟩
 case round=>
  obtain⟨ds,hA2,hds,rfl,hk⟩:=hrel;clear hF hA;have hA:=hA2;clear hA2;obtain⟨hA,hF⟩:=fY hA;go_step
  go_step
  refine Za9 rfl rfl rfl hA sR (fun hp=> ?_) (fun q w1 hq hd hB=> ?_)
  · have hc:=Hd (ZgX (ents_perm hp) p);have hb:=Zgd (p:=p) (B:=1000000000) (by omega) (fun e he=>(hok e (hds e he)).2);have hM:=At.ranged hA sR;clear hp;go_wp2_with fail;go_ret;exact⟨by rw[hc.out];rfl,close0 b hM sR sR sR⟩
  obtain⟨s,hs,rfl⟩:=List.mem_map.1 hq;have hI:ZaU Tryz.prog 163 w1 r b.m (ents b.es) (ents ds++[ent s]):=hB.get (A:=Part.iter _ _ r b.m (ents b.es) (ents ds++[ent s])) sR;have hen:=hI.entry;have hlen:(ds++[s]).length≤b.es.length:=by have:=hI.len;simpa [ents] using this
  have hsub:∀x ∈ ds++[s],x ∈ b.es:=fun x hx=>by
   rcases List.mem_append.1 hx with hx|hx
   · exact hds x hx
   have:x=s:=by simpa using hx
   rw[this];exact hs
  rw[ents_snoc] at hB;have hb:=Zgd (p:=p) (B:=1000000000) (by omega) (fun e he=>(hok e (hds e he)).2);obtain⟨hs1,hs2⟩:=hok s hs;clear hF hA;have hA:=hB;have hk':=Hd hk;have hsub':=Hd hsub;have hsn:=ZkO ds s p;have ho:=fun w=>Path.ZcW s.path p w (by omega) (by omega);simp only[List.length_append,List.length_cons,List.length_nil,Nat.zero_add] at hlen;clear hI hB hk hsub hds hq hd hs;obtain⟨hA,hF⟩:=fY hA;simp only[ent,Ent.key,Ent.val,keyV] at hen;generalize overB (bl s.path) (bl p)=ob at *
  generalize maxS ds p=mx at *
  have hsn':=Hd hsn;clear hsn
  go_wp2_with (first|((with_reducible refine gst ?_);refine wTy hA ?_;clear hF hA;intro w1 hA hF)|((with_reducible refine gal ?_);refine g5 hA ?_;clear hF hA;intro b1 w1 hA hb1 hF))
  refine(ho _).mono ?_;clear ho;rintro e w2 ⟨rfl,hx⟩;replace hA:=hA.ext hx;clear hF hx;obtain⟨hA,hF⟩:=fY hA;cases ob
  all_goals
   go_wp2_with fail;go_roundg (gk - 1);case measure=>have:=hk'.out;omega
   case rel=>exact⟨ds++[s],hA.only3 sR sR sR,hsub'.out,by rw[hsn'.out];rfl,by have:=hk'.out;simp;omega⟩
end Lock
end
section
namespace Lock
open Go.RowKit
open Go.Maps (Keyed)
open Path (bl Zag overB)
theorem ZjK {l:List Ent} {x e:Ent} (h:x ∈ l) (h1:x.stamp < e.stamp) (h2:wayB x e=true):Za7 l e=false:=by
 unfold Za7;rw[List.all_eq_false];exact⟨x,h,by simp[h1,h2]⟩
theorem Zia (l:List Ent) (x e:Ent):Za7 (l++[x]) e=(Za7 l e&& !(decide (x.stamp < e.stamp)&&wayB x e)):=by simp[Za7]
def ClRel (b:Bk) (r bE:Nat) (e:Ent) (w:World) (k:Nat) (wr:World):Prop:=
 ∃ds:List Ent,At [BookP b] w [Part.iter Tryz.prog 163 r b.m (ents b.es) (ents ds),headC b.p b.m b.c b.first,ctrC b.c (ctrs b.cs),Part.cells bE [.string e.path,.int .u64 e.num,.string e.foot,.int .i64 e.mode,.int .u64 e.n,.int .i64 e.stamp] 165] wr∧(∀s ∈ ds,s ∈ b.es)∧Za7 ds e=true∧ds.length + k=b.es.length
theorem Zhw {w:World} {b:Bk} (h:Sep [BookP b] w) (e:Ent) (he:e.path.size≤1000000) (hok:∀x ∈ b.es,x.path.size≤1000000):
 Calls Tryz.prog 103 #[.pointer (some ⟨b.p,0,none⟩),.agg #[.string e.path,.int .u64 e.num,.string e.foot,.int .i64 e.mode,.int .u64 e.n,.int .i64 e.stamp]] w fun o w'=>o=.returned (.bool (Za7 b.es e))∧At [BookP b] w [BookP b] w':=by
 have hA:=begin0 h;obtain⟨hA,hF⟩:=fY hA;clear h;go_enter Tryz.func103,Tryz.ntmps103
 go_wp2_with (first|((with_reducible refine gbx ?_);refine wCy (E:=165) hA ?_;clear hF hA;intro bE w1 hA hbE hF)|(refine ZaQ rfl rfl rfl hA sR Tryz.underlying114 ?_;intro r w1 hB hr;replace hA:=hB;clear hF hB;obtain⟨hA,hF⟩:=fY hA))
 go_frame;go_loopg [] b.es.length (ClRel b r bE e w)
 case atStart=>exact⟨[],hA.pick pZ,nofun,rfl,by simp⟩
 case round=>
  obtain⟨ds,hA2,hds,hcl,hk⟩:=hrel;clear hF hA;have hA:=hA2;clear hA2;obtain⟨hA,hF⟩:=fY hA;go_step
  go_step
  refine Za9 rfl rfl rfl hA sR (fun hp=> ?_) (fun q w1 hq hd hB=> ?_)
  · have hc:=Hd ((Ze1 (ents_perm hp) e).trans hcl);have hM:=At.ranged hA sR;clear hp hcl;go_wp2_with fail;go_ret;exact⟨by rw[hc.out];rfl,close0 b hM sR sR sR⟩
  obtain⟨s,hs,rfl⟩:=List.mem_map.1 hq;have hI:ZaU Tryz.prog 163 w1 r b.m (ents b.es) (ents ds++[ent s]):=hB.get (A:=Part.iter _ _ r b.m (ents b.es) (ents ds++[ent s])) sR;have hen:=hI.entry;have hlen:(ds++[s]).length≤b.es.length:=by have:=hI.len;simpa [ents] using this
  have hsub:∀x ∈ ds++[s],x ∈ b.es:=fun x hx=>by
   rcases List.mem_append.1 hx with hx|hx
   · exact hds x hx
   have:x=s:=by simpa using hx
   rw[this];exact hs
  rw[ents_snoc] at hB;have hs1:=hok s hs;clear hF hA;have hA:=hB;have hk':=Hd hk;have hsub':=Hd hsub;have hsn:=Hd (Zia ds s e);have hcl':=Hd hcl;have hbad:=Hd (fun h1 h2=>ZjK (e:=e) hs h1 h2);have ho:=fun w=>ZnU s e w hs1 he;simp only[List.length_append,List.length_cons,List.length_nil,Nat.zero_add] at hlen;clear hI hB hk hsub hds hq hd hs hcl;obtain⟨hA,hF⟩:=fY hA;simp only[ent,Ent.key,Ent.val,keyV] at hen ho;by_cases hlt:s.stamp < e.stamp
  · have hlt':=Hd hlt
    obtain⟨wb,hwb⟩:∃wb,wayB s e=wb:=⟨_,rfl⟩
    rw[hwb] at ho;have hwb':=Hd hwb;clear hwb
    go_wp2_with (first|((with_reducible refine gst ?_);refine wTy hA ?_;clear hF hA;intro w1 hA hF)|((with_reducible refine gal ?_);refine g5 hA ?_;clear hF hA;intro b1 w1 hA hb1 hF))
    refine(ho _).mono ?_;clear ho;rintro o w2 ⟨rfl,hx⟩;replace hA:=hA.ext hx;clear hF hx;obtain⟨hA,hF⟩:=fY hA;cases wb
    · go_wp2_with fail;go_roundg (gk - 1);case measure=>have:=hk'.out;omega
      case rel=>exact⟨ds++[s],hA.pick pR,hsub'.out,by rw[hsn.out,hcl'.out,hwb'.out];simp,by have:=hk'.out;simp;omega⟩
    have hM:=At.ranged hA sR;have hc:=Hd (hbad.out hlt'.out hwb'.out);go_wp2_with fail;go_ret;exact⟨by rw[hc.out];rfl,close0 b hM sR sR sR⟩
  have hlt':=Hd hlt
  go_wp2_with (first|((with_reducible refine gst ?_);refine wTy hA ?_;clear hF hA;intro w1 hA hF)|((with_reducible refine gal ?_);refine g5 hA ?_;clear hF hA;intro b1 w1 hA hb1 hF))
  go_roundg (gk - 1);case measure=>have:=hk'.out;omega
  case rel=>exact⟨ds++[s],hA.pick pR,hsub'.out,by rw[hsn.out,hcl'.out,decide_eq_false (show ¬s.stamp < e.stamp by have:=hlt'.out;omega)];simp,by have:=hk'.out;simp;omega⟩
end Lock
end
section
namespace Lock
open Go.RowKit
open Go.Maps (Keyed)
open Path (bl Zag overB)
theorem same_ba (f g:ByteArray):(f.toList==g.toList)=decide (f=g):=by
 rw[Path.eqB];by_cases h:f=g
 · subst h;simp
 rw[decide_eq_false h,decide_eq_false];intro e;apply h;unfold bl at e;have:f.data=g.data:=by rw[←Array.toList_inj];exact e
 cases f;cases g;simp_all
theorem sameS (a c:Int) (f g:ByteArray) (w:World):(Op.equalIn 10000 35 (.agg #[.int .u64 a,.string f]) (.agg #[.int .u64 c,.string g])).run Tryz.prog w=.ok (decide (a=c∧f=g)) w:=by
 rw[run_equalIn_agg _ 9999 _ _ _ (by kernel_rfl) (by kernel_rfl)];simp[go_sem,Op.eqFields,same_ba];by_cases h1:a=c<;>by_cases h2:f=g<;>simp[h1,h2]
@[local go_sem] theorem ZnF (op:BinOp) (x y:Operand) (a c:Int) (f g:ByteArray) (w:World):(eqGuard op 35 x y (.agg #[.int .u64 a,.string f]) (.agg #[.int .u64 c,.string g])).run Tryz.prog w=.ok () w:=run_eqGuard_agg _ _ _ _ _ _ _ (by kernel_rfl)
@[local go_sem] theorem eqlS (a c:Int) (f g:ByteArray) (w:World):(binOp .eql 35 (.agg #[.int .u64 a,.string f]) (.agg #[.int .u64 c,.string g])).run Tryz.prog w=.ok (.bool (decide (a=c∧f=g))) w:=by
 rw[run_eql_struct,sameS];rfl
theorem sameE (x y:Ent) (w:World):(Op.equalIn 10000 165 x.val y.val).run Tryz.prog w=.ok (decide (x=y)) w:=by
 unfold Ent.val;rw[run_equalIn_agg _ 9999 _ _ _ (by kernel_rfl) (by kernel_rfl)];obtain⟨p1,n1,f1,m1,k1,s1⟩:=x;obtain⟨p2,n2,f2,m2,k2,s2⟩:=y;simp[go_sem,Op.eqFields,same_ba];by_cases h1:p1=p2<;>by_cases h2:n1=n2<;>by_cases h3:f1=f2<;>by_cases h4:m1=m2<;>by_cases h5:k1=k2<;>by_cases h6:s1=s2<;>simp[h1,h2,h3,h4,h5,h6]
@[local go_sem] theorem guardE (op:BinOp) (x y:Operand) (c1 c2 c3 c4 c5 c6 d1 d2 d3 d4 d5 d6:Value) (w:World):(eqGuard op 165 x y (.agg #[c1,c2,c3,c4,c5,c6]) (.agg #[d1,d2,d3,d4,d5,d6])).run Tryz.prog w=.ok () w:=run_eqGuard_agg _ _ _ _ _ _ _ (by kernel_rfl)
theorem eqlE (x y:Ent) (w:World):(binOp .eql 165 x.val y.val).run Tryz.prog w=.ok (.bool (decide (x=y))) w:=by
 have:=sameE x y w
 unfold Ent.val at *
 rw[run_eql_struct,this];rfl
end Lock
end
section
namespace Lock
open Go.RowKit
open Go.Maps (Keyed)
open Path (bl Zag overB)
attribute [-go_sem] run_eql_struct run_neq_struct run_eqGuard_agg
attribute [local go_sem] ZnF eqlS
abbrev boxS (b:Nat) (n:Int) (f:ByteArray):Part:=.cells b [.int .u64 n,.string f] 35
def Ent.of (e:Ent) (n:Int) (f:ByteArray):Bool:=decide (e.num=n∧e.foot=f)
def heldN (l:List Ent) (n:Int) (f:ByteArray):Nat:=(l.filter (·.of n f)).length
theorem ZjA (l:List Ent) (e:Ent) (n:Int) (f:ByteArray):heldN (l++[e]) n f=heldN l n f + if e.of n f then 1 else 0:=by
 unfold heldN;rw[List.filter_append];cases h:e.of n f<;>simp[List.filter_cons,h]
theorem ZjB {l r:List Ent} (h:l.Perm r) (n:Int) (f:ByteArray):heldN l n f=heldN r n f:=(h.filter _).length_eq
theorem ZiS (l:List Ent) (n:Int) (f:ByteArray):heldN l n f≤l.length:=List.length_filter_le _ _
theorem Zk6 {w:World} {bS:Nat} {n k:Int} {f p g:ByteArray} (h:Sep [boxS bS n f] w) {c:Bool} (hc:decide (k=n∧g=f)=c):
 Calls Tryz.prog 135 #[.agg #[.string p,.int .u64 k,.string g],.pointer (some ⟨bS,0,none⟩)] w fun e w'=>e=.returned (.bool c)∧At [boxS bS n f] w [boxS bS n f] w':=by
 have hA:=At.start h;obtain⟨hA,hF⟩:=fY hA;clear h;have hc':=Hd hc;clear hc;go_enter Tryz.func135,Tryz.ntmps135
 go_wp2_with ((with_reducible refine gbx ?_);refine wCy hA ?_;clear hF hA;intro b1 w1 hA hb1 hF)
 go_ret;exact⟨by rw[←hc'.out,Bool.decide_and];rfl,hA.only1 sR⟩
def CtRel (L0:List Part) (m r bS:Nat) (n:Int) (f:ByteArray) (es:List Ent) (w:World) (k:Nat) (v:Value) (wr:World):Prop:=
 ∃ds:List Ent,At L0 w [Part.iter Tryz.prog 163 r m (ents es) (ents ds),boxS bS n f] wr∧(∀s ∈ ds,s ∈ es)∧v=.int .i64 (heldN ds n f)∧ds.length + k=es.length
theorem Zlu {w:World} {m bS:Nat} {n:Int} {f:ByteArray} {es:List Ent} (h:Sep [mapC m (ents es),boxS bS n f] w) (hl:es.length≤1000000000):
 Calls Tryz.prog 134 #[.map (some m),.func (.func 135) #[] #[.pointer (some ⟨bS,0,none⟩)]] w fun e w'=>e=.returned (.int .i64 (heldN es n f))∧At [mapC m (ents es),boxS bS n f] w [mapC m (ents es),boxS bS n f] w':=by
 have hA:=At.start h;obtain⟨hA,hF⟩:=fY hA;clear h;go_enter Tryz.func134,Tryz.ntmps134
 go_wp2_with (refine ZaQ rfl rfl rfl hA sR Tryz.underlying114 ?_;intro r w1 hB hr;replace hA:=hB;clear hF hB;obtain⟨hA,hF⟩:=fY hA)
 (try go_frame);go_loopg [5] es.length (CtRel [mapC m (ents es),boxS bS n f] m r bS n f es w)
 case atStart=>exact⟨[],hA,nofun,by simp[heldN],by simp⟩
 case round=>
  obtain⟨ds,hA2,hds,rfl,hk⟩:=hrel;clear hF hA;have hA:=hA2;clear hA2;obtain⟨hA,hF⟩:=fY hA;go_step
  go_step
  refine Za9 rfl rfl rfl hA sR (fun hp=> ?_) (fun q w1 hq hd hB=> ?_)
  · have hc:=Hd (ZjB (ents_perm hp) n f);have hM:=At.ranged hA sR;clear hp;go_wp2_with fail;go_ret;exact⟨by rw[hc.out];rfl,hM.only2 sR sR⟩
  obtain⟨s,hs,rfl⟩:=List.mem_map.1 hq;have hI:ZaU Tryz.prog 163 w1 r m (ents es) (ents ds++[ent s]):=hB.get (A:=Part.iter _ _ r m (ents es) (ents ds++[ent s])) sR;have hen:=hI.entry;have hlen:(ds++[s]).length≤es.length:=by have:=hI.len;simpa [ents] using this
  have hsub:∀x ∈ ds++[s],x ∈ es:=fun x hx=>by
   rcases List.mem_append.1 hx with hx|hx
   · exact hds x hx
   have:x=s:=by simpa using hx
   rw[this];exact hs
  rw[ents_snoc] at hB;clear hF hA;have hA:=hB;have hk':=Hd hk;have hsub':=Hd hsub;have hsn:=Hd (ZjA ds s n f);have hcl:=ZiS ds n f;simp only[List.length_append,List.length_cons,List.length_nil,Nat.zero_add] at hlen;clear hI hB hk hsub hds hq hd hs;obtain⟨hA,hF⟩:=fY hA;simp only[ent,Ent.key,Ent.val,keyV] at hen
  obtain⟨c,hc⟩:∃c,s.of n f=c:=⟨_,rfl⟩
  have hc':=Hd hc
  go_wp2_with (first|((with_reducible refine gst ?_);refine wTy hA ?_;clear hF hA;intro w1 hA hF)|((with_reducible refine gal ?_);refine wGy 163 [.string .empty,.int .u64 0,.string .empty] hA ?_;clear hF hA;intro b1 w1 hA hb1 hF))
  refine(Zk6 (hA.sep1 (A:=boxS bS n f) sR) hc).mono ?_;clear hc;rintro e w2 ⟨rfl,hT⟩;replace hA:=hA.call1 (A:=boxS bS n f) sR hT;clear hF hT;obtain⟨hA,hF⟩:=fY hA;cases c
  all_goals
   go_wp2_with fail;go_roundg (gk - 1);case measure=>have:=hk'.out;omega
   case rel=>exact⟨ds++[s],hA.only2 sR sR,hsub'.out,by rw[hsn.out,hc'.out];simp,by have:=hk'.out;simp;omega⟩
theorem ZmM {w:World} {b:Bk} (h:Sep [BookP b] w) (n:Int) (f:ByteArray) (hl:b.es.length≤1000000000):
 Calls Tryz.prog 123 #[.pointer (some ⟨b.p,0,none⟩),.agg #[.int .u64 n,.string f]] w fun e w'=>e=.returned (.int .i64 (heldN b.es n f))∧At [BookP b] w [BookP b] w':=by
 have hA:=begin0 h;obtain⟨hA,hF⟩:=fY hA;clear h;go_enter Tryz.func123,Tryz.ntmps123
 go_wp2_with ((with_reducible refine gbx ?_);refine wCy (E:=35) hA ?_;clear hF hA;intro bS w1 hA hbS hF)
 refine(Zlu (hA.sep2 (A:=mapC b.m (ents b.es)) (B:=boxS bS n f) sR sR) hl).mono ?_;rintro e w2 ⟨rfl,hT⟩;replace hA:=hA.call2 (A:=mapC b.m (ents b.es)) (B:=boxS bS n f) sR sR hT;clear hF hT;obtain⟨hA,hF⟩:=fY hA;go_wp2_with fail;go_ret;exact⟨rfl,close0 b hA sR sR sR⟩
end Lock
end
section
namespace Lock
open Path (bl Zag overB)
def putC:List (ByteArray × Int)→ByteArray→Int→List (ByteArray × Int)
 |[],p,n=>[(p,n)]
 |c::cs,p,n=>if c.1=p then(p,n)::cs else c::putC cs p n
theorem ZeH:∀{cs:List (ByteArray × Int)} {p:ByteArray} {n:Int},ctr cs p=none→putC cs p n=cs++[(p,n)]
 |[],p,n,_=>rfl
 |c::cs,p,n,h=>by
  unfold ctr at h;by_cases hc:c.1=p
  · simp[List.find?_cons,hc] at h
  have h2:ctr cs p=none:=by unfold ctr;simpa [List.find?_cons,hc] using h
  simp[putC,hc,ZeH h2]
theorem Zga {l2:List (ByteArray × Int)} {p:ByteArray} {u n:Int}:∀{l1:List (ByteArray × Int)},(∀c ∈ l1,c.1≠p)→putC (l1++(p,u)::l2) p n=l1++(p,n)::l2
 |[],_=>by simp[putC]
 |c::l1,h=>by
  have:=Zga (l1:=l1) (n:=n) (u:=u) (l2:=l2) (fun x hx=>h x (by simp[hx]));simp[putC,h c (by simp),this]
theorem ZeY {cs:List (ByteArray × Int)} {p:ByteArray} {u:Int} (h:ctr cs p=some u):∃l1 l2,cs=l1++(p,u)::l2∧∀c ∈ l1,c.1≠p:=by
 unfold ctr at h;simp only[Option.map_eq_some_iff] at h;obtain⟨q,h1,rfl⟩:=h;obtain⟨h1,l1,l2,h2,h3⟩:=List.find?_eq_some_iff_append.1 h1;have h4:q.1=p:=by simpa using h1
 subst h4;exact⟨l1,l2,h2,fun c hc=>by simpa using h3 c hc⟩
theorem Zlt (cs:List (ByteArray × Int)) (p q:ByteArray) (n:Int):ctr (putC cs p n) q=if p=q then some n else ctr cs q:=by
 induction cs with
 |nil=>by_cases h:p=q<;>simp[putC,ctr,h]
 |cons c cs ih=>
  unfold ctr at ih ⊢;by_cases hc:c.1=p
  · by_cases h:p=q
    · simp[putC,hc,List.find?_cons,h]
    have h2:¬c.1=q:=fun e=>h (hc.symm.trans e);simp[putC,hc,List.find?_cons,h]
  by_cases h2:c.1=q
  · have h:¬p=q:=fun e=>hc (h2.trans e.symm);have hq:¬q=p:=fun e=>h e.symm;simp[putC,hc,List.find?_cons,h,hq,h2]
  simp[putC,hc,List.find?_cons,h2,ih]
theorem Zmm (cs:List (ByteArray × Int)) (p:ByteArray) (n:Int):(putC cs p n).length≤cs.length + 1:=by
 induction cs with
 |nil=>simp[putC]
 |cons c cs ih=>unfold putC;split<;>simp<;>omega
theorem Zd8 {cs:List (ByteArray × Int)} {p:ByteArray} {n:Int} {c:ByteArray × Int} (h:c ∈ putC cs p n):c=(p,n)∨c ∈ cs:=by
 induction cs with
 |nil=>simp[putC] at h;exact .inl h
 |cons d cs ih=>
  unfold putC at h;split at h
  · rcases List.mem_cons.1 h with h|h
    · exact .inl h
    exact .inr (by simp[h])
  rcases List.mem_cons.1 h with h|h
  · exact .inr (by simp[h])
  rcases ih h with q|q
  · exact .inl q
  exact .inr (by simp[q])
structure S3 where
 first:Int
 es:List Ent
 cs:List (ByteArray × Int)
def lastN:Int:=9223372036854775807
def S3.may (s:S3) (p:ByteArray) (n:Int) (f:ByteArray) (mode:Int):Int:=
 if Zcl p mode=false then 10 else if(find s.es p n f).isSome=true then 15 else if 64≤heldN s.es n f then 14 else if lastN≤Zat s.first s.cs p then 53 else 0
def S3.newE (s:S3) (p:ByteArray) (n:Int) (f:ByteArray) (mode:Int):Ent:=⟨p,n,f,mode,Zat s.first s.cs p + 1,maxS s.es p + 1⟩
def S3.added (s:S3) (p:ByteArray) (n:Int) (f:ByteArray) (mode:Int):S3:=⟨s.first,s.es++[s.newE p n f mode],putC s.cs p (Zat s.first s.cs p + 1)⟩
def S3.add (s:S3) (p:ByteArray) (n:Int) (f:ByteArray) (mode:Int):S3:=if s.may p n f mode=0 then s.added p n f mode else s
def S3.addE (s:S3) (p:ByteArray) (n:Int) (f:ByteArray) (mode:Int):Ent:=if s.may p n f mode=0 then s.newE p n f mode else nullE
def S3.remove (s:S3) (p:ByteArray) (n:Int) (f:ByteArray):S3:=⟨s.first,s.es.filter (fun e=> !e.is p n f),s.cs⟩
def S3.dropAll (s:S3) (n:Int) (f:ByteArray):S3:=⟨s.first,s.es.filter (fun e=> !e.of n f),s.cs⟩
structure Op where
 kind:Int
 mode:Int
 path:ByteArray
 num:Int
 foot:ByteArray
def S3.step (s:S3) (o:Op):S3:=
 if o.kind=1 then s.add o.path o.num o.foot o.mode else if o.kind=2 then s.remove o.path o.num o.foot else if o.kind=3 then s.dropAll o.num o.foot else s
structure Op.ok (o:Op):Prop where
 path:o.path.size≤100
 num0:0≤o.num
 num1:o.num < big64
 foot:o.foot.size≤maxLen
structure Inv (s:S3) (k:Nat):Prop where
 len:s.es.length≤k
 clen:s.cs.length≤k
 keys:s.es.Pairwise (fun a b=>¬(a.path=b.path∧a.num=b.num∧a.foot=b.foot))
 ckeys:s.cs.Pairwise (fun a b=>a.1≠b.1)
 right:∀e ∈ s.es,Zag (bl e.path)=true
 mode:∀e ∈ s.es,e.mode=1∨e.mode=2
 path:∀e ∈ s.es,e.path.size≤100
 num0:∀e ∈ s.es,0≤e.num
 num1:∀e ∈ s.es,e.num < big64
 foot:∀e ∈ s.es,e.foot.size≤maxLen
 stamp0:∀e ∈ s.es,1≤e.stamp
 stamp1:∀e ∈ s.es,e.stamp≤k
 n0:∀e ∈ s.es,0≤e.n
 n1:∀e ∈ s.es,e.n≤lastN
 order:s.es.Pairwise (fun a b=>overB (bl a.path) (bl b.path)=true→a.stamp < b.stamp)
 nums:s.es.Pairwise (fun a b=>a.path=b.path→a.n < b.n)
 ctrs:∀e ∈ s.es,e.n≤Zat s.first s.cs e.path
 first0:0≤s.first
 first1:s.first < big64
 cpath:∀c ∈ s.cs,c.1.size≤100
 c0:∀c ∈ s.cs,s.first < c.2
 c1:∀c ∈ s.cs,c.2≤lastN
 cright:∀c ∈ s.cs,Zag (bl c.1)=true
theorem Zor {first:Int} (h0:0≤first) (h1:first < big64):Inv ⟨first,[],[]⟩ 0 where
 len:=by simp
 clen:=by simp
 keys:=.nil
 ckeys:=.nil
 right:=nofun
 mode:=nofun
 path:=nofun
 num0:=nofun
 num1:=nofun
 foot:=nofun
 stamp0:=nofun
 stamp1:=nofun
 n0:=nofun
 n1:=nofun
 order:=.nil
 nums:=.nil
 ctrs:=nofun
 first0:=h0
 first1:=h1
 cpath:=nofun
 c0:=nofun
 c1:=nofun
 cright:=nofun
theorem Inv.mono {s:S3} {k j:Nat} (h:Inv s k) (hj:k≤j):Inv s j:=
 {h with len:=by have:=h.len;omega,clen:=by have:=h.clen;omega,stamp1:=fun e he=>by have:=h.stamp1 e he;omega}
theorem Inv.sub {s:S3} {k:Nat} (h:Inv s k) {l:List Ent} (hl:l.Sublist s.es):Inv ⟨s.first,l,s.cs⟩ k:=
 {len:=Nat.le_trans hl.length_le h.len,clen:=h.clen,keys:=h.keys.sublist hl,ckeys:=h.ckeys,right:=fun e he=>h.right e (hl.subset he),mode:=fun e he=>h.mode e (hl.subset he),
  path:=fun e he=>h.path e (hl.subset he),num0:=fun e he=>h.num0 e (hl.subset he),num1:=fun e he=>h.num1 e (hl.subset he),foot:=fun e he=>h.foot e (hl.subset he),
  stamp0:=fun e he=>h.stamp0 e (hl.subset he),stamp1:=fun e he=>h.stamp1 e (hl.subset he),n0:=fun e he=>h.n0 e (hl.subset he),n1:=fun e he=>h.n1 e (hl.subset he),
  order:=h.order.sublist hl,nums:=h.nums.sublist hl,ctrs:=fun e he=>h.ctrs e (hl.subset he),first0:=h.first0,first1:=h.first1,cpath:=h.cpath,c0:=h.c0,c1:=h.c1,cright:=h.cright}
theorem Zdy {es:List Ent} {p:ByteArray} {n:Int} {f:ByteArray}:find es p n f=none↔∀e ∈ es,¬(e.path=p∧e.num=n∧e.foot=f):=by
 unfold find;rw[List.find?_eq_none];simp[Ent.is]
theorem ZkQ {l:List Ent} {p:ByteArray} {e:Ent} (he:e ∈ l) (h:overB (bl e.path) (bl p)=true):e.stamp≤maxS l p:=by
 have key:∀(l:List Ent) (m:Int),m≤l.foldl (fun m e=>if overB (bl e.path) (bl p) then max m e.stamp else m) m:=by
  intro l
  induction l with
  |nil=>intro m;exact Int.le_refl _
  |cons x l ih=>
   intro m;rw[List.foldl_cons];refine Int.le_trans ?_ (ih _);split<;>omega
 obtain⟨l1,l2,rfl⟩:=List.append_of_mem he;unfold maxS;rw[List.foldl_append,List.foldl_cons,if_pos h];exact Int.le_trans (by omega) (key l2 _)
theorem ZgW {s:S3} {p:ByteArray} {n:Int} {f:ByteArray} {mode:Int} (h:s.may p n f mode=0):Zcl p mode=true∧find s.es p n f=none∧heldN s.es n f < 64∧Zat s.first s.cs p < lastN:=by
 unfold S3.may at h;split at h
 · omega
 rename_i h1;split at h
 · omega
 rename_i h2;split at h
 · omega
 rename_i h3;split at h
 · omega
 rename_i h4;exact⟨by simpa using h1,by simpa using h2,by omega,by omega⟩
theorem ZgN {p:ByteArray} {mode:Int} (h:Zcl p mode=true):Zag (bl p)=true∧(mode=1∨mode=2):=by
 unfold Zcl at h;simpa using h
theorem ZfL {s:S3} {k:Nat} (h:Inv s k) (p:ByteArray):s.first≤Zat s.first s.cs p:=by
 unfold Zat
 cases hc:ctr s.cs p with
 |none=>simp
 |some u=>
  obtain⟨l1,l2,e,_⟩:=ZeY hc;have:=h.c0 (p,u) (by rw[e];simp);simp at this ⊢;omega
theorem Zk1 {s:S3} {k:Nat} (h:Inv s k) {p:ByteArray} {n:Int} {f:ByteArray} {mode:Int} (hm:s.may p n f mode=0) (hp:p.size≤100) (h0:0≤n) (h1:n < big64) (hf:f.size≤maxLen):Inv (s.added p n f mode) (k + 1):=by
 obtain⟨hr,hn,hh,hc⟩:=ZgW hm;obtain⟨hr,hmo⟩:=ZgN hr;rw[Zdy] at hn;have hms:=Zgd (l:=s.es) (p:=p) (B:=k) (by omega) h.stamp1;have hcg:=ZfL h p;have hf0:=h.first0
 have mem:∀{P:Ent→Prop},(∀e ∈ s.es,P e)→P (s.newE p n f mode)→∀e ∈ s.es++[s.newE p n f mode],P e:=fun h1 h2 e he=>by
  rcases List.mem_append.1 he with he|he
  · exact h1 e he
  rw[List.mem_singleton.1 he];exact h2
 have pw:∀{R:Ent→Ent→Prop},s.es.Pairwise R→(∀e ∈ s.es,R e (s.newE p n f mode))→(s.es++[s.newE p n f mode]).Pairwise R:=fun h1 h2=>
  List.pairwise_append.2 ⟨h1,List.pairwise_singleton _ _,fun a ha b hb=>by rw[List.mem_singleton.1 hb];exact h2 a ha⟩
 have cc:∀q,Zat s.first (putC s.cs p (Zat s.first s.cs p + 1)) q=if p=q then Zat s.first s.cs p + 1 else Zat s.first s.cs q:=fun q=>by
  unfold Zat;rw[Zlt];split<;>simp
 have ck:(putC s.cs p (Zat s.first s.cs p + 1)).Pairwise (fun a b=>a.1≠b.1):=by
  cases hq:ctr s.cs p with
  |none=>
   rw[ZeH hq];refine List.pairwise_append.2 ⟨h.ckeys,List.pairwise_singleton _ _,fun a ha b hb=> ?_⟩;rw[List.mem_singleton.1 hb];intro e;have:=Zgo hq (ctrE a) (List.mem_map.2 ⟨a,ha,rfl⟩);exact this (by simp[ctrE,e])
  |some u=>
   obtain⟨l1,l2,e,hl⟩:=ZeY hq;have hk:=h.ckeys;rw[e] at hk ⊢;rw[Zga hl];rw[List.pairwise_append] at hk ⊢;refine⟨hk.1,?_,fun a ha b hb=> ?_⟩
   · have:=List.pairwise_cons.1 hk.2.1
     exact List.pairwise_cons.2 ⟨this.1,this.2⟩
   rcases List.mem_cons.1 hb with rfl|hb
   · exact hl a ha
   exact hk.2.2 a ha b (by simp[hb])
 constructor
 case len=>simp[S3.added];exact h.len
 case clen=>exact Nat.le_trans (Zmm _ _ _) (by have:=h.clen;omega)
 case keys=>exact pw h.keys (fun e he=>hn e he)
 case ckeys=>exact ck
 case right=>exact mem h.right hr
 case mode=>exact mem h.mode hmo
 case path=>exact mem h.path hp
 case num0=>exact mem h.num0 h0
 case num1=>exact mem h.num1 h1
 case foot=>exact mem h.foot hf
 case stamp0=>exact mem h.stamp0 (by simp only[S3.newE];omega)
 case stamp1=>exact mem (fun e he=>by have:=h.stamp1 e he;omega) (by simp only[S3.newE];omega)
 case n0=>exact mem h.n0 (by simp only[S3.newE];omega)
 case n1=>exact mem h.n1 (by simp only[S3.newE];omega)
 case order=>exact pw h.order (fun e he ho=>by have:e.stamp≤maxS s.es p:=ZkQ he ho;simp only[S3.newE];omega)
 case nums=>exact pw h.nums (fun e he ho=>by have:=h.ctrs e he;simp only[S3.newE] at ho ⊢;rw[ho] at this;omega)
 case ctrs=>
  refine mem (fun e he=> ?_) ?_
  · have:=h.ctrs e he
    simp only[S3.added];rw[cc];split
    · rename_i hq;subst hq;omega
    exact this
  simp only[S3.added,S3.newE];rw[cc,if_pos rfl];exact Int.le_refl _
 case first0=>exact h.first0
 case first1=>exact h.first1
 case cpath=>
  intro c hc;rcases Zd8 hc with rfl|hc
  · exact hp
  exact h.cpath c hc
 case c0=>
  intro c hc;rcases Zd8 hc with rfl|hc
  · simp only[S3.added];omega
  exact h.c0 c hc
 case c1=>
  intro c hc;rcases Zd8 hc with rfl|hc
  · simp only;omega
  exact h.c1 c hc
 case cright=>
  intro c hc;rcases Zd8 hc with rfl|hc
  · exact hr
  exact h.cright c hc
theorem Zgg {s:S3} {k:Nat} (h:Inv s k) {o:Op} (ho:o.ok):Inv (s.step o) (k + 1):=by
 unfold S3.step;split
 · unfold S3.add;split
   · rename_i hm;exact Zk1 h hm ho.path ho.num0 ho.num1 ho.foot
   exact h.mono (by omega)
 split
 · exact(h.sub List.filter_sublist).mono (by omega)
 split
 · exact(h.sub List.filter_sublist).mono (by omega)
 exact h.mono (by omega)
theorem ZlU {a b:Ent} (h:wayB a b=true):overB (bl a.path) (bl b.path)=true:=by
 unfold wayB at h;simp at h
 exact h.2
def Za3 (l:List Ent) (p:ByteArray) (mode:Int):Bool:=l.all (fun x=> !wayB x ⟨p,0,.empty,mode,0,0⟩)&&Zcl p mode
theorem Zh9 (l:List Ent) (p:ByteArray) (mode:Int):Za7 l ⟨p,0,.empty,mode,0,maxS l p + 1⟩=l.all (fun x=> !wayB x ⟨p,0,.empty,mode,0,0⟩):=by
 unfold Za7;rw[Bool.eq_iff_iff,List.all_eq_true,List.all_eq_true];refine forall_congr' fun x=>forall_congr' fun hx=> ?_;have e:wayB x ⟨p,0,.empty,mode,0,maxS l p + 1⟩=wayB x ⟨p,0,.empty,mode,0,0⟩:=rfl;rw[e]
 cases hw:wayB x ⟨p,0,.empty,mode,0,0⟩ with
 |false=>simp
 |true=>
  have h:x.stamp≤maxS l p:=ZkQ hx (ZlU hw);have:x.stamp < maxS l p + 1:=by omega
  simp[this]
end Lock
end
section
namespace Lock
open Go.RowKit
open Go.Maps (Keyed)
open Path (bl Zag overB)
def Bk.st (b:Bk):S3:=⟨b.first,b.es,b.cs⟩
theorem through1 {L0 L F:List Part} {A:Part} {w0 w:World} {P:Program} {f:FuncId} {args:Array Value} {v:Value} (h:At L0 w0 L w) (s:Sel A L F) (hc:Sep [A] w→Calls P f args w fun e w'=>e=.returned v∧At [A] w [A] w'):
 Calls P f args w fun e w'=>e=.returned v∧At L0 w0 L w':=
 (hc (h.sep1 s)).mono fun e w' ⟨he,t⟩=>⟨he,((h.call1 s t).perm s.perm.symm)⟩
theorem through0 {L0 L:List Part} {w0 w:World} {P:Program} {f:FuncId} {args:Array Value} {v:Value} (h:At L0 w0 L w) (hc:Calls P f args w fun e w'=>e=.returned v∧Ext w w'):
 Calls P f args w fun e w'=>e=.returned v∧At L0 w0 L w':=hc.mono fun e w' ⟨he,t⟩=>⟨he,h.ext t⟩
section
variable {w:World} {b:Bk} {p f:ByteArray} {n mode:Int}
theorem Zmv {has:Bool} (hh:(find b.es p n f).isSome=has):b.st.may p n f mode=if Zcl p mode=false then 10 else if has=true then 15 else if 64≤heldN b.es n f then 14 else if lastN≤Zat b.first b.cs p then 53 else 0:=by
 subst hh;rfl
theorem may_any (h:Sep [BookP b] w) (hp:p.size≤1000000) (h0:0≤n) (h1:n < big64) (hf:f.size≤maxLen) (hl:b.es.length≤1000000000) (hc:∀q,0≤Zat b.first b.cs q):
 Calls Tryz.prog 102 #[.pointer (some ⟨b.p,0,none⟩),.string p,.agg #[.int .u64 n,.string f],.int .i64 mode] w fun e w'=>e=.returned (.int .i64 (b.st.may p n f mode))∧At [BookP b] w [BookP b] w':=by
 obtain⟨kl,hk⟩:=keyP (p:=p) (by unfold maxLen;omega) h0 h1 hf;have hA:=begin0 h;have hF:=hA.facts;have hr:=right_any p mode;have hcode:=fun has=>Zmv (b:=b) (p:=p) (f:=f) (n:=n) (mode:=mode) (has:=has)
 obtain⟨r,hrr⟩:∃r,Zcl p mode=r:=⟨_,rfl⟩
 rw[hrr] at hcode hr;unfold keyV at *
 cases hfi:find b.es p n f with
 |none=>
  have hmiss:=Hd (find_none hfi);have hcode':=Hd (hcode false (by rw[hfi];rfl));clear h hfi hcode hrr;obtain⟨hA,hF⟩:=fY hA;go_enter Tryz.func102,Tryz.ntmps102
  go_wp2_with ((with_reducible refine gbx ?_);refine wCy (E:=35) hA ?_;clear hF hA;intro bS w1 hA hbS hF)
  (refine Zau (a1:= ?a1_q1) (v:= ?v_q1) 11 9 165 _ (.agg #[.string .empty,.int .u64 0,.string .empty,.int .i64 0,.int .u64 0,.int .i64 0]) [.string .empty,.int .u64 0,.string .empty,.int .i64 0,.int .u64 0,.int .i64 0] ([.string .empty,.int .u64 0,.string .empty,.int .i64 0,.int .u64 0,.int .i64 0]) (by kernel_rfl) (by kernel_rfl) rfl rfl ?hyd_q1 (by kernel_rfl) rfl hA ?h1_q1 ?hd_q1 ?hy_q1 ?hu_q1 ?hsz_q1 ?hus_q1 ?hl_q1 ?h2_q1);(case h1_q1=>(intro R wR hR;(try clear hF);(simp only[List.take_succ_cons,List.take_zero,List.drop_succ_cons,List.drop_zero]);(have hn1:=Cl.none hR);(have hn2:=Cl.none2 hR);(repeat(first|go_big_quiet_skip|(go_big_quiet_want;(first|(refine qM 35 2 ?_;go_frame;go_big_quiet_on)|((refine ZaH rfl rfl (by(try simp only[Act.eval,eV])<;>exact rfl) (k:=163) (es:=ents b.es) sR lawP Tryz.underlying114 hk hmiss.out (z:=nullE.val) (fun _=>by kernel_rfl) ?_);go_frame;go_big_quiet_on)|(refine qL ?_;go_frame;go_big_quiet_on)|(go_big_quiet_op;(first|go_big_quiet_on))))));(refine wpQuiet_nil ?_);exact rfl));(case hyd_q1=>rfl);(case hd_q1=>(first|decide|simp));(case hy_q1=>((try simp only[Act.eval,Array.getD_eq_getD_getElem?,List.getElem?_toArray,List.getElem?_cons_succ,List.getElem?_cons_zero,Option.getD_some]);exact rfl));(case hu_q1=>exact rfl);(case hsz_q1=>kernel_rfl);(case hus_q1=>rfl);(case hl_q1=>rfl);(intro b1 w1 hB hb1;replace hA:=hB;clear hF hB;(simp only[List.drop_succ_cons,List.drop_zero]);obtain⟨hA,hF⟩:=fY hA;(try go_frame))
  replace hA:=fold0 b hA sR sR sR;clear hF;obtain⟨hA,hF⟩:=fY hA;go_wp2_with fail;refine(hr w1 hp).mono ?_;clear hr;rintro e w2 ⟨rfl,hx⟩;replace hA:=hA.ext hx;clear hF hx;obtain⟨hA,hF⟩:=fY hA;cases r
  · go_wp2_with fail;go_ret;exact⟨by rw[hcode'.out];rfl,hA.only1 sR⟩
  go_wp2_with fail;refine(ZmM (hA.sep1 (A:=BookP b) sR) n f hl).mono ?_;have hq0:heldN b.es n f≤1000000000:=by have:=ZiS b.es n f;omega
  generalize heldN b.es n f=q at *
  rintro e w1 ⟨rfl,hT⟩;replace hA:=hA.call1 sR hT;clear hF hT;obtain⟨hA,hF⟩:=fY hA;by_cases hq:64≤q
  · have hq':(64:Int)≤(q:Int):=by omega
    have hq2:=Hd hq;clear hq;go_wp2_with fail;go_ret;exact⟨by rw[hcode'.out];simp[hq2.out],hA.only1 sR⟩
  have hq':¬(64:Int)≤(q:Int):=by omega
  have hcode2:b.st.may p n f mode=if lastN≤Zat b.first b.cs p then 53 else 0:=by rw[hcode'.out,if_neg (by simp),if_neg (by simp),if_neg hq]
  have hcode3:=Hd hcode2;clear hq hcode2 hcode';go_wp2_with fail;refine(ZeZ (hA.sep1 (A:=BookP b) sR) (p:=p) (by unfold maxLen;omega)).mono ?_;have hc0:=hc p;generalize Zat b.first b.cs p=cc at *
  rintro e w1 ⟨rfl,hT⟩;replace hA:=hA.call1 sR hT;clear hF hT;obtain⟨hA,hF⟩:=fY hA;by_cases hq3:9223372036854775807≤cc
  · have hcode4:=Hd (hcode3.out.trans (if_pos hq3));go_wp2_with fail;go_ret;exact⟨by rw[hcode4.out];rfl,hA.only1 sR⟩
  have hcode4:=Hd (hcode3.out.trans (if_neg hq3));go_wp2_with fail;go_ret;exact⟨by rw[hcode4.out];rfl,hA.only1 sR⟩
 |some x=>
  have hmem:=Hd (find_mem hfi);have hcode':=Hd (hcode true (by rw[hfi];rfl));clear h hfi hcode hrr;obtain⟨hA,hF⟩:=fY hA;unfold Ent.val keyV at hmem;go_enter Tryz.func102,Tryz.ntmps102
  go_wp2_with ((with_reducible refine gbx ?_);refine wCy (E:=35) hA ?_;clear hF hA;intro bS w1 hA hbS hF)
  (refine Zau (a1:= ?a1_q2) (v:= ?v_q2) 11 9 165 _ (.agg #[.string .empty,.int .u64 0,.string .empty,.int .i64 0,.int .u64 0,.int .i64 0]) [.string .empty,.int .u64 0,.string .empty,.int .i64 0,.int .u64 0,.int .i64 0] ([.string x.path,.int .u64 x.num,.string x.foot,.int .i64 x.mode,.int .u64 x.n,.int .i64 x.stamp]) (by kernel_rfl) (by kernel_rfl) rfl rfl ?hyd_q2 (by kernel_rfl) rfl hA ?h1_q2 ?hd_q2 ?hy_q2 ?hu_q2 ?hsz_q2 ?hus_q2 ?hl_q2 ?h2_q2);(case h1_q2=>(intro R wR hR;(try clear hF);(simp only[List.take_succ_cons,List.take_zero,List.drop_succ_cons,List.drop_zero]);(have hn1:=Cl.none hR);(have hn2:=Cl.none2 hR);(repeat(first|go_big_quiet_skip|(go_big_quiet_want;(first|(refine qM 35 2 ?_;go_frame;go_big_quiet_on)|((refine ZaG rfl rfl (by(try simp only[Act.eval,eV])<;>exact rfl) (k:=163) (es:=ents b.es) sR lawP Tryz.underlying114 hk hmem.out ?_);go_frame;go_big_quiet_on)|(refine qL ?_;go_frame;go_big_quiet_on)|(go_big_quiet_op;(first|go_big_quiet_on))))));(refine wpQuiet_nil ?_);exact rfl));(case hyd_q2=>rfl);(case hd_q2=>(first|decide|simp));(case hy_q2=>((try simp only[Act.eval,Array.getD_eq_getD_getElem?,List.getElem?_toArray,List.getElem?_cons_succ,List.getElem?_cons_zero,Option.getD_some]);exact rfl));(case hu_q2=>exact rfl);(case hsz_q2=>kernel_rfl);(case hus_q2=>rfl);(case hl_q2=>rfl);(intro b1 w1 hB hb1;replace hA:=hB;clear hF hB;(simp only[List.drop_succ_cons,List.drop_zero]);obtain⟨hA,hF⟩:=fY hA;(try go_frame))
  replace hA:=fold0 b hA sR sR sR;clear hF;obtain⟨hA,hF⟩:=fY hA;go_wp2_with fail;refine(hr w1 hp).mono ?_;clear hr;rintro e w2 ⟨rfl,hx⟩;replace hA:=hA.ext hx;clear hF hx;obtain⟨hA,hF⟩:=fY hA;cases r
  all_goals
   go_wp2_with fail;go_ret;exact⟨by rw[hcode'.out];rfl,hA.only1 sR⟩
end
end Lock
end
end Go.Proofs.YtbeckijoabapkaaGreatDoor
