/- PathL, LockM, LockW, RegA, RegT, SepT, LockV, LockC, LockD, LockE, joined. -/
import Derived.Test.YtkdjkngfnapjcaaGreatDoorP3
import Derived.Test.YtkdjkngfnapjcaaGreatDoorP2
import Derived.Test.YtkdjkngfnapjcaaGreatDoorChecked
import Derived.StringKeys
import Derived.Test.YtkdjkngfnapjcaaGreatDoorP0
import Derived.Deep.LoopGhost
set_option linter.unusedSimpArgs false
set_option linter.unusedVariables false
set_option maxRecDepth 100000
set_option maxHeartbeats 16000000
namespace Go.Proofs.YtkdjkngfnapjcaaGreatDoor
section
namespace Path
open Go.RowKit
theorem eqB (s q:ByteArray):(s.toList==q.toList)=decide (bl s=bl q):=by
 rw[Lib.toList_data,Lib.toList_data];cases h:(s.data.toList==q.data.toList)
 · symm;simpa using h
 symm;simpa using h
theorem right_any (s:ByteArray) (w:World) (hs:s.size≤2000000):Calls Tryz.prog 84 #[.string s] w fun e w'=>e=.returned (.bool (Zad (bl s)))∧Ext w w':=by
 have hr:=Ze5 (bl s)
 go_enter Tryz.func84,Tryz.ntmps84
 go_wp2_with fail
 refine(Zjs s w hs).mono ?_;rintro e w1 ⟨q,rfl,hq,hx⟩;rw[←hq] at hr;have heq:=eqB s q
 obtain⟨n2,hn2⟩:∃n,(normL (bl s)).2=n:=⟨_,rfl⟩
 rw[hn2] at hr ⊢;clear hn2 hq
 by_cases h0:n2=0
 · subst h0
   by_cases h1:bl s=bl q
   · have hb:Zad (bl s)=true:=hr.1 ⟨rfl,h1.symm⟩
     rw[decide_eq_true h1] at heq;have hb':=Hd hb;clear hb hr h1
     go_wp2_with fail
     go_ret;exact⟨by rw[hb'.out];rfl,hx⟩
   have hb:Zad (bl s)=false:=by
    cases hb:Zad (bl s)
    · rfl
    exact absurd (hr.2 hb).2.symm h1
   rw[decide_eq_false h1] at heq;have hb':=Hd hb;clear hb hr h1
   go_wp2_with fail
   go_ret;exact⟨by rw[hb'.out];rfl,hx⟩
 have hb:Zad (bl s)=false:=by
  cases hb:Zad (bl s)
  · rfl
  exact absurd (hr.2 hb).1 h0
 have hb':=Hd hb
 have h0':(n2==0)=false:=by simpa using h0
 clear hb hr h0 heq
 go_wp2_with fail
 go_ret;exact⟨by rw[hb'.out];rfl,hx⟩
theorem Zbw {s:ByteArray} {b:Bool} (w:World) (hs:s.size≤2000000) (hb:Zad (bl s)=b):Calls Tryz.prog 84 #[.string s] w fun e w'=>e=.returned (.bool b)∧Ext w w':=hb ▸ right_any s w hs
theorem pre_is (q p:ByteArray) (w:World):Calls Tryz.prog 212 #[.string q,.string p] w fun e w'=>e=.returned (.bool ((bl p).isPrefixOf (bl q)))∧w=w':=
 (Tryz.strings_HasPrefix q p w).mono fun _ _ ⟨he,hw⟩=>⟨he,hw.symm⟩
theorem ZeP (p q:ByteArray) (w:World) (hp:p.size≤2000000) (hq:q.size≤2000000):Calls Tryz.prog 159 #[.string p,.string q] w fun e w'=>e=.returned (.bool (Zam (bl p) (bl q)))∧Ext w w':=by
 have heq:=eqB p q;cases h1:Zad (bl p)
 · have hb:=Hd (show Zam (bl p) (bl q)=false by simp[Zam,h1])
   clear heq
   go_enter Tryz.func159,Tryz.ntmps159
   go_wp2_with fail
   refine(Zbw w hp h1).mono ?_;rintro e w1 ⟨rfl,hx⟩
   go_wp2_with fail
   go_ret;exact⟨by rw[hb.out];rfl,hx⟩
 cases h2:Zad (bl q)
 · have hb:=Hd (show Zam (bl p) (bl q)=false by simp[Zam,h1,h2])
   clear heq
   go_enter Tryz.func159,Tryz.ntmps159
   go_wp2_with fail
   refine(Zbw w hp h1).mono ?_;rintro e w1 ⟨rfl,hx⟩
   go_wp2_with fail
   refine(Zbw w1 hq h2).mono ?_;rintro e w2 ⟨rfl,hx2⟩
   go_wp2_with fail
   go_ret;exact⟨by rw[hb.out];rfl,hx.trans hx2⟩
 by_cases h3:bl p=bl q
 · have hb:=Hd (show Zam (bl p) (bl q)=true by simp[Zam,h1,h2,h3])
   rw[decide_eq_true h3] at heq;clear h3
   go_enter Tryz.func159,Tryz.ntmps159
   go_wp2_with fail
   refine(Zbw w hp h1).mono ?_;rintro e w1 ⟨rfl,hx⟩
   go_wp2_with fail
   refine(Zbw w1 hq h2).mono ?_;rintro e w2 ⟨rfl,hx2⟩
   go_wp2_with fail
   go_ret;exact⟨by rw[hb.out];rfl,hx.trans hx2⟩
 have hb:=Hd (show Zam (bl p) (bl q)=(bl p++[47]).isPrefixOf (bl q) by simp[Zam,h1,h2,h3]);rw[decide_eq_false h3] at heq;clear h3
 go_enter Tryz.func159,Tryz.ntmps159
 go_wp2_with fail
 refine(Zbw w hp h1).mono ?_;rintro e w1 ⟨rfl,hx⟩
 go_wp2_with fail
 refine(Zbw w1 hq h2).mono ?_;rintro e w2 ⟨rfl,hx2⟩
 go_wp2_with fail
 refine(pre_is _ _ _).mono ?_;rintro e _ ⟨rfl,rfl⟩
 have hpa:bl (p++⟨#[47]⟩)=bl p++[47]:=by simp[bl]
 rw[hpa,←hb.out];clear hpa
 obtain⟨bb,hbb⟩:∃b,Zam (bl p) (bl q)=b:=⟨_,rfl⟩
 rw[hbb];have hbb':=Hd hbb;clear hb hbb;cases bb
 all_goals
  go_wp2_with fail
  go_ret;exact⟨by rw[hbb'.out];rfl,hx.trans hx2⟩
theorem Zes (p q:ByteArray) (w:World) (hp:p.size≤2000000) (hq:q.size≤2000000):Calls Tryz.prog 103 #[.string p,.string q] w fun e w'=>e=.returned (.bool (overB (bl p) (bl q)))∧Ext w w':=by
 have h1:=ZeP p q w hp hq
 have h2:=fun w=>ZeP q p w hq hp
 have ho:overB (bl p) (bl q)=(Zam (bl p) (bl q) || Zam (bl q) (bl p)):=rfl;rw[ho];clear ho
 generalize Zam (bl p) (bl q)=b1 at *
 generalize Zam (bl q) (bl p)=b2 at *
 cases b1
 · go_enter Tryz.func103,Tryz.ntmps103
   go_wp2_with fail
   refine h1.mono ?_;clear h1;rintro e w1 ⟨rfl,hx⟩
   go_wp2_with fail
   refine(h2 w1).mono ?_;clear h2;rintro e w2 ⟨rfl,hx2⟩;cases b2
   all_goals
    go_wp2_with fail
    go_ret;exact⟨rfl,hx.trans hx2⟩
 go_enter Tryz.func103,Tryz.ntmps103
 go_wp2_with fail
 refine h1.mono ?_;clear h1;rintro e w1 ⟨rfl,hx⟩
 go_wp2_with fail
 go_ret;exact⟨rfl,hx⟩
end Path
end
section
namespace Lock
open Go.RowKit
open Go.Maps (Keyed)
open Path (bl Zad overB)
structure Ent where
 path:ByteArray
 num:Int
 foot:ByteArray
 mode:Int
 n:Int
 stamp:Int
deriving DecidableEq
def keyV (p:ByteArray) (n:Int) (f:ByteArray):Value:=.agg #[.string p,.int .u64 n,.string f]
def Ent.key (e:Ent):Value:=keyV e.path e.num e.foot
def Ent.cells (e:Ent):List Value:=[.string e.path,.int .u64 e.num,.string e.foot,.int .i64 e.mode,.int .u64 e.n,.int .i64 e.stamp]
def Ent.val (e:Ent):Value:=.agg #[.string e.path,.int .u64 e.num,.string e.foot,.int .i64 e.mode,.int .u64 e.n,.int .i64 e.stamp]
def ent (e:Ent):Value × Value:=(e.key,e.val)
def ents (l:List Ent):List (Value × Value):=l.map ent
def ctrE (c:ByteArray × Int):Value × Value:=(.string c.1,.int .u64 c.2)
def ctrs (l:List (ByteArray × Int)):List (Value × Value):=l.map ctrE
abbrev headC (p m c:Nat) (first:Int):Part:=Part.cells p [.int .u64 first,.map (some m),.map (some c)] 206
abbrev mapC (m:Nat) (es:List (Value × Value)):Part:=Part.map Tryz.prog 203 m es
abbrev ctrC (c:Nat) (cs:List (Value × Value)):Part:=Part.map Tryz.prog 9 c cs
structure Bk where
 p:Nat
 m:Nat
 c:Nat
 first:Int
 es:List Ent
 cs:List (ByteArray × Int)
def BookP (b:Bk):Part:=Part.all [headC b.p b.m b.c b.first,mapC b.m (ents b.es),ctrC b.c (ctrs b.cs)]
theorem eqv0 (b:Bk) (F:List Part):Eqv (BookP b::F) (headC b.p b.m b.c b.first::mapC b.m (ents b.es)::ctrC b.c (ctrs b.cs)::F):=Eqv.all [headC b.p b.m b.c b.first,mapC b.m (ents b.es),ctrC b.c (ctrs b.cs)] F
theorem begin0 {w:World} {b:Bk} (h:Sep [BookP b] w):At [BookP b] w [headC b.p b.m b.c b.first,mapC b.m (ents b.es),ctrC b.c (ctrs b.cs)] w:=(At.start h).to (eqv0 b [])
theorem open0 {L0 L F:List Part} {w0 w:World} {b:Bk} (h:At L0 w0 L w) (q:Sel (BookP b) L F):At L0 w0 (headC b.p b.m b.c b.first::mapC b.m (ents b.es)::ctrC b.c (ctrs b.cs)::F) w:=(h.take q).to (eqv0 b F)
theorem fold0 {L0 L F G H:List Part} {w0 w:World} (b:Bk) (h:At L0 w0 L w) (s1:Sel (headC b.p b.m b.c b.first) L F) (s2:Sel (mapC b.m (ents b.es)) F G) (s3:Sel (ctrC b.c (ctrs b.cs)) G H):At L0 w0 (BookP b::H) w:=
 (h.perm (s1.perm.trans ((s2.perm.trans (s3.perm.cons _)).cons _))).to (eqv0 b H).symm
theorem close0 {L0 L F G H:List Part} {w0 w:World} (b:Bk) (h:At L0 w0 L w) (s1:Sel (headC b.p b.m b.c b.first) L F) (s2:Sel (mapC b.m (ents b.es)) F G) (s3:Sel (ctrC b.c (ctrs b.cs)) G H):At L0 w0 [BookP b] w:=(fold0 b h s1 s2 s3).only1 .here
theorem laidOut:laidOutB Tryz.prog=true:=by kernel_rfl
theorem wideP:(match Tryz.prog.underlying 203 with|some (.array _ _)|some (.struct _)=>true|_=>false)=true:=by kernel_rfl
theorem rowP:(203:TypeId) < Tryz.prog.types.size:=of_decide_eq_true (by kernel_rfl)
theorem lawP:Keyed Tryz.prog 203:=Keyed.of_law (deep_law_laid laidOut (m:=3) (by omega) rowP (by kernel_rfl) wideP)
theorem lawT:Keyed Tryz.prog 9:=Go.Maps.string_keyed Tryz.underlying9
theorem ZmM:Tryz.prog.keyType 203=true:=by kernel_rfl
theorem ZnG:Tryz.prog.cellsOf 203=3:=by kernel_rfl
theorem cellsS:Tryz.prog.cellsOf 25=2:=by kernel_rfl
theorem cellsU:Tryz.prog.cellsOf 23=1:=by kernel_rfl
theorem cellsStr:Tryz.prog.cellsOf 9=1:=by kernel_rfl
theorem Zoo (c0 c1 c2:Value):(Value.agg #[c0,c1,c2]).formed Tryz.prog 203=true:=by simp[Value.formed,Tryz.underlying203,ZnG]
def big64:Int:=18446744073709551616
theorem keyP {p:ByteArray} {n:Int} {f:ByteArray} (hp:p.size≤maxLen) (h0:0≤n) (h1:n < big64) (hf:f.size≤maxLen):∃l,keyOf Tryz.prog 203 (keyV p n f)=some l:=by
 have hw:(Lit.int .u64 n).wf=true:=by simp[Lit.wf,IntKind.min,IntKind.max,IntKind.signed,IntKind.bits];unfold big64 at h1;omega
 obtain⟨d,hd⟩:∃d,Tryz.prog.types.size=d + 2:=⟨Tryz.prog.types.size - 2,by have:2≤Tryz.prog.types.size:=of_decide_eq_true (by kernel_rfl);omega⟩
 have hl:Tryz.prog.keyLits (Tryz.prog.types.size + 1) 203 [.string p,.int .u64 n,.string f]=some [.string p.data.toList,.int .u64 n,.string f.data.toList]:=by
  rw[hd];simp[Program.keyLits,Tryz.underlying203,Tryz.underlying25,Tryz.underlying23,Tryz.underlying9,ZnG,cellsS,cellsU,cellsStr,hw,hf,hp];rw[if_pos (by decide)]
  rfl
 exact⟨.string (keyBytes [.string p.data.toList,.int .u64 n,.string f.data.toList]),by
  unfold keyOf;rw[Tryz.underlying203];simp only[ZmM,keyV,Zoo,Bool.and_self,if_true];rw[show(Value.agg #[.string p,.int .u64 n,.string f]).cells.toList=[.string p,.int .u64 n,.string f] from rfl,hl]
  rfl⟩
theorem keyT {p:ByteArray} (hp:p.size≤maxLen):∃l,keyOf Tryz.prog 9 (.string p)=some l:=⟨_,WideMaps.keyOf_string_mk Tryz.underlying9 hp⟩
def Ent.is (e:Ent) (p:ByteArray) (n:Int) (f:ByteArray):Bool:=decide (e.path=p∧e.num=n∧e.foot=f)
def find (es:List Ent) (p:ByteArray) (n:Int) (f:ByteArray):Option Ent:=es.find? (·.is p n f)
theorem find_split {es:List Ent} {p:ByteArray} {n:Int} {f:ByteArray} {e:Ent} (h:find es p n f=some e):∃l1 l2,es=l1++e::l2∧e.path=p∧e.num=n∧e.foot=f∧∀x ∈ l1,x.is p n f=false:=by
 obtain⟨h1,l1,l2,h2,h3⟩:=List.find?_eq_some_iff_append.1 h
 have h4:e.path=p∧e.num=n∧e.foot=f:=by simpa [Ent.is] using h1
 exact⟨l1,l2,h2,h4.1,h4.2.1,h4.2.2,fun x hx=>by simpa using h3 x hx⟩
theorem find_none {es:List Ent} {p:ByteArray} {n:Int} {f:ByteArray} (h:find es p n f=none):∀q ∈ ents es,q.1≠keyV p n f:=by
 intro q hq;obtain⟨e,he,rfl⟩:=List.mem_map.1 hq
 have h1:¬e.is p n f=true:=List.find?_eq_none.1 h e he
 intro q2
 apply h1
 simp[ent,Ent.key,keyV] at q2;simp[Ent.is,q2]
theorem find_mem {es:List Ent} {p:ByteArray} {n:Int} {f:ByteArray} {e:Ent} (h:find es p n f=some e):(keyV p n f,e.val) ∈ ents es:=by
 obtain⟨l1,l2,rfl,rfl,rfl,rfl,_⟩:=find_split h;simp[ents,ent,Ent.key]
def ctr (cs:List (ByteArray × Int)) (p:ByteArray):Option Int:=(cs.find? (·.1=p)).map (·.2)
def counter (first:Int) (cs:List (ByteArray × Int)) (p:ByteArray):Int:=(ctr cs p).getD first
theorem Zgl {cs:List (ByteArray × Int)} {p:ByteArray} (h:ctr cs p=none):∀q ∈ ctrs cs,q.1≠.string p:=by
 intro q hq;obtain⟨s,hs,rfl⟩:=List.mem_map.1 hq;unfold ctr at h
 simp at h
 intro e;simp[ctrE] at e;exact h s.1 s.2 hs e
theorem Zlf {cs:List (ByteArray × Int)} {p:ByteArray} {n:Int} (h:ctr cs p=some n):(.string p,.int .u64 n) ∈ ctrs cs:=by
 unfold ctr at h;simp only[Option.map_eq_some_iff] at h;obtain⟨q,h1,h2⟩:=h;have h3:=List.find?_some h1;have h4:=List.mem_of_find?_eq_some h1;refine List.mem_map.2 ⟨q,h4,?_⟩
 simp at h3
 simp[ctrE,h3,h2]
def wayB (a b:Ent):Bool:=(decide (a.mode=2) || decide (b.mode=2))&&overB (bl a.path) (bl b.path)
end Lock
end
section
namespace Lock
open Go.RowKit
open Go.Maps (Keyed)
open Path (bl Zad overB)
def NewPost (first:Int) (w:World) (e:Ending) (w':World):Prop:=∃b:Bk,e=.returned (.pointer (some ⟨b.p,0,none⟩))∧b.first=first∧b.es=[]∧b.cs=[]∧At [] w [BookP b] w'
theorem new_any (w:World) (first:Int):Calls Tryz.prog 111 #[.int .u64 first] w (NewPost first w):=by
 have hA:At [] w [] w:=At.start (L0:=[]) trivial;have hF:=hA.facts
 go_enter Tryz.func111,Tryz.ntmps111
 go_wp2_with (first|((with_reducible refine gbx ?_);refine wCy hA ?_;clear hF hA;intro b1 w1 hA hb1 hF)|(refine Za6 Tryz.prog 203 rfl rfl hA ?_;intro b1 w1 hB hb1;clear hF hA;have hA:=hB;clear hB;obtain⟨hA,hF⟩:=fY hA;refine Za6 Tryz.prog 9 rfl rfl hA ?_;intro b2 w1 hB hb2;clear hF hA;have hA:=hB;clear hB;obtain⟨hA,hF⟩:=fY hA))
 go_ret;exact⟨⟨_,_,_,first,[],[]⟩,rfl,rfl,rfl,rfl,close0 ⟨_,_,_,first,[],[]⟩ hA sR sZ sZ⟩
theorem Zhg {w:World} {b:Bk} (h:Sep [BookP b] w) {p:ByteArray} (hp:p.size≤maxLen) (hn:ctr b.cs p=none):
 Calls Tryz.prog 289 #[.pointer (some ⟨b.p,0,none⟩),.string p] w fun e w'=>e=.returned (.int .u64 b.first)∧At [BookP b] w [BookP b] w':=by
 obtain⟨kl,hk⟩:=keyT hp;have hmiss:=Hd (Zgl hn);have hA:=begin0 h;have hF:=hA.facts;clear h hn;obtain⟨hA,hF⟩:=fY hA
 go_enter Tryz.func289,Tryz.ntmps289
 go_wp2_with (refine Zbz rfl rfl rfl (by(try simp only[Act.eval,eV])<;>exact rfl) hA (k:=9) (es:=ctrs b.cs) sR lawT Tryz.underlying204 hk hmiss.out (z:=.int .u64 0) (fun _=>by kernel_rfl) ?_)
 go_ret;exact⟨rfl,close0 b hA sR sR sR⟩
theorem Zhf {w:World} {b:Bk} (h:Sep [BookP b] w) {p:ByteArray} (hp:p.size≤maxLen) {n:Int} (hn:ctr b.cs p=some n):
 Calls Tryz.prog 289 #[.pointer (some ⟨b.p,0,none⟩),.string p] w fun e w'=>e=.returned (.int .u64 n)∧At [BookP b] w [BookP b] w':=by
 obtain⟨kl,hk⟩:=keyT hp;have hmem:=Hd (Zlf hn);have hA:=begin0 h;have hF:=hA.facts;clear h hn;obtain⟨hA,hF⟩:=fY hA
 go_enter Tryz.func289,Tryz.ntmps289
 go_wp2_with (refine Zby rfl rfl rfl (by(try simp only[Act.eval,eV])<;>exact rfl) hA (k:=9) (es:=ctrs b.cs) sR lawT Tryz.underlying204 hk hmem.out ?_)
 go_ret;exact⟨rfl,close0 b hA sR sR sR⟩
theorem ZeH {w:World} {b:Bk} (h:Sep [BookP b] w) {p:ByteArray} (hp:p.size≤maxLen):
 Calls Tryz.prog 289 #[.pointer (some ⟨b.p,0,none⟩),.string p] w fun e w'=>e=.returned (.int .u64 (counter b.first b.cs p))∧At [BookP b] w [BookP b] w':=by
 cases hn:ctr b.cs p with
 |none=>have:=Zhg h hp hn;unfold counter;rw[hn];exact this
 |some n=>have:=Zhf h hp hn;unfold counter;rw[hn];exact this
def Zbg (p:ByteArray) (mode:Int):Bool:=Zad (bl p)&&(decide (mode=1) || decide (mode=2))
theorem right_any (p:ByteArray) (mode:Int) (w:World) (hp:p.size≤1000000):Calls Tryz.prog 243 #[.string p,.int .i64 mode] w fun e w'=>e=.returned (.bool (Zbg p mode))∧Ext w w':=by
 have hr:=Path.right_any p w (by omega);unfold Zbg
 generalize Zad (bl p)=rb at *
 go_enter Tryz.func243,Tryz.ntmps243
 go_wp2_with fail
 refine hr.mono ?_;clear hr;rintro e w1 ⟨rfl,hx⟩
 by_cases h1:mode=1
 · subst h1
   cases rb
   all_goals
    go_wp2_with fail
    go_ret;exact⟨rfl,hx⟩
 have e1:(mode==1)=false:=by simpa using h1
 by_cases h2:mode=2
 · subst h2
   cases rb
   all_goals
    go_wp2_with fail
    go_ret;exact⟨rfl,hx⟩
 have e2:(mode==2)=false:=by simpa using h2
 have d1:=decide_eq_false h1;have d2:=decide_eq_false h2;clear h1 h2;cases rb
 all_goals
  go_wp2_with fail
  go_ret;exact⟨by simp[d1,d2],hx⟩
theorem ZnK (x y:Ent) (w:World) (hx:x.path.size≤1000000) (hy:y.path.size≤1000000):Calls Tryz.prog 180 #[x.val,y.val] w fun e w'=>e=.returned (.bool (wayB x y))∧Ext w w':=by
 have ho:=fun w=>Path.Zes x.path y.path w (by omega) (by omega)
 unfold wayB
 generalize overB (bl x.path) (bl y.path)=ob at *
 have hA:At [] w [] w:=At.start (L0:=[]) trivial;have hF:=hA.facts;obtain⟨p1,n1,f1,m1,k1,s1⟩:=x;obtain⟨p2,n2,f2,m2,k2,s2⟩:=y
 simp only[Ent.val] at *
 by_cases h1:m1=2
 · subst h1
   go_enter Tryz.func180,Tryz.ntmps180
   go_wp2_with ((with_reducible refine gbx ?_);refine wCy hA ?_;clear hF hA;intro b1 w1 hA hb1 hF)
   refine(ho _).mono ?_;clear ho;rintro e w2 ⟨rfl,hx2⟩;cases ob
   all_goals
    go_wp2_with fail
    go_ret;exact⟨rfl,hA.toExt.trans hx2⟩
 have e1:(m1==2)=false:=by simpa using h1
 have d1:=Hd (decide_eq_false h1);clear h1
 by_cases h2:m2=2
 · subst h2
   go_enter Tryz.func180,Tryz.ntmps180
   go_wp2_with ((with_reducible refine gbx ?_);refine wCy hA ?_;clear hF hA;intro b1 w1 hA hb1 hF)
   refine(ho _).mono ?_;clear ho;rintro e w2 ⟨rfl,hx2⟩;cases ob
   all_goals
    go_wp2_with fail
    go_ret;exact⟨by rw[d1.out];rfl,hA.toExt.trans hx2⟩
 have e2:(m2==2)=false:=by simpa using h2
 have d2:=Hd (decide_eq_false h2);clear h2 ho
 go_enter Tryz.func180,Tryz.ntmps180
 go_wp2_with ((with_reducible refine gbx ?_);refine wCy hA ?_;clear hF hA;intro b1 w1 hA hb1 hF)
 go_ret;exact⟨by rw[d1.out,d2.out];rfl,hA.toExt⟩
end Lock
end
end Go.Proofs.YtkdjkngfnapjcaaGreatDoor
section
namespace Go
section
variable {P:Program} {ops:Array Oper} {md:Region.Mode} {C:World→Prop}
def ZaR (m n:Nat):Array Bool:=((List.range m).map fun j=>decide (j < n)).toArray
theorem ZkX {n:Nat} {listed:Array Bool} (hsz:listed.size=ops.size) (h1:∀j,j < n→listed.getD j false=true) (h2:∀t,n≤t→t < ops.size→listed.getD t true=false):listed=ZaR ops.size n:=by
 apply Array.ext
 · simp[ZaR,hsz]
 intro i hi hi2
 have e1:(ZaR ops.size n)[i]=decide (i < n):=by simp[ZaR]
 rw[e1]
 by_cases h:i < n
 · have:=h1 i h
   simp[hi] at this;simp[this,h]
 have:=h2 i (by omega) (by omega)
 simp[hi] at this;simp[this,h]
def headB (md:Region.Mode) (ops:Array Oper):Nat→Nat→Array Bool→Bool
 |0,_,_=>true
 |f + 1,k,listed=>((Region.ready md ops listed).contains k&&Region.free md ops listed k)&&headB md ops f (k + 1) (listed.setIfInBounds k true)
theorem Zcr {n:Nat}:∀j ∈ Region.ready md ops (ZaR ops.size n),n≤j:=fun j hj=>by
 obtain⟨hun,oj,hoj,_⟩:=mem_ready.1 hj;have hjs:j < ops.size:=(Array.getElem?_eq_some_iff.1 hoj).1
 rcases Nat.lt_or_ge j n with h|h
 · simp[ZaR,hjs,h] at hun
 exact h
theorem Zb2 {Q:Exit→Act→World→Prop} {i:Nat} {o:Oper} {K:Act→World→Prop} {a:Act} {w:World} (ho:ops[i]? =some o) (hw:Region.wanted o (yielded ops a.tmps)=true) {v:Value} {w':World} (hrun:(execOp a.eval o).run P w=.ok (.value v) w') (hK:K (a.put o.dst v) w'):wpOp P ops Q i K a w:=by
 unfold wpOp;simp only[ho,hw,if_true]
 left
 unfold Oper.wp;rw[hrun];exact hK
theorem Zd2 {Q:Exit→Act→World→Prop} {i:Nat} {o:Oper} {K:Act→World→Prop} {a:Act} {w:World} (ho:ops[i]? =some o) (hw:Region.wanted o (yielded ops a.tmps)=true) {w':World} (hrun:(execOp a.eval o).run P w=.ok .skip w') (hK:K (a.put o.dst undef) w'):wpOp P ops Q i K a w:=by
 unfold wpOp;simp only[ho,hw,if_true]
 left
 unfold Oper.wp;rw[hrun];exact hK
theorem ZjR {Q:Exit→Act→World→Prop} {i:Nat} {o:Oper} {K:Act→World→Prop} {a:Act} {w:World} (ho:ops[i]? =some o) (hw:Region.wanted o (yielded ops a.tmps)=true) {fn:FuncId} {args:Array Value} (hrun:(execOp a.eval o).run P w=.ok (.enter fn args) w) {R:Ending→World→Prop} (hc:Calls P fn args w R) (hK:∀e w',R e w'→∃v,e=.returned v∧K (a.put o.dst v) w'):wpOp P ops Q i K a w:=by
 unfold wpOp;simp only[ho,hw,if_true]
 left
 unfold Oper.wp;rw[hrun]
 exact hc.mono fun e w' h=>by
  obtain⟨v,rfl,h2⟩:=hK e w' h;exact h2
end
end Go
end
section
namespace Go
section
variable {P:Program} {ops:Array Oper} {md:Region.Mode} {C:Bool→World→Prop} {k:Nat}
def ZcG (md:Region.Mode) (ops:Array Oper) (k:Nat):Nat→Nat→Bool
 |0,_=>false
 |f + 1,i=>match ops[i]? with
  |some o=>o.after.any fun e=>Region.binds md e&&(e.on==k || ZcG md ops k f e.on)
  |none=>false
def leg (md:Region.Mode) (ops:Array Oper) (k i:Nat) (c c':Bool):Prop:=
 if i=k then c=false∧c'=true else if ZcG md ops k ops.size i=true then c=true∧c'=true else c=c'
def Oper.turnUpon (P:Program) (C:World→Prop) (w:World) (v:Value):Result Next→Prop
 |.ok (.value u) w'=>w'=w∧u=v∧C w
 |.ok .skip w'=>w'=w∧v=undef∧C w
 |.ok (.enter f args) w'=>w'=w∧Calls P f args w (fun e w''=>e=.returned v∧C w'')
 |_=>False
def Oper.turnAt (P:Program) (o:Oper) (a:Act) (C:World→Prop) (w:World) (v:Value):Prop:=Oper.turnUpon P C w v ((execOp a.eval o).run P w)
def Oper.quietL (P:Program) (o:Oper) (a:Act) (C:Bool→World→Prop) (R:Bool→Bool→Prop) (next:Act→Prop):Prop:=
 ∃v,(∀c c',R c c'→∀w,C c w→o.turnAt P a (C c') w v)∧next (a.put o.dst v)
def ZaT (P:Program) (md:Region.Mode) (ops:Array Oper) (C:Bool→World→Prop) (k:Nat) (Q:Act→Prop):Nat→List Oper→Act→Prop
 |_,[],a=>Q a
 |n,o::rest,a=>if Region.wanted o (yielded ops a.tmps) then o.quietL P a C (leg md ops k n) (ZaT P md ops C k Q (n + 1) rest) else n≠k∧ZaT P md ops C k Q (n + 1) rest (a.put o.dst undef)
theorem Zgp {Q:Act→Prop} {n:Nat} {a:Act} (h:Q a):ZaT P md ops C k Q n [] a:=h
theorem Zbu {Q:Act→Prop} {n:Nat} {a:Act} {o:Oper} {rest:List Oper}
 (h:∀K:Act→Prop,(∀a,ZaT P md ops C k Q (n + 1) rest a→K a)→if Region.wanted o (yielded ops a.tmps) then o.quietL P a C (leg md ops k n) K else n≠k∧K (a.put o.dst undef)):ZaT P md ops C k Q n (o::rest) a:=h _ (fun _ h=>h)
def qOpL (P:Program) (md:Region.Mode) (ops:Array Oper) (C:Bool→World→Prop) (k i:Nat) (K:Act→Prop) (a:Act):Prop:=
 match ops[i]? with
 |none=>i≠k∧K a
 |some o=>if Region.wanted o (yielded ops a.tmps) then o.quietL P a C (leg md ops k i) K else i≠k∧K (a.put o.dst undef)
theorem Oper.quietL_mono {o:Oper} {a:Act} {R:Bool→Bool→Prop} {K K':Act→Prop} (h:∀a,K a→K' a) (hh:o.quietL P a C R K):o.quietL P a C R K':=
 let ⟨v,h1,h2⟩:=hh
 ⟨v,h1,h _ h2⟩
theorem Zkr {i:Nat} {a:Act} {K K':Act→Prop} (h:∀a,K a→K' a) (hh:qOpL P md ops C k i K a):qOpL P md ops C k i K' a:=by
 unfold qOpL at *
 split
 · rename_i ho
   simp only[ho] at hh;exact⟨hh.1,h _ hh.2⟩
 rename_i o ho
 simp only[ho] at hh
 split
 · rename_i hw;simp only[hw,if_true] at hh;exact Oper.quietL_mono h hh
 rename_i hw;simp only[hw] at hh;exact⟨hh.1,h _ hh.2⟩
def Zbs (P:Program) (md:Region.Mode) (ops:Array Oper) (C:Bool→World→Prop) (k i:Nat) (o:Oper) (v:Value) (a:Act):Prop:=
 (Region.wanted o (yielded ops a.tmps)=true∧∀c c',leg md ops k i c c'→∀w,C c w→o.turnAt P a (C c') w v)∨
 (Region.wanted o (yielded ops a.tmps)=false∧i≠k∧v=undef)
theorem Zbs.qOp {i:Nat} {o:Oper} {v:Value} {a:Act} (hi:ops[i]? =some o) (hy:Zbs P md ops C k i o v a) {K:Act→Prop} (h:K (a.put o.dst v)):qOpL P md ops C k i K a:=by
 unfold qOpL;simp only[hi]
 rcases hy with⟨hw,hv⟩|⟨hw,hik,rfl⟩
 · simp only[hw,if_true];exact⟨v,hv,h⟩
 simp only[hw,Bool.false_eq_true,if_false];exact⟨hik,h⟩
theorem Zbs.of_same {i:Nat} {o:Oper} {v:Value} {a a':Act} (hy:Zbs P md ops C k i o v a) (he:execOp a'.eval o=execOp a.eval o)
 (hw:Region.wanted o (yielded ops a'.tmps)=Region.wanted o (yielded ops a.tmps)):Zbs P md ops C k i o v a':=by
 unfold Zbs Oper.turnAt at *
 rw[he,hw];exact hy
theorem ZeQ {i:Nat} {o:Oper} {a:Act} {K:Act→Prop} (hi:ops[i]? =some o) (h:qOpL P md ops C k i K a):∃v,Zbs P md ops C k i o v a∧K (a.put o.dst v):=by
 unfold qOpL at h;simp only[hi] at h
 by_cases hw:Region.wanted o (yielded ops a.tmps)=true
 · simp only[hw,if_true] at h
   obtain⟨v,h1,h2⟩:=h;exact⟨v,.inl ⟨hw,h1⟩,h2⟩
 simp only[hw] at h
 exact⟨undef,.inr ⟨by simpa using hw,h.1,rfl⟩,h.2⟩
theorem Zmm {i j:Nat} {oi oj:Oper} {v:Value} (hj:ops[j]? =some oj) (hap:oi.apart ops oj=true)
 (hsi:∀cs b,oi.op≠.select cs b) (hsj:∀cs b,oj.op≠.select cs b) {K:Act→Prop} {a:Act}
 (hy:Zbs P md ops C k i oi v a) (h:qOpL P md ops C k j K (a.put oi.dst v)):
 qOpL P md ops C k j (fun a'=>Zbs P md ops C k i oi v a'∧K (a'.put oi.dst v)) a:=by
 obtain⟨h1,h2,h3⟩:=Oper.apart_spec hap
 have keep:∀(a:Act),Zbs P md ops C k i oi v a→∀u,Zbs P md ops C k i oi v (a.put oj.dst u):=fun a hy u=>
  hy.of_same (execOp_put oi hsi a oj.dst u h3) (wanted_put oi a oj.dst u h3)
 unfold qOpL at *
 simp only[hj] at *
 rw[wanted_put oj a oi.dst v h1] at h
 split
 · rename_i hw
   simp only[hw,if_true] at h;obtain⟨u,hu,hn⟩:=h;refine⟨u,fun c c' hR w hw'=> ?_,keep a hy u,by rw[←Act.put_comm a v u h2];exact hn⟩;have:=hu c c' hR w hw'
   unfold Oper.turnAt at *
   rwa [execOp_put oj hsj a oi.dst v h1] at this
 rename_i hw
 simp only[hw] at h;exact⟨h.1,keep a hy _,by rw[←Act.put_comm a v undef h2];exact h.2⟩
theorem ZdB {n:Nat} {listed:Array Bool} (inv:HeadInv md ops n listed):∀(f i:Nat),ZcG md ops k f i=true→listed.getD i false=true→listed.getD k false=true
 |0,_,h,_=>by simp[ZcG] at h
 |f + 1,i,h,hi=>by
  unfold ZcG at h
  split at h
  · rename_i o ho
    obtain⟨e,he,hb⟩:=Array.any_eq_true'.1 h;simp only[Bool.and_eq_true,Bool.or_eq_true,beq_iff_eq] at hb;have hl:=inv.closed i o ho hi e he hb.1
    rcases hb.2 with hk|hk
    · rw[←hk];exact hl
    exact ZdB inv f e.on hk hl
  exact absurd h (by simp)
theorem Zhu {n:Nat} {listed:Array Bool} (inv:HeadInv md ops n listed) {i:Nat} (hr:i ∈ Region.ready md ops listed):∀(f:Nat),ZcG md ops k f i=true→listed.getD k false=true
 |0,h=>by simp[ZcG] at h
 |f + 1,h=>by
  obtain⟨_,oi,hoi,hall⟩:=mem_ready.1 hr;unfold ZcG at h;simp only[hoi] at h;obtain⟨e,he,hb⟩:=Array.any_eq_true'.1 h;simp only[Bool.and_eq_true,Bool.or_eq_true,beq_iff_eq] at hb;have hl:=hall e he hb.1
  rcases hb.2 with hk|hk
  · rw[←hk];exact hl
  exact ZdB inv f e.on hk hl
def Zea (P:Program) (md:Region.Mode) (ops:Array Oper) (C:Bool→World→Prop) (k n:Nat) (L:Array Bool→Act→Prop):Nat→Array Bool→Act→Prop
 |0,listed,a=>L listed a
 |f + 1,listed,a=>
  Region.ready md ops listed≠[]∧∀i ∈ Region.ready md ops listed,i < n∧qOpL P md ops C k i (Zea P md ops C k n L f (listed.setIfInBounds i true)) a
theorem Oper.wp_of_quietL {o:Oper} {a:Act} {R:Bool→Bool→Prop} {K:Act→Prop} {K':Act→World→Prop} {Q':Exit→Act→World→Prop} {w:World} {c c':Bool} (hR:R c c') (hw:C c w) (h:∀a w',C c' w'→K a→K' a w') (hh:o.quietL P a C R K):o.wp P a w K' Q':=by
 obtain⟨v,h1,h2⟩:=hh;have h3:=h1 c c' hR w hw;unfold Oper.turnAt at h3;unfold Oper.wp
 generalize (execOp a.eval o).run P w=r at *
 cases r with
 |ok n w'=>
  cases n<;>simp only[Oper.turnUpon] at h3<;>simp only[Oper.upon]
  case value u=>
   obtain⟨e1,e2,e3⟩:=h3;rw[e1,e2];exact h _ _ e3 h2
  case skip=>
   obtain⟨e1,e2,e3⟩:=h3;rw[e1,←e2];exact h _ _ e3 h2
  case enter f args=>
   obtain⟨e1,hc⟩:=h3;rw[e1]
   exact hc.mono fun e w'' ⟨he,hw''⟩=>by subst he;exact h _ _ hw'' h2
 |halt x w'=>simp only[Oper.turnUpon] at h3
theorem Zgq {n i:Nat} {listed:Array Bool} (inv:HeadInv md ops n listed) (hr:i ∈ Region.ready md ops listed) {a:Act} {K:Act→Prop} {K':Act→World→Prop} {Q':Exit→Act→World→Prop} {w:World} (hC:C (listed.getD k false) w)
 (h:∀a w',C ((listed.setIfInBounds i true).getD k false) w'→K a→K' a w') (hh:qOpL P md ops C k i K a):wpOp P ops Q' i K' a w:=by
 have hun:=(mem_ready.1 hr).1
 have his:i < listed.size:=by
  rcases Nat.lt_or_ge i listed.size with q|q
  · exact q
  rw[Array.getD_eq_getD_getElem?,Array.getElem?_eq_none q] at hun;cases hun
 have key:i≠k→(listed.setIfInBounds i true).getD k false=listed.getD k false:=fun hne=>getD_set_ne false hne
 unfold qOpL at hh;unfold wpOp
 split
 · rename_i ho
   simp only[ho] at hh;exact h _ _ (by rw[key hh.1];exact hC) hh.2
 rename_i o ho
 simp only[ho] at hh
 split
 · rename_i hw
   simp only[hw,if_true] at hh;refine .inl (Oper.wp_of_quietL (c:=listed.getD k false) (c':=(listed.setIfInBounds i true).getD k false) ?_ hC h hh);unfold leg
   by_cases hik:i=k
   · subst hik
     rw[if_pos rfl];exact⟨getD_both hun,by simp[his]⟩
   rw[if_neg hik,key hik]
   by_cases hwt:ZcG md ops k ops.size i=true
   · rw[if_pos hwt]
     have:=Zhu inv hr _ hwt;exact⟨this,this⟩
   rw[if_neg hwt]
 rename_i hw
 simp only[hw] at hh;exact h _ _ (by rw[key hh.1];exact hC) hh.2
theorem ZcF {n g:Nat} {L:Array Bool→Act→Prop} {Q':Exit→Act→World→Prop} (hL:∀listed a w,C (listed.getD k false) w→L listed a→wpAny P md ops Q' g listed a w):
 ∀(f:Nat) (listed:Array Bool) (a:Act) (w:World),HeadInv md ops n listed→C (listed.getD k false) w→Zea P md ops C k n L f listed a→wpAny P md ops Q' (f + g) listed a w
 |0,listed,a,w,_,hw,h=>by rw[Nat.zero_add];exact hL _ _ _ hw h
 |f + 1,listed,a,w,inv,hw,h=>by
  rw[show f + 1 + g=(f + g) + 1 by omega];exact⟨fun h0=>absurd h0 h.1,fun i hi=>Zgq inv hi hw (fun a' w' hw' h'=>ZcF hL f _ a' w' (inv.set hi (h.2 i hi).1) hw' h') (h.2 i hi).2⟩
theorem Zfx {n i:Nat} {oi:Oper} {v:Value} {L:Array Bool→Act→Prop} (hi:ops[i]? =some oi) (hsel:∀(j:Nat) (o:Oper) cs b,ops[j]? =some o→o.op≠.select cs b)
 (hs:Region.sinkB md ops n=true) (hc:Region.chainB md ops n=true) (hn:n < ops.size) (hin:i < n)
 (hdone:∀listed a,L listed a→∀j ∈ Region.ready md ops listed,n≤j):
 ∀(f:Nat) (listed:Array Bool) (a:Act),HeadInv md ops n listed→
  (∀j oj,ops[j]? =some oj→j≠i→listed.getD j true=false→(∀e ∈ oj.after,Region.binds md e=true→e.on≠i)→oi.apart ops oj=true)→
  i ∈ Region.ready md ops listed→Zbs P md ops C k i oi v a→
  Zea P md ops C k n L f (listed.setIfInBounds i true) (a.put oi.dst v)→Zea P md ops C k n L (f + 1) listed a:=by
 intro f
 induction f with
 |zero=>
  intro listed a inv _ hr hy H;have hun:=(mem_ready.1 hr).1;refine⟨fun h=>(by rw[h] at hr;cases hr),fun j hj=> ?_⟩
  have hjn:j < n:=by
   rcases Nat.lt_or_ge j n with h|h
   · exact h
   exact absurd hj (tail_waits hs hc hn inv _ i rfl hin hun j h)
  refine⟨hjn,?_⟩
  by_cases hji:j=i
  · subst hji;exact hy.qOp hi H
  have:=hdone _ _ H j (ready_mono hj hji)
  omega
 |succ f ih=>
  intro listed a inv hfree hr hy H;have hun:=(mem_ready.1 hr).1;refine⟨fun h=>(by rw[h] at hr;cases hr),fun j hj=> ?_⟩
  have hjn:j < n:=by
   rcases Nat.lt_or_ge j n with h|h
   · exact h
   exact absurd hj (tail_waits hs hc hn inv _ i rfl hin hun j h)
  refine⟨hjn,?_⟩
  by_cases hji:j=i
  · subst hji;exact hy.qOp hi H
  have h1:=(H.2 j (ready_mono hj hji)).2
  obtain⟨hjun,oj,hoj,hall⟩:=mem_ready.1 hj
  have hnot:∀e ∈ oj.after,Region.binds md e=true→e.on≠i:=fun e he hb heq=>by
   have h1:=hall e he hb;rw[heq,getD_both hun] at h1;cases h1
  have h2:=Zmm (i:=i) hoj (hfree j oj hoj hji hjun hnot) (fun cs b=>hsel i oi cs b hi) (fun cs b=>hsel j oj cs b hoj) hy h1
  have hfree':∀t ot,ops[t]? =some ot→t≠i→(listed.setIfInBounds j true).getD t true=false→
   (∀e ∈ ot.after,Region.binds md e=true→e.on≠i)→oi.apart ops ot=true:=fun t ot ht hti hun hno=>by
   refine hfree t ot ht hti ?_ hno
   by_cases hjt:j=t
   · subst hjt;exact hjun
   rw[getD_set_ne true hjt] at hun;exact hun
  refine Zkr (fun a' h3=>ih (listed.setIfInBounds j true) a' (inv.set hj hjn) hfree' (ready_mono hr (Ne.symm hji)) h3.1 ?_) h2;rw[Array.setIfInBounds_comm _ _ hji];exact h3.2
theorem Zd9 {n g:Nat} {Lq:Act→Prop} (hsel:Region.noSelect ops=true) (hs:Region.sinkB md ops n=true) (hc:Region.chainB md ops n=true) (hn:n < ops.size) (hkn:k < n):
 ∀(l:List Oper) (t:Nat) (listed:Array Bool) (a:Act),(∀j,j < l.length→l[j]? =ops[t + j]?)→t + l.length=n→HeadInv md ops n listed→(∀j,j < t→listed.getD j false=true)→
 Region.lexHead md ops g l.length t listed=true→ZaT P md ops C k Lq t l a→
 Zea P md ops C k n (fun listed' a'=>Region.seqB md ops g n listed'=true∧listed'.getD k false=true∧Lq a') l.length listed a
 |[],t,listed,a,_,ht,_,hd,hB,h=>by
  have:t=n:=by simpa using ht
  subst this;exact⟨by simpa [Region.lexHead] using hB,hd k hkn,h⟩
 |o::l,t,listed,a,hl,ht,inv,hd,hB,h=>by
  have h0:ops[t]? =some o:=by simpa using(hl 0 (by simp)).symm
  simp only[List.length_cons,Region.lexHead,Bool.and_eq_true] at hB;obtain⟨⟨hr,hf⟩,hB'⟩:=hB
  have htn:t < n:=by simp only[List.length_cons] at ht;omega
  have hr':t ∈ Region.ready md ops listed:=by simpa using hr
  have hst:qOpL P md ops C k t (ZaT P md ops C k Lq (t + 1) l) a:=by unfold qOpL;simp only[h0];exact h
  obtain⟨v,hy,hK⟩:=ZeQ h0 hst
  have hts:t < listed.size:=by rw[inv.size];omega
  exact Zfx h0 (Region.noSelect_spec hsel) hs hc hn htn (fun listed' a' hL=>seqB_ready hL.1) l.length listed a inv (Region.free_spec h0 hf) hr' hy
   (Zd9 hsel hs hc hn hkn l (t + 1) _ _ (fun j hj=>by have:=hl (j + 1) (by simp;omega);simpa [Nat.add_assoc,Nat.add_comm 1 j] using this) (by simp only[List.length_cons] at ht;omega) (inv.set hr' htn)
     (fun j hj=>by
       by_cases hjt:j=t
       · subst hjt;simp[hts]
       rw[getD_set_ne false (Ne.symm hjt)];exact hd j (by omega)) hB' hK)
theorem ZeS {id:Nat} {Q:Exit→Act→World→Prop} {a:Act} {w:World} {l:List Oper} (n k:Nat) (C:Bool→World→Prop) (hm:P.follows .mixedOrders=true) (hB:Region.lexTailB .any l.toArray n=true) (hkn:k < n)
 (hC:C false w.drew) (h:ZaT P .any l.toArray C k (fun a'=>∀w',C true w'→wpList P l.toArray Q (l.drop n) a' w') 0 (l.take n) a):(Code.region id l.toArray true).wp P Q a w:=by
 simp only[Region.lexTailB,Bool.and_eq_true,decide_eq_true_eq] at hB;obtain⟨⟨⟨⟨hsel,hn⟩,hs⟩,hc⟩,hlex⟩:=hB
 have hn':n < l.length:=by simpa using hn
 have htl:(l.take n).length=n:=by simp;omega
 have hdl:(l.drop n).length=l.toArray.size - n:=by simp
 have inv0:HeadInv .any l.toArray n (Array.replicate l.toArray.size false):=
  ⟨by simp,fun j oj _ hl=>(by rw[getD_replicate_false] at hl;cases hl),fun t _ ht=>getD_in (by simpa using ht) (getD_replicate_false _ _)⟩
 have H:=Zd9 (C:=C) (md:=.any) (g:=l.toArray.size - n) hsel hs hc hn hkn (l.take n) 0 _ a (fun j hj=>by
  have hj':j < n:=by rw[htl] at hj;exact hj
  simp[hj']) (by simpa using htl) inv0 (fun j hj=>by omega) (by rw[htl];exact hlex) h
 refine wp_region_any hm ?_
 have:=ZcF (Q':=Q) (g:=l.toArray.size - n) (fun listed a' w' hw' hL=>by
  rw[hL.2.1] at hw';have:=wpAny_of_seq (md:=.any) (Q':=Q) (l.drop n) n listed a' w' (fun j=>by simp[List.getElem?_drop]) (by rw[hdl];exact hL.1) (hL.2.2 w' hw')
  rwa [hdl] at this) _ _ _ _ inv0 (by rw[getD_replicate_false];exact hC) H
 rw[htl,show n + (l.toArray.size - n)=l.toArray.size by omega] at this;exact this
end
end Go
end
namespace Go.Proofs.YtkdjkngfnapjcaaGreatDoor
section
section
open Go.RowKit
section
variable {P:Program} {ops:Array Oper} {rest:List Oper} {o:Oper} {a:Act} {Q:Exit→Act→World→Prop} {L0 L F:List Part} {w0 w:World} {S:Nat}
theorem ZcT {E:TypeId} {x:Operand} (hg:o.guard=none) (hop:o.op=.box E x) {v:Value} (hx:a.eval x=v) {vs:List Value} (hv:v.cells=vs.toArray) (h:At L0 w0 L w) (hS:w.heap.size=S)
 (hK:∀w',At L0 w0 (Part.cells S vs E::L) w'→w'.heap.size=S + 1→wpList P ops Q rest (a.put o.dst (.pointer (some ⟨S,0,none⟩))) w'):wpList P ops Q (o::rest) a w:=by
 subst hS;refine Zak hg ?_ (hK _ (h.alloc vs E) (by simp));simp[execOp,hop,hx,Instr.box,newVar,newRow,hv,Result.andThen]
theorem Zdf {t:TypeId} (P:Program) (k:TypeId) (hg:o.guard=none) (hop:o.op=.makeMap t none) (h:At L0 w0 L w) (hS:w.heap.size=S)
 (hK:∀w',At L0 w0 (Part.map P k S []::L) w'→w'.heap.size=S + 1→wpList P ops Q rest (a.put o.dst (.map (some S))) w'):wpList P ops Q (o::rest) a w:=by
 subst hS;refine Zak hg ?_ (hK _ (h.new ((Ext.refl w).alloc (.map #[] 0)) _ (MapAt.made P k w) (fun _ e=>by cases e;exact Nat.le_refl _)) (by simp));simp[execOp,hop,run_makeMap,Result.andThen]
end
section
variable {P:Program} {ops:Array Oper} {i:Nat} {o:Oper} {a:Act} {Q:Exit→Act→World→Prop} {K:Act→World→Prop} {L0 L F:List Part} {w0 w:World}
end
def TurnC (L0:List Part) (w0:World) (L:List Part) (N:Nat) (L':List Part) (c:Bool) (w:World):Prop:=if c=true then At L0 w0 L' w else At L0 w0 L w∧w.heap.size=N
section
variable {P:Program} {md:Region.Mode} {ops:Array Oper} {k n:Nat} {rest:List Oper} {o:Oper} {a:Act} {Q:Act→Prop} {L0 L L':List Part} {w0:World} {N:Nat}
theorem Zhy {w:World} (h:At L0 w0 L w) (hN:w.heap.size=N):TurnC L0 w0 L N L' false w.drew:=by
 unfold TurnC;rw[if_neg (by simp)];exact⟨h.drew,hN⟩
theorem Zgt {w:World} (h:TurnC L0 w0 L N L' true w):At L0 w0 L' w:=by unfold TurnC at h;rwa [if_pos rfl] at h
theorem ZcV {C:Bool→World→Prop} (hw:Region.wanted o (yielded ops a.tmps)=true) (hnk:n≠k) {v:Value} (hrun:∀w,(execOp a.eval o).run P w=.ok (.value v) w) (hK:ZaT P md ops C k Q (n + 1) rest (a.put o.dst v)):
 ZaT P md ops C k Q n (o::rest) a:=by
 refine Zbu fun K hh=> ?_
 rw[hw];simp only[if_true];refine⟨v,fun c c' hR w hC=> ?_,hh _ hK⟩;unfold Oper.turnAt;rw[hrun w];refine⟨rfl,rfl,?_⟩;unfold leg at hR;rw[if_neg hnk] at hR
 split at hR
 · obtain⟨rfl,rfl⟩:=hR;exact hC
 subst hR;exact hC
theorem Zgs (hw:Region.wanted o (yielded ops a.tmps)=true) (hnk:n≠k) {v:Value} (h1:∀w,At L0 w0 L w→(execOp a.eval o).run P w=.ok (.value v) w) (h2:∀w,At L0 w0 L' w→(execOp a.eval o).run P w=.ok (.value v) w)
 (hK:ZaT P md ops (TurnC L0 w0 L N L') k Q (n + 1) rest (a.put o.dst v)):ZaT P md ops (TurnC L0 w0 L N L') k Q n (o::rest) a:=by
 refine Zbu fun K hh=> ?_
 rw[hw];simp only[if_true];refine⟨v,fun c c' hR w hC=> ?_,hh _ hK⟩
 have hrun:(execOp a.eval o).run P w=.ok (.value v) w:=by
  unfold TurnC at hC;cases c
  · exact h1 w (by simpa using hC.1)
  exact h2 w (by simpa using hC)
 unfold Oper.turnAt;rw[hrun];refine⟨rfl,rfl,?_⟩;unfold leg at hR;rw[if_neg hnk] at hR
 split at hR
 · obtain⟨rfl,rfl⟩:=hR;exact hC
 subst hR;exact hC
theorem ZjV (hw:Region.wanted o (yielded ops a.tmps)=true) (hnk:n≠k) (hwt:ZcG md ops k ops.size n=true) {v:Value} (h2:∀w,At L0 w0 L' w→(execOp a.eval o).run P w=.ok (.value v) w)
 (hK:ZaT P md ops (TurnC L0 w0 L N L') k Q (n + 1) rest (a.put o.dst v)):ZaT P md ops (TurnC L0 w0 L N L') k Q n (o::rest) a:=by
 refine Zbu fun K hh=> ?_
 rw[hw];simp only[if_true];refine⟨v,fun c c' hR w hC=> ?_,hh _ hK⟩;unfold leg at hR;rw[if_neg hnk,if_pos hwt] at hR;obtain⟨rfl,rfl⟩:=hR;unfold Oper.turnAt;rw[h2 w (Zgt hC)];exact⟨rfl,rfl,hC⟩
theorem ZjW (hw:Region.wanted o (yielded ops a.tmps)=true) (hnk:n=k) {v:Value} {f:FuncId} {args:Array Value} (hrun:∀w,(execOp a.eval o).run P w=.ok (.enter f args) w)
 (hc:∀w,At L0 w0 L w→w.heap.size=N→Calls P f args w fun e w'=>e=.returned v∧At L0 w0 L' w')
 (hK:ZaT P md ops (TurnC L0 w0 L N L') k Q (n + 1) rest (a.put o.dst v)):ZaT P md ops (TurnC L0 w0 L N L') k Q n (o::rest) a:=by
 refine Zbu fun K hh=> ?_
 rw[hw];simp only[if_true];refine⟨v,fun c c' hR w hC=> ?_,hh _ hK⟩;unfold leg at hR;rw[if_pos hnk] at hR;obtain⟨rfl,rfl⟩:=hR;unfold Oper.turnAt;rw[hrun w];unfold TurnC at hC;simp only[Bool.false_eq_true,if_false] at hC;refine⟨rfl,(hc w hC.1 hC.2).mono fun e w' ⟨he,h⟩=>⟨he,?_⟩⟩;unfold TurnC;rw[if_pos rfl];exact h
end
end
end
section
namespace Lock
open Go.RowKit
open Go.Maps (Keyed)
open Path (bl Zad overB)
def nullE:Ent:=⟨.empty,0,.empty,0,0,0⟩
theorem ZkZ {w:World} {b:Bk} (h:Sep [BookP b] w) {p:ByteArray} {n:Int} {f:ByteArray} (hp:p.size≤maxLen) (h0:0≤n) (h1:n < big64) (hf:f.size≤maxLen) (hn:find b.es p n f=none):
 Calls Tryz.prog 50 #[.pointer (some ⟨b.p,0,none⟩),.string p,.agg #[.int .u64 n,.string f]] w fun e w'=>e=.returned (.tuple #[nullE.val,.bool false])∧At [BookP b] w [BookP b] w':=by
 obtain⟨kl,hk⟩:=keyP hp h0 h1 hf;have hmiss:=Hd (find_none hn);have hA:=begin0 h;have hF:=hA.facts;clear h hn;obtain⟨hA,hF⟩:=fY hA
 unfold keyV at *
 go_enter Tryz.func50,Tryz.ntmps50
 go_wp2_with (first|((with_reducible refine gbx ?_);refine wCy hA ?_;clear hF hA;intro b1 w1 hA hb1 hF)|((with_reducible refine gal ?_);refine g5 hA ?_;clear hF hA;intro b1 w1 hA hb1 hF))
 have hB:=hA.alloc [.string ⟨#[]⟩,.int .u64 0,.string ⟨#[]⟩,.int .i64 0,.int .u64 0,.int .i64 0] 97
 have hl0:(Instr.lookup 201 (.map (some b.m)) (.agg #[.string p,.int .u64 n,.string f]) true).run Tryz.prog w1.drew=.ok (.tuple #[nullE.val,.bool false]) w1.drew:=
  MapAt.look_none (hA.drew.get (A:=mapC b.m (ents b.es)) sR) lawP Tryz.underlying201 hk hmiss.out (by kernel_rfl) true
 have hl1:(Instr.lookup 201 (.map (some b.m)) (.agg #[.string p,.int .u64 n,.string f]) true).run Tryz.prog (w1.alloc (.cells #[.string ⟨#[]⟩,.int .u64 0,.string ⟨#[]⟩,.int .i64 0,.int .u64 0,.int .i64 0] 97)).drew=.ok (.tuple #[nullE.val,.bool false]) (w1.alloc (.cells #[.string ⟨#[]⟩,.int .u64 0,.string ⟨#[]⟩,.int .i64 0,.int .u64 0,.int .i64 0] 97)).drew:=
  MapAt.look_none (hB.drew.get (A:=mapC b.m (ents b.es)) sR) lawP Tryz.underlying201 hk hmiss.out (by kernel_rfl) true
 unfold nullE Ent.val at hl0 hl1;clear hB
 go_region
 all_goals
  have hB:At [BookP b] w _ (w1.alloc (.cells #[.string .empty,.int .u64 0,.string .empty,.int .i64 0,.int .u64 0,.int .i64 0] 97)).drew:=(hA.alloc [.string .empty,.int .u64 0,.string .empty,.int .i64 0,.int .u64 0,.int .i64 0] 97).drew;clear hF hA hl0 hl1
  generalize (w1.alloc (.cells #[.string .empty,.int .u64 0,.string .empty,.int .i64 0,.int .u64 0,.int .i64 0] 97)).drew=w2 at *
  have hA:=hB;clear hB;obtain⟨hA,hF⟩:=fY hA
  go_wp2_with ((with_reducible refine gst ?_);refine wTy hA ?_;clear hF hA;intro w1 hA hF)
  refine bodyPost_ret (v:=.tuple #[nullE.val,.bool false]) (by simp[results,Tryz.results50,go_sem,hF,nullE,Ent.val]) rfl ⟨rfl,?_⟩;exact close0 b hA sR sR sR
theorem ZiS {w:World} {b:Bk} (h:Sep [BookP b] w) {p:ByteArray} {n:Int} {f:ByteArray} (hp:p.size≤maxLen) (h0:0≤n) (h1:n < big64) (hf:f.size≤maxLen) {x:Ent} (hn:find b.es p n f=some x):
 Calls Tryz.prog 50 #[.pointer (some ⟨b.p,0,none⟩),.string p,.agg #[.int .u64 n,.string f]] w fun e w'=>e=.returned (.tuple #[x.val,.bool true])∧At [BookP b] w [BookP b] w':=by
 obtain⟨kl,hk⟩:=keyP hp h0 h1 hf;have hmem:=Hd (find_mem hn);have hA:=begin0 h;have hF:=hA.facts;clear h hn;obtain⟨hA,hF⟩:=fY hA
 unfold keyV Ent.val at *
 go_enter Tryz.func50,Tryz.ntmps50
 go_wp2_with (first|((with_reducible refine gbx ?_);refine wCy hA ?_;clear hF hA;intro b1 w1 hA hb1 hF)|((with_reducible refine gal ?_);refine g5 hA ?_;clear hF hA;intro b1 w1 hA hb1 hF))
 (have hl0:(Instr.lookup 201 (.map (some b.m)) (.agg #[.string p,.int .u64 n,.string f]) true).run Tryz.prog w1.drew=.ok (.tuple #[.agg #[.string x.path,.int .u64 x.num,.string x.foot,.int .i64 x.mode,.int .u64 x.n,.int .i64 x.stamp],.bool true]) w1.drew:=MapAt.look_some (hA.drew.get (A:=mapC b.m (ents b.es)) sR) lawP Tryz.underlying201 hk hmem.out true);(have hl1:(Instr.lookup 201 (.map (some b.m)) (.agg #[.string p,.int .u64 n,.string f]) true).run Tryz.prog (w1.alloc (.cells #[.string ⟨#[]⟩,.int .u64 0,.string ⟨#[]⟩,.int .i64 0,.int .u64 0,.int .i64 0] 97)).drew=.ok (.tuple #[.agg #[.string x.path,.int .u64 x.num,.string x.foot,.int .i64 x.mode,.int .u64 x.n,.int .i64 x.stamp],.bool true]) (w1.alloc (.cells #[.string ⟨#[]⟩,.int .u64 0,.string ⟨#[]⟩,.int .i64 0,.int .u64 0,.int .i64 0] 97)).drew:=MapAt.look_some ((hA.alloc [.string ⟨#[]⟩,.int .u64 0,.string ⟨#[]⟩,.int .i64 0,.int .u64 0,.int .i64 0] 97).drew.get (A:=mapC b.m (ents b.es)) sR) lawP Tryz.underlying201 hk hmem.out true);go_region;all_goals((have hB:At [BookP b] w _ (w1.alloc (.cells #[.string x.path,.int .u64 x.num,.string x.foot,.int .i64 x.mode,.int .u64 x.n,.int .i64 x.stamp] 97)).drew:=(hA.alloc [.string x.path,.int .u64 x.num,.string x.foot,.int .i64 x.mode,.int .u64 x.n,.int .i64 x.stamp] 97).drew);(clear hF hA hl0 hl1);(generalize (w1.alloc (.cells #[.string x.path,.int .u64 x.num,.string x.foot,.int .i64 x.mode,.int .u64 x.n,.int .i64 x.stamp] 97)).drew=w2 at *);(have hA:=hB);(clear hB);obtain⟨hA,hF⟩:=fY hA)
 all_goals
  go_wp2_with ((with_reducible refine gst ?_);refine wTy hA ?_;clear hF hA;intro w1 hA hF)
  refine bodyPost_ret (v:=.tuple #[.agg #[.string x.path,.int .u64 x.num,.string x.foot,.int .i64 x.mode,.int .u64 x.n,.int .i64 x.stamp],.bool true]) (by simp[results,Tryz.results50,go_sem,hF]) rfl ⟨rfl,?_⟩;exact close0 b hA sR sR sR
end Lock
end
section
namespace Lock
open Go.RowKit
open Go.Maps (Keyed)
open Path (bl Zad overB)
def unE:Value × Value→Ent
 |(_,.agg #[.string p,.int _ n,.string f,.int _ m,.int _ k,.int _ s])=>⟨p,n,f,m,k,s⟩
 |_=>nullE
theorem Zhw (l:List Ent):(ents l).map unE=l:=by
 unfold ents;rw[List.map_map]
 conv=>rhs;rw[←List.map_id l]
 rfl
theorem ents_perm {l r:List Ent} (h:(ents l).Perm (ents r)):l.Perm r:=by
 have:=h.map unE
 rwa [Zhw,Zhw] at this
theorem ents_snoc (ds:List Ent) (s:Ent):ents ds++[ent s]=ents (ds++[s]):=by simp[ents]
theorem Zor {e:Ent} {l:List Ent} (h:ent e ∈ ents l):e ∈ l:=by
 have:=List.mem_map_of_mem (f:=unE) h
 rwa [Zhw] at this
def maxS (l:List Ent) (p:ByteArray):Int:=l.foldl (fun m e=>if overB (bl e.path) (bl p) then max m e.stamp else m) 0
theorem ZgR (l:List Ent) (e:Ent) (p:ByteArray):maxS (l++[e]) p=if overB (bl e.path) (bl p) then max (maxS l p) e.stamp else maxS l p:=by simp[maxS,List.foldl_append]
theorem ZgS {l r:List Ent} (h:l.Perm r) (p:ByteArray):maxS l p=maxS r p:=by
 unfold maxS;refine h.foldl_eq' (fun x _ y _ z=> ?_) 0
 split<;>split<;>omega
theorem Zdn {l:List Ent} {p:ByteArray} {B:Int} (hB:0≤B) (h:∀e ∈ l,e.stamp≤B):0≤maxS l p∧maxS l p≤B:=by
 have:∀(l:List Ent) (m:Int),(∀e ∈ l,e.stamp≤B)→0≤m→m≤B→0≤l.foldl (fun m e=>if overB (bl e.path) (bl p) then max m e.stamp else m) m∧l.foldl (fun m e=>if overB (bl e.path) (bl p) then max m e.stamp else m) m≤B:=by
  intro l
  induction l with
  |nil=>intro m _ h1 h2;exact⟨h1,h2⟩
  |cons e l ih=>
   intro m hl h1 h2;have:=hl e (by simp);rw[List.foldl_cons]
   refine ih _ (fun x hx=>hl x (by simp[hx])) ?_ ?_<;>split<;>omega
 exact this l 0 h (Int.le_refl 0) hB
def Za1 (l:List Ent) (e:Ent):Bool:=l.all (fun x=> !(decide (x.stamp < e.stamp)&&wayB x e))
theorem ZeK {l r:List Ent} (h:l.Perm r) (e:Ent):Za1 l e=Za1 r e:=h.all_eq
def StRel (b:Bk) (r:Nat) (p:ByteArray) (w:World) (k:Nat) (v:Value) (wr:World):Prop:=
 ∃ds:List Ent,At [BookP b] w [Part.iter Tryz.prog 203 r b.m (ents b.es) (ents ds),headC b.p b.m b.c b.first,ctrC b.c (ctrs b.cs)] wr∧(∀s ∈ ds,s ∈ b.es)∧v=.int .i64 (maxS ds p)∧ds.length + k=b.es.length
theorem Zgz {w:World} {b:Bk} (h:Sep [BookP b] w) (p:ByteArray) (hp:p.size≤1000000) (hok:∀x ∈ b.es,x.path.size≤1000000∧x.stamp≤1000000000):
 Calls Tryz.prog 288 #[.pointer (some ⟨b.p,0,none⟩),.string p] w fun e w'=>e=.returned (.int .i64 (maxS b.es p + 1))∧At [BookP b] w [BookP b] w':=by
 have hA:=begin0 h;obtain⟨hA,hF⟩:=fY hA;clear h
 go_enter Tryz.func288,Tryz.ntmps288
 go_wp2_with (refine ZaV rfl rfl rfl hA sR Tryz.underlying201 ?_;intro r w1 hB hr;clear hF hA;have hA:=hB;clear hB;obtain⟨hA,hF⟩:=fY hA)
 go_frame
 go_loopg [5] b.es.length (StRel b r p w)
 case atStart=>exact⟨[],hA,nofun,by simp[maxS],by simp⟩
 case round=>
  obtain⟨ds,hA2,hds,rfl,hk⟩:=hrel;clear hF hA;have hA:=hA2;clear hA2;obtain⟨hA,hF⟩:=fY hA
  go_step
  go_step
  refine Za9 rfl rfl rfl hA sR (fun hp=> ?_) (fun q w1 hq hd hB=> ?_)
  · have hc:=Hd (ZgS (ents_perm hp) p)
    have hb:=Zdn (p:=p) (B:=1000000000) (by omega) (fun e he=>(hok e (hds e he)).2);have hM:=At.ranged hA sR;clear hp
    go_wp2_with fail
    go_ret;exact⟨by rw[hc.out];rfl,close0 b hM sR sR sR⟩
  obtain⟨s,hs,rfl⟩:=List.mem_map.1 hq
  have hI:Zas Tryz.prog 203 w1 r b.m (ents b.es) (ents ds++[ent s]):=hB.get (A:=Part.iter _ _ r b.m (ents b.es) (ents ds++[ent s])) sR;have hen:=hI.entry
  have hlen:(ds++[s]).length≤b.es.length:=by have:=hI.len;simpa [ents] using this
  have hsub:∀x ∈ ds++[s],x ∈ b.es:=fun x hx=>by
   rcases List.mem_append.1 hx with hx|hx
   · exact hds x hx
   have:x=s:=by simpa using hx
   rw[this];exact hs
  rw[ents_snoc] at hB;have hb:=Zdn (p:=p) (B:=1000000000) (by omega) (fun e he=>(hok e (hds e he)).2);obtain⟨hs1,hs2⟩:=hok s hs;clear hF hA;have hA:=hB;have hk':=Hd hk;have hsub':=Hd hsub;have hsn:=ZgR ds s p
  have ho:=fun w=>Path.Zes s.path p w (by omega) (by omega)
  simp only[List.length_append,List.length_cons,List.length_nil,Nat.zero_add] at hlen;clear hI hB hk hsub hds hq hd hs;obtain⟨hA,hF⟩:=fY hA;simp only[ent,Ent.key,Ent.val,keyV] at hen
  generalize overB (bl s.path) (bl p)=ob at *
  generalize maxS ds p=mx at *
  have hsn':=Hd hsn;clear hsn
  go_wp2_with (first|((with_reducible refine gst ?_);refine wTy hA ?_;clear hF hA;intro w1 hA hF)|((with_reducible refine gal ?_);refine g5 hA ?_;clear hF hA;intro b1 w1 hA hb1 hF))
  refine(ho _).mono ?_;clear ho;rintro e w2 ⟨rfl,hx⟩;replace hA:=hA.ext hx;clear hF hx;obtain⟨hA,hF⟩:=fY hA;cases ob
  all_goals
   go_wp2_with fail
   go_roundg (gk - 1)
   case measure=>have:=hk'.out;omega
   case rel=>exact⟨ds++[s],hA.only3 sR sR sR,hsub'.out,by rw[hsn'.out];rfl,by have:=hk'.out;simp;omega⟩
end Lock
end
section
namespace Lock
open Go.RowKit
open Go.Maps (Keyed)
open Path (bl Zad overB)
theorem ZjH {l:List Ent} {x e:Ent} (h:x ∈ l) (h1:x.stamp < e.stamp) (h2:wayB x e=true):Za1 l e=false:=by
 unfold Za1;rw[List.all_eq_false];exact⟨x,h,by simp[h1,h2]⟩
theorem Zib (l:List Ent) (x e:Ent):Za1 (l++[x]) e=(Za1 l e&& !(decide (x.stamp < e.stamp)&&wayB x e)):=by simp[Za1]
def ClRel (b:Bk) (r bE:Nat) (e:Ent) (w:World) (k:Nat) (wr:World):Prop:=
 ∃ds:List Ent,At [BookP b] w [Part.iter Tryz.prog 203 r b.m (ents b.es) (ents ds),headC b.p b.m b.c b.first,ctrC b.c (ctrs b.cs),Part.cells bE [.string e.path,.int .u64 e.num,.string e.foot,.int .i64 e.mode,.int .u64 e.n,.int .i64 e.stamp] 97] wr∧(∀s ∈ ds,s ∈ b.es)∧Za1 ds e=true∧ds.length + k=b.es.length
theorem ZeJ {w:World} {b:Bk} (h:Sep [BookP b] w) (e:Ent) (he:e.path.size≤1000000) (hok:∀x ∈ b.es,x.path.size≤1000000):
 Calls Tryz.prog 128 #[.pointer (some ⟨b.p,0,none⟩),.agg #[.string e.path,.int .u64 e.num,.string e.foot,.int .i64 e.mode,.int .u64 e.n,.int .i64 e.stamp]] w fun o w'=>o=.returned (.bool (Za1 b.es e))∧At [BookP b] w [BookP b] w':=by
 have hA:=begin0 h;obtain⟨hA,hF⟩:=fY hA;clear h
 go_enter Tryz.func128,Tryz.ntmps128
 go_wp2_with (first|((with_reducible refine gbx ?_);refine wCy (E:=97) hA ?_;clear hF hA;intro bE w1 hA hbE hF)|(refine ZaV rfl rfl rfl hA sR Tryz.underlying201 ?_;intro r w1 hB hr;clear hF hA;have hA:=hB;clear hB;obtain⟨hA,hF⟩:=fY hA))
 go_frame
 go_loopg [] b.es.length (ClRel b r bE e w)
 case atStart=>exact⟨[],hA.pick pZ,nofun,rfl,by simp⟩
 case round=>
  obtain⟨ds,hA2,hds,hcl,hk⟩:=hrel;clear hF hA;have hA:=hA2;clear hA2;obtain⟨hA,hF⟩:=fY hA
  go_step
  go_step
  refine Za9 rfl rfl rfl hA sR (fun hp=> ?_) (fun q w1 hq hd hB=> ?_)
  · have hc:=Hd ((ZeK (ents_perm hp) e).trans hcl)
    have hM:=At.ranged hA sR;clear hp hcl
    go_wp2_with fail
    go_ret;exact⟨by rw[hc.out];rfl,close0 b hM sR sR sR⟩
  obtain⟨s,hs,rfl⟩:=List.mem_map.1 hq
  have hI:Zas Tryz.prog 203 w1 r b.m (ents b.es) (ents ds++[ent s]):=hB.get (A:=Part.iter _ _ r b.m (ents b.es) (ents ds++[ent s])) sR;have hen:=hI.entry
  have hlen:(ds++[s]).length≤b.es.length:=by have:=hI.len;simpa [ents] using this
  have hsub:∀x ∈ ds++[s],x ∈ b.es:=fun x hx=>by
   rcases List.mem_append.1 hx with hx|hx
   · exact hds x hx
   have:x=s:=by simpa using hx
   rw[this];exact hs
  rw[ents_snoc] at hB;have hs1:=hok s hs;clear hF hA;have hA:=hB;have hk':=Hd hk;have hsub':=Hd hsub;have hsn:=Hd (Zib ds s e);have hcl':=Hd hcl;have hbad:=Hd (fun h1 h2=>ZjH (e:=e) hs h1 h2)
  have ho:=fun w=>ZnK s e w hs1 he
  simp only[List.length_append,List.length_cons,List.length_nil,Nat.zero_add] at hlen;clear hI hB hk hsub hds hq hd hs hcl;obtain⟨hA,hF⟩:=fY hA;simp only[ent,Ent.key,Ent.val,keyV] at hen ho
  by_cases hlt:s.stamp < e.stamp
  · have hlt':=Hd hlt
    obtain⟨wb,hwb⟩:∃wb,wayB s e=wb:=⟨_,rfl⟩
    rw[hwb] at ho;have hwb':=Hd hwb;clear hwb
    go_wp2_with (first|((with_reducible refine gst ?_);refine wTy hA ?_;clear hF hA;intro w1 hA hF)|((with_reducible refine gal ?_);refine g5 hA ?_;clear hF hA;intro b1 w1 hA hb1 hF))
    refine(ho _).mono ?_;clear ho;rintro o w2 ⟨rfl,hx⟩;replace hA:=hA.ext hx;clear hF hx;obtain⟨hA,hF⟩:=fY hA;cases wb
    · go_wp2_with fail
      go_roundg (gk - 1)
      case measure=>have:=hk'.out;omega
      case rel=>exact⟨ds++[s],hA.pick pR,hsub'.out,by rw[hsn.out,hcl'.out,hwb'.out];simp,by have:=hk'.out;simp;omega⟩
    have hM:=At.ranged hA sR;have hc:=Hd (hbad.out hlt'.out hwb'.out)
    go_wp2_with fail
    go_ret;exact⟨by rw[hc.out];rfl,close0 b hM sR sR sR⟩
  have hlt':=Hd hlt
  go_wp2_with (first|((with_reducible refine gst ?_);refine wTy hA ?_;clear hF hA;intro w1 hA hF)|((with_reducible refine gal ?_);refine g5 hA ?_;clear hF hA;intro b1 w1 hA hb1 hF))
  go_roundg (gk - 1)
  case measure=>have:=hk'.out;omega
  case rel=>exact⟨ds++[s],hA.pick pR,hsub'.out,by rw[hsn.out,hcl'.out,decide_eq_false (show ¬s.stamp < e.stamp by have:=hlt'.out;omega)];simp,by have:=hk'.out;simp;omega⟩
end Lock
end
section
namespace Lock
open Go.RowKit
open Go.Maps (Keyed)
open Path (bl Zad overB)
theorem same_ba (f g:ByteArray):(f.toList==g.toList)=decide (f=g):=by
 rw[Path.eqB]
 by_cases h:f=g
 · subst h;simp
 rw[decide_eq_false h,decide_eq_false];intro e
 apply h
 unfold bl at e
 have:f.data=g.data:=by rw[←Array.toList_inj];exact e
 cases f;cases g;simp_all
theorem sameS (a c:Int) (f g:ByteArray) (w:World):(Op.equalIn 10000 25 (.agg #[.int .u64 a,.string f]) (.agg #[.int .u64 c,.string g])).run Tryz.prog w=.ok (decide (a=c∧f=g)) w:=by
 rw[run_equalIn_agg _ 9999 _ _ _ (by kernel_rfl) (by kernel_rfl)];simp[go_sem,Op.eqFields,same_ba]
 by_cases h1:a=c<;>by_cases h2:f=g<;>simp[h1,h2]
@[local go_sem] theorem ZnB (op:BinOp) (x y:Operand) (a c:Int) (f g:ByteArray) (w:World):(eqGuard op 25 x y (.agg #[.int .u64 a,.string f]) (.agg #[.int .u64 c,.string g])).run Tryz.prog w=.ok () w:=run_eqGuard_agg _ _ _ _ _ _ _ (by kernel_rfl)
@[local go_sem] theorem eqlS (a c:Int) (f g:ByteArray) (w:World):(binOp .eql 25 (.agg #[.int .u64 a,.string f]) (.agg #[.int .u64 c,.string g])).run Tryz.prog w=.ok (.bool (decide (a=c∧f=g))) w:=by
 rw[run_eql_struct,sameS];rfl
theorem sameE (x y:Ent) (w:World):(Op.equalIn 10000 97 x.val y.val).run Tryz.prog w=.ok (decide (x=y)) w:=by
 unfold Ent.val;rw[run_equalIn_agg _ 9999 _ _ _ (by kernel_rfl) (by kernel_rfl)];obtain⟨p1,n1,f1,m1,k1,s1⟩:=x;obtain⟨p2,n2,f2,m2,k2,s2⟩:=y;simp[go_sem,Op.eqFields,same_ba]
 by_cases h1:p1=p2<;>by_cases h2:n1=n2<;>by_cases h3:f1=f2<;>by_cases h4:m1=m2<;>by_cases h5:k1=k2<;>by_cases h6:s1=s2<;>simp[h1,h2,h3,h4,h5,h6]
@[local go_sem] theorem guardE (op:BinOp) (x y:Operand) (c1 c2 c3 c4 c5 c6 d1 d2 d3 d4 d5 d6:Value) (w:World):(eqGuard op 97 x y (.agg #[c1,c2,c3,c4,c5,c6]) (.agg #[d1,d2,d3,d4,d5,d6])).run Tryz.prog w=.ok () w:=run_eqGuard_agg _ _ _ _ _ _ _ (by kernel_rfl)
theorem eqlE (x y:Ent) (w:World):(binOp .eql 97 x.val y.val).run Tryz.prog w=.ok (.bool (decide (x=y))) w:=by
 have:=sameE x y w
 unfold Ent.val at *
 rw[run_eql_struct,this];rfl
end Lock
end
end Go.Proofs.YtkdjkngfnapjcaaGreatDoor
