/- PathL, LockM, LockW, LockV, LockC, LockD, LockE, MapD, LockF, LockP, TakB, joined. -/
import Derived.Test.YtkdjkngfnapjcaaGreatDoorQ11
import Derived.Test.YtkdjkngfnapjcaaGreatDoorQ3
import Derived.Test.YtkdjkngfnapjcaaGreatDoorChecked
import Derived.StringKeys
import Derived.Test.YtkdjkngfnapjcaaGreatDoorQ6
import Derived.Deep.LoopGhost
import Derived.Test.YtkdjkngfnapjcaaGreatDoorQ4
set_option linter.unusedSimpArgs false
set_option linter.unusedVariables false
set_option maxRecDepth 100000
set_option maxHeartbeats 16000000
namespace Go.Proofs.YtkdjkngfnapjcaaGreatDoor
section
namespace Path
open Go.RowKit
theorem eqB (s q:ByteArray):(s.toList==q.toList)=decide (bl s=bl q):=by
 rw[Lib.toList_data,Lib.toList_data];cases h:(s.data.toList==q.data.toList)
 · symm;simpa using h
 symm;simpa using h
theorem right_any (s:ByteArray) (w:World) (hs:s.size≤2000000):Calls Tryz.prog 84 #[.string s] w fun e w'=>e=.returned (.bool (Zad (bl s)))∧Ext w w':=by
 have hr:=Zji (bl s)
 go_enter Tryz.func84,Tryz.ntmps84
 go_wp2_with fail
 refine(Zjp s w hs).mono ?_;rintro e w1 ⟨q,rfl,hq,hx⟩;rw[←hq] at hr;have heq:=eqB s q
 obtain⟨n2,hn2⟩:∃n,(normL (bl s)).2=n:=⟨_,rfl⟩
 rw[hn2] at hr ⊢;clear hn2 hq
 by_cases h0:n2=0
 · subst h0
   by_cases h1:bl s=bl q
   · have hb:Zad (bl s)=true:=hr.1 ⟨rfl,h1.symm⟩
     rw[decide_eq_true h1] at heq;have hb':=Hd hb;clear hb hr h1
     go_wp2_with fail
     go_ret;exact⟨by rw[hb'.out];rfl,hx⟩
   have hb:Zad (bl s)=false:=by
    cases hb:Zad (bl s)
    · rfl
    exact absurd (hr.2 hb).2.symm h1
   rw[decide_eq_false h1] at heq;have hb':=Hd hb;clear hb hr h1
   go_wp2_with fail
   go_ret;exact⟨by rw[hb'.out];rfl,hx⟩
 have hb:Zad (bl s)=false:=by
  cases hb:Zad (bl s)
  · rfl
  exact absurd (hr.2 hb).1 h0
 have hb':=Hd hb
 have h0':(n2==0)=false:=by simpa using h0
 clear hb hr h0 heq
 go_wp2_with fail
 go_ret;exact⟨by rw[hb'.out];rfl,hx⟩
theorem Zbt {s:ByteArray} {b:Bool} (w:World) (hs:s.size≤2000000) (hb:Zad (bl s)=b):Calls Tryz.prog 84 #[.string s] w fun e w'=>e=.returned (.bool b)∧Ext w w':=hb ▸ right_any s w hs
theorem pre_is (q p:ByteArray) (w:World):Calls Tryz.prog 212 #[.string q,.string p] w fun e w'=>e=.returned (.bool ((bl p).isPrefixOf (bl q)))∧w=w':=
 (Tryz.strings_HasPrefix q p w).mono fun _ _ ⟨he,hw⟩=>⟨he,hw.symm⟩
theorem Zez (p q:ByteArray) (w:World) (hp:p.size≤2000000) (hq:q.size≤2000000):Calls Tryz.prog 159 #[.string p,.string q] w fun e w'=>e=.returned (.bool (Zaw (bl p) (bl q)))∧Ext w w':=by
 have heq:=eqB p q;cases h1:Zad (bl p)
 · have hb:=Hd (show Zaw (bl p) (bl q)=false by simp[Zaw,h1])
   clear heq
   go_enter Tryz.func159,Tryz.ntmps159
   go_wp2_with fail
   refine(Zbt w hp h1).mono ?_;rintro e w1 ⟨rfl,hx⟩
   go_wp2_with fail
   go_ret;exact⟨by rw[hb.out];rfl,hx⟩
 cases h2:Zad (bl q)
 · have hb:=Hd (show Zaw (bl p) (bl q)=false by simp[Zaw,h1,h2])
   clear heq
   go_enter Tryz.func159,Tryz.ntmps159
   go_wp2_with fail
   refine(Zbt w hp h1).mono ?_;rintro e w1 ⟨rfl,hx⟩
   go_wp2_with fail
   refine(Zbt w1 hq h2).mono ?_;rintro e w2 ⟨rfl,hx2⟩
   go_wp2_with fail
   go_ret;exact⟨by rw[hb.out];rfl,hx.trans hx2⟩
 by_cases h3:bl p=bl q
 · have hb:=Hd (show Zaw (bl p) (bl q)=true by simp[Zaw,h1,h2,h3])
   rw[decide_eq_true h3] at heq;clear h3
   go_enter Tryz.func159,Tryz.ntmps159
   go_wp2_with fail
   refine(Zbt w hp h1).mono ?_;rintro e w1 ⟨rfl,hx⟩
   go_wp2_with fail
   refine(Zbt w1 hq h2).mono ?_;rintro e w2 ⟨rfl,hx2⟩
   go_wp2_with fail
   go_ret;exact⟨by rw[hb.out];rfl,hx.trans hx2⟩
 have hb:=Hd (show Zaw (bl p) (bl q)=(bl p++[47]).isPrefixOf (bl q) by simp[Zaw,h1,h2,h3]);rw[decide_eq_false h3] at heq;clear h3
 go_enter Tryz.func159,Tryz.ntmps159
 go_wp2_with fail
 refine(Zbt w hp h1).mono ?_;rintro e w1 ⟨rfl,hx⟩
 go_wp2_with fail
 refine(Zbt w1 hq h2).mono ?_;rintro e w2 ⟨rfl,hx2⟩
 go_wp2_with fail
 refine(pre_is _ _ _).mono ?_;rintro e _ ⟨rfl,rfl⟩
 have hpa:bl (p++⟨#[47]⟩)=bl p++[47]:=by simp[bl]
 rw[hpa,←hb.out];clear hpa
 obtain⟨bb,hbb⟩:∃b,Zaw (bl p) (bl q)=b:=⟨_,rfl⟩
 rw[hbb];have hbb':=Hd hbb;clear hb hbb;cases bb
 all_goals
  go_wp2_with fail
  go_ret;exact⟨by rw[hbb'.out];rfl,hx.trans hx2⟩
theorem Zef (p q:ByteArray) (w:World) (hp:p.size≤2000000) (hq:q.size≤2000000):Calls Tryz.prog 103 #[.string p,.string q] w fun e w'=>e=.returned (.bool (overB (bl p) (bl q)))∧Ext w w':=by
 have h1:=Zez p q w hp hq
 have h2:=fun w=>Zez q p w hq hp
 have ho:overB (bl p) (bl q)=(Zaw (bl p) (bl q) || Zaw (bl q) (bl p)):=rfl;rw[ho];clear ho
 generalize Zaw (bl p) (bl q)=b1 at *
 generalize Zaw (bl q) (bl p)=b2 at *
 cases b1
 · go_enter Tryz.func103,Tryz.ntmps103
   go_wp2_with fail
   refine h1.mono ?_;clear h1;rintro e w1 ⟨rfl,hx⟩
   go_wp2_with fail
   refine(h2 w1).mono ?_;clear h2;rintro e w2 ⟨rfl,hx2⟩;cases b2
   all_goals
    go_wp2_with fail
    go_ret;exact⟨rfl,hx.trans hx2⟩
 go_enter Tryz.func103,Tryz.ntmps103
 go_wp2_with fail
 refine h1.mono ?_;clear h1;rintro e w1 ⟨rfl,hx⟩
 go_wp2_with fail
 go_ret;exact⟨rfl,hx⟩
end Path
end
section
namespace Lock
open Go.RowKit
open Go.Maps (Keyed)
open Path (bl Zad overB)
structure Ent where
 path:ByteArray
 num:Int
 foot:ByteArray
 mode:Int
 n:Int
 stamp:Int
deriving DecidableEq
def keyV (p:ByteArray) (n:Int) (f:ByteArray):Value:=.agg #[.string p,.int .u64 n,.string f]
def Ent.key (e:Ent):Value:=keyV e.path e.num e.foot
def Ent.cells (e:Ent):List Value:=[.string e.path,.int .u64 e.num,.string e.foot,.int .i64 e.mode,.int .u64 e.n,.int .i64 e.stamp]
def Ent.val (e:Ent):Value:=.agg #[.string e.path,.int .u64 e.num,.string e.foot,.int .i64 e.mode,.int .u64 e.n,.int .i64 e.stamp]
def ent (e:Ent):Value × Value:=(e.key,e.val)
def ents (l:List Ent):List (Value × Value):=l.map ent
def ctrE (c:ByteArray × Int):Value × Value:=(.string c.1,.int .u64 c.2)
def ctrs (l:List (ByteArray × Int)):List (Value × Value):=l.map ctrE
abbrev headC (p m c:Nat) (first:Int):Part:=Part.cells p [.int .u64 first,.map (some m),.map (some c)] 206
abbrev mapC (m:Nat) (es:List (Value × Value)):Part:=Part.map Tryz.prog 203 m es
abbrev ctrC (c:Nat) (cs:List (Value × Value)):Part:=Part.map Tryz.prog 9 c cs
structure Bk where
 p:Nat
 m:Nat
 c:Nat
 first:Int
 es:List Ent
 cs:List (ByteArray × Int)
def BookP (b:Bk):Part:=Part.all [headC b.p b.m b.c b.first,mapC b.m (ents b.es),ctrC b.c (ctrs b.cs)]
theorem eqv0 (b:Bk) (F:List Part):Eqv (BookP b::F) (headC b.p b.m b.c b.first::mapC b.m (ents b.es)::ctrC b.c (ctrs b.cs)::F):=Eqv.all [headC b.p b.m b.c b.first,mapC b.m (ents b.es),ctrC b.c (ctrs b.cs)] F
theorem begin0 {w:World} {b:Bk} (h:Sep [BookP b] w):At [BookP b] w [headC b.p b.m b.c b.first,mapC b.m (ents b.es),ctrC b.c (ctrs b.cs)] w:=(At.start h).to (eqv0 b [])
theorem open0 {L0 L F:List Part} {w0 w:World} {b:Bk} (h:At L0 w0 L w) (q:Sel (BookP b) L F):At L0 w0 (headC b.p b.m b.c b.first::mapC b.m (ents b.es)::ctrC b.c (ctrs b.cs)::F) w:=(h.take q).to (eqv0 b F)
theorem fold0 {L0 L F G H:List Part} {w0 w:World} (b:Bk) (h:At L0 w0 L w) (s1:Sel (headC b.p b.m b.c b.first) L F) (s2:Sel (mapC b.m (ents b.es)) F G) (s3:Sel (ctrC b.c (ctrs b.cs)) G H):At L0 w0 (BookP b::H) w:=
 (h.perm (s1.perm.trans ((s2.perm.trans (s3.perm.cons _)).cons _))).to (eqv0 b H).symm
theorem close0 {L0 L F G H:List Part} {w0 w:World} (b:Bk) (h:At L0 w0 L w) (s1:Sel (headC b.p b.m b.c b.first) L F) (s2:Sel (mapC b.m (ents b.es)) F G) (s3:Sel (ctrC b.c (ctrs b.cs)) G H):At L0 w0 [BookP b] w:=(fold0 b h s1 s2 s3).only1 .here
theorem laidOut:laidOutB Tryz.prog=true:=by kernel_rfl
theorem wideP:(match Tryz.prog.underlying 203 with|some (.array _ _)|some (.struct _)=>true|_=>false)=true:=by kernel_rfl
theorem rowP:(203:TypeId) < Tryz.prog.types.size:=of_decide_eq_true (by kernel_rfl)
theorem lawP:Keyed Tryz.prog 203:=Keyed.of_law (deep_law_laid laidOut (m:=3) (by omega) rowP (by kernel_rfl) wideP)
theorem lawT:Keyed Tryz.prog 9:=Go.Maps.string_keyed Tryz.underlying9
theorem Zmb:Tryz.prog.keyType 203=true:=by kernel_rfl
theorem Zm4:Tryz.prog.cellsOf 203=3:=by kernel_rfl
theorem cellsS:Tryz.prog.cellsOf 25=2:=by kernel_rfl
theorem cellsU:Tryz.prog.cellsOf 23=1:=by kernel_rfl
theorem cellsStr:Tryz.prog.cellsOf 9=1:=by kernel_rfl
theorem ZnR (c0 c1 c2:Value):(Value.agg #[c0,c1,c2]).formed Tryz.prog 203=true:=by simp[Value.formed,Tryz.underlying203,Zm4]
def big64:Int:=18446744073709551616
theorem keyP {p:ByteArray} {n:Int} {f:ByteArray} (hp:p.size≤maxLen) (h0:0≤n) (h1:n < big64) (hf:f.size≤maxLen):∃l,keyOf Tryz.prog 203 (keyV p n f)=some l:=by
 have hw:(Lit.int .u64 n).wf=true:=by simp[Lit.wf,IntKind.min,IntKind.max,IntKind.signed,IntKind.bits];unfold big64 at h1;omega
 obtain⟨d,hd⟩:∃d,Tryz.prog.types.size=d + 2:=⟨Tryz.prog.types.size - 2,by have:2≤Tryz.prog.types.size:=of_decide_eq_true (by kernel_rfl);omega⟩
 have hl:Tryz.prog.keyLits (Tryz.prog.types.size + 1) 203 [.string p,.int .u64 n,.string f]=some [.string p.data.toList,.int .u64 n,.string f.data.toList]:=by
  rw[hd];simp[Program.keyLits,Tryz.underlying203,Tryz.underlying25,Tryz.underlying23,Tryz.underlying9,Zm4,cellsS,cellsU,cellsStr,hw,hf,hp];rw[if_pos (by decide)]
  rfl
 exact⟨.string (keyBytes [.string p.data.toList,.int .u64 n,.string f.data.toList]),by
  unfold keyOf;rw[Tryz.underlying203];simp only[Zmb,keyV,ZnR,Bool.and_self,if_true];rw[show(Value.agg #[.string p,.int .u64 n,.string f]).cells.toList=[.string p,.int .u64 n,.string f] from rfl,hl]
  rfl⟩
theorem keyT {p:ByteArray} (hp:p.size≤maxLen):∃l,keyOf Tryz.prog 9 (.string p)=some l:=⟨_,WideMaps.keyOf_string_mk Tryz.underlying9 hp⟩
def Ent.is (e:Ent) (p:ByteArray) (n:Int) (f:ByteArray):Bool:=decide (e.path=p∧e.num=n∧e.foot=f)
def find (es:List Ent) (p:ByteArray) (n:Int) (f:ByteArray):Option Ent:=es.find? (·.is p n f)
theorem find_split {es:List Ent} {p:ByteArray} {n:Int} {f:ByteArray} {e:Ent} (h:find es p n f=some e):∃l1 l2,es=l1++e::l2∧e.path=p∧e.num=n∧e.foot=f∧∀x ∈ l1,x.is p n f=false:=by
 obtain⟨h1,l1,l2,h2,h3⟩:=List.find?_eq_some_iff_append.1 h
 have h4:e.path=p∧e.num=n∧e.foot=f:=by simpa [Ent.is] using h1
 exact⟨l1,l2,h2,h4.1,h4.2.1,h4.2.2,fun x hx=>by simpa using h3 x hx⟩
theorem find_none {es:List Ent} {p:ByteArray} {n:Int} {f:ByteArray} (h:find es p n f=none):∀q ∈ ents es,q.1≠keyV p n f:=by
 intro q hq;obtain⟨e,he,rfl⟩:=List.mem_map.1 hq
 have h1:¬e.is p n f=true:=List.find?_eq_none.1 h e he
 intro q2
 apply h1
 simp[ent,Ent.key,keyV] at q2;simp[Ent.is,q2]
theorem find_mem {es:List Ent} {p:ByteArray} {n:Int} {f:ByteArray} {e:Ent} (h:find es p n f=some e):(keyV p n f,e.val) ∈ ents es:=by
 obtain⟨l1,l2,rfl,rfl,rfl,rfl,_⟩:=find_split h;simp[ents,ent,Ent.key]
def ctr (cs:List (ByteArray × Int)) (p:ByteArray):Option Int:=(cs.find? (·.1=p)).map (·.2)
def counter (first:Int) (cs:List (ByteArray × Int)) (p:ByteArray):Int:=(ctr cs p).getD first
theorem Zf5 {cs:List (ByteArray × Int)} {p:ByteArray} (h:ctr cs p=none):∀q ∈ ctrs cs,q.1≠.string p:=by
 intro q hq;obtain⟨s,hs,rfl⟩:=List.mem_map.1 hq;unfold ctr at h
 simp at h
 intro e;simp[ctrE] at e;exact h s.1 s.2 hs e
theorem ZkS {cs:List (ByteArray × Int)} {p:ByteArray} {n:Int} (h:ctr cs p=some n):(.string p,.int .u64 n) ∈ ctrs cs:=by
 unfold ctr at h;simp only[Option.map_eq_some_iff] at h;obtain⟨q,h1,h2⟩:=h;have h3:=List.find?_some h1;have h4:=List.mem_of_find?_eq_some h1;refine List.mem_map.2 ⟨q,h4,?_⟩
 simp at h3
 simp[ctrE,h3,h2]
def wayB (a b:Ent):Bool:=(decide (a.mode=2) || decide (b.mode=2))&&overB (bl a.path) (bl b.path)
end Lock
end
section
namespace Lock
open Go.RowKit
open Go.Maps (Keyed)
open Path (bl Zad overB)
def NewPost (first:Int) (w:World) (e:Ending) (w':World):Prop:=∃b:Bk,e=.returned (.pointer (some ⟨b.p,0,none⟩))∧b.first=first∧b.es=[]∧b.cs=[]∧At [] w [BookP b] w'
theorem new_any (w:World) (first:Int):Calls Tryz.prog 111 #[.int .u64 first] w (NewPost first w):=by
 have hA:At [] w [] w:=At.start (L0:=[]) trivial;have hF:=hA.facts
 go_enter Tryz.func111,Tryz.ntmps111
 go_wp2_with (first|((with_reducible refine gbx ?_);refine wCy hA ?_;clear hF hA;intro b1 w1 hA hb1 hF)|(refine ZaJ Tryz.prog 203 rfl rfl hA ?_;intro b1 w1 hB hb1;clear hF hA;have hA:=hB;clear hB;obtain⟨hA,hF⟩:=fY hA;refine ZaJ Tryz.prog 9 rfl rfl hA ?_;intro b2 w1 hB hb2;clear hF hA;have hA:=hB;clear hB;obtain⟨hA,hF⟩:=fY hA))
 go_ret;exact⟨⟨_,_,_,first,[],[]⟩,rfl,rfl,rfl,rfl,close0 ⟨_,_,_,first,[],[]⟩ hA sR sZ sZ⟩
theorem Zg2 {w:World} {b:Bk} (h:Sep [BookP b] w) {p:ByteArray} (hp:p.size≤maxLen) (hn:ctr b.cs p=none):
 Calls Tryz.prog 289 #[.pointer (some ⟨b.p,0,none⟩),.string p] w fun e w'=>e=.returned (.int .u64 b.first)∧At [BookP b] w [BookP b] w':=by
 obtain⟨kl,hk⟩:=keyT hp;have hmiss:=Hd (Zf5 hn);have hA:=begin0 h;have hF:=hA.facts;clear h hn;obtain⟨hA,hF⟩:=fY hA
 go_enter Tryz.func289,Tryz.ntmps289
 go_wp2_with (refine Zbz rfl rfl rfl (by(try simp only[Act.eval,eV])<;>exact rfl) hA (k:=9) (es:=ctrs b.cs) sR lawT Tryz.underlying204 hk hmiss.out (z:=.int .u64 0) (fun _=>by kernel_rfl) ?_)
 go_ret;exact⟨rfl,close0 b hA sR sR sR⟩
theorem Zg1 {w:World} {b:Bk} (h:Sep [BookP b] w) {p:ByteArray} (hp:p.size≤maxLen) {n:Int} (hn:ctr b.cs p=some n):
 Calls Tryz.prog 289 #[.pointer (some ⟨b.p,0,none⟩),.string p] w fun e w'=>e=.returned (.int .u64 n)∧At [BookP b] w [BookP b] w':=by
 obtain⟨kl,hk⟩:=keyT hp;have hmem:=Hd (ZkS hn);have hA:=begin0 h;have hF:=hA.facts;clear h hn;obtain⟨hA,hF⟩:=fY hA
 go_enter Tryz.func289,Tryz.ntmps289
 go_wp2_with (refine Zby rfl rfl rfl (by(try simp only[Act.eval,eV])<;>exact rfl) hA (k:=9) (es:=ctrs b.cs) sR lawT Tryz.underlying204 hk hmem.out ?_)
 go_ret;exact⟨rfl,close0 b hA sR sR sR⟩
theorem Zet {w:World} {b:Bk} (h:Sep [BookP b] w) {p:ByteArray} (hp:p.size≤maxLen):
 Calls Tryz.prog 289 #[.pointer (some ⟨b.p,0,none⟩),.string p] w fun e w'=>e=.returned (.int .u64 (counter b.first b.cs p))∧At [BookP b] w [BookP b] w':=by
 cases hn:ctr b.cs p with
 |none=>have:=Zg2 h hp hn;unfold counter;rw[hn];exact this
 |some n=>have:=Zg1 h hp hn;unfold counter;rw[hn];exact this
def ZaR (p:ByteArray) (mode:Int):Bool:=Zad (bl p)&&(decide (mode=1) || decide (mode=2))
theorem right_any (p:ByteArray) (mode:Int) (w:World) (hp:p.size≤1000000):Calls Tryz.prog 243 #[.string p,.int .i64 mode] w fun e w'=>e=.returned (.bool (ZaR p mode))∧Ext w w':=by
 have hr:=Path.right_any p w (by omega);unfold ZaR
 generalize Zad (bl p)=rb at *
 go_enter Tryz.func243,Tryz.ntmps243
 go_wp2_with fail
 refine hr.mono ?_;clear hr;rintro e w1 ⟨rfl,hx⟩
 by_cases h1:mode=1
 · subst h1
   cases rb
   all_goals
    go_wp2_with fail
    go_ret;exact⟨rfl,hx⟩
 have e1:(mode==1)=false:=by simpa using h1
 by_cases h2:mode=2
 · subst h2
   cases rb
   all_goals
    go_wp2_with fail
    go_ret;exact⟨rfl,hx⟩
 have e2:(mode==2)=false:=by simpa using h2
 have d1:=decide_eq_false h1;have d2:=decide_eq_false h2;clear h1 h2;cases rb
 all_goals
  go_wp2_with fail
  go_ret;exact⟨by simp[d1,d2],hx⟩
theorem Zm9 (x y:Ent) (w:World) (hx:x.path.size≤1000000) (hy:y.path.size≤1000000):Calls Tryz.prog 180 #[x.val,y.val] w fun e w'=>e=.returned (.bool (wayB x y))∧Ext w w':=by
 have ho:=fun w=>Path.Zef x.path y.path w (by omega) (by omega)
 unfold wayB
 generalize overB (bl x.path) (bl y.path)=ob at *
 have hA:At [] w [] w:=At.start (L0:=[]) trivial;have hF:=hA.facts;obtain⟨p1,n1,f1,m1,k1,s1⟩:=x;obtain⟨p2,n2,f2,m2,k2,s2⟩:=y
 simp only[Ent.val] at *
 by_cases h1:m1=2
 · subst h1
   go_enter Tryz.func180,Tryz.ntmps180
   go_wp2_with ((with_reducible refine gbx ?_);refine wCy hA ?_;clear hF hA;intro b1 w1 hA hb1 hF)
   refine(ho _).mono ?_;clear ho;rintro e w2 ⟨rfl,hx2⟩;cases ob
   all_goals
    go_wp2_with fail
    go_ret;exact⟨rfl,hA.toExt.trans hx2⟩
 have e1:(m1==2)=false:=by simpa using h1
 have d1:=Hd (decide_eq_false h1);clear h1
 by_cases h2:m2=2
 · subst h2
   go_enter Tryz.func180,Tryz.ntmps180
   go_wp2_with ((with_reducible refine gbx ?_);refine wCy hA ?_;clear hF hA;intro b1 w1 hA hb1 hF)
   refine(ho _).mono ?_;clear ho;rintro e w2 ⟨rfl,hx2⟩;cases ob
   all_goals
    go_wp2_with fail
    go_ret;exact⟨by rw[d1.out];rfl,hA.toExt.trans hx2⟩
 have e2:(m2==2)=false:=by simpa using h2
 have d2:=Hd (decide_eq_false h2);clear h2 ho
 go_enter Tryz.func180,Tryz.ntmps180
 go_wp2_with ((with_reducible refine gbx ?_);refine wCy hA ?_;clear hF hA;intro b1 w1 hA hb1 hF)
 go_ret;exact⟨by rw[d1.out,d2.out];rfl,hA.toExt⟩
end Lock
end
section
namespace Lock
open Go.RowKit
open Go.Maps (Keyed)
open Path (bl Zad overB)
def nullE:Ent:=⟨.empty,0,.empty,0,0,0⟩
end Lock
end
section
namespace Lock
open Go.RowKit
open Go.Maps (Keyed)
open Path (bl Zad overB)
def unE:Value × Value→Ent
 |(_,.agg #[.string p,.int _ n,.string f,.int _ m,.int _ k,.int _ s])=>⟨p,n,f,m,k,s⟩
 |_=>nullE
theorem Zhn (l:List Ent):(ents l).map unE=l:=by
 unfold ents;rw[List.map_map]
 conv=>rhs;rw[←List.map_id l]
 rfl
theorem ents_perm {l r:List Ent} (h:(ents l).Perm (ents r)):l.Perm r:=by
 have:=h.map unE
 rwa [Zhn,Zhn] at this
theorem ents_snoc (ds:List Ent) (s:Ent):ents ds++[ent s]=ents (ds++[s]):=by simp[ents]
theorem ZnU {e:Ent} {l:List Ent} (h:ent e ∈ ents l):e ∈ l:=by
 have:=List.mem_map_of_mem (f:=unE) h
 rwa [Zhn] at this
def maxS (l:List Ent) (p:ByteArray):Int:=l.foldl (fun m e=>if overB (bl e.path) (bl p) then max m e.stamp else m) 0
theorem Zkp (l:List Ent) (e:Ent) (p:ByteArray):maxS (l++[e]) p=if overB (bl e.path) (bl p) then max (maxS l p) e.stamp else maxS l p:=by simp[maxS,List.foldl_append]
theorem ZgC {l r:List Ent} (h:l.Perm r) (p:ByteArray):maxS l p=maxS r p:=by
 unfold maxS;refine h.foldl_eq' (fun x _ y _ z=> ?_) 0
 split<;>split<;>omega
theorem ZfJ {l:List Ent} {p:ByteArray} {B:Int} (hB:0≤B) (h:∀e ∈ l,e.stamp≤B):0≤maxS l p∧maxS l p≤B:=by
 have:∀(l:List Ent) (m:Int),(∀e ∈ l,e.stamp≤B)→0≤m→m≤B→0≤l.foldl (fun m e=>if overB (bl e.path) (bl p) then max m e.stamp else m) m∧l.foldl (fun m e=>if overB (bl e.path) (bl p) then max m e.stamp else m) m≤B:=by
  intro l
  induction l with
  |nil=>intro m _ h1 h2;exact⟨h1,h2⟩
  |cons e l ih=>
   intro m hl h1 h2;have:=hl e (by simp);rw[List.foldl_cons]
   refine ih _ (fun x hx=>hl x (by simp[hx])) ?_ ?_<;>split<;>omega
 exact this l 0 h (Int.le_refl 0) hB
def ZaP (l:List Ent) (e:Ent):Bool:=l.all (fun x=> !(decide (x.stamp < e.stamp)&&wayB x e))
theorem ZcE {l r:List Ent} (h:l.Perm r) (e:Ent):ZaP l e=ZaP r e:=h.all_eq
def StRel (b:Bk) (r:Nat) (p:ByteArray) (w:World) (k:Nat) (v:Value) (wr:World):Prop:=
 ∃ds:List Ent,At [BookP b] w [Part.iter Tryz.prog 203 r b.m (ents b.es) (ents ds),headC b.p b.m b.c b.first,ctrC b.c (ctrs b.cs)] wr∧(∀s ∈ ds,s ∈ b.es)∧v=.int .i64 (maxS ds p)∧ds.length + k=b.es.length
theorem Zgm {w:World} {b:Bk} (h:Sep [BookP b] w) (p:ByteArray) (hp:p.size≤1000000) (hok:∀x ∈ b.es,x.path.size≤1000000∧x.stamp≤1000000000):
 Calls Tryz.prog 288 #[.pointer (some ⟨b.p,0,none⟩),.string p] w fun e w'=>e=.returned (.int .i64 (maxS b.es p + 1))∧At [BookP b] w [BookP b] w':=by
 have hA:=begin0 h;obtain⟨hA,hF⟩:=fY hA;clear h
 go_enter Tryz.func288,Tryz.ntmps288
 go_wp2_with (refine ZaI rfl rfl rfl hA sR Tryz.underlying201 ?_;intro r w1 hB hr;clear hF hA;have hA:=hB;clear hB;obtain⟨hA,hF⟩:=fY hA)
 go_frame
 go_loopg [5] b.es.length (StRel b r p w)
 case atStart=>exact⟨[],hA,nofun,by simp[maxS],by simp⟩
 case round=>
  obtain⟨ds,hA2,hds,rfl,hk⟩:=hrel;clear hF hA;have hA:=hA2;clear hA2;obtain⟨hA,hF⟩:=fY hA
  go_step
  go_step
  refine ZaV rfl rfl rfl hA sR (fun hp=> ?_) (fun q w1 hq hd hB=> ?_)
  · have hc:=Hd (ZgC (ents_perm hp) p)
    have hb:=ZfJ (p:=p) (B:=1000000000) (by omega) (fun e he=>(hok e (hds e he)).2);have hM:=At.ranged hA sR;clear hp
    go_wp2_with fail
    go_ret;exact⟨by rw[hc.out];rfl,close0 b hM sR sR sR⟩
  obtain⟨s,hs,rfl⟩:=List.mem_map.1 hq
  have hI:Zam Tryz.prog 203 w1 r b.m (ents b.es) (ents ds++[ent s]):=hB.get (A:=Part.iter _ _ r b.m (ents b.es) (ents ds++[ent s])) sR;have hen:=hI.entry
  have hlen:(ds++[s]).length≤b.es.length:=by have:=hI.len;simpa [ents] using this
  have hsub:∀x ∈ ds++[s],x ∈ b.es:=fun x hx=>by
   rcases List.mem_append.1 hx with hx|hx
   · exact hds x hx
   have:x=s:=by simpa using hx
   rw[this];exact hs
  rw[ents_snoc] at hB;have hb:=ZfJ (p:=p) (B:=1000000000) (by omega) (fun e he=>(hok e (hds e he)).2);obtain⟨hs1,hs2⟩:=hok s hs;clear hF hA;have hA:=hB;have hk':=Hd hk;have hsub':=Hd hsub;have hsn:=Zkp ds s p
  have ho:=fun w=>Path.Zef s.path p w (by omega) (by omega)
  simp only[List.length_append,List.length_cons,List.length_nil,Nat.zero_add] at hlen;clear hI hB hk hsub hds hq hd hs;obtain⟨hA,hF⟩:=fY hA;simp only[ent,Ent.key,Ent.val,keyV] at hen
  generalize overB (bl s.path) (bl p)=ob at *
  generalize maxS ds p=mx at *
  have hsn':=Hd hsn;clear hsn
  go_wp2_with (first|((with_reducible refine gst ?_);refine wTy hA ?_;clear hF hA;intro w1 hA hF)|((with_reducible refine gal ?_);refine g4 hA ?_;clear hF hA;intro b1 w1 hA hb1 hF))
  refine(ho _).mono ?_;clear ho;rintro e w2 ⟨rfl,hx⟩;replace hA:=hA.ext hx;clear hF hx;obtain⟨hA,hF⟩:=fY hA;cases ob
  all_goals
   go_wp2_with fail
   go_roundg (gk - 1)
   case measure=>have:=hk'.out;omega
   case rel=>exact⟨ds++[s],hA.only3 sR sR sR,hsub'.out,by rw[hsn'.out];rfl,by have:=hk'.out;simp;omega⟩
end Lock
end
section
namespace Lock
open Go.RowKit
open Go.Maps (Keyed)
open Path (bl Zad overB)
theorem ZjD {l:List Ent} {x e:Ent} (h:x ∈ l) (h1:x.stamp < e.stamp) (h2:wayB x e=true):ZaP l e=false:=by
 unfold ZaP;rw[List.all_eq_false];exact⟨x,h,by simp[h1,h2]⟩
theorem ZhU (l:List Ent) (x e:Ent):ZaP (l++[x]) e=(ZaP l e&& !(decide (x.stamp < e.stamp)&&wayB x e)):=by simp[ZaP]
def ClRel (b:Bk) (r bE:Nat) (e:Ent) (w:World) (k:Nat) (wr:World):Prop:=
 ∃ds:List Ent,At [BookP b] w [Part.iter Tryz.prog 203 r b.m (ents b.es) (ents ds),headC b.p b.m b.c b.first,ctrC b.c (ctrs b.cs),Part.cells bE [.string e.path,.int .u64 e.num,.string e.foot,.int .i64 e.mode,.int .u64 e.n,.int .i64 e.stamp] 97] wr∧(∀s ∈ ds,s ∈ b.es)∧ZaP ds e=true∧ds.length + k=b.es.length
theorem Zg7 {w:World} {b:Bk} (h:Sep [BookP b] w) (e:Ent) (he:e.path.size≤1000000) (hok:∀x ∈ b.es,x.path.size≤1000000):
 Calls Tryz.prog 128 #[.pointer (some ⟨b.p,0,none⟩),.agg #[.string e.path,.int .u64 e.num,.string e.foot,.int .i64 e.mode,.int .u64 e.n,.int .i64 e.stamp]] w fun o w'=>o=.returned (.bool (ZaP b.es e))∧At [BookP b] w [BookP b] w':=by
 have hA:=begin0 h;obtain⟨hA,hF⟩:=fY hA;clear h
 go_enter Tryz.func128,Tryz.ntmps128
 go_wp2_with (first|((with_reducible refine gbx ?_);refine wCy (E:=97) hA ?_;clear hF hA;intro bE w1 hA hbE hF)|(refine ZaI rfl rfl rfl hA sR Tryz.underlying201 ?_;intro r w1 hB hr;clear hF hA;have hA:=hB;clear hB;obtain⟨hA,hF⟩:=fY hA))
 go_frame
 go_loopg [] b.es.length (ClRel b r bE e w)
 case atStart=>exact⟨[],hA.pick pZ,nofun,rfl,by simp⟩
 case round=>
  obtain⟨ds,hA2,hds,hcl,hk⟩:=hrel;clear hF hA;have hA:=hA2;clear hA2;obtain⟨hA,hF⟩:=fY hA
  go_step
  go_step
  refine ZaV rfl rfl rfl hA sR (fun hp=> ?_) (fun q w1 hq hd hB=> ?_)
  · have hc:=Hd ((ZcE (ents_perm hp) e).trans hcl)
    have hM:=At.ranged hA sR;clear hp hcl
    go_wp2_with fail
    go_ret;exact⟨by rw[hc.out];rfl,close0 b hM sR sR sR⟩
  obtain⟨s,hs,rfl⟩:=List.mem_map.1 hq
  have hI:Zam Tryz.prog 203 w1 r b.m (ents b.es) (ents ds++[ent s]):=hB.get (A:=Part.iter _ _ r b.m (ents b.es) (ents ds++[ent s])) sR;have hen:=hI.entry
  have hlen:(ds++[s]).length≤b.es.length:=by have:=hI.len;simpa [ents] using this
  have hsub:∀x ∈ ds++[s],x ∈ b.es:=fun x hx=>by
   rcases List.mem_append.1 hx with hx|hx
   · exact hds x hx
   have:x=s:=by simpa using hx
   rw[this];exact hs
  rw[ents_snoc] at hB;have hs1:=hok s hs;clear hF hA;have hA:=hB;have hk':=Hd hk;have hsub':=Hd hsub;have hsn:=Hd (ZhU ds s e);have hcl':=Hd hcl;have hbad:=Hd (fun h1 h2=>ZjD (e:=e) hs h1 h2)
  have ho:=fun w=>Zm9 s e w hs1 he
  simp only[List.length_append,List.length_cons,List.length_nil,Nat.zero_add] at hlen;clear hI hB hk hsub hds hq hd hs hcl;obtain⟨hA,hF⟩:=fY hA;simp only[ent,Ent.key,Ent.val,keyV] at hen ho
  by_cases hlt:s.stamp < e.stamp
  · have hlt':=Hd hlt
    obtain⟨wb,hwb⟩:∃wb,wayB s e=wb:=⟨_,rfl⟩
    rw[hwb] at ho;have hwb':=Hd hwb;clear hwb
    go_wp2_with (first|((with_reducible refine gst ?_);refine wTy hA ?_;clear hF hA;intro w1 hA hF)|((with_reducible refine gal ?_);refine g4 hA ?_;clear hF hA;intro b1 w1 hA hb1 hF))
    refine(ho _).mono ?_;clear ho;rintro o w2 ⟨rfl,hx⟩;replace hA:=hA.ext hx;clear hF hx;obtain⟨hA,hF⟩:=fY hA;cases wb
    · go_wp2_with fail
      go_roundg (gk - 1)
      case measure=>have:=hk'.out;omega
      case rel=>exact⟨ds++[s],hA.pick pR,hsub'.out,by rw[hsn.out,hcl'.out,hwb'.out];simp,by have:=hk'.out;simp;omega⟩
    have hM:=At.ranged hA sR;have hc:=Hd (hbad.out hlt'.out hwb'.out)
    go_wp2_with fail
    go_ret;exact⟨by rw[hc.out];rfl,close0 b hM sR sR sR⟩
  have hlt':=Hd hlt
  go_wp2_with (first|((with_reducible refine gst ?_);refine wTy hA ?_;clear hF hA;intro w1 hA hF)|((with_reducible refine gal ?_);refine g4 hA ?_;clear hF hA;intro b1 w1 hA hb1 hF))
  go_roundg (gk - 1)
  case measure=>have:=hk'.out;omega
  case rel=>exact⟨ds++[s],hA.pick pR,hsub'.out,by rw[hsn.out,hcl'.out,decide_eq_false (show ¬s.stamp < e.stamp by have:=hlt'.out;omega)];simp,by have:=hk'.out;simp;omega⟩
end Lock
end
section
namespace Lock
open Go.RowKit
open Go.Maps (Keyed)
open Path (bl Zad overB)
theorem same_ba (f g:ByteArray):(f.toList==g.toList)=decide (f=g):=by
 rw[Path.eqB]
 by_cases h:f=g
 · subst h;simp
 rw[decide_eq_false h,decide_eq_false];intro e
 apply h
 unfold bl at e
 have:f.data=g.data:=by rw[←Array.toList_inj];exact e
 cases f;cases g;simp_all
theorem sameS (a c:Int) (f g:ByteArray) (w:World):(Op.equalIn 10000 25 (.agg #[.int .u64 a,.string f]) (.agg #[.int .u64 c,.string g])).run Tryz.prog w=.ok (decide (a=c∧f=g)) w:=by
 rw[run_equalIn_agg _ 9999 _ _ _ (by kernel_rfl) (by kernel_rfl)];simp[go_sem,Op.eqFields,same_ba]
 by_cases h1:a=c<;>by_cases h2:f=g<;>simp[h1,h2]
@[local go_sem] theorem ZmZ (op:BinOp) (x y:Operand) (a c:Int) (f g:ByteArray) (w:World):(eqGuard op 25 x y (.agg #[.int .u64 a,.string f]) (.agg #[.int .u64 c,.string g])).run Tryz.prog w=.ok () w:=run_eqGuard_agg _ _ _ _ _ _ _ (by kernel_rfl)
@[local go_sem] theorem eqlS (a c:Int) (f g:ByteArray) (w:World):(binOp .eql 25 (.agg #[.int .u64 a,.string f]) (.agg #[.int .u64 c,.string g])).run Tryz.prog w=.ok (.bool (decide (a=c∧f=g))) w:=by
 rw[run_eql_struct,sameS];rfl
theorem sameE (x y:Ent) (w:World):(Op.equalIn 10000 97 x.val y.val).run Tryz.prog w=.ok (decide (x=y)) w:=by
 unfold Ent.val;rw[run_equalIn_agg _ 9999 _ _ _ (by kernel_rfl) (by kernel_rfl)];obtain⟨p1,n1,f1,m1,k1,s1⟩:=x;obtain⟨p2,n2,f2,m2,k2,s2⟩:=y;simp[go_sem,Op.eqFields,same_ba]
 by_cases h1:p1=p2<;>by_cases h2:n1=n2<;>by_cases h3:f1=f2<;>by_cases h4:m1=m2<;>by_cases h5:k1=k2<;>by_cases h6:s1=s2<;>simp[h1,h2,h3,h4,h5,h6]
@[local go_sem] theorem guardE (op:BinOp) (x y:Operand) (c1 c2 c3 c4 c5 c6 d1 d2 d3 d4 d5 d6:Value) (w:World):(eqGuard op 97 x y (.agg #[c1,c2,c3,c4,c5,c6]) (.agg #[d1,d2,d3,d4,d5,d6])).run Tryz.prog w=.ok () w:=run_eqGuard_agg _ _ _ _ _ _ _ (by kernel_rfl)
theorem eqlE (x y:Ent) (w:World):(binOp .eql 97 x.val y.val).run Tryz.prog w=.ok (.bool (decide (x=y))) w:=by
 have:=sameE x y w
 unfold Ent.val at *
 rw[run_eql_struct,this];rfl
end Lock
end
section
section
open Go.RowKit
open Go.Maps (Keyed)
section
variable {P:Program} {k:TypeId} {w:World} {b:Nat} {es:List (Value × Value)}
theorem Zc1 {α:Type} (a:Array α) (i:Nat) (h:i < a.size):(a.eraseIdxIfInBounds i).toList=a.toList.eraseIdx i:=by
 rw[Array.eraseIdxIfInBounds_eq];rw[dif_pos h,Array.toList_eraseIdx]
theorem ZkI {α:Type} (l1 l2:List α) (x:α):(l1++x::l2).eraseIdx l1.length=l1++l2:=by
 rw[List.eraseIdx_append_of_length_le (Nat.le_refl _)]
 simp
theorem MapAt.erased {l1 l2:List (Value × Value)} {key u:Value} (h:MapAt P k w b (l1++(key,u)::l2)) {ents:Array MapEntry} {clock:Nat} (hb:w.heap[b]? =some (.map ents clock)):
 MapAt P k (ChangeMaps.setBlock w b (.map (ents.eraseIdxIfInBounds l1.length) clock)) b (l1++l2):=by
 obtain⟨ents',clock',hb',he,hbn,hdn,hkeys,hpw⟩:=h;rw[hb] at hb';cases hb'
 have hlt:l1.length < ents.size:=by
  have:=congrArg List.length he
  simp at this
  omega
 have hs:((l1++l2)).Sublist (l1++(key,u)::l2):=List.Sublist.append (List.Sublist.refl _) (List.sublist_cons_self _ _);have hes:(ents.toList.eraseIdx l1.length).Sublist ents.toList:=List.eraseIdx_sublist _ _;refine⟨_,clock,ChangeMaps.heap_setBlock_same hb _,?_,?_,?_,?_,?_⟩
 · rw[Zc1 _ _ hlt,List.eraseIdx_eq_take_drop_succ,List.map_append,List.map_take,List.map_drop,he,←List.eraseIdx_eq_take_drop_succ,ZkI]
 · intro e hm
   rw[Zc1 _ _ hlt] at hm;exact hbn e (hes.subset hm)
 · rw[Zc1 _ _ hlt]
   exact hdn.sublist hes
 · exact fun p hp=>hkeys p (hs.subset hp)
 exact hpw.sublist hs
theorem MapAt.del_there {t e:TypeId} {l1 l2:List (Value × Value)} {key u:Value} (h:MapAt P k w b (l1++(key,u)::l2)) (K:Keyed P k) (ht:P.underlying t=some (.map k e)) {kl:Lit} (hk:keyOf P k key=some kl) (t2 ty:TypeId):
 ∃w',(Builtin.delete_ #[t,t2] ty #[.map (some b),key]).run P w=.ok (.tuple #[]) w'∧MapAt P k w' b (l1++l2)∧Exc (fun q=>q=b) w w'∧∃ents clock,w.heap[b]? =some (.map ents clock)∧w'.heap[b]? =some (.map (ents.eraseIdxIfInBounds l1.length) clock):=by
 have h0:=h;obtain⟨ents,clock,hb,_⟩:=h0;obtain⟨e0,h1,h2,h3,h4⟩:=h.find_at K hk w hb
 exact⟨ChangeMaps.setBlock w b (.map (ents.eraseIdxIfInBounds l1.length) clock),by simp[Builtin.delete_,run_underlying ht,MapKept.run_getObj_map hb,K.check w _ hk,h1,MapKept.run_setObj_map _ hb,Result.andThen,ChangeMaps.setBlock],h.erased hb,
  ⟨rfl,rfl,rfl,by simp[ChangeMaps.setBlock],fun i _ hi=>ChangeMaps.heap_setBlock_other hb _ (fun e=>hi e)⟩,ents,clock,hb,ChangeMaps.heap_setBlock_same hb _⟩
def IterD (P:Program) (k:TypeId) (w:World) (r b:Nat) (es done:List (Value × Value)):Prop:=
 MapAt P k w b es∧r≠b∧∃(ents:Array MapEntry) (clock c0:Nat) (vs:List MapEntry),w.heap[b]? =some (.map ents clock)∧w.heap[r]? =some (.mapIter (some b) clock (vs.map (·.born)).toArray c0)∧clock≤c0∧
  vs.map (fun e=>(e.key,e.val))=done∧(vs≠[]→c0=clock)∧(∀x ∈ vs,∀y ∈ ents.toList,x.key=y.key→x=y)∧(∀x ∈ vs,∀y ∈ ents.toList,x.born=y.born→x=y)
theorem IterD.start {r:Nat} (h:Zam P k w r b es []):IterD P k w r b es []:=by
 obtain⟨hm,hrb,ents,clock,c0,vs,hb,hr,hc,hd,hin,hpw,hc1⟩:=h
 have:vs=[]:=by simpa using hd
 subst this;exact⟨hm,hrb,ents,clock,c0,[],hb,hr,hc,rfl,hc1,nofun,nofun⟩
theorem IterD.same {r:Nat} {done:List (Value × Value)} (h:IterD P k w r b es done) {w':World} (e1:w'.heap[b]? =w.heap[b]?) (e2:w'.heap[r]? =w.heap[r]?):IterD P k w' r b es done:=by
 obtain⟨hm,hrb,ents,clock,c0,vs,hb,hr,rest⟩:=h;exact⟨hm.same e1,hrb,ents,clock,c0,vs,e1.trans hb,e2.trans hr,rest⟩
theorem ZmG {l:List (Value × Value)} (h:l.Pairwise (fun p q=>p.1≠q.1)) {i j:Nat} {p q:Value × Value} (hi:l[i]? =some p) (hj:l[j]? =some q) (hk:p.1=q.1):i=j:=by
 by_cases hij:i=j
 · exact hij
 exfalso
 obtain⟨hi1,hi2⟩:=List.getElem?_eq_some_iff.1 hi;obtain⟨hj1,hj2⟩:=List.getElem?_eq_some_iff.1 hj;have hp:=List.pairwise_iff_getElem.1 h
 rcases Nat.lt_or_gt_of_ne hij with q|q
 · exact hp i j hi1 hj1 q (by rw[hi2,hj2];exact hk)
 exact hp j i hj1 hi1 q (by rw[hi2,hj2];exact hk.symm)
theorem IterD.next {r:Nat} {done:List (Value × Value)} (h:IterD P k w r b es done) (ty:TypeId):
 ((∀p ∈ es,p ∈ done)∧(Instr.next (.pointer (some ⟨r,0,none⟩)) false ty).run P w=.ok (.tuple #[.bool false]) w)∨
 ∃p w',p ∈ es∧(∀q ∈ done,q.1≠p.1)∧(Instr.next (.pointer (some ⟨r,0,none⟩)) false ty).run P w=.ok (.tuple #[.bool true,p.1,p.2]) w'∧IterD P k w' r b es (done++[p])∧Exc (fun q=>q=r) w w':=by
 obtain⟨hm,hrb,ents,clock,c0,vs,hb,hr,hc,hd,hc1,hkey,hbo⟩:=h;have hm0:=hm;obtain⟨ents',clock',hb',he,hbn,hdn,hkeys,hkp⟩:=hm0;rw[hb] at hb';cases hb'
 have hone:∀x ∈ ents.toList,∀y ∈ ents.toList,x.key=y.key→x=y:=by
  intro x hx y hy e;obtain⟨i,hi⟩:=List.mem_iff_getElem?.1 hx;obtain⟨j,hj⟩:=List.mem_iff_getElem?.1 hy
  have g1:es[i]? =some (x.key,x.val):=by rw[←he,List.getElem?_map,hi];rfl
  have g2:es[j]? =some (y.key,y.val):=by rw[←he,List.getElem?_map,hj];rfl
  have:=ZmG hkp g1 g2 e;subst this;rw[hi] at hj;exact Option.some.inj hj
 have hborn:∀x ∈ ents.toList,∀y ∈ ents.toList,x.born=y.born→x=y:=by
  intro x hx y hy e;obtain⟨i,hi⟩:=List.mem_iff_getElem?.1 hx;obtain⟨j,hj⟩:=List.mem_iff_getElem?.1 hy
  by_cases hij:i=j
  · subst hij;rw[hi] at hj;exact Option.some.inj hj
  exfalso
  obtain⟨hi1,hi2⟩:=List.getElem?_eq_some_iff.1 hi;obtain⟨hj1,hj2⟩:=List.getElem?_eq_some_iff.1 hj;have hp:=List.pairwise_iff_getElem.1 hdn
  rcases Nat.lt_or_gt_of_ne hij with q|q
  · exact hp i j hi1 hj1 q (by rw[hi2,hj2,e])
  exact hp j i hj1 hi1 q (by rw[hi2,hj2,e])
 rcases run_next_at (P:=P) w ty r b clock c0 (vs.map (·.born)).toArray ents clock hr hb hbn hc with⟨h0,hrun⟩|⟨e,he1,w1,hw1,hrun⟩
 · refine .inl ⟨?_,hrun⟩
   intro p hp;rw[←he] at hp;obtain⟨x,hx,rfl⟩:=List.mem_map.1 hp;have h1:leftOf ents (vs.map (·.born)).toArray= #[]:=Array.eq_empty_of_size_eq_zero h0;unfold leftOf at h1;rw[Array.filter_eq_empty_iff] at h1;have h2:=h1 x (by simpa using hx)
   simp at h2
   obtain⟨y,hy,hyb⟩:=h2;have:=hbo y hy x hx hyb;subst this;rw[←hd];exact List.mem_map.2 ⟨y,hy,rfl⟩
 have he2:e ∈ ents.toList∧∀y ∈ vs,y.born≠e.born:=by
  unfold leftOf at he1
  simp at he1
  exact⟨by simpa using he1.1,fun y hy hb=>he1.2 y hy hb⟩
 have hh1:w1.heap=w.heap:=by rcases hw1 with rfl|rfl<;>rfl
 refine .inr ⟨(e.key,e.val),ChangeMaps.setBlock w1 r (.mapIter (some b) clock ((vs.map (·.born)).toArray.push e.born) clock),ZiR he he2.1,?_,hrun,?_,?_⟩
 · intro q hq
   rw[←hd] at hq;obtain⟨y,hy,rfl⟩:=List.mem_map.1 hq;intro hk;have:=hkey y hy e he2.1 hk;subst this;exact he2.2 y hy rfl
 · have hr1:w1.heap[r]? =some (.mapIter (some b) clock (vs.map (·.born)).toArray c0):=by rw[hh1];exact hr
   have k1:∀(o:Obj) (i:Nat),i≠r→(ChangeMaps.setBlock w1 r o).heap[i]? =w.heap[i]? :=fun o i hi=>by
    rw[←hh1];simp[ChangeMaps.setBlock,Ne.symm hi]
   have k2:∀(o:Obj),(ChangeMaps.setBlock w1 r o).heap[r]? =some o:=fun o=>by
    have hlt:=ZaE hr1;simp[ChangeMaps.setBlock,hlt]
   refine⟨hm.same (k1 _ b (Ne.symm hrb)),hrb,ents,clock,clock,vs++[e],by rw[k1 _ b (Ne.symm hrb)];exact hb,by rw[k2];simp,Nat.le_refl _,by simp[hd],fun _=>rfl,?_,?_⟩
   · intro x hx y hy hk
     rcases List.mem_append.1 hx with hx|hx
     · exact hkey x hx y hy hk
     rw[List.mem_singleton.1 hx] at hk ⊢;exact hone e he2.1 y hy hk
   intro x hx y hy hk
   rcases List.mem_append.1 hx with hx|hx
   · exact hbo x hx y hy hk
   rw[List.mem_singleton.1 hx] at hk ⊢;exact hborn e he2.1 y hy hk
 have g:∀(o:Obj),Exc (fun q=>q=r) w (ChangeMaps.setBlock w1 r o):=fun o=>by
  rcases hw1 with rfl|rfl
  · exact⟨rfl,rfl,rfl,by simp[ChangeMaps.setBlock],fun i _ hi=>by simp[ChangeMaps.setBlock,Ne.symm hi]⟩
  exact⟨rfl,rfl,rfl,by simp[ChangeMaps.setBlock],fun i _ hi=>by simp[ChangeMaps.setBlock,Ne.symm hi];rfl⟩
 exact g _
theorem IterD.entry {r:Nat} {done:List (Value × Value)} {p:Value × Value} (h:IterD P k w r b es (done++[p])) (hp:p ∈ es):(Instr.entry (.pointer (some ⟨r,0,none⟩))).run P w=.ok (.tuple #[p.1,p.2]) w:=by
 obtain⟨hm,hrb,ents,clock,c0,vs,hb,hr,hc,hd,hc1,hkey,hbo⟩:=h;obtain⟨ents',clock',hb',he,hbn,hdn,hkeys,hkp⟩:=hm;rw[hb] at hb';cases hb'
 rcases List.eq_nil_or_concat vs with rfl|⟨vs',e,rfl⟩
 · simp at hd
 have h1:c0=clock:=hc1 (by simp);subst h1
 simp at hd
 obtain⟨hd1,hd2⟩:=hd;subst hd2;rw[←he] at hp;obtain⟨y,hy,hye⟩:=List.mem_map.1 hp;have hk0:e.key=y.key:=(congrArg Prod.fst hye).symm;have:=hkey e (by simp) y hy hk0;subst this;exact run_entry_at (P:=P) w r b c0 (vs'.map (·.born)).toArray ents c0 e (by rw[hr];simp) hb hy (List.pairwise_map.2 hdn)
theorem IterD.del {t e:TypeId} {r:Nat} {done l1 l2:List (Value × Value)} {key u:Value} (h:IterD P k w r b (l1++(key,u)::l2) done) (K:Keyed P k) (ht:P.underlying t=some (.map k e)) {kl:Lit} (hk:keyOf P k key=some kl) (t2 ty:TypeId):
 ∃w',(Builtin.delete_ #[t,t2] ty #[.map (some b),key]).run P w=.ok (.tuple #[]) w'∧IterD P k w' r b (l1++l2) done∧Exc (fun q=>q=b) w w':=by
 obtain⟨hm,hrb,ents,clock,c0,vs,hb,hr,hc,hd,hc1,hkey,hbo⟩:=h;obtain⟨w',h1,h2,h3,ents',clock',h4,h5⟩:=hm.del_there K ht hk t2 ty;rw[hb] at h4;cases h4
 have hsub:∀y ∈ (ents.eraseIdxIfInBounds l1.length).toList,y ∈ ents.toList:=by
  intro y hy
  by_cases hlt:l1.length < ents.size
  · rw[Zc1 _ _ hlt] at hy
    exact(List.eraseIdx_sublist _ _).subset hy
  rw[Array.eraseIdxIfInBounds_eq,dif_neg hlt] at hy;exact hy
 exact⟨w',h1,⟨h2,hrb,_,clock,c0,vs,h5,(h3.block r (ZaE hr) hrb).trans hr,hc,hd,hc1,fun x hx y hy=>hkey x hx y (hsub y hy),fun x hx y hy=>hbo x hx y (hsub y hy)⟩,h3⟩
theorem IterD.keys {r:Nat} {done:List (Value × Value)} (h:IterD P k w r b es done):es.Pairwise (fun p q=>p.1≠q.1):=h.1.keys
def Part.iterD (P:Program) (k:TypeId) (r b:Nat) (es done:List (Value × Value)):Part where
 holds w:=IterD P k w r b es done
 foot q:=q=b∨q=r
 lt:=fun _ h q e=>by
  rcases e with e|e
  · subst e;exact h.1.lt
  subst e;obtain⟨_,_,_,_,_,_,_,hr,_⟩:=h;exact ZaE hr
 stay:=fun _ _ h e=>h.same (e b (.inl rfl)) (e r (.inr rfl))
end
section
variable {P:Program} {ops:Array Oper} {rest:List Oper} {o:Oper} {a:Act} {Q:Exit→Act→World→Prop} {L0 L F:List Part} {w0 w:World} {k:TypeId} {b:Nat} {es:List (Value × Value)}
theorem ZcD {t t2:TypeId} {m x:Operand} (hg:o.guard=none) (hop:o.op=.call {callee:=.builtin .delete,args:= #[m,x],argTypes:= #[t,t2]}) (hm:a.eval m=.map (some b)) {key u:Value} {l1 l2:List (Value × Value)} (hx:a.eval x=key)
 (h:At L0 w0 L w) (s:Sel (Part.map P k b (l1++(key,u)::l2)) L F) {e:TypeId} (K:Keyed P k) (ht:P.underlying t=some (.map k e)) {kl:Lit} (hk:keyOf P k key=some kl)
 (hK:∀w',At L0 w0 (Part.map P k b (l1++l2)::F) w'→wpList P ops Q rest (a.put o.dst (.tuple #[])) w'):wpList P ops Q (o::rest) a w:=by
 have hM:MapAt P k w b (l1++(key,u)::l2):=h.get s;obtain⟨w',h1,h2,h3,_⟩:=hM.del_there K ht hk t2 o.type;refine Zak hg ?_ (hK w' (h.turn s _ h2 (fun _ e=>.inl e) h3));simp[execOp,hop,resolve,invoke,builtin,hm,hx,h1,Result.andThen]
theorem ZcG {t t2:TypeId} {m x:Operand} {r:Nat} {done:List (Value × Value)} (hg:o.guard=none) (hop:o.op=.call {callee:=.builtin .delete,args:= #[m,x],argTypes:= #[t,t2]}) (hm:a.eval m=.map (some b)) {key u:Value} {l1 l2:List (Value × Value)} (hx:a.eval x=key)
 (h:At L0 w0 L w) (s:Sel (Part.iterD P k r b (l1++(key,u)::l2) done) L F) {e:TypeId} (K:Keyed P k) (ht:P.underlying t=some (.map k e)) {kl:Lit} (hk:keyOf P k key=some kl)
 (hK:∀w',At L0 w0 (Part.iterD P k r b (l1++l2) done::F) w'→wpList P ops Q rest (a.put o.dst (.tuple #[])) w'):wpList P ops Q (o::rest) a w:=by
 have hI:IterD P k w r b (l1++(key,u)::l2) done:=h.get s;obtain⟨w',h1,h2,h3⟩:=hI.del K ht hk t2 o.type;refine Zak hg ?_ (hK w' (h.turn s (Part.iterD P k r b (l1++l2) done) h2 (fun _ e=>.inl e) (h3.mono (fun _ _ e=>.inl e))));simp[execOp,hop,resolve,invoke,builtin,hm,hx,h1,Result.andThen]
theorem ZdO {r:Nat} {done:List (Value × Value)} {it:Operand} (hg:o.guard=none) (hop:o.op=.next it false) (hi:a.eval it=.pointer (some ⟨r,0,none⟩)) (h:At L0 w0 L w) (s:Sel (Part.iterD P k r b es done) L F)
 (hEnd:(∀p ∈ es,p ∈ done)→wpList P ops Q rest (a.put o.dst (.tuple #[.bool false])) w)
 (hK:∀p w',p ∈ es→(∀q ∈ done,q.1≠p.1)→At L0 w0 (Part.iterD P k r b es (done++[p])::F) w'→wpList P ops Q rest (a.put o.dst (.tuple #[.bool true,p.1,p.2])) w'):wpList P ops Q (o::rest) a w:=by
 have hI:IterD P k w r b es done:=h.get s
 rcases hI.next o.type with⟨h1,h2⟩|⟨p,w',h1,h2,h3,h4,h5⟩
 · refine Zak hg ?_ (hEnd h1)
   simp[execOp,hop,hi,h2,Result.andThen]
 refine Zak hg ?_ (hK p w' h1 h2 (h.turn s (Part.iterD P k r b es (done++[p])) h4 (fun q e=>.inl e) (h5.mono (fun _ _ e=>.inr e))));simp[execOp,hop,hi,h3,Result.andThen]
theorem At.rangedD {r:Nat} {done:List (Value × Value)} (h:At L0 w0 L w) (s:Sel (Part.iterD P k r b es done) L F):At L0 w0 (Part.map P k b es::F) w:=by
 have hI:IterD P k w r b es done:=h.get s;exact h.turn s (Part.map P k b es) hI.1 (fun _ e=>.inl (.inl e)) (Exc.refl _ _)
theorem At.rangeD {r:Nat} (h:At L0 w0 L w) (s:Sel (Part.iter P k r b es []) L F):At L0 w0 (Part.iterD P k r b es []::F) w:=by
 have hI:Zam P k w r b es []:=h.get s;exact h.turn s (Part.iterD P k r b es []) (IterD.start hI) (fun _ e=>.inl e) (Exc.refl _ _)
end
end
end
section
namespace Lock
open Go.RowKit
open Go.Maps (Keyed)
open Path (bl Zad overB)
attribute [-go_sem] run_eql_struct run_neq_struct run_eqGuard_agg
attribute [local go_sem] ZmZ eqlS
abbrev boxS (b:Nat) (n:Int) (f:ByteArray):Part:=.cells b [.int .u64 n,.string f] 25
def Ent.of (e:Ent) (n:Int) (f:ByteArray):Bool:=decide (e.num=n∧e.foot=f)
def heldN (l:List Ent) (n:Int) (f:ByteArray):Nat:=(l.filter (·.of n f)).length
theorem Zjv (l:List Ent) (e:Ent) (n:Int) (f:ByteArray):heldN (l++[e]) n f=heldN l n f + if e.of n f then 1 else 0:=by
 unfold heldN;rw[List.filter_append]
 cases h:e.of n f<;>simp[List.filter_cons,h]
theorem Zjw {l r:List Ent} (h:l.Perm r) (n:Int) (f:ByteArray):heldN l n f=heldN r n f:=(h.filter _).length_eq
theorem ZiJ (l:List Ent) (n:Int) (f:ByteArray):heldN l n f≤l.length:=List.length_filter_le _ _
theorem ZkD {w:World} {bS:Nat} {n k:Int} {f p g:ByteArray} (h:Sep [boxS bS n f] w) {c:Bool} (hc:decide (k=n∧g=f)=c):
 Calls Tryz.prog 313 #[.agg #[.string p,.int .u64 k,.string g],.pointer (some ⟨bS,0,none⟩)] w fun e w'=>e=.returned (.bool c)∧At [boxS bS n f] w [boxS bS n f] w':=by
 have hA:=At.start h;obtain⟨hA,hF⟩:=fY hA;clear h;have hc':=Hd hc;clear hc
 go_enter Tryz.func313,Tryz.ntmps313
 go_wp2_with ((with_reducible refine gbx ?_);refine wCy hA ?_;clear hF hA;intro b1 w1 hA hb1 hF)
 go_ret;exact⟨by rw[←hc'.out,Bool.decide_and];rfl,hA.only1 sR⟩
def CtRel (L0:List Part) (m r bS:Nat) (n:Int) (f:ByteArray) (es:List Ent) (w:World) (k:Nat) (v:Value) (wr:World):Prop:=
 ∃ds:List Ent,At L0 w [Part.iter Tryz.prog 203 r m (ents es) (ents ds),boxS bS n f] wr∧(∀s ∈ ds,s ∈ es)∧v=.int .i64 (heldN ds n f)∧ds.length + k=es.length
theorem count_any {w:World} {m bS:Nat} {n:Int} {f:ByteArray} {es:List Ent} (h:Sep [mapC m (ents es),boxS bS n f] w) (hl:es.length≤1000000000):
 Calls Tryz.prog 312 #[.map (some m),.func (.func 313) #[] #[.pointer (some ⟨bS,0,none⟩)]] w fun e w'=>e=.returned (.int .i64 (heldN es n f))∧At [mapC m (ents es),boxS bS n f] w [mapC m (ents es),boxS bS n f] w':=by
 have hA:=At.start h;obtain⟨hA,hF⟩:=fY hA;clear h
 go_enter Tryz.func312,Tryz.ntmps312
 go_wp2_with (refine ZaI rfl rfl rfl hA sR Tryz.underlying201 ?_;intro r w1 hB hr;clear hF hA;have hA:=hB;clear hB;obtain⟨hA,hF⟩:=fY hA)
 try go_frame
 go_loopg [5] es.length (CtRel [mapC m (ents es),boxS bS n f] m r bS n f es w)
 case atStart=>exact⟨[],hA,nofun,by simp[heldN],by simp⟩
 case round=>
  obtain⟨ds,hA2,hds,rfl,hk⟩:=hrel;clear hF hA;have hA:=hA2;clear hA2;obtain⟨hA,hF⟩:=fY hA
  go_step
  go_step
  refine ZaV rfl rfl rfl hA sR (fun hp=> ?_) (fun q w1 hq hd hB=> ?_)
  · have hc:=Hd (Zjw (ents_perm hp) n f)
    have hM:=At.ranged hA sR;clear hp
    go_wp2_with fail
    go_ret;exact⟨by rw[hc.out];rfl,hM.only2 sR sR⟩
  obtain⟨s,hs,rfl⟩:=List.mem_map.1 hq
  have hI:Zam Tryz.prog 203 w1 r m (ents es) (ents ds++[ent s]):=hB.get (A:=Part.iter _ _ r m (ents es) (ents ds++[ent s])) sR;have hen:=hI.entry
  have hlen:(ds++[s]).length≤es.length:=by have:=hI.len;simpa [ents] using this
  have hsub:∀x ∈ ds++[s],x ∈ es:=fun x hx=>by
   rcases List.mem_append.1 hx with hx|hx
   · exact hds x hx
   have:x=s:=by simpa using hx
   rw[this];exact hs
  rw[ents_snoc] at hB;clear hF hA;have hA:=hB;have hk':=Hd hk;have hsub':=Hd hsub;have hsn:=Hd (Zjv ds s n f);have hcl:=ZiJ ds n f;simp only[List.length_append,List.length_cons,List.length_nil,Nat.zero_add] at hlen;clear hI hB hk hsub hds hq hd hs;obtain⟨hA,hF⟩:=fY hA;simp only[ent,Ent.key,Ent.val,keyV] at hen
  obtain⟨c,hc⟩:∃c,s.of n f=c:=⟨_,rfl⟩
  have hc':=Hd hc
  go_wp2_with (first|((with_reducible refine gst ?_);refine wTy hA ?_;clear hF hA;intro w1 hA hF)|((with_reducible refine gal ?_);refine wGy 203 [.string .empty,.int .u64 0,.string .empty] hA ?_;clear hF hA;intro b1 w1 hA hb1 hF))
  refine(ZkD (hA.sep1 (A:=boxS bS n f) sR) hc).mono ?_;clear hc;rintro e w2 ⟨rfl,hT⟩;replace hA:=hA.call1 (A:=boxS bS n f) sR hT;clear hF hT;obtain⟨hA,hF⟩:=fY hA;cases c
  all_goals
   go_wp2_with fail
   go_roundg (gk - 1)
   case measure=>have:=hk'.out;omega
   case rel=>exact⟨ds++[s],hA.only2 sR sR,hsub'.out,by rw[hsn.out,hc'.out];simp,by have:=hk'.out;simp;omega⟩
theorem Zmf {w:World} {b:Bk} (h:Sep [BookP b] w) (n:Int) (f:ByteArray) (hl:b.es.length≤1000000000):
 Calls Tryz.prog 290 #[.pointer (some ⟨b.p,0,none⟩),.agg #[.int .u64 n,.string f]] w fun e w'=>e=.returned (.int .i64 (heldN b.es n f))∧At [BookP b] w [BookP b] w':=by
 have hA:=begin0 h;obtain⟨hA,hF⟩:=fY hA;clear h
 go_enter Tryz.func290,Tryz.ntmps290
 go_wp2_with ((with_reducible refine gbx ?_);refine wCy (E:=25) hA ?_;clear hF hA;intro bS w1 hA hbS hF)
 refine(count_any (hA.sep2 (A:=mapC b.m (ents b.es)) (B:=boxS bS n f) sR sR) hl).mono ?_;rintro e w2 ⟨rfl,hT⟩;replace hA:=hA.call2 (A:=mapC b.m (ents b.es)) (B:=boxS bS n f) sR sR hT;clear hF hT;obtain⟨hA,hF⟩:=fY hA
 go_wp2_with fail
 go_ret;exact⟨rfl,close0 b hA sR sR sR⟩
end Lock
end
section
namespace Lock
open Path (bl Zad overB)
def putC:List (ByteArray × Int)→ByteArray→Int→List (ByteArray × Int)
 |[],p,n=>[(p,n)]
 |c::cs,p,n=>if c.1=p then(p,n)::cs else c::putC cs p n
theorem ZcO:∀{cs:List (ByteArray × Int)} {p:ByteArray} {n:Int},ctr cs p=none→putC cs p n=cs++[(p,n)]
 |[],p,n,_=>rfl
 |c::cs,p,n,h=>by
  unfold ctr at h
  by_cases hc:c.1=p
  · simp[List.find?_cons,hc] at h
  have h2:ctr cs p=none:=by unfold ctr;simpa [List.find?_cons,hc] using h
  simp[putC,hc,ZcO h2]
theorem ZfD {l2:List (ByteArray × Int)} {p:ByteArray} {u n:Int}:∀{l1:List (ByteArray × Int)},(∀c ∈ l1,c.1≠p)→putC (l1++(p,u)::l2) p n=l1++(p,n)::l2
 |[],_=>by simp[putC]
 |c::l1,h=>by
  have:=ZfD (l1:=l1) (n:=n) (u:=u) (l2:=l2) (fun x hx=>h x (by simp[hx]));simp[putC,h c (by simp),this]
theorem Zes {cs:List (ByteArray × Int)} {p:ByteArray} {u:Int} (h:ctr cs p=some u):∃l1 l2,cs=l1++(p,u)::l2∧∀c ∈ l1,c.1≠p:=by
 unfold ctr at h;simp only[Option.map_eq_some_iff] at h;obtain⟨q,h1,rfl⟩:=h;obtain⟨h1,l1,l2,h2,h3⟩:=List.find?_eq_some_iff_append.1 h1
 have h4:q.1=p:=by simpa using h1
 subst h4;exact⟨l1,l2,h2,fun c hc=>by simpa using h3 c hc⟩
theorem ZnZ (cs:List (ByteArray × Int)) (p q:ByteArray) (n:Int):ctr (putC cs p n) q=if p=q then some n else ctr cs q:=by
 induction cs with
 |nil=>by_cases h:p=q<;>simp[putC,ctr,h]
 |cons c cs ih=>
  unfold ctr at ih ⊢
  by_cases hc:c.1=p
  · by_cases h:p=q
    · simp[putC,hc,List.find?_cons,h]
    have h2:¬c.1=q:=fun e=>h (hc.symm.trans e)
    simp[putC,hc,List.find?_cons,h]
  by_cases h2:c.1=q
  · have h:¬p=q:=fun e=>hc (h2.trans e.symm)
    have hq:¬q=p:=fun e=>h e.symm
    simp[putC,hc,List.find?_cons,h,hq,h2]
  simp[putC,hc,List.find?_cons,h2,ih]
theorem ZlR (cs:List (ByteArray × Int)) (p:ByteArray) (n:Int):(putC cs p n).length≤cs.length + 1:=by
 induction cs with
 |nil=>simp[putC]
 |cons c cs ih=>unfold putC;split<;>simp<;>omega
theorem ZdD {cs:List (ByteArray × Int)} {p:ByteArray} {n:Int} {c:ByteArray × Int} (h:c ∈ putC cs p n):c=(p,n)∨c ∈ cs:=by
 induction cs with
 |nil=>simp[putC] at h;exact .inl h
 |cons d cs ih=>
  unfold putC at h
  split at h
  · rcases List.mem_cons.1 h with h|h
    · exact .inl h
    exact .inr (by simp[h])
  rcases List.mem_cons.1 h with h|h
  · exact .inr (by simp[h])
  rcases ih h with q|q
  · exact .inl q
  exact .inr (by simp[q])
structure S3 where
 first:Int
 es:List Ent
 cs:List (ByteArray × Int)
def lastN:Int:=9223372036854775807
def S3.may (s:S3) (p:ByteArray) (n:Int) (f:ByteArray) (mode:Int):Int:=
 if ZaR p mode=false then 10 else if(find s.es p n f).isSome=true then 15 else if 64≤heldN s.es n f then 14 else if lastN≤counter s.first s.cs p then 53 else 0
def S3.newE (s:S3) (p:ByteArray) (n:Int) (f:ByteArray) (mode:Int):Ent:=⟨p,n,f,mode,counter s.first s.cs p + 1,maxS s.es p + 1⟩
def S3.added (s:S3) (p:ByteArray) (n:Int) (f:ByteArray) (mode:Int):S3:=⟨s.first,s.es++[s.newE p n f mode],putC s.cs p (counter s.first s.cs p + 1)⟩
def S3.add (s:S3) (p:ByteArray) (n:Int) (f:ByteArray) (mode:Int):S3:=if s.may p n f mode=0 then s.added p n f mode else s
def S3.addE (s:S3) (p:ByteArray) (n:Int) (f:ByteArray) (mode:Int):Ent:=if s.may p n f mode=0 then s.newE p n f mode else nullE
def S3.remove (s:S3) (p:ByteArray) (n:Int) (f:ByteArray):S3:=⟨s.first,s.es.filter (fun e=> !e.is p n f),s.cs⟩
def S3.dropAll (s:S3) (n:Int) (f:ByteArray):S3:=⟨s.first,s.es.filter (fun e=> !e.of n f),s.cs⟩
structure Op where
 kind:Int
 mode:Int
 path:ByteArray
 num:Int
 foot:ByteArray
def S3.step (s:S3) (o:Op):S3:=
 if o.kind=1 then s.add o.path o.num o.foot o.mode else if o.kind=2 then s.remove o.path o.num o.foot else if o.kind=3 then s.dropAll o.num o.foot else s
structure Op.ok (o:Op):Prop where
 path:o.path.size≤100
 num0:0≤o.num
 num1:o.num < big64
 foot:o.foot.size≤maxLen
structure Inv (s:S3) (k:Nat):Prop where
 len:s.es.length≤k
 clen:s.cs.length≤k
 keys:s.es.Pairwise (fun a b=>¬(a.path=b.path∧a.num=b.num∧a.foot=b.foot))
 ckeys:s.cs.Pairwise (fun a b=>a.1≠b.1)
 right:∀e ∈ s.es,Zad (bl e.path)=true
 mode:∀e ∈ s.es,e.mode=1∨e.mode=2
 path:∀e ∈ s.es,e.path.size≤100
 num0:∀e ∈ s.es,0≤e.num
 num1:∀e ∈ s.es,e.num < big64
 foot:∀e ∈ s.es,e.foot.size≤maxLen
 stamp0:∀e ∈ s.es,1≤e.stamp
 stamp1:∀e ∈ s.es,e.stamp≤k
 n0:∀e ∈ s.es,0≤e.n
 n1:∀e ∈ s.es,e.n≤lastN
 order:s.es.Pairwise (fun a b=>overB (bl a.path) (bl b.path)=true→a.stamp < b.stamp)
 nums:s.es.Pairwise (fun a b=>a.path=b.path→a.n < b.n)
 ctrs:∀e ∈ s.es,e.n≤counter s.first s.cs e.path
 first0:0≤s.first
 first1:s.first < big64
 cpath:∀c ∈ s.cs,c.1.size≤100
 c0:∀c ∈ s.cs,s.first < c.2
 c1:∀c ∈ s.cs,c.2≤lastN
 cright:∀c ∈ s.cs,Zad (bl c.1)=true
theorem ZnL {first:Int} (h0:0≤first) (h1:first < big64):Inv ⟨first,[],[]⟩ 0 where
 len:=by simp
 clen:=by simp
 keys:=.nil
 ckeys:=.nil
 right:=nofun
 mode:=nofun
 path:=nofun
 num0:=nofun
 num1:=nofun
 foot:=nofun
 stamp0:=nofun
 stamp1:=nofun
 n0:=nofun
 n1:=nofun
 order:=.nil
 nums:=.nil
 ctrs:=nofun
 first0:=h0
 first1:=h1
 cpath:=nofun
 c0:=nofun
 c1:=nofun
 cright:=nofun
theorem Inv.mono {s:S3} {k j:Nat} (h:Inv s k) (hj:k≤j):Inv s j:=
 {h with len:=by have:=h.len;omega,clen:=by have:=h.clen;omega,stamp1:=fun e he=>by have:=h.stamp1 e he;omega}
theorem Inv.sub {s:S3} {k:Nat} (h:Inv s k) {l:List Ent} (hl:l.Sublist s.es):Inv ⟨s.first,l,s.cs⟩ k:=
 {len:=Nat.le_trans hl.length_le h.len,clen:=h.clen,keys:=h.keys.sublist hl,ckeys:=h.ckeys,right:=fun e he=>h.right e (hl.subset he),mode:=fun e he=>h.mode e (hl.subset he),
  path:=fun e he=>h.path e (hl.subset he),num0:=fun e he=>h.num0 e (hl.subset he),num1:=fun e he=>h.num1 e (hl.subset he),foot:=fun e he=>h.foot e (hl.subset he),
  stamp0:=fun e he=>h.stamp0 e (hl.subset he),stamp1:=fun e he=>h.stamp1 e (hl.subset he),n0:=fun e he=>h.n0 e (hl.subset he),n1:=fun e he=>h.n1 e (hl.subset he),
  order:=h.order.sublist hl,nums:=h.nums.sublist hl,ctrs:=fun e he=>h.ctrs e (hl.subset he),first0:=h.first0,first1:=h.first1,cpath:=h.cpath,c0:=h.c0,c1:=h.c1,cright:=h.cright}
theorem ZcZ {es:List Ent} {p:ByteArray} {n:Int} {f:ByteArray}:find es p n f=none↔∀e ∈ es,¬(e.path=p∧e.num=n∧e.foot=f):=by
 unfold find;rw[List.find?_eq_none];simp[Ent.is]
theorem Zkr {l:List Ent} {p:ByteArray} {e:Ent} (he:e ∈ l) (h:overB (bl e.path) (bl p)=true):e.stamp≤maxS l p:=by
 have key:∀(l:List Ent) (m:Int),m≤l.foldl (fun m e=>if overB (bl e.path) (bl p) then max m e.stamp else m) m:=by
  intro l
  induction l with
  |nil=>intro m;exact Int.le_refl _
  |cons x l ih=>
   intro m;rw[List.foldl_cons];refine Int.le_trans ?_ (ih _)
   split<;>omega
 obtain⟨l1,l2,rfl⟩:=List.append_of_mem he;unfold maxS;rw[List.foldl_append,List.foldl_cons,if_pos h];exact Int.le_trans (by omega) (key l2 _)
theorem Zei {s:S3} {p:ByteArray} {n:Int} {f:ByteArray} {mode:Int} (h:s.may p n f mode=0):ZaR p mode=true∧find s.es p n f=none∧heldN s.es n f < 64∧counter s.first s.cs p < lastN:=by
 unfold S3.may at h
 split at h
 · omega
 rename_i h1
 split at h
 · omega
 rename_i h2
 split at h
 · omega
 rename_i h3
 split at h
 · omega
 rename_i h4
 exact⟨by simpa using h1,by simpa using h2,by omega,by omega⟩
theorem Zgu {p:ByteArray} {mode:Int} (h:ZaR p mode=true):Zad (bl p)=true∧(mode=1∨mode=2):=by
 unfold ZaR at h
 simpa using h
theorem Zdl {s:S3} {k:Nat} (h:Inv s k) (p:ByteArray):s.first≤counter s.first s.cs p:=by
 unfold counter
 cases hc:ctr s.cs p with
 |none=>simp
 |some u=>
  obtain⟨l1,l2,e,_⟩:=Zes hc;have:=h.c0 (p,u) (by rw[e];simp)
  simp at this ⊢;omega
theorem Zkz {s:S3} {k:Nat} (h:Inv s k) {p:ByteArray} {n:Int} {f:ByteArray} {mode:Int} (hm:s.may p n f mode=0) (hp:p.size≤100) (h0:0≤n) (h1:n < big64) (hf:f.size≤maxLen):Inv (s.added p n f mode) (k + 1):=by
 obtain⟨hr,hn,hh,hc⟩:=Zei hm;obtain⟨hr,hmo⟩:=Zgu hr;rw[ZcZ] at hn;have hms:=ZfJ (l:=s.es) (p:=p) (B:=k) (by omega) h.stamp1;have hcg:=Zdl h p;have hf0:=h.first0
 have mem:∀{P:Ent→Prop},(∀e ∈ s.es,P e)→P (s.newE p n f mode)→∀e ∈ s.es++[s.newE p n f mode],P e:=fun h1 h2 e he=>by
  rcases List.mem_append.1 he with he|he
  · exact h1 e he
  rw[List.mem_singleton.1 he];exact h2
 have pw:∀{R:Ent→Ent→Prop},s.es.Pairwise R→(∀e ∈ s.es,R e (s.newE p n f mode))→(s.es++[s.newE p n f mode]).Pairwise R:=fun h1 h2=>
  List.pairwise_append.2 ⟨h1,List.pairwise_singleton _ _,fun a ha b hb=>by rw[List.mem_singleton.1 hb];exact h2 a ha⟩
 have cc:∀q,counter s.first (putC s.cs p (counter s.first s.cs p + 1)) q=if p=q then counter s.first s.cs p + 1 else counter s.first s.cs q:=fun q=>by
  unfold counter;rw[ZnZ]
  split<;>simp
 have ck:(putC s.cs p (counter s.first s.cs p + 1)).Pairwise (fun a b=>a.1≠b.1):=by
  cases hq:ctr s.cs p with
  |none=>
   rw[ZcO hq];refine List.pairwise_append.2 ⟨h.ckeys,List.pairwise_singleton _ _,fun a ha b hb=> ?_⟩;rw[List.mem_singleton.1 hb];intro e;have:=Zf5 hq (ctrE a) (List.mem_map.2 ⟨a,ha,rfl⟩);exact this (by simp[ctrE,e])
  |some u=>
   obtain⟨l1,l2,e,hl⟩:=Zes hq;have hk:=h.ckeys;rw[e] at hk ⊢;rw[ZfD hl];rw[List.pairwise_append] at hk ⊢;refine⟨hk.1,?_,fun a ha b hb=> ?_⟩
   · have:=List.pairwise_cons.1 hk.2.1
     exact List.pairwise_cons.2 ⟨this.1,this.2⟩
   rcases List.mem_cons.1 hb with rfl|hb
   · exact hl a ha
   exact hk.2.2 a ha b (by simp[hb])
 constructor
 case len=>simp[S3.added];exact h.len
 case clen=>exact Nat.le_trans (ZlR _ _ _) (by have:=h.clen;omega)
 case keys=>exact pw h.keys (fun e he=>hn e he)
 case ckeys=>exact ck
 case right=>exact mem h.right hr
 case mode=>exact mem h.mode hmo
 case path=>exact mem h.path hp
 case num0=>exact mem h.num0 h0
 case num1=>exact mem h.num1 h1
 case foot=>exact mem h.foot hf
 case stamp0=>exact mem h.stamp0 (by simp only[S3.newE];omega)
 case stamp1=>exact mem (fun e he=>by have:=h.stamp1 e he;omega) (by simp only[S3.newE];omega)
 case n0=>exact mem h.n0 (by simp only[S3.newE];omega)
 case n1=>exact mem h.n1 (by simp only[S3.newE];omega)
 case order=>exact pw h.order (fun e he ho=>by have:e.stamp≤maxS s.es p:=Zkr he ho;simp only[S3.newE];omega)
 case nums=>exact pw h.nums (fun e he ho=>by have:=h.ctrs e he;simp only[S3.newE] at ho ⊢;rw[ho] at this;omega)
 case ctrs=>
  refine mem (fun e he=> ?_) ?_
  · have:=h.ctrs e he
    simp only[S3.added];rw[cc]
    split
    · rename_i hq;subst hq;omega
    exact this
  simp only[S3.added,S3.newE];rw[cc,if_pos rfl];exact Int.le_refl _
 case first0=>exact h.first0
 case first1=>exact h.first1
 case cpath=>
  intro c hc
  rcases ZdD hc with rfl|hc
  · exact hp
  exact h.cpath c hc
 case c0=>
  intro c hc
  rcases ZdD hc with rfl|hc
  · simp only[S3.added];omega
  exact h.c0 c hc
 case c1=>
  intro c hc
  rcases ZdD hc with rfl|hc
  · simp only;omega
  exact h.c1 c hc
 case cright=>
  intro c hc
  rcases ZdD hc with rfl|hc
  · exact hr
  exact h.cright c hc
theorem ZfS {s:S3} {k:Nat} (h:Inv s k) {o:Op} (ho:o.ok):Inv (s.step o) (k + 1):=by
 unfold S3.step
 split
 · unfold S3.add
   split
   · rename_i hm
     exact Zkz h hm ho.path ho.num0 ho.num1 ho.foot
   exact h.mono (by omega)
 split
 · exact(h.sub List.filter_sublist).mono (by omega)
 split
 · exact(h.sub List.filter_sublist).mono (by omega)
 exact h.mono (by omega)
theorem Zlo {a b:Ent} (h:wayB a b=true):overB (bl a.path) (bl b.path)=true:=by
 unfold wayB at h
 simp at h
 exact h.2
def ZaO (l:List Ent) (p:ByteArray) (mode:Int):Bool:=l.all (fun x=> !wayB x ⟨p,0,.empty,mode,0,0⟩)&&ZaR p mode
theorem ZhT (l:List Ent) (p:ByteArray) (mode:Int):ZaP l ⟨p,0,.empty,mode,0,maxS l p + 1⟩=l.all (fun x=> !wayB x ⟨p,0,.empty,mode,0,0⟩):=by
 unfold ZaP;rw[Bool.eq_iff_iff,List.all_eq_true,List.all_eq_true]
 refine forall_congr' fun x=>forall_congr' fun hx=> ?_
 have e:wayB x ⟨p,0,.empty,mode,0,maxS l p + 1⟩=wayB x ⟨p,0,.empty,mode,0,0⟩:=rfl;rw[e]
 cases hw:wayB x ⟨p,0,.empty,mode,0,0⟩ with
 |false=>simp
 |true=>
  have h:x.stamp≤maxS l p:=Zkr hx (Zlo hw)
  have:x.stamp < maxS l p + 1:=by omega
  simp[this]
end Lock
end
section
namespace Lock
open _root_.Go.Proofs.YtkdjkngfnapjcaaGreatDoor.Wire
open _root_.Go.Proofs.YtkdjkngfnapjcaaGreatDoor.Enc
def encE (e:Ent):List Int:=textB e.path++fixL e.num.toNat++textB e.foot++[e.mode]++fixL e.n.toNat++Zaf e.stamp.toNat
def encC (c:ByteArray × Int):List Int:=textB c.1++fixL c.2.toNat
def encB (es:List Ent) (cs:List (ByteArray × Int)):List Int:=Zaf es.length++es.flatMap encE++Zaf cs.length++cs.flatMap encC
structure okE (e:Ent):Prop where
 n0:0≤e.num
 n1:e.num < 18446744073709551616
 k0:0≤e.n
 k1:e.n < 18446744073709551616
 s0:0≤e.stamp
def okC (c:ByteArray × Int):Prop:=0≤c.2∧c.2 < 18446744073709551616
end Lock
end
end Go.Proofs.YtkdjkngfnapjcaaGreatDoor
