/- LeaseM, LeaseK, LeaseW, LeaseW2, LeaseW3, LeaseW4, LeaseW5, LeaseW6, LeaseW7, LeaseW9, LeaseQa, joined. -/
import Derived.Test.YtkdjkngfnapjcaaGreatDoorQ1
import Derived.Test.YtkdjkngfnapjcaaGreatDoorChecked
import Derived.Test.YtkdjkngfnapjcaaGreatDoorQ3
import Derived.Deep.Cut
import Derived.Deep.QuietTactic
import Derived.BigQuiet
import Derived.Deep.LoopGhost
import Derived.WalkLawsBesides
set_option linter.unusedSimpArgs false
set_option linter.unusedVariables false
set_option maxRecDepth 100000
set_option maxHeartbeats 16000000
namespace Go.Proofs.YtkdjkngfnapjcaaGreatDoor
section
namespace Lease
open Go.RowKit
structure Ans where
 e:Int
 n:Int
 g:Bool
def Ans.val (a:Ans):Value:=.agg #[.int .i64 a.e,.int .u64 a.n,.bool a.g]
structure Ses where
 num:Int
 foot:ByteArray
 op:Bool
 dead:Bool
 dl:Int
 ttl:Int
 told:List (Int × Ans)
 blk:Nat
 tm:Nat
def Ses.is (s:Ses) (n:Int) (f:ByteArray):Bool:=decide (s.num=n∧s.foot=f)
def keyV (n:Int) (f:ByteArray):Value:=.agg #[.int .u64 n,.string f]
def Ses.key (s:Ses):Value:=keyV s.num s.foot
def Ses.ptr (s:Ses):Value:=.pointer (some ⟨s.blk,0,none⟩)
def Ses.cells (s:Ses):List Value:=[.bool s.op,.bool s.dead,.int .i64 s.dl,.int .i64 s.ttl,.int .i64 0,.map (some s.tm)]
def ent (s:Ses):Value × Value:=(s.key,s.ptr)
def saidE (p:Int × Ans):Value × Value:=(.int .u64 p.1,p.2.val)
def ents (ss:List Ses):List (Value × Value):=ss.map ent
def saids (l:List (Int × Ans)):List (Value × Value):=l.map saidE
def sesL (s:Ses):List Part:=[Part.cells s.blk s.cells 219,Part.map Tryz.prog 23 s.tm (saids s.told)]
def sesP (s:Ses):Part:=Part.all (sesL s)
def headP (p m:Nat):Part:=Part.cells p [.map (some m)] 215
def mapP (m:Nat) (ss:List Ses):Part:=Part.map Tryz.prog 25 m (ents ss)
def restP (ss:List Ses):Part:=Part.all (ss.map sesP)
def BookP (p m:Nat) (ss:List Ses):Part:=Part.all [headP p m,mapP m ss,restP ss]
abbrev headC (p m:Nat):Part:=Part.cells p [.map (some m)] 215
abbrev mapC (m:Nat) (es:List (Value × Value)):Part:=Part.map Tryz.prog 25 m es
abbrev toldC (m:Nat) (es:List (Value × Value)):Part:=Part.map Tryz.prog 23 m es
abbrev sesC (b:Nat) (c:List Value):Part:=Part.cells b c 219
theorem eqv0 (p m:Nat) (ss:List Ses) (F:List Part):Eqv (BookP p m ss::F) (headC p m::mapC m (ents ss)::restP ss::F):=Eqv.all [headC p m,mapC m (ents ss),restP ss] F
theorem eqvR (l1 l2:List Ses) (s:Ses) (F:List Part):Eqv (restP (l1++s::l2)::F) (sesC s.blk s.cells::toldC s.tm (saids s.told)::restP (l1++l2)::F):=by
 refine(Eqv.all _ F).trans ?_
 have p1:((l1++s::l2).map sesP++F).Perm (sesP s::((l1++l2).map sesP++F)):=by
  simp only[List.map_append,List.map_cons,List.append_assoc,List.cons_append];exact List.perm_middle
 refine(Eqv.perm p1).trans ((Eqv.all (sesL s) _).trans ?_);exact(Eqv.all ((l1++l2).map sesP) F).symm.prepend (sesL s)
theorem eqvR' {ss l1 l2:List Ses} {s:Ses} (e:ss=l1++s::l2) (F:List Part):Eqv (restP ss::F) (sesC s.blk s.cells::toldC s.tm (saids s.told)::restP (l1++l2)::F):=by rw[e];exact eqvR l1 l2 s F
theorem out' {L0 L F:List Part} {w0 w:World} {ss l1 l2:List Ses} {s:Ses} (e:ss=l1++s::l2) (h:At L0 w0 L w) (q:Sel (restP ss) L F):At L0 w0 (sesC s.blk s.cells::toldC s.tm (saids s.told)::restP (l1++l2)::F) w:=(h.take q).to (eqvR' e F)
theorem in' {L0 L F G H:List Part} {w0 w:World} {ss l1 l2:List Ses} {s:Ses} (e:ss=l1++s::l2) (h:At L0 w0 L w) (q1:Sel (sesC s.blk s.cells) L F) (q2:Sel (toldC s.tm (saids s.told)) F G) (q3:Sel (restP (l1++l2)) G H):At L0 w0 (restP ss::H) w:=
 (h.perm (q1.perm.trans ((q2.perm.trans (q3.perm.cons _)).cons _))).to (eqvR' e H).symm
theorem eqv1 (p m:Nat) (l1 l2:List Ses) (s:Ses) (F:List Part):Eqv (BookP p m (l1++s::l2)::F) (sesC s.blk s.cells::toldC s.tm (saids s.told)::restP (l1++l2)::headC p m::mapC m (ents (l1++s::l2))::F):=
 (eqv0 p m _ F).trans ((Eqv.perm ((List.Perm.cons _ (List.Perm.swap _ _ _)).trans (List.Perm.swap _ _ _))).trans (eqvR l1 l2 s _))
theorem begin0 {w:World} {p m:Nat} {ss:List Ses} (h:Sep [BookP p m ss] w):At [BookP p m ss] w [headC p m,mapC m (ents ss),restP ss] w:=(At.start h).to (eqv0 p m ss [])
theorem Zi2 {w:World} {p m:Nat} {l1 l2:List Ses} {s:Ses} (h:Sep [BookP p m (l1++s::l2)] w):
 At [BookP p m (l1++s::l2)] w [sesC s.blk s.cells,toldC s.tm (saids s.told),restP (l1++l2),headC p m,mapC m (ents (l1++s::l2))] w:=
 (At.start h).to (eqv1 p m l1 l2 s [])
theorem open1 {L0 L F:List Part} {w0 w:World} {p m:Nat} {l1 l2:List Ses} {s:Ses} (h:At L0 w0 L w) (q:Sel (BookP p m (l1++s::l2)) L F):
 At L0 w0 (sesC s.blk s.cells::toldC s.tm (saids s.told)::restP (l1++l2)::headC p m::mapC m (ents (l1++s::l2))::F) w:=(h.take q).to (eqv1 p m l1 l2 s F)
theorem fold0 {L0 L F G H:List Part} {w0 w:World} {p m:Nat} {ss:List Ses} (h:At L0 w0 L w) (s1:Sel (headC p m) L F) (s2:Sel (mapC m (ents ss)) F G) (s3:Sel (restP ss) G H):At L0 w0 (BookP p m ss::H) w:=
 (h.perm (s1.perm.trans ((s2.perm.trans (s3.perm.cons _)).cons _))).to (eqv0 p m ss H).symm
theorem perm1 {L F G H I J:List Part} {A B C D E:Part} (s1:Sel A L F) (s2:Sel B F G) (s3:Sel C G H) (s4:Sel D H I) (s5:Sel E I J):L.Perm (C::D::E::A::B::J):=
 (s1.perm.trans ((s2.perm.trans ((s3.perm.trans ((s4.perm.trans (s5.perm.cons D)).cons C)).cons B)).cons A)).trans (List.perm_append_comm (l₁:=[A,B]) (l₂:=[C,D,E]) |>.append_right J)
theorem fold1 {L0 L F G H I J:List Part} {w0 w:World} {p m:Nat} {l1 l2:List Ses} {s:Ses} (h:At L0 w0 L w) (s1:Sel (headC p m) L F) (s2:Sel (mapC m (ents (l1++s::l2))) F G)
 (s3:Sel (sesC s.blk s.cells) G H) (s4:Sel (toldC s.tm (saids s.told)) H I) (s5:Sel (restP (l1++l2)) I J):At L0 w0 (BookP p m (l1++s::l2)::J) w:=
 (h.perm (perm1 s1 s2 s3 s4 s5)).to (eqv1 p m l1 l2 s J).symm
theorem ZiL {L0 L F G H I J:List Part} {w0 w:World} {p m:Nat} {ss:List Ses} (s:Ses) (h:At L0 w0 L w) (s1:Sel (headC p m) L F) (s2:Sel (mapC m (ents ss++[(s.key,s.ptr)])) F G)
 (s3:Sel (sesC s.blk s.cells) G H) (s4:Sel (toldC s.tm (saids s.told)) H I) (s5:Sel (restP ss) I J):At L0 w0 (BookP p m (ss++[s])::J) w:=by
 have e:ents ss++[(s.key,s.ptr)]=ents (ss++s::[]):=by simp[ents,ent]
 rw[e] at s2;exact fold1 (l1:=ss) (l2:=[]) h s1 s2 s3 s4 (by rw[List.append_nil];exact s5)
theorem close0 {L0 L F G H:List Part} {w0 w:World} {p m:Nat} {ss:List Ses} (h:At L0 w0 L w) (s1:Sel (headC p m) L F) (s2:Sel (mapC m (ents ss)) F G) (s3:Sel (restP ss) G H):At L0 w0 [BookP p m ss] w:=(fold0 h s1 s2 s3).only1 .here
theorem ZcA {L0 L F G H I J:List Part} {w0 w:World} {p m:Nat} {l1 l2:List Ses} {s:Ses} (h:At L0 w0 L w) (s1:Sel (headC p m) L F) (s2:Sel (mapC m (ents (l1++s::l2))) F G)
 (s3:Sel (sesC s.blk s.cells) G H) (s4:Sel (toldC s.tm (saids s.told)) H I) (s5:Sel (restP (l1++l2)) I J):At L0 w0 [BookP p m (l1++s::l2)] w:=(fold1 h s1 s2 s3 s4 s5).only1 .here
theorem Zg6 {L0 L F G H I J:List Part} {w0 w:World} {p m:Nat} {ss:List Ses} (s:Ses) (h:At L0 w0 L w) (s1:Sel (headC p m) L F) (s2:Sel (mapC m (ents ss++[(s.key,s.ptr)])) F G)
 (s3:Sel (sesC s.blk s.cells) G H) (s4:Sel (toldC s.tm (saids s.told)) H I) (s5:Sel (restP ss) I J):At L0 w0 [BookP p m (ss++[s])] w:=(ZiL s h s1 s2 s3 s4 s5).only1 .here
theorem opened {L0 L F G H I J:List Part} {w0 w:World} {p m:Nat} {l1 l2:List Ses} {s:Ses} {f:FuncId} {args:Array Value} {v:Value} (h:At L0 w0 L w) (s1:Sel (headC p m) L F) (s2:Sel (mapC m (ents (l1++s::l2))) F G)
 (s3:Sel (sesC s.blk s.cells) G H) (s4:Sel (toldC s.tm (saids s.told)) H I) (s5:Sel (restP (l1++l2)) I J)
 (hc:Sep [BookP p m (l1++s::l2)] w→Calls Tryz.prog f args w fun e w'=>e=.returned v∧At [BookP p m (l1++s::l2)] w [BookP p m (l1++s::l2)] w'):
 Calls Tryz.prog f args w fun e w'=>e=.returned v∧At L0 w0 L w':=
 At.through h ((Eqv.perm (perm1 s1 s2 s3 s4 s5)).trans (eqv1 p m l1 l2 s J).symm) hc
def find (ss:List Ses) (n:Int) (f:ByteArray):Option Ses:=ss.find? (·.is n f)
theorem find_split {ss:List Ses} {n:Int} {f:ByteArray} {s:Ses} (h:find ss n f=some s):∃l1 l2,ss=l1++s::l2∧s.num=n∧s.foot=f∧∀x ∈ l1,x.is n f=false:=by
 obtain⟨h1,l1,l2,h2,h3⟩:=List.find?_eq_some_iff_append.1 h
 have h4:s.num=n∧s.foot=f:=by simpa [Ses.is] using h1
 exact⟨l1,l2,h2,h4.1,h4.2,fun x hx=>by simpa using h3 x hx⟩
theorem find_none {ss:List Ses} {n:Int} {f:ByteArray} (h:find ss n f=none):∀p ∈ ents ss,p.1≠keyV n f:=by
 intro p hp;obtain⟨s,hs,rfl⟩:=List.mem_map.1 hp
 have h1:¬s.is n f=true:=List.find?_eq_none.1 h s hs
 intro e
 apply h1
 simp[ent,Ses.key,keyV] at e;simp[Ses.is,e]
theorem find_mem {ss:List Ses} {n:Int} {f:ByteArray} {s:Ses} (h:find ss n f=some s):(keyV n f,s.ptr) ∈ ents ss:=by
 obtain⟨l1,l2,rfl,rfl,rfl,_⟩:=find_split h;simp[ents,ent,Ses.key]
def said (told:List (Int × Ans)) (r:Int):Option Ans:=(told.find? (·.1=r)).map (·.2)
theorem said_none {told:List (Int × Ans)} {r:Int} (h:said told r=none):∀p ∈ saids told,p.1≠.int .u64 r:=by
 intro p hp;obtain⟨s,hs,rfl⟩:=List.mem_map.1 hp;unfold said at h
 simp at h
 intro e;simp[saidE] at e;exact h s.1 s.2 hs e
theorem ZlI {told:List (Int × Ans)} {r:Int} {a:Ans} (h:said told r=some a):(.int .u64 r,a.val) ∈ saids told:=by
 unfold said at h;simp only[Option.map_eq_some_iff] at h;obtain⟨q,h1,h2⟩:=h;have h3:=List.find?_some h1;have h4:=List.mem_of_find?_eq_some h1;refine List.mem_map.2 ⟨q,h4,?_⟩
 simp at h3
 simp[saidE,h3,h2]
end Lease
end
section
namespace Lease
open Go.RowKit
open Go.Maps (Keyed)
theorem laidOut:laidOutB Tryz.prog=true:=by kernel_rfl
theorem wideS:(match Tryz.prog.underlying 25 with|some (.array _ _)|some (.struct _)=>true|_=>false)=true:=by kernel_rfl
theorem rowS:(25:TypeId) < Tryz.prog.types.size:=of_decide_eq_true (by kernel_rfl)
theorem lawS:Keyed Tryz.prog 25:=Keyed.of_law (deep_law_laid laidOut (m:=2) (by omega) rowS (by kernel_rfl) wideS)
theorem lawU:Keyed Tryz.prog 23:=Go.Maps.int_keyed Tryz.underlying23
theorem Zma:Tryz.prog.keyType 25=true:=by kernel_rfl
theorem cellsS:Tryz.prog.cellsOf 25=2:=by kernel_rfl
theorem cellsU:Tryz.prog.cellsOf 23=1:=by kernel_rfl
theorem cellsStr:Tryz.prog.cellsOf 9=1:=by kernel_rfl
theorem ZnQ (c0 c1:Value):(Value.agg #[c0,c1]).formed Tryz.prog 25=true:=by simp[Value.formed,Tryz.underlying25,cellsS]
def big64:Int:=18446744073709551616
theorem keyS {n:Int} {f:ByteArray} (h0:0≤n) (h1:n < big64) (hf:f.size≤maxLen):∃l,keyOf Tryz.prog 25 (keyV n f)=some l:=by
 have hw:(Lit.int .u64 n).wf=true:=by simp[Lit.wf,IntKind.min,IntKind.max,IntKind.signed,IntKind.bits];unfold big64 at h1;omega
 obtain⟨d,hd⟩:∃d,Tryz.prog.types.size=d + 1:=Nat.exists_eq_succ_of_ne_zero (Nat.ne_of_gt (Nat.lt_of_le_of_lt (Nat.zero_le _) rowS))
 have hl:Tryz.prog.keyLits (Tryz.prog.types.size + 1) 25 [.int .u64 n,.string f]=some [.int .u64 n,.string f.data.toList]:=by
  rw[hd];simp[Program.keyLits,Tryz.underlying25,Tryz.underlying23,Tryz.underlying9,cellsS,cellsU,cellsStr,hw,hf]
 exact⟨.string (keyBytes [.int .u64 n,.string f.data.toList]),by
  unfold keyOf;rw[Tryz.underlying25];simp only[Zma,keyV,ZnQ,Bool.and_self,if_true];rw[show(Value.agg #[.int .u64 n,.string f]).cells.toList=[.int .u64 n,.string f] from rfl,hl]
  rfl⟩
theorem keyU {n:Int} (h0:0≤n) (h1:n < big64):∃l,keyOf Tryz.prog 23 (.int .u64 n)=some l:=
 ⟨_,Go.Maps.keyOf_int_mk Tryz.underlying23 (by simp[Lit.wf,IntKind.min,IntKind.max,IntKind.signed,IntKind.bits];unfold big64 at h1;omega)⟩
end Lease
end
section
namespace Lease
open Go.RowKit
open Go.Maps (Keyed)
def Zds (o:Option Ses):Value:=
 match o with
 |none=>.agg #[.bool false,.bool false,.int .i64 0,.int .i64 0,.int .i64 0]
 |some s=>.agg #[.bool s.op,.bool s.dead,.int .i64 s.dl,.int .i64 s.ttl,.int .i64 s.told.length]
theorem ZgK {w:World} {p m:Nat} {ss:List Ses} (h:Sep [BookP p m ss] w) {n:Int} {f:ByteArray} (h0:0≤n) (h1:n < big64) (hf:f.size≤maxLen) (hn:find ss n f=none):
 Calls Tryz.prog 49 #[.pointer (some ⟨p,0,none⟩),keyV n f] w fun e w'=>e=.returned (Zds none)∧At [BookP p m ss] w [BookP p m ss] w':=by
 obtain⟨kl,hk⟩:=keyS h0 h1 hf;have hmiss:=Hd (find_none hn);have hA:=begin0 h;have hF:=hA.facts;clear h
 unfold keyV at *
 go_enter Tryz.func49,Tryz.ntmps49
 go_wp2_with (first|((with_reducible refine gbx ?_);refine wCy hA ?_;clear hF hA;intro b1 w1 hA hb1 hF)|((with_reducible refine gal ?_);refine g3 hA ?_;clear hF hA;intro b1 w1 hA hb1 hF))
 have hl:∀q,(Instr.lookup 212 (.map (some m)) (.agg #[.int .u64 n,.string f]) true).run Tryz.prog (w1.drewN q)=.ok (.tuple #[.pointer none,.bool false]) (w1.drewN q):=fun q=>
  MapAt.look_none (w:=w1.drewN q) ((hA.drewN q).get (A:=Part.map Tryz.prog 25 m (ents ss)) sR) lawS Tryz.underlying212 hk hmiss.out (by kernel_rfl) true
 go_quiet (fail)
 have hA:=hA.drewN nq;generalize World.drewN _ nq=w1 at *;clear hF;obtain⟨hA,hF⟩:=fY hA
 go_wp2_with ((with_reducible refine gst ?_);refine wTy hA ?_;clear hF hA;intro w1 hA hF)
 refine bodyPost_ret (v:=Zds none) (by simp[Zds,results,Tryz.results49,go_sem,hF]) rfl ⟨rfl,?_⟩;exact close0 (m:=m) (ss:=ss) hA sR sR sR
theorem ZgJ {w:World} {p m:Nat} {ss:List Ses} (h:Sep [BookP p m ss] w) {n:Int} {f:ByteArray} (h0:0≤n) (h1:n < big64) (hf:f.size≤maxLen) {s:Ses} (hn:find ss n f=some s):
 Calls Tryz.prog 49 #[.pointer (some ⟨p,0,none⟩),keyV n f] w fun e w'=>e=.returned (Zds (some s))∧At [BookP p m ss] w [BookP p m ss] w':=by
 obtain⟨kl,hk⟩:=keyS h0 h1 hf;have hmem:=Hd (find_mem hn);obtain⟨l1,l2,rfl,_,_,_⟩:=find_split hn;have hA:=Zi2 h;simp only[Ses.cells] at hA;obtain⟨hA,hF⟩:=fY hA;clear h hn
 unfold keyV at *
 go_enter Tryz.func49,Tryz.ntmps49
 go_wp2_with (first|((with_reducible refine gbx ?_);refine wCy hA ?_;clear hF hA;intro b1 w1 hA hb1 hF)|((with_reducible refine gal ?_);refine g3 hA ?_;clear hF hA;intro b1 w1 hA hb1 hF))
 have hl:∀q,(Instr.lookup 212 (.map (some m)) (.agg #[.int .u64 n,.string f]) true).run Tryz.prog (w1.drewN q)=.ok (.tuple #[s.ptr,.bool true]) (w1.drewN q):=fun q=>
  MapAt.look_some (w:=w1.drewN q) ((hA.drewN q).get (A:=Part.map Tryz.prog 25 m (ents (l1++s::l2))) sR) lawS Tryz.underlying212 hk hmem.out true
 unfold Ses.ptr at hl
 go_quiet (fail)
 have hA:=hA.drewN nq;generalize World.drewN _ nq=w1 at *;clear hF;obtain⟨hA,hF⟩:=fY hA
 go_wp2_with (first|((with_reducible refine gst ?_);refine wTy hA ?_;clear hF hA;intro w1 hA hF)|((with_reducible refine gal ?_);refine g3 hA ?_;clear hF hA;intro b1 w1 hA hb1 hF)|(refine Za9 rfl rfl rfl hA sR Tryz.underlying217 ?_))
 refine bodyPost_ret (v:=Zds (some s)) (by simp[Zds,saids,results,Tryz.results49,go_sem,hF]) rfl ⟨rfl,?_⟩;exact ZcA (m:=m) (s:=s) hA sR sR sZ sR sR
end Lease
end
section
namespace Lease
open Go.RowKit
open Go.Maps (Keyed)
def fresh (n:Int) (f:ByteArray) (b t:Nat):Ses:=⟨n,f,false,false,0,0,[],b,t⟩
def look (ss:List Ses) (n:Int) (f:ByteArray):Ses:=(find ss n f).getD (fresh n f 0 0)
def Ses.info (s:Ses):Value:=.agg #[.bool s.op,.bool s.dead,.int .i64 s.dl,.int .i64 s.ttl,.int .i64 s.told.length]
theorem ZaM {w:World} {p m:Nat} {ss:List Ses} (h:Sep [BookP p m ss] w) {n:Int} {f:ByteArray} (h0:0≤n) (h1:n < big64) (hf:f.size≤maxLen):
 Calls Tryz.prog 49 #[.pointer (some ⟨p,0,none⟩),.agg #[.int .u64 n,.string f]] w fun e w'=>e=.returned ((look ss n f).info)∧At [BookP p m ss] w [BookP p m ss] w':=by
 cases hn:find ss n f with
 |none=>have:=ZgK h h0 h1 hf hn;unfold look;rw[hn];exact this
 |some s=>have:=ZgJ h h0 h1 hf hn;unfold look;rw[hn];exact this
def Zlk (p m:Nat) (ss:List Ses) (n:Int) (f:ByteArray) (w:World) (e:Ending) (w':World):Prop:=
 ∃b t,e=.returned (.pointer (some ⟨b,0,none⟩))∧At [BookP p m ss] w [BookP p m (ss++[fresh n f b t])] w'
theorem Zjt {w:World} {p m:Nat} {ss:List Ses} (h:Sep [BookP p m ss] w) {n:Int} {f:ByteArray} (h0:0≤n) (h1:n < big64) (hf:f.size≤maxLen) (hn:find ss n f=none):
 Calls Tryz.prog 170 #[.pointer (some ⟨p,0,none⟩),.agg #[.int .u64 n,.string f]] w (Zlk p m ss n f w):=by
 obtain⟨kl,hk⟩:=keyS h0 h1 hf;have hmiss:=Hd (find_none hn);have hA:=begin0 h;have hF:=hA.facts;clear h
 unfold keyV at *
 go_enter Tryz.func170,Tryz.ntmps170
 go_wp2_with ((with_reducible refine gbx ?_);refine wCy hA ?_;clear hF hA;intro b1 w1 hA hb1 hF)
 have hl:∀q,(Instr.lookup 212 (.map (some m)) (.agg #[.int .u64 n,.string f]) true).run Tryz.prog (w1.drewN q)=.ok (.tuple #[.pointer none,.bool false]) (w1.drewN q):=fun q=>
  MapAt.look_none (w:=w1.drewN q) ((hA.drewN q).get (A:=mapC m (ents ss)) sR) lawS Tryz.underlying212 hk hmiss.out (by kernel_rfl) true
 go_quiet (fail)
 have hA:=hA.drewN nq;generalize World.drewN _ nq=w1 at *;clear hF;obtain⟨hA,hF⟩:=fY hA
 go_wp2_with (first|((with_reducible refine gbx ?_);refine wCy hA ?_;clear hF hA;intro b1 w1 hA hb1 hF)|(refine ZaJ Tryz.prog 23 rfl rfl hA ?_;intro b2 w1 hB hb2;clear hF hA;have hA:=hB;clear hB;obtain⟨hA,hF⟩:=fY hA))
 (refine Zaj 6 (fun w'=>∃n,w'=World.drewN _ n) (by kernel_rfl) (by kernel_rfl) ⟨1,rfl⟩ ?_);(simp only[List.take_succ_cons,List.take_zero,List.drop_succ_cons,List.drop_zero]);(repeat(first|go_big_quiet_step (fail)|quiet_step (fail)));(refine wpQuiet_nil ?_);(rintro _ ⟨nq,rfl⟩)
 have hA:=hA.drewN nq;generalize World.drewN _ nq=w1 at *;clear hF;obtain⟨hA,hF⟩:=fY hA
 refine Zao rfl rfl rfl (by(try simp only[Act.eval,eV])<;>exact rfl) (by(try simp only[Act.eval,eV])<;>exact rfl) hA sR lawS Tryz.underlying212 hk hmiss.out ?_;intro w1 hB;clear hF hA;have hA:=hB;clear hB;obtain⟨hA,hF⟩:=fY hA
 go_wp2_with fail
 go_ret;exact⟨_,_,rfl,Zg6 (fresh n f _ _) hA sR sZ sZ sZ sR⟩
theorem ZeX {w:World} {p m:Nat} {ss:List Ses} (h:Sep [BookP p m ss] w) {n:Int} {f:ByteArray} (h0:0≤n) (h1:n < big64) (hf:f.size≤maxLen) {s:Ses} (hn:find ss n f=some s):
 Calls Tryz.prog 170 #[.pointer (some ⟨p,0,none⟩),.agg #[.int .u64 n,.string f]] w fun e w'=>e=.returned (.pointer (some ⟨s.blk,0,none⟩))∧At [BookP p m ss] w [BookP p m ss] w':=by
 obtain⟨kl,hk⟩:=keyS h0 h1 hf;have hmem:=Hd (find_mem hn);have hA:=begin0 h;have hF:=hA.facts;clear h
 unfold keyV at *
 go_enter Tryz.func170,Tryz.ntmps170
 go_wp2_with ((with_reducible refine gbx ?_);refine wCy hA ?_;clear hF hA;intro b1 w1 hA hb1 hF)
 have hl:∀q,(Instr.lookup 212 (.map (some m)) (.agg #[.int .u64 n,.string f]) true).run Tryz.prog (w1.drewN q)=.ok (.tuple #[s.ptr,.bool true]) (w1.drewN q):=fun q=>
  MapAt.look_some (w:=w1.drewN q) ((hA.drewN q).get (A:=mapC m (ents ss)) sR) lawS Tryz.underlying212 hk hmem.out true
 unfold Ses.ptr at hl
 go_quiet (fail)
 have hA:=hA.drewN nq;generalize World.drewN _ nq=w1 at *;clear hF;obtain⟨hA,hF⟩:=fY hA
 go_wp2_with fail
 go_ret;exact⟨rfl,close0 (m:=m) (ss:=ss) hA sR sR sR⟩
theorem Zgg {w:World} {p m:Nat} {ss:List Ses} (h:Sep [BookP p m ss] w) {n r:Int} {f:ByteArray} (h0:0≤n) (h1:n < big64) (hf:f.size≤maxLen) (hn:find ss n f=none):
 Calls Tryz.prog 115 #[.pointer (some ⟨p,0,none⟩),.agg #[.int .u64 n,.string f],.int .u64 r] w fun e w'=>e=.returned (.tuple #[.agg #[.int .i64 0,.int .u64 0,.bool false],.bool false])∧At [BookP p m ss] w [BookP p m ss] w':=by
 obtain⟨kl,hk⟩:=keyS h0 h1 hf;have hmiss:=Hd (find_none hn);have hA:=begin0 h;have hF:=hA.facts;clear h
 unfold keyV at *
 go_enter Tryz.func115,Tryz.ntmps115
 go_wp2_with (first|((with_reducible refine gbx ?_);refine wCy hA ?_;clear hF hA;intro b1 w1 hA hb1 hF)|((with_reducible refine gal ?_);refine g0 hA ?_;clear hF hA;intro b1 w1 hA hb1 hF))
 have hl:∀q,(Instr.lookup 212 (.map (some m)) (.agg #[.int .u64 n,.string f]) true).run Tryz.prog (w1.drewN q)=.ok (.tuple #[.pointer none,.bool false]) (w1.drewN q):=fun q=>
  MapAt.look_none (w:=w1.drewN q) ((hA.drewN q).get (A:=mapC m (ents ss)) sR) lawS Tryz.underlying212 hk hmiss.out (by kernel_rfl) true
 go_quiet (fail)
 have hA:=hA.drewN nq;generalize World.drewN _ nq=w1 at *;clear hF;obtain⟨hA,hF⟩:=fY hA
 go_wp2_with ((with_reducible refine gst ?_);refine wTy hA ?_;clear hF hA;intro w1 hA hF)
 refine bodyPost_ret (v:=.tuple #[.agg #[.int .i64 0,.int .u64 0,.bool false],.bool false]) (by simp[results,Tryz.results115,go_sem,hF]) rfl ⟨rfl,?_⟩;exact close0 (m:=m) (ss:=ss) hA sR sR sR
theorem Zfo {w:World} {p m:Nat} {ss:List Ses} (h:Sep [BookP p m ss] w) {n r:Int} {f:ByteArray} (h0:0≤n) (h1:n < big64) (hf:f.size≤maxLen) {s:Ses} (hn:find ss n f=some s) (r0:0≤r) (r1:r < big64) (hr:said s.told r=none):
 Calls Tryz.prog 115 #[.pointer (some ⟨p,0,none⟩),.agg #[.int .u64 n,.string f],.int .u64 r] w fun e w'=>e=.returned (.tuple #[.agg #[.int .i64 0,.int .u64 0,.bool false],.bool false])∧At [BookP p m ss] w [BookP p m ss] w':=by
 obtain⟨kl,hk⟩:=keyS h0 h1 hf;obtain⟨ku,hu⟩:=keyU r0 r1;have hmem:=Hd (find_mem hn);have hmiss:=Hd (said_none hr);obtain⟨l1,l2,rfl,_,_,_⟩:=find_split hn;have hA:=Zi2 h;simp only[Ses.cells] at hA;obtain⟨hA,hF⟩:=fY hA;clear h hn
 unfold keyV at *
 go_enter Tryz.func115,Tryz.ntmps115
 go_wp2_with (first|((with_reducible refine gbx ?_);refine wCy hA ?_;clear hF hA;intro b1 w1 hA hb1 hF)|((with_reducible refine gal ?_);refine g0 hA ?_;clear hF hA;intro b1 w1 hA hb1 hF))
 have hl:∀q,(Instr.lookup 212 (.map (some m)) (.agg #[.int .u64 n,.string f]) true).run Tryz.prog (w1.drewN q)=.ok (.tuple #[s.ptr,.bool true]) (w1.drewN q):=fun q=>
  MapAt.look_some (w:=w1.drewN q) ((hA.drewN q).get (A:=mapC m (ents (l1++s::l2))) sR) lawS Tryz.underlying212 hk hmem.out true
 unfold Ses.ptr at hl
 go_quiet (fail)
 have hA:=hA.drewN nq;generalize World.drewN _ nq=w1 at *;clear hF;obtain⟨hA,hF⟩:=fY hA
 go_wp2_with (first|((with_reducible refine gst ?_);refine wTy hA ?_;clear hF hA;intro w1 hA hF)|((with_reducible refine gal ?_);refine g0 hA ?_;clear hF hA;intro b1 w1 hA hb1 hF)|(refine Zbz rfl rfl rfl (by(try simp only[Act.eval,eV])<;>exact rfl) hA (k:=23) (es:=saids s.told) sR lawU Tryz.underlying217 hu hmiss.out (z:=.agg #[.int .i64 0,.int .u64 0,.bool false]) (fun _=>by kernel_rfl) ?_))
 refine bodyPost_ret (v:=.tuple #[.agg #[.int .i64 0,.int .u64 0,.bool false],.bool false]) (by simp[results,Tryz.results115,go_sem,hF]) rfl ⟨rfl,?_⟩;exact ZcA (m:=m) (s:=s) hA sR sR sZ sR sR
theorem Zib {w:World} {p m:Nat} {ss:List Ses} (h:Sep [BookP p m ss] w) {n r:Int} {f:ByteArray} (h0:0≤n) (h1:n < big64) (hf:f.size≤maxLen) {s:Ses} (hn:find ss n f=some s) (r0:0≤r) (r1:r < big64) {a:Ans} (hr:said s.told r=some a):
 Calls Tryz.prog 115 #[.pointer (some ⟨p,0,none⟩),.agg #[.int .u64 n,.string f],.int .u64 r] w fun e w'=>e=.returned (.tuple #[.agg #[.int .i64 a.e,.int .u64 a.n,.bool a.g],.bool true])∧At [BookP p m ss] w [BookP p m ss] w':=by
 obtain⟨kl,hk⟩:=keyS h0 h1 hf;obtain⟨ku,hu⟩:=keyU r0 r1;have hmem:=Hd (find_mem hn);have hthere:=Hd (ZlI hr);obtain⟨l1,l2,rfl,_,_,_⟩:=find_split hn;have hA:=Zi2 h;simp only[Ses.cells] at hA;obtain⟨hA,hF⟩:=fY hA;clear h hn
 unfold keyV Ans.val at *
 go_enter Tryz.func115,Tryz.ntmps115
 go_wp2_with (first|((with_reducible refine gbx ?_);refine wCy hA ?_;clear hF hA;intro b1 w1 hA hb1 hF)|((with_reducible refine gal ?_);refine g0 hA ?_;clear hF hA;intro b1 w1 hA hb1 hF))
 have hl:∀q,(Instr.lookup 212 (.map (some m)) (.agg #[.int .u64 n,.string f]) true).run Tryz.prog (w1.drewN q)=.ok (.tuple #[s.ptr,.bool true]) (w1.drewN q):=fun q=>
  MapAt.look_some (w:=w1.drewN q) ((hA.drewN q).get (A:=mapC m (ents (l1++s::l2))) sR) lawS Tryz.underlying212 hk hmem.out true
 unfold Ses.ptr at hl
 go_quiet (fail)
 have hA:=hA.drewN nq;generalize World.drewN _ nq=w1 at *;clear hF;obtain⟨hA,hF⟩:=fY hA
 go_wp2_with (first|((with_reducible refine gst ?_);refine wTy hA ?_;clear hF hA;intro w1 hA hF)|((with_reducible refine gal ?_);refine g0 hA ?_;clear hF hA;intro b1 w1 hA hb1 hF)|(refine Zby rfl rfl rfl (by(try simp only[Act.eval,eV])<;>exact rfl) hA (k:=23) (es:=saids s.told) sR lawU Tryz.underlying217 hu hthere.out ?_))
 refine bodyPost_ret (v:=.tuple #[.agg #[.int .i64 a.e,.int .u64 a.n,.bool a.g],.bool true]) (by simp[results,Tryz.results115,go_sem,hF]) rfl ⟨rfl,?_⟩;exact ZcA (m:=m) (s:=s) hA sR sR sZ sR sR
end Lease
end
section
namespace Lease
open Go.RowKit
open Go.Maps (Keyed)
theorem Zfv {w:World} {p m:Nat} {ss:List Ses} (h:Sep [BookP p m ss] w) {n:Int} {f:ByteArray} (h0:0≤n) (h1:n < big64) (hf:f.size≤maxLen) (hr:(look ss n f).told.length < 256):
 Calls Tryz.prog 116 #[.pointer (some ⟨p,0,none⟩),.agg #[.int .u64 n,.string f]] w fun e w'=>e=.returned (.bool true)∧At [BookP p m ss] w [BookP p m ss] w':=by
 have hA:=At.start h;have hF:=hA.facts
 have hlt:((look ss n f).told.length:Int) < 256:=by omega
 clear h
 have hfd:∀a b c d e w,(Instr.field 121 (.agg #[a,b,c,d,e]) 4).run Tryz.prog w=.ok e w:=fun _ _ _ _ _ _=>by kernel_rfl
 go_enter Tryz.func116,Tryz.ntmps116
 go_wp2_with ((with_reducible refine gbx ?_);refine wCy hA ?_;clear hF hA;intro b1 w1 hA hb1 hF)
 refine(ZaM (hA.sep1 sR) h0 h1 hf).mono ?_;unfold Ses.info;rintro e w1 ⟨rfl,hT⟩;replace hA:=hA.call1 sR hT;clear hF hT;obtain⟨hA,hF⟩:=fY hA
 go_wp2_with fail
 go_ret;exact⟨rfl,hA.only1 sR⟩
theorem Zj5 {w:World} {p m:Nat} {ss:List Ses} (h:Sep [BookP p m ss] w) {n:Int} {f:ByteArray} (h0:0≤n) (h1:n < big64) (hf:f.size≤maxLen) (hr:¬(look ss n f).told.length < 256):
 Calls Tryz.prog 116 #[.pointer (some ⟨p,0,none⟩),.agg #[.int .u64 n,.string f]] w fun e w'=>e=.returned (.bool false)∧At [BookP p m ss] w [BookP p m ss] w':=by
 have hA:=At.start h;have hF:=hA.facts
 have hlt:decide (((look ss n f).told.length:Int) < 256)=false:=by simp;omega
 clear h
 have hfd:∀a b c d e w,(Instr.field 121 (.agg #[a,b,c,d,e]) 4).run Tryz.prog w=.ok e w:=fun _ _ _ _ _ _=>by kernel_rfl
 go_enter Tryz.func116,Tryz.ntmps116
 go_wp2_with ((with_reducible refine gbx ?_);refine wCy hA ?_;clear hF hA;intro b1 w1 hA hb1 hF)
 refine(ZaM (hA.sep1 sR) h0 h1 hf).mono ?_;unfold Ses.info;rintro e w1 ⟨rfl,hT⟩;replace hA:=hA.call1 sR hT;clear hF hT;obtain⟨hA,hF⟩:=fY hA
 go_wp2_with fail
 go_ret;exact⟨rfl,hA.only1 sR⟩
theorem Zlt {w:World} {p m:Nat} {ss:List Ses} (h:Sep [BookP p m ss] w) {n r:Int} {f:ByteArray} (h0:0≤n) (h1:n < big64) (hf:f.size≤maxLen) {s:Ses} (hn:find ss n f=some s) (r0:0≤r) (r1:r < big64) {a:Ans} (hr:said s.told r=some a) (c:Ans):
 Calls Tryz.prog 119 #[.pointer (some ⟨p,0,none⟩),.agg #[.int .u64 n,.string f],.int .u64 r,.agg #[.int .i64 c.e,.int .u64 c.n,.bool c.g]] w fun e w'=>e=.returned (.tuple #[])∧At [BookP p m ss] w [BookP p m ss] w':=by
 have hA:=At.start h;have hF:=hA.facts;clear h
 go_enter Tryz.func119,Tryz.ntmps119
 go_wp2_with ((with_reducible refine gbx ?_);refine wCy hA ?_;clear hF hA;intro b1 w1 hA hb1 hF)
 refine(Zib (hA.sep1 sR) h0 h1 hf hn r0 r1 hr).mono ?_;rintro e w1 ⟨rfl,hT⟩;replace hA:=hA.call1 sR hT;clear hF hT;obtain⟨hA,hF⟩:=fY hA
 go_wp2_with (first|((with_reducible refine gst ?_);refine wTy hA ?_;clear hF hA;intro w1 hA hF)|((with_reducible refine gal ?_);refine g0 hA ?_;clear hF hA;intro b1 w1 hA hb1 hF))
 refine bodyPost_ret (results_none rfl _ _ _) rfl ?_;exact⟨rfl,hA.only1 sR⟩
theorem ZjP {w:World} {p m:Nat} {ss:List Ses} (h:Sep [BookP p m ss] w) {n r:Int} {f:ByteArray} (h0:0≤n) (h1:n < big64) (hf:f.size≤maxLen) {s:Ses} (hn:find ss n f=some s) (r0:0≤r) (r1:r < big64) (hr:said s.told r=none) (hl:¬s.told.length < 256) (c:Ans):
 Calls Tryz.prog 119 #[.pointer (some ⟨p,0,none⟩),.agg #[.int .u64 n,.string f],.int .u64 r,.agg #[.int .i64 c.e,.int .u64 c.n,.bool c.g]] w fun e w'=>e=.returned (.tuple #[])∧At [BookP p m ss] w [BookP p m ss] w':=by
 have hA:=At.start h;have hF:=hA.facts
 have hl':¬(look ss n f).told.length < 256:=by unfold look;rw[hn];exact hl
 clear h
 go_enter Tryz.func119,Tryz.ntmps119
 go_wp2_with ((with_reducible refine gbx ?_);refine wCy hA ?_;clear hF hA;intro b1 w1 hA hb1 hF)
 refine(Zfo (hA.sep1 sR) h0 h1 hf hn r0 r1 hr).mono ?_;rintro e w1 ⟨rfl,hT⟩;replace hA:=hA.call1 sR hT;clear hF hT;obtain⟨hA,hF⟩:=fY hA
 go_wp2_with (first|((with_reducible refine gst ?_);refine wTy hA ?_;clear hF hA;intro w1 hA hF)|((with_reducible refine gal ?_);refine g0 hA ?_;clear hF hA;intro b1 w1 hA hb1 hF))
 refine(Zj5 (hA.sep1 sR) h0 h1 hf hl').mono ?_;rintro e w1 ⟨rfl,hT⟩;replace hA:=hA.call1 sR hT;clear hF hT;obtain⟨hA,hF⟩:=fY hA
 go_wp2_with fail
 refine bodyPost_ret (results_none rfl _ _ _) rfl ?_;exact⟨rfl,hA.only1 sR⟩
theorem Zlu {w:World} {p m:Nat} {l1 l2:List Ses} {s:Ses} (h:Sep [BookP p m (l1++s::l2)] w) {n r:Int} {f:ByteArray} (h0:0≤n) (h1:n < big64) (hf:f.size≤maxLen) (hn:find (l1++s::l2) n f=some s) (r0:0≤r) (r1:r < big64) (hr:said s.told r=none) (hl:s.told.length < 256) (c:Ans):
 Calls Tryz.prog 119 #[.pointer (some ⟨p,0,none⟩),.agg #[.int .u64 n,.string f],.int .u64 r,.agg #[.int .i64 c.e,.int .u64 c.n,.bool c.g]] w
  fun e w'=>e=.returned (.tuple #[])∧At [BookP p m (l1++s::l2)] w [BookP p m (l1++{s with told:=s.told++[(r,c)]}::l2)] w':=by
 obtain⟨ku,hu⟩:=keyU r0 r1;have hmiss:=Hd (said_none hr);have hA:=At.start h;have hF:=hA.facts
 have hl':(look (l1++s::l2) n f).told.length < 256:=by unfold look;rw[hn];exact hl
 clear h
 go_enter Tryz.func119,Tryz.ntmps119
 go_wp2_with ((with_reducible refine gbx ?_);refine wCy hA ?_;clear hF hA;intro b1 w1 hA hb1 hF)
 refine(Zfo (hA.sep1 sR) h0 h1 hf hn r0 r1 hr).mono ?_;rintro e w1 ⟨rfl,hT⟩;replace hA:=hA.call1 sR hT;clear hF hT;obtain⟨hA,hF⟩:=fY hA
 go_wp2_with (first|((with_reducible refine gst ?_);refine wTy hA ?_;clear hF hA;intro w1 hA hF)|((with_reducible refine gal ?_);refine g0 hA ?_;clear hF hA;intro b1 w1 hA hb1 hF))
 refine(Zfv (hA.sep1 sR) h0 h1 hf hl').mono ?_;rintro e w1 ⟨rfl,hT⟩;replace hA:=hA.call1 sR hT;clear hF hT;obtain⟨hA,hF⟩:=fY hA
 go_wp2_with fail
 have hA:=open1 hA sR;simp only[Ses.cells] at hA;obtain⟨hA,hF⟩:=fY hA
 (refine Zaj 8 (Cl _ _ _) (by kernel_rfl) (by kernel_rfl) (Cl.drew hA) ?_);(simp only[List.take_succ_cons,List.take_zero,List.drop_succ_cons,List.drop_zero]);(have hn1:=Cl.none hA);(have hn2:=Cl.none2 hA);(repeat(first|go_big_quiet_skip|(go_big_quiet_want;(first|(refine qM 107 3 ?_;go_frame;go_big_quiet_on)|(refine qM 25 2 ?_;go_frame;go_big_quiet_on)|(refine qL ?_;go_frame;go_big_quiet_on)|(go_big_quiet_op;(first|go_big_quiet_on|((apply Exists.intro);(refine⟨fun w1 hw=> ?_,?_⟩);(focus((have hw:=Cl.out hw);(exact opened hw sR sR sZ sR sR (fun q=>ZeX q h0 h1 hf hn))));(go_big_quiet_on))))))))
 (refine wpQuiet_nil ?_);(intro w1 hB);(clear hF hA hn1 hn2);(have hA:=Cl.out hB);(clear hB);obtain⟨hA,hF⟩:=fY hA
 refine Zao rfl rfl rfl (by(try simp only[Act.eval,eV])<;>exact rfl) (by(try simp only[Act.eval,eV])<;>exact rfl) hA (k:=23) (es:=saids s.told) sR lawU Tryz.underlying217 hu hmiss.out ?_;intro w1 hB;clear hF hA;have hA:=hB;clear hB;obtain⟨hA,hF⟩:=fY hA
 go_wp2_with fail
 go_end0
 refine⟨rfl,?_⟩
 have e1:saids s.told++[(Value.int .u64 r,Value.agg #[.int .i64 c.e,.int .u64 c.n,.bool c.g])]=saids (s.told++[(r,c)]):=by simp[saids,saidE,Ans.val]
 have e2:ents (l1++s::l2)=ents (l1++{s with told:=s.told++[(r,c)]}::l2):=by simp[ents,ent,Ses.key,Ses.ptr]
 rw[e1,e2] at hA;exact ZcA (m:=m) (s:={s with told:=s.told++[(r,c)]}) hA sR sR sZ sR sR
end Lease
end
section
namespace Lease
open Go.RowKit
open Go.Maps (Keyed)
def cutI (t:Int):Int:=if t < 0 then 0 else if 2199023255552 < t then 2199023255552 else t
theorem Zer (t:Int):0≤cutI t∧cutI t≤2199023255552:=by unfold cutI;split<;>(try split)<;>omega
theorem Zeq (t:Int) (w:World):Calls Tryz.prog 219 #[.int .i64 t] w fun e w'=>e=.returned (.int .i64 (cutI t))∧w=w':=by
 by_cases h0:t < 0
 · have e:cutI t=0:=by simp[cutI,h0]
   rw[e]
   go_enter Tryz.func219,Tryz.ntmps219
   go_wp2
   go_ret;exact⟨rfl,rfl⟩
 by_cases h1:2199023255552 < t
 · have e:cutI t=2199023255552:=by simp[cutI,h0,h1]
   rw[e]
   go_enter Tryz.func219,Tryz.ntmps219
   go_wp2
   go_ret;exact⟨rfl,rfl⟩
 have e:cutI t=t:=by simp[cutI,h0,h1]
 rw[e]
 go_enter Tryz.func219,Tryz.ntmps219
 go_wp2
 go_ret;exact⟨rfl,rfl⟩
def endI (time ttl:Int):Int:=cutI (cutI time + cutI ttl)
theorem end_any (time ttl:Int) (w:World):Calls Tryz.prog 218 #[.int .i64 time,.int .i64 ttl] w fun e w'=>e=.returned (.int .i64 (endI time ttl))∧w=w':=by
 have b1:=Zer time;have b2:=Zer ttl
 go_enter Tryz.func218,Tryz.ntmps218
 go_wp2_with fail
 refine(Zeq _ _).mono ?_;rintro e _ ⟨rfl,rfl⟩
 go_wp2_with fail
 refine(Zeq _ _).mono ?_;rintro e _ ⟨rfl,rfl⟩
 go_wp2_with fail
 refine(Zeq _ _).mono ?_;rintro e _ ⟨rfl,rfl⟩
 go_wp2_with fail
 go_ret;exact⟨rfl,rfl⟩
def NewPost (w:World) (e:Ending) (w':World):Prop:=∃p m,e=.returned (.pointer (some ⟨p,0,none⟩))∧At [] w [BookP p m []] w'
theorem new_any (w:World):Calls Tryz.prog 110 #[] w (NewPost w):=by
 have hA:=At.start (w0:=w) (L0:=[]) trivial;have hF:=hA.facts
 go_enter Tryz.func110,Tryz.ntmps110
 go_wp2_with (first|((with_reducible refine gbx ?_);refine wCy hA ?_;clear hF hA;intro b1 w1 hA hb1 hF)|(refine ZaJ Tryz.prog 25 rfl rfl hA ?_;intro b2 w1 hB hb2;clear hF hA;have hA:=hB;clear hB;obtain⟨hA,hF⟩:=fY hA))
 go_ret;have hB:At [] w [headC b1 b2,mapC b2 (ents [])] w1:=hA;have hC:=hB.new (Ext.refl w1) (restP []) trivial (fun b hb=>by obtain⟨A,hA,_⟩:=hb;cases hA);exact⟨_,_,rfl,close0 (m:=b2) (ss:=[]) hC sZ sZ sZ⟩
end Lease
end
section
namespace Lease
open Go.RowKit
open Go.Maps (Keyed)
def cnt (ss:List Ses) (f:ByteArray):Nat:=(ss.filter (fun s=>s.foot.toList==f.toList&&s.op)).length
theorem Zmx (ds:List Ses) (s:Ses) (f:ByteArray):cnt (ds++[s]) f=cnt ds f + if s.foot.toList==f.toList&&s.op then 1 else 0:=by
 unfold cnt;rw[List.filter_append]
 cases h:(s.foot.toList==f.toList&&s.op)<;>simp[List.filter_cons,h]
theorem cnt_le (ds:List Ses) (f:ByteArray):cnt ds f≤ds.length:=List.length_filter_le _ _
theorem ents_snoc (ds:List Ses) (s:Ses):ents ds++[ent s]=ents (ds++[s]):=by simp[ents]
theorem Zmk {ss:List Ses} (h:(ents ss).Pairwise (fun p q=>p.1≠q.1)) {x y:Ses} (hx:x ∈ ss) (hy:y ∈ ss) (e:ent x=ent y):x=y:=by
 have h1:ss.Pairwise (fun p q=>(ent p).1≠(ent q).1):=(List.pairwise_map (f:=ent) (R:=fun p q:Value × Value=>p.1≠q.1)).1 h;obtain⟨i,hi⟩:=List.mem_iff_getElem?.1 hx;obtain⟨j,hj⟩:=List.mem_iff_getElem?.1 hy
 by_cases hij:i=j
 · subst hij;rw[hi] at hj;exact Option.some.inj hj
 exfalso
 obtain⟨hi1,hi2⟩:=List.getElem?_eq_some_iff.1 hi;obtain⟨hj1,hj2⟩:=List.getElem?_eq_some_iff.1 hj;have hp:=List.pairwise_iff_getElem.1 h1
 rcases Nat.lt_or_gt_of_ne hij with q|q
 · exact hp i j hi1 hj1 q (by rw[hi2,hj2,e])
 exact hp j i hj1 hi1 q (by rw[hi2,hj2,e])
theorem ents_perm {ss ds:List Ses} (h:(ents ss).Pairwise (fun p q=>p.1≠q.1)) (hd:∀s ∈ ds,s ∈ ss) (hp:(ents ss).Perm (ents ds)):ss.Perm ds:=by
 have hn:∀l:List Ses,(ents l).Pairwise (fun p q=>p.1≠q.1)→l.Nodup:=fun l hl=>((List.pairwise_map (f:=ent) (R:=fun p q:Value × Value=>p.1≠q.1)).1 hl).imp (fun h e=>h (by rw[e]))
 have hd2:(ents ds).Pairwise (fun p q=>p.1≠q.1):=(hp.pairwise_iff (fun h=>Ne.symm h)).1 h;refine(List.perm_ext_iff_of_nodup (hn _ h) (hn _ hd2)).2 (fun x=>⟨fun hx=> ?_,hd x⟩);have:ent x ∈ ents ds:=hp.mem_iff.1 (List.mem_map.2 ⟨x,hx,rfl⟩);obtain⟨y,hy,he⟩:=List.mem_map.1 this;rw[←Zmk h (hd y hy) hx he];exact hy
theorem cnt_perm {ss ds:List Ses} (h:ss.Perm ds) (f:ByteArray):cnt ss f=cnt ds f:=(h.filter _).length_eq
def CntRel (p m r:Nat) (ss:List Ses) (f:ByteArray) (w:World) (k:Nat) (v:Value) (wr:World):Prop:=
 ∃ds:List Ses,At [BookP p m ss] w [Part.iter Tryz.prog 25 r m (ents ss) (ents ds),headC p m,restP ss] wr∧(∀s ∈ ds,s ∈ ss)∧v=.int .i64 (cnt ds f)∧ds.length + k=ss.length
theorem ZfI {w:World} {p m:Nat} {ss:List Ses} (h:Sep [BookP p m ss] w) (f:ByteArray) (hl:ss.length≤1000000000):
 Calls Tryz.prog 217 #[.pointer (some ⟨p,0,none⟩),.string f] w fun e w'=>e=.returned (.int .i64 (cnt ss f))∧At [BookP p m ss] w [BookP p m ss] w':=by
 have hA:=begin0 h;obtain⟨hA,hF⟩:=fY hA;clear h
 go_enter Tryz.func217,Tryz.ntmps217
 go_wp2_with (refine ZaI rfl rfl rfl hA sR Tryz.underlying212 ?_;intro r w1 hB hr;clear hF hA;have hA:=hB;clear hB;obtain⟨hA,hF⟩:=fY hA)
 go_frame
 go_loopg [5] ss.length (CntRel p m r ss f w)
 case atStart=>exact⟨[],hA,nofun,by simp[cnt],by simp⟩
 case round=>
  obtain⟨ds,hA2,hds,rfl,hk⟩:=hrel;clear hF hA;have hA:=hA2;clear hA2;obtain⟨hA,hF⟩:=fY hA
  go_step
  go_step
  refine ZaV rfl rfl rfl hA sR (fun hp=> ?_) (fun q w1 hq hd hB=> ?_)
  · have hI:Zam Tryz.prog 25 wr r m (ents ss) (ents ds):=hA.get (A:=Part.iter _ _ r m (ents ss) (ents ds)) sR
    have hc:=Hd (cnt_perm (ents_perm hI.keys hds hp) f);have hM:=At.ranged hA sR
    go_wp2_with fail
    go_ret;exact⟨by rw[hc.out];rfl,close0 (m:=m) (ss:=ss) hM sR sR sR⟩
  obtain⟨s,hs,rfl⟩:=List.mem_map.1 hq
  have hI:Zam Tryz.prog 25 w1 r m (ents ss) (ents ds++[ent s]):=hB.get (A:=Part.iter _ _ r m (ents ss) (ents ds++[ent s])) sR;have hen:=hI.entry
  have hlen:(ds++[s]).length≤ss.length:=by have:=hI.len;simpa [ents] using this
  have hsub:∀x ∈ ds++[s],x ∈ ss:=fun x hx=>by
   rcases List.mem_append.1 hx with hx|hx
   · exact hds x hx
   have:x=s:=by simpa using hx
   rw[this];exact hs
  rw[ents_snoc] at hB;obtain⟨l1,l2,e⟩:=List.append_of_mem hs;have he:=Hd e;clear hF hA;have hA:=out' e hB sR;have hk':=Hd hk;have hsub':=Hd hsub;have hsn:=Hd (Zmx ds s f);have hcl:=cnt_le ds f;simp only[List.length_append,List.length_cons,List.length_nil,Nat.zero_add] at hlen;clear hI e hB hk hsub hds hq hd;simp only[Ses.cells] at hA;obtain⟨hA,hF⟩:=fY hA;simp only[ent,Ses.key,keyV,Ses.ptr] at hen;cases hfe:(s.foot.toList==f.toList)
  all_goals cases hop:s.op
  all_goals
   go_wp2_with (first|((with_reducible refine gst ?_);refine wTy hA ?_;clear hF hA;intro w1 hA hF)|((with_reducible refine gal ?_);refine wGy 25 [.int .u64 0,.string .empty] hA ?_;clear hF hA;intro b1 w1 hA hb1 hF))
   go_roundg (gk - 1)
   case measure=>have:=hk'.out;omega
   case rel=>exact⟨ds++[s],(in' he.out hA sZ sR sR).only3 sR sR sR,hsub'.out,by rw[hsn.out];simp[hfe,hop],by have:=hk'.out;simp;omega⟩
end Lease
end
section
namespace Lease
open Go.RowKit
open Go.Maps (Keyed)
def Ses.opened (s:Ses) (ttl time:Int):Ses:={s with op:=true,dead:=false,dl:=endI time ttl,ttl:=cutI ttl}
def Ses.ended (s:Ses):Ses:={s with op:=false,dead:=true,dl:=0,ttl:=0}
def openE (s:Ses) (c:Nat):Int:=if s.dead then 50 else if s.op then 15 else if 32≤c then 14 else 0
theorem Zny {w:World} {p m:Nat} {ss:List Ses} (h:Sep [BookP p m ss] w) {n:Int} {f:ByteArray} (h0:0≤n) (h1:n < big64) (hf:f.size≤maxLen) (hl:ss.length≤1000000000) (ttl time:Int) (he:openE (look ss n f) (cnt ss f)≠0):
 Calls Tryz.prog 167 #[.pointer (some ⟨p,0,none⟩),.agg #[.int .u64 n,.string f],.int .i64 ttl,.int .i64 time] w fun e w'=>e=.returned (.int .i64 (openE (look ss n f) (cnt ss f)))∧At [BookP p m ss] w [BookP p m ss] w':=by
 have hA:=At.start h;have hF:=hA.facts;clear h;cases hd:(look ss n f).dead
 · cases ho:(look ss n f).op
   · have hc:32≤cnt ss f:=by
      simp[openE,hd,ho] at he
      omega
     have hc':(32:Int)≤(cnt ss f:Int):=by omega
     have e1:openE (look ss n f) (cnt ss f)=14:=by simp[openE,hd,ho,hc]
     rw[e1]
     go_enter Tryz.func167,Tryz.ntmps167
     go_wp2_with ((with_reducible refine gbx ?_);refine wCy hA ?_;clear hF hA;intro b1 w1 hA hb1 hF)
     refine(ZaM (hA.sep1 sR) h0 h1 hf).mono ?_;unfold Ses.info;rw[hd,ho];rintro e w1 ⟨rfl,hT⟩;replace hA:=hA.call1 sR hT;clear hF hT;obtain⟨hA,hF⟩:=fY hA
     go_wp2_with (first|((with_reducible refine gst ?_);refine wTy hA ?_;clear hF hA;intro w1 hA hF)|((with_reducible refine gal ?_);refine g3 hA ?_;clear hF hA;intro b1 w1 hA hb1 hF))
     refine(ZfI (hA.sep1 sR) f hl).mono ?_;rintro e w1 ⟨rfl,hT⟩;replace hA:=hA.call1 sR hT;clear hF hT;obtain⟨hA,hF⟩:=fY hA
     go_wp2_with fail
     go_ret;exact⟨rfl,hA.only1 sR⟩
   have e1:openE (look ss n f) (cnt ss f)=15:=by simp[openE,hd,ho]
   rw[e1]
   go_enter Tryz.func167,Tryz.ntmps167
   go_wp2_with ((with_reducible refine gbx ?_);refine wCy hA ?_;clear hF hA;intro b1 w1 hA hb1 hF)
   refine(ZaM (hA.sep1 sR) h0 h1 hf).mono ?_;unfold Ses.info;rw[hd,ho];rintro e w1 ⟨rfl,hT⟩;replace hA:=hA.call1 sR hT;clear hF hT;obtain⟨hA,hF⟩:=fY hA
   go_wp2_with (first|((with_reducible refine gst ?_);refine wTy hA ?_;clear hF hA;intro w1 hA hF)|((with_reducible refine gal ?_);refine g3 hA ?_;clear hF hA;intro b1 w1 hA hb1 hF))
   go_ret;exact⟨rfl,hA.only1 sR⟩
 have e1:openE (look ss n f) (cnt ss f)=50:=by simp[openE,hd]
 rw[e1]
 go_enter Tryz.func167,Tryz.ntmps167
 go_wp2_with ((with_reducible refine gbx ?_);refine wCy hA ?_;clear hF hA;intro b1 w1 hA hb1 hF)
 refine(ZaM (hA.sep1 sR) h0 h1 hf).mono ?_;unfold Ses.info;rw[hd];rintro e w1 ⟨rfl,hT⟩;replace hA:=hA.call1 sR hT;clear hF hT;obtain⟨hA,hF⟩:=fY hA
 go_wp2_with (first|((with_reducible refine gst ?_);refine wTy hA ?_;clear hF hA;intro w1 hA hF)|((with_reducible refine gal ?_);refine g3 hA ?_;clear hF hA;intro b1 w1 hA hb1 hF))
 go_ret;exact⟨rfl,hA.only1 sR⟩
def ZmN (p m:Nat) (ss:List Ses) (n:Int) (f:ByteArray) (ttl time:Int) (w:World) (e:Ending) (w':World):Prop:=
 ∃b t,e=.returned (.int .i64 0)∧At [BookP p m ss] w [BookP p m (ss++[(fresh n f b t).opened ttl time])] w'
theorem ZlZ {w:World} {p m:Nat} {ss:List Ses} (h:Sep [BookP p m ss] w) {n:Int} {f:ByteArray} (h0:0≤n) (h1:n < big64) (hf:f.size≤maxLen) (hl:ss.length≤1000000000) (ttl time:Int) (hn:find ss n f=none) (hc:cnt ss f < 32):
 Calls Tryz.prog 167 #[.pointer (some ⟨p,0,none⟩),.agg #[.int .u64 n,.string f],.int .i64 ttl,.int .i64 time] w (ZmN p m ss n f ttl time w):=by
 have hA:=At.start h;have hF:=hA.facts;clear h
 have hk:look ss n f=fresh n f 0 0:=by unfold look;rw[hn];rfl
 have hd:(look ss n f).dead=false:=by rw[hk];rfl
 have ho:(look ss n f).op=false:=by rw[hk];rfl
 have hc':(cnt ss f:Int) < 32:=by omega
 clear hk
 go_enter Tryz.func167,Tryz.ntmps167
 go_wp2_with ((with_reducible refine gbx ?_);refine wCy hA ?_;clear hF hA;intro b1 w1 hA hb1 hF)
 refine(ZaM (hA.sep1 sR) h0 h1 hf).mono ?_;unfold Ses.info;rw[hd,ho];rintro e w1 ⟨rfl,hT⟩;replace hA:=hA.call1 sR hT;clear hF hT;obtain⟨hA,hF⟩:=fY hA
 go_wp2_with (first|((with_reducible refine gst ?_);refine wTy hA ?_;clear hF hA;intro w1 hA hF)|((with_reducible refine gal ?_);refine g3 hA ?_;clear hF hA;intro b1 w1 hA hb1 hF))
 refine(ZfI (hA.sep1 sR) f hl).mono ?_;rintro e w1 ⟨rfl,hT⟩;replace hA:=hA.call1 sR hT;clear hF hT;obtain⟨hA,hF⟩:=fY hA
 go_wp2_with fail
 refine(Zjt (hA.sep1 sR) h0 h1 hf hn).mono ?_;rintro e w1 ⟨b,t,rfl,hT⟩;have hB:=hA.call1 sR hT;clear hF hA hT;have hA:=open1 (l1:=ss) (l2:=[]) (s:=fresh n f b t) hB sZ;clear hB;simp only[Ses.cells,fresh] at hA;obtain⟨hA,hF⟩:=fY hA
 go_wp2_with fail
 refine(end_any _ _ _).mono ?_;rintro e _ ⟨rfl,rfl⟩
 go_wp2_with fail
 refine(Zeq _ _).mono ?_;rintro e _ ⟨rfl,rfl⟩
 go_wp2_with ((with_reducible refine gst ?_);refine wTy hA ?_;clear hF hA;intro w1 hA hF)
 go_ret;refine⟨b,t,rfl,?_⟩
 have e2:ents (ss++[fresh n f b t])=ents (ss++[(fresh n f b t).opened ttl time]):=by simp[ents,ent,Ses.key,Ses.ptr,fresh,Ses.opened]
 simp only[fresh] at e2;rw[e2] at hA;exact ZcA (m:=m) (l1:=ss) (l2:=[]) (s:=(fresh n f b t).opened ttl time) hA sR sZ sZ sZ sZ
theorem ZlY {w:World} {p m:Nat} {l1 l2:List Ses} {s:Ses} (h:Sep [BookP p m (l1++s::l2)] w) {n:Int} {f:ByteArray} (h0:0≤n) (h1:n < big64) (hf:f.size≤maxLen) (hl:(l1++s::l2).length≤1000000000) (ttl time:Int) (hn:find (l1++s::l2) n f=some s) (hc:cnt (l1++s::l2) f < 32) (hsd:s.dead=false) (hso:s.op=false):
 Calls Tryz.prog 167 #[.pointer (some ⟨p,0,none⟩),.agg #[.int .u64 n,.string f],.int .i64 ttl,.int .i64 time] w fun e w'=>e=.returned (.int .i64 0)∧At [BookP p m (l1++s::l2)] w [BookP p m (l1++s.opened ttl time::l2)] w':=by
 have hA:=At.start h;have hF:=hA.facts;clear h
 have hk:look (l1++s::l2) n f=s:=by unfold look;rw[hn];rfl
 have hd:(look (l1++s::l2) n f).dead=false:=by rw[hk];exact hsd
 have ho:(look (l1++s::l2) n f).op=false:=by rw[hk];exact hso
 have hc':(cnt (l1++s::l2) f:Int) < 32:=by omega
 clear hk hsd hso
 go_enter Tryz.func167,Tryz.ntmps167
 go_wp2_with ((with_reducible refine gbx ?_);refine wCy hA ?_;clear hF hA;intro b1 w1 hA hb1 hF)
 refine(ZaM (hA.sep1 sR) h0 h1 hf).mono ?_;unfold Ses.info;rw[hd,ho];rintro e w1 ⟨rfl,hT⟩;replace hA:=hA.call1 sR hT;clear hF hT;obtain⟨hA,hF⟩:=fY hA
 go_wp2_with (first|((with_reducible refine gst ?_);refine wTy hA ?_;clear hF hA;intro w1 hA hF)|((with_reducible refine gal ?_);refine g3 hA ?_;clear hF hA;intro b1 w1 hA hb1 hF))
 refine(ZfI (hA.sep1 sR) f hl).mono ?_;rintro e w1 ⟨rfl,hT⟩;replace hA:=hA.call1 sR hT;clear hF hT;obtain⟨hA,hF⟩:=fY hA
 go_wp2_with fail
 refine(ZeX (hA.sep1 sR) h0 h1 hf hn).mono ?_;rintro e w1 ⟨rfl,hT⟩;replace hA:=hA.call1 sR hT;clear hF hT;obtain⟨hA,hF⟩:=fY hA;have hA:=open1 hA sR;simp only[Ses.cells] at hA;obtain⟨hA,hF⟩:=fY hA
 go_wp2_with fail
 refine(end_any _ _ _).mono ?_;rintro e _ ⟨rfl,rfl⟩
 go_wp2_with fail
 refine(Zeq _ _).mono ?_;rintro e _ ⟨rfl,rfl⟩
 go_wp2_with ((with_reducible refine gst ?_);refine wTy hA ?_;clear hF hA;intro w1 hA hF)
 go_ret;refine⟨rfl,?_⟩
 have e2:ents (l1++s::l2)=ents (l1++s.opened ttl time::l2):=by simp[ents,ent,Ses.key,Ses.ptr,Ses.opened]
 rw[e2] at hA;exact ZcA (m:=m) (s:=s.opened ttl time) hA sR sZ sZ sZ sZ
end Lease
end
section
namespace Lease
open Go.RowKit
open Go.Maps (Keyed)
theorem Zm1 {w:World} {p m:Nat} {ss:List Ses} (h:Sep [BookP p m ss] w) {n:Int} {f:ByteArray} (h0:0≤n) (h1:n < big64) (hf:f.size≤maxLen) (ho:(look ss n f).op=false):
 Calls Tryz.prog 166 #[.pointer (some ⟨p,0,none⟩),.agg #[.int .u64 n,.string f]] w fun e w'=>e=.returned (.int .i64 50)∧At [BookP p m ss] w [BookP p m ss] w':=by
 have hA:=At.start h;have hF:=hA.facts;clear h
 have hfd:∀a b c d e w,(Instr.field 121 (.agg #[a,b,c,d,e]) 0).run Tryz.prog w=.ok a w:=fun _ _ _ _ _ _=>by kernel_rfl
 go_enter Tryz.func166,Tryz.ntmps166
 go_wp2_with ((with_reducible refine gbx ?_);refine wCy hA ?_;clear hF hA;intro b1 w1 hA hb1 hF)
 refine(ZaM (hA.sep1 sR) h0 h1 hf).mono ?_;unfold Ses.info;rw[ho];rintro e w1 ⟨rfl,hT⟩;replace hA:=hA.call1 sR hT;clear hF hT;obtain⟨hA,hF⟩:=fY hA
 go_wp2_with fail
 go_ret;exact⟨rfl,hA.only1 sR⟩
theorem ZkL {w:World} {p m:Nat} {l1 l2:List Ses} {s:Ses} (h:Sep [BookP p m (l1++s::l2)] w) {n:Int} {f:ByteArray} (h0:0≤n) (h1:n < big64) (hf:f.size≤maxLen) (hn:find (l1++s::l2) n f=some s) (hso:s.op=true):
 Calls Tryz.prog 166 #[.pointer (some ⟨p,0,none⟩),.agg #[.int .u64 n,.string f]] w fun e w'=>e=.returned (.int .i64 0)∧At [BookP p m (l1++s::l2)] w [BookP p m (l1++s.ended::l2)] w':=by
 obtain⟨kl,hk⟩:=keyS h0 h1 hf;have hmem:=Hd (find_mem hn);have hA:=At.start h;have hF:=hA.facts;clear h
 have hk':look (l1++s::l2) n f=s:=by unfold look;rw[hn];rfl
 have ho:(look (l1++s::l2) n f).op=true:=by rw[hk'];exact hso
 clear hk' hso
 unfold keyV at *
 have hfd:∀a b c d e w,(Instr.field 121 (.agg #[a,b,c,d,e]) 0).run Tryz.prog w=.ok a w:=fun _ _ _ _ _ _=>by kernel_rfl
 go_enter Tryz.func166,Tryz.ntmps166
 go_wp2_with ((with_reducible refine gbx ?_);refine wCy hA ?_;clear hF hA;intro b1 w1 hA hb1 hF)
 refine(ZaM (hA.sep1 sR) h0 h1 hf).mono ?_;unfold Ses.info;rw[ho];rintro e w1 ⟨rfl,hT⟩;replace hA:=hA.call1 sR hT;clear hF hT;obtain⟨hA,hF⟩:=fY hA
 go_wp2_with fail
 have hA:=open1 hA sR;simp only[Ses.cells] at hA;obtain⟨hA,hF⟩:=fY hA
 have hl:∀q,(Instr.lookup 212 (.map (some m)) (.agg #[.int .u64 n,.string f]) false).run Tryz.prog (w1.drewN q)=.ok s.ptr (w1.drewN q):=fun q=>
  MapAt.look_some (w:=w1.drewN q) ((hA.drewN q).get (A:=mapC m (ents (l1++s::l2))) sR) lawS Tryz.underlying212 hk hmem.out false
 unfold Ses.ptr at hl
 (refine Zaj 9 (fun w'=>∃n,w'=World.drewN _ n) (by kernel_rfl) (by kernel_rfl) ⟨1,rfl⟩ ?_);(simp only[List.take_succ_cons,List.take_zero,List.drop_succ_cons,List.drop_zero]);(repeat(first|go_big_quiet_step (fail)|quiet_step (fail)));(refine wpQuiet_nil ?_);(rintro _ ⟨nq,rfl⟩)
 have hA:=hA.drewN nq;generalize World.drewN _ nq=w1 at *;clear hF;obtain⟨hA,hF⟩:=fY hA
 go_wp2_with ((with_reducible refine gst ?_);refine wTy hA ?_;clear hF hA;intro w1 hA hF)
 go_ret;refine⟨rfl,?_⟩
 have e2:ents (l1++s::l2)=ents (l1++s.ended::l2):=by simp[ents,ent,Ses.key,Ses.ptr,Ses.ended]
 rw[e2] at hA;exact ZcA (m:=m) (s:=s.ended) hA sR sZ sZ sZ sZ
theorem ZgX {w:World} {p m:Nat} {ss:List Ses} (h:Sep [BookP p m ss] w) {n:Int} {f:ByteArray} (h0:0≤n) (h1:n < big64) (hf:f.size≤maxLen) (time:Int) (ho:(look ss n f).op=true) (ht:time < (look ss n f).dl):
 Calls Tryz.prog 114 #[.pointer (some ⟨p,0,none⟩),.agg #[.int .u64 n,.string f],.int .i64 time] w fun e w'=>e=.returned (.int .i64 54)∧At [BookP p m ss] w [BookP p m ss] w':=by
 have hA:=At.start h;have hF:=hA.facts;clear h
 go_enter Tryz.func114,Tryz.ntmps114
 go_wp2_with ((with_reducible refine gbx ?_);refine wCy hA ?_;clear hF hA;intro b1 w1 hA hb1 hF)
 refine(ZaM (hA.sep1 sR) h0 h1 hf).mono ?_;unfold Ses.info;rw[ho];rintro e w1 ⟨rfl,hT⟩;replace hA:=hA.call1 sR hT;clear hF hT;obtain⟨hA,hF⟩:=fY hA
 go_wp2_with (first|((with_reducible refine gst ?_);refine wTy hA ?_;clear hF hA;intro w1 hA hF)|((with_reducible refine gal ?_);refine g3 hA ?_;clear hF hA;intro b1 w1 hA hb1 hF))
 go_ret;exact⟨rfl,hA.only1 sR⟩
theorem ZkH {w:World} {p m:Nat} {ss:List Ses} (h:Sep [BookP p m ss] w) {n:Int} {f:ByteArray} (h0:0≤n) (h1:n < big64) (hf:f.size≤maxLen) (time:Int) (ho:(look ss n f).op=false):
 Calls Tryz.prog 114 #[.pointer (some ⟨p,0,none⟩),.agg #[.int .u64 n,.string f],.int .i64 time] w fun e w'=>e=.returned (.int .i64 50)∧At [BookP p m ss] w [BookP p m ss] w':=by
 have hA:=At.start h;have hF:=hA.facts;clear h
 go_enter Tryz.func114,Tryz.ntmps114
 go_wp2_with ((with_reducible refine gbx ?_);refine wCy hA ?_;clear hF hA;intro b1 w1 hA hb1 hF)
 refine(ZaM (hA.sep1 sR) h0 h1 hf).mono ?_;unfold Ses.info;rw[ho];rintro e w1 ⟨rfl,hT⟩;replace hA:=hA.call1 sR hT;clear hF hT;obtain⟨hA,hF⟩:=fY hA
 go_wp2_with (first|((with_reducible refine gst ?_);refine wTy hA ?_;clear hF hA;intro w1 hA hF)|((with_reducible refine gal ?_);refine g3 hA ?_;clear hF hA;intro b1 w1 hA hb1 hF))
 refine(Zm1 (hA.sep1 sR) h0 h1 hf ho).mono ?_;rintro e w1 ⟨rfl,hT⟩;replace hA:=hA.call1 sR hT;clear hF hT;obtain⟨hA,hF⟩:=fY hA
 go_wp2_with fail
 go_ret;exact⟨rfl,hA.only1 sR⟩
theorem Zjz {w:World} {p m:Nat} {l1 l2:List Ses} {s:Ses} (h:Sep [BookP p m (l1++s::l2)] w) {n:Int} {f:ByteArray} (h0:0≤n) (h1:n < big64) (hf:f.size≤maxLen) (time:Int) (hn:find (l1++s::l2) n f=some s) (hso:s.op=true) (ht:s.dl≤time):
 Calls Tryz.prog 114 #[.pointer (some ⟨p,0,none⟩),.agg #[.int .u64 n,.string f],.int .i64 time] w fun e w'=>e=.returned (.int .i64 0)∧At [BookP p m (l1++s::l2)] w [BookP p m (l1++s.ended::l2)] w':=by
 have hA:=At.start h;have hF:=hA.facts;clear h
 have hk':look (l1++s::l2) n f=s:=by unfold look;rw[hn];rfl
 have ho:(look (l1++s::l2) n f).op=true:=by rw[hk'];exact hso
 have ht':decide (time < (look (l1++s::l2) n f).dl)=false:=by rw[hk'];simp;omega
 clear hk'
 go_enter Tryz.func114,Tryz.ntmps114
 go_wp2_with ((with_reducible refine gbx ?_);refine wCy hA ?_;clear hF hA;intro b1 w1 hA hb1 hF)
 refine(ZaM (hA.sep1 sR) h0 h1 hf).mono ?_;unfold Ses.info;rw[ho];rintro e w1 ⟨rfl,hT⟩;replace hA:=hA.call1 sR hT;clear hF hT;obtain⟨hA,hF⟩:=fY hA
 go_wp2_with (first|((with_reducible refine gst ?_);refine wTy hA ?_;clear hF hA;intro w1 hA hF)|((with_reducible refine gal ?_);refine g3 hA ?_;clear hF hA;intro b1 w1 hA hb1 hF))
 refine(ZkL (hA.sep1 sR) h0 h1 hf hn hso).mono ?_;rintro e w1 ⟨rfl,hT⟩;replace hA:=hA.call1 sR hT;clear hF hT;obtain⟨hA,hF⟩:=fY hA
 go_wp2_with fail
 go_ret;exact⟨rfl,hA.only1 sR⟩
end Lease
end
section
namespace Lease
open Go.RowKit
open Go.Maps (Keyed)
def Ses.kept (s:Ses) (time:Int):Ses:={s with dl:=if s.dl < endI time s.ttl then endI time s.ttl else s.dl}
theorem ZnK {w:World} {p m:Nat} {ss:List Ses} (h:Sep [BookP p m ss] w) {n:Int} {f:ByteArray} (h0:0≤n) (h1:n < big64) (hf:f.size≤maxLen) (time:Int) (ho:(look ss n f).op=false):
 Calls Tryz.prog 168 #[.pointer (some ⟨p,0,none⟩),.agg #[.int .u64 n,.string f],.int .i64 time] w fun e w'=>e=.returned (.int .i64 50)∧At [BookP p m ss] w [BookP p m ss] w':=by
 have hA:=At.start h;have hF:=hA.facts;clear h
 have hfd:∀a b c d e w,(Instr.field 121 (.agg #[a,b,c,d,e]) 0).run Tryz.prog w=.ok a w:=fun _ _ _ _ _ _=>by kernel_rfl
 go_enter Tryz.func168,Tryz.ntmps168
 go_wp2_with ((with_reducible refine gbx ?_);refine wCy hA ?_;clear hF hA;intro b1 w1 hA hb1 hF)
 refine(ZaM (hA.sep1 sR) h0 h1 hf).mono ?_;unfold Ses.info;rw[ho];rintro e w1 ⟨rfl,hT⟩;replace hA:=hA.call1 sR hT;clear hF hT;obtain⟨hA,hF⟩:=fY hA
 go_wp2_with fail
 go_ret;exact⟨rfl,hA.only1 sR⟩
theorem Zmc {w:World} {p m:Nat} {l1 l2:List Ses} {s:Ses} (h:Sep [BookP p m (l1++s::l2)] w) {n:Int} {f:ByteArray} (h0:0≤n) (h1:n < big64) (hf:f.size≤maxLen) (time:Int) (hn:find (l1++s::l2) n f=some s) (hso:s.op=true):
 Calls Tryz.prog 168 #[.pointer (some ⟨p,0,none⟩),.agg #[.int .u64 n,.string f],.int .i64 time] w fun e w'=>e=.returned (.int .i64 0)∧At [BookP p m (l1++s::l2)] w [BookP p m (l1++s.kept time::l2)] w':=by
 obtain⟨kl,hk⟩:=keyS h0 h1 hf;have hmem:=Hd (find_mem hn);have hA:=At.start h;have hF:=hA.facts;clear h
 have hk':look (l1++s::l2) n f=s:=by unfold look;rw[hn];rfl
 have ho:(look (l1++s::l2) n f).op=true:=by rw[hk'];exact hso
 clear hk' hso
 unfold keyV at *
 have hfd:∀a b c d e w,(Instr.field 121 (.agg #[a,b,c,d,e]) 0).run Tryz.prog w=.ok a w:=fun _ _ _ _ _ _=>by kernel_rfl
 go_enter Tryz.func168,Tryz.ntmps168
 go_wp2_with ((with_reducible refine gbx ?_);refine wCy hA ?_;clear hF hA;intro b1 w1 hA hb1 hF)
 refine(ZaM (hA.sep1 sR) h0 h1 hf).mono ?_;unfold Ses.info;rw[ho];rintro e w1 ⟨rfl,hT⟩;replace hA:=hA.call1 sR hT;clear hF hT;obtain⟨hA,hF⟩:=fY hA
 go_wp2_with fail
 have hA:=open1 hA sR;simp only[Ses.cells] at hA;obtain⟨hA,hF⟩:=fY hA
 have hl:∀q,(Instr.lookup 212 (.map (some m)) (.agg #[.int .u64 n,.string f]) false).run Tryz.prog (w1.drewN q)=.ok s.ptr (w1.drewN q):=fun q=>
  MapAt.look_some (w:=w1.drewN q) ((hA.drewN q).get (A:=mapC m (ents (l1++s::l2))) sR) lawS Tryz.underlying212 hk hmem.out false
 unfold Ses.ptr at hl
 go_quiet (fail)
 have hA:=hA.drewN nq;generalize World.drewN _ nq=w1 at *;clear hF;obtain⟨hA,hF⟩:=fY hA
 go_wp2_with fail
 have hd:s.dl < endI time s.ttl∨¬s.dl < endI time s.ttl:=by omega
 have e2:ents (l1++s::l2)=ents (l1++s.kept time::l2):=by simp[ents,ent,Ses.key,Ses.ptr,Ses.kept]
 have e2':=Hd e2;clear e2
 rcases hd with hd|hd
 · have hkc:s.kept time={s with dl:=endI time s.ttl}:=by unfold Ses.kept;rw[if_pos hd]
   have hkc':=Hd hkc;clear hkc
   (refine Zaj 14 (fun w'=>∃n,w'=World.drewN _ n) (by kernel_rfl) (by kernel_rfl) ⟨1,rfl⟩ ?_);(simp only[List.take_succ_cons,List.take_zero,List.drop_succ_cons,List.drop_zero]);(repeat(first|go_big_quiet_step (exact(end_any _ _ _).mono fun _ _ ⟨he,hw⟩=>⟨he,_,hw.symm⟩)|quiet_step (exact(end_any _ _ _).mono fun _ _ ⟨he,hw⟩=>⟨he,_,hw.symm⟩)));(refine wpQuiet_nil ?_);(rintro _ ⟨nq,rfl⟩)
   have hA:=hA.drewN nq;generalize World.drewN _ nq=w1 at *;clear hF;obtain⟨hA,hF⟩:=fY hA
   go_wp2_with ((with_reducible refine gst ?_);refine wTy hA ?_;clear hF hA;intro w1 hA hF)
   go_ret;refine⟨rfl,?_⟩;rw[e2'.out,hkc'.out] at hA;rw[hkc'.out];exact ZcA (m:=m) (s:={s with dl:=endI time s.ttl}) hA sR sZ sZ sZ sZ
 have hkc:s.kept time=s:=by unfold Ses.kept;rw[if_neg hd]
 have hd':endI time s.ttl≤s.dl:=by omega
 have hkc':=Hd hkc;clear hkc
 (refine Zaj 14 (fun w'=>∃n,w'=World.drewN _ n) (by kernel_rfl) (by kernel_rfl) ⟨1,rfl⟩ ?_);(simp only[List.take_succ_cons,List.take_zero,List.drop_succ_cons,List.drop_zero]);(repeat(first|go_big_quiet_step (exact(end_any _ _ _).mono fun _ _ ⟨he,hw⟩=>⟨he,_,hw.symm⟩)|quiet_step (exact(end_any _ _ _).mono fun _ _ ⟨he,hw⟩=>⟨he,_,hw.symm⟩)));(refine wpQuiet_nil ?_);(rintro _ ⟨nq,rfl⟩)
 have hA:=hA.drewN nq;generalize World.drewN _ nq=w1 at *;clear hF;obtain⟨hA,hF⟩:=fY hA
 go_wp2_with ((with_reducible refine gst ?_);refine wTy hA ?_;clear hF hA;intro w1 hA hF)
 go_ret;refine⟨rfl,?_⟩;rw[e2'.out,hkc'.out] at hA;rw[hkc'.out];exact ZcA (m:=m) (s:=s) hA sR sZ sZ sZ sZ
end Lease
end
section
namespace Lease
open Go.RowKit
def toldV (o:Option Ans):Value:=match o with
 |some a=>.tuple #[.agg #[.int .i64 a.e,.int .u64 a.n,.bool a.g],.bool true]
 |none=>.tuple #[.agg #[.int .i64 0,.int .u64 0,.bool false],.bool false]
theorem Zid {w:World} {p m:Nat} {ss:List Ses} (h:Sep [BookP p m ss] w) {n r:Int} {f:ByteArray} (h0:0≤n) (h1:n < big64) (hf:f.size≤maxLen) (r0:0≤r) (r1:r < big64):
 Calls Tryz.prog 115 #[.pointer (some ⟨p,0,none⟩),.agg #[.int .u64 n,.string f],.int .u64 r] w fun e w'=>e=.returned (toldV (said (look ss n f).told r))∧At [BookP p m ss] w [BookP p m ss] w':=by
 cases hn:find ss n f with
 |none=>
  have hlk:look ss n f=fresh n f 0 0:=by unfold look;rw[hn];rfl
  rw[hlk,show said (fresh n f 0 0).told r=none from rfl];exact Zgg h h0 h1 hf hn
 |some s=>
  have hlk:look ss n f=s:=by unfold look;rw[hn];rfl
  rw[hlk]
  cases hr:said s.told r with
  |none=>exact Zfo h h0 h1 hf hn r0 r1 hr
  |some a=>exact Zib h h0 h1 hf hn r0 r1 hr
end Lease
end
end Go.Proofs.YtkdjkngfnapjcaaGreatDoor
