/- TabDb, TabEa, RegH, RegZ, TabEb, RegE, RegG, joined. -/
import Derived.Test.YtkdjkngfnapjcaaGreatDoorP14
import Derived.Test.YtkdjkngfnapjcaaGreatDoorP8
import Derived.Test.YtkdjkngfnapjcaaGreatDoorP1
import Derived.Test.YtkdjkngfnapjcaaGreatDoorP6
import Derived.Deep.Cut
import Derived.BigQuiet
import Derived.Deep.QuietTactic
import Derived.Test.YtkdjkngfnapjcaaGreatDoorP4
import Derived.Test.YtkdjkngfnapjcaaGreatDoorP2
import Derived.OrdersHeld
set_option linter.unusedSimpArgs false
set_option linter.unusedVariables false
set_option maxRecDepth 100000
set_option maxHeartbeats 16000000
namespace Go.Proofs.YtkdjkngfnapjcaaGreatDoor
section
namespace Tab
open Lease (Ses Ans)
open Lock (S3 Ent)
open Cmd (Cm Zao)
def docL (D:S3) (c:Cm):S3 × Ans:=
 if c.kind=4∨c.kind=5 then
  if c.kind=5∧D.may c.path c.num c.foot c.mode=0∧Lock.ZaH D.es c.path c.mode=false then(D,ansE 51)
  else(D.add c.path c.num c.foot c.mode,⟨D.may c.path c.num c.foot c.mode,(D.addE c.path c.num c.foot c.mode).n,decide (D.may c.path c.num c.foot c.mode=0)&&Lock.ZaH D.es c.path c.mode⟩)
 else if c.kind=6 then
  if(Lock.find D.es c.path c.num c.foot).isSome=false then(D,ansE 52) else(D.remove c.path c.num c.foot,ansE 0)
 else(D,ansE (if Lock.Zbc D.es c.path c.n then 0 else 52))
theorem remove_none {s:S3} {p:ByteArray} {n:Int} {f:ByteArray} (h:(Lock.find s.es p n f).isSome=false):s.remove p n f=s:=by
 unfold Lock.S3.remove
 have h1:s.es.filter (fun e=> !e.is p n f)=s.es:=List.filter_eq_self.2 fun e he=>by
  have h2:Lock.find s.es p n f=none:=by simpa using h
  unfold Lock.find at h2;have:=List.find?_eq_none.1 h2 e he
  simpa using this
 rw[h1]
theorem Zos {t:TS} {c:Cm} (hm:mayT t c=0):Za3 t c=(⟨t.S,(docL t.L c).1⟩,(docL t.L c).2):=by
 unfold Za3 docL;rw[if_neg (by simp[hm])]
 have hadd:addT t c=(⟨t.S,t.L.add c.path c.num c.foot c.mode⟩,⟨t.L.may c.path c.num c.foot c.mode,(t.L.addE c.path c.num c.foot c.mode).n,decide (t.L.may c.path c.num c.foot c.mode=0)&&Lock.ZaH t.L.es c.path c.mode⟩):=by
  unfold addT Lock.S3.addE
  by_cases h:t.L.may c.path c.num c.foot c.mode=0
  · rw[if_pos h,if_pos h,h];simp
  rw[if_neg h,if_neg h,decide_eq_false h];rfl
 by_cases h4:c.kind=4
 · rw[if_pos h4,if_pos (.inl h4),if_neg (by omega),hadd]
 rw[if_neg h4]
 by_cases h5:c.kind=5
 · rw[if_pos h5,if_pos (.inr h5)]
   unfold tryT
   cases hc:Lock.ZaH t.L.es c.path c.mode with
   |true=>rw[if_pos rfl,if_neg (by simp),hadd,hc]
   |false=>
    rw[if_neg (by decide)]
    by_cases h:t.L.may c.path c.num c.foot c.mode=0
    · rw[if_pos h,if_pos ⟨h5,h,rfl⟩]
    rw[if_neg h,if_neg (fun q=>h q.2.1)];unfold Lock.S3.addE Lock.S3.add;rw[if_neg h,if_neg h];simp[h,ansE,Lock.nullE]
 rw[if_neg h5,if_neg (show ¬(c.kind=4∨c.kind=5) from fun q=>q.elim h4 h5)]
 by_cases h6:c.kind=6
 · rw[if_pos h6,if_pos h6]
   cases hf:(Lock.find t.L.es c.path c.num c.foot).isSome with
   |true=>rw[if_pos rfl,if_neg (by decide)]
   |false=>rw[if_neg (by decide),if_pos rfl,remove_none hf]
 rw[if_neg h6,if_neg h6]
end Tab
end
section
namespace Tab
open Go.RowKit
open Lease (Ses Ans fresh ZaP SR AR Rel RelS putR findR saidA insA arP okA rowR poolP)
open Lock (S3 Ent rowE rowC)
open Cmd (Cm Zao)
theorem ZiC {α:Type} (f:α→Part) (l1 l2:List α) (q:α) (F:List Part):Eqv (Part.all ((l1++q::l2).map f)::F) (f q::Part.all ((l1++l2).map f)::F):=by
 refine(Eqv.all _ F).trans ?_
 have e1:((l1++q::l2).map f++F).Perm (f q::((l1++l2).map f++F)):=by
  simp only[List.map_append,List.map_cons,List.append_assoc,List.cons_append];exact List.perm_middle
 exact(Eqv.perm e1).trans (((Eqv.all ((l1++l2).map f) F).symm).cons _)
theorem ZfZ {α:Type} {f:α→Part} {Q:List α} {q:α} (h:q ∈ Q):∃R:Part,∀F,Eqv (Part.all (Q.map f)::F) (f q::R::F):=by
 obtain⟨l1,l2,rfl⟩:=List.append_of_mem h;exact⟨_,ZiC f l1 l2 q⟩
theorem ZiD {α:Type} (f:α→Part) (Q:List α) (q:α) (F:List Part):Eqv (f q::Part.all (Q.map f)::F) (Part.all ((q::Q).map f)::F):=(ZiC f [] Q q F).symm
abbrev PE:=List (Value × List Ent)
abbrev PC:=List (Value × List (ByteArray × Int))
def poolE (Q:PE):Part:=Part.all (Q.map fun q=>rowE q.1 q.2)
def poolC (Q:PC):Part:=Part.all (Q.map fun q=>rowC q.1 q.2)
theorem outE {Q:PE} {v:Value} {l:List Ent} (h:(v,l) ∈ Q):∃R:Part,∀F,Eqv (poolE Q::F) (rowE v l::R::F):=ZfZ (f:=fun q:Value × List Ent=>rowE q.1 q.2) h
theorem outC {Q:PC} {v:Value} {l:List (ByteArray × Int)} (h:(v,l) ∈ Q):∃R:Part,∀F,Eqv (poolC Q::F) (rowC v l::R::F):=ZfZ (f:=fun q:Value × List (ByteArray × Int)=>rowC q.1 q.2) h
theorem outA {Q:List (Value × List AR)} {v:Value} {l:List AR} (h:(v,l) ∈ Q):∃R:Part,∀F,Eqv (poolP Q::F) (Lease.rowA v l::R::F):=ZfZ (f:=fun q:Value × List AR=>Lease.rowA q.1 q.2) h
theorem addE (Q:PE) (v:Value) (l:List Ent) (F:List Part):Eqv (rowE v l::poolE Q::F) (poolE ((v,l)::Q)::F):=ZiD (fun q:Value × List Ent=>rowE q.1 q.2) Q (v,l) F
theorem addC (Q:PC) (v:Value) (l:List (ByteArray × Int)) (F:List Part):Eqv (rowC v l::poolC Q::F) (poolC ((v,l)::Q)::F):=ZiD (fun q:Value × List (ByteArray × Int)=>rowC q.1 q.2) Q (v,l) F
theorem Zlo {w:World} {A P R:Part} (e:∀F,Eqv (P::F) (A::R::F)) {f:FuncId} {args:Array Value} {v:Value} (h:Sep [P] w) (hc:Sep [A] w→Calls Tryz.prog f args w fun e w'=>e=.returned v∧At [A] w [A] w'):
 Calls Tryz.prog f args w fun e w'=>e=.returned v∧At [P] w [P] w':=by
 have hA:=(At.start h).to (e []);refine(hc (hA.sep1 sR)).mono ?_;rintro e1 w1 ⟨h1,hT⟩;exact⟨h1,(hA.call1 sR hT).to (e []).symm⟩
structure DS where
 vS:Value
 L:List SR
 PL:List (Value × List AR)
 vE:Value
 QE:PE
 vC:Value
 QC:PC
def DS.parts (D:DS):List Part:=[rowR D.vS D.L,poolP D.PL,poolE D.QE,poolC D.QC]
def DS.val (D:DS) (first:Int):Value:=.agg #[D.vS,.int .u64 first,D.vE,D.vC]
structure DIn (T:TS) (D:DS):Prop where
 lease:Lease.Inv T.S D.L D.PL
 le:(D.vE,T.L.es) ∈ D.QE
 lc:(D.vC,T.L.cs) ∈ D.QC
def DPost (first:Int) (w:World) (D:DS) (T:TS) (x:AR) (e:Ending) (w':World):Prop:=
 ∃D':DS,e=.returned (.tuple #[D'.val first,.agg (AR.cells x).toArray])∧DIn T D'∧(∀q ∈ D.QE,q ∈ D'.QE)∧At D.parts w D'.parts w'
theorem foldE {L0 F K:List Part} {w0 w:World} {QE:PE} {v:Value} {l:List Ent} {R:Part} (e:∀F,Eqv (poolE QE::F) (rowE v l::R::F)) (h:At L0 w0 K w) (s:Sel (rowE v l) K F) {G:List Part} (r:Sel R F G):At L0 w0 (poolE QE::G) w:=(h.perm (s.perm.trans (r.perm.cons _))).to (e G).symm
theorem foldC {L0 F K:List Part} {w0 w:World} {QC:PC} {v:Value} {l:List (ByteArray × Int)} {R:Part} (e:∀F,Eqv (poolC QC::F) (rowC v l::R::F)) (h:At L0 w0 K w) (s:Sel (rowC v l) K F) {G:List Part} (r:Sel R F G):At L0 w0 (poolC QC::G) w:=(h.perm (s.perm.trans (r.perm.cons _))).to (e G).symm
theorem growE {L0 F K G:List Part} {w0 w:World} {QE:PE} {v:Value} {l:List Ent} (h:At L0 w0 K w) (s:Sel (rowE v l) K F) (r:Sel (poolE QE) F G):At L0 w0 (poolE ((v,l)::QE)::G) w:=(h.perm (s.perm.trans (r.perm.cons _))).to (addE QE v l G)
theorem growC {L0 F K G:List Part} {w0 w:World} {QC:PC} {v:Value} {l:List (ByteArray × Int)} (h:At L0 w0 K w) (s:Sel (rowC v l) K F) (r:Sel (poolC QC) F G):At L0 w0 (poolC ((v,l)::QC)::G) w:=(h.perm (s.perm.trans (r.perm.cons _))).to (addC QC v l G)
end Tab
end
section
section
open Go.RowKit
section
variable {P:Program} {ops:Array Oper} {rest:List Oper} {o:Oper} {a:Act} {Q:Exit→Act→World→Prop} {L0 L F:List Part} {w0 w:World}
theorem Zax {ty:TypeId} {x:Operand} (hg:o.guard=none) (hop:o.op=.load ty x) {b j:Nat} (hx:a.eval x=.pointer (some ⟨b,j,none⟩)) {vs:List Value} (hr:∀(k:Nat) u,vs[k]? =some u→w.cell? ⟨b,j + k,none⟩=some u)
 (hu:(P.underlying ty).map (·.isRow)=some true) (hi:(P.info? ty).map (·.size)=some vs.length)
 (hK:wpList P ops Q rest (a.put o.dst (.agg vs.toArray)) w):wpList P ops Q (o::rest) a w:=by
 obtain⟨d,hu,hd⟩:=Option.map_eq_some_iff.1 hu;refine Zak hg ?_ hK;simp[execOp,hop,hx,run_loadAt_mid w b j ty vs d (fun k v hk=>hr k v hk) hu hd hi,Result.andThen]
end
end
end
end Go.Proofs.YtkdjkngfnapjcaaGreatDoor
section
namespace Go
open _root_.Go.Proofs.YtkdjkngfnapjcaaGreatDoor
open Go.RowKit
theorem csZ {P:Program} {L0 L F:List Part} {w0 w:World} {id:Nat} {Q:Exit→Act→World→Prop} {a a1:Act} {l:List Oper} (n:Nat) (T:TypeId) (b j:Nat) (us:List Value) {x y:Operand} {c:List Value} {E:TypeId} {v:Value} (hA:At L0 w0 L w)
 (h2:∀w',At L0 w0 (Part.cells b (setL c j us) E::F) w'→wpList P l.toArray Q (l.drop (n + 1)) a1 w') (hm:P.follows .mixedOrders=true:=by kernel_rfl)
 (hB:(Region.noSelect l.toArray&&tailX .any l.toArray n&&freeS .any l.toArray n&&headB .any l.toArray n 0 (Array.replicate l.toArray.size false)&&dstB a.tmps.size (l.take n)&&Region.seqB .any l.toArray (l.length - (n + 1)) (n + 1) ((ZaR l.toArray.size n).setIfInBounds n true))=true:=by kernel_rfl)
 (hs:(l[n]?).map (fun o=>o.op)=some (.store T x y):=by exact rfl) (s:Sel (Part.cells b c E) L F:=by with_reducible repeat(first|exact Sel.here|apply Sel.there))
 (h1:∀(R:Part) (wR:World),At L0 w0 (R::F) wR→wpQuiet P l.toArray (Cl L0 w0 (R::F)) (fun a'=>a'=a1) (l.take n) a:=by intro R wR hR;(try clear hF);(simp only[List.take_succ_cons,List.take_zero,List.drop_succ_cons,List.drop_zero]);(have hn1:=Cl.none hR);(have hn2:=Cl.none2 hR);(repeat(first|go_big_quiet_skip|(go_big_quiet_want;(first|(refine qM 87 4 ?_;go_frame;go_big_quiet_on)|(refine qM 90 4 ?_;go_frame;go_big_quiet_on)|(refine qL ?_;go_frame;go_big_quiet_on)|(go_big_quiet_op;go_big_quiet_on)))));(refine wpQuiet_nil ?_);exact rfl)
 (hx:a1.eval x=.pointer (some ⟨b,j,none⟩):=by first|exact rfl|((try simp only[Act.eval,Array.getD_eq_getD_getElem?,List.getElem?_toArray,List.getElem?_cons_succ,List.getElem?_cons_zero,Option.getD_some]);exact rfl)) (hy:a1.eval y=v:=by first|exact rfl|((try simp only[Act.eval,Array.getD_eq_getD_getElem?,List.getElem?_toArray,List.getElem?_cons_succ,List.getElem?_cons_zero,Option.getD_some]);exact rfl)) (hu:v.cells=us.toArray:=by exact rfl) (hsz:(P.info? T).map (·.size)=some us.length:=by kernel_rfl) (hus:us.all (·.oneCell')=true:=by rfl) (hl:j + us.length≤c.length:=by first|decide|(simp;done)|(simp;omega)):
 (Code.region id l.toArray true).wp P Q a w:=Zce n T x y hm hB hs hA s h1 hx hy hu hsz hus hl h2
end Go
end
namespace Go.Proofs.YtkdjkngfnapjcaaGreatDoor
section
namespace Tab
open Go.RowKit
open Path (bl Zad overB Zam)
open Lease (Ses Ans fresh ZaP SR AR arP rowR poolP Rel RelS findR saidA insA okA)
open Lock (S3 Ent rowE rowC)
open Cmd (Cm Zao)
attribute [-go_sem] run_eql_struct run_neq_struct run_eqGuard_agg
theorem ZaJ {L0 L F:List Part} {w0 w:World} {E:TypeId} {size n:Nat} {v:Value} {xs:List Value} (h:At L0 w0 L w) (s:Sel (Part.row E size v n xs) L F):∃ax k cap,v=.slice ax k cap:=by
 obtain⟨ax,n,cap,hv,_⟩:=h.row_hid s;exact⟨ax,n,cap,hv⟩
def Zcu (w:World) (first:Int) (vS:Value) (D:S3) (QE:PE) (QC:PC) (D':S3) (x:AR) (e:Ending) (w':World):Prop:=
 ∃(vE' vC':Value) (QE':PE) (QC':PC),e=.returned (.tuple #[.agg #[vS,.int .u64 first,vE',vC'],.agg (AR.cells x).toArray])∧(vE',D'.es) ∈ QE'∧(vC',D'.cs) ∈ QC'∧(∀q ∈ QE,q ∈ QE')∧At [poolE QE,poolC QC] w [poolE QE',poolC QC'] w'
def ZnI (w:World) (first:Int) (vS vC:Value) (QE:PE) (es':List Ent) (e:Ending) (w':World):Prop:=
 ∃(vE':Value) (QE':PE),e=.returned (.agg #[vS,.int .u64 first,vE',vC])∧(vE',es') ∈ QE'∧(∀q ∈ QE,q ∈ QE')∧At [poolE QE] w [poolE QE'] w'
theorem ZeE {w:World} {QE:PE} {vE:Value} {es:List Ent} (h:Sep [poolE QE] w) (hq:(vE,es) ∈ QE) (first:Int) (vS vC:Value) (hvS:∃ax k cap,vS=.slice ax k cap) (hvC:∃ax k cap,vC=.slice ax k cap) (kind num:Int) (foot:ByteArray) (req:Int) (path:ByteArray) (mode n time:Int) (code:Int) (hmax:es.length≤1000000):
 Calls Tryz.prog 95 #[.agg #[vS,.int .u64 first,vE,vC],.agg #[.int .i64 kind,.int .u64 num,.string foot,.int .u64 req,.string path,.int .i64 mode,.int .u64 n,.int .i64 time],.int .i64 code] w (ZnI w first vS vC QE (if code=0 then es.filter (fun x=> !x.of num foot) else es)):=by
 obtain⟨R,hR⟩:=outE hq;have hA:=(At.start h).to (hR []);clear h;obtain⟨sx,sn,sc,rfl⟩:=hvS;obtain⟨cx,cn,cc,rfl⟩:=hvC;obtain⟨ex,en,ec,rfl⟩:=ZaJ hA .here;have hq':=Hd hq;have hR':=Hd hR;clear hq hR;obtain⟨hA,hF⟩:=fZ hA
 by_cases k0:code=0
 · subst k0
   rw[if_pos rfl]
   go_enter Tryz.func95,Tryz.ntmps95
   go_wp2_with (first|(((with_reducible show wpList _ _ _ ({dst:=some 3,op:=Op.box _ _,type:=_,pos:=_,after:=_,guard:=_}::_) _ _));((with_reducible refine gbx ?_);refine wHz 87 [.slice sx sn sc,.int .u64 first,.slice ex en ec,.slice cx cn cc] hA ?_;clear hF hA;intro bX w1 hA hbX hF))|(((with_reducible show wpList _ _ _ ({dst:=some 4,op:=Op.box _ _,type:=_,pos:=_,after:=_,guard:=_}::_) _ _));((with_reducible refine gbx ?_);refine wHz 57 [.int .i64 kind,.int .u64 num,.string foot,.int .u64 req,.string path,.int .i64 mode,.int .u64 n,.int .i64 time] hA ?_;clear hF hA;intro bC w1 hA hbC hF))|(((with_reducible show wpList _ _ _ ({dst:=some 6,op:=Op.alloc _,type:=_,pos:=_,after:=_,guard:=_}::_) _ _));((with_reducible refine gal ?_);refine g3 hA ?_;clear hF hA;intro bT w1 hA hbT hF)))
   refine(Lock.Zfm (hA.sep1 (A:=rowE (.slice ex en ec) es) sR) first (.slice cx cn cc) ⟨_,_,_,rfl⟩ .empty num foot true hmax).mono ?_;rintro e w1 ⟨v',rfl,hT⟩;rw[Lock.Zk8] at hT;have hB:=hA.call1 (A:=rowE (.slice ex en ec) es) sR hT;obtain⟨dx,dn,dc,rfl⟩:=ZaJ hB .here;clear hT;clear hF hA;have hA:=hB;clear hB
   try simp only[uA] at hA
   obtain⟨hA,hF⟩:=fZ hA
   go_wp2_with ((with_reducible refine gst ?_);refine wTz hA ?_;clear hF hA;intro w1 hA hF)
   refine bodyPost_ret (v:=.agg #[.slice sx sn sc,.int .u64 first,.slice dx dn dc,.slice cx cn cc]) (by simp[results,Tryz.results95,go_sem,hF]) rfl ⟨_,_,rfl,List.mem_cons_self ..,fun q h=>List.mem_cons_of_mem _ h,?_⟩;exact(growE (foldE hR'.out hA (v:=.slice ex en ec) (l:=es) sR sR) (v:=.slice dx dn dc) sR sR).only1 sR
 rw[if_neg k0]
 go_enter Tryz.func95,Tryz.ntmps95
 go_wp2_with (first|(((with_reducible show wpList _ _ _ ({dst:=some 3,op:=Op.box _ _,type:=_,pos:=_,after:=_,guard:=_}::_) _ _));((with_reducible refine gbx ?_);refine wHz 87 [.slice sx sn sc,.int .u64 first,.slice ex en ec,.slice cx cn cc] hA ?_;clear hF hA;intro bX w1 hA hbX hF))|(((with_reducible show wpList _ _ _ ({dst:=some 4,op:=Op.box _ _,type:=_,pos:=_,after:=_,guard:=_}::_) _ _));((with_reducible refine gbx ?_);refine wHz 57 [.int .i64 kind,.int .u64 num,.string foot,.int .u64 req,.string path,.int .i64 mode,.int .u64 n,.int .i64 time] hA ?_;clear hF hA;intro bC w1 hA hbC hF))|(((with_reducible show wpList _ _ _ ({dst:=some 6,op:=Op.alloc _,type:=_,pos:=_,after:=_,guard:=_}::_) _ _));((with_reducible refine gal ?_);refine g3 hA ?_;clear hF hA;intro bT w1 hA hbT hF))|((with_reducible refine gst ?_);refine wTz hA ?_;clear hF hA;intro w1 hA hF))
 refine bodyPost_ret (v:=.agg #[.slice sx sn sc,.int .u64 first,.slice ex en ec,.slice cx cn cc]) (by simp[results,Tryz.results95,go_sem,hF]) rfl ⟨_,_,rfl,hq'.out,fun q h=>h,?_⟩;exact(foldE hR'.out hA (v:=.slice ex en ec) (l:=es) sR sR).only1 sR
theorem Zju {w:World} {QE:PE} {QC:PC} {vE vC:Value} {D:S3} (h:Sep [poolE QE,poolC QC] w) (hE:(vE,D.es) ∈ QE) (hC:(vC,D.cs) ∈ QC) (vS:Value) (hvS:∃ax k cap,vS=.slice ax k cap) (kind num:Int) (foot:ByteArray) (req:Int) (path:ByteArray) (mode n time:Int) (hp:path.size≤1000) {k:Nat} (hI:Lock.Inv D k) (hk:k≤1000000):
 Calls Tryz.prog 152 #[.agg #[vS,.int .u64 D.first,vE,vC],.agg #[.int .i64 kind,.int .u64 num,.string foot,.int .u64 req,.string path,.int .i64 mode,.int .u64 n,.int .i64 time]] w (Zcu w D.first vS D QE QC (docL D ⟨kind,num,foot,req,path,mode,n,time⟩).1 (arA req (docL D ⟨kind,num,foot,req,path,mode,n,time⟩).2)):=by
 obtain⟨first,es,cs⟩:=D;simp only at hE hC ⊢;obtain⟨RE,hRE⟩:=outE hE;obtain⟨RC,hRC⟩:=outC hC;have hA:=((((At.start h).to (hRE [poolC QC])).pick (K:=[poolC QC,rowE vE es,RE]) pR).to (hRC [rowE vE es,RE])).pick (K:=[rowE vE es,rowC vC cs,RE,RC]) pR;clear h;obtain⟨sx,sn,sc,rfl⟩:=hvS;obtain⟨ex,en,ec,rfl⟩:=ZaJ hA .here;obtain⟨cx,cn,cc,rfl⟩:=ZaJ hA (.there .here)
 have hok:∀x ∈ es,x.path.size≤1000∧x.stamp≤1000000000:=fun x hx=>⟨Nat.le_trans (hI.path x hx) (by omega),by have:=hI.stamp1 x hx;omega⟩
 have hc0:0≤Lock.counter first cs path:=Int.le_trans hI.first0 (Lock.ZcC hI path)
 have hle:=Nat.le_trans hI.len hk;have hlc:=Nat.le_trans hI.clen hk;have hE':=Hd hRE;have hC':=Hd hRC;have mE:=Hd hE;have mC:=Hd hC
 have hcou:=Hd fun(w1:World) (q:Sep [rowE (.slice ex en ec) es] w1)=>Lock.ZjG q first (.slice cx cn cc) ⟨_,_,_,rfl⟩ path mode hp hle (fun x hx=>(hok x hx).1)
 have hadd:=Hd fun(w1:World) (q:Sep [rowE (.slice ex en ec) es,rowC (.slice cx cn cc) cs] w1)=>Lock.Zlx q path num foot mode hp hle hlc hok hc0
 have hfin:=Hd fun(w1:World) (q:Sep [rowE (.slice ex en ec) es] w1)=>Lock.findR_any q first (.slice cx cn cc) ⟨_,_,_,rfl⟩ path num foot hle
 have hdro:=Hd fun(w1:World) (q:Sep [rowE (.slice ex en ec) es] w1)=>Lock.Zfm q first (.slice cx cn cc) ⟨_,_,_,rfl⟩ path num foot false hle
 have hchk:=Hd fun(w1:World) (q:Sep [rowE (.slice ex en ec) es] w1)=>Lock.ZjK q first (.slice cx cn cc) ⟨_,_,_,rfl⟩ path n hle (fun x hx=>(hok x hx).1)
 have hfx:=Hd (Lock.ZiT (L:=es) (p:=path) (n:=num) (f:=foot));clear hRE hRC hE hC hok hc0 hle hlc hI hk;obtain⟨hA,hF⟩:=fZ hA
 by_cases k4:kind=4
 · subst k4
   go_enter Tryz.func152,Tryz.ntmps152
   go_wp2_with (first|(((with_reducible show wpList _ _ _ ({dst:=some 2,op:=Op.box _ _,type:=_,pos:=_,after:=_,guard:=_}::_) _ _));((with_reducible refine gbx ?_);refine wHz 87 [.slice sx sn sc,.int .u64 first,.slice ex en ec,.slice cx cn cc] hA ?_;clear hF hA;intro bX w1 hA hbX hF))|(((with_reducible show wpList _ _ _ ({dst:=some 3,op:=Op.box _ _,type:=_,pos:=_,after:=_,guard:=_}::_) _ _));((with_reducible refine gbx ?_);refine wHz 57 [.int .i64 4,.int .u64 num,.string foot,.int .u64 req,.string path,.int .i64 mode,.int .u64 n,.int .i64 time] hA ?_;clear hF hA;intro bC w1 hA hbC hF))|(((with_reducible show wpList _ _ _ ({dst:=some 4,op:=Op.alloc _,type:=_,pos:=_,after:=_,guard:=_}::_) _ _));((with_reducible refine gal ?_);refine g3 hA ?_;clear hF hA;intro bT w1 hA hbT hF))|(((with_reducible show wpList _ _ _ ({dst:=some 5,op:=Op.alloc _,type:=_,pos:=_,after:=_,guard:=_}::_) _ _));((with_reducible refine gal ?_);refine g0 hA ?_;clear hF hA;intro bR w1 hA hbR hF))|(((with_reducible show wpList _ _ _ ({dst:=some 6,op:=Op.alloc _,type:=_,pos:=_,after:=_,guard:=_}::_) _ _));((with_reducible refine gal ?_);refine g0 hA ?_;clear hF hA;intro bA w1 hA hbA hF))|((with_reducible refine gst ?_);refine wTz hA ?_;clear hF hA;intro w1 hA hF))
   refine(hcou.out _ (hA.sep1 (A:=rowE (.slice ex en ec) es) sR)).mono ?_
   obtain⟨co,hco⟩:∃z,Lock.ZaH es path mode=z:=⟨_,rfl⟩
   rw[hco];have hco':=Hd hco;clear hco hcou;rintro e w1 ⟨rfl,hT⟩;replace hA:=hA.call1 (A:=rowE (.slice ex en ec) es) sR hT;clear hT hF
   try simp only[uA] at hA
   obtain⟨hA,hF⟩:=fZ hA
   go_wp2_with fail
   refine(hadd.out _ (hA.sep2 (A:=rowE (.slice ex en ec) es) (B:=rowC (.slice cx cn cc) cs) sR sR)).mono ?_;clear hadd;rintro e w1 (⟨q0,rfl,hT⟩|⟨q0,vL',vC',rfl,hT⟩)
   · obtain⟨me,hme⟩:∃z,(⟨first,es,cs⟩:S3).may path num foot mode=z:=⟨_,rfl⟩
     rw[hme] at q0;rw[hme];have hme':=Hd hme
     have q1:(me==0)=false:=by simpa using q0
     have q0':=Hd q0;clear hme q0;replace hA:=hA.call2 (A:=rowE (.slice ex en ec) es) (B:=rowC (.slice cx cn cc) cs) sR sR hT;clear hT hF
     try simp only[uA] at hA
     obtain⟨hA,hF⟩:=fZ hA
     go_wp2_with (first|(((with_reducible show wpList _ _ _ ({dst:=some 8,op:=Op.alloc _,type:=_,pos:=_,after:=_,guard:=_}::_) _ _));((with_reducible refine gal ?_);refine g9 hA ?_;clear hF hA;intro bL w1 hA hbL hF))|(((with_reducible show wpList _ _ _ ({dst:=some 9,op:=Op.alloc _,type:=_,pos:=_,after:=_,guard:=_}::_) _ _));((with_reducible refine gal ?_);refine g10 hA ?_;clear hF hA;intro bN w1 hA hbN hF))|((with_reducible refine gst ?_);refine wTz hA ?_;clear hF hA;intro w1 hA hF))
     try go_frame
     refine csZ 2 87 bT 0 [.slice sx sn sc,.int .u64 first,.slice ex en ec,.slice cx cn cc] hA ?_;intro w1 hB;clear hF hA;have hA:=hB;clear hB;(simp only[List.drop_succ_cons,List.drop_zero]);obtain⟨hA,hF⟩:=fZ hA;(try go_frame)
     go_wp2_with ((with_reducible refine gst ?_);refine wTz hA ?_;clear hF hA;intro w1 hA hF)
     refine bodyPost_ret (v:=.tuple #[.agg #[.slice sx sn sc,.int .u64 first,.slice ex en ec,.slice cx cn cc],.agg #[.int .u64 req,.int .i64 me,.int .u64 0,.bool false]]) (by simp[results,Tryz.results152,go_sem,hF,Lock.nullE]) rfl ?_;show Zcu _ _ _ _ _ _ _ _ _ _
     have hd:docL (⟨first,es,cs⟩:S3) ⟨4,num,foot,req,path,mode,n,time⟩=((⟨first,es,cs⟩:S3),⟨me,0,false⟩):=by
      unfold docL;rw[if_pos (by simp),if_neg (by simp[hme'.out,q0'.out])];unfold Lock.S3.add Lock.S3.addE;rw[hme'.out,if_neg q0'.out,if_neg q0'.out,decide_eq_false q0'.out]
      rfl
     rw[hd];exact⟨_,_,QE,QC,rfl,mE.out,mC.out,fun q h=>h,(foldC hC'.out (foldE hE'.out hA (v:=.slice ex en ec) (l:=es) sR sR) (v:=.slice cx cn cc) (l:=cs) sR sR).pick pR⟩
   have hB:=hA.call2 (A:=rowE (.slice ex en ec) es) (B:=rowC (.slice cx cn cc) cs) sR sR hT
   obtain⟨dx,dn,dc,rfl⟩:=ZaJ hB .here;obtain⟨gx,gn,gc,rfl⟩:=ZaJ hB (.there .here);clear hT
   obtain⟨⟨np,nnum,nf,nm,nn,ns⟩,hne⟩:∃z,(⟨first,es,cs⟩:S3).addE path num foot mode=z:=⟨_,rfl⟩
   rw[hne]
   obtain⟨D2,hD2⟩:∃z,(⟨first,es,cs⟩:S3).add path num foot mode=z:=⟨_,rfl⟩
   rw[hD2] at hB;simp only[Lock.Ent.val];have hne':=Hd hne;have hD2':=Hd hD2;have q0':=Hd q0;clear hne hD2 q0;clear hF hA;have hA:=hB;clear hB
   try simp only[uA] at hA
   obtain⟨hA,hF⟩:=fZ hA;cases co
   · go_wp2_with (first|(((with_reducible show wpList _ _ _ ({dst:=some 8,op:=Op.alloc _,type:=_,pos:=_,after:=_,guard:=_}::_) _ _));((with_reducible refine gal ?_);refine g9 hA ?_;clear hF hA;intro bL w1 hA hbL hF))|(((with_reducible show wpList _ _ _ ({dst:=some 9,op:=Op.alloc _,type:=_,pos:=_,after:=_,guard:=_}::_) _ _));((with_reducible refine gal ?_);refine g10 hA ?_;clear hF hA;intro bN w1 hA hbN hF))|((with_reducible refine gst ?_);refine wTz hA ?_;clear hF hA;intro w1 hA hF))
     try go_frame
     refine csZ 2 87 bT 0 [.slice sx sn sc,.int .u64 first,.slice dx dn dc,.slice gx gn gc] hA ?_;intro w1 hB;clear hF hA;have hA:=hB;clear hB;(simp only[List.drop_succ_cons,List.drop_zero]);obtain⟨hA,hF⟩:=fZ hA;(try go_frame)
     go_wp2_with ((with_reducible refine gst ?_);refine wTz hA ?_;clear hF hA;intro w1 hA hF)
     refine bodyPost_ret (v:=.tuple #[.agg #[.slice sx sn sc,.int .u64 first,.slice dx dn dc,.slice gx gn gc],.agg #[.int .u64 req,.int .i64 0,.int .u64 nn,.bool false]]) (by simp[results,Tryz.results152,go_sem,hF,Lock.nullE]) rfl ?_;show Zcu _ _ _ _ _ _ _ _ _ _
     have hd:docL (⟨first,es,cs⟩:S3) ⟨4,num,foot,req,path,mode,n,time⟩=(D2,⟨0,nn,false⟩):=by
      unfold docL;rw[if_pos (by simp),if_neg (by simp[q0'.out,hco'.out]),q0'.out,hne'.out,hD2'.out,hco'.out]
      rfl
     rw[hd];exact⟨_,_,_,_,rfl,List.mem_cons_self ..,List.mem_cons_self ..,fun q h=>List.mem_cons_of_mem _ h,(growC (foldC hC'.out (growE (foldE hE'.out hA (v:=.slice ex en ec) (l:=es) sR sR) (v:=.slice dx dn dc) (l:=D2.es) sR sR) (v:=.slice cx cn cc) (l:=cs) sR sR) (v:=.slice gx gn gc) (l:=D2.cs) sR sR).pick pR⟩
   go_wp2_with (first|(((with_reducible show wpList _ _ _ ({dst:=some 8,op:=Op.alloc _,type:=_,pos:=_,after:=_,guard:=_}::_) _ _));((with_reducible refine gal ?_);refine g9 hA ?_;clear hF hA;intro bL w1 hA hbL hF))|(((with_reducible show wpList _ _ _ ({dst:=some 9,op:=Op.alloc _,type:=_,pos:=_,after:=_,guard:=_}::_) _ _));((with_reducible refine gal ?_);refine g10 hA ?_;clear hF hA;intro bN w1 hA hbN hF))|((with_reducible refine gst ?_);refine wTz hA ?_;clear hF hA;intro w1 hA hF))
   try go_frame
   refine csZ 2 87 bT 0 [.slice sx sn sc,.int .u64 first,.slice dx dn dc,.slice gx gn gc] hA ?_;intro w1 hB;clear hF hA;have hA:=hB;clear hB;(simp only[List.drop_succ_cons,List.drop_zero]);obtain⟨hA,hF⟩:=fZ hA;(try go_frame)
   go_wp2_with ((with_reducible refine gst ?_);refine wTz hA ?_;clear hF hA;intro w1 hA hF)
   refine bodyPost_ret (v:=.tuple #[.agg #[.slice sx sn sc,.int .u64 first,.slice dx dn dc,.slice gx gn gc],.agg #[.int .u64 req,.int .i64 0,.int .u64 nn,.bool true]]) (by simp[results,Tryz.results152,go_sem,hF,Lock.nullE]) rfl ?_;show Zcu _ _ _ _ _ _ _ _ _ _
   have hd:docL (⟨first,es,cs⟩:S3) ⟨4,num,foot,req,path,mode,n,time⟩=(D2,⟨0,nn,true⟩):=by
    unfold docL;rw[if_pos (by simp),if_neg (by simp[q0'.out,hco'.out]),q0'.out,hne'.out,hD2'.out,hco'.out]
    rfl
   rw[hd];exact⟨_,_,_,_,rfl,List.mem_cons_self ..,List.mem_cons_self ..,fun q h=>List.mem_cons_of_mem _ h,(growC (foldC hC'.out (growE (foldE hE'.out hA (v:=.slice ex en ec) (l:=es) sR sR) (v:=.slice dx dn dc) (l:=D2.es) sR sR) (v:=.slice cx cn cc) (l:=cs) sR sR) (v:=.slice gx gn gc) (l:=D2.cs) sR sR).pick pR⟩
 by_cases k5:kind=5
 · subst k5
   go_enter Tryz.func152,Tryz.ntmps152
   go_wp2_with (first|(((with_reducible show wpList _ _ _ ({dst:=some 2,op:=Op.box _ _,type:=_,pos:=_,after:=_,guard:=_}::_) _ _));((with_reducible refine gbx ?_);refine wHz 87 [.slice sx sn sc,.int .u64 first,.slice ex en ec,.slice cx cn cc] hA ?_;clear hF hA;intro bX w1 hA hbX hF))|(((with_reducible show wpList _ _ _ ({dst:=some 3,op:=Op.box _ _,type:=_,pos:=_,after:=_,guard:=_}::_) _ _));((with_reducible refine gbx ?_);refine wHz 57 [.int .i64 5,.int .u64 num,.string foot,.int .u64 req,.string path,.int .i64 mode,.int .u64 n,.int .i64 time] hA ?_;clear hF hA;intro bC w1 hA hbC hF))|(((with_reducible show wpList _ _ _ ({dst:=some 4,op:=Op.alloc _,type:=_,pos:=_,after:=_,guard:=_}::_) _ _));((with_reducible refine gal ?_);refine g3 hA ?_;clear hF hA;intro bT w1 hA hbT hF))|(((with_reducible show wpList _ _ _ ({dst:=some 5,op:=Op.alloc _,type:=_,pos:=_,after:=_,guard:=_}::_) _ _));((with_reducible refine gal ?_);refine g0 hA ?_;clear hF hA;intro bR w1 hA hbR hF))|(((with_reducible show wpList _ _ _ ({dst:=some 6,op:=Op.alloc _,type:=_,pos:=_,after:=_,guard:=_}::_) _ _));((with_reducible refine gal ?_);refine g0 hA ?_;clear hF hA;intro bA w1 hA hbA hF))|((with_reducible refine gst ?_);refine wTz hA ?_;clear hF hA;intro w1 hA hF))
   refine(hcou.out _ (hA.sep1 (A:=rowE (.slice ex en ec) es) sR)).mono ?_
   obtain⟨co,hco⟩:∃z,Lock.ZaH es path mode=z:=⟨_,rfl⟩
   rw[hco];have hco':=Hd hco;clear hco hcou;rintro e w1 ⟨rfl,hT⟩;replace hA:=hA.call1 (A:=rowE (.slice ex en ec) es) sR hT;clear hT hF
   try simp only[uA] at hA
   obtain⟨hA,hF⟩:=fZ hA
   go_wp2_with fail
   refine(hadd.out _ (hA.sep2 (A:=rowE (.slice ex en ec) es) (B:=rowC (.slice cx cn cc) cs) sR sR)).mono ?_;clear hadd;rintro e w1 (⟨q0,rfl,hT⟩|⟨q0,vL',vC',rfl,hT⟩)
   · obtain⟨me,hme⟩:∃z,(⟨first,es,cs⟩:S3).may path num foot mode=z:=⟨_,rfl⟩
     rw[hme] at q0;rw[hme];have hme':=Hd hme
     have q1:(me==0)=false:=by simpa using q0
     have q0':=Hd q0;clear hme q0;replace hA:=hA.call2 (A:=rowE (.slice ex en ec) es) (B:=rowC (.slice cx cn cc) cs) sR sR hT;clear hT hF
     try simp only[uA] at hA
     obtain⟨hA,hF⟩:=fZ hA
     go_wp2_with (first|(((with_reducible show wpList _ _ _ ({dst:=some 8,op:=Op.alloc _,type:=_,pos:=_,after:=_,guard:=_}::_) _ _));((with_reducible refine gal ?_);refine g9 hA ?_;clear hF hA;intro bL w1 hA hbL hF))|(((with_reducible show wpList _ _ _ ({dst:=some 9,op:=Op.alloc _,type:=_,pos:=_,after:=_,guard:=_}::_) _ _));((with_reducible refine gal ?_);refine g10 hA ?_;clear hF hA;intro bN w1 hA hbN hF))|((with_reducible refine gst ?_);refine wTz hA ?_;clear hF hA;intro w1 hA hF))
     try go_frame
     refine csZ 2 87 bT 0 [.slice sx sn sc,.int .u64 first,.slice ex en ec,.slice cx cn cc] hA ?_;intro w1 hB;clear hF hA;have hA:=hB;clear hB;(simp only[List.drop_succ_cons,List.drop_zero]);obtain⟨hA,hF⟩:=fZ hA;(try go_frame)
     go_wp2_with ((with_reducible refine gst ?_);refine wTz hA ?_;clear hF hA;intro w1 hA hF)
     refine bodyPost_ret (v:=.tuple #[.agg #[.slice sx sn sc,.int .u64 first,.slice ex en ec,.slice cx cn cc],.agg #[.int .u64 req,.int .i64 me,.int .u64 0,.bool false]]) (by simp[results,Tryz.results152,go_sem,hF,Lock.nullE]) rfl ?_;show Zcu _ _ _ _ _ _ _ _ _ _
     have hd:docL (⟨first,es,cs⟩:S3) ⟨5,num,foot,req,path,mode,n,time⟩=((⟨first,es,cs⟩:S3),⟨me,0,false⟩):=by
      unfold docL;rw[if_pos (by simp),if_neg (by simp[hme'.out,q0'.out])];unfold Lock.S3.add Lock.S3.addE;rw[hme'.out,if_neg q0'.out,if_neg q0'.out,decide_eq_false q0'.out]
      rfl
     rw[hd];exact⟨_,_,QE,QC,rfl,mE.out,mC.out,fun q h=>h,(foldC hC'.out (foldE hE'.out hA (v:=.slice ex en ec) (l:=es) sR sR) (v:=.slice cx cn cc) (l:=cs) sR sR).pick pR⟩
   have hB:=hA.call2 (A:=rowE (.slice ex en ec) es) (B:=rowC (.slice cx cn cc) cs) sR sR hT
   obtain⟨dx,dn,dc,rfl⟩:=ZaJ hB .here;obtain⟨gx,gn,gc,rfl⟩:=ZaJ hB (.there .here);clear hT
   obtain⟨⟨np,nnum,nf,nm,nn,ns⟩,hne⟩:∃z,(⟨first,es,cs⟩:S3).addE path num foot mode=z:=⟨_,rfl⟩
   rw[hne]
   obtain⟨D2,hD2⟩:∃z,(⟨first,es,cs⟩:S3).add path num foot mode=z:=⟨_,rfl⟩
   rw[hD2] at hB;simp only[Lock.Ent.val];have hne':=Hd hne;have hD2':=Hd hD2;have q0':=Hd q0;clear hne hD2 q0;clear hF hA;have hA:=hB;clear hB
   try simp only[uA] at hA
   obtain⟨hA,hF⟩:=fZ hA;cases co
   · go_wp2_with (first|(((with_reducible show wpList _ _ _ ({dst:=some 8,op:=Op.alloc _,type:=_,pos:=_,after:=_,guard:=_}::_) _ _));((with_reducible refine gal ?_);refine g9 hA ?_;clear hF hA;intro bL w1 hA hbL hF))|(((with_reducible show wpList _ _ _ ({dst:=some 9,op:=Op.alloc _,type:=_,pos:=_,after:=_,guard:=_}::_) _ _));((with_reducible refine gal ?_);refine g10 hA ?_;clear hF hA;intro bN w1 hA hbN hF))|((with_reducible refine gst ?_);refine wTz hA ?_;clear hF hA;intro w1 hA hF))
     try go_frame
     refine csZ 2 87 bT 0 [.slice sx sn sc,.int .u64 first,.slice ex en ec,.slice cx cn cc] hA ?_;intro w1 hB;clear hF hA;have hA:=hB;clear hB;(simp only[List.drop_succ_cons,List.drop_zero]);obtain⟨hA,hF⟩:=fZ hA;(try go_frame)
     go_wp2_with ((with_reducible refine gst ?_);refine wTz hA ?_;clear hF hA;intro w1 hA hF)
     refine bodyPost_ret (v:=.tuple #[.agg #[.slice sx sn sc,.int .u64 first,.slice ex en ec,.slice cx cn cc],.agg #[.int .u64 req,.int .i64 51,.int .u64 0,.bool false]]) (by simp[results,Tryz.results152,go_sem,hF,Lock.nullE]) rfl ?_;show Zcu _ _ _ _ _ _ _ _ _ _
     have hd:docL (⟨first,es,cs⟩:S3) ⟨5,num,foot,req,path,mode,n,time⟩=((⟨first,es,cs⟩:S3),ansE 51):=by
      unfold docL;rw[if_pos (by simp),if_pos ⟨rfl,q0'.out,hco'.out⟩]
     rw[hd];exact⟨_,_,QE,QC,rfl,mE.out,mC.out,fun q h=>h,(foldC hC'.out (foldE hE'.out hA (v:=.slice ex en ec) (l:=es) sR sR) (v:=.slice cx cn cc) (l:=cs) sR sR).pick pR⟩
   go_wp2_with (first|(((with_reducible show wpList _ _ _ ({dst:=some 8,op:=Op.alloc _,type:=_,pos:=_,after:=_,guard:=_}::_) _ _));((with_reducible refine gal ?_);refine g9 hA ?_;clear hF hA;intro bL w1 hA hbL hF))|(((with_reducible show wpList _ _ _ ({dst:=some 9,op:=Op.alloc _,type:=_,pos:=_,after:=_,guard:=_}::_) _ _));((with_reducible refine gal ?_);refine g10 hA ?_;clear hF hA;intro bN w1 hA hbN hF))|((with_reducible refine gst ?_);refine wTz hA ?_;clear hF hA;intro w1 hA hF))
   try go_frame
   refine csZ 2 87 bT 0 [.slice sx sn sc,.int .u64 first,.slice dx dn dc,.slice gx gn gc] hA ?_;intro w1 hB;clear hF hA;have hA:=hB;clear hB;(simp only[List.drop_succ_cons,List.drop_zero]);obtain⟨hA,hF⟩:=fZ hA;(try go_frame)
   go_wp2_with ((with_reducible refine gst ?_);refine wTz hA ?_;clear hF hA;intro w1 hA hF)
   refine bodyPost_ret (v:=.tuple #[.agg #[.slice sx sn sc,.int .u64 first,.slice dx dn dc,.slice gx gn gc],.agg #[.int .u64 req,.int .i64 0,.int .u64 nn,.bool true]]) (by simp[results,Tryz.results152,go_sem,hF,Lock.nullE]) rfl ?_;show Zcu _ _ _ _ _ _ _ _ _ _
   have hd:docL (⟨first,es,cs⟩:S3) ⟨5,num,foot,req,path,mode,n,time⟩=(D2,⟨0,nn,true⟩):=by
    unfold docL;rw[if_pos (by simp),if_neg (by simp[q0'.out,hco'.out]),q0'.out,hne'.out,hD2'.out,hco'.out]
    rfl
   rw[hd];exact⟨_,_,_,_,rfl,List.mem_cons_self ..,List.mem_cons_self ..,fun q h=>List.mem_cons_of_mem _ h,(growC (foldC hC'.out (growE (foldE hE'.out hA (v:=.slice ex en ec) (l:=es) sR sR) (v:=.slice dx dn dc) (l:=D2.es) sR sR) (v:=.slice cx cn cc) (l:=cs) sR sR) (v:=.slice gx gn gc) (l:=D2.cs) sR sR).pick pR⟩
 by_cases k6:kind=6
 · subst k6
   clear hcou hadd hchk k4 k5
   go_enter Tryz.func152,Tryz.ntmps152
   go_wp2_with (first|(((with_reducible show wpList _ _ _ ({dst:=some 2,op:=Op.box _ _,type:=_,pos:=_,after:=_,guard:=_}::_) _ _));((with_reducible refine gbx ?_);refine wHz 87 [.slice sx sn sc,.int .u64 first,.slice ex en ec,.slice cx cn cc] hA ?_;clear hF hA;intro bX w1 hA hbX hF))|(((with_reducible show wpList _ _ _ ({dst:=some 3,op:=Op.box _ _,type:=_,pos:=_,after:=_,guard:=_}::_) _ _));((with_reducible refine gbx ?_);refine wHz 57 [.int .i64 6,.int .u64 num,.string foot,.int .u64 req,.string path,.int .i64 mode,.int .u64 n,.int .i64 time] hA ?_;clear hF hA;intro bC w1 hA hbC hF))|(((with_reducible show wpList _ _ _ ({dst:=some 4,op:=Op.alloc _,type:=_,pos:=_,after:=_,guard:=_}::_) _ _));((with_reducible refine gal ?_);refine g3 hA ?_;clear hF hA;intro bT w1 hA hbT hF))|(((with_reducible show wpList _ _ _ ({dst:=some 5,op:=Op.alloc _,type:=_,pos:=_,after:=_,guard:=_}::_) _ _));((with_reducible refine gal ?_);refine g0 hA ?_;clear hF hA;intro bR w1 hA hbR hF))|(((with_reducible show wpList _ _ _ ({dst:=some 6,op:=Op.alloc _,type:=_,pos:=_,after:=_,guard:=_}::_) _ _));((with_reducible refine gal ?_);refine g0 hA ?_;clear hF hA;intro bA w1 hA hbA hF))|((with_reducible refine gst ?_);refine wTz hA ?_;clear hF hA;intro w1 hA hF))
   refine(hfin.out _ (hA.sep1 (A:=rowE (.slice ex en ec) es) sR)).mono ?_
   obtain⟨ix,hix⟩:∃z,Lock.idxD es path num foot=z:=⟨_,rfl⟩
   have hz:=hfx.out;rw[hix] at hz;rw[hix];clear hix hfx hfin;rintro e w1 ⟨rfl,hT⟩;replace hA:=hA.call1 (A:=rowE (.slice ex en ec) es) sR hT;clear hT hF
   try simp only[uA] at hA
   obtain⟨hA,hF⟩:=fZ hA
   cases hfs:(Lock.find es path num foot).isSome with
   |false=>
    have hix:=hz.2 hfs;subst hix;have hfs':=Hd hfs;clear hz hfs
    go_wp2_with ((with_reducible refine gst ?_);refine wTz hA ?_;clear hF hA;intro w1 hA hF)
    try go_frame
    refine csZ 2 87 bT 0 [.slice sx sn sc,.int .u64 first,.slice ex en ec,.slice cx cn cc] hA ?_;intro w1 hB;clear hF hA;have hA:=hB;clear hB;(simp only[List.drop_succ_cons,List.drop_zero]);obtain⟨hA,hF⟩:=fZ hA;(try go_frame)
    go_wp2_with ((with_reducible refine gst ?_);refine wTz hA ?_;clear hF hA;intro w1 hA hF)
    refine bodyPost_ret (v:=.tuple #[.agg #[.slice sx sn sc,.int .u64 first,.slice ex en ec,.slice cx cn cc],.agg #[.int .u64 req,.int .i64 52,.int .u64 0,.bool false]]) (by simp[results,Tryz.results152,go_sem,hF,Lock.nullE]) rfl ?_;show Zcu _ _ _ _ _ _ _ _ _ _
    have hd:docL (⟨first,es,cs⟩:S3) ⟨6,num,foot,req,path,mode,n,time⟩=((⟨first,es,cs⟩:S3),ansE 52):=by
     unfold docL;rw[if_neg (by simp),if_pos rfl,if_pos hfs'.out]
    rw[hd];exact⟨_,_,QE,QC,rfl,mE.out,mC.out,fun q h=>h,(foldC hC'.out (foldE hE'.out hA (v:=.slice ex en ec) (l:=es) sR sR) (v:=.slice cx cn cc) (l:=cs) sR sR).pick pR⟩
   |true=>
    have hix:=hz.1 hfs
    have hix':¬ix < 0:=by omega
    have hfs':=Hd hfs;clear hz hfs hix
    go_wp2_with fail
    refine(hdro.out _ (hA.sep1 (A:=rowE (.slice ex en ec) es) sR)).mono ?_;rintro e w1 ⟨v',rfl,hT⟩;rw[Lock.Zk6] at hT;have hB:=hA.call1 (A:=rowE (.slice ex en ec) es) sR hT;obtain⟨dx,dn,dc,rfl⟩:=ZaJ hB .here;clear hT hdro;clear hF hA;have hA:=hB;clear hB
    try simp only[uA] at hA
    obtain⟨hA,hF⟩:=fZ hA
    go_wp2_with ((with_reducible refine gst ?_);refine wTz hA ?_;clear hF hA;intro w1 hA hF)
    try go_frame
    refine csZ 2 87 bT 0 [.slice sx sn sc,.int .u64 first,.slice dx dn dc,.slice cx cn cc] hA ?_;intro w1 hB;clear hF hA;have hA:=hB;clear hB;(simp only[List.drop_succ_cons,List.drop_zero]);obtain⟨hA,hF⟩:=fZ hA;(try go_frame)
    go_wp2_with ((with_reducible refine gst ?_);refine wTz hA ?_;clear hF hA;intro w1 hA hF)
    refine bodyPost_ret (v:=.tuple #[.agg #[.slice sx sn sc,.int .u64 first,.slice dx dn dc,.slice cx cn cc],.agg #[.int .u64 req,.int .i64 0,.int .u64 0,.bool false]]) (by simp[results,Tryz.results152,go_sem,hF,Lock.nullE]) rfl ?_;show Zcu _ _ _ _ _ _ _ _ _ _
    have hd:docL (⟨first,es,cs⟩:S3) ⟨6,num,foot,req,path,mode,n,time⟩=((⟨first,es,cs⟩:S3).remove path num foot,ansE 0):=by
     unfold docL;rw[if_neg (by simp),if_pos rfl,if_neg (by rw[hfs'.out];decide)]
    rw[hd];exact⟨_,_,(.slice dx dn dc,es.filter (fun x=> !x.is path num foot))::QE,QC,rfl,List.mem_cons_self ..,mC.out,fun q h=>List.mem_cons_of_mem _ h,(foldC hC'.out (growE (foldE hE'.out hA (v:=.slice ex en ec) (l:=es) sR sR) (v:=.slice dx dn dc) (l:=es.filter (fun x=> !x.is path num foot)) sR sR) (v:=.slice cx cn cc) (l:=cs) sR sR).pick pR⟩
 have k4':(kind==4)=false:=by simpa using k4
 have k5':(kind==5)=false:=by simpa using k5
 have k6':(kind==6)=false:=by simpa using k6
 have e4:=Hd k4;have e5:=Hd k5;have e6:=Hd k6;clear hcou hadd hfin hdro hfx
 go_enter Tryz.func152,Tryz.ntmps152
 go_wp2_with (first|(((with_reducible show wpList _ _ _ ({dst:=some 2,op:=Op.box _ _,type:=_,pos:=_,after:=_,guard:=_}::_) _ _));((with_reducible refine gbx ?_);refine wHz 87 [.slice sx sn sc,.int .u64 first,.slice ex en ec,.slice cx cn cc] hA ?_;clear hF hA;intro bX w1 hA hbX hF))|(((with_reducible show wpList _ _ _ ({dst:=some 3,op:=Op.box _ _,type:=_,pos:=_,after:=_,guard:=_}::_) _ _));((with_reducible refine gbx ?_);refine wHz 57 [.int .i64 kind,.int .u64 num,.string foot,.int .u64 req,.string path,.int .i64 mode,.int .u64 n,.int .i64 time] hA ?_;clear hF hA;intro bC w1 hA hbC hF))|(((with_reducible show wpList _ _ _ ({dst:=some 4,op:=Op.alloc _,type:=_,pos:=_,after:=_,guard:=_}::_) _ _));((with_reducible refine gal ?_);refine g3 hA ?_;clear hF hA;intro bT w1 hA hbT hF))|(((with_reducible show wpList _ _ _ ({dst:=some 5,op:=Op.alloc _,type:=_,pos:=_,after:=_,guard:=_}::_) _ _));((with_reducible refine gal ?_);refine g0 hA ?_;clear hF hA;intro bR w1 hA hbR hF))|(((with_reducible show wpList _ _ _ ({dst:=some 6,op:=Op.alloc _,type:=_,pos:=_,after:=_,guard:=_}::_) _ _));((with_reducible refine gal ?_);refine g0 hA ?_;clear hF hA;intro bA w1 hA hbA hF))|((with_reducible refine gst ?_);refine wTz hA ?_;clear hF hA;intro w1 hA hF))
 refine(hchk.out _ (hA.sep1 (A:=rowE (.slice ex en ec) es) sR)).mono ?_
 obtain⟨ck,hck⟩:∃z,Lock.Zbc es path n=z:=⟨_,rfl⟩
 rw[hck];have hck':=Hd hck;clear hck hchk;rintro e w1 ⟨rfl,hT⟩;replace hA:=hA.call1 (A:=rowE (.slice ex en ec) es) sR hT;clear hT hF
 try simp only[uA] at hA
 obtain⟨hA,hF⟩:=fZ hA;cases ck
 · go_wp2_with ((with_reducible refine gst ?_);refine wTz hA ?_;clear hF hA;intro w1 hA hF)
   try go_frame
   refine csZ 2 87 bT 0 [.slice sx sn sc,.int .u64 first,.slice ex en ec,.slice cx cn cc] hA ?_;intro w1 hB;clear hF hA;have hA:=hB;clear hB;(simp only[List.drop_succ_cons,List.drop_zero]);obtain⟨hA,hF⟩:=fZ hA;(try go_frame)
   go_wp2_with ((with_reducible refine gst ?_);refine wTz hA ?_;clear hF hA;intro w1 hA hF)
   refine bodyPost_ret (v:=.tuple #[.agg #[.slice sx sn sc,.int .u64 first,.slice ex en ec,.slice cx cn cc],.agg #[.int .u64 req,.int .i64 52,.int .u64 0,.bool false]]) (by simp[results,Tryz.results152,go_sem,hF,Lock.nullE]) rfl ?_;show Zcu _ _ _ _ _ _ _ _ _ _
   have hd:docL (⟨first,es,cs⟩:S3) ⟨kind,num,foot,req,path,mode,n,time⟩=((⟨first,es,cs⟩:S3),ansE 52):=by
    unfold docL;rw[if_neg (by simp[e4.out,e5.out]),if_neg e6.out,hck'.out]
    rfl
   rw[hd];exact⟨_,_,QE,QC,rfl,mE.out,mC.out,fun q h=>h,(foldC hC'.out (foldE hE'.out hA (v:=.slice ex en ec) (l:=es) sR sR) (v:=.slice cx cn cc) (l:=cs) sR sR).pick pR⟩
 go_wp2_with fail
 try go_frame
 refine csZ 2 87 bT 0 [.slice sx sn sc,.int .u64 first,.slice ex en ec,.slice cx cn cc] hA ?_;intro w1 hB;clear hF hA;have hA:=hB;clear hB;(simp only[List.drop_succ_cons,List.drop_zero]);obtain⟨hA,hF⟩:=fZ hA;(try go_frame)
 go_wp2_with ((with_reducible refine gst ?_);refine wTz hA ?_;clear hF hA;intro w1 hA hF)
 refine bodyPost_ret (v:=.tuple #[.agg #[.slice sx sn sc,.int .u64 first,.slice ex en ec,.slice cx cn cc],.agg #[.int .u64 req,.int .i64 0,.int .u64 0,.bool false]]) (by simp[results,Tryz.results152,go_sem,hF,Lock.nullE]) rfl ?_;show Zcu _ _ _ _ _ _ _ _ _ _
 have hd:docL (⟨first,es,cs⟩:S3) ⟨kind,num,foot,req,path,mode,n,time⟩=((⟨first,es,cs⟩:S3),ansE 0):=by
  unfold docL;rw[if_neg (by simp[e4.out,e5.out]),if_neg e6.out,hck'.out]
  rfl
 rw[hd];exact⟨_,_,QE,QC,rfl,mE.out,mC.out,fun q h=>h,(foldC hC'.out (foldE hE'.out hA (v:=.slice ex en ec) (l:=es) sR sR) (v:=.slice cx cn cc) (l:=cs) sR sR).pick pR⟩
end Tab
end
end Go.Proofs.YtkdjkngfnapjcaaGreatDoor
section
namespace Go
open _root_.Go.Proofs.YtkdjkngfnapjcaaGreatDoor
open Go.RowKit
section
variable {P:Program} {ops:Array Oper} {Q:Exit→Act→World→Prop} {md:Region.Mode} {S:World→Prop} {L0 L F:List Part} {w0 w:World}
theorem Zaa {i fuel:Nat} {listed:Array Bool} {a:Act} (hr:Region.ready md ops listed=[i]) (h:wpOp P ops Q i (fun a' w'=>S w'∧wpAnyH P md ops Q S fuel (listed.setIfInBounds i true) a' w') a w):wpAnyH P md ops Q S (fuel + 1) listed a w:=
 wpAnyH_all hr (by simp) (fun k hk=>by rw[List.mem_singleton.1 hk];exact h)
theorem ZaG {i j fuel:Nat} {listed:Array Bool} {a:Act} (hr:Region.ready md ops listed=[i,j]) (h1:wpOp P ops Q i (fun a' w'=>S w'∧wpAnyH P md ops Q S fuel (listed.setIfInBounds i true) a' w') a w)
 (h2:wpOp P ops Q j (fun a' w'=>S w'∧wpAnyH P md ops Q S fuel (listed.setIfInBounds j true) a' w') a w):wpAnyH P md ops Q S (fuel + 1) listed a w:=
 wpAnyH_all hr (by simp) (fun k hk=>by
  rcases List.mem_cons.1 hk with rfl|hk
  · exact h1
  rw[List.mem_singleton.1 hk];exact h2)
theorem ZdA {i:Nat} {oi:Oper} {v:Value} {d:Option Tmp} {fuel:Nat} {listed:Array Bool} {a:Act} (hi:ops[i]? =some oi) (hd:oi.dst=d)
 (hs:Region.noSelect ops=true) (hf:Region.free md ops listed i=true) (hr:(Region.ready md ops listed).contains i=true)
 (hQ:∀c a w,Q (.panic c) (a.put oi.dst v) w→Q (.panic c) a w) (hw:Region.wanted oi (yielded ops a.tmps)=true) (hrun:∀w,S w→(execOp a.eval oi).run P w=.ok (.value v) w) (hS:S w)
 (h:wpAnyH P md ops Q S fuel (listed.setIfInBounds i true) (a.put d v) w):wpAnyH P md ops Q S (fuel + 1) listed a w:=by
 subst hd;exact wpAnyH_take hi hs hf hr hQ (.inl ⟨hw,hrun⟩) hS h
theorem Zb6 {k:Nat} {d:Option Tmp} {o:Oper} {a:Act} {K:Act→World→Prop} {e:TypeId} {size n:Nat} {v:Value} {xs:List Value} {i:TypeInfo} {z:Value} {bytes:Nat} (hok:ops[k]? =some o) (hd:o.dst=d) (hw:Region.wanted o (yielded ops a.tmps)=true) (hg:o.guard=none) (s' x:Operand) (t:TypeId) (ho:o.op=.call {callee:=.builtin .append,args:= #[s',x],argTypes:= #[t,t]})
 (ht:P.underlying t=some (.slice e)) (hi:P.info? e=some i) (hz:i.zero=some z) (hsize:i.size=size) (hby:i.bytes=bytes) (hzs:z.cells.size=size) (hsz:0 < size)
 (h:At L0 w0 L w) (s:Sel (Part.row e size v n xs) L F) (hs:a.eval s'=v) {xv:Value} {m:Nat} {news:List Value} (hxv:a.eval x=xv) (hl:news.length=m * size) (hx:Reads w xv m news) (h1:∀u ∈ news,u.oneCell'=true)
 (h63:n + m≤maxLen) (hbytes:(n + m) * bytes≤140737488355328)
 (hK:∀v' w',At L0 w0 (Part.row e size v' (n + m) (xs++news)::F) w'→K (a.put d v') w'):wpOp P ops Q k K a w:=by
 subst hd
 have hst:=Zef w (K:=K) (Q:=Q) (E:=True) (ops:=ops) (a:=a) (o:=o) hg s' x t ho 0 e i z size bytes ht hi hz hsize hby hzs hsz v n xs hs (h.get s) xv m news hxv hl hx h1 h63 hbytes (Nat.zero_le _) (fun v' w' h2 h3 h4=>
  hK v' w' (h.turn s _ h2 (fun b hb=>by
   rcases h4 with h4|h4
   · exact .inl (show v.ownBlock=some b from by rw[←h4];exact hb)
   right
   have hb':v'.ownBlock=some b:=hb;rw[h4] at hb';cases hb'
   exact Nat.le_refl _) (Zbq h3)))
 rw[if_pos hw] at hst;unfold wpOp;simp only[hok,hw,if_true];exact .inl hst
theorem Zar {i:Nat} {d:Option Tmp} {o:Oper} {a:Act} {K:Act→World→Prop} (ho:ops[i]? =some o) (hd:o.dst=d) (hw:Region.wanted o (yielded ops a.tmps)=true) {fn:FuncId} {args:Array Value} (hrun:(execOp a.eval o).run P w=.ok (.enter fn args) w)
 {R:Value→World→Prop} (hc:Calls P fn args w fun e w'=>∃u,e=.returned u∧R u w') (hK:∀u w',R u w'→K (a.put d u) w'):wpOp P ops Q i K a w:=by
 subst hd;exact ZjR ho hw hrun hc (fun e w' ⟨u,he,hr⟩=>⟨u,he,hK u w' hr⟩)
theorem ZbV {i:Nat} {o:Oper} {a:Act} {K:Act→World→Prop} (ho:ops[i]? =some o) (hd:o.dst=none) (hw:Region.wanted o (yielded ops a.tmps)=true) {ty:TypeId} {x y:Operand} (hop:o.op=.store ty x y) {b j:Nat} (hx:a.eval x=.pointer (some ⟨b,j,none⟩)) {v:Value} (hy:a.eval y=v) {vs:List Value} (hv:v.cells=vs.toArray)
 (h:At L0 w0 L w) {c:List Value} {T:TypeId} (s:Sel (Part.cells b c T) L F) (hi:(P.info? ty).map (·.size)=some vs.length) (h1:vs.all (·.oneCell')=true) (hj:j + vs.length≤c.length)
 (hK:∀w',At L0 w0 (Part.cells b (setL c j vs) T::F) w'→K (a.put none undef) w'):wpOp P ops Q i K a w:=by
 have hb:Zab w b c T:=h.get s
 have hs:v.cells.size=vs.length:=by rw[hv];simp
 have h1':v.cells.all (·.oneCell')=true:=by
  rw[hv,Array.all_eq_true_iff_forall_mem];intro u hu;exact List.all_eq_true.1 h1 u (by simpa using hu)
 have hrun:=ZaY (P:=P) w b j ty v (hb.there j _ (by omega)) (by rw[hs];exact hi) h1';rw[show v.cells.toList=vs from by rw[hv]] at hrun;refine Zd2 ho hw (w':=_) ?_ (by rw[hd];exact hK _ (h.stores s j vs));simp[execOp,hop,hx,hy,hrun,Result.andThen]
end
end Go
end
section
namespace Go
open _root_.Go.Proofs.YtkdjkngfnapjcaaGreatDoor
open Go.RowKit
theorem tZ {P:Program} {ops:Array Oper} {Q:Exit→Act→World→Prop} {md:Region.Mode} {S:World→Prop} {w:World} {fuel:Nat} {listed:Array Bool} {a:Act} {oi:Oper} (i d:Nat) (v:Value) (hi:ops[i]? =some oi:=by exact rfl) (hd:oi.dst=some d:=by exact rfl) (hs:Region.noSelect ops=true:=by kernel_rfl) (hf:Region.free md ops listed i=true:=by kernel_rfl) (hr:(Region.ready md ops listed).contains i=true:=by kernel_rfl) (hQ:∀c a w,Q (.panic c) (a.put oi.dst v) w→Q (.panic c) a w:=by exact fun _ _ _ h=>h) (hw:Region.wanted oi (yielded ops a.tmps)=true:=by exact rfl) (r:∀w,S w→(execOp a.eval oi).run P w=.ok (.value v) w) (s:S w) (h:wpAnyH P md ops Q S fuel (listed.setIfInBounds i true) (a.put (some d) v) w):wpAnyH P md ops Q S (fuel + 1) listed a w:=ZdA hi hd hs hf hr hQ hw r s h
theorem tP {P:Program} {ops:Array Oper} {Q:Exit→Act→World→Prop} {md:Region.Mode} {S:World→Prop} {w:World} {fuel:Nat} {listed:Array Bool} {a:Act} {oi:Oper} (i d:Nat) (v:Value) (hi:ops[i]? =some oi:=by exact rfl) (hd:oi.dst=some d:=by exact rfl) (hs:Region.noSelect ops=true:=by kernel_rfl) (hf:Region.free md ops listed i=true:=by kernel_rfl) (hr:(Region.ready md ops listed).contains i=true:=by kernel_rfl) (hQ:∀c a w,Q (.panic c) (a.put oi.dst v) w→Q (.panic c) a w:=by exact fun _ _ _ h=>h) (hw:Region.wanted oi (yielded ops a.tmps)=true:=by exact rfl) (r:∀w,S w→(execOp a.eval oi).run P w=.ok (.value v) w:=by intro _ _;first|(simp[execOp,go_sem,Act.eval,Act.put];done)|kernel_rfl) (s:S w) (h:wpAnyH P md ops Q S fuel (listed.setIfInBounds i true) (a.put (some d) v) w):wpAnyH P md ops Q S (fuel + 1) listed a w:=ZdA hi hd hs hf hr hQ hw r s h
end Go
end
section
namespace Go
open _root_.Go.Proofs.YtkdjkngfnapjcaaGreatDoor
open Go.RowKit
theorem cZ {P:Program} {ops:Array Oper} {Q:Exit→Act→World→Prop} {w:World} {o:Oper} {a:Act} {K:Act→World→Prop} {R:Value→World→Prop} {fn:FuncId} {args:Array Value} (i d:Nat) (hc:Calls P fn args w fun e w'=>∃u,e=.returned u∧R u w') (hK:∀u w',R u w'→K (a.put (some d) u) w') (ho:ops[i]? =some o:=by exact rfl) (hd:o.dst=some d:=by exact rfl) (hw:Region.wanted o (yielded ops a.tmps)=true:=by kernel_rfl) (hrun:(execOp a.eval o).run P w=.ok (.enter fn args) w:=by simp[execOp,go_sem,Act.eval,Act.put]):wpOp P ops Q i K a w:=Zar ho hd hw hrun hc hK
theorem cY {P:Program} {ops:Array Oper} {Q:Exit→Act→World→Prop} {w:World} {o:Oper} {a:Act} {K:Act→World→Prop} {args:Array Value} (i d:Nat) (fn:FuncId) (R:Value→World→Prop) (hc:Calls P fn args w fun e w'=>∃u,e=.returned u∧R u w') (hK:∀u w',R u w'→K (a.put (some d) u) w') (ho:ops[i]? =some o:=by exact rfl) (hd:o.dst=some d:=by exact rfl) (hw:Region.wanted o (yielded ops a.tmps)=true:=by kernel_rfl) (hrun:(execOp a.eval o).run P w=.ok (.enter fn args) w:=by simp[execOp,go_sem,Act.eval,Act.put]):wpOp P ops Q i K a w:=Zar ho hd hw hrun hc hK
theorem stZ {P:Program} {ops:Array Oper} {Q:Exit→Act→World→Prop} {L0 L F:List Part} {w0 w:World} {o:Oper} {a:Act} {K:Act→World→Prop} {ty:TypeId} {x y:Operand} {v:Value} {c:List Value} {T:TypeId} (i b j:Nat) (vs:List Value) (h:At L0 w0 L w) (hK:∀w',At L0 w0 (Part.cells b (setL c j vs) T::F) w'→K (a.put none undef) w') (ho:ops[i]? =some o:=by exact rfl) (hd:o.dst=none:=by exact rfl) (hw:Region.wanted o (yielded ops a.tmps)=true:=by kernel_rfl) (hop:o.op=.store ty x y:=by exact rfl) (hx:a.eval x=.pointer (some ⟨b,j,none⟩):=by exact rfl) (hy:a.eval y=v:=by exact rfl) (hv:v.cells=vs.toArray:=by exact rfl) (s:Sel (Part.cells b c T) L F:=by repeat(first|exact Sel.here|apply Sel.there)) (hi:(P.info? ty).map (·.size)=some vs.length:=by kernel_rfl) (h1:vs.all (·.oneCell')=true:=by exact rfl) (hj:j + vs.length≤c.length:=by simp):wpOp P ops Q i K a w:=ZbV ho hd hw hop hx hy hv h s hi h1 hj hK
end Go
end
section
namespace Go
open _root_.Go.Proofs.YtkdjkngfnapjcaaGreatDoor
open Go.RowKit
section
variable {P:Program} {ops:Array Oper} {Q:Exit→Act→World→Prop} {md:Region.Mode} {S:World→Prop} {L0 L F:List Part} {w0 w:World}
theorem Zjr {i:Nat} {d:Option Tmp} {o:Oper} {a:Act} {K:Act→World→Prop} {E:TypeId} (ho:ops[i]? =some o) (hd:o.dst=d) (hw:Region.wanted o (yielded ops a.tmps)=true) (hop:o.op=.alloc E) {z:Value} (hz:(P.info? E).map (·.zero)=some (some z)) {vs:List Value} (hv:z.cells=vs.toArray) (h:At L0 w0 L w)
 (hK:∀b w',At L0 w0 (Part.cells b vs E::L) w'→K (a.put d (.pointer (some ⟨b,0,none⟩))) w'):wpOp P ops Q i K a w:=by
 subst hd;refine Zb2 ho hw (v:=.pointer (some ⟨w.heap.size,0,none⟩)) (w':=w.alloc (.cells vs.toArray E)) ?_ (hK _ _ (h.alloc vs E))
 cases hq:P.info? E with
 |none=>simp[hq] at hz
 |some i=>
  have hi:i.zero=some z:=by simpa [hq] using hz
  simp[execOp,hop,Instr.alloc,zeroValue,typeInfo,hq,hi,newVar,newRow,hv,Result.andThen]
end
end Go
section
namespace Go
open _root_.Go.Proofs.YtkdjkngfnapjcaaGreatDoor
open Go.RowKit
theorem aZ {P:Program} {ops:Array Oper} {Q:Exit→Act→World→Prop} {L0 L:List Part} {w0 w:World} {o:Oper} {a:Act} {K:Act→World→Prop} (i d:Nat) (E:TypeId) (vs:List Value) (h:At L0 w0 L w) (hK:∀b w',At L0 w0 (Part.cells b vs E::L) w'→K (a.put (some d) (.pointer (some ⟨b,0,none⟩))) w') (ho:ops[i]? =some o:=by exact rfl) (hd:o.dst=some d:=by exact rfl) (hw:Region.wanted o (yielded ops a.tmps)=true:=by kernel_rfl) (hop:o.op=.alloc E:=by exact rfl) (hz:(P.info? E).map (·.zero)=some (some (.agg vs.toArray)):=by kernel_rfl):wpOp P ops Q i K a w:=Zjr ho hd hw hop hz rfl h hK
end Go
end
end
