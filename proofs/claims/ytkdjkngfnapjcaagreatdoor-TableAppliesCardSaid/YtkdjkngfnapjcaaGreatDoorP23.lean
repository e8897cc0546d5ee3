/- TabQa, TabE, TabJ, TabN, TabP, TabV, LeaseXa, WireA, joined. -/
import Derived.Test.YtkdjkngfnapjcaaGreatDoorP22
import Derived.Test.YtkdjkngfnapjcaaGreatDoorP20
import Derived.Test.YtkdjkngfnapjcaaGreatDoorP14
import Derived.Test.YtkdjkngfnapjcaaGreatDoorP19
import Derived.Test.YtkdjkngfnapjcaaGreatDoorP4
import Derived.Test.YtkdjkngfnapjcaaGreatDoorP9
import Derived.Test.YtkdjkngfnapjcaaGreatDoorP1
import Derived.Test.YtkdjkngfnapjcaaGreatDoorP2
import Derived.Test.YtkdjkngfnapjcaaGreatDoorP7
import Derived.Test.YtkdjkngfnapjcaaGreatDoorShelft
import Derived.Deep.OwnRows
set_option linter.unusedSimpArgs false
set_option linter.unusedVariables false
set_option maxRecDepth 100000
set_option maxHeartbeats 16000000
namespace Go.Proofs.YtkdjkngfnapjcaaGreatDoor
section
namespace Tab
open Go.RowKit
open Path (bl Zad overB Zam)
open Lease (Ses Ans fresh ZaP)
open Lock (S3 Ent)
open Cmd (Cm Zao)
attribute [-go_sem] run_eql_struct run_neq_struct run_eqGuard_agg
theorem below_old {w w':World} {L F:List Part} (h:At [Part.old w] w L w') (s:Sel (Part.old w) L F):Below w.heap.size w w':=by
 have ho:(Part.old w).holds w':=h.get s;exact⟨h.exc.os,h.exc.tape,h.exc.output,h.exc.size,fun b hb=>ho b hb⟩
structure CmV (c:Cm):Prop where
 num:0≤c.num∧c.num < Lease.big64
 foot:c.foot.size≤maxLen
 path:c.path.size≤maxLen
 req:0≤c.req∧c.req < Lease.big64
 n0:0≤c.n
theorem ZfM {l:List Cm} {k:Nat} (h:ZcW l k=true) (hv:∀c ∈ l,CmV c):l.length≤k∧∀c ∈ l,CmIn c:=by
 unfold ZcW at h;rw[Bool.and_eq_true,List.all_eq_true,decide_eq_true_eq] at h;refine⟨by omega,fun c hc=> ?_⟩;have h1:=h.1 c hc;simp only[okS,Bool.and_eq_true,Bool.not_eq_true',decide_eq_false_iff_not] at h1;exact⟨⟨(hv c hc).num,by omega,by omega⟩,(hv c hc).req.1,(hv c hc).req.2,(hv c hc).n0⟩
theorem Zom (op:BinOp) (x y:Operand) (c1 c2 c3 d1 d2 d3:Value) (w:World):(eqGuard op 107 x y (.agg #[c1,c2,c3]) (.agg #[d1,d2,d3])).run Tryz.prog w=.ok () w:=run_eqGuard_agg _ _ _ _ _ _ _ (by kernel_rfl)
theorem sameAn (a b:Int) (c:Bool) (w:World):(Op.equalIn 10000 107 (.agg #[.int .i64 a,.int .u64 b,.bool c]) (.agg #[.int .i64 a,.int .u64 b,.bool c])).run Tryz.prog w=.ok true w:=by
 rw[run_equalIn_agg _ 9999 _ _ _ (by kernel_rfl) (by kernel_rfl)];simp[go_sem,Op.eqFields]
theorem eqlAn (a b:Int) (c:Bool) (w:World):(binOp .eql 107 (.agg #[.int .i64 a,.int .u64 b,.bool c]) (.agg #[.int .i64 a,.int .u64 b,.bool c])).run Tryz.prog w=.ok (.bool true) w:=by
 rw[run_eql_struct,sameAn];rfl
theorem row_at {α:Type} {enc:α→List Value} {size:Nat} (hs:∀x,(enc x).length=size) (h0:0 < size) {E:TypeId} {v:Value} {l:List α} {w:World} (h:(Part.row E size v l.length (l.flatMap enc)).holds w) {i:Nat} {x:α} (hx:l[i]? =some x):
 ∃b0 o0 cap,v=.slice (some ⟨b0,o0,none⟩) l.length cap∧∀(k:Nat) u,(enc x)[k]? =some u→w.cell? ⟨b0,o0 + i * size + k,none⟩=some u:=by
 obtain⟨ax,c,e,_,hr⟩:=Zer h
 have hf:∀k,k < size→∀u,(enc x)[k]? =some u→∃b off,ax=some ⟨b,off,none⟩∧w.cell? ⟨b,off + (i * size + k),none⟩=some u:=fun k hk u hu=>by
  have:=Zb8 enc size hs l i x hx k hk;rw[hu] at this;exact hr (i * size + k) u this
 have hlt:∀{k:Nat} {u},(enc x)[k]? =some u→k < size:=fun hu=>by
  have:=(List.getElem?_eq_some_iff.1 hu).1
  rwa [hs] at this
 obtain⟨u0,hu0⟩:∃u,(enc x)[0]? =some u:=⟨_,List.getElem?_eq_getElem (by rw[hs];exact h0)⟩
 obtain⟨b,off,e2,_⟩:=hf 0 h0 u0 hu0;subst e2;refine⟨b,off,c,e,fun k u hu=> ?_⟩;obtain⟨b',off',e3,hc⟩:=hf k (hlt hu) u hu;cases e3;rw[Nat.add_assoc];exact hc
end Tab
end
section
namespace Tab
open Lease (Ses Ans fresh)
open Lock (S3 Ent)
open Cmd (Cm Zao)
theorem ZiJ {g:Ses→Ses} {n:Int} {f:ByteArray} (hg:∀s,keyE (g s)=keyE s):∀S:List Ses,lookA (updA g n f S) n f=g (lookA S n f)
 |[]=>by
  have h:(g (fresh n f 0 0)).is n f=true:=is_key.2 (by rw[hg];rfl);simp[lookA,updA,Lease.find,h]
 |s::S=>by
  unfold updA
  cases hq:s.is n f with
  |true=>
   have h:(g s).is n f=true:=is_key.2 (by rw[hg];exact is_key.1 hq);simp[lookA,Lease.find,hq,h]
  |false=>
   have ih:=ZiJ (n:=n) (f:=f) hg S;simp only[Bool.false_eq_true,if_false]
   unfold lookA Lease.find at *
   rw[List.find?_cons,List.find?_cons,hq];exact ih
end Tab
end
section
namespace Tab
open Go.RowKit
open Path (bl Zad overB Zam)
open Lease (Ses Ans fresh ZaP)
open Lock (S3 Ent)
open Cmd (Cm Zao)
attribute [-go_sem] run_eql_struct run_neq_struct run_eqGuard_agg
section
variable {w:World} {t p m:Nat} {ss:List Ses} {b:Lock.Bk} (h:Sep [TabP t p m ss b] w)
include h
theorem ZjZ {k:Nat} (hi:Lock.Inv b.st k) (hk:k≤1000000):
 Calls Tryz.prog 46 #[.pointer (some ⟨b.p,0,none⟩)] w fun e w'=>∃(v:Value) (l:List Ent),e=.returned v∧l.Perm b.es∧At [TabP t p m ss b] w [Lock.rowL v l,TabP t p m ss b] w':=by
 have hA:=ZaX h;refine(Lock.Zf9 (hA.sep1 (A:=Lock.BookP b) sZ) hi.sortable (Nat.le_trans hi.len hk) (fun x hx=>Nat.le_trans (hi.path x hx) (by omega))).mono ?_;rintro e w1 ⟨v,l,rfl,hp,_,hT⟩;have hB:=hA.call1 (A:=Lock.BookP b) sZ hT;simp only[uA] at hB;exact⟨v,l,rfl,hp,(Zcd (ss:=ss) hB sZ sZ sZ).pick pZ⟩
theorem Zj0 {q:ByteArray} {n:Int} {f:ByteArray} (hq:q.size≤maxLen) (h0:0≤n) (h1:n < Lock.big64) (hf:f.size≤maxLen):
 Calls Tryz.prog 50 #[.pointer (some ⟨b.p,0,none⟩),.string q,.agg #[.int .u64 n,.string f]] w fun e w'=>e=.returned (.tuple #[((Lock.find b.es q n f).getD Lock.nullE).val,.bool (Lock.find b.es q n f).isSome])∧At [TabP t p m ss b] w [TabP t p m ss b] w':=by
 have hA:=ZaX h
 have hc:Calls Tryz.prog 50 #[.pointer (some ⟨b.p,0,none⟩),.string q,.agg #[.int .u64 n,.string f]] w fun e w'=>e=.returned (.tuple #[((Lock.find b.es q n f).getD Lock.nullE).val,.bool (Lock.find b.es q n f).isSome])∧At [Lock.BookP b] w [Lock.BookP b] w':=by
  cases hx:Lock.find b.es q n f with
  |none=>exact Lock.ZkZ (hA.sep1 (A:=Lock.BookP b) sZ) hq h0 h1 hf hx
  |some x=>exact Lock.ZiS (hA.sep1 (A:=Lock.BookP b) sZ) hq h0 h1 hf hx
 refine hc.mono ?_;rintro e w1 ⟨rfl,hT⟩;have hB:=hA.call1 (A:=Lock.BookP b) sZ hT;simp only[uA] at hB;exact⟨rfl,Zav (hB.pick pZ)⟩
end
end Tab
end
section
namespace Tab
open Path (bl Zad overB Zam)
open Lease (Ses Ans fresh)
open Lock (S3 Ent)
open Cmd (Cm Zao)
theorem bl_inj {p q:ByteArray} (h:bl p=bl q):p=q:=by
 unfold Path.bl at h;cases p;cases q
 congr 1
 exact Array.toList_inj.1 h
def updO (g:Option (Ses→Ses)) (n:Int) (f:ByteArray) (S:List Ses):List Ses:=match g with
 |some g=>updA g n f S
 |none=>S
def KeyG (g:Ses→Ses):Prop:=∀s,keyE (g s)=keyE s
theorem KeyG.is {g:Ses→Ses} (h:KeyG g) (s:Ses) (n:Int) (f:ByteArray):(g s).is n f=s.is n f:=by
 rw[Bool.eq_iff_iff,is_key,is_key,h]
theorem ZmU (n:Int) (f:ByteArray) (m:Int) (k:ByteArray) (b t:Nat):(fresh n f b t).is m k=decide (n=m∧f=k):=rfl
theorem ZjT {g1 g2:Ses→Ses} {n:Int} {f:ByteArray} (h1:KeyG g1):∀S,updA g2 n f (updA g1 n f S)=updA (fun s=>g2 (g1 s)) n f S
 |[]=>by simp[updA,h1.is,ZmU]
 |s::S=>by
  unfold updA
  cases hq:s.is n f with
  |true=>simp[updA,h1.is,hq]
  |false=>simp[updA,hq,ZjT h1 S]
theorem Zod {s:Ses} {S:List Ses} (h:Kn (s::S)):(∀x ∈ S,keyE x≠keyE s)∧Kn S:=by
 unfold Kn at *
 rw[List.map_cons,List.nodup_cons] at h;exact⟨fun x hx e=>h.1 (List.mem_map.2 ⟨x,hx,e⟩),h.2⟩
theorem ZfE {g:Ses→Ses} {n:Int} {f:ByteArray}:∀{S},Kn S→(updA g n f S).Perm (g (lookA S n f)::S.filter (fun x=> !x.is n f))
 |[],_=>by simp[updA,lookA,Lease.find]
 |s::S,hk=>by
  obtain⟨h1,h2⟩:=Zod hk;unfold updA
  cases hq:s.is n f with
  |true=>
   have hf:S.filter (fun x=> !x.is n f)=S:=List.filter_eq_self.2 fun x hx=>by
    cases q:x.is n f with
    |false=>rfl
    |true=>exact absurd ((is_key.1 q).trans (is_key.1 hq).symm) (h1 x hx)
   simp[hq,hf,lookA,Lease.find]
  |false=>
   have ih:=ZfE (g:=g) (n:=n) (f:=f) h2
   have hl:lookA (s::S) n f=lookA S n f:=by simp[lookA,Lease.find,hq]
   rw[hl,List.filter_cons,hq];simp only[Bool.false_eq_true,if_false,Bool.not_false,if_true];exact(ih.cons s).trans (.swap _ _ _)
theorem ZgV {S S':List Ses} (h:S.Perm S') (hk:Kn S) (n:Int) (f:ByteArray):lookA S n f=lookA S' n f:=by
 have hk':Kn S':=by unfold Kn at *;exact(h.map keyE).nodup_iff.1 hk
 unfold lookA
 congr 1
 unfold Lease.find
 cases h1:S.find? (·.is n f) with
 |none=>
  symm
  rw[List.find?_eq_none] at h1 ⊢
  exact fun x hx=>h1 x (h.mem_iff.2 hx)
 |some s=>
  have a1:=List.find?_some h1;have a2:=h.mem_iff.1 (List.mem_of_find?_eq_some h1)
  cases h2:S'.find? (·.is n f) with
  |none=>exact absurd a1 (List.find?_eq_none.1 h2 s a2)
  |some r=>
   have b1:=List.find?_some h2;have b2:=List.mem_of_find?_eq_some h2;have e:keyE s=keyE r:=(is_key.1 a1).trans (is_key.1 b1).symm
   have key:∀{l:List Ses},(l.map keyE).Nodup→∀{x y},x ∈ l→y ∈ l→keyE x=keyE y→x=y:=by
    intro l
    induction l with
    |nil=>intro _ x y hx;cases hx
    |cons z l ih=>
     intro hn x y hx hy hxy;rw[List.map_cons,List.nodup_cons] at hn
     rcases List.mem_cons.1 hx with e1|hx2<;>rcases List.mem_cons.1 hy with e2|hy2
     · rw[e1,e2]
     · subst e1;exact absurd (List.mem_map.2 ⟨y,hy2,hxy.symm⟩) hn.1
     · subst e2;exact absurd (List.mem_map.2 ⟨x,hx2,hxy⟩) hn.1
     exact ih hn.2 hx2 hy2 hxy
   rw[key hk' a2 b2 e]
theorem ZlO {S S':List Ses} (h:S.Perm S') (hk:Kn S) (g:Ses→Ses) (n:Int) (f:ByteArray):(updA g n f S).Perm (updA g n f S'):=by
 have hk':Kn S':=by unfold Kn at *;exact(h.map keyE).nodup_iff.1 hk
 refine(ZfE hk).trans (.trans ?_ (ZfE hk').symm);rw[ZgV h hk];exact(h.filter _).cons _
theorem cnt_perm {S S':List Ses} (h:S.Perm S') (f:ByteArray):Lease.cnt S f=Lease.cnt S' f:=by
 unfold Lease.cnt;exact(h.filter _).length_eq
def ovP (p:ByteArray) (e:Ent):Bool:=overB (bl e.path) (bl p)
structure LocL (l l':S3) (p:ByteArray) (n:Int) (f:ByteArray):Prop where
 first:l.first=l'.first
 own:(l.es.filter (·.of n f)).Perm (l'.es.filter (·.of n f))
 ov:(l.es.filter (ovP p)).Perm (l'.es.filter (ovP p))
 ctr:Lock.counter l.first l.cs p=Lock.counter l'.first l'.cs p
theorem Zfe (es:List Ent) (p:ByteArray) (n:Int) (f:ByteArray):(Lock.find es p n f).isSome=(es.filter (·.of n f)).any (·.is p n f):=by
 unfold Lock.find;rw[List.any_filter,Bool.eq_iff_iff,List.find?_isSome,List.any_eq_true]
 refine exists_congr fun x=>and_congr_right fun _=> ?_
 simp only[Lock.Ent.is,Lock.Ent.of,Bool.and_eq_true,decide_eq_true_eq];exact⟨fun h=>⟨h.2,h⟩,fun h=>h.2⟩
theorem ZkE (es:List Ent) (p:ByteArray):Lock.maxS es p=Lock.maxS (es.filter (ovP p)) p:=by
 unfold Lock.maxS;rw[List.foldl_filter]
 congr 1
 funext m e
 unfold ovP
 cases overB (bl e.path) (bl p)<;>rfl
theorem Zi0 (es:List Ent) (p:ByteArray) (mode:Int):Lock.ZaH es p mode=Lock.ZaH (es.filter (ovP p)) p mode:=by
 unfold Lock.ZaH;rw[List.all_filter]
 congr 1
 congr 1
 funext x
 unfold Lock.wayB ovP
 cases overB (bl x.path) (bl p)<;>simp
def ZdN (l:List Ent) (p:ByteArray) (n:Int):Bool:=l.any (fun e=>decide (e.path=p∧e.n=n)&&Lock.Za1 l e)
theorem ZeM {l:S3} {k:Nat} (h:Lock.Inv l k) (p:ByteArray) (n:Int):Lock.Zbc l.es p n=ZdN l.es p n:=by
 rw[Bool.eq_iff_iff];unfold ZdN;rw[List.any_eq_true]
 constructor
 · intro hc
   unfold Lock.Zbc at hc
   cases hf:l.es.findIdx? (fun e=>decide (e.path=p∧e.n=n)) with
   |none=>rw[hf] at hc;cases hc
   |some j=>
    rw[hf] at hc;obtain⟨hj,h2,_⟩:=List.findIdx?_eq_some_iff_getElem.1 hf;refine⟨l.es[j],List.getElem_mem hj,?_⟩;rw[Bool.and_eq_true];exact⟨h2,by rw[Lock.Zca h.order (List.getElem?_eq_getElem hj)];exact hc⟩
 rintro⟨e,he,hq⟩
 rw[Bool.and_eq_true,decide_eq_true_eq] at hq;obtain⟨j,hj⟩:=List.mem_iff_getElem?.1 he;rw[←hq.1.1,←hq.1.2,Lock.Zfn h.nums hj,←Lock.Zca h.order hj];exact hq.2
theorem Zne (es:List Ent) (p:ByteArray) {e:Ent} (he:e.path=p):Lock.Za1 es e=Lock.Za1 (es.filter (ovP p)) e:=by
 unfold Lock.Za1;rw[List.all_filter]
 congr 1
 funext x
 unfold Lock.wayB ovP;rw[he]
 cases overB (bl x.path) (bl p)<;>simp
theorem Zi1 (es:List Ent) {p:ByteArray} (hp:Zad (bl p)=true) (n:Int):ZdN es p n=ZdN (es.filter (ovP p)) p n:=by
 unfold ZdN;rw[List.any_filter]
 congr 1
 funext e
 by_cases he:e.path=p
 · have h1:ovP p e=true:=by unfold ovP;rw[he];exact Path.ZgO hp
   rw[h1,Bool.true_and,←Zne es p he]
 rw[decide_eq_false (fun q=>he q.1)];simp
theorem ZjI {l r:List Ent} (h:l.Perm r) (p:ByteArray) (n:Int):ZdN l p n=ZdN r p n:=by
 unfold ZdN;rw[h.any_eq]
 congr 1
 funext e
 rw[Lock.ZeK h]
section
variable {l l':S3} {p:ByteArray} {n:Int} {f:ByteArray} (h:LocL l l' p n f)
include h
theorem LocL.find:(Lock.find l.es p n f).isSome=(Lock.find l'.es p n f).isSome:=by rw[Zfe,Zfe,h.own.any_eq]
theorem LocL.maxS:Lock.maxS l.es p=Lock.maxS l'.es p:=by rw[ZkE,ZkE l'.es,Lock.ZgS h.ov]
theorem LocL.could (mode:Int):Lock.ZaH l.es p mode=Lock.ZaH l'.es p mode:=by
 rw[Zi0,Zi0 l'.es];unfold Lock.ZaH;rw[h.ov.all_eq]
theorem LocL.held:Lock.heldN l.es n f=Lock.heldN l'.es n f:=h.own.length_eq
theorem LocL.may (mode:Int):l.may p n f mode=l'.may p n f mode:=by
 unfold S3.may;rw[h.find,h.held,h.ctr]
theorem LocL.newE (mode:Int):l.newE p n f mode=l'.newE p n f mode:=by
 unfold S3.newE;rw[h.ctr,h.maxS]
theorem LocL.check (hp:Zad (bl p)=true) {k k':Nat} (hi:Lock.Inv l k) (hi':Lock.Inv l' k') (m:Int):Lock.Zbc l.es p m=Lock.Zbc l'.es p m:=by
 rw[ZeM hi,ZeM hi',Zi1 _ hp,Zi1 l'.es hp,ZjI h.ov]
end
inductive LE where
 |nop
 |add (e:Ent)
 |rem (p:ByteArray) (n:Int) (f:ByteArray)
 |drop (n:Int) (f:ByteArray)
def LE.run (l:S3):LE→S3
 |.nop=>l
 |.add e=>⟨l.first,l.es++[e],Lock.putC l.cs e.path e.n⟩
 |.rem p n f=>l.remove p n f
 |.drop n f=>l.dropAll n f
structure LEq (l l':S3):Prop where
 first:l.first=l'.first
 es:l.es.Perm l'.es
 cs:l.cs.Perm l'.cs
def CK (cs:List (ByteArray × Int)):Prop:=cs.Pairwise (fun a b=>a.1≠b.1)
theorem Zna {cs cs':List (ByteArray × Int)} (h:cs.Perm cs') (hk:CK cs) (p:ByteArray):Lock.ctr cs p=Lock.ctr cs' p:=by
 have hk':CK cs':=h.pairwise hk fun {_ _} q=>q.symm
 unfold Lock.ctr
 congr 1
 have one:∀{l:List (ByteArray × Int)},CK l→∀{x y},x ∈ l→y ∈ l→x.1=y.1→x=y:=by
  intro l
  induction l with
  |nil=>intro _ x y hx;cases hx
  |cons z l ih=>
   intro hn x y hx hy hxy;have h1:=List.pairwise_cons.1 hn
   rcases List.mem_cons.1 hx with e1|hx2<;>rcases List.mem_cons.1 hy with e2|hy2
   · rw[e1,e2]
   · subst e1;exact absurd hxy (h1.1 y hy2)
   · subst e2;exact absurd hxy.symm (h1.1 x hx2)
   exact ih h1.2 hx2 hy2 hxy
 cases h1:cs.find? (·.1=p) with
 |none=>
  symm
  rw[List.find?_eq_none] at h1 ⊢
  exact fun x hx=>h1 x (h.mem_iff.2 hx)
 |some s=>
  have a1:=List.find?_some h1;have a2:=h.mem_iff.1 (List.mem_of_find?_eq_some h1)
  cases h2:cs'.find? (·.1=p) with
  |none=>exact absurd a1 (List.find?_eq_none.1 h2 s a2)
  |some r=>
   have b1:=List.find?_some h2;have b2:=List.mem_of_find?_eq_some h2;simp only[decide_eq_true_eq] at a1 b1;rw[one hk' a2 b2 (a1.trans b1.symm)]
theorem ZfX {p:ByteArray} {n:Int}:∀{cs},CK cs→(Lock.putC cs p n).Perm ((p,n)::cs.filter (fun c=> !decide (c.1=p)))
 |[],_=>by simp[Lock.putC]
 |c::cs,hk=>by
  have hk':=List.pairwise_cons.1 hk;unfold Lock.putC
  by_cases hc:c.1=p
  · have hf:cs.filter (fun c=> !decide (c.1=p))=cs:=List.filter_eq_self.2 fun x hx=>by
     have:=hk'.1 x hx;simp only[Bool.not_eq_true',decide_eq_false_iff_not]
     exact fun e=>this (hc.trans e.symm)
    rw[if_pos hc,List.filter_cons,decide_eq_true hc,hf];exact .refl _
  rw[if_neg hc,List.filter_cons,decide_eq_false hc]
  exact((ZfX hk'.2).cons c).trans (.swap _ _ _)
theorem Zmo {cs cs':List (ByteArray × Int)} (h:cs.Perm cs') (hk:CK cs) (p:ByteArray) (n:Int):(Lock.putC cs p n).Perm (Lock.putC cs' p n):=
 (ZfX hk).trans (((h.filter _).cons _).trans (ZfX (h.pairwise hk fun {_ _} q=>q.symm)).symm)
theorem put_comm {p q:ByteArray} {m n:Int} (hne:p≠q):∀cs,(Lock.putC (Lock.putC cs p m) q n).Perm (Lock.putC (Lock.putC cs q n) p m)
 |[]=>by
  simp only[Lock.putC,if_neg hne,if_neg (fun e=>hne (Eq.symm e))];exact .swap _ _ _
 |c::cs=>by
  have ih:=put_comm (m:=m) (n:=n) hne cs
  by_cases h1:c.1=p
  · have h2:¬c.1=q:=fun e=>hne (h1.symm.trans e)
    simp[Lock.putC,h1,h2,hne]
  by_cases h2:c.1=q
  · have hne':¬q=p:=fun e=>hne e.symm
    simp[Lock.putC,h1,h2,hne']
  simp only[Lock.putC,if_neg h1,if_neg h2];exact ih.cons _
theorem LEq.refl (l:S3):LEq l l:=⟨rfl,.refl _,.refl _⟩
theorem LEq.symm {l l':S3} (h:LEq l l'):LEq l' l:=⟨h.first.symm,h.es.symm,h.cs.symm⟩
theorem LEq.trans {l l' l'':S3} (h:LEq l l') (k:LEq l' l''):LEq l l'':=⟨h.first.trans k.first,h.es.trans k.es,h.cs.trans k.cs⟩
theorem LEq.loc {l l':S3} (h:LEq l l') (hk:CK l.cs) (p:ByteArray) (n:Int) (f:ByteArray):LocL l l' p n f:=
 ⟨h.first,h.es.filter _,h.es.filter _,by unfold Lock.counter;rw[Zna h.cs hk,h.first]⟩
theorem LEq.run {l l':S3} (h:LEq l l') (hk:CK l.cs) (e:LE):LEq (e.run l) (e.run l'):=by
 cases e with
 |nop=>exact h
 |add e=>exact⟨h.first,h.es.append_right _,Zmo h.cs hk _ _⟩
 |rem p n f=>exact⟨h.first,h.es.filter _,h.cs⟩
 |drop n f=>exact⟨h.first,h.es.filter _,h.cs⟩
end Tab
end
section
namespace Tab
open Path (bl Zad overB Zam)
open Lease (Ses Ans fresh)
open Lock (S3 Ent)
open Cmd (Cm Zao)
def pathK (c:Cm):Prop:=4≤c.kind∧c.kind≤7
theorem ZiL {c:Cm} (h:Zao c=true) (h0:c.kind≠0):Zad (bl c.foot)=true∧((pathK c∧Zad (bl c.path)=true∧Cmd.keyC c=some (c.path,c.num))∨(¬pathK c∧Cmd.keyC c=some (c.foot,c.num))):=by
 have h':=h;unfold Zao at h;unfold Cmd.keyC Cmd.footC;rw[h'];unfold Cmd.hasOf at h ⊢;unfold pathK
 by_cases q1:c.kind=1
 · simp[q1,Cmd.Zbe] at h ⊢;exact h.1.1.1.2
 by_cases q2:c.kind=2
 · simp[q2,Cmd.Zbe] at h ⊢;exact h.1.1.2
 by_cases q3:c.kind=3
 · simp[q3,Cmd.Zbe] at h ⊢;exact h.1.1.2
 by_cases q4:c.kind=4
 · simp[q4,Cmd.Zbe] at h ⊢;exact⟨h.1.1.1.1.2,h.1.1.2⟩
 by_cases q5:c.kind=5
 · simp[q5,Cmd.Zbe] at h ⊢;exact⟨h.1.1.1.1.2,h.1.1.2⟩
 by_cases q6:c.kind=6
 · simp[q6,Cmd.Zbe] at h ⊢;exact⟨h.1.1.1.2,h.1.2⟩
 by_cases q7:c.kind=7
 · simp[q7,Cmd.Zbe] at h ⊢;exact⟨h.1.1.1.1.2,h.1.1.2⟩
 by_cases q8:c.kind=8
 · simp[q8,Cmd.Zbe] at h ⊢;exact h.1.2
 simp[h0,q1,q2,q3,q4,q5,q6,q7,q8] at h
def ZnF (a b:Cm):Bool:=match Cmd.keyC a,Cmd.keyC b with
 |some x,some y=>(x.2==y.2) || overB (bl x.1) (bl y.1)
 |_,_=>false
structure Live (c:Cm):Prop where
 right:Zao c=true
 kind:c.kind≠0
theorem Zdt {c:Cm} (h:¬Live c) (t:TS):ZaA t c=(t,ans0):=by
 unfold ZaA;rw[if_pos]
 by_cases h0:c.kind=0
 · exact .inr h0
 cases hr:Zao c with
 |false=>exact .inl rfl
 |true=>exact absurd ⟨hr,h0⟩ h
def keyF (c:Cm):ByteArray:=if 4≤c.kind∧c.kind≤7 then c.path else c.foot
theorem Live.key {c:Cm} (h:Live c):Cmd.keyC c=some (keyF c,c.num)∧Zad (bl (keyF c))=true:=by
 obtain⟨h1,h2⟩:=ZiL h.right h.kind;unfold keyF
 rcases h2 with⟨q,q1,q2⟩|⟨q,q1⟩
 · rw[if_pos (show 4≤c.kind∧c.kind≤7 from q)];exact⟨q2,q1⟩
 rw[if_neg (show ¬(4≤c.kind∧c.kind≤7) from q)];exact⟨q1,h1⟩
theorem Live.apart {a b:Cm} (ha:Live a) (hb:Live b) (hc:ZnF a b=false):a.num≠b.num∧overB (bl (keyF a)) (bl (keyF b))=false:=by
 unfold ZnF at hc;rw[ha.key.1,hb.key.1] at hc;simp only[Bool.or_eq_false_iff,beq_eq_false_iff_ne] at hc;exact hc
theorem ZkK {c:Cm} (h:pathK c):keyF c=c.path:=if_pos h
structure Loc (c:Cm) (t t':TS):Prop where
 look:lookA t.S c.num c.foot=lookA t'.S c.num c.foot
 cnt:c.kind=1→Lease.cnt t.S c.foot=Lease.cnt t'.S c.foot
 lock:pathK c→LocL t.L t'.L c.path c.num c.foot
theorem LocL.refl (l:S3) (p:ByteArray) (n:Int) (f:ByteArray):LocL l l p n f:=⟨rfl,.refl _,.refl _,rfl⟩
theorem Loc.refl (c:Cm) (t:TS):Loc c t t:=⟨rfl,fun _=>rfl,fun _=>LocL.refl _ _ _ _⟩
def LE.of (c:Cm):LE→Prop
 |.nop=>True
 |.add e=>pathK c∧e.path=c.path∧e.num=c.num∧e.foot=c.foot∧Zam (bl c.foot) (bl c.path)=true
 |.rem p n f=>pathK c∧p=c.path∧n=c.num∧f=c.foot
 |.drop n f=>¬pathK c∧n=c.num∧f=c.foot
def GOk (c:Cm) (g:Option (Ses→Ses)):Prop:=∀g',g=some g'→KeyG g'∧(pathK c→∀s,(g' s).op=s.op)
def runE (t:TS) (c:Cm) (g:Option (Ses→Ses)) (e:LE):TS:=⟨updO g c.num c.foot t.S,e.run t.L⟩
theorem ZgU {g:Option (Ses→Ses)} {n:Int} {f:ByteArray} (hg:∀g',g=some g'→KeyG g') (S:List Ses):lookA (updO g n f S) n f=(g.getD id) (lookA S n f):=by
 cases g with
 |none=>rfl
 |some g=>exact ZiJ (hg g rfl) S
theorem ZlS {c:Cm} {a:Ans} {g:Option (Ses→Ses)} (hg:GOk c g) (s:Ses):∃g2,GOk c g2∧∀(S:List Ses) (L:S3),lookA S c.num c.foot=s→tellT ⟨updO g c.num c.foot S,L⟩ c a=⟨updO g2 c.num c.foot S,L⟩:=by
 by_cases hq:Lease.tellE ((g.getD id) s) c.req=0
 · refine⟨some (fun s=>((g.getD id) s).tell c.req a),?_,fun S L hs=> ?_⟩
   · intro g' e
     cases e
     cases g with
     |none=>exact⟨fun s=>rfl,fun _ s=>rfl⟩
     |some g=>exact⟨fun s=>(hg g rfl).1 s,fun h s=>(hg g rfl).2 h s⟩
   unfold tellT opT;simp only;rw[ZgU (fun g' e=>(hg g' e).1),hs,if_pos hq]
   cases g with
   |none=>rfl
   |some g=>
    show TS.mk (updA _ _ _ (updA g _ _ S)) L=_;rw[ZjT (hg g rfl).1]
    rfl
 refine⟨g,hg,fun S L hs=> ?_⟩
 unfold tellT opT;simp only;rw[ZgU (fun g' e=>(hg g' e).1),hs,if_neg hq]
theorem ZkB (t:TS) (c:Cm) (g:Ses→Ses) (e:Int):opT t c g e=runE t c (if e=0 then some g else none) .nop:=by
 unfold opT
 split<;>rfl
theorem ZiW (t:TS) (c:Cm) (e:Int):endT t c e=runE t c (if e=0 then some Ses.ended else none) (if e=0 then .drop c.num c.foot else .nop):=by
 unfold endT
 split<;>rfl
theorem ZbP (c:Cm):GOk c none:=nofun
theorem ZiQ {c:Cm} {g:Ses→Ses} (e:Int) (h1:KeyG g) (h2:pathK c→∀s,(g s).op=s.op):GOk c (if e=0 then some g else none):=by
 intro g' q
 split at q
 · cases q;exact⟨h1,h2⟩
 cases q
theorem do_eff {t:TS} {k:Nat} {c:Cm} (hi:Lock.Inv t.L k) (hc:Live c) (h8:c.kind≠8):∃(g:Option (Ses→Ses)) (e:LE) (a:Ans),GOk c g∧e.of c∧∀(t':TS) (k':Nat),Lock.Inv t'.L k'→Loc c t t'→doT t' c=(runE t' c g e,a):=by
 unfold doT
 by_cases q1:c.kind=1
 · refine⟨if Lease.openE (lookA t.S c.num c.foot) (Lease.cnt t.S c.foot)=0 then some (fun s=>s.opened c.n c.time) else none,.nop,ansE (Lease.openE (lookA t.S c.num c.foot) (Lease.cnt t.S c.foot)),ZiQ (Lease.openE (lookA t.S c.num c.foot) (Lease.cnt t.S c.foot)) (g:=fun s=>s.opened c.n c.time) (fun s=>rfl) (fun h=>by unfold pathK at h;omega),trivial,fun t' k' _ hl=> ?_⟩
   rw[if_pos q1,←hl.look,←hl.cnt q1,ZkB]
 by_cases q2:c.kind=2
 · refine⟨if(if(lookA t.S c.num c.foot).op then(0:Int) else 50)=0 then some Ses.ended else none,(if(if(lookA t.S c.num c.foot).op then(0:Int) else 50)=0 then .drop c.num c.foot else .nop),ansE (if(lookA t.S c.num c.foot).op then 0 else 50),ZiQ (if(lookA t.S c.num c.foot).op then 0 else 50) (g:=Ses.ended) (fun s=>rfl) (fun h=>by unfold pathK at h;omega),?_,fun t' k' _ hl=> ?_⟩
   · split
     · exact⟨by unfold pathK;omega,rfl,rfl⟩
     trivial
   rw[if_neg q1,if_pos q2,←hl.look,ZiW]
 by_cases q3:c.kind=3
 · refine⟨if(if(lookA t.S c.num c.foot).op then(0:Int) else 50)=0 then some (fun s=>s.kept c.time) else none,.nop,ansE (if(lookA t.S c.num c.foot).op then 0 else 50),ZiQ (if(lookA t.S c.num c.foot).op then 0 else 50) (g:=fun s=>s.kept c.time) (fun s=>rfl) (fun h=>by unfold pathK at h;omega),trivial,fun t' k' _ hl=> ?_⟩
   rw[if_neg q1,if_neg q2,if_pos q3,←hl.look,ZkB]
 have hk:pathK c:=by
  obtain⟨_,h2⟩:=ZiL hc.right hc.kind
  rcases h2 with⟨q,_⟩|⟨q,_⟩
  · exact q
  exfalso
  have:=hc.right;unfold Zao Cmd.hasOf at this;unfold pathK at q;have h0:=hc.kind;rw[if_neg h0,if_neg q1,if_neg q2,if_neg q3,if_neg (by omega),if_neg (by omega),if_neg (by omega),if_neg (by omega),if_neg h8] at this;cases this
 have hp:Zad (bl c.path)=true:=by
  have:=hc.key.2
  rwa [ZkK hk] at this
 have hmay:∀{t':TS},Loc c t t'→mayT t' c=mayT t c:=fun hl=>by unfold mayT;rw[hl.look]
 by_cases hm:mayT t c=0
 case neg=>
  refine⟨none,.nop,ansE (mayT t c),ZbP c,trivial,fun t' k' _ hl=> ?_⟩;rw[if_neg q1,if_neg q2,if_neg q3];unfold Za3;rw[hmay hl,if_pos hm]
  rfl
 have hab:Zam (bl c.foot) (bl c.path)=true:=by
  unfold mayT at hm
  split at hm
  · omega
  split at hm
  · omega
  rename_i h
  simpa using h
 have hadd:∃(e:LE) (a:Ans),e.of c∧∀(t':TS),Loc c t t'→addT t' c=(runE t' c none e,a):=by
  by_cases hy:t.L.may c.path c.num c.foot c.mode=0
  · refine⟨.add (t.L.newE c.path c.num c.foot c.mode),⟨0,(t.L.newE c.path c.num c.foot c.mode).n,Lock.ZaH t.L.es c.path c.mode⟩,⟨hk,rfl,rfl,rfl,hab⟩,fun t' hl=> ?_⟩
    have h1:=hl.lock hk;unfold addT S3.add;rw[←h1.may,if_pos hy,if_pos hy,←h1.newE,←h1.could];unfold S3.added runE LE.run;rw[←h1.newE,←h1.ctr]
    rfl
  refine⟨.nop,ansE (t.L.may c.path c.num c.foot c.mode),trivial,fun t' hl=> ?_⟩
  have h1:=hl.lock hk;unfold addT S3.add;rw[←h1.may,if_neg hy,if_neg hy]
  rfl
 obtain⟨ea,aa,hea,hadd⟩:=hadd
 by_cases q4:c.kind=4
 · refine⟨none,ea,aa,ZbP c,hea,fun t' k' _ hl=> ?_⟩
   rw[if_neg q1,if_neg q2,if_neg q3];unfold Za3;rw[hmay hl,hm,if_neg (by simp),if_pos q4,hadd t' hl]
 by_cases q5:c.kind=5
 · by_cases hcd:Lock.ZaH t.L.es c.path c.mode=true
   · refine⟨none,ea,aa,ZbP c,hea,fun t' k' _ hl=> ?_⟩
     rw[if_neg q1,if_neg q2,if_neg q3];unfold Za3 tryT;rw[hmay hl,hm,if_neg (by simp),if_neg q4,if_pos q5,←(hl.lock hk).could,if_pos hcd,hadd t' hl]
   refine⟨none,.nop,if t.L.may c.path c.num c.foot c.mode=0 then ansE 51 else ansE (t.L.may c.path c.num c.foot c.mode),ZbP c,trivial,fun t' k' _ hl=> ?_⟩
   rw[if_neg q1,if_neg q2,if_neg q3];unfold Za3 tryT;rw[hmay hl,hm,if_neg (by simp),if_neg q4,if_pos q5,←(hl.lock hk).could,if_neg hcd,←(hl.lock hk).may];show _=(t',if t.L.may c.path c.num c.foot c.mode=0 then ansE 51 else ansE (t.L.may c.path c.num c.foot c.mode))
   split<;>rfl
 by_cases q6:c.kind=6
 · refine⟨none,.rem c.path c.num c.foot,ansE (if(Lock.find t.L.es c.path c.num c.foot).isSome then 0 else 52),ZbP c,⟨hk,rfl,rfl,rfl⟩,fun t' k' _ hl=> ?_⟩
   rw[if_neg q1,if_neg q2,if_neg q3];unfold Za3;rw[hmay hl,hm,if_neg (by simp),if_neg q4,if_neg q5,if_pos q6,←(hl.lock hk).find]
   rfl
 refine⟨none,.nop,ansE (if Lock.Zbc t.L.es c.path c.n then 0 else 52),ZbP c,trivial,fun t' k' hi' hl=> ?_⟩
 rw[if_neg q1,if_neg q2,if_neg q3];unfold Za3;rw[hmay hl,hm,if_neg (by simp),if_neg q4,if_neg q5,if_neg q6,←(hl.lock hk).check hp hi hi']
 rfl
theorem eff {t:TS} {k:Nat} {c:Cm} (hi:Lock.Inv t.L k) (hc:Live c):∃(g:Option (Ses→Ses)) (e:LE) (a:Ans),GOk c g∧e.of c∧∀(t':TS) (k':Nat),Lock.Inv t'.L k'→Loc c t t'→ZaA t' c=(runE t' c g e,a):=by
 have h1:¬(Zao c=false∨c.kind=0):=by
  rw[hc.right]
  exact fun h=>h.elim (fun q=>by cases q) hc.kind
 unfold ZaA
 by_cases q8:c.kind=8
 · refine⟨if Lease.expB (lookA t.S c.num c.foot) c.time=0 then some Ses.ended else none,(if Lease.expB (lookA t.S c.num c.foot) c.time=0 then .drop c.num c.foot else .nop),ansE (Lease.expB (lookA t.S c.num c.foot) c.time),ZiQ (Lease.expB (lookA t.S c.num c.foot) c.time) (g:=Ses.ended) (fun s=>rfl) (fun h=>by unfold pathK at h;omega),?_,fun t' k' _ hl=> ?_⟩
   · split
     · exact⟨by unfold pathK;omega,rfl,rfl⟩
     trivial
   rw[if_neg h1,if_pos q8,←hl.look,ZiW]
 cases hs:Lease.said (lookA t.S c.num c.foot).told c.req with
 |some a=>
  refine⟨none,.nop,a,ZbP c,trivial,fun t' k' _ hl=> ?_⟩;rw[if_neg h1,if_neg q8,←hl.look,hs]
  rfl
 |none=>
  by_cases hf:256≤(lookA t.S c.num c.foot).told.length
  · refine⟨none,.nop,ansE 14,ZbP c,trivial,fun t' k' _ hl=> ?_⟩
    rw[if_neg h1,if_neg q8,←hl.look,hs];simp only;rw[if_pos hf]
    rfl
  obtain⟨g,e,a,hg,he,hd⟩:=do_eff hi hc q8
  obtain⟨g2,hg2,ht⟩:=ZlS (a:=a) hg (lookA t.S c.num c.foot);refine⟨g2,e,a,hg2,he,fun t' k' hi' hl=> ?_⟩;rw[if_neg h1,if_neg q8,←hl.look,hs];simp only;rw[if_neg hf,hd t' k' hi' hl];show(tellT ⟨updO g c.num c.foot t'.S,e.run t'.L⟩ c a,a)=_;rw[ht t'.S _ hl.look.symm]
  rfl
def Ab (t:TS):Prop:=∀e ∈ t.L.es,Zam (bl e.foot) (bl e.path)=true
structure TEq (t t':TS):Prop where
 S:t.S.Perm t'.S
 L:LEq t.L t'.L
theorem TEq.refl (t:TS):TEq t t:=⟨.refl _,LEq.refl _⟩
theorem TEq.symm {t t':TS} (h:TEq t t'):TEq t' t:=⟨h.S.symm,h.L.symm⟩
theorem TEq.trans {t t' t'':TS} (h:TEq t t') (k:TEq t' t''):TEq t t'':=⟨h.S.trans k.S,h.L.trans k.L⟩
structure Good (t:TS) (k:Nat):Prop where
 inv:TInv t k
 ab:Ab t
theorem Good.apply {t:TS} {k:Nat} {c:Cm} (h:Good t k) (hc:CmOk c):Good (ZaA t c).1 (k + 1):=by
 refine⟨Zhm h.inv hc,?_⟩
 by_cases hl:Live c
 · obtain⟨g,e,a,_,he,hr⟩:=eff h.inv.lock hl
   rw[hr t k h.inv.lock (Loc.refl c t)];intro x hx
   cases e with
   |nop=>exact h.ab x hx
   |add e=>
    obtain⟨k1,k2,k3,k4,k5⟩:=he
    rcases List.mem_append.1 hx with hx|hx
    · exact h.ab x hx
    rw[List.mem_singleton.1 hx,k2,k4];exact k5
   |rem p n f=>exact h.ab x (List.mem_filter.1 hx).1
   |drop n f=>exact h.ab x (List.mem_filter.1 hx).1
 rw[Zdt hl];exact h.ab
theorem TEq.apply {t t':TS} {k k':Nat} {c:Cm} (h:TEq t t') (hg:Good t k) (hg':Good t' k'):(ZaA t c).2=(ZaA t' c).2∧TEq (ZaA t c).1 (ZaA t' c).1:=by
 by_cases hl:Live c
 · obtain⟨g,e,a,h1,he,hr⟩:=eff hg.inv.lock hl
   have hloc:Loc c t t':=⟨ZgV h.S hg.inv.s.keys _ _,fun _=>cnt_perm h.S _,fun _=>h.L.loc hg.inv.lock.ckeys _ _ _⟩
   rw[hr t k hg.inv.lock (Loc.refl c t),hr t' k' hg'.inv.lock hloc];refine⟨rfl,?_,h.L.run hg.inv.lock.ckeys e⟩
   cases g with
   |none=>exact h.S
   |some g=>exact ZlO h.S hg.inv.s.keys g _ _
 rw[Zdt hl,Zdt hl];exact⟨rfl,h⟩
theorem Good.play {l:List Cm} (hl:∀c ∈ l,CmOk c):∀{t:TS} {k:Nat},Good t k→Good (playT t l) (k + l.length):=by
 induction l with
 |nil=>exact fun h=>h
 |cons c l ih=>
  intro t k h;have h1:=ih (fun x hx=>hl x (by simp[hx])) (h.apply (hl c (by simp)))
  have e:k + 1 + l.length=k + (c::l).length:=by simp only[List.length_cons];omega
  rw[←e];exact h1
theorem ZmS {first:Int} (h0:0≤first) (h1:first < Lease.big64):Good ⟨[],⟨first,[],[]⟩⟩ 0:=⟨ZhT h0 h1,nofun⟩
theorem TEq.play {l:List Cm} (hl:∀c ∈ l,CmOk c):∀{t t':TS} {k k':Nat},TEq t t'→Good t k→Good t' k'→toldT t l=toldT t' l∧TEq (playT t l) (playT t' l):=by
 induction l with
 |nil=>exact fun h _ _=>⟨rfl,h⟩
 |cons c l ih=>
  intro t t' k k' h hg hg';obtain⟨h1,h2⟩:=h.apply (c:=c) hg hg';obtain⟨h3,h4⟩:=ih (fun x hx=>hl x (by simp[hx])) h2 (hg.apply (hl c (by simp))) (hg'.apply (hl c (by simp)));exact⟨by unfold toldT;rw[h1,h3],h4⟩
end Tab
end
section
namespace Tab
open Path (bl Zad overB Zam)
open Lease (Ses Ans fresh AR SR Rel RelS RelT)
open Lock (S3 Ent)
open Cmd (Cm Zao)
structure AnsOk (a:Ans):Prop where
 e: -9223372036854775808≤a.e∧a.e≤9223372036854775807
 n:0≤a.n∧a.n < Lease.big64
structure SesOk (s:Ses):Prop where
 nd:(s.told.map (·.1)).Nodup
 len:s.told.length≤256
 told:∀x ∈ s.told,(0≤x.1∧x.1 < Lease.big64)∧AnsOk x.2
 ttl:0≤s.ttl∧s.ttl≤2199023255552
 dl:0≤s.dl∧s.dl≤2199023255552
theorem Zlb (t:Int):0≤Lease.cutI t∧Lease.cutI t≤2199023255552:=by
 unfold Lease.cutI
 split
 · omega
 split<;>omega
theorem ZmT (n:Int) (f:ByteArray) (b t:Nat):SesOk (fresh n f b t):=⟨by simp[fresh],by simp[fresh],by simp[fresh],by simp[fresh],by simp[fresh]⟩
theorem Zkx {s:Ses} (h:SesOk s) (ttl time:Int):SesOk (s.opened ttl time):=⟨h.nd,h.len,h.told,Zlb _,by unfold Lease.Ses.opened Lease.endI;exact Zlb _⟩
theorem Zm4 {s:Ses} (h:SesOk s):SesOk s.ended:=⟨h.nd,h.len,h.told,by simp[Lease.Ses.ended],by simp[Lease.Ses.ended]⟩
theorem Zof {s:Ses} (h:SesOk s) (time:Int):SesOk (s.kept time):=⟨h.nd,h.len,h.told,h.ttl,by
 unfold Lease.Ses.kept Lease.endI;simp only
 split
 · exact Zlb _
 exact h.dl⟩
theorem said_none {l:List (Int × Ans)} {r:Int} (h:Lease.said l r=none):r ∉ l.map (·.1):=by
 intro hm;obtain⟨x,hx,rfl⟩:=List.mem_map.1 hm;unfold Lease.said at h;simp only[Option.map_eq_none_iff] at h;exact List.find?_eq_none.1 h x hx (by simp)
theorem ZnN {s:Ses} (h:SesOk s) {r:Int} {a:Ans} (ht:Lease.tellE s r=0) (hr:0≤r∧r < Lease.big64) (ha:AnsOk a):SesOk (s.tell r a):=by
 unfold Lease.tellE at ht
 cases hs:Lease.said s.told r with
 |some x=>rw[hs] at ht;simp at ht
 |none=>
  rw[hs] at ht
  have hl:s.told.length < 256:=by
   rcases Nat.lt_or_ge s.told.length 256 with q|q
   · exact q
   simp[q] at ht
  refine⟨?_,?_,fun x hx=> ?_,h.ttl,h.dl⟩
  · show((s.told++[(r,a)]).map (·.1)).Nodup
    rw[List.map_append,List.map_cons,List.map_nil];refine List.nodup_append.2 ⟨h.nd,by simp,fun x hx y hy e=> ?_⟩;rw[List.mem_singleton.1 hy] at e;subst e;exact said_none hs hx
  · show(s.told++[(r,a)]).length≤256
    simp;omega
  rcases List.mem_append.1 (show x ∈ s.told++[(r,a)] from hx) with hx|hx
  · exact h.told x hx
  rw[List.mem_singleton.1 hx];exact⟨hr,ha⟩
def SAll (S:List Ses):Prop:=∀s ∈ S,SesOk s
theorem Zf8 {S:List Ses} (h:SAll S) (n:Int) (f:ByteArray):SesOk (lookA S n f):=by
 unfold lookA
 cases hf:Lease.find S n f with
 |none=>exact ZmT _ _ _ _
 |some s=>unfold Lease.find at hf;exact h s (List.mem_of_find?_eq_some hf)
theorem ZkC {g:Ses→Ses} {n:Int} {f:ByteArray}:∀{S:List Ses} {x:Ses},x ∈ updA g n f S→x=g (lookA S n f)∨x ∈ S
 |[],x,h=>.inl (by simpa [updA,lookA,Lease.find] using h)
 |s::S,x,h=>by
  unfold updA at h
  cases hq:s.is n f with
  |true=>
   rw[hq,if_pos rfl] at h
   rcases List.mem_cons.1 h with h|h
   · exact .inl (by simpa [lookA,Lease.find,hq] using h)
   exact .inr (by simp[h])
  |false=>
   rw[hq,if_neg (by decide)] at h
   rcases List.mem_cons.1 h with rfl|h
   · exact .inr (by simp)
   rcases ZkC h with q|q
   · left
     rw[q];simp[lookA,Lease.find,hq]
   exact .inr (by simp[q])
theorem SAll.upd {S:List Ses} (h:SAll S) {g:Ses→Ses} {n:Int} {f:ByteArray} (hg:SesOk (g (lookA S n f))):SAll (updA g n f S):=fun x hx=>by
 rcases ZkC hx with rfl|q
 · exact hg
 exact h x q
theorem SAll.opT {t:TS} {c:Cm} {g:Ses→Ses} {e:Int} (h:SAll t.S) (hg:e=0→SesOk (g (lookA t.S c.num c.foot))):SAll (Tab.opT t c g e).S:=by
 unfold Tab.opT
 split
 · rename_i q
   exact h.upd (hg q)
 exact h
theorem SAll.endT {t:TS} {c:Cm} {e:Int} (h:SAll t.S):SAll (Tab.endT t c e).S:=by
 unfold Tab.endT
 split
 · exact h.upd (Zm4 (Zf8 h _ _))
 exact h
theorem Zcc {e:Int} (h:0≤e∧e≤1000):AnsOk (ansE e):=⟨by unfold ansE;simp only;omega,by unfold ansE Lease.big64;simp only;omega⟩
theorem ZgQ (s:S3) (p:ByteArray) (n:Int) (f:ByteArray) (mode:Int):0≤s.may p n f mode∧s.may p n f mode≤1000:=by
 unfold S3.may
 repeat' split
 all_goals omega
theorem Zjt (t:TS) (c:Cm):0≤mayT t c∧mayT t c≤1000:=by
 unfold mayT
 repeat' split
 all_goals omega
theorem ZhQ (s:Ses) (k:Nat):0≤Lease.openE s k∧Lease.openE s k≤1000:=by
 unfold Lease.openE
 repeat' split
 all_goals omega
theorem Zlw {t:TS} {k:Nat} (hi:Lock.Inv t.L k) (c:Cm):AnsOk (addT t c).2:=by
 unfold addT;simp only
 split
 · rename_i hm
   have h1:=(Lock.Zet hm).2.2.2;have h2:=Lock.ZcC hi c.path;have h3:=hi.first0;unfold S3.newE;refine⟨by simp,?_⟩;simp only;unfold Lock.lastN at h1;unfold Lease.big64
   omega
 exact Zcc (ZgQ _ _ _ _ _)
theorem Zk9 {t:TS} {k:Nat} (hi:Lock.Inv t.L k) (hs:SAll t.S) (c:Cm):AnsOk (doT t c).2∧SAll (doT t c).1.S:=by
 unfold doT
 split
 · exact⟨Zcc (ZhQ _ _),hs.opT fun _=>Zkx (Zf8 hs _ _) _ _⟩
 split
 · exact⟨Zcc (by split<;>omega),hs.endT⟩
 split
 · exact⟨Zcc (by split<;>omega),hs.opT fun _=>Zof (Zf8 hs _ _) _⟩
 unfold Za3
 split
 · exact⟨Zcc (Zjt _ _),hs⟩
 split
 · exact⟨Zlw hi c,hs⟩
 split
 · unfold tryT
   split
   · exact⟨Zlw hi c,hs⟩
   split
   · exact⟨Zcc (by omega),hs⟩
   exact⟨Zcc (ZgQ _ _ _ _ _),hs⟩
 split
 · exact⟨Zcc (by split<;>omega),hs⟩
 exact⟨Zcc (by split<;>omega),hs⟩
theorem Zlt {t:TS} {k:Nat} (hi:Lock.Inv t.L k) (hs:SAll t.S) (c:Cm) (hq:0≤c.req∧c.req < Lease.big64):SAll (ZaA t c).1.S:=by
 unfold ZaA
 split
 · exact hs
 split
 · exact hs.endT
 split
 · exact hs
 split
 · exact hs
 obtain⟨h1,h2⟩:=Zk9 hi hs c
 unfold tellT
 exact h2.opT fun e=>ZnN (Zf8 h2 _ _) e hq h1
theorem Zmq {l:List Cm} (hl:∀c ∈ l,CmOk c∧0≤c.req∧c.req < Lease.big64):∀{t:TS} {k:Nat},Good t k→SAll t.S→SAll (playT t l).S:=by
 induction l with
 |nil=>exact fun _ h=>h
 |cons c l ih=>
  intro t k hg hs;have hc:=hl c (by simp);exact ih (fun x hx=>hl x (by simp[hx])) (hg.apply hc.1) (Zlt hg.inv.lock hs c hc.2)
theorem ZlY {α:Type} {P:List α→Prop} (h0:P []) (h1:∀l x,P l→P (l++[x])):∀l,P l:=fun l=>by
 rw[←List.reverse_reverse l]
 induction l.reverse with
 |nil=>exact h0
 |cons x r ih=>rw[List.reverse_cons];exact h1 _ _ ih
theorem Rel.perm {S S':List Ses} {L:List SR} (h:Rel S L) (hp:S.Perm S'):Rel S' L:=⟨(hp.map Lease.keyE).symm.trans h.keys,h.srt,fun s hs a ha e=>h.each s (hp.mem_iff.2 hs) a ha e⟩
theorem Rel.zs {ss:List Ses} {L:List SR} (h:Rel (ss.map zs) L):Rel ss L:=by
 refine⟨?_,h.srt,fun s hs a ha e=> ?_⟩
 · have:=h.keys
   rw[List.map_map] at this;exact this
 have:=h.each (Tab.zs s) (List.mem_map.2 ⟨s,hs,rfl⟩) a ha e
 exact⟨this.num,this.foot,this.op,this.dead,this.dl,this.ttl,this.told,this.tb,this.db⟩
theorem Rel.bounds {S:List Ses} {L:List SR} {m:Nat} (h:Rel S L) (hi:SInv S m):(∀a ∈ L,0≤a.num∧a.num < Lease.big64∧a.foot.size≤2000000)∧L.length≤m:=by
 refine⟨fun a ha=> ?_,by rw[←h.len];exact hi.len⟩;obtain⟨s,hs,hk⟩:=List.mem_map.1 (h.keys.mem_iff.2 (List.mem_map.2 ⟨a,ha,rfl⟩));have e:=h.each s hs a ha hk;have h1:=hi.num s hs;have h2:=hi.foot s hs;rw[e.num] at h1;rw[e.foot] at h2;exact⟨h1.1,h1.2,by omega⟩
end Tab
end
section
namespace Lease
open Go.RowKit
open _root_.Go.Proofs.YtkdjkngfnapjcaaGreatDoor.SortU (rowI sortI sortI_perm)
theorem Rel.mine {ss:List Ses} {L:List SR} (h:Rel ss L) {x:SR} (hx:x ∈ L):RelS (Lease.look ss x.num x.foot) x:=by
 rcases h.both x.num x.foot with⟨_,h2,_⟩|⟨s,a,h1,_⟩
 · have:=h2 x hx
   simp[SR.is] at this
 obtain⟨l1,l2,e,en,ef,_⟩:=find_split h1
 have e2:Lease.look ss x.num x.foot=s:=by unfold Lease.look;rw[h1];rfl
 rw[e2];exact h.each s (by rw[e];simp) x hx (by simp[keyE,keyR,en,ef])
theorem Zg1 {w:World} {p m:Nat} {ss:List Ses} (h:Sep [BookP p m ss] w) {n:Int} {f:ByteArray} (h0:0≤n) (h1:n < big64) (hf:f.size≤maxLen) {s:SR} (hrs:RelS (look ss n f) s):
 Calls Tryz.prog 49 #[.pointer (some ⟨p,0,none⟩),.agg #[.int .u64 n,.string f]] w fun e w'=>e=.returned (.agg #[.bool s.op,.bool s.dead,.int .i64 s.dl,.int .i64 s.ttl,.int .i64 s.told.length])∧At [BookP p m ss] w [BookP p m ss] w':=by
 cases hn:find ss n f with
 |none=>
  have hlk:look ss n f=fresh n f 0 0:=by unfold look;rw[hn];rfl
  rw[hlk] at hrs;have e:=Zg0 h h0 h1 hf hn;simp only[ZdI] at e;rw[←hrs.op,←hrs.dead,←hrs.dl,←hrs.ttl,←hrs.told.size];exact e
 |some t=>
  have hlk:look ss n f=t:=by unfold look;rw[hn];rfl
  rw[hlk] at hrs;have e:=ZgZ h h0 h1 hf hn;simp only[ZdI] at e;rw[←hrs.op,←hrs.dead,←hrs.dl,←hrs.ttl,←hrs.told.size];exact e
theorem RelT.reqs {told:List (Int × Ans)} {l:List AR} (h:RelT told l):sortI (told.map (·.1))=l.map (·.r):=by
 have h1:(told.map (·.1)).Perm (l.map (·.r)):=by
  have:=h.perm.map (·.1);rw[List.map_map] at this;exact this
 rw[sortI_perm h1];unfold sortI;refine List.mergeSort_of_pairwise ?_;rw[List.pairwise_map]
 exact h.srt.imp fun h=>by simp;omega
theorem ZfT {w:World} {p m:Nat} {ss:List Ses} (h:Sep [BookP p m ss] w) {n:Int} {f:ByteArray} (h0:0≤n) (h1:n < big64) (hf:f.size≤maxLen) {s:SR} (hrs:RelS (look ss n f) s):
 Calls Tryz.prog 182 #[.pointer (some ⟨p,0,none⟩),.agg #[.int .u64 n,.string f]] w fun e w'=>∃v,e=.returned v∧At [BookP p m ss] w [rowI v (s.told.map (·.r)),BookP p m ss] w':=by
 have hl:=hrs.told.size;have hb:=hrs.told.len;have e:=ZgK h h0 h1 hf (by omega);unfold Zlz at e;rw[show Lease.reqs (look ss n f)=(look ss n f).told.map (·.1) from rfl,hrs.told.reqs] at e;exact e
theorem ZjY {w:World} {p m:Nat} {ss:List Ses} (h:Sep [BookP p m ss] w) {n:Int} {f:ByteArray} (h0:0≤n) (h1:n < big64) (hf:f.size≤maxLen) {s:SR} (hrs:RelS (look ss n f) s) {x:AR} (hx:x ∈ s.told):
 Calls Tryz.prog 115 #[.pointer (some ⟨p,0,none⟩),.agg #[.int .u64 n,.string f],.int .u64 x.r] w fun e w'=>e=.returned (.tuple #[.agg #[.int .i64 x.e,.int .u64 x.n,.bool x.g],.bool true])∧At [BookP p m ss] w [BookP p m ss] w':=by
 have e:=told_any h (n:=n) (f:=f) h0 h1 hf (hrs.told.bd x hx).1 (hrs.told.bd x hx).2;rw[hrs.told.said,show saidA s.told x.r=some x from ?_] at e
 · exact e
 unfold saidA
 cases hq:s.told.find? (fun y=>y.r==x.r) with
 |none=>exact absurd (List.find?_eq_none.1 hq x hx) (by simp)
 |some y=>
  have h2:=List.find?_some hq;rw[hrs.told.uniq (List.mem_of_find?_eq_some hq) hx (by simpa using h2)]
end Lease
end
section
namespace Wire
open Go.RowKit
def encY (x:Int):List Value:=[.int .u8 x]
theorem ZdZ (x:Int):(encY x).length=1:=rfl
theorem Zb9 (x:Int):∀v ∈ encY x,v.oneCell'=true:=by intro u hu;simp only[encY,List.mem_cons,List.not_mem_nil,or_false] at hu;subst hu;rfl
abbrev flatY (l:List Int):List Value:=l.flatMap encY
abbrev rowY (v:Value) (l:List Int):Part:=.row 5 1 v l.length (flatY l)
theorem Zeq (v:Value) (l:List Int) (x:Int):Part.row 5 1 v (l.length + 1) (flatY l++encY x)=rowY v (l++[x]):=Zep (enc:=encY) _ v l x
theorem Zc0 (v:Value) (l r:List Int):Part.row 5 1 v (l.length + r.length) (flatY l++flatY r)=rowY v (l++r):=Zl3 (enc:=encY) _ v l r
theorem ZfQ {L0 L:List Part} {w0 w:World} (h:At L0 w0 L w):At L0 w0 (rowY (.slice none 0 0) []::L) w:=h.row_nil 5 1
theorem infoY:(Tryz.prog.info? 5).map (fun i=>(i.zero,i.size,i.bytes))=some (some (.int .u8 0),1,1):=by kernel_rfl
def Zan:Nat→List Int
 |v=>if h:v < 128 then[(v:Int)] else((v % 128 + 128:Nat):Int)::Zan (v / 128)
termination_by v=>v
decreasing_by omega
theorem ZfN {v:Nat} (h:v < 128):Zan v=[(v:Int)]:=by rw[Zan,dif_pos h]
theorem Zix {v:Nat} (h:128≤v):Zan v=((v % 128 + 128:Nat):Int)::Zan (v / 128):=by rw[Zan,dif_neg (by omega)]
theorem Zaq:∀(k v:Nat),v < 128 ^ (k + 1)→(Zan v).length≤k + 1
 |0,v,h=>by rw[ZfN (by simpa using h)];simp
 |k + 1,v,h=>by
  by_cases q:v < 128
  · rw[ZfN q];simp
  rw[Zix (by omega),List.length_cons]
  have:=Zaq k (v / 128) (by rw[Nat.pow_succ] at h;exact Nat.div_lt_of_lt_mul (by rw[Nat.mul_comm];exact h))
  omega
theorem or_fin:∀n:Fin 256,bits .or .u8 (n.val:Int) 128=((n.val % 128 + 128:Nat):Int):=by decide +kernel
theorem Zn5 (x:Nat):bits .or .u8 ((x:Int) % 256) 128=((x % 128 + 128:Nat):Int):=by
 have:=or_fin ⟨x % 256,Nat.mod_lt _ (by omega)⟩;simp only at this;rw[show((x:Int) % 256)=((x % 256:Nat):Int) from by omega,this]
 omega
def ShRel (w:World) (v:Nat) (k:Nat) (u0 u3:Value) (wr:World):Prop:=
 ∃(x:Nat) (pre:List Int),u0=.int .u64 x∧x < 128 ^ k∧pre.length + k=10∧Zan v=pre++Zan x∧At [] w [rowY u3 pre] wr
theorem ZgD (v:Nat) (w:World) (hv:v < 18446744073709551616):Calls Tryz.prog 202 #[.int .u64 v] w fun e w'=>∃u,e=.returned u∧At [] w [rowY u (Zan v)] w':=by
 obtain⟨i0,hi0,hz0,hz1,hz2⟩:=info_parts infoY;have hA:At [] w [] w:=At.start (L0:=[]) trivial;replace hA:=ZfQ hA;obtain⟨hA,hF⟩:=fZ hA
 go_enter Tryz.func202,Tryz.ntmps202
 go_wp2_with fail
 try go_frame
 go_loopg [0,3] 10 (ShRel w v)
 case atStart=>exact⟨v,[],rfl,by omega,by simp,by simp,hA⟩
 case round=>
  obtain⟨x,pre,rfl,hx,hk,hs,hB⟩:=hrel;clear hF hA;have hA:=hB;clear hB;obtain⟨ax,n,cap,hpv,hpn⟩:=hA.row_hid (v:=u3) (n:=pre.length) (xs:=flatY pre) sR;subst hpv;have hpn2:=hpn.out;subst hpn2;clear hpn;obtain⟨hA,hF⟩:=fZ hA
  have hone:∀(y:Int) w,(Instr.buildSlice 62 1 #[(0,.int .u8 y)]).run Tryz.prog w=.ok (.slice (some ⟨w.heap.size,0,none⟩) 1 1) (w.alloc (.cells (encY y).toArray 5)):=fun y w=>by kernel_rfl
  have hpl:pre.length≤10:=by omega
  by_cases hq:x < 128
  · have hq':(x:Int) < 128:=by omega
    have hm:(x:Int) % 256=x:=by omega
    have hs':=Hd (hs.trans (by rw[ZfN hq]));clear hs
    go_wp2_with (first
     |((with_reducible show wpList _ _ _ ({dst:=_,op:=Op.buildSlice _ _ _,type:=_,pos:=_,after:=_,guard:=_}::_) _ _);refine Zat (e:=5) (vs:=encY x) rfl rfl (by(try simp only[Act.eval,eV])<;>exact rfl) (hone x) hA ?_;intro b2 w5 hB hb2;clear hF hA;have hA:=hB;clear hB;obtain⟨hA,hF⟩:=fZ hA)
     |((with_reducible show wpList _ _ _ ({dst:=_,op:=Op.call {callee:=Callee.builtin Builtin.append,args:=_,argTypes:=_},type:=_,pos:=_,after:=_,guard:=_}::_) _ _);refine Zae (e:=5) (size:=1) (v:=.slice ax pre.length cap) (xs:=flatY pre) (n:=pre.length) (m:=1) (news:=encY x) rfl _ _ 62 rfl Tryz.underlying62 hi0 hz0 hz1 hz2 rfl (by omega) hA sR (by(try simp only[Act.eval,eV])<;>exact rfl) (by(try simp only[Act.eval,eV])<;>exact rfl) rfl (hA.cells_reads sR _ _) (Zb9 _) (by unfold maxLen;omega) (by omega) ?_;intro v2 w7 hB;rw[Zeq] at hB;clear hF hA;have hA:=hB;clear hB;obtain⟨hA,hF⟩:=fZ hA))
    go_ret;exact⟨v2,rfl,by rw[hs'.out];exact hA.pick pZ⟩
  have hq':¬(x:Int) < 128:=by omega
  have hg0:0 < gk:=by
   rcases Nat.eq_zero_or_pos gk with q|q
   · subst q;simp at hx;omega
   exact q
  have hx':=Hd hx;clear hx;have hor:=Zn5 x;have hs':=Hd (hs.trans (by rw[Zix (by omega)]));clear hs
  obtain⟨y,hy⟩:∃y:Int,((x % 128 + 128:Nat):Int)=y:=⟨_,rfl⟩
  rw[hy] at hor hs'
  go_wp2_with (first
   |((with_reducible show wpList _ _ _ ({dst:=_,op:=Op.buildSlice _ _ _,type:=_,pos:=_,after:=_,guard:=_}::_) _ _);refine Zat (e:=5) (vs:=encY y) rfl rfl (by(try simp only[Act.eval,eV])<;>exact rfl) (hone y) hA ?_;intro b2 w5 hB hb2;clear hF hA;have hA:=hB;clear hB;obtain⟨hA,hF⟩:=fZ hA)
   |((with_reducible show wpList _ _ _ ({dst:=_,op:=Op.call {callee:=Callee.builtin Builtin.append,args:=_,argTypes:=_},type:=_,pos:=_,after:=_,guard:=_}::_) _ _);refine Zae (e:=5) (size:=1) (v:=.slice ax pre.length cap) (xs:=flatY pre) (n:=pre.length) (m:=1) (news:=encY y) rfl _ _ 62 rfl Tryz.underlying62 hi0 hz0 hz1 hz2 rfl (by omega) hA sR (by(try simp only[Act.eval,eV])<;>exact rfl) (by(try simp only[Act.eval,eV])<;>exact rfl) rfl (hA.cells_reads sR _ _) (Zb9 _) (by unfold maxLen;omega) (by omega) ?_;intro v2 w7 hB;rw[Zeq] at hB;clear hF hA;have hA:=hB;clear hB;obtain⟨hA,hF⟩:=fZ hA))
  go_roundg (gk - 1)
  case measure=>omega
  case rel=>
   refine⟨x / 128,pre++[y],by simp,?_,by simp;omega,by rw[hs'.out];simp,hA.pick pZ⟩;have hx:=hx'.out
   have hg1:gk=(gk - 1) + 1:=by omega
   rw[hg1,Nat.pow_succ,Nat.mul_comm] at hx;exact Nat.div_lt_of_lt_mul hx
def byteN (v k:Nat):Int:=((v / 2 ^ k % 256:Nat):Int)
def fixL (v:Nat):List Int:=[byteN v 56,byteN v 48,byteN v 40,byteN v 32,byteN v 24,byteN v 16,byteN v 8,byteN v 0]
theorem wpList_make_at {P:Program} {ops:Array Oper} {rest:List Oper} {o:Oper} {a:Act} {Q:Exit→Act→World→Prop} {L0 L:List Part} {w0 w:World} {t e:TypeId} {i:TypeInfo} {z:Value} {kl kc:IntKind} (hg:o.guard=none) (l c:Operand) (hop:o.op=.makeSlice t l c)
 (ht:P.underlying t=some (.slice e)) (hi:P.info? e=some i) (hz:i.zero=some z) (hsize:i.size=1) (hz1:z.cells= #[z]) (n:Nat) (hl:a.eval l=.int kl (n:Int)) (hc:a.eval c=.int kc (n:Int)) (hbytes:i.bytes * n≤281474976710656) (h63:n≤9223372036854775807)
 (h:At L0 w0 L w) (hK:∀b w',At L0 w0 (Part.cells b (List.replicate n z) e::L) w'→w0.heap.size≤b→wpList P ops Q rest (a.put o.dst (.slice (some ⟨b,0,none⟩) n n)) w'):wpList P ops Q (o::rest) a w:=by
 have hr:=run_make_row t e i z ht hi hz hsize hz1 kl kc n hbytes h63 w;have hA:=h.alloc (List.replicate n z) e;rw[show(List.replicate n z).toArray=madeCells #[z] n from by rw[←toList_madeCells_one z n]] at hA;refine Zak hg ?_ (hK _ _ hA h.size);simp[execOp,hop,hl,hc,hr,Result.andThen]
def partL (v i:Nat):List Int:=(fixL v).take i++List.replicate (8 - i) 0
def ByRel (w:World) (g v:Nat) (k:Nat) (u:Value) (wr:World):Prop:=∃i:Nat,u=.int .i64 i∧i + k=8∧At [] w [Part.cells g (flatY (partL v i)) 5] wr
theorem Zfp (v:Nat) (w:World) (hv:v < 18446744073709551616):Calls Tryz.prog 143 #[.int .u64 v,.int .i64 8] w fun e w'=>∃u,e=.returned u∧At [] w [rowY u (fixL v)] w':=by
 obtain⟨i0,hi0,hz0,hz1,hz2⟩:=info_parts infoY;have hA:At [] w [] w:=At.start (L0:=[]) trivial;have hF:=hA.facts
 go_enter Tryz.func143,Tryz.ntmps143
 go_wp2_with (refine wpList_make_at rfl _ _ rfl Tryz.underlying62 hi0 hz0 hz1 rfl 8 (by(try simp only[Act.eval,eV])<;>exact rfl) (by(try simp only[Act.eval,eV])<;>exact rfl) (by rw[hz2];omega) (by omega) hA ?_;intro g w1 hB hg;clear hF hA;have hA:=hB;clear hB;obtain⟨hA,hF⟩:=fZ hA)
 try go_frame
 go_loopg [14] 8 (ByRel w g v)
 case atStart=>exact⟨0,rfl,by simp,hA⟩
 case round=>
  obtain⟨i,rfl,hk,hB⟩:=hrel;clear hF hA
  by_cases hi:i < 8
  · have hcase:i=0∨i=1∨i=2∨i=3∨i=4∨i=5∨i=6∨i=7:=by omega
    rcases hcase with rfl|rfl|rfl|rfl|rfl|rfl|rfl|rfl
    · have hA:At [] w [Part.cells g [.int .u8 0,.int .u8 0,.int .u8 0,.int .u8 0,.int .u8 0,.int .u8 0,.int .u8 0,.int .u8 0] 5] wr:=hB
      clear hB;have hF:=hA.facts
      have hmm:min (max (8:Int) 0) 8=8:=by omega
      obtain⟨hA,hF⟩:=fZ hA
      go_wp2_with ((with_reducible refine gst ?_);refine wTz hA ?_;clear hF hA;intro w1 hA hF)
      have hbb:(v:Int) / 72057594037927936=byteN v 56:=by unfold byteN;omega
      rw[hbb] at hA
      go_roundg (gk - 1)
      case measure=>omega
      case rel=>exact⟨1,by simp,by omega,hA⟩
    · have hA:At [] w [Part.cells g [.int .u8 (byteN v 56),.int .u8 0,.int .u8 0,.int .u8 0,.int .u8 0,.int .u8 0,.int .u8 0,.int .u8 0] 5] wr:=hB
      clear hB;have hF:=hA.facts
      have hmm:min (max (8:Int) 0) 8=8:=by omega
      obtain⟨hA,hF⟩:=fZ hA
      go_wp2_with ((with_reducible refine gst ?_);refine wTz hA ?_;clear hF hA;intro w1 hA hF)
      have hbb:(v:Int) / 281474976710656 % 256=byteN v 48:=by unfold byteN;omega
      rw[hbb] at hA
      go_roundg (gk - 1)
      case measure=>omega
      case rel=>exact⟨2,by simp,by omega,hA⟩
    · have hA:At [] w [Part.cells g [.int .u8 (byteN v 56),.int .u8 (byteN v 48),.int .u8 0,.int .u8 0,.int .u8 0,.int .u8 0,.int .u8 0,.int .u8 0] 5] wr:=hB
      clear hB;have hF:=hA.facts
      have hmm:min (max (8:Int) 0) 8=8:=by omega
      obtain⟨hA,hF⟩:=fZ hA
      go_wp2_with ((with_reducible refine gst ?_);refine wTz hA ?_;clear hF hA;intro w1 hA hF)
      have hbb:(v:Int) / 1099511627776 % 256=byteN v 40:=by unfold byteN;omega
      rw[hbb] at hA
      go_roundg (gk - 1)
      case measure=>omega
      case rel=>exact⟨3,by simp,by omega,hA⟩
    · have hA:At [] w [Part.cells g [.int .u8 (byteN v 56),.int .u8 (byteN v 48),.int .u8 (byteN v 40),.int .u8 0,.int .u8 0,.int .u8 0,.int .u8 0,.int .u8 0] 5] wr:=hB
      clear hB;have hF:=hA.facts
      have hmm:min (max (8:Int) 0) 8=8:=by omega
      obtain⟨hA,hF⟩:=fZ hA
      go_wp2_with ((with_reducible refine gst ?_);refine wTz hA ?_;clear hF hA;intro w1 hA hF)
      have hbb:(v:Int) / 4294967296 % 256=byteN v 32:=by unfold byteN;omega
      rw[hbb] at hA
      go_roundg (gk - 1)
      case measure=>omega
      case rel=>exact⟨4,by simp,by omega,hA⟩
    · have hA:At [] w [Part.cells g [.int .u8 (byteN v 56),.int .u8 (byteN v 48),.int .u8 (byteN v 40),.int .u8 (byteN v 32),.int .u8 0,.int .u8 0,.int .u8 0,.int .u8 0] 5] wr:=hB
      clear hB;have hF:=hA.facts
      have hmm:min (max (8:Int) 0) 8=8:=by omega
      obtain⟨hA,hF⟩:=fZ hA
      go_wp2_with ((with_reducible refine gst ?_);refine wTz hA ?_;clear hF hA;intro w1 hA hF)
      have hbb:(v:Int) / 16777216 % 256=byteN v 24:=by unfold byteN;omega
      rw[hbb] at hA
      go_roundg (gk - 1)
      case measure=>omega
      case rel=>exact⟨5,by simp,by omega,hA⟩
    · have hA:At [] w [Part.cells g [.int .u8 (byteN v 56),.int .u8 (byteN v 48),.int .u8 (byteN v 40),.int .u8 (byteN v 32),.int .u8 (byteN v 24),.int .u8 0,.int .u8 0,.int .u8 0] 5] wr:=hB
      clear hB;have hF:=hA.facts
      have hmm:min (max (8:Int) 0) 8=8:=by omega
      obtain⟨hA,hF⟩:=fZ hA
      go_wp2_with ((with_reducible refine gst ?_);refine wTz hA ?_;clear hF hA;intro w1 hA hF)
      have hbb:(v:Int) / 65536 % 256=byteN v 16:=by unfold byteN;omega
      rw[hbb] at hA
      go_roundg (gk - 1)
      case measure=>omega
      case rel=>exact⟨6,by simp,by omega,hA⟩
    · have hA:At [] w [Part.cells g [.int .u8 (byteN v 56),.int .u8 (byteN v 48),.int .u8 (byteN v 40),.int .u8 (byteN v 32),.int .u8 (byteN v 24),.int .u8 (byteN v 16),.int .u8 0,.int .u8 0] 5] wr:=hB
      clear hB;have hF:=hA.facts
      have hmm:min (max (8:Int) 0) 8=8:=by omega
      obtain⟨hA,hF⟩:=fZ hA
      go_wp2_with ((with_reducible refine gst ?_);refine wTz hA ?_;clear hF hA;intro w1 hA hF)
      have hbb:(v:Int) / 256 % 256=byteN v 8:=by unfold byteN;omega
      rw[hbb] at hA
      go_roundg (gk - 1)
      case measure=>omega
      case rel=>exact⟨7,by simp,by omega,hA⟩
    have hA:At [] w [Part.cells g [.int .u8 (byteN v 56),.int .u8 (byteN v 48),.int .u8 (byteN v 40),.int .u8 (byteN v 32),.int .u8 (byteN v 24),.int .u8 (byteN v 16),.int .u8 (byteN v 8),.int .u8 0] 5] wr:=hB;clear hB;have hF:=hA.facts
    have hmm:min (max (8:Int) 0) 8=8:=by omega
    obtain⟨hA,hF⟩:=fZ hA
    go_wp2_with ((with_reducible refine gst ?_);refine wTz hA ?_;clear hF hA;intro w1 hA hF)
    have hbb:(v:Int) % 256=byteN v 0:=by unfold byteN;omega
    rw[hbb] at hA
    go_roundg (gk - 1)
    case measure=>omega
    case rel=>exact⟨8,by simp,by omega,hA⟩
  have h8:i=8:=by omega
  subst h8;have hA:At [] w [Part.cells g (flatY (fixL v)) 5] wr:=hB;clear hB;have hA2:At [] w [rowY (.slice (some ⟨g,0,none⟩) 8 8) (fixL v)] wr:=hA.row_shut (e:=5) (size:=1) (n:=8) (cap:=8) (xs:=flatY (fixL v)) .here rfl (by omega) (by unfold maxLen;omega) rfl
  have hmm:min (max (8:Int) 0) 8=8:=by omega
  go_wp2_with fail
  go_ret;exact⟨_,rfl,hA2⟩
end Wire
end
end Go.Proofs.YtkdjkngfnapjcaaGreatDoor
