import Derived.Test.YtbeckijoabapkaaGreatDoorP17
set_option linter.unusedSimpArgs false
set_option linter.unusedVariables false
set_option maxRecDepth 100000
set_option maxHeartbeats 16000000
namespace Go.Proofs.YtbeckijoabapkaaGreatDoor
section
namespace Gr
open _root_.Go.Proofs.YtbeckijoabapkaaGreatDoor.Mark (ltID Zay)
open Go.RowKit
open Attr (A8 Zaz)
def RtI (x:I2):Prop:=0≤x.1∧x.1 < 7∧0≤x.2∧x.2 < 1024
structure Own (es:List (I2 × A8)):Prop where
 uq:Uq es
 deps:Deps es
 right:∀e ∈ es,RtI e.1
theorem RtI.ok {x:I2} (h:RtI x):okD x:=by obtain⟨h1,h2,h3,h4⟩:=h;unfold okD okI;omega
theorem Own.ok {es:List (I2 × A8)} (h:Own es):∀e ∈ es,okD e.1:=fun e he=>(h.right e he).ok
theorem Own.of_get {es:List (I2 × A8)} (h:Own es) {x:I2} (hx:(getA es x).isSome=true):RtI x:=by
 cases hq:getA es x with
 |none=>rw[hq] at hx;cases hx
 |some a=>exact h.right _ (ZbM hq)
def FOk (f:F7):Prop:=∀q,q < 7→0≤f.at q∧f.at q≤1024
theorem F7.at_set (f:F7) {q k:Nat} (hq:q < 7) (hk:k < 7) (v:Int):(f.set q v).at k=if k=q then v else f.at k:=by
 rcases(show q=0∨q=1∨q=2∨q=3∨q=4∨q=5∨q=6 by omega) with rfl|rfl|rfl|rfl|rfl|rfl|rfl<;>rcases(show k=0∨k=1∨k=2∨k=3∨k=4∨k=5∨k=6 by omega) with rfl|rfl|rfl|rfl|rfl|rfl|rfl<;>rfl
def upF1 (f:F7) (x:I2):F7:=f.set x.1.toNat (max (f.at x.1.toNat) (x.2 + 1))
def upF (f:F7) (l:List I2):F7:=l.foldl upF1 f
def mF (f:F7):Nat:=(1024 - f.f0).toNat + (1024 - f.f1).toNat + (1024 - f.f2).toNat + (1024 - f.f3).toNat + (1024 - f.f4).toNat + (1024 - f.f5).toNat + (1024 - f.f6).toNat
theorem tn_le {a b:Int} (h:a≤b):(1024 - b).toNat≤(1024 - a).toNat:=by omega
theorem tn_lt {a b:Int} (h:a < b) (hb:b≤1024):(1024 - b).toNat < (1024 - a).toNat:=by omega
theorem Zeq {a:Int} (h:0≤a):(1024 - a).toNat≤1024:=by omega
theorem mF_lt {f g:F7} (h:∀q,q < 7→f.at q≤g.at q) (hg:FOk g) {q:Nat} (hq:q < 7) (hlt:f.at q < g.at q):mF g < mF f:=by
 have h0:=tn_le (show f.f0≤g.f0 from h 0 (by decide));have h1:=tn_le (show f.f1≤g.f1 from h 1 (by decide));have h2:=tn_le (show f.f2≤g.f2 from h 2 (by decide));have h3:=tn_le (show f.f3≤g.f3 from h 3 (by decide));have h4:=tn_le (show f.f4≤g.f4 from h 4 (by decide));have h5:=tn_le (show f.f5≤g.f5 from h 5 (by decide));have h6:=tn_le (show f.f6≤g.f6 from h 6 (by decide));have hb:=(hg q hq).2;clear h hg;rcases(show q=0∨q=1∨q=2∨q=3∨q=4∨q=5∨q=6 by omega) with rfl|rfl|rfl|rfl|rfl|rfl|rfl
 · have h9:=tn_lt (show f.f0 < g.f0 from hlt) (show g.f0≤1024 from hb);unfold mF;omega
 · have h9:=tn_lt (show f.f1 < g.f1 from hlt) (show g.f1≤1024 from hb);unfold mF;omega
 · have h9:=tn_lt (show f.f2 < g.f2 from hlt) (show g.f2≤1024 from hb);unfold mF;omega
 · have h9:=tn_lt (show f.f3 < g.f3 from hlt) (show g.f3≤1024 from hb);unfold mF;omega
 · have h9:=tn_lt (show f.f4 < g.f4 from hlt) (show g.f4≤1024 from hb);unfold mF;omega
 · have h9:=tn_lt (show f.f5 < g.f5 from hlt) (show g.f5≤1024 from hb);unfold mF;omega
 have h9:=tn_lt (show f.f6 < g.f6 from hlt) (show g.f6≤1024 from hb);unfold mF;omega
theorem mF_max {f:F7} (h:FOk f):mF f≤7168:=by
 have h0:=Zeq (show 0≤f.f0 from(h 0 (by decide)).1);have h1:=Zeq (show 0≤f.f1 from(h 1 (by decide)).1);have h2:=Zeq (show 0≤f.f2 from(h 2 (by decide)).1);have h3:=Zeq (show 0≤f.f3 from(h 3 (by decide)).1);have h4:=Zeq (show 0≤f.f4 from(h 4 (by decide)).1);have h5:=Zeq (show 0≤f.f5 from(h 5 (by decide)).1);have h6:=Zeq (show 0≤f.f6 from(h 6 (by decide)).1);unfold mF;omega
theorem Zf0 {f:F7} {x:I2} (hx:RtI x) {k:Nat} (hk:k < 7):(upF1 f x).at k=if k=x.1.toNat then max (f.at k) (x.2 + 1) else f.at k:=by
 obtain⟨h1,h2,h3,h4⟩:=hx;unfold upF1;rw[F7.at_set f (by omega) hk];split
 · rename_i e;rw[e]
 rfl
theorem ZnW {f:F7} {x:I2} (hx:RtI x) {k:Nat} (hk:k < 7):f.at k≤(upF1 f x).at k:=by
 rw[Zf0 hx hk];split<;>omega
theorem ZnV {f:F7} (hf:FOk f) {x:I2} (hx:RtI x):FOk (upF1 f x):=by
 intro k hk;rw[Zf0 hx hk];have:=hf k hk;obtain⟨h1,h2,h3,h4⟩:=hx;split<;>omega
theorem Znv:∀{l:List I2} {f:F7},FOk f→(∀x ∈ l,RtI x)→FOk (upF f l)
 |[],_,hf,_=>hf
 |x::l,f,hf,hl=>Znv (l:=l) (f:=upF1 f x) (ZnV hf (hl x (by simp))) fun y hy=>hl y (by simp[hy])
theorem Zir:∀{l:List I2} {f:F7},(∀x ∈ l,RtI x)→∀{k:Nat},k < 7→f.at k≤(upF f l).at k
 |[],_,_,_,_=>Int.le_refl _
 |x::l,f,hl,k,hk=>Int.le_trans (ZnW (hl x (by simp)) hk) (Zir (l:=l) (f:=upF1 f x) (fun y hy=>hl y (by simp[hy])) hk)
theorem ZhG:∀{l:List I2} {f:F7},(∀x ∈ l,RtI x)→∀{x:I2},x ∈ l→x.2 < (upF f l).at x.1.toNat
 |y::l,f,hl,x,hx=>by
  rcases List.mem_cons.1 hx with rfl|hx
  · have h:=hl x (by simp);have h7:x.1.toNat < 7:=by obtain⟨h1,h2,_⟩:=h;omega
    have h1:=Zir (l:=l) (f:=upF1 f x) (fun y hy=>hl y (by simp[hy])) h7;have h2:=Zf0 (f:=f) h h7;rw[if_pos rfl] at h2;show x.2 < (upF (upF1 f x) l).at _;omega
  exact ZhG (l:=l) (f:=upF1 f y) (fun z hz=>hl z (by simp[hz])) hx
theorem Zdx {es:List (I2 × A8)} {f:F7} {l:List I2} (h:ZaM es f (some l)):l.Pairwise ltID∧(∀x ∈ l,(getA es x).isSome=true)∧∃q,q < 7∧Zcd f q ∈ l:=by
 obtain⟨q,hq,_,h1,h2,h3,h4⟩:=h;exact⟨h2,h4,q,hq,(h3 _).2 .refl⟩
theorem ZeV {es:List (I2 × A8)} {f:F7} {r s:Option (List I2)} (h:ZaM es f r) (k:ZaM es f s):r=s:=by
 cases r with
 |none=>
  cases s with
  |none=>rfl
  |some m=>
   obtain⟨q,hq,_,hm⟩:=k;cases Zco (h q hq) hm
 |some l=>
  cases s with
  |none=>
   obtain⟨q,hq,_,hm⟩:=h;cases Zco (k q hq) hm
  |some m=>
   obtain⟨q,hq,hno,hm⟩:=h;obtain⟨r,hr,kno,km⟩:=k;rcases Nat.lt_trichotomy q r with hlt|rfl|hlt
   · cases Zco (kno q hlt) hm
   · exact Zco hm km
   cases Zco (hno r hlt) km
theorem Zok {es:List (I2 × A8)} {l:List I2} (h:l.Pairwise ltID) (hg:∀x ∈ l,(getA es x).isSome=true):lstG es l=l:=
 ZgB (ZeM es l) h fun x=>by rw[ZiG];exact⟨fun q=>q.1,fun q=>⟨q,hg x q⟩⟩
theorem in_len {es:List (I2 × A8)} {l:List I2} (h:l.Pairwise ltID) (hg:∀x ∈ l,(getA es x).isSome=true):l.length≤es.length:=by
 have h1:l.length≤(es.map (·.1)).length:=Zdm (h.imp fun q e=>by rw[e] at q;exact ZcM q) fun x hx=>by
  have:=hg x hx
  cases hq:getA es x with
  |none=>rw[hq] at this;cases this
  |some a=>exact List.mem_map.2 ⟨_,ZbM hq,rfl⟩
 rwa [List.length_map] at h1
theorem ZhF {es:List (I2 × A8)} (ho:Own es) {f:F7} (hf:FOk f) {l:List I2} (h:ZaM es f (some l)):FOk (upF f l)∧mF (upF f l) < mF f:=by
 obtain⟨h1,h2,q,hq,hm⟩:=Zdx h;have hr:∀x ∈ l,RtI x:=fun x hx=>ho.of_get (h2 x hx);have hk:=Znv hf hr;have h3:=ZhG (f:=f) hr hm;refine⟨hk,mF_lt (fun k hk=>Zir hr hk) hk hq ?_⟩;have e:(Zcd f q).1.toNat=q:=by simp[Zcd]
 rw[e] at h3;exact h3
inductive RunR (es:List (I2 × A8)):F7→List I2→F7→Prop
 |stop {f:F7} (h:ZaM es f none):RunR es f [] f
 |go {f g:F7} {l r:List I2} (h:ZaM es f (some l)) (t:RunR es (upF f l) r g):RunR es f (ordG es f l++r) g
theorem Zkc {es:List (I2 × A8)} {f g g':F7} {r r':List I2} (h:RunR es f r g) (k:RunR es f r' g'):r=r'∧g=g':=by
 induction h generalizing r' g' with
 |stop h=>
  cases k with
  |stop _=>exact⟨rfl,rfl⟩
  |go h' _=>cases ZeV h h'
 |go h t ih=>
  cases k with
  |stop h'=>cases ZeV h h'
  |go h' t'=>
   cases ZeV h h';obtain⟨rfl,rfl⟩:=ih t';exact⟨rfl,rfl⟩
theorem ZgS (es:List (I2 × A8)) (f:F7) (Lk:List I2):(ordN es f Lk).Perm (List.range Lk.length):=by
 obtain⟨kn,n,hk⟩:=Tar.Zg5 (nx:=nxL es f Lk) (n:=Lk.length) (fun x _ y hy=>ZkG hy);exact Tar.Zkz hk _
theorem ZbV (es:List (I2 × A8)) (f:F7) (Lk:List I2):(ordG es f Lk).Perm Lk:=by
 have h:=(ZgS es f Lk).map (idK (enL es Lk));refine h.trans (.of_eq ?_);apply List.ext_getElem?;intro i;by_cases hi:i < Lk.length
 · rw[List.getElem?_map,List.getElem?_range hi]
   obtain⟨x,hx⟩:∃x,Lk[i]? =some x:=⟨_,List.getElem?_eq_getElem hi⟩
   rw[hx,Option.map_some];exact congrArg some (ZfJ hx)
 rw[List.getElem?_eq_none (by simp;omega),List.getElem?_eq_none (by omega)]
end Gr
end
section
namespace Gr
open _root_.Go.Proofs.YtbeckijoabapkaaGreatDoor.Attr (eqA Zaz ownsB Zas Zb9)
open _root_.Go.Proofs.YtbeckijoabapkaaGreatDoor.Ref (IA)
open Go.RowKit
open Attr (A8)
theorem Zlo {a:A8} (h:a.right=true):∀q,q < 7→0≤a.dep q∧a.dep q≤1024:=by
 intro q hq;obtain⟨s,d0,d1,d2,d3,d4,d5,d6⟩:=a;simp only[A8.right,Attr.badD,Bool.and_eq_true,Bool.not_eq_true',Bool.or_eq_false_iff,decide_eq_false_iff_not] at h;obtain⟨⟨⟨⟨⟨⟨⟨h0,h1⟩,h2⟩,h3⟩,h4⟩,h5⟩,h6⟩,_⟩:=h;rcases(show q=0∨q=1∨q=2∨q=3∨q=4∨q=5∨q=6 by omega) with rfl|rfl|rfl|rfl|rfl|rfl|rfl
 · exact⟨Int.not_lt.1 h0.1,Int.not_lt.1 h0.2⟩
 · exact⟨Int.not_lt.1 h1.1,Int.not_lt.1 h1.2⟩
 · exact⟨Int.not_lt.1 h2.1,Int.not_lt.1 h2.2⟩
 · exact⟨Int.not_lt.1 h3.1,Int.not_lt.1 h3.2⟩
 · exact⟨Int.not_lt.1 h4.1,Int.not_lt.1 h4.2⟩
 · exact⟨Int.not_lt.1 h5.1,Int.not_lt.1 h5.2⟩
 exact⟨Int.not_lt.1 h6.1,Int.not_lt.1 h6.2⟩
theorem Zfl {a:A8} {r t:Int}:ownsB a r t=true↔Zaz r t=true∧a.right=true∧a.dep r.toNat=t:=by
 unfold ownsB;rw[Bool.and_eq_true,Bool.and_eq_true,Zb9];refine and_congr_right fun h1=>and_congr_right fun _=> ?_;have hq:=Zas.1 h1;unfold A8.own;rw[if_pos h1];obtain⟨s,d0,d1,d2,d3,d4,d5,d6⟩:=a;rcases(show r=0∨r=1∨r=2∨r=3∨r=4∨r=5∨r=6 by omega) with rfl|rfl|rfl|rfl|rfl|rfl|rfl<;>simp[A8.set,A8.dep]<;>exact eq_comm
theorem Own.add {es:List IA} (h:Own es) (x:I2) (a:A8):Own (addG es x a).1:=by
 unfold addG;split
 · rename_i ho;obtain⟨h1,h2,h3⟩:=Zfl.1 ho;split
   · split<;>exact h
   rename_i hn;refine⟨?_,fun y b hy=> ?_,fun e he=> ?_⟩
   · show((es++[(x,a)]).map (·.1)).Nodup
     rw[List.map_append,List.nodup_append]
     exact⟨h.uq,by simp,fun p hp q hq e=>by
      rw[List.map_singleton,List.mem_singleton] at hq;subst hq
      exact ZcY.1 hn (by rw[e] at hp;exact hp)⟩
   · have hm:=ZbM hy;rcases List.mem_append.1 hm with q|q
     · exact h.deps y b (Zbn h.uq q)
     cases List.mem_singleton.1 q;exact Zlo h2
   rcases List.mem_append.1 he with q|q
   · exact h.right e q
   rw[List.mem_singleton.1 q];have:=Zas.1 h1;exact⟨this.1,by have:=this.2.1;show x.1 < 7;omega,this.2.2.1,this.2.2.2⟩
 exact h
theorem Zoe:Own []:=⟨by simp[Uq],fun x a h=>by simp[getA] at h,nofun⟩
end Gr
end
end Go.Proofs.YtbeckijoabapkaaGreatDoor
section
namespace Go
open _root_.Go.Proofs.YtbeckijoabapkaaGreatDoor
open Go.RowKit
section
variable {P:Program} {ops:Array Oper} {Q:Exit→Act→World→Prop} {md:Region.Mode} {S:World→Prop}
theorem Zgt {i j k fuel:Nat} {listed:Array Bool} {a:Act} {w:World} (hr:Region.ready md ops listed=[i,j,k]) (h1:wpOp P ops Q i (fun a' w'=>S w'∧wpAnyH P md ops Q S fuel (listed.setIfInBounds i true) a' w') a w)
 (h2:wpOp P ops Q j (fun a' w'=>S w'∧wpAnyH P md ops Q S fuel (listed.setIfInBounds j true) a' w') a w) (h3:wpOp P ops Q k (fun a' w'=>S w'∧wpAnyH P md ops Q S fuel (listed.setIfInBounds k true) a' w') a w):wpAnyH P md ops Q S (fuel + 1) listed a w:=
 wpAnyH_all hr (by simp) (fun x hx=>by
  rcases List.mem_cons.1 hx with rfl|hx
  · exact h1
  rcases List.mem_cons.1 hx with rfl|hx
  · exact h2
  rw[List.mem_singleton.1 hx];exact h3)
end
end Go
namespace Go.Proofs.YtbeckijoabapkaaGreatDoor.Gr
open _root_.Go.Proofs.YtbeckijoabapkaaGreatDoor.Mark (ltID Zay)
open Go.RowKit
open Attr (A8 thro)
open Tar (TS OrdS knotL sortS freeP)
attribute [-go_sem] run_eql_struct run_neq_struct run_eqGuard_agg
theorem Zj7 (sq:Nat→Int) (l:List Nat):(sortS sq l).length=l.length:=by
 unfold sortS;suffices H:∀(l out:List Nat),(l.foldl (fun out x=>Tar.insS sq x out) out).length=out.length + l.length by simpa using H l []
 intro l
 induction l with
 |nil=>simp
 |cons x l ih=>
  intro out;rw[List.foldl_cons,ih,(Tar.Zcr sq x out).length_eq,List.length_cons,List.length_cons];omega
theorem ZgM (v:Value) (l m:List I2):Part.row 33 2 v (l.length + m.length) (flatI l++flatI m)=rowI2 v (l++m):=by
 unfold rowI2;rw[List.length_append];simp[flatI]
def delO (k j:Nat) (O:List Wt):List Wt:=(O.take j).map (Wt.less k)++O.drop j
theorem ZoL {k j:Nat} {O:List Wt} {o:Wt} (h:O[j]? =some o):delO k j O=(O.take j).map (Wt.less k)++o::O.drop (j + 1):=by
 unfold delO;rw[List.drop_eq_getElem?_toList_append,h];rfl
theorem Zlq {k j:Nat} {O:List Wt} {o:Wt} (h:O[j]? =some o):delO k (j + 1) O=(O.take j).map (Wt.less k)++Wt.less k o::O.drop (j + 1):=by
 unfold delO;rw[List.take_add_one,h,List.map_append,List.append_assoc];rfl
theorem Zm6 {k j:Nat} {O:List Wt} (h:O.length≤j):delO k j O=O.map (Wt.less k):=by
 unfold delO;rw[List.take_of_length_le h,List.drop_of_length_le h,List.append_nil]
theorem ZjD (k:Nat) (O:List Wt):flatO (O.map (Wt.less k))=flatO O:=by
 rw[Zdv,Zdv];simp[Wt.less]
theorem Zlp (k:Nat) (O:List Wt):delO k 0 O=O:=by simp[delO]
theorem ZlS {ws:List Nat} (h:(wsE ws).Pairwise (fun p q=>p.1≠q.1)):ws.Nodup:=by
 unfold wsE at h;rw[List.pairwise_map] at h;exact h.imp fun q e=>q (by rw[e])
theorem ZjJ {k:Nat} {kl:Lit} (hk:keyOf Tryz.prog 3 (.int .i64 (k:Int))=some kl) (w:World) (ty:TypeId):(Builtin.delete_ #[132,3] ty #[.map none,.int .i64 k]).run Tryz.prog w=.ok (.tuple #[]) w:=by
 simp[Builtin.delete_,run_underlying Tryz.underlying132,lawN.check w _ hk,Result.andThen]
def DlRel (w:World) (L0 F:List Part) (kk:Nat) (O1:List Wt) (n:Nat) (k:Nat) (u:Value) (wr:World):Prop:=
 ∃j:Nat,u=.int .i64 j∧j + k=n + 1∧At L0 w (restO (delO kk j O1)::F) wr
def WtR (w:World) (nv:Value) (N:List Nd) (n:Nat) (u:Value) (w':World):Prop:=
 ∃(ov hv:Value) (O:List Wt) (H:List Hs),u=.tuple #[ov,hv]∧WtIn N n N.length O H∧At [rowNd nv N,restX N] w [rowO ov O,rowH hv H,restO O,restH H,rowNd nv N,restX N] w'
theorem Zd2.r {w:World} {nv:Value} {N:List Nd} {n:Nat} {e:Ending} {w':World} (h:Zd2 w nv N n e w'):∃u,e=.returned u∧WtR w nv N n u w':=by
 obtain⟨ov,hv,O,H,he,hw,hA⟩:=h;exact⟨_,he,ov,hv,O,H,rfl,hw,hA⟩
abbrev orL (p m:Nat) (es:List (I2 × A8)) (f:F7) (R:Part) (b4 b7 b8 b9:Nat) (axn:Option Addr) (capn:Nat) (sv wv:Value) (cnt:Int) (n:Nat) (ov hv:Value) (L:List Nd) (O:List Wt) (H:List Hs):List Part:=
 [Part.cells b8 [ov] 125,Part.cells b9 [hv] 126,rowO ov O,rowH hv H,restO O,restH H,Part.cells b7 [.slice axn L.length capn,sv,wv,.int .i64 cnt,.int .i64 (n:Int)] 124,rowNd (.slice axn L.length capn) L,restX L,R,GrP p m es,Part.cells b4 [.int .i64 f.f0,.int .i64 f.f1,.int .i64 f.f2,.int .i64 f.f3,.int .i64 f.f4,.int .i64 f.f5,.int .i64 f.f6] 62]
def CutR (w:World) (p m:Nat) (es:List (I2 × A8)) (f:F7) (R:Part) (b4 b7:Nat) (axn:Option Addr) (capn:Nat) (sv wv:Value) (cnt:Int) (n:Nat) (L:List Nd) (u8 u9:Value) (wc:World):Prop:=
 ∃(b8 b9:Nat) (ov hv:Value) (O:List Wt) (H:List Hs),u8=.pointer (some ⟨b8,0,none⟩)∧u9=.pointer (some ⟨b9,0,none⟩)∧WtIn L n L.length O H∧At [R,GrP p m es] w (orL p m es f R b4 b7 b8 b9 axn capn sv wv cnt n ov hv L O H) wc
def OrRel (w:World) (p m:Nat) (es:List (I2 × A8)) (f:F7) (R:Part) (b4 b7 b8 b9:Nat) (axn:Option Addr) (capn:Nat) (sv wv:Value) (cnt:Int) (n:Nat) (ov hv:Value) (L:List Nd) (en:Nat→I2 × A8) (k:Nat) (u:Value) (wr:World):Prop:=
 ∃(gone pre:List Nat) (O:List Wt) (H:List Hs),OrdS (nxF L) L.length (knF L) (sqE en) gone pre k∧OrIn L n gone O H∧At [R,GrP p m es] w (rowI2 u (pre.map (idK en))::orL p m es f R b4 b7 b8 b9 axn capn sv wv cnt n ov hv L O H) wr
def Zo1 (p m:Nat) (es:List (I2 × A8)) (f:F7) (R:Part) (l:List I2) (w:World) (e:Ending) (w':World):Prop:=
 ∃u,e=.returned u∧At [R,GrP p m es] w [rowI2 u (ordG es f (lstG es l)),R,GrP p m es] w'
theorem Zky {w:World} {R:Part} {v:Value} {l:List I2} {p m:Nat} {es:List (I2 × A8)} (h:Sep [R,GrP p m es] w) (hr:Zii R v l) (hl:l.length≤1000) (hok:∀x ∈ l,okD x) (f:F7) (hd:Deps es) (hoke:∀e ∈ es,okD e.1) (hu:Uq es):
 Calls Tryz.prog 35 #[.pointer (some ⟨p,0,none⟩),f.val,v] w (Zo1 p m es f R l w):=by
 have hm:Tryz.prog.follows .mixedOrders=true:=by kernel_rfl
 obtain⟨i0,hi0,hz0,hz1,hz2⟩:=info_parts infoI;have hA:=At.start h;have hF:=hA.facts;have hr':=Hd hr;have hok':=Hd hok;have hd':=Hd hd;have hoke':=Hd hoke;have hu':=Hd hu;clear h hr hok hd hoke hu;simp only[F7.val] at *
 obtain⟨hA,hF⟩:=fZ hA;go_enter Tryz.func35,Tryz.ntmps35
 go_wp2_with ((with_reducible refine gbx ?_);refine wHz 62 [.int .i64 f.f0,.int .i64 f.f1,.int .i64 f.f2,.int .i64 f.f3,.int .i64 f.f4,.int .i64 f.f5,.int .i64 f.f6] hA ?_;clear hF hA;intro b4 w1 hA hb4 hF)
 refine(ZkI (R:=R) (v:=v) (l:=l) (p:=p) (m:=m) (es:=es) (hA.sep2 (A:=R) (B:=GrP p m es) sZ sZ) hr'.out hl hok'.out f hd'.out).mono ?_;rintro e w1 ⟨u,N,rfl,hNl,hNd,hT⟩;have hB:=hA.call2 (A:=R) (B:=GrP p m es) sZ sZ hT;have hN:=Hd (show NdIn es f (lstG es l) N from⟨hNl,hNd⟩);clear hF hA hT hNl hNd;have hA:=hB;clear hB;simp only[uA] at hA;obtain⟨axn,capn,hnv,haxn,hcpn,_⟩:=hA.row_form (e:=131) (size:=7) (n:=N.length) (v:=u) (xs:=flatN N) sZ;clear haxn;subst hnv;have hNlen:=Hd (show N.length≤1000 from by have h1:=hN.out.len;have h2:=Zmw es l;omega);obtain⟨hA,hF⟩:=fZ hA
 go_wp2_with ((with_reducible refine gbx ?_);refine wHz 124 [.slice axn N.length capn,.slice none 0 0,.slice none 0 0,.int .i64 0,.int .i64 0] hA ?_;clear hF hA;intro b7 w1 hA hb7 hF)
 have hB:=hA.row_nil 3 1;have hC:=hB.row_nil 181 2;clear hF hA hB
 have hA:At [R,GrP p m es] w (kL b7 axn capn (.slice none 0 0) (.slice none 0 0) N TS.start++[R,GrP p m es,Part.cells b4 [.int .i64 f.f0,.int .i64 f.f1,.int .i64 f.f2,.int .i64 f.f3,.int .i64 f.f4,.int .i64 f.f5,.int .i64 f.f6] 62]) w1:=by
  show At [R,GrP p m es] w [kHead b7 axn capn (.slice none 0 0) (.slice none 0 0) N TS.start,kRow axn capn N TS.start,restX N,rowX (.slice none 0 0) [],rowF (.slice none 0 0) [],R,GrP p m es,Part.cells b4 [.int .i64 f.f0,.int .i64 f.f1,.int .i64 f.f2,.int .i64 f.f3,.int .i64 f.f4,.int .i64 f.f5,.int .i64 f.f6] 62] w1;unfold kRow;rw[ZkM hN.out.zero];exact hC.pick pZ
 clear hC;replace hA:=hA.to (Zfv b7 axn capn (.slice none 0 0) (.slice none 0 0) N TS.start _).symm;refine(Zn1 (kp:=b7) (ax:=axn) (cap:=capn) (sv0:=.slice none 0 0) (wv0:=.slice none 0 0) (N:=N) (hA.sep1 .here) hN.out.lt hNlen.out hN.out.seven).mono ?_;rintro e w2 ⟨s,sv,wv,rfl,hkn,hfd,hT⟩;have hB:=hA.call1 .here hT;clear hA hT;have hA:At [R,GrP p m es] w [kHead b7 axn capn sv wv N s,kRow axn capn N s,restX N,rowX sv s.stk.reverse,rowF wv s.wk.reverse,R,GrP p m es,Part.cells b4 [.int .i64 f.f0,.int .i64 f.f1,.int .i64 f.f2,.int .i64 f.f3,.int .i64 f.f4,.int .i64 f.f5,.int .i64 f.f6] 62] w2:=hB.to (Zfv b7 axn capn sv wv N s _);clear hB;have hL:=hN.out.after (ZeM es l) (fun x hx=>(ZiG.1 hx).2) hkn;have hlL:(ndL N s).length=N.length:=ZaN N s
 have hB:At [R,GrP p m es] w [Part.cells b7 [.slice axn (ndL N s).length capn,sv,wv,.int .i64 s.count,.int .i64 s.found] 124,rowNd (.slice axn (ndL N s).length capn) (ndL N s),restX (ndL N s),R,GrP p m es,Part.cells b4 [.int .i64 f.f0,.int .i64 f.f1,.int .i64 f.f2,.int .i64 f.f3,.int .i64 f.f4,.int .i64 f.f5,.int .i64 f.f6] 62] w2:=by
  rw[Zmg];unfold rowNd;rw[hlL];exact hA.pick pZ
 clear hA;have hn9:s.found≤9000:=by have:=hNlen.out;omega
 have hL1:(ndL N s).length≤1000:=by rw[hlL];exact hNlen.out
 rw[←hlL] at hcpn;clear hlL hkn hfd;generalize hcq:(s.count:Int)=cnt at *
 generalize s.found=n at *
 generalize ndL N s=L at *
 clear hcq hN hNlen;have hL':=Hd hL;have hA:=hB;clear hB hL;obtain⟨hA,hF⟩:=fZ hA;go_upto_region 3 with fail
 go_cut [8,9] from 23 to 34 (CutR w p m es f R b4 b7 axn capn sv wv cnt n L)
 case first=>
  (try go_frame);replace hA:=hA.drew;clear hF;refine wp_region_held (S:=fun w'=>Zaa w' b7 [.slice axn L.length capn,sv,wv,.int .i64 cnt,.int .i64 (n:Int)] 124) hm ?_;change wpAnyH _ _ _ _ _ 16 _ _ (World.drew _);generalize World.drew _=wd at *
  have hS0:(fun w'=>Zaa w' b7 [.slice axn L.length capn,sv,wv,.int .i64 cnt,.int .i64 (n:Int)] 124) wd:=hA.get (A:=Part.cells b7 [.slice axn L.length capn,sv,wv,.int .i64 cnt,.int .i64 (n:Int)] 124) sZ;refine tP 0 24 (.pointer (some ⟨b7,0,none⟩)) (s:=hS0) (h:= ?_);(try go_frame);refine tP 1 25 (.pointer (some ⟨b7,0,none⟩)) (s:=hS0) (h:= ?_);(try go_frame);refine tP 2 26 (.pointer (some ⟨b7,0,none⟩)) (s:=hS0) (h:= ?_);(try go_frame);refine tZ 3 27 (.slice axn L.length capn) (r:=(fun w' hS=>Zac (ty:=120) (b:=b7) (j:=0) rfl (by exact rfl) hS (by kernel_rfl) rfl)) (s:=hS0) (h:= ?_);(try go_frame);refine tP 4 28 (.pointer (some ⟨b7,0,none⟩)) (s:=hS0) (h:= ?_);(try go_frame);refine tP 5 29 (.pointer (some ⟨b7,0,none⟩)) (s:=hS0) (h:= ?_);(try go_frame);refine tP 6 30 (.pointer (some ⟨b7,4,none⟩)) (s:=hS0) (h:= ?_);(try go_frame);refine tZ 7 31 (.int .i64 (n:Int)) (r:=(fun w' hS=>Zac (ty:=3) (b:=b7) (j:=4) rfl (by exact rfl) hS (by kernel_rfl) rfl)) (s:=hS0) (h:= ?_);(try go_frame);refine Zgt (i:=8) (j:=12) (k:=13) (by kernel_rfl) ?_ ?_ ?_
  · skip;refine Zbq (i:=8) (d:=some 32) rfl rfl (by kernel_rfl) (fn:=56) (args:= #[.slice axn L.length capn,.int .i64 (n:Int)]) (by simp[execOp,go_sem,Act.eval,Act.put]) ((Zch (hA.sep2 (A:=rowNd (.slice axn L.length capn) L) (B:=restX L) sZ sZ) n hL'.out.kle hL'.out.kn.hn hL'.out.seven hL1 hn9).mono (fun e w' h=>Zd2.r h)) ?_;rintro u w3 ⟨ov,hv,O,H,rfl,hwt,hT⟩;have hB:=hA.call2 (A:=rowNd (.slice axn L.length capn) L) (B:=restX L) sZ sZ hT;have hwt':=Hd hwt;simp only[uA] at hB;obtain⟨axo,capo,hov,_,_,_⟩:=hB.row_form (e:=132) (size:=1) (n:=O.length) (v:=ov) (xs:=flatO O) sZ;obtain⟨axh,caph,hhv,_,_,_⟩:=hB.row_form (e:=24) (size:=1) (n:=H.length) (v:=hv) (xs:=flatH H) sZ;subst hov;subst hhv;clear hT hwt;have hS0:Zaa w3 b7 [.slice axn L.length capn,sv,wv,.int .i64 cnt,.int .i64 (n:Int)] 124:=hB.get (A:=Part.cells b7 [.slice axn L.length capn,sv,wv,.int .i64 cnt,.int .i64 (n:Int)] 124) sZ;clear hA;have hA:=hB;clear hB;refine⟨hS0,?_⟩;(try go_frame);refine tP 9 23 (.tuple #[.slice axo O.length capo,.slice axh H.length caph]) (s:=hS0) (h:= ?_);(try go_frame);refine tP 10 33 (.slice axo O.length capo) (s:=hS0) (h:= ?_);(try go_frame);refine tP 11 34 (.slice axh H.length caph) (s:=hS0) (h:= ?_);(try go_frame);refine ZaF (i:=12) (j:=13) (by kernel_rfl) ?_ ?_
    · skip;refine ZaS (i:=12) (d:=some 8) rfl rfl (by kernel_rfl) (E:=125) rfl (z:=.slice none 0 0) (vs:=[.slice none 0 0]) (by kernel_rfl) (by exact rfl) hA ?_;intro b8 w3 hB;have hS0:Zaa w3 b7 [.slice axn L.length capn,sv,wv,.int .i64 cnt,.int .i64 (n:Int)] 124:=hB.get (A:=Part.cells b7 [.slice axn L.length capn,sv,wv,.int .i64 cnt,.int .i64 (n:Int)] 124) sZ;clear hA;have hA:=hB;clear hB;refine⟨hS0,?_⟩;(try go_frame);refine Zab (i:=13) (by kernel_rfl) ?_;refine ZaS (i:=13) (d:=some 9) rfl rfl (by kernel_rfl) (E:=126) rfl (z:=.slice none 0 0) (vs:=[.slice none 0 0]) (by kernel_rfl) (by exact rfl) hA ?_;intro b9 w3 hB;have hS0:Zaa w3 b7 [.slice axn L.length capn,sv,wv,.int .i64 cnt,.int .i64 (n:Int)] 124:=hB.get (A:=Part.cells b7 [.slice axn L.length capn,sv,wv,.int .i64 cnt,.int .i64 (n:Int)] 124) sZ;clear hA;have hA:=hB;clear hB;refine⟨hS0,?_⟩;(try go_frame);refine Zab (i:=14) (by kernel_rfl) ?_;refine Zaf (i:=14) (b:=b8) (j:=0) (vs:=[.slice axo O.length capo]) rfl rfl (by kernel_rfl) rfl (by exact rfl) (by exact rfl) rfl hA sZ (by kernel_rfl) rfl (by show 0 + 1≤1;omega) ?_;intro w3 hB;simp only[uA] at hB;have hS0:Zaa w3 b7 [.slice axn L.length capn,sv,wv,.int .i64 cnt,.int .i64 (n:Int)] 124:=hB.get (A:=Part.cells b7 [.slice axn L.length capn,sv,wv,.int .i64 cnt,.int .i64 (n:Int)] 124) sZ;clear hA;have hA:=hB;clear hB;refine⟨hS0,?_⟩;(try go_frame);refine Zab (i:=15) (by kernel_rfl) ?_;refine Zaf (i:=15) (b:=b9) (j:=0) (vs:=[.slice axh H.length caph]) rfl rfl (by kernel_rfl) rfl (by exact rfl) (by exact rfl) rfl hA sZ (by kernel_rfl) rfl (by show 0 + 1≤1;omega) ?_;intro w3 hB;simp only[uA] at hB;have hS0:Zaa w3 b7 [.slice axn L.length capn,sv,wv,.int .i64 cnt,.int .i64 (n:Int)] 124:=hB.get (A:=Part.cells b7 [.slice axn L.length capn,sv,wv,.int .i64 cnt,.int .i64 (n:Int)] 124) sZ;clear hA;have hA:=hB;clear hB;refine⟨hS0,?_⟩;(try go_frame);refine wpAnyH_done (by kernel_rfl) ?_ _;(try go_frame);go_wp2_with fail;go_meet;case rel=>exact⟨b8,b9,_,_,O,H,rfl,rfl,hwt'.out,hA.pick pZ⟩
    skip;refine ZaS (i:=13) (d:=some 9) rfl rfl (by kernel_rfl) (E:=126) rfl (z:=.slice none 0 0) (vs:=[.slice none 0 0]) (by kernel_rfl) (by exact rfl) hA ?_;intro b9 w3 hB;have hS0:Zaa w3 b7 [.slice axn L.length capn,sv,wv,.int .i64 cnt,.int .i64 (n:Int)] 124:=hB.get (A:=Part.cells b7 [.slice axn L.length capn,sv,wv,.int .i64 cnt,.int .i64 (n:Int)] 124) sZ;clear hA;have hA:=hB;clear hB;refine⟨hS0,?_⟩;(try go_frame);refine Zab (i:=12) (by kernel_rfl) ?_;refine ZaS (i:=12) (d:=some 8) rfl rfl (by kernel_rfl) (E:=125) rfl (z:=.slice none 0 0) (vs:=[.slice none 0 0]) (by kernel_rfl) (by exact rfl) hA ?_;intro b8 w3 hB;have hS0:Zaa w3 b7 [.slice axn L.length capn,sv,wv,.int .i64 cnt,.int .i64 (n:Int)] 124:=hB.get (A:=Part.cells b7 [.slice axn L.length capn,sv,wv,.int .i64 cnt,.int .i64 (n:Int)] 124) sZ;clear hA;have hA:=hB;clear hB;refine⟨hS0,?_⟩;(try go_frame);refine Zab (i:=14) (by kernel_rfl) ?_;refine Zaf (i:=14) (b:=b8) (j:=0) (vs:=[.slice axo O.length capo]) rfl rfl (by kernel_rfl) rfl (by exact rfl) (by exact rfl) rfl hA sZ (by kernel_rfl) rfl (by show 0 + 1≤1;omega) ?_;intro w3 hB;simp only[uA] at hB;have hS0:Zaa w3 b7 [.slice axn L.length capn,sv,wv,.int .i64 cnt,.int .i64 (n:Int)] 124:=hB.get (A:=Part.cells b7 [.slice axn L.length capn,sv,wv,.int .i64 cnt,.int .i64 (n:Int)] 124) sZ;clear hA;have hA:=hB;clear hB;refine⟨hS0,?_⟩;(try go_frame);refine Zab (i:=15) (by kernel_rfl) ?_;refine Zaf (i:=15) (b:=b9) (j:=0) (vs:=[.slice axh H.length caph]) rfl rfl (by kernel_rfl) rfl (by exact rfl) (by exact rfl) rfl hA sZ (by kernel_rfl) rfl (by show 0 + 1≤1;omega) ?_;intro w3 hB;simp only[uA] at hB;have hS0:Zaa w3 b7 [.slice axn L.length capn,sv,wv,.int .i64 cnt,.int .i64 (n:Int)] 124:=hB.get (A:=Part.cells b7 [.slice axn L.length capn,sv,wv,.int .i64 cnt,.int .i64 (n:Int)] 124) sZ;clear hA;have hA:=hB;clear hB;refine⟨hS0,?_⟩;(try go_frame);refine wpAnyH_done (by kernel_rfl) ?_ _;(try go_frame);go_wp2_with fail;go_meet;case rel=>exact⟨b8,b9,_,_,O,H,rfl,rfl,hwt'.out,hA.pick pZ⟩
  · skip;refine ZaS (i:=12) (d:=some 8) rfl rfl (by kernel_rfl) (E:=125) rfl (z:=.slice none 0 0) (vs:=[.slice none 0 0]) (by kernel_rfl) (by exact rfl) hA ?_;intro b8 w3 hB;have hS0:Zaa w3 b7 [.slice axn L.length capn,sv,wv,.int .i64 cnt,.int .i64 (n:Int)] 124:=hB.get (A:=Part.cells b7 [.slice axn L.length capn,sv,wv,.int .i64 cnt,.int .i64 (n:Int)] 124) sZ;clear hA;have hA:=hB;clear hB;refine⟨hS0,?_⟩;(try go_frame);refine ZaF (i:=8) (j:=13) (by kernel_rfl) ?_ ?_
    · skip;refine Zbq (i:=8) (d:=some 32) rfl rfl (by kernel_rfl) (fn:=56) (args:= #[.slice axn L.length capn,.int .i64 (n:Int)]) (by simp[execOp,go_sem,Act.eval,Act.put]) ((Zch (hA.sep2 (A:=rowNd (.slice axn L.length capn) L) (B:=restX L) sZ sZ) n hL'.out.kle hL'.out.kn.hn hL'.out.seven hL1 hn9).mono (fun e w' h=>Zd2.r h)) ?_;rintro u w3 ⟨ov,hv,O,H,rfl,hwt,hT⟩;have hB:=hA.call2 (A:=rowNd (.slice axn L.length capn) L) (B:=restX L) sZ sZ hT;have hwt':=Hd hwt;simp only[uA] at hB;obtain⟨axo,capo,hov,_,_,_⟩:=hB.row_form (e:=132) (size:=1) (n:=O.length) (v:=ov) (xs:=flatO O) sZ;obtain⟨axh,caph,hhv,_,_,_⟩:=hB.row_form (e:=24) (size:=1) (n:=H.length) (v:=hv) (xs:=flatH H) sZ;subst hov;subst hhv;clear hT hwt;have hS0:Zaa w3 b7 [.slice axn L.length capn,sv,wv,.int .i64 cnt,.int .i64 (n:Int)] 124:=hB.get (A:=Part.cells b7 [.slice axn L.length capn,sv,wv,.int .i64 cnt,.int .i64 (n:Int)] 124) sZ;clear hA;have hA:=hB;clear hB;refine⟨hS0,?_⟩;(try go_frame);refine tP 9 23 (.tuple #[.slice axo O.length capo,.slice axh H.length caph]) (s:=hS0) (h:= ?_);(try go_frame);refine tP 10 33 (.slice axo O.length capo) (s:=hS0) (h:= ?_);(try go_frame);refine tP 11 34 (.slice axh H.length caph) (s:=hS0) (h:= ?_);(try go_frame);refine Zab (i:=13) (by kernel_rfl) ?_;refine ZaS (i:=13) (d:=some 9) rfl rfl (by kernel_rfl) (E:=126) rfl (z:=.slice none 0 0) (vs:=[.slice none 0 0]) (by kernel_rfl) (by exact rfl) hA ?_;intro b9 w3 hB;have hS0:Zaa w3 b7 [.slice axn L.length capn,sv,wv,.int .i64 cnt,.int .i64 (n:Int)] 124:=hB.get (A:=Part.cells b7 [.slice axn L.length capn,sv,wv,.int .i64 cnt,.int .i64 (n:Int)] 124) sZ;clear hA;have hA:=hB;clear hB;refine⟨hS0,?_⟩;(try go_frame);refine Zab (i:=14) (by kernel_rfl) ?_;refine Zaf (i:=14) (b:=b8) (j:=0) (vs:=[.slice axo O.length capo]) rfl rfl (by kernel_rfl) rfl (by exact rfl) (by exact rfl) rfl hA sZ (by kernel_rfl) rfl (by show 0 + 1≤1;omega) ?_;intro w3 hB;simp only[uA] at hB;have hS0:Zaa w3 b7 [.slice axn L.length capn,sv,wv,.int .i64 cnt,.int .i64 (n:Int)] 124:=hB.get (A:=Part.cells b7 [.slice axn L.length capn,sv,wv,.int .i64 cnt,.int .i64 (n:Int)] 124) sZ;clear hA;have hA:=hB;clear hB;refine⟨hS0,?_⟩;(try go_frame);refine Zab (i:=15) (by kernel_rfl) ?_;refine Zaf (i:=15) (b:=b9) (j:=0) (vs:=[.slice axh H.length caph]) rfl rfl (by kernel_rfl) rfl (by exact rfl) (by exact rfl) rfl hA sZ (by kernel_rfl) rfl (by show 0 + 1≤1;omega) ?_;intro w3 hB;simp only[uA] at hB;have hS0:Zaa w3 b7 [.slice axn L.length capn,sv,wv,.int .i64 cnt,.int .i64 (n:Int)] 124:=hB.get (A:=Part.cells b7 [.slice axn L.length capn,sv,wv,.int .i64 cnt,.int .i64 (n:Int)] 124) sZ;clear hA;have hA:=hB;clear hB;refine⟨hS0,?_⟩;(try go_frame);refine wpAnyH_done (by kernel_rfl) ?_ _;(try go_frame);go_wp2_with fail;go_meet;case rel=>exact⟨b8,b9,_,_,O,H,rfl,rfl,hwt'.out,hA.pick pZ⟩
    skip;refine ZaS (i:=13) (d:=some 9) rfl rfl (by kernel_rfl) (E:=126) rfl (z:=.slice none 0 0) (vs:=[.slice none 0 0]) (by kernel_rfl) (by exact rfl) hA ?_;intro b9 w3 hB;have hS0:Zaa w3 b7 [.slice axn L.length capn,sv,wv,.int .i64 cnt,.int .i64 (n:Int)] 124:=hB.get (A:=Part.cells b7 [.slice axn L.length capn,sv,wv,.int .i64 cnt,.int .i64 (n:Int)] 124) sZ;clear hA;have hA:=hB;clear hB;refine⟨hS0,?_⟩;(try go_frame);refine Zab (i:=8) (by kernel_rfl) ?_;refine Zbq (i:=8) (d:=some 32) rfl rfl (by kernel_rfl) (fn:=56) (args:= #[.slice axn L.length capn,.int .i64 (n:Int)]) (by simp[execOp,go_sem,Act.eval,Act.put]) ((Zch (hA.sep2 (A:=rowNd (.slice axn L.length capn) L) (B:=restX L) sZ sZ) n hL'.out.kle hL'.out.kn.hn hL'.out.seven hL1 hn9).mono (fun e w' h=>Zd2.r h)) ?_;rintro u w3 ⟨ov,hv,O,H,rfl,hwt,hT⟩;have hB:=hA.call2 (A:=rowNd (.slice axn L.length capn) L) (B:=restX L) sZ sZ hT;have hwt':=Hd hwt;simp only[uA] at hB;obtain⟨axo,capo,hov,_,_,_⟩:=hB.row_form (e:=132) (size:=1) (n:=O.length) (v:=ov) (xs:=flatO O) sZ;obtain⟨axh,caph,hhv,_,_,_⟩:=hB.row_form (e:=24) (size:=1) (n:=H.length) (v:=hv) (xs:=flatH H) sZ;subst hov;subst hhv;clear hT hwt;have hS0:Zaa w3 b7 [.slice axn L.length capn,sv,wv,.int .i64 cnt,.int .i64 (n:Int)] 124:=hB.get (A:=Part.cells b7 [.slice axn L.length capn,sv,wv,.int .i64 cnt,.int .i64 (n:Int)] 124) sZ;clear hA;have hA:=hB;clear hB;refine⟨hS0,?_⟩;(try go_frame);refine tP 9 23 (.tuple #[.slice axo O.length capo,.slice axh H.length caph]) (s:=hS0) (h:= ?_);(try go_frame);refine tP 10 33 (.slice axo O.length capo) (s:=hS0) (h:= ?_);(try go_frame);refine tP 11 34 (.slice axh H.length caph) (s:=hS0) (h:= ?_);(try go_frame);refine Zab (i:=14) (by kernel_rfl) ?_;refine Zaf (i:=14) (b:=b8) (j:=0) (vs:=[.slice axo O.length capo]) rfl rfl (by kernel_rfl) rfl (by exact rfl) (by exact rfl) rfl hA sZ (by kernel_rfl) rfl (by show 0 + 1≤1;omega) ?_;intro w3 hB;simp only[uA] at hB;have hS0:Zaa w3 b7 [.slice axn L.length capn,sv,wv,.int .i64 cnt,.int .i64 (n:Int)] 124:=hB.get (A:=Part.cells b7 [.slice axn L.length capn,sv,wv,.int .i64 cnt,.int .i64 (n:Int)] 124) sZ;clear hA;have hA:=hB;clear hB;refine⟨hS0,?_⟩;(try go_frame);refine Zab (i:=15) (by kernel_rfl) ?_;refine Zaf (i:=15) (b:=b9) (j:=0) (vs:=[.slice axh H.length caph]) rfl rfl (by kernel_rfl) rfl (by exact rfl) (by exact rfl) rfl hA sZ (by kernel_rfl) rfl (by show 0 + 1≤1;omega) ?_;intro w3 hB;simp only[uA] at hB;have hS0:Zaa w3 b7 [.slice axn L.length capn,sv,wv,.int .i64 cnt,.int .i64 (n:Int)] 124:=hB.get (A:=Part.cells b7 [.slice axn L.length capn,sv,wv,.int .i64 cnt,.int .i64 (n:Int)] 124) sZ;clear hA;have hA:=hB;clear hB;refine⟨hS0,?_⟩;(try go_frame);refine wpAnyH_done (by kernel_rfl) ?_ _;(try go_frame);go_wp2_with fail;go_meet;case rel=>exact⟨b8,b9,_,_,O,H,rfl,rfl,hwt'.out,hA.pick pZ⟩
  skip;refine ZaS (i:=13) (d:=some 9) rfl rfl (by kernel_rfl) (E:=126) rfl (z:=.slice none 0 0) (vs:=[.slice none 0 0]) (by kernel_rfl) (by exact rfl) hA ?_;intro b9 w3 hB;have hS0:Zaa w3 b7 [.slice axn L.length capn,sv,wv,.int .i64 cnt,.int .i64 (n:Int)] 124:=hB.get (A:=Part.cells b7 [.slice axn L.length capn,sv,wv,.int .i64 cnt,.int .i64 (n:Int)] 124) sZ;clear hA;have hA:=hB;clear hB;refine⟨hS0,?_⟩;(try go_frame);refine ZaF (i:=8) (j:=12) (by kernel_rfl) ?_ ?_
  · skip;refine Zbq (i:=8) (d:=some 32) rfl rfl (by kernel_rfl) (fn:=56) (args:= #[.slice axn L.length capn,.int .i64 (n:Int)]) (by simp[execOp,go_sem,Act.eval,Act.put]) ((Zch (hA.sep2 (A:=rowNd (.slice axn L.length capn) L) (B:=restX L) sZ sZ) n hL'.out.kle hL'.out.kn.hn hL'.out.seven hL1 hn9).mono (fun e w' h=>Zd2.r h)) ?_;rintro u w3 ⟨ov,hv,O,H,rfl,hwt,hT⟩;have hB:=hA.call2 (A:=rowNd (.slice axn L.length capn) L) (B:=restX L) sZ sZ hT;have hwt':=Hd hwt;simp only[uA] at hB;obtain⟨axo,capo,hov,_,_,_⟩:=hB.row_form (e:=132) (size:=1) (n:=O.length) (v:=ov) (xs:=flatO O) sZ;obtain⟨axh,caph,hhv,_,_,_⟩:=hB.row_form (e:=24) (size:=1) (n:=H.length) (v:=hv) (xs:=flatH H) sZ;subst hov;subst hhv;clear hT hwt;have hS0:Zaa w3 b7 [.slice axn L.length capn,sv,wv,.int .i64 cnt,.int .i64 (n:Int)] 124:=hB.get (A:=Part.cells b7 [.slice axn L.length capn,sv,wv,.int .i64 cnt,.int .i64 (n:Int)] 124) sZ;clear hA;have hA:=hB;clear hB;refine⟨hS0,?_⟩;(try go_frame);refine tP 9 23 (.tuple #[.slice axo O.length capo,.slice axh H.length caph]) (s:=hS0) (h:= ?_);(try go_frame);refine tP 10 33 (.slice axo O.length capo) (s:=hS0) (h:= ?_);(try go_frame);refine tP 11 34 (.slice axh H.length caph) (s:=hS0) (h:= ?_);(try go_frame);refine Zab (i:=12) (by kernel_rfl) ?_;refine ZaS (i:=12) (d:=some 8) rfl rfl (by kernel_rfl) (E:=125) rfl (z:=.slice none 0 0) (vs:=[.slice none 0 0]) (by kernel_rfl) (by exact rfl) hA ?_;intro b8 w3 hB;have hS0:Zaa w3 b7 [.slice axn L.length capn,sv,wv,.int .i64 cnt,.int .i64 (n:Int)] 124:=hB.get (A:=Part.cells b7 [.slice axn L.length capn,sv,wv,.int .i64 cnt,.int .i64 (n:Int)] 124) sZ;clear hA;have hA:=hB;clear hB;refine⟨hS0,?_⟩;(try go_frame);refine Zab (i:=14) (by kernel_rfl) ?_;refine Zaf (i:=14) (b:=b8) (j:=0) (vs:=[.slice axo O.length capo]) rfl rfl (by kernel_rfl) rfl (by exact rfl) (by exact rfl) rfl hA sZ (by kernel_rfl) rfl (by show 0 + 1≤1;omega) ?_;intro w3 hB;simp only[uA] at hB;have hS0:Zaa w3 b7 [.slice axn L.length capn,sv,wv,.int .i64 cnt,.int .i64 (n:Int)] 124:=hB.get (A:=Part.cells b7 [.slice axn L.length capn,sv,wv,.int .i64 cnt,.int .i64 (n:Int)] 124) sZ;clear hA;have hA:=hB;clear hB;refine⟨hS0,?_⟩;(try go_frame);refine Zab (i:=15) (by kernel_rfl) ?_;refine Zaf (i:=15) (b:=b9) (j:=0) (vs:=[.slice axh H.length caph]) rfl rfl (by kernel_rfl) rfl (by exact rfl) (by exact rfl) rfl hA sZ (by kernel_rfl) rfl (by show 0 + 1≤1;omega) ?_;intro w3 hB;simp only[uA] at hB;have hS0:Zaa w3 b7 [.slice axn L.length capn,sv,wv,.int .i64 cnt,.int .i64 (n:Int)] 124:=hB.get (A:=Part.cells b7 [.slice axn L.length capn,sv,wv,.int .i64 cnt,.int .i64 (n:Int)] 124) sZ;clear hA;have hA:=hB;clear hB;refine⟨hS0,?_⟩;(try go_frame);refine wpAnyH_done (by kernel_rfl) ?_ _;(try go_frame);go_wp2_with fail;go_meet;case rel=>exact⟨b8,b9,_,_,O,H,rfl,rfl,hwt'.out,hA.pick pZ⟩
  skip;refine ZaS (i:=12) (d:=some 8) rfl rfl (by kernel_rfl) (E:=125) rfl (z:=.slice none 0 0) (vs:=[.slice none 0 0]) (by kernel_rfl) (by exact rfl) hA ?_;intro b8 w3 hB;have hS0:Zaa w3 b7 [.slice axn L.length capn,sv,wv,.int .i64 cnt,.int .i64 (n:Int)] 124:=hB.get (A:=Part.cells b7 [.slice axn L.length capn,sv,wv,.int .i64 cnt,.int .i64 (n:Int)] 124) sZ;clear hA;have hA:=hB;clear hB;refine⟨hS0,?_⟩;(try go_frame);refine Zab (i:=8) (by kernel_rfl) ?_;refine Zbq (i:=8) (d:=some 32) rfl rfl (by kernel_rfl) (fn:=56) (args:= #[.slice axn L.length capn,.int .i64 (n:Int)]) (by simp[execOp,go_sem,Act.eval,Act.put]) ((Zch (hA.sep2 (A:=rowNd (.slice axn L.length capn) L) (B:=restX L) sZ sZ) n hL'.out.kle hL'.out.kn.hn hL'.out.seven hL1 hn9).mono (fun e w' h=>Zd2.r h)) ?_;rintro u w3 ⟨ov,hv,O,H,rfl,hwt,hT⟩;have hB:=hA.call2 (A:=rowNd (.slice axn L.length capn) L) (B:=restX L) sZ sZ hT;have hwt':=Hd hwt;simp only[uA] at hB;obtain⟨axo,capo,hov,_,_,_⟩:=hB.row_form (e:=132) (size:=1) (n:=O.length) (v:=ov) (xs:=flatO O) sZ;obtain⟨axh,caph,hhv,_,_,_⟩:=hB.row_form (e:=24) (size:=1) (n:=H.length) (v:=hv) (xs:=flatH H) sZ;subst hov;subst hhv;clear hT hwt;have hS0:Zaa w3 b7 [.slice axn L.length capn,sv,wv,.int .i64 cnt,.int .i64 (n:Int)] 124:=hB.get (A:=Part.cells b7 [.slice axn L.length capn,sv,wv,.int .i64 cnt,.int .i64 (n:Int)] 124) sZ;clear hA;have hA:=hB;clear hB;refine⟨hS0,?_⟩;(try go_frame);refine tP 9 23 (.tuple #[.slice axo O.length capo,.slice axh H.length caph]) (s:=hS0) (h:= ?_);(try go_frame);refine tP 10 33 (.slice axo O.length capo) (s:=hS0) (h:= ?_);(try go_frame);refine tP 11 34 (.slice axh H.length caph) (s:=hS0) (h:= ?_);(try go_frame);refine Zab (i:=14) (by kernel_rfl) ?_;refine Zaf (i:=14) (b:=b8) (j:=0) (vs:=[.slice axo O.length capo]) rfl rfl (by kernel_rfl) rfl (by exact rfl) (by exact rfl) rfl hA sZ (by kernel_rfl) rfl (by show 0 + 1≤1;omega) ?_;intro w3 hB;simp only[uA] at hB;have hS0:Zaa w3 b7 [.slice axn L.length capn,sv,wv,.int .i64 cnt,.int .i64 (n:Int)] 124:=hB.get (A:=Part.cells b7 [.slice axn L.length capn,sv,wv,.int .i64 cnt,.int .i64 (n:Int)] 124) sZ;clear hA;have hA:=hB;clear hB;refine⟨hS0,?_⟩;(try go_frame);refine Zab (i:=15) (by kernel_rfl) ?_;refine Zaf (i:=15) (b:=b9) (j:=0) (vs:=[.slice axh H.length caph]) rfl rfl (by kernel_rfl) rfl (by exact rfl) (by exact rfl) rfl hA sZ (by kernel_rfl) rfl (by show 0 + 1≤1;omega) ?_;intro w3 hB;simp only[uA] at hB;have hS0:Zaa w3 b7 [.slice axn L.length capn,sv,wv,.int .i64 cnt,.int .i64 (n:Int)] 124:=hB.get (A:=Part.cells b7 [.slice axn L.length capn,sv,wv,.int .i64 cnt,.int .i64 (n:Int)] 124) sZ;clear hA;have hA:=hB;clear hB;refine⟨hS0,?_⟩;(try go_frame);refine wpAnyH_done (by kernel_rfl) ?_ _;(try go_frame);go_wp2_with fail;go_meet;case rel=>exact⟨b8,b9,_,_,O,H,rfl,rfl,hwt'.out,hA.pick pZ⟩
 case rest=>
  obtain⟨b8,b9,ov,hv,O,H,rfl,rfl,hwt,hB⟩:=hcut;clear hF hA;simp only[orL] at hB;have hst:=hwt.start;obtain⟨axo,capo,hov,_,hco,_⟩:=hB.row_form (e:=132) (size:=1) (n:=O.length) (v:=ov) (xs:=flatO O) sZ;obtain⟨axh,caph,hhv,_,hch,_⟩:=hB.row_form (e:=24) (size:=1) (n:=H.length) (v:=hv) (xs:=flatH H) sZ;subst hov;subst hhv;rw[hst.lo] at hB hco;rw[hst.lh] at hB hch;have hst':=Hd hst;clear hwt hst;have hA:=hB;clear hB;obtain⟨hA,hF⟩:=fZ hA;go_wp2_with fail;(try go_frame);have hB:=hA.row_nil 33 2;clear hF hA;go_loopg [10] L.length (OrRel w p m es f R b4 b7 b8 b9 axn capn sv wv cnt n (.slice axo (n + 1) capo) (.slice axh (n + 1) caph) L (enL es (lstG es l)))
  case atStart=>exact⟨[],[],O,H,OrdS.start,hst'.out,by simp only[orL];exact hB.pick pZ⟩
  case round=>
   obtain⟨gone,pre,O1,H1,hos,hoi,hC⟩:=hrel;simp only[orL] at hC;have hro:rowO (.slice axo (n + 1) capo) O1=Part.row 132 1 (.slice axo (n + 1) capo) (n + 1) (flatO O1):=by unfold rowO;rw[hoi.lo]
   have hrh:rowH (.slice axh (n + 1) caph) H1=Part.row 24 1 (.slice axh (n + 1) caph) (n + 1) (flatH H1):=by unfold rowH;rw[hoi.lh]
   rw[hro,hrh] at hC;clear hB;have hPl:=Hd (show(pre.map (idK (enL es (lstG es l)))).length≤1000 from by rw[List.length_map];have:=hos.le;omega);have hPe:=Hd (show(pre.map (idK (enL es (lstG es l)))).length=pre.length from List.length_map ..);have hos':=Hd hos;have hoi':=Hd hoi;clear hos hoi hro hrh;generalize hP:pre.map (idK (enL es (lstG es l)))=P at *
   have hP':=Hd hP;clear hP;obtain⟨axP,capP,hvP,_,hcpP,_⟩:=hC.row_form .here;subst hvP;have hA:=hC;clear hC;by_cases hlt:P.length < L.length
   · have hlt2:pre.length < L.length:=by rw[←hPe.out];exact hlt
     have hltI:(P.length:Int) < L.length:=by omega
     obtain⟨hA,hF⟩:=fZ hA;go_wp2_with fail
     have hB:At [R,GrP p m es] w (kaL b9 b8 (.slice axh (n + 1) caph) (.slice axo (n + 1) capo) O1 H1++[rowI2 (.slice axP P.length capP) P,restH H1,Part.cells b7 [.slice axn L.length capn,sv,wv,.int .i64 cnt,.int .i64 (n:Int)] 124,rowNd (.slice axn L.length capn) L,restX L,R,GrP p m es,Part.cells b4 [.int .i64 f.f0,.int .i64 f.f1,.int .i64 f.f2,.int .i64 f.f3,.int .i64 f.f4,.int .i64 f.f5,.int .i64 f.f6] 62]) wr:=by
      simp only[kaL,rowO,rowH];rw[hoi'.out.lo,hoi'.out.lh];exact hA.pick pZ
     have hC:=hB.to (Zfw b9 b8 (.slice axh (n + 1) caph) (.slice axo (n + 1) capo) O1 H1 _).symm;clear hF hA hB
     have hin:InN O1 H1 L:=fun d hd=>by
      obtain⟨i,hi⟩:=List.mem_iff_getElem?.1 hd;have:=hL'.out.kle i d hi;exact⟨_,_,List.getElem?_eq_getElem (by rw[hoi'.out.lh];omega),List.getElem?_eq_getElem (by rw[hoi'.out.lo];omega)⟩
     refine(ZmI (v:=.slice axn L.length capn) (L:=L) (b9:=b9) (b8:=b8) (hv:=.slice axh (n + 1) caph) (ov:=.slice axo (n + 1) capo) (O:=O1) (H:=H1) (hC.sep2 (A:=rowNd (.slice axn L.length capn) L) (B:=kaP b9 b8 (.slice axh (n + 1) caph) (.slice axo (n + 1) capo) O1 H1) sZ sZ) hin (by omega)).mono ?_;rintro e w1 ⟨⟨i,d,rfl,hd,hf,hno⟩|⟨rfl,hno⟩,hT⟩
     · have hB:=hC.call2 (A:=rowNd (.slice axn L.length capn) L) (B:=kaP b9 b8 (.slice axh (n + 1) caph) (.slice axo (n + 1) capo) O1 H1) sZ sZ hT;have hB2:At [R,GrP p m es] w _ w1:=(hB.take (A:=kaP b9 b8 (.slice axh (n + 1) caph) (.slice axo (n + 1) capo) O1 H1) sZ).to (Zfw b9 b8 (.slice axh (n + 1) caph) (.slice axo (n + 1) capo) O1 H1 _);clear hC hT hB;simp only[kaL,rowO,rowH,List.cons_append,List.nil_append] at hB2;rw[hoi'.out.lo,hoi'.out.lh] at hB2;have hnx:=hoi'.out.next hL'.out.kle hd hf hno;have hfr:=List.find?_some hnx;have hkn:=ZkX hd;have hos2:=hos'.out.step hL'.out.kn hlt2 hnx;rw[hkn] at hos2;have hgn:d.knot ∉ gone:=by have:=(Tar.Zbk.1 hfr).1;rwa [hkn] at this
       have hkl:=hL'.out.kle i d hd
       obtain⟨x,hx⟩:∃x,H1[d.knot]? =some x:=⟨_,List.getElem?_eq_getElem (by rw[hoi'.out.lh];omega)⟩
       have hxs:=hoi'.out.has _ _ hx hgn;have hi:=(List.getElem?_eq_some_iff.1 hd).1;have hiI:(i:Int) < L.length:=by omega
       have hxne:=Hd (show x.hs≠[] from fun e=>by
        have h1:i ∈ knotL L.length (knF L) d.knot:=Tar.Zdp.2 ⟨hi,hkn⟩;rw[←hxs.1,e] at h1
        cases h1)
       have hxl:=Hd (show x.hs.length≤1000 from by rw[hxs.1];exact Nat.le_trans Tar.Zmz hL1);have hkt:=Hd (show KtIn es L x.hs (enL es (lstG es l)) from by rw[hxs.1];exact hL'.out.kt _ (Tar.ZeQ ..) fun j hj=>(Tar.Zdp.1 hj).1);rw[←hxs.1] at hos2;have hos2':=Hd hos2;have hx':=Hd hx;have hno':=Hd hno;have hlh1:=Hd hoi'.out.lh;have hlo1:=Hd hoi'.out.lo;have hspH:=Hd (ZbH hx);obtain⟨bn,offn,hax2,hce2⟩:=ZaZ Nd.cells_len (by omega) (l:=L) (x:=d) (hB2.row_reads (v:=.slice axn L.length capn) (n:=L.length) (xs:=flatN L) sZ) hd;have hc6:w1.cell? ⟨bn,offn + i * 7 + 6,none⟩=some (.int .i64 d.knot):=hce2 6 _ rfl;have hd':=Hd hd;clear hnx hfr hno hf hx hxs hce2 hd hos2;subst hax2;have hA:=hB2;clear hB2;replace hA:=outH hspH.out hA sZ;simp only[Hs.v] at hA;obtain⟨gH,cH,hgx,hH1,hH2c,hH3,hH4,hB⟩:=hA.row_open (e:=24) (size:=1) (ax:=axh) (cap:=caph) (n:=n + 1) (xs:=flatH H1) sZ (by omega);subst hgx;replace hA:=hB;clear hB;have hcx:cH[d.knot]? =some (.slice x.ha x.hs.length x.hc):=by have:=Zaq (enc:=Hs.cells) (size:=1) (fun _=>rfl) (c:=cH) (l:=H1) (by rw[hlh1.out];exact hH4) hx'.out 0 (by omega);simpa [Hs.cells] using this
       have hH4:=Hd hH4;have hkI:(d.knot:Int) < (n:Int) + 1:=by omega
       obtain⟨hA,hF⟩:=fZ hA;go_upto_region 8 with fail
       (try go_frame);replace hA:=hA.drew;clear hF;refine wp_region_held (S:=fun w'=>Zaa w' b7 [.slice (some ⟨bn,offn,none⟩) L.length capn,sv,wv,.int .i64 cnt,.int .i64 (n:Int)] 124∧Zaa w' b9 [.slice (some ⟨gH,0,none⟩) (n + 1) caph] 126∧Zaa w' gH cH 24) hm ?_;change wpAnyH _ _ _ _ _ 13 _ _ (World.drew _);generalize World.drew _=wd at *
       have hS0:=(⟨hA.get (A:=Part.cells b7 [.slice (some ⟨bn,offn,none⟩) L.length capn,sv,wv,.int .i64 cnt,.int .i64 (n:Int)] 124) sZ,hA.get (A:=Part.cells b9 [.slice (some ⟨gH,0,none⟩) (n + 1) caph] 126) sZ,hA.get (A:=Part.cells gH cH 24) sZ⟩:(fun w'=>Zaa w' b7 [.slice (some ⟨bn,offn,none⟩) L.length capn,sv,wv,.int .i64 cnt,.int .i64 (n:Int)] 124∧Zaa w' b9 [.slice (some ⟨gH,0,none⟩) (n + 1) caph] 126∧Zaa w' gH cH 24) wd)
       refine tP 0 57 (.slice axP P.length capP) (s:=hS0) (h:= ?_);(try go_frame);refine tP 1 58 (.pointer (some ⟨p,0,none⟩)) (s:=hS0) (h:= ?_);(try go_frame);refine tP 2 59 (.pointer (some ⟨b7,0,none⟩)) (s:=hS0) (h:= ?_);(try go_frame);refine tP 3 60 (.pointer (some ⟨b7,0,none⟩)) (s:=hS0) (h:= ?_);(try go_frame);refine tP 4 61 (.pointer (some ⟨b7,0,none⟩)) (s:=hS0) (h:= ?_);(try go_frame);refine tZ 5 62 (.slice (some ⟨bn,offn,none⟩) L.length capn) (r:=(fun w' hS=>Zac (ty:=120) (b:=b7) (j:=0) rfl (by exact rfl) hS.1 (by kernel_rfl) rfl)) (s:=hS0) (h:= ?_);(try go_frame);refine tZ 6 63 (.slice (some ⟨gH,0,none⟩) (n + 1) caph) (r:=(fun w' hS=>Zac (ty:=126) (b:=b9) (j:=0) rfl (by exact rfl) hS.2.1 (by kernel_rfl) rfl)) (s:=hS0) (h:= ?_);(try go_frame);refine tP 7 64 (.int .i64 (d.knot:Int)) (s:=hS0) (h:= ?_);(try go_frame);refine tZ 8 65 (.pointer (some ⟨gH,d.knot,none⟩)) (r:=(fun w' hS=>by simp[execOp,go_sem,Act.eval,Act.put];omega)) (s:=hS0) (h:= ?_);(try go_frame);refine tZ 9 66 (.slice x.ha x.hs.length x.hc) (r:=(fun w' hS=>Zac (ty:=24) (b:=gH) (j:=d.knot) rfl (by exact rfl) hS.2.2 (by kernel_rfl) hcx)) (s:=hS0) (h:= ?_);(try go_frame);refine Zab (i:=10) (by kernel_rfl) ?_;refine cY 10 67 59 (fun u w'=>At [GrP p m es,rowNd (.slice (some ⟨bn,offn,none⟩) L.length capn) L,rowX (.slice x.ha x.hs.length x.hc) x.hs] wd [rowI2 u ((sortS (sqE (enL es (lstG es l))) x.hs).map (idK (enL es (lstG es l)))),GrP p m es,rowNd (.slice (some ⟨bn,offn,none⟩) L.length capn) L,rowX (.slice x.ha x.hs.length x.hc) x.hs] w') ((ZmA (hA.sep3 (A:=GrP p m es) (B:=rowNd (.slice (some ⟨bn,offn,none⟩) L.length capn) L) (C:=rowX (.slice x.ha x.hs.length x.hc) x.hs) sZ sZ sZ) hkt.out hxne.out hxl.out hL1 hoke'.out hu'.out).mono fun e w' ⟨v,he,hT⟩=>⟨v,he,hT⟩) ?_;intro vq w3 hT;have hB:=hA.call3 (A:=GrP p m es) (B:=rowNd (.slice (some ⟨bn,offn,none⟩) L.length capn) L) (C:=rowX (.slice x.ha x.hs.length x.hc) x.hs) sZ sZ sZ hT;simp only[uA] at hB;generalize hQ:(sortS (sqE (enL es (lstG es l))) x.hs).map (idK (enL es (lstG es l)))=QQ at *
       have hQl:=Hd (show QQ.length=x.hs.length from by rw[←hQ,List.length_map,Zj7]);have hQ':=Hd hQ;clear hT hQ;refine andH ⟨hB.ci,hB.ci,hB.ci⟩ fun hS0=> ?_;replace hA:=hB;clear hB;(try go_frame);refine Zab (i:=11) (by kernel_rfl) ?_;refine Zb3 (k:=11) (d:=some 68) (e:=33) (size:=2) (v:=.slice axP P.length capP) (xs:=flatI P) (n:=P.length) (m:=QQ.length) (news:=flatI QQ) rfl rfl rfl rfl _ _ 55 rfl Tryz.underlying55 hi0 hz0 hz1 hz2 rfl (by omega) hA sZ (by(try simp only[Act.eval,eV])<;>exact rfl) (by(try simp only[Act.eval,eV])<;>exact rfl) (ZeU _) (hA.row_reads (v:=vq) (n:=QQ.length) (xs:=flatI QQ) sZ) (Zdw _) (by have:=hQl.out;have:=hxl.out;have:=hPl.out;unfold maxLen;omega) (by have:=hQl.out;have:=hxl.out;have:=hPl.out;omega) ?_;intro vp w3 hB;rw[ZgM] at hB;refine andH ⟨hB.ci,hB.ci,hB.ci⟩ fun hS0=> ?_;replace hA:=hB;clear hB;(try go_frame);refine tP 12 10 (vp) (s:=hS0) (h:= ?_);(try go_frame);refine wpAnyH_done (by kernel_rfl) ?_ _;(try go_frame);clear hS0;obtain⟨hA,hF⟩:=fZ hA
       go_wp2_with ((with_reducible show wpList _ _ _ ({dst:=none,op:=Op.store _ _ _,type:=_,pos:=_,after:=_,guard:=_}::_) _ _);refine Zax (b:=gH) (j:=d.knot) (c:=cH) (vs:=[.slice none 0 0]) rfl rfl (by(try simp only[Act.eval,eV])<;>exact rfl) (by(try simp only[Act.eval,eV])<;>exact rfl) (by exact rfl) hA sZ (by kernel_rfl) rfl (by show d.knot + 1≤cH.length;omega) ?_;intro w1 hB;replace hA:=hB;clear hF hB;obtain⟨hA,hF⟩:=fZ hA)
       (try go_frame);have hw5:=ZaL (enc:=Hs.cells) (size:=1) (fun _=>rfl) (c:=cH) (l:=H1) (by rw[hlh1.out];exact hH4.out) (o:=0) (x':=(⟨none,0,[]⟩:Hs)) (vs:=[.slice none 0 0]) hx'.out rfl (by show 0 + 1≤1;omega);rw[show d.knot * 1 + 0=d.knot from by omega] at hw5
       obtain⟨H2,hH2⟩:∃z,H1.set d.knot (⟨none,0,[]⟩:Hs)=z:=⟨_,rfl⟩
       have hl2:H2.length=n + 1:=by rw[←hH2,List.length_set,hlh1.out]
       rw[hH2,hlh1.out] at hw5;have hB:=hA.row_shut (e:=24) (size:=1) (g:=gH) (n:=n + 1) (cap:=caph) (xs:=flatH H2) sZ (by rw[Zan];exact hH3) hH1 hH2c hw5;have hsp2:H2=H1.take d.knot++⟨none,0,[]⟩::H1.drop (d.knot + 1):=by rw[←hH2,ZdX hx'.out]
       have hD:=hB.row_nil 3 1;have hC:=inH (d:=⟨none,0,[]⟩) hsp2 hD .here sZ;have hH2':=Hd hH2;have hl2':=Hd hl2;clear hF hA hB hD hw5 hH2 hsp2 hl2;have hA:At [R,GrP p m es] w [restO O1,Part.row 132 1 (.slice axo (n + 1) capo) (n + 1) (flatO O1),Part.cells b8 [.slice axo (n + 1) capo] 125,Part.cells b9 [.slice (some ⟨gH,0,none⟩) (n + 1) caph] 126,restH H2,Part.row 24 1 (.slice (some ⟨gH,0,none⟩) (n + 1) caph) (n + 1) (flatH H2),rowI2 vp (P++QQ),Part.cells b7 [.slice (some ⟨bn,offn,none⟩) L.length capn,sv,wv,.int .i64 cnt,.int .i64 (n:Int)] 124,rowNd (.slice (some ⟨bn,offn,none⟩) L.length capn) L,restX L,R,GrP p m es,Part.cells b4 [.int .i64 f.f0,.int .i64 f.f1,.int .i64 f.f2,.int .i64 f.f3,.int .i64 f.f4,.int .i64 f.f5,.int .i64 f.f6] 62] _:=hC.pick pZ;clear hC
       obtain⟨G,hG⟩:∃G,gk - 1=G:=⟨_,rfl⟩
       have hGk:=Hd (show G < gk from by have:=hos2'.out.1;omega);have hos3:=hos2'.out.2;rw[hG] at hos3;have hos3':=Hd hos3;have hn1:=Hd (show ∀z:Nat,z=n + 1→(z:Int)=(n:Int) + 1 from fun z e=>by omega);clear hG hos3;obtain⟨gO,cO,hgo,_,_,_,_,_⟩:=hA.row_open (e:=132) (size:=1) (ax:=axo) (cap:=capo) (n:=n + 1) (xs:=flatO O1) sZ (by omega);subst hgo;obtain⟨kl,hkl2⟩:=keyN (k:=d.knot) (by omega);go_loopg [74] (n + 1) (DlRel w [R,GrP p m es] [Part.row 132 1 (.slice (some ⟨gO,0,none⟩) (n + 1) capo) (n + 1) (flatO O1),Part.cells b8 [.slice (some ⟨gO,0,none⟩) (n + 1) capo] 125,Part.cells b9 [.slice (some ⟨gH,0,none⟩) (n + 1) caph] 126,Part.row 24 1 (.slice (some ⟨gH,0,none⟩) (n + 1) caph) (n + 1) (flatH H2),restH H2,rowI2 vp (P++QQ),Part.cells b7 [.slice (some ⟨bn,offn,none⟩) L.length capn,sv,wv,.int .i64 cnt,.int .i64 (n:Int)] 124,rowNd (.slice (some ⟨bn,offn,none⟩) L.length capn) L,restX L,R,GrP p m es,Part.cells b4 [.int .i64 f.f0,.int .i64 f.f1,.int .i64 f.f2,.int .i64 f.f3,.int .i64 f.f4,.int .i64 f.f5,.int .i64 f.f6] 62] d.knot O1 n)
       case atStart=>exact⟨0,rfl,by omega,by rw[Zlp];exact hA.pick pZ⟩
       case round=>
        obtain⟨j,rfl,hjk,hB⟩:=hrel;clear hA hcx hc6;have hA:=hB;clear hB;by_cases hj:j < n + 1
        · skip
          obtain⟨o,ho⟩:∃o,O1[j]? =some o:=⟨_,List.getElem?_eq_getElem (by rw[hlo1.out];exact hj)⟩
          have hjI:(j:Int) < (n:Int) + 1:=by omega
          have hc:wr.cell? ⟨gO,j,none⟩=some (.map o.mb):=by
           have:=ZbT (enc:=Wt.cells) (fun _=>rfl) (e:=132) (n:=n + 1) (cap:=capo) (b:=gO) (off:=0) hA sZ ho rfl
           rwa [Nat.zero_add] at this
          have hsp:=Hd (Zlq (k:=d.knot) ho);have hB:=outO (ZoL ho) hA sZ;have ho':=Hd ho;clear hA ho;have hA:=hB;clear hB;obtain⟨mb,ws⟩:=o
          cases mb with
          |none=>
           have hdn:=fun w ty=>ZjJ hkl2 w ty;obtain⟨hA,hF⟩:=fZ hA;go_wp2_with fail;go_roundg (gk - 1);case measure=>omega
           case rel=>
            have hB:=inO (d:=Wt.less d.knot ⟨none,ws⟩) hsp.out hA .here sZ;exact⟨j + 1,by simp,by omega,hB.pick pZ⟩
          |some bm=>
           simp only[Wt.part] at hA;have hM:MapAt Tryz.prog 3 wr bm (wsE ws):=hA.get (A:=Part.map Tryz.prog 3 bm (wsE ws)) .here;have hnd:=ZlS hM.keys;clear hM;by_cases hkw:d.knot ∈ ws
           · obtain⟨l1,l2,e1,e2⟩:=ZnS hkw hnd;have e2':=Hd e2;rw[e1] at hA;clear e1 e2;obtain⟨hA,hF⟩:=fZ hA
             go_wp2_with ((with_reducible show wpList _ _ _ ({dst:=_,op:=Op.call {callee:=Callee.builtin Builtin.delete,args:=_,argTypes:=_},type:=_,pos:=_,after:=_,guard:=_}::_) _ _);refine ZbB (b:=bm) (l1:=wsE l1) (l2:=wsE l2) (u:=.int .i64 1) rfl rfl (by(try simp only[Act.eval,eV])<;>exact rfl) (by(try simp only[Act.eval,eV])<;>exact rfl) hA (k:=3) sR lawN Tryz.underlying132 hkl2 ?_;intro w1 hB;rw[←e2'.out] at hB;replace hA:=hB;clear hF hB;obtain⟨hA,hF⟩:=fZ hA)
             go_roundg (gk - 1);case measure=>omega
             case rel=>
              have hB:=inO (d:=Wt.less d.knot ⟨some bm,ws⟩) hsp.out hA sZ sZ;exact⟨j + 1,by simp,by omega,hB.pick pZ⟩
           have hfw:=Hd (Zon hkw);have hwn:=Hd (Znt hkw);obtain⟨hA,hF⟩:=fZ hA
           go_wp2_with ((with_reducible show wpList _ _ _ ({dst:=_,op:=Op.call {callee:=Callee.builtin Builtin.delete,args:=_,argTypes:=_},type:=_,pos:=_,after:=_,guard:=_}::_) _ _);refine Zc5 (b:=bm) (es:=wsE ws) rfl rfl (by(try simp only[Act.eval,eV])<;>exact rfl) (by(try simp only[Act.eval,eV])<;>exact rfl) hA (k:=3) sR lawN Tryz.underlying132 hkl2 hwn.out ?_;intro w1 hB;rw[←hfw.out] at hB;replace hA:=hB;clear hF hB;obtain⟨hA,hF⟩:=fZ hA)
           go_roundg (gk - 1);case measure=>omega
           case rel=>
            have hB:=inO (d:=Wt.less d.knot ⟨some bm,ws⟩) hsp.out hA sZ sZ;exact⟨j + 1,by simp,by omega,hB.pick pZ⟩
        have hjn:¬(j:Int) < (n:Int) + 1:=by omega
        obtain⟨hA,hF⟩:=fZ hA;go_wp2_with fail;go_roundg G;case measure=>exact hGk.out
        case rel=>
         rw[Zm6 (by rw[hlo1.out];omega)] at hA;have hoi2:=hoi'.out.gone d.knot;rw[hH2'.out] at hoi2;have hPQ:(pre++sortS (sqE (enL es (lstG es l))) x.hs).map (idK (enL es (lstG es l)))=P++QQ:=by rw[List.map_append,hP'.out,hQ'.out]
         have hro:rowO (.slice (some ⟨gO,0,none⟩) (n + 1) capo) (O1.map (Wt.less d.knot))=Part.row 132 1 (.slice (some ⟨gO,0,none⟩) (n + 1) capo) (n + 1) (flatO O1):=by unfold rowO;rw[List.length_map,hlo1.out,ZjD]
         have hrh:rowH (.slice (some ⟨gH,0,none⟩) (n + 1) caph) H2=Part.row 24 1 (.slice (some ⟨gH,0,none⟩) (n + 1) caph) (n + 1) (flatH H2):=by unfold rowH;rw[hl2'.out]
         refine⟨d.knot::gone,_,_,H2,hos3'.out,hoi2,?_⟩;simp only[orL];rw[hPQ,hro,hrh];exact hA.pick pZ
     exfalso
     obtain⟨k,hk,hfk⟩:=hos'.out.more hL'.out.kn hlt2
     obtain⟨d,hd⟩:∃d,L[k]? =some d:=⟨_,List.getElem?_eq_getElem hk⟩
     have:=hoi'.out.free hd (hL'.out.kle k d hd);rw[hfk,hno d (List.mem_of_getElem? hd)] at this;cases this
   have hdn:=hos'.out.done (by have:=hPe.out;omega);obtain⟨hA,hF⟩:=fZ hA;go_wp2_with fail;go_ret;have hPG:P=ordG es f (lstG es l):=by rw[←hP'.out,hdn,hL'.out.order];rfl
   refine⟨.slice axP P.length capP,rfl,?_⟩;rw[←hPG];exact hA.pick pZ
end Go.Proofs.YtbeckijoabapkaaGreatDoor.Gr
end
