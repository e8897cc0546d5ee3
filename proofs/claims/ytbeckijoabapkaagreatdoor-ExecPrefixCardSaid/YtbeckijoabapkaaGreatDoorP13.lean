import Derived.Test.YtbeckijoabapkaaGreatDoorP12
set_option linter.unusedSimpArgs false
set_option linter.unusedVariables false
set_option maxRecDepth 100000
set_option maxHeartbeats 16000000
section
namespace Go
open _root_.Go.Proofs.YtbeckijoabapkaaGreatDoor
open Go.RowKit
theorem Zhk {w w':World} (h:w.grownBy w' none):Ext w w':=by
 obtain⟨h1,h2,h3,h4,h5⟩:=h;exact⟨h1,h2,h3,h4,fun k hk=>h5 k hk nofun⟩
section
variable {P:Program} {ops:Array Oper} {rest:List Oper} {o:Oper} {a:Act} {Q:Exit→Act→World→Prop} {L0 L F:List Part} {w0 w:World}
theorem ZdG {t e:TypeId} {i:TypeInfo} {z:Value} {size:Nat} {kl kc:IntKind} (hg:o.guard=none) (l c:Operand) (hop:o.op=.makeSlice t l c) (ht:P.underlying t=some (.slice e)) (hi:P.info? e=some i) (hz:i.zero=some z) (hsize:i.size=size)
 (n:Nat) (hl:a.eval l=.int kl (n:Int)) (hc:a.eval c=.int kc (n:Int)) (hbytes:i.bytes * n≤281474976710656) (h63:n≤maxLen) (h:At L0 w0 L w)
 (hK:∀b w',At L0 w0 (Part.row e size (.slice (some ⟨b,0,none⟩) n n) n (madeCells z.cells (n * size)).toList::L) w'→wpList P ops Q rest (a.put o.dst (.slice (some ⟨b,0,none⟩) n n)) w'):wpList P ops Q (o::rest) a w:=by
 obtain⟨w',h1,h2,h3⟩:=run_make_full (P:=P) w w.heap.size t e i z size ht hi hz hsize kl kc n hbytes h63 (Nat.le_refl _);refine Zah hg ?_ (hK _ w' (h.row_new (Zhk h3) h2));simp[execOp,hop,hl,hc,h1,Result.andThen]
end
end Go
namespace Go.Proofs.YtbeckijoabapkaaGreatDoor.Gr
open _root_.Go.Proofs.YtbeckijoabapkaaGreatDoor.Mark (ltID Zay)
open Go.RowKit
theorem ZeL {α:Type} (enc:α→List Value) (size:Nat) (hs:∀x,(enc x).length=size) (x:α) (z:Array Value) (hz:enc x=z.toList) (n:Nat):(madeCells z (n * size)).toList=(List.replicate n x).flatMap enc:=by
 have hzs:z.size=size:=by rw[←hs x,hz];simp
 apply List.ext_getElem?;intro j;by_cases hj:j < n * size
 · have hs0:0 < size:=by
    rcases Nat.eq_zero_or_pos size with q|q
    · subst q;omega
    exact q
   have hq:j / size < n:=Nat.div_lt_of_lt_mul (by rw[Nat.mul_comm];exact hj);have hm:j % size < size:=Nat.mod_lt _ hs0;have h1:=ZcZ enc size hs (List.replicate n x) (j / size) x (by rw[List.getElem?_replicate,if_pos hq]) (j % size) hm;rw[show j / size * size + j % size=j from by rw[Nat.mul_comm];exact Nat.div_add_mod j size] at h1;rw[h1,hz];simp[madeCells,hj,hzs];rw[getElem!_pos z _ (by rw[hzs];exact hm)];rw[Array.getElem?_eq_getElem (by rw[hzs];exact hm)]
 rw[List.getElem?_eq_none (by simp[size_madeCells];omega),List.getElem?_eq_none (by rw[Zbl enc size hs];simp;omega)]
structure Nd where
 id:I2
 na:Option Addr
 nc:Nat
 nx:List Nat
 low:Nat
 num:Nat
 on:Bool
 knot:Nat
def Nd.nv (d:Nd):Value:=.slice d.na d.nx.length d.nc
def Nd.cells (d:Nd):List Value:=[.int .i64 d.id.1,.int .i64 d.id.2,.slice d.na d.nx.length d.nc,.int .i64 d.low,.int .i64 d.num,.bool d.on,.int .i64 d.knot]
theorem Nd.cells_len (d:Nd):d.cells.length=7:=rfl
theorem Nd.ones (d:Nd):d.cells.all (·.oneCell')=true:=rfl
theorem Nd.one (d:Nd):∀u ∈ d.cells,u.oneCell'=true:=List.all_eq_true.1 d.ones
def flatN (L:List Nd):List Value:=L.flatMap Nd.cells
abbrev rowNd (v:Value) (L:List Nd):Part:=Part.row 131 7 v L.length (flatN L)
def intL (l:List Nat):List Value:=l.map fun(k:Nat)=>Value.int .i64 (k:Int)
theorem Zk2 (l:List Nat) (k:Nat):intL l++[.int .i64 k]=intL (l++[k]):=by simp[intL]
abbrev rowX (v:Value) (l:List Nat):Part:=Part.row 3 1 v l.length (intL l)
theorem Zdh (v:Value) (l:List Nat) (k:Nat):Part.row 3 1 v (l.length + 1) (intL l++[.int .i64 k])=rowX v (l++[k]):=by
 rw[Zk2];unfold rowX;rw[List.length_append];rfl
theorem infoX:(Tryz.prog.info? 3).map (fun i=>(i.zero,i.size,i.bytes))=some (some (.int .i64 0),1,8):=by kernel_rfl
def restX (L:List Nd):Part:=Part.all (L.map fun d=>rowX d.nv d.nx)
theorem eqvX (l1 l2:List Nd) (d:Nd) (F:List Part):Eqv (restX (l1++d::l2)::F) (rowX d.nv d.nx::restX (l1++l2)::F):=by
 refine(Eqv.all _ F).trans ?_
 have p1:((l1++d::l2).map (fun d=>rowX d.nv d.nx)++F).Perm (rowX d.nv d.nx::((l1++l2).map (fun d=>rowX d.nv d.nx)++F)):=by
  simp only[List.map_append,List.map_cons,List.append_assoc,List.cons_append];exact List.perm_middle
 refine(Eqv.perm p1).trans ?_;exact(Eqv.all ((l1++l2).map (fun d=>rowX d.nv d.nx)) F).symm.prepend [rowX d.nv d.nx]
theorem outX {L0 L F:List Part} {w0 w:World} {N l1 l2:List Nd} {d:Nd} (q:N=l1++d::l2) (h:At L0 w0 L w) (s:Sel (restX N) L F):At L0 w0 (rowX d.nv d.nx::restX (l1++l2)::F) w:=(h.take s).to (by rw[q];exact eqvX l1 l2 d F)
theorem inX {L0 L F G:List Part} {w0 w:World} {N l1 l2:List Nd} {d:Nd} (q:N=l1++d::l2) (h:At L0 w0 L w) (s1:Sel (rowX d.nv d.nx) L F) (s2:Sel (restX (l1++l2)) F G):At L0 w0 (restX N::G) w:=
 (h.perm (s1.perm.trans (s2.perm.cons _))).to (by rw[q];exact(eqvX l1 l2 d G).symm)
theorem ZeG {L M:List Nd} (h:L.map (fun d=>(d.na,d.nc,d.nx))=M.map (fun d=>(d.na,d.nc,d.nx))):restX L=restX M:=by
 unfold restX
 have e:∀K:List Nd,K.map (fun d=>rowX d.nv d.nx)=(K.map (fun d=>(d.na,d.nc,d.nx))).map (fun p=>rowX (.slice p.1 p.2.2.length p.2.1) p.2.2):=fun K=>by
  rw[List.map_map];rfl
 rw[e,e,h]
def zeroN:Nd:=⟨(0,0),none,0,[],0,0,false,0⟩
theorem nilX {L0 L:List Part} {w0 w:World} (h:At L0 w0 L w):∀n,At L0 w0 (restX (List.replicate n zeroN)::L) w
 |0=>h.to (Eqv.all [] L).symm
 |n + 1=>by
  have h1:=nilX h n;have h2:At L0 w0 (rowX zeroN.nv zeroN.nx::restX (List.replicate n zeroN)::L) w:=h1.row_nil 3 1;rw[List.replicate_succ];exact h2.to (eqvX [] (List.replicate n zeroN) zeroN L).symm
theorem infoNd:(Tryz.prog.info? 131).map (fun i=>(i.zero,i.size,i.bytes))=some (some (.agg #[.int .i64 0,.int .i64 0,.slice none 0 0,.int .i64 0,.int .i64 0,.bool false,.int .i64 0]),7,72):=by kernel_rfl
def Zcn (l:List I2):List (Value × Value):=l.mapIdx fun i x=>(idV x,.int .i64 i)
theorem Zjk (l:List I2) (x:I2):Zcn l++[(idV x,.int .i64 l.length)]=Zcn (l++[x]):=by
 unfold Zcn;rw[List.mapIdx_append];simp
theorem Ziz {l:List I2} {x:I2} (h:x ∉ l):∀p ∈ Zcn l,p.1≠idV x:=by
 intro p hp e;obtain⟨i,hi,rfl⟩:=List.mem_mapIdx.1 hp;exact h (by rw[←idV_inj e];exact List.getElem_mem hi)
theorem Zks {l:List I2} {x:I2} {i:Nat} (h:l[i]? =some x):(idV x,Value.int .i64 i) ∈ Zcn l:=by
 obtain⟨hi,rfl⟩:=List.getElem?_eq_some_iff.1 h;exact List.mem_mapIdx.2 ⟨i,hi,rfl⟩
def nextP (l:List I2) (ls:List I2):List Nat:=ls.filterMap fun y=>if y ∈ l then some (l.idxOf y) else none
theorem Zjv (l ls:List I2) (y:I2):nextP l (ls++[y])=nextP l ls++(if y ∈ l then[l.idxOf y] else[]):=by
 unfold nextP;rw[List.filterMap_append];by_cases h:y ∈ l<;>simp[h]
theorem ZeB:∀(vs p q r:List Value) (o:Nat),o + vs.length≤q.length→setL (p++(q++r)) (p.length + o) vs=p++(setL q o vs++r)
 |[],p,q,r,o,_=>rfl
 |v::vs,p,q,r,o,h=>by
  simp only[List.length_cons] at h;rw[setL,setL]
  have e:(p++(q++r)).set (p.length + o) v=p++((q.set o v)++r):=by
   rw[List.set_append_right _ _ (by omega),List.set_append_left _ _ (by omega)];simp
  rw[e,Nat.add_assoc];exact ZeB vs p (q.set o v) r (o + 1) (by rw[List.length_set];omega)
theorem ZaL {α:Type} {enc:α→List Value} {size:Nat} (hs:∀x,(enc x).length=size) {c:List Value} {l:List α} (ht:c.take (l.length * size)=l.flatMap enc) {i o:Nat} {x x':α} (hi:l[i]? =some x) {vs:List Value}
 (hx:setL (enc x) o vs=enc x') (ho:o + vs.length≤size):(setL c (i * size + o) vs).take (l.length * size)=(l.set i x').flatMap enc:=by
 obtain⟨hlt,rfl⟩:=List.getElem?_eq_some_iff.1 hi;have e1:l=l.take i++l[i]::l.drop (i + 1):=by rw[←List.drop_eq_getElem_cons hlt,List.take_append_drop]
 have hl:(l.take i).length=i:=by rw[List.length_take];omega
 have e2:l.set i x'=l.take i++x'::l.drop (i + 1):=by rw[List.set_eq_take_append_cons_drop,if_pos hlt]
 have e3:l.flatMap enc=(l.take i).flatMap enc++(enc l[i]++(l.drop (i + 1)).flatMap enc):=by
  have:=congrArg (fun m=>m.flatMap enc) e1;simp only[List.flatMap_append,List.flatMap_cons] at this;exact this
 have hf:((l.take i).flatMap enc).length=i * size:=by rw[Zbl enc size hs,hl]
 rw[Zer,ht,e2,e3,←hf,ZeB _ _ _ _ _ (by rw[hs];exact ho),hx];simp
theorem ZbH {α:Type} {l:List α} {i:Nat} {x:α} (h:l[i]? =some x):l=l.take i++x::l.drop (i + 1):=by
 obtain⟨hi,rfl⟩:=List.getElem?_eq_some_iff.1 h;rw[←List.drop_eq_getElem_cons hi,List.take_append_drop]
theorem ZdX {α:Type} {l:List α} {i:Nat} {x:α} (h:l[i]? =some x) (y:α):l.set i y=l.take i++y::l.drop (i + 1):=by
 obtain⟨hi,rfl⟩:=List.getElem?_eq_some_iff.1 h;rw[List.set_eq_take_append_cons_drop,if_pos hi]
end Go.Proofs.YtbeckijoabapkaaGreatDoor.Gr
end
namespace Go.Proofs.YtbeckijoabapkaaGreatDoor
section
namespace Gr
open _root_.Go.Proofs.YtbeckijoabapkaaGreatDoor.Mark (ltID Zay)
open Go.RowKit
open Go.Maps (Keyed)
open Attr (A8 Zaz thro)
attribute [-go_sem] run_eql_struct run_neq_struct run_eqGuard_agg
section
variable {P:Program} {ops:Array Oper} {rest:List Oper} {a:Act} {Q:Exit→Act→World→Prop} {w:World}
theorem gms {d t p af g x y u} (h:wpList P ops Q ({dst:=d,op:=.makeSlice u x y,type:=t,pos:=p,after:=af,guard:=g}::rest) a w):wpList P ops Q ({dst:=d,op:=.makeSlice u x y,type:=t,pos:=p,after:=af,guard:=g}::rest) a w:=h
end
theorem cloIn {L0 L F G:List Part} {w0 w:World} {b3 p m:Nat} {es:List (I2 × A8)} (h:At L0 w0 L w) (s1:Sel (Part.cells b3 [.pointer (some ⟨p,0,none⟩)] 61) L F) (s2:Sel (GrP p m es) F G):At L0 w0 (cloP b3 p m es::G) w:=
 (h.perm (s1.perm.trans (s2.perm.cons _))).to (Ze0 b3 p m es G).symm
theorem ZnL {L0 L F:List Part} {w0 w:World} {b3 p m:Nat} {es:List (I2 × A8)} (h:At L0 w0 L w) (s:Sel (cloP b3 p m es) L F):At L0 w0 (Part.cells b3 [.pointer (some ⟨p,0,none⟩)] 61::GrP p m es::F) w:=(h.take s).to (Ze0 b3 p m es F)
theorem ZhV {l:List I2} (h:l.Pairwise ltID) {i:Nat} {x:I2} (hx:l[i]? =some x):x ∉ l.take i:=by
 intro hm;obtain⟨hi,rfl⟩:=List.getElem?_eq_some_iff.1 hx;obtain⟨j,hj,e⟩:=List.mem_iff_getElem.1 hm;rw[List.length_take] at hj;rw[List.getElem_take] at e;have:=List.pairwise_iff_getElem.1 h j i (by omega) hi (by omega);rw[e] at this;exact ZcM this
def DoneN (es:List (I2 × A8)) (f:F7) (Lk:List I2) (x:I2) (d:Nd):Prop:=d.id=x∧d.nx=nextP Lk (ZaA es f x)∧d.low=0∧d.num=0∧d.on=false∧d.knot=0
def NoRel (w:World) (p m b3 b4:Nat) (es:List (I2 × A8)) (f:F7) (R:Part) (v3:Value) (Lk:List I2) (ms:Nat) (k:Nat) (u:Value) (wr:World):Prop:=
 ∃i:Nat,u=.int .i64 i∧i + k=Lk.length∧At [R,GrP p m es] w [mapC ms (Zcn (Lk.take i)),rowI2 v3 Lk,Part.cells b3 [.pointer (some ⟨p,0,none⟩)] 61,GrP p m es,Part.cells b4 [.int .i64 f.f0,.int .i64 f.f1,.int .i64 f.f2,.int .i64 f.f3,.int .i64 f.f4,.int .i64 f.f5,.int .i64 f.f6] 62,R] wr
def NpRel (w:World) (p m b3 b4 bN:Nat) (es:List (I2 × A8)) (f:F7) (R:Part) (v3:Value) (Lk:List I2) (ms:Nat) (k:Nat) (u:Value) (wr:World):Prop:=
 ∃(i:Nat) (N:List Nd),u=.int .i64 i∧i + k=Lk.length∧N.length=Lk.length∧(∀j,j < i→∀x,Lk[j]? =some x→∃d,N[j]? =some d∧DoneN es f Lk x d)∧(∀j,i≤j→j < Lk.length→N[j]? =some zeroN)∧
  At [R,GrP p m es] w [Part.row 131 7 (.slice (some ⟨bN,0,none⟩) Lk.length Lk.length) Lk.length (flatN N),restX N,mapC ms (Zcn Lk),rowI2 v3 Lk,Part.cells b3 [.pointer (some ⟨p,0,none⟩)] 61,GrP p m es,Part.cells b4 [.int .i64 f.f0,.int .i64 f.f1,.int .i64 f.f2,.int .i64 f.f3,.int .i64 f.f4,.int .i64 f.f5,.int .i64 f.f6] 62,R] wr
def NqRel (w:World) (p m b3 b4 bN:Nat) (es:List (I2 × A8)) (f:F7) (R:Part) (v3:Value) (Lk:List I2) (ms:Nat) (vl:Value) (ls:List I2) (i:Nat) (N0:List Nd) (x:I2) (k:Nat) (u:Value) (wr:World):Prop:=
 ∃(j:Nat) (na:Option Addr) (nc:Nat),u=.int .i64 j∧j + k=ls.length∧
  At [R,GrP p m es] w [Part.row 131 7 (.slice (some ⟨bN,0,none⟩) Lk.length Lk.length) Lk.length (flatN (N0.set i ⟨x,na,nc,nextP Lk (ls.take j),0,0,false,0⟩)),restX (N0.set i ⟨x,na,nc,nextP Lk (ls.take j),0,0,false,0⟩),rowI2 vl ls,mapC ms (Zcn Lk),rowI2 v3 Lk,Part.cells b3 [.pointer (some ⟨p,0,none⟩)] 61,GrP p m es,Part.cells b4 [.int .i64 f.f0,.int .i64 f.f1,.int .i64 f.f2,.int .i64 f.f3,.int .i64 f.f4,.int .i64 f.f5,.int .i64 f.f6] 62,R] wr
theorem Zdf {α:Type} {l:List α} {i:Nat} {x:α} (h:l[i]? =some x):l.set i x=l:=by
 obtain⟨hi,rfl⟩:=List.getElem?_eq_some_iff.1 h;exact List.set_getElem_self hi
theorem Zb1 {α:Type} {l:List α} {i:Nat} {x y:α} (h:l[i]? =some x):(l.set i y)[i]? =some y:=List.getElem?_set_self (List.getElem?_eq_some_iff.1 h).1
theorem set_set {α:Type} (l:List α) (i:Nat) (x y:α):(l.set i x).set i y=l.set i y:=List.set_set ..
theorem ZgV (l ls:List I2):(nextP l ls).length≤ls.length:=List.length_filterMap_le _ _
theorem Zkk {L:List Nd} {i:Nat} {d d':Nd} (h:L[i]? =some d) (e:(d'.na,d'.nc,d'.nx)=(d.na,d.nc,d.nx)):restX (L.set i d')=restX L:=by
 refine ZeG ?_;rw[List.map_set,e];exact Zdf (by rw[List.getElem?_map,h];rfl)
theorem Zmf {L0 F:List Part} {w0 w:World} {v:Value} {n:Nat} {N:List Nd} (hn:N.length=n) (h:At L0 w0 (Part.row 131 7 v n (N.flatMap Nd.cells)::F) w):At L0 w0 (rowNd v N::F) w:=by
 subst hn;exact h
def ZlM (p m:Nat) (es:List (I2 × A8)) (f:F7) (R:Part) (l:List I2) (w:World) (e:Ending) (w':World):Prop:=
 ∃(u:Value) (N:List Nd),e=.returned u∧N.length=(dd (Zay (keepF (lackF es) l))).length∧(∀(j:Nat) x,(dd (Zay (keepF (lackF es) l)))[j]? =some x→∃d,N[j]? =some d∧DoneN es f (dd (Zay (keepF (lackF es) l))) x d)∧
  At [R,GrP p m es] w [rowNd u N,restX N,R,GrP p m es] w'
theorem ZkI {w:World} {R:Part} {v:Value} {l:List I2} {p m:Nat} {es:List (I2 × A8)} (h:Sep [R,GrP p m es] w) (hr:Zii R v l) (hl:l.length≤1000) (hok:∀x ∈ l,okD x) (f:F7) (hd:Deps es):
 Calls Tryz.prog 54 #[.pointer (some ⟨p,0,none⟩),f.val,v] w (ZlM p m es f R l w):=by
 obtain⟨i0,hi0,hz0,hz1,hz2⟩:=info_parts infoNd;obtain⟨i1,hi1,hz3,hz4,hz5⟩:=info_parts infoX;have hA:=At.start h;have hF:=hA.facts;have hd0:=Hd hd;clear h hd;simp only[F7.val] at *
 obtain⟨hA,hF⟩:=fZ hA;go_enter Tryz.func54,Tryz.ntmps54
 go_wp2_with (first|((with_reducible refine gbx ?_);refine wCz (E:=61) hA ?_;clear hF hA;intro b3 w1 hA hb3 hF)|((with_reducible refine gbx ?_);refine wHz 62 [.int .i64 f.f0,.int .i64 f.f1,.int .i64 f.f2,.int .i64 f.f3,.int .i64 f.f4,.int .i64 f.f5,.int .i64 f.f6] hA ?_;clear hF hA;intro b4 w1 hA hb4 hF))
 refine(Zlv (hA.sep1 (A:=R) sZ) hr (by omega)).mono ?_;rintro e w1 ⟨v1,rfl,hT⟩;replace hA:=hA.call1 (A:=R) sZ hT;clear hF hT;simp only[uA] at hA;obtain⟨hA,hF⟩:=fZ hA;go_wp2_with fail;replace hA:=cloIn hA sZ sZ;clear hF;obtain⟨hA,hF⟩:=fZ hA;refine(Zm5 (b3:=b3) (p:=p) (m:=m) (es:=es) (hA.sep2 (A:=rowI2 v1 l) (B:=cloP b3 p m es) sZ sZ) hok (by omega)).mono ?_;rintro e w1 ⟨v2,rfl,hT⟩;replace hA:=hA.call2 (A:=rowI2 v1 l) (B:=cloP b3 p m es) sZ sZ hT;clear hF hT;simp only[uA] at hA;replace hA:=ZnL hA sZ;obtain⟨hA,hF⟩:=fZ hA;have hk1:(keepF (lackF es) l).length≤l.length:=List.length_filter_le _ _;have hk3:(Zay (keepF (lackF es) l)).length=(keepF (lackF es) l).length:=Mark.Zcx _;have hk2:=ZnK (Zay (keepF (lackF es) l));have hokL:∀x ∈ dd (Zay (keepF (lackF es) l)),okD x:=fun x hx=>hok x (List.mem_filter.1 (Zd5.1 (ZnJ.1 hx))).1;have hok':=Hd hokL;have hst:=Hd (Zhq (Zew (keepF (lackF es) l)));clear hokL hok;go_wp2_with fail;refine(Ziu (hA.sep1 (A:=rowI2 v2 (keepF (lackF es) l)) sZ) (by omega)).mono ?_;rintro e w1 ⟨rfl,hT⟩;replace hA:=hA.call1 (A:=rowI2 v2 (keepF (lackF es) l)) sZ hT;clear hF hT;simp only[uA] at hA;obtain⟨hA,hF⟩:=fZ hA;go_wp2_with fail;refine(Zh6 (hA.sep1 (A:=rowI2 v2 (Zay (keepF (lackF es) l))) sZ) (by omega)).mono ?_;rintro e w1 ⟨v3,rfl,hT⟩;replace hA:=hA.call1 (A:=rowI2 v2 (Zay (keepF (lackF es) l))) sZ hT;clear hF hT;simp only[uA] at hA;obtain⟨hA,hF⟩:=fZ hA;generalize hLk:dd (Zay (keepF (lackF es) l))=Lk at *
 have hn:Lk.length≤1000:=by omega
 clear hk1 hk2 hk3;have hLk':=Hd hLk;clear hLk;obtain⟨ax,cap,hv3,hax,hcp,_⟩:=hA.row_form (e:=33) (size:=2) (n:=Lk.length) (v:=v3) (xs:=flatI Lk) sZ;have hax':=Hd hax;have hv3':=Hd hv3;clear hax;subst hv3;clear hv3'
 go_wp2_with ((with_reducible refine gmm ?_);refine Zav Tryz.prog 33 rfl rfl hA ?_;intro ms w1 hB hms;replace hA:=hB;clear hF hB;obtain⟨hA,hF⟩:=fZ hA)
 (try go_frame);go_loopg [28] Lk.length (NoRel w p m b3 b4 es f R (.slice ax Lk.length cap) Lk ms)
 case atStart=>exact⟨0,rfl,by simp,hA.pick pZ⟩
 case round=>
  obtain⟨i,rfl,hik,hB⟩:=hrel;clear hF hA;have hA:=hB;clear hB;by_cases hi:i < Lk.length
  · skip
    obtain⟨x,hxi⟩:∃x,Lk[i]? =some x:=⟨_,List.getElem?_eq_getElem hi⟩
    have hxi':=Hd hxi;obtain⟨kl1,hk1⟩:=keyI (hok'.out x (List.mem_of_getElem? hxi));have hni:=Hd (show x ∉ Lk.take i from ZhV hst.out hxi);have hps:=Zjk (Lk.take i) x;have htk:Lk.take i++[x]=Lk.take (i + 1):=by rw[List.take_add_one,hxi];rfl
    rw[htk,List.length_take,Nat.min_eq_left (by omega)] at hps;have hrr:=ZbI (hA.row_reads (v:=.slice ax Lk.length cap) (n:=Lk.length) (xs:=flatI Lk) sZ) hxi;clear hxi htk;obtain⟨r1,t1⟩:=x;obtain⟨bt,offt,hax2,hce⟩:=hrr;have hr2':=Hd (show ∀(k:Nat) u,([.int .i64 r1,.int .i64 t1]:List Value)[k]? =some u→wr.cell? ⟨bt,offt + i * 2 + k,none⟩=some u from hce);clear hce;subst hax2;simp only[idV] at hk1 hps;obtain⟨hA,hF⟩:=fZ hA
    go_wp2_with (first|((with_reducible refine gal ?_);refine g3 hA ?_;clear hF hA;intro b9 w1 hA hb9 hF)|((with_reducible show wpList _ _ _ ({dst:=some 32,op:=Op.load _ _,type:=_,pos:=_,after:=_,guard:=_}::_) _ _);refine Zad (vs:=[.int .i64 r1,.int .i64 t1]) rfl rfl (by(try simp only[Act.eval,eV])<;>exact rfl) hr2'.out (by kernel_rfl) (by kernel_rfl) ?_)|((with_reducible refine gmu ?_);refine Zao (b:=ms) (key:=.agg #[.int .i64 r1,.int .i64 t1]) (val:=.int .i64 i) (es:=Zcn (Lk.take i)) rfl rfl (by(try simp only[Act.eval,eV])<;>exact rfl) (by(try simp only[Act.eval,eV])<;>exact rfl) (by(try simp only[Act.eval,eV])<;>exact rfl) hA sR lawI Tryz.underlying150 hk1 (Ziz hni.out) ?_;intro w1 hB;rw[hps] at hB;replace hA:=hB;clear hF hB;obtain⟨hA,hF⟩:=fZ hA)|((with_reducible refine gst ?_);refine wTz hA ?_;clear hF hA;intro w1 hA hF))
    go_roundg (gk - 1);case measure=>omega
    case rel=>exact⟨i + 1,by simp,by omega,hA.pick pZ⟩
  have hi2:i=Lk.length:=by omega
  subst hi2;rw[List.take_of_length_le (Nat.le_refl _)] at hA;clear hik;obtain⟨hA,hF⟩:=fZ hA
  go_wp2_with ((with_reducible refine gms ?_);refine ZdG (e:=131) rfl _ _ rfl Tryz.underlying120 hi0 hz0 hz1 Lk.length (by(try simp only[Act.eval,eV])<;>exact rfl) (by(try simp only[Act.eval,eV])<;>exact rfl) (by rw[hz2];omega) (by unfold maxLen;omega) hA ?_;intro bN w1 hB;rw[ZeL Nd.cells 7 Nd.cells_len zeroN (Value.cells (.agg #[.int .i64 0,.int .i64 0,.slice none 0 0,.int .i64 0,.int .i64 0,.bool false,.int .i64 0])) rfl Lk.length] at hB;have hC:=nilX hB Lk.length;clear hF hA hB;have hA:=hC;clear hC;obtain⟨hA,hF⟩:=fZ hA)
  (try go_frame);clear hi;go_loopg [42] Lk.length (NpRel w p m b3 b4 bN es f R (.slice ax Lk.length cap) Lk ms)
  case atStart=>exact⟨0,List.replicate Lk.length zeroN,rfl,by simp,by simp,nofun,fun j _ hj=>by rw[List.getElem?_replicate,if_pos hj],hA.pick pZ⟩
  case round=>
   obtain⟨i,N,rfl,hik,hNl,hdn,hzn,hB⟩:=hrel;have hdn':=Hd hdn;have hzn':=Hd hzn;clear hF hA hdn hzn;have hA:=hB;clear hB;by_cases hi:i < Lk.length
   · skip
     obtain⟨x,hxi⟩:∃x,Lk[i]? =some x:=⟨_,List.getElem?_eq_getElem hi⟩
     have hxi':=Hd hxi;have hxk:=hok'.out x (List.mem_of_getElem? hxi);have hle:=fun(w1:World) (q:Sep [GrP p m es] w1)=>Zg4 q f x hxk (fun a ha=>hd0.out x a ha);have hl7:=ZdO es f x
     obtain⟨ls,hls⟩:∃z,ZaA es f x=z:=⟨_,rfl⟩
     have hls':=Hd hls;rw[hls] at hle hl7;clear hls hxk;have hrr:=ZbI (hA.row_reads (v:=.slice ax Lk.length cap) (n:=Lk.length) (xs:=flatI Lk) sZ) hxi;clear hxi;have hz0':=hzn'.out i (Nat.le_refl _) hi;obtain⟨gN,c,hg1,hc1,hc2,hc3,hc4,hB⟩:=hA.row_open (e:=131) (size:=7) (ax:=some ⟨bN,0,none⟩) (cap:=Lk.length) (n:=Lk.length) (xs:=flatN N) sZ (by omega);cases hg1;clear hA;have hA:=hB;clear hB;rw[←hNl] at hc4;have hw1:=ZaL Nd.cells_len hc4 (o:=0) (x':=⟨x,none,0,[],0,0,false,0⟩) (vs:=idL x) hz0' rfl (by show 0 + 2≤7;omega);rw[hNl] at hw1;have hw1':=Hd hw1;clear hw1 hc4;obtain⟨r1,t1⟩:=x;simp only[idV,F7.val] at hle;obtain⟨bt,offt,hax2,hce⟩:=hrr;have hr2':=Hd (show ∀(k:Nat) u,([.int .i64 r1,.int .i64 t1]:List Value)[k]? =some u→wr.cell? ⟨bt,offt + i * 2 + k,none⟩=some u from hce);clear hce;subst hax2;obtain⟨hA,hF⟩:=fZ hA
     go_wp2_with (first|((with_reducible refine gal ?_);refine g3 hA ?_;clear hF hA;intro b12 w1 hA hb12 hF)|((with_reducible show wpList _ _ _ ({dst:=some 46,op:=Op.load _ _,type:=_,pos:=_,after:=_,guard:=_}::_) _ _);refine Zad (vs:=[.int .i64 r1,.int .i64 t1]) rfl rfl (by(try simp only[Act.eval,eV])<;>exact rfl) hr2'.out (by kernel_rfl) (by kernel_rfl) ?_)|((with_reducible show wpList _ _ _ ({dst:=none,op:=Op.store _ (Operand.tmp 51) _,type:=_,pos:=_,after:=_,guard:=_}::_) _ _);refine Zax (b:=bN) (j:=i * 7) (c:=c) (vs:=idL (r1,t1)) rfl rfl rfl (by(try simp only[Act.eval,eV])<;>exact rfl) (by exact rfl) hA sZ (by kernel_rfl) rfl (by show i * 7 + 2≤c.length;omega) ?_;intro w1 hB;replace hA:=hB;clear hF hB;obtain⟨hA,hF⟩:=fZ hA)|((with_reducible refine gst ?_);refine wTz hA ?_;clear hF hA;intro w1 hA hF))
     have hB:=hA.row_shut (e:=131) (size:=7) (g:=bN) (n:=Lk.length) (cap:=Lk.length) (xs:=flatN (N.set i ⟨(r1,t1),none,0,[],0,0,false,0⟩)) sZ (by rw[Zan];exact hc3) (Nat.le_refl _) hc2 hw1'.out;have hrx:restX (N.set i ⟨(r1,t1),none,0,[],0,0,false,0⟩)=restX N:=Zkk hz0' rfl;rw[←hrx] at hB;clear hrx;replace hA:=hB;clear hF hB;obtain⟨hA,hF⟩:=fZ hA;refine(hle _ (hA.sep1 (A:=GrP p m es) sZ)).mono ?_;clear hle;rintro e w1 ⟨vl,rfl,hT⟩;replace hA:=hA.call1 (A:=GrP p m es) sZ hT;clear hF hT;simp only[uA] at hA;obtain⟨hA,hF⟩:=fZ hA;obtain⟨axl,capl,hvl,haxl,hcpl,_⟩:=hA.row_form .here;have haxl':=Hd haxl;subst hvl;clear haxl hr2'
     obtain⟨N0,hN0⟩:∃z,N.set i ⟨(r1,t1),none,0,[],0,0,false,0⟩=z:=⟨_,rfl⟩
     have hN0':=Hd hN0;rw[hN0] at hA;obtain⟨hA,hF⟩:=fZ hA;have hne0:N0[i]? =some ⟨(r1,t1),none,0,[],0,0,false,0⟩:=by rw[←hN0,List.getElem?_set_self (by omega)]
     have hnl0:N0.length=Lk.length:=by rw[←hN0,List.length_set,hNl]
     have hne0':=Hd hne0;clear hne0 hN0 hw1' hc1 hc2 hc3 hz0';go_wp2_with fail;(try go_frame);try simp only[Nat.zero_add]
     have hikG:i + 1 + (gk - 1)=Lk.length:=by omega
     obtain⟨G,hG⟩:∃G,gk - 1=G:=⟨_,rfl⟩
     rw[hG] at hikG;have hGk:G < gk:=by omega
     have hGk':=Hd hGk;clear hG hik;go_loopg [57] ls.length (NqRel w p m b3 b4 bN es f R (.slice (some ⟨bt,offt,none⟩) Lk.length cap) Lk ms (.slice axl ls.length capl) ls i N0 (r1,t1))
     case atStart=>exact⟨0,none,0,rfl,by simp,by rw[show nextP Lk (ls.take 0)=[] from rfl,Zdf hne0'.out];exact hA.pick pZ⟩
     case round=>
      obtain⟨j,na,nc,rfl,hjk,hB⟩:=hrel;replace hA:=hB;clear hB;by_cases hj:j < ls.length
      · skip
        obtain⟨y,hyj⟩:∃y,ls[j]? =some y:=⟨_,List.getElem?_eq_getElem hj⟩
        have hyk:okD y:=ZeO hd0.out (x:=(r1,t1)) (f:=f) (by rw[hls'.out];exact List.mem_of_getElem? hyj);obtain⟨kl2,hk2⟩:=keyI hyk;have hnx:nextP Lk (ls.take (j + 1))=nextP Lk (ls.take j)++(if y ∈ Lk then[Lk.idxOf y] else[]):=by rw[←Zjv,List.take_add_one,hyj];rfl
        have hrr:=ZbI (hA.row_reads (v:=.slice axl ls.length capl) (n:=ls.length) (xs:=flatI ls) sZ) hyj;clear hyj hyk;obtain⟨r2,t2⟩:=y;obtain⟨bt2,offt2,hax3,hce⟩:=hrr;have hr2':=Hd (show ∀(k:Nat) u,([.int .i64 r2,.int .i64 t2]:List Value)[k]? =some u→wr.cell? ⟨bt2,offt2 + j * 2 + k,none⟩=some u from hce);clear hce;subst hax3;simp only[idV] at hk2;by_cases hmem:(r2,t2) ∈ Lk
        · rw[if_pos hmem] at hnx;have hidx:=List.idxOf_lt_length_of_mem hmem;have hpy:=Hd (Zks (l:=Lk) (i:=Lk.idxOf (r2,t2)) (by rw[List.getElem?_eq_getElem hidx,List.getElem_idxOf]));generalize Lk.idxOf (r2,t2)=ix at *
          clear hmem;have hnx':=Hd hnx;clear hnx;generalize nextP Lk (ls.take j)=nx at *
          have hnxl:nx.length≤7:=by have h1:=(hnx'.out ▸ ZgV Lk (ls.take (j + 1)):(nx++[ix]).length≤(ls.take (j + 1)).length);simp at h1;omega
          have hnow:=Zb1 (y:=(⟨(r1,t1),na,nc,nx,0,0,false,0⟩:Nd)) hne0'.out;have hset2:=fun(z:Nd)=>set_set N0 i ⟨(r1,t1),na,nc,nx,0,0,false,0⟩ z;have hlen2:(N0.set i ⟨(r1,t1),na,nc,nx,0,0,false,0⟩).length=Lk.length:=by rw[List.length_set,hnl0]
          have hset2':=Hd hset2;clear hset2;generalize N0.set i ⟨(r1,t1),na,nc,nx,0,0,false,0⟩=N1 at *
          have hsp:=ZbH hnow;obtain⟨gN,c,hg1,hc1,hc2,hc3,hc4,hB⟩:=hA.row_open (e:=131) (size:=7) (ax:=some ⟨bN,0,none⟩) (cap:=Lk.length) (n:=Lk.length) (xs:=flatN N1) sZ (by omega);cases hg1;clear hA;rw[←hlen2] at hc4;have hcs:c[i * 7 + 2]? =some (.slice na nx.length nc):=Zaq Nd.cells_len hc4 hnow 2 (by omega);have hA:=outX hsp hB sZ;clear hB;have hsp':=Hd hsp;clear hsp;have hnow':=Hd hnow;have hc4':=Hd hc4;clear hnow hc4;simp only[Nd.nv] at hA;obtain⟨hA,hF⟩:=fZ hA
          go_wp2_with (first|((with_reducible refine gal ?_);refine g3 hA ?_;clear hF hA;intro b14 w1 hA hb14 hF)|((with_reducible show wpList _ _ _ ({dst:=some 60,op:=Op.load _ _,type:=_,pos:=_,after:=_,guard:=_}::_) _ _);refine Zad (vs:=[.int .i64 r2,.int .i64 t2]) rfl rfl (by(try simp only[Act.eval,eV])<;>exact rfl) hr2'.out (by kernel_rfl) (by kernel_rfl) ?_)|((with_reducible refine glk ?_);refine Zbe (b:=ms) rfl rfl (by(try simp only[Act.eval,eV])<;>exact rfl) (key:=.agg #[.int .i64 r2,.int .i64 t2]) (by(try simp only[Act.eval,eV])<;>exact rfl) hA (k:=33) (es:=Zcn Lk) (v:=.int .i64 ix) sR lawI Tryz.underlying150 hk2 hpy.out ?_)|((with_reducible show wpList _ _ _ ({dst:=_,op:=Op.buildSlice _ _ _,type:=_,pos:=_,after:=_,guard:=_}::_) _ _);refine ZaO (e:=3) (vs:=[.int .i64 ix]) rfl rfl (by(try simp only[Act.eval,eV])<;>exact rfl) (fun _=>by kernel_rfl) hA ?_;intro b76 w1 hB hb76;replace hA:=hB;clear hF hB;obtain⟨hA,hF⟩:=fZ hA)|((with_reducible show wpList _ _ _ ({dst:=_,op:=Op.call {callee:=Callee.builtin Builtin.append,args:=_,argTypes:=_},type:=_,pos:=_,after:=_,guard:=_}::_) _ _);refine Zal (e:=3) (size:=1) (v:=.slice na nx.length nc) (xs:=intL nx) (n:=nx.length) (m:=1) (news:=[.int .i64 ix]) rfl _ _ 24 rfl Tryz.underlying24 hi1 hz3 hz4 hz5 rfl (by omega) hA sR (by(try simp only[Act.eval,eV])<;>exact rfl) (by(try simp only[Act.eval,eV])<;>exact rfl) rfl (hA.cells_reads sR _ _) (fun u hu=>by rw[List.mem_singleton.1 hu];rfl) (by unfold maxLen;omega) (by omega) ?_;intro v77 w1 hB;rw[Zdh] at hB;obtain⟨na2,nc2,hv77,_,_,_⟩:=hB.row_form .here;subst hv77;replace hA:=hB;clear hF hB;obtain⟨hA,hF⟩:=fZ hA)|((with_reducible show wpList _ _ _ ({dst:=none,op:=Op.store _ (Operand.tmp 79) _,type:=_,pos:=_,after:=_,guard:=_}::_) _ _);refine Zax (b:=bN) (j:=i * 7 + 2) (c:=c) (vs:=[.slice na2 (nx.length + 1) nc2]) rfl rfl rfl (by(try simp only[Act.eval,eV])<;>exact rfl) (by exact rfl) hA sZ (by kernel_rfl) rfl (by show i * 7 + 2 + 1≤c.length;omega) ?_;intro w1 hB;replace hA:=hB;clear hF hB;obtain⟨hA,hF⟩:=fZ hA)|((with_reducible refine gst ?_);refine wTz hA ?_;clear hF hA;intro w1 hA hF))
          go_roundg (gk - 1);case measure=>omega
          case rel=>
           have hw2:=ZaL Nd.cells_len hc4'.out (o:=2) (x':=(⟨(r1,t1),na2,nc2,nx++[ix],0,0,false,0⟩:Nd)) (vs:=[.slice na2 (nx.length + 1) nc2]) hnow'.out (by simp[Nd.cells,setL]) (by show 2 + 1≤7;omega);rw[hset2'.out,hlen2] at hw2;have hB:=hA.row_shut (e:=131) (size:=7) (g:=bN) (n:=Lk.length) (cap:=Lk.length) (xs:=flatN (N0.set i ⟨(r1,t1),na2,nc2,nx++[ix],0,0,false,0⟩)) sZ (by rw[Zan];exact hc3) (Nat.le_refl _) hc2 hw2;have hsp2:N0.set i (⟨(r1,t1),na2,nc2,nx++[ix],0,0,false,0⟩:Nd)=N1.take i++⟨(r1,t1),na2,nc2,nx++[ix],0,0,false,0⟩::N1.drop (i + 1):=by rw[←hset2'.out,ZdX hnow'.out]
           have hC:=inX (d:=⟨(r1,t1),na2,nc2,nx++[ix],0,0,false,0⟩) hsp2 hB sZ sZ;exact⟨j + 1,na2,nc2,by simp,by omega,by rw[hnx'.out];exact hC.pick pZ⟩
        rw[if_neg hmem,List.append_nil] at hnx;have hni:=Hd hmem;have hnx':=Hd hnx;clear hmem hnx;obtain⟨hA,hF⟩:=fZ hA
        go_wp2_with (first|((with_reducible refine gal ?_);refine g3 hA ?_;clear hF hA;intro b14 w1 hA hb14 hF)|((with_reducible show wpList _ _ _ ({dst:=some 60,op:=Op.load _ _,type:=_,pos:=_,after:=_,guard:=_}::_) _ _);refine Zad (vs:=[.int .i64 r2,.int .i64 t2]) rfl rfl (by(try simp only[Act.eval,eV])<;>exact rfl) hr2'.out (by kernel_rfl) (by kernel_rfl) ?_)|((with_reducible refine glk ?_);refine Zbf (b:=ms) rfl rfl (by(try simp only[Act.eval,eV])<;>exact rfl) (key:=.agg #[.int .i64 r2,.int .i64 t2]) (by(try simp only[Act.eval,eV])<;>exact rfl) hA (k:=33) (es:=Zcn Lk) (z:=.int .i64 0) sR lawI Tryz.underlying150 hk2 (Ziz hni.out) (fun _=>by kernel_rfl) ?_)|((with_reducible refine gst ?_);refine wTz hA ?_;clear hF hA;intro w1 hA hF))
        go_roundg (gk - 1);case measure=>omega
        case rel=>exact⟨j + 1,na,nc,by simp,by omega,by rw[hnx'.out];exact hA.pick pZ⟩
      have hja:ls.take j=ls:=List.take_of_length_le (by omega);rw[hja] at hA;clear hja hjk;obtain⟨hA,hF⟩:=fZ hA;go_wp2_with fail;go_roundg G;case measure=>exact hGk'.out
      case rel=>
       refine⟨i + 1,N0.set i ⟨(r1,t1),na,nc,nextP Lk ls,0,0,false,0⟩,by simp,hikG,by rw[List.length_set,hnl0],fun k hk z hz=> ?_,fun k hk1 hk2=> ?_,hA.pick pZ⟩
       · by_cases e:k=i
         · subst e;rw[hxi'.out] at hz;cases hz;exact⟨_,List.getElem?_set_self (by omega),rfl,by rw[hls'.out],rfl,rfl,rfl,rfl⟩
         obtain⟨d,hd1,hd2⟩:=hdn'.out k (by omega) z hz;exact⟨d,by rw[List.getElem?_set_ne (fun q=>e q.symm),←hN0'.out,List.getElem?_set_ne (fun q=>e q.symm)];exact hd1,hd2⟩
       rw[List.getElem?_set_ne (by omega),←hN0'.out,List.getElem?_set_ne (by omega)];exact hzn'.out k (by omega) hk2
   have hi2:i=Lk.length:=by omega
   subst hi2;obtain⟨hA,hF⟩:=fZ hA;go_wp2_with fail;go_ret;refine⟨_,N,rfl,by rw[hLk'.out];exact hNl,fun j z hz=> ?_,?_⟩
   · rw[hLk'.out] at hz ⊢;exact hdn'.out j (List.getElem?_eq_some_iff.1 hz).1 z hz
   exact Zmf hNl (hA.pick pZ)
end Gr
end
end Go.Proofs.YtbeckijoabapkaaGreatDoor
section
namespace Go
open _root_.Go.Proofs.YtbeckijoabapkaaGreatDoor
open Go.RowKit
section
variable {P:Program} {ops:Array Oper} {Q:Exit→Act→World→Prop} {L0 L F:List Part} {w0 w:World}
theorem Zai {i:Nat} {d:Option Tmp} {o:Oper} {a:Act} {K:Act→World→Prop} (ho:ops[i]? =some o) (hd:o.dst=d) (hw:Region.wanted o (yielded ops a.tmps)=true) {ty:TypeId} {x:Operand} (hop:o.op=.load ty x) {b j:Nat} (hx:a.eval x=.pointer (some ⟨b,j,none⟩)) {c:List Value} {T:TypeId} (h:At L0 w0 L w) (s:Sel (Part.cells b c T) L F)
 (hu:(P.underlying ty).map (·.isRow)=some false) {v:Value} (hv:c[j]? =some v) (hK:K (a.put d v) w):wpOp P ops Q i K a w:=by
 subst hd;have hr:=Zac (P:=P) (o:=o) (a:=a) hop hx (h.get s) hu hv;exact Zc4 ho hw (v:=v) (w':=w) hr hK
end
end Go
namespace Go.Proofs.YtbeckijoabapkaaGreatDoor.Gr
open Go.RowKit
open Tar (TS up ZaD Zak)
def ndL (N:List Nd) (s:TS):List Nd:=N.mapIdx fun i d=>⟨d.id,d.na,d.nc,d.nx,s.low i,s.num i,s.on i,s.knot i⟩
theorem ZaN (N:List Nd) (s:TS):(ndL N s).length=N.length:=List.length_mapIdx
theorem Za8 {N:List Nd} {i:Nat} {d:Nd} (h:N[i]? =some d) (s:TS):(ndL N s)[i]? =some ⟨d.id,d.na,d.nc,d.nx,s.low i,s.num i,s.on i,s.knot i⟩:=by
 unfold ndL;rw[List.getElem?_mapIdx,h];rfl
theorem ZhW {N:List Nd} {i:Nat} {d:Nd} (h:N[i]? =some d) {s s':TS} (hs:∀j,j≠i→s'.low j=s.low j∧s'.num j=s.num j∧s'.on j=s.on j∧s'.knot j=s.knot j):
 (ndL N s).set i ⟨d.id,d.na,d.nc,d.nx,s'.low i,s'.num i,s'.on i,s'.knot i⟩=ndL N s':=by
 apply List.ext_getElem?;intro j;by_cases hj:j=i
 · subst hj;have hl:=(List.getElem?_eq_some_iff.1 h).1;rw[List.getElem?_set_self (by rw[ZaN];exact hl),Za8 h]
 rw[List.getElem?_set_ne (fun e=>hj e.symm)];unfold ndL;rw[List.getElem?_mapIdx,List.getElem?_mapIdx];obtain⟨h1,h2,h3,h4⟩:=hs j hj;rw[h1,h2,h3,h4]
theorem Zmg (N:List Nd) (s:TS):restX (ndL N s)=restX N:=by
 refine ZeG ?_;apply List.ext_getElem?;intro j;unfold ndL;rw[List.getElem?_map,List.getElem?_map,List.getElem?_mapIdx];cases N[j]? <;>rfl
theorem ZkM {N:List Nd} (h:∀d ∈ N,d.low=0∧d.num=0∧d.on=false∧d.knot=0):ndL N TS.start=N:=by
 apply List.ext_getElem?;intro j;unfold ndL;rw[List.getElem?_mapIdx]
 cases hq:N[j]? with
 |none=>rfl
 |some d=>
  obtain⟨h1,h2,h3,h4⟩:=h d (List.mem_of_getElem? hq);obtain⟨id,na,nc,nx,low,num,on,knot⟩:=d;simp only at h1 h2 h3 h4;subst h1 h2 h3 h4;rfl
def nxF (N:List Nd) (i:Nat):List Nat:=match N[i]? with
 |some d=>d.nx
 |none=>[]
theorem Zb4 {N:List Nd} {i:Nat} {d:Nd} (h:N[i]? =some d):nxF N i=d.nx:=by unfold nxF;rw[h]
def frL (p:Nat × Nat):List Value:=[.int .i64 p.1,.int .i64 p.2]
theorem ZbR (p:Nat × Nat):(frL p).length=2:=rfl
theorem Zox (p:Nat × Nat):∀u ∈ frL p,u.oneCell'=true:=by
 intro u hu;simp only[frL,List.mem_cons,List.not_mem_nil,or_false] at hu;rcases hu with rfl|rfl<;>rfl
def flatF (l:List (Nat × Nat)):List Value:=l.flatMap frL
abbrev rowF (v:Value) (l:List (Nat × Nat)):Part:=Part.row 181 2 v l.length (flatF l)
theorem Zkf (v:Value) (l:List (Nat × Nat)) (x:Nat × Nat):Part.row 181 2 v (l.length + 1) (flatF l++frL x)=rowF v (l++[x]):=by
 unfold rowF;rw[List.length_append];simp[flatF]
theorem infoF:(Tryz.prog.info? 181).map (fun i=>(i.zero,i.size,i.bytes))=some (some (.agg #[.int .i64 0,.int .i64 0]),2,16):=by kernel_rfl
abbrev kHead (kp:Nat) (ax:Option Addr) (cap:Nat) (sv wv:Value) (N:List Nd) (s:TS):Part:=Part.cells kp [.slice ax N.length cap,sv,wv,.int .i64 s.count,.int .i64 s.found] 124
abbrev kRow (ax:Option Addr) (cap:Nat) (N:List Nd) (s:TS):Part:=Part.row 131 7 (.slice ax N.length cap) N.length (flatN (ndL N s))
abbrev kL (kp:Nat) (ax:Option Addr) (cap:Nat) (sv wv:Value) (N:List Nd) (s:TS):List Part:=
 [kHead kp ax cap sv wv N s,kRow ax cap N s,restX N,rowX sv s.stk.reverse,rowF wv s.wk.reverse]
def KnP (kp:Nat) (ax:Option Addr) (cap:Nat) (sv wv:Value) (N:List Nd) (s:TS):Part:=Part.all (kL kp ax cap sv wv N s)
theorem Zfv (kp:Nat) (ax:Option Addr) (cap:Nat) (sv wv:Value) (N:List Nd) (s:TS) (F:List Part):Eqv (KnP kp ax cap sv wv N s::F) (kL kp ax cap sv wv N s++F):=Eqv.all _ F
theorem ZcC {w:World} {kp:Nat} {ax:Option Addr} {cap:Nat} {sv wv:Value} {N:List Nd} {s:TS} (h:Sep [KnP kp ax cap sv wv N s] w):At [KnP kp ax cap sv wv N s] w (kL kp ax cap sv wv N s) w:=(At.start h).to (Zfv kp ax cap sv wv N s [])
theorem Zbr {L0:List Part} {w0 w:World} {kp:Nat} {ax:Option Addr} {cap:Nat} {sv wv:Value} {N:List Nd} {s:TS} (h:At L0 w0 (kL kp ax cap sv wv N s) w):At L0 w0 [KnP kp ax cap sv wv N s] w:=h.to (Zfv kp ax cap sv wv N s []).symm
def ZfR (kp:Nat) (ax:Option Addr) (cap:Nat) (sv wv:Value) (N:List Nd) (s s':TS) (w:World) (e:Ending) (w':World):Prop:=
 ∃sv' wv',e=.returned (.tuple #[])∧At [KnP kp ax cap sv wv N s] w [KnP kp ax cap sv' wv' N s'] w'
structure Sm (N:List Nd) (s:TS):Prop where
 n:N.length≤1000
 c:s.count≤100000
 f:s.found≤100000
 st:s.stk.length≤100000
 wk:s.wk.length≤100000
end Go.Proofs.YtbeckijoabapkaaGreatDoor.Gr
end
