import Derived.Test.YtbeckijoabapkaaGreatDoorP11
set_option linter.unusedSimpArgs false
set_option linter.unusedVariables false
set_option maxRecDepth 100000
set_option maxHeartbeats 16000000
namespace Go.Proofs.YtbeckijoabapkaaGreatDoor
section
namespace Gr
open _root_.Go.Proofs.YtbeckijoabapkaaGreatDoor.Mark (Zds ZcB Za2 cmpID swoID totID Zh7 Zay Zcx ZgH ltID Za1)
open Go.RowKit Go.Shelf Go.Sort
theorem Ziu {w:World} {v:Value} {l:List I2} (h:Sep [rowI2 v l] w) (hmax:l.length≤100000000):
 Calls Tryz.prog 71 #[v,.func (.func 72) #[] #[]] w fun e w'=>e=.returned (.tuple #[])∧At [rowI2 v l] w [rowI2 v (Zay l)] w':=by
 have hA:=At.start h;have hrow:w.ownsRow 0 33 2 v l.length (l.flatMap Mark.idL):=hA.get (A:=rowI2 v l) .here;rcases hrow.2 with⟨hv,hz⟩|⟨gb,cap,cur,hv,hbase,hgb,r1,r2,r3,r4⟩
 · have hss:l=[]:=List.eq_nil_of_length_eq_zero hz;subst hss;subst hv
   exact(AnyF.slices_SortFunc_none Tryz.sort71 none 0 _ w).mono fun e w' ⟨h1,h2⟩=>⟨h1,by subst h2;simpa [Zay] using hA⟩
 subst hv;have hH:HoldsK Mark.idL 2 w gb 0 l.toArray:=Zds Mark.idL 2 Mark.idL_len hgb r4;have hgl:gb < w.heap.size:=(Array.getElem?_eq_some_iff.1 hgb).1;have hsz:l.toArray.size < 4611686018427387904:=by simp;omega
 refine(AnyQ.slices_SortFunc_total Tryz.sort71 2 Tryz.isAgg33 Tryz.sizeOf33 Mark.idL Mark.idL_len Mark.idL_one cmpID swoID 72 #[] gb 0 cap l.toArray w (enters_of Tryz.func72 (by kernel_rfl) rfl) (Zh7 _ _ _ _) hH hgl hsz totID).mono ?_;rintro e w' ⟨rfl,nn,os,hw⟩;refine⟨rfl,?_⟩;have hw2:w'=sortWorldK Mark.idL 2 w gb 0 nn (Zay l).toArray os:=hw;subst hw2;have ho:=ZcB Mark.idL 2 Mark.idL_len (os:=os) (n:=nn) (Zcx l) hbase hgb r1 r2 r3;refine hA.turn .here (rowI2 (.slice (some ⟨gb,0,none⟩) l.length cap) (Zay l)) ?_ (fun b hb=>.inl hb) (Zbt (Za2 _));show World.ownsRow _ 0 _ 2 _ (Zay l).length _;rw[Zcx];exact ho
theorem Zew (l:List I2):(Zay l).Pairwise (fun a b=>¬ltID b a):=by
 have tr:∀a b c:I2,(!ltOf cmpID b a)=true→(!ltOf cmpID c b)=true→(!ltOf cmpID c a)=true:=by
  intro a b c h1 h2;rw[Za1] at *
  simp only[Bool.not_eq_true',decide_eq_false_iff_not] at *
  unfold ltID at *
  omega
 have tot:∀a b:I2,((!ltOf cmpID b a) || !ltOf cmpID a b)=true:=by
  intro a b;rw[Za1,Za1];simp only[Bool.or_eq_true,Bool.not_eq_true',decide_eq_false_iff_not];unfold ltID;omega
 refine(List.pairwise_mergeSort tr tot l).imp fun {a b} h=> ?_;rw[Za1] at h;simpa using h
theorem Zd5 {l:List I2} {x:I2}:x ∈ Zay l↔x ∈ l:=(List.mergeSort_perm l _).mem_iff
theorem ZkR (a b:I2):ltID a b∨a=b∨ltID b a:=by
 obtain⟨p,q⟩:=a;obtain⟨r,s⟩:=b;unfold ltID;simp only[Prod.mk.injEq];omega
theorem ZcM {a:I2}:¬ltID a a:=by unfold ltID;omega
theorem lt_tr {a b c:I2} (h:ltID a b) (k:ltID b c):ltID a c:=by unfold ltID at *;omega
theorem ZhL {l:List I2} (h:l.Nodup):(Zay l).Pairwise ltID:=by
 have h1:=Zew l;have h2:(Zay l).Nodup:=(List.mergeSort_perm l _).nodup_iff.2 h;refine(h1.and h2).imp fun {a b} ⟨p,q⟩=> ?_;rcases ZkR a b with r|r|r
 · exact r
 · exact absurd r q
 exact absurd r p
theorem ZgB {l m:List I2} (hl:l.Pairwise ltID) (hm:m.Pairwise ltID) (h:∀x,x ∈ l↔x ∈ m):l=m:=by
 have nd:∀{k:List I2},k.Pairwise ltID→k.Nodup:=fun {k} hk=>List.Pairwise.imp (S:=fun a b=>a≠b) (fun {a b} q e=>by subst e;exact ZcM q) hk;refine List.Perm.eq_of_pairwise (le:=ltID) (fun a b _ _ p q=>absurd (lt_tr p q) ZcM) hl hm ((List.perm_ext_iff_of_nodup (nd hl) (nd hm)).2 h)
theorem Zdm {α:Type} [DecidableEq α]:∀{l m:List α},l.Nodup→(∀x ∈ l,x ∈ m)→l.length≤m.length
 |[],_,_,_=>Nat.zero_le _
 |x::l,m,h,hs=>by
  have h1:=List.nodup_cons.1 h;have hx:x ∈ m:=hs x (by simp);have:=Zdm (m:=m.erase x) h1.2 fun y hy=>(List.mem_erase_of_ne (fun e=>h1.1 (by rw[←e];exact hy))).2 (hs y (by simp[hy]))
  have h2:=List.length_erase_of_mem hx;have h3:=List.length_pos_of_mem hx;simp only[List.length_cons];omega
end Gr
end
section
namespace Gr
open _root_.Go.Proofs.YtbeckijoabapkaaGreatDoor.Mark (ltID)
open Go.RowKit
open Attr (A8 Zaz)
def Deps (es:List (I2 × A8)):Prop:=∀x a,getA es x=some a→∀q,q < 7→0≤a.dep q∧a.dep q≤1024
inductive RI (es:List (I2 × A8)) (f:F7) (a:I2):I2→Prop
 |refl:RI es f a a
 |step {x y:I2} (t:RI es f a x) (h:y ∈ ZaA es f x):RI es f a y
theorem Zg2 {f:F7} {a:A8} {y:I2} (h:y ∈ leads f a):∃q:Nat,q < 7∧f.at q < a.dep q∧y=((q:Int),a.dep q - 1):=by
 unfold leads ZcO at h;obtain⟨q,hq,rfl⟩:=List.mem_map.1 h;have:=List.mem_filter.1 hq;exact⟨q,List.mem_range.1 this.1,of_decide_eq_true this.2,rfl⟩
theorem ZbW {es:List (I2 × A8)} {f:F7} {x y:I2} (h:y ∈ ZaA es f x):∃a,getA es x=some a∧y ∈ leads f a:=by
 unfold ZaA at h;split at h
 · rename_i a ha;exact⟨a,ha,h⟩
 cases h
theorem ZeO {es:List (I2 × A8)} (hd:Deps es) {f:F7} {x y:I2} (h:y ∈ ZaA es f x):okD y:=by
 obtain⟨a,ha,hy⟩:=ZbW h;obtain⟨q,hq,_,rfl⟩:=Zg2 hy;have:=hd x a ha q hq;unfold okD okI;simp only;omega
theorem RI.ok {es:List (I2 × A8)} (hd:Deps es) {f:F7} {a x:I2} (h:RI es f a x) (ha:okD a):okD x:=by
 cases h with
 |refl=>exact ha
 |step _ h=>exact ZeO hd h
theorem sum7 (f:F7):∀es:List (I2 × A8),(es.flatMap fun e=>leads f e.2).length≤7 * es.length
 |[]=>by simp
 |e::es=>by
  have:=sum7 f es;have h2:=Zg3 f e.2;rw[List.flatMap_cons,List.length_append,List.length_cons]
  omega
theorem ZgP {es:List (I2 × A8)} {f:F7} {a:I2} {l:List I2} (hn:l.Nodup) (hr:∀x ∈ l,RI es f a x):l.length≤1 + 7 * es.length:=by
 have h1:l.length≤(a::es.flatMap fun e=>leads f e.2).length:=Zdm hn fun x hx=>by
  cases hr x hx with
  |refl=>simp
  |step _ h=>
   obtain⟨b,hb,hy⟩:=ZbW h;refine List.mem_cons_of_mem _ (List.mem_flatMap.2 ⟨_,ZbM hb,hy⟩)
 have:=sum7 f es;rw[List.length_cons] at h1
 omega
structure Bfs (es:List (I2 × A8)) (f:F7) (a:I2) (todo:List I2) (i:Nat):Prop where
 nd:todo.Nodup
 head:a ∈ todo
 reach:∀x ∈ todo,RI es f a x
 cl:∀j,j < i→∀x,todo[j]? =some x→∀y ∈ ZaA es f x,y ∈ todo
theorem ZlB (es:List (I2 × A8)) (f:F7) (a:I2):Bfs es f a [a] 0:=⟨by simp,by simp,fun x hx=>by rw[List.mem_singleton.1 hx];exact .refl,nofun⟩
theorem ZoT {es:List (I2 × A8)} {f:F7} {a:I2} {todo:List I2} {i:Nat} (h:Bfs es f a todo i) (hi:i≤todo.length) {x y:I2} (hx:x ∈ todo) (hy:y ∈ ZaA es f x) (hn:y ∉ todo):Bfs es f a (todo++[y]) i:=by
 refine⟨?_,by simp[h.head],fun z hz=> ?_,fun j hj z hz w hw=> ?_⟩
 · rw[List.nodup_append];refine⟨h.nd,by simp,fun p hp q hq=> ?_⟩;rw[List.mem_singleton.1 hq];intro e;exact hn (e ▸ hp)
 · rcases List.mem_append.1 hz with q|q
   · exact h.reach z q
   rw[List.mem_singleton.1 q];exact .step (h.reach x hx) hy
 rw[List.getElem?_append_left (by omega)] at hz;exact List.mem_append_left _ (h.cl j hj z hz w hw)
theorem Zng {es:List (I2 × A8)} {f:F7} {a:I2} {todo:List I2} {i:Nat} (h:Bfs es f a todo i) {x:I2} (hx:todo[i]? =some x) (hall:∀y ∈ ZaA es f x,y ∈ todo):Bfs es f a todo (i + 1):=
 ⟨h.nd,h.head,h.reach,fun j hj z hz w hw=>by
   by_cases e:j=i
   · subst e;rw[hx] at hz;cases hz;exact hall w hw
   exact h.cl j (by omega) z hz w hw⟩
theorem ZoU {es:List (I2 × A8)} {f:F7} {a:I2} {todo:List I2} {i:Nat} (h:Bfs es f a todo i) (hi:todo.length≤i) (x:I2):x ∈ todo↔RI es f a x:=by
 refine⟨h.reach x,fun r=> ?_⟩
 induction r with
 |refl=>exact h.head
 |step _ hy ih=>
  obtain⟨j,hj,e⟩:=List.mem_iff_getElem.1 ih;exact h.cl j (by omega) _ (by rw[List.getElem?_eq_getElem hj,e]) _ hy
def Zcw (es:List (I2 × A8)) (f:F7) (a:I2):Option (List I2)→Prop
 |some l=>behind f a=false∧l.Pairwise ltID∧(∀x,x ∈ l↔RI es f a x)∧∀x ∈ l,(getA es x).isSome=true
 |none=>behind f a=true∨∃x,RI es f a x∧getA es x=none
theorem Zco {es:List (I2 × A8)} {f:F7} {a:I2} {r s:Option (List I2)} (h:Zcw es f a r) (k:Zcw es f a s):r=s:=by
 cases r with
 |none=>
  cases s with
  |none=>rfl
  |some m=>
   rcases h with q|⟨x,hx,hg⟩
   · rw[k.1] at q;cases q
   have:=k.2.2.2 x ((k.2.2.1 x).2 hx)
   rw[hg] at this;cases this
 |some l=>
  cases s with
  |none=>
   rcases k with q|⟨x,hx,hg⟩
   · rw[h.1] at q;cases q
   have:=h.2.2.2 x ((h.2.2.1 x).2 hx)
   rw[hg] at this;cases this
  |some m=>rw[ZgB h.2.1 k.2.1 fun x=>by rw[h.2.2.1,k.2.2.1]]
def seenE (l:List I2):List (Value × Value):=l.map fun x=>(idV x,.int .i64 1)
theorem idV_inj {x y:I2} (h:idV x=idV y):x=y:=by
 obtain⟨a,b⟩:=x;obtain⟨c,d⟩:=y;simp[idV] at h;simp[h]
theorem Zka {l:List I2} {x:I2} (h:x ∉ l):∀p ∈ seenE l,p.1≠idV x:=by
 intro p hp e;obtain⟨y,hy,rfl⟩:=List.mem_map.1 hp;exact h (by rw[←idV_inj e];exact hy)
theorem Zmb {l:List I2} {x:I2} (h:x ∈ l):(idV x,Value.int .i64 1) ∈ seenE l:=List.mem_map.2 ⟨x,h,rfl⟩
theorem Zj9 (l:List I2) (x:I2):seenE l++[(idV x,.int .i64 1)]=seenE (l++[x]):=by simp[seenE]
theorem ZbI {w:World} {ax:Option Addr} {n cap i:Nat} {l:List I2} {x:I2} (h:Reads w (.slice ax n cap) n (flatI l)) (hx:l[i]? =some x):
 ∃b off,ax=some ⟨b,off,none⟩∧∀(k:Nat) u,(idL x)[k]? =some u→w.cell? ⟨b,off + i * 2 + k,none⟩=some u:=by
 obtain⟨ax',c,hv,_,hr⟩:=h;cases hv;have hat:=ZcZ idL 2 idL_len l i x hx;obtain⟨b,off,rfl,_⟩:=hr (i * 2 + 0) _ (by rw[show flatI l=l.flatMap idL from rfl,hat 0 (by omega)];rfl);refine⟨b,off,rfl,fun k u hk=> ?_⟩;have hk2:k < 2:=by have:=(List.getElem?_eq_some_iff.1 hk).1;rwa [idL_len] at this
 obtain⟨b',off',he,hc⟩:=hr (i * 2 + k) u (by rw[show flatI l=l.flatMap idL from rfl,hat k hk2];exact hk);cases he;rw[Nat.add_assoc];exact hc
theorem elem2 {c:List Value} {l:List I2} {q:Nat} {x:I2} (hct:c.take (l.length * 2)=flatI l) (hx:l[q]? =some x):(c.drop (q * 2)).take 2=idL x:=by
 apply List.ext_getElem?;intro j;by_cases hj:j < 2
 · rw[List.getElem?_take,if_pos hj,List.getElem?_drop,Zaq idL_len hct hx j hj]
 rw[List.getElem?_eq_none (by simp;omega),List.getElem?_eq_none (by rw[idL_len];omega)]
section
variable {P:Program} {ops:Array Oper} {rest:List Oper} {o:Oper} {a:Act} {Q:Exit→Act→World→Prop} {L0 L F:List Part} {w0 w:World} {k:TypeId} {b:Nat} {es:List (Value × Value)}
theorem ZcG {t:TypeId} {m x y:Operand} (hg:o.guard=none) (hop:o.op=.insert t m x y) (hm:a.eval m=.map (some b)) {key val:Value} (hx:a.eval x=key) (hy:a.eval y=val)
 (h:At L0 w0 L w) (s:Sel (Part.map P k b es) L F) {e:TypeId} (K:Go.Maps.Keyed P k) (ht:P.underlying t=some (.map k e)) {kl:Lit} (hk:keyOf P k key=some kl) (hn:∀p ∈ es,p.1≠key)
 (hK:∀w',At L0 w0 (Part.map P k b (es++[(key,val)])::F) w'→wpList P ops Q rest (a.put o.dst undef) w'):wpList P ops Q (o::rest) a w:=by
 have hM:MapAt P k w b es:=h.get s;obtain⟨w',h1,h2,h3⟩:=hM.put_new K ht hk hn val;refine Zb0 hg ?_ (hK w' (h.turn s _ h2 (fun _ e=>.inl e) h3));simp[execOp,hop,hm,hx,hy,h1,Result.andThen]
end
end Gr
end
section
namespace Gr
open _root_.Go.Proofs.YtbeckijoabapkaaGreatDoor.Mark (Zay ltID)
open Go.RowKit
open Go.Maps (Keyed)
open Attr (A8 Zaz thro)
attribute [-go_sem] run_eql_struct run_neq_struct run_eqGuard_agg
section
variable {P:Program} {ops:Array Oper} {rest:List Oper} {a:Act} {Q:Exit→Act→World→Prop} {w:World}
theorem gmu {d t p af g x y z u} (h:wpList P ops Q ({dst:=d,op:=.mapUpdate u x y z,type:=t,pos:=p,after:=af,guard:=g}::rest) a w):wpList P ops Q ({dst:=d,op:=.mapUpdate u x y z,type:=t,pos:=p,after:=af,guard:=g}::rest) a w:=h
theorem gin {d t p af g x y z u} (h:wpList P ops Q ({dst:=d,op:=.insert u x y z,type:=t,pos:=p,after:=af,guard:=g}::rest) a w):wpList P ops Q ({dst:=d,op:=.insert u x y z,type:=t,pos:=p,after:=af,guard:=g}::rest) a w:=h
theorem gmm {d t p af g x u} (h:wpList P ops Q ({dst:=d,op:=.makeMap u x,type:=t,pos:=p,after:=af,guard:=g}::rest) a w):wpList P ops Q ({dst:=d,op:=.makeMap u x,type:=t,pos:=p,after:=af,guard:=g}::rest) a w:=h
theorem glk {d t p af g x y u b} (h:wpList P ops Q ({dst:=d,op:=.lookup u x y b,type:=t,pos:=p,after:=af,guard:=g}::rest) a w):wpList P ops Q ({dst:=d,op:=.lookup u x y b,type:=t,pos:=p,after:=af,guard:=g}::rest) a w:=h
end
def Znn (w:World) (p m ms bF bI:Nat) (es:List (I2 × A8)) (f:F7) (r0 t0:Int) (k:Nat) (u v:Value) (wr:World):Prop:=
 ∃(i:Nat) (todo:List I2),u=.int .i64 i∧i + k=2 + 7 * es.length∧Bfs es f (r0,t0) todo i∧(∀k,k < i→∀z,todo[k]? =some z→(getA es z).isSome=true)∧At [GrP p m es] w [rowI2 v todo,mapC ms (seenE todo),GrP p m es,Part.cells bF f.cells 62,Part.cells bI [.int .i64 r0,.int .i64 t0] 33] wr
def ZlJ (w:World) (p m ms bF bI:Nat) (es:List (I2 × A8)) (f:F7) (r0 t0:Int) (i:Nat) (x:I2) (vl:Value) (ls:List I2) (k:Nat) (u v:Value) (wr:World):Prop:=
 ∃(j:Nat) (todo:List I2),u=.int .i64 j∧j + k=ls.length∧Bfs es f (r0,t0) todo i∧(∀k,k < i→∀z,todo[k]? =some z→(getA es z).isSome=true)∧i < todo.length∧todo[i]? =some x∧(∀z ∈ ls.take j,z ∈ todo)∧At [GrP p m es] w [rowI2 v todo,rowI2 vl ls,mapC ms (seenE todo),GrP p m es,Part.cells bF f.cells 62,Part.cells bI [.int .i64 r0,.int .i64 t0] 33] wr
def ZlN (p m:Nat) (es:List (I2 × A8)) (f:F7) (x:I2) (w:World) (e:Ending) (w':World):Prop:=
 (∃l v,e=.returned (.tuple #[v,.bool true])∧Zcw es f x (some l)∧At [GrP p m es] w [rowI2 v l,GrP p m es] w')∨
 (e=.returned (.tuple #[.slice none 0 0,.bool false])∧Zcw es f x none∧At [GrP p m es] w [GrP p m es] w')
theorem ZkL {w:World} {p m:Nat} {es:List (I2 × A8)} (h:Sep [GrP p m es] w) (f:F7) (x:I2) (hx:okD x) (hd:Deps es) (hn:es.length≤1000):
 Calls Tryz.prog 53 #[.pointer (some ⟨p,0,none⟩),f.val,idV x] w (ZlN p m es f x w):=by
 obtain⟨i0,hi0,hz0,hz1,hz2⟩:=info_parts infoI;have hm:Tryz.prog.follows .mixedOrders=true:=by kernel_rfl
 have hA:=At.start h;have hF:=hA.facts;obtain⟨kl0,hk0⟩:=keyI hx;have hd0:=Hd hd;have hok0:=Hd hx;clear h hx hd;obtain⟨r0,t0⟩:=x;have hfh:=fun w=>ZmV f (r0,t0) w
 obtain⟨bh,hbh⟩:∃z,behind f (r0,t0)=z:=⟨_,rfl⟩
 have hbh':=Hd hbh;rw[hbh] at hfh;clear hbh;simp only[F7.val,idV] at *
 obtain⟨hA,hF⟩:=fZ hA;go_enter Tryz.func53,Tryz.ntmps53
 go_wp2_with (first|((with_reducible refine gbx ?_);refine wHz 33 [.int .i64 r0,.int .i64 t0] hA ?_;clear hF hA;intro bI w1 hA hbI hF)|((with_reducible refine gbx ?_);refine wHz 62 [.int .i64 f.f0,.int .i64 f.f1,.int .i64 f.f2,.int .i64 f.f3,.int .i64 f.f4,.int .i64 f.f5,.int .i64 f.f6] hA ?_;clear hF hA;intro bF w1 hA hbF hF))
 refine(hfh _).mono ?_;rintro e w1 ⟨rfl,hx⟩;replace hA:=hA.ext hx;clear hF hx hfh;obtain⟨hA,hF⟩:=fZ hA;cases bh
 · skip
   go_wp2_with (first|((with_reducible refine gmm ?_);refine Zav Tryz.prog 33 rfl rfl hA ?_;intro ms w1 hB hms;replace hA:=hB;clear hF hB;obtain⟨hA,hF⟩:=fZ hA)|(with_reducible refine gin ?_);refine ZcG (b:=ms) (key:=.agg #[.int .i64 r0,.int .i64 t0]) (val:=.int .i64 1) (es:=[]) rfl rfl (by(try simp only[Act.eval,eV])<;>exact rfl) (by(try simp only[Act.eval,eV])<;>exact rfl) (by(try simp only[Act.eval,eV])<;>exact rfl) hA sR lawI Tryz.underlying150 hk0 nofun ?_;intro w1 hB;replace hA:=hB;clear hF hB;obtain⟨hA,hF⟩:=fZ hA|((with_reducible show wpList _ _ _ ({dst:=_,op:=Op.buildSlice _ _ _,type:=_,pos:=_,after:=_,guard:=_}::_) _ _);refine ZaO (e:=33) (vs:=idL (r0,t0)) rfl rfl (by(try simp only[Act.eval,eV])<;>exact rfl) (fun _=>by kernel_rfl) hA ?_;intro b20 w1 hB hb20;replace hA:=hB;clear hF hB;obtain⟨hA,hF⟩:=fZ hA))
   replace hA:=hA.row_shut (n:=1) (cap:=1) (size:=2) (g:=b20) (c:=idL (r0,t0)) (xs:=flatI [(r0,t0)]) sZ rfl (by omega) (by unfold maxLen;omega) rfl;clear hF;go_loopg [10,9] (2 + 7 * es.length) (Znn w p m ms bF bI es f r0 t0)
   case atStart=>exact⟨0,[(r0,t0)],rfl,by omega,ZlB es f (r0,t0),nofun,hA.pick pZ⟩
   case round=>
    obtain⟨i,todo,rfl,hik,hbf,hkn,hB⟩:=hrel;have hbf':=Hd hbf;have hlen:=ZgP hbf.nd hbf.reach;have hkn':=Hd hkn;clear hkn;clear hF hA hbf;have hA:=hB;clear hB;obtain⟨ax,cap,hv9,hax,hcp,_⟩:=hA.row_form .here;have hax':=Hd hax;subst hv9;clear hax;by_cases hi:i < todo.length
    · skip
      obtain⟨x,hxi⟩:∃x,todo[i]? =some x:=⟨_,List.getElem?_eq_getElem hi⟩
      have hxi':=Hd hxi;have hxo:=hbf'.out.reach x (List.mem_of_getElem? hxi);have hxk:=hxo.ok hd0.out hok0.out;have hxk':=Hd hxk;have hxr:=Hd hxo;have hha:=fun(w1:World) (q:Sep [GrP p m es] w1)=>Zgh q x hxk;have hle:=fun(w1:World) (q:Sep [GrP p m es] w1)=>Zg4 q f x hxk (fun a ha=>hd0.out x a ha);have hl7:=ZdO es f x;have hrr:=ZbI (hA.row_reads (v:=.slice ax todo.length cap) (n:=todo.length) (xs:=flatI todo) .here) hxi;clear hxi hxo hxk
      obtain⟨ls,hls⟩:∃z,ZaA es f x=z:=⟨_,rfl⟩
      have hls':=Hd hls;rw[hls] at hle hl7;clear hls
      obtain⟨kn,hkn⟩:∃z,(getA es x).isSome=z:=⟨_,rfl⟩
      have hkn2:=Hd hkn;rw[hkn] at hha;clear hkn;obtain⟨r1,t1⟩:=x;simp only[idV,F7.val] at hha hle;obtain⟨bt,offt,hax2,hce⟩:=hrr;have hr2':=Hd (show ∀(k:Nat) u,([.int .i64 r1,.int .i64 t1]:List Value)[k]? =some u→wr.cell? ⟨bt,offt + i * 2 + k,none⟩=some u from hce);clear hce;subst hax2;obtain⟨hA,hF⟩:=fZ hA
      go_wp2_with ((with_reducible show wpList _ _ _ ({dst:=some 31,op:=Op.load _ _,type:=_,pos:=_,after:=_,guard:=_}::_) _ _);refine Zad (vs:=[.int .i64 r1,.int .i64 t1]) rfl rfl (by(try simp only[Act.eval,eV])<;>exact rfl) hr2'.out (by kernel_rfl) (by kernel_rfl) ?_)
      refine(hha _ (hA.sep1 (A:=GrP p m es) sR)).mono ?_;clear hha hr2';rintro e w1 ⟨rfl,hT⟩;replace hA:=hA.call1 sR hT;clear hF hT;obtain⟨hA,hF⟩:=fZ hA;cases kn
      · go_wp2_with fail;refine bodyPost_ret (v:=.tuple #[.slice none 0 0,.bool false]) (by simp[results,Tryz.results53,go_sem]) rfl ?_;exact .inr ⟨rfl,.inr ⟨_,hxr.out,by simpa using hkn2.out⟩,hA.only1 sR⟩
      skip;go_wp2_with fail;(try go_frame);clear hF;obtain⟨g,c,hg1,hc1,hc2,hc3,hc4,hB⟩:=hA.row_open (ax:=some ⟨bt,offt,none⟩) (cap:=cap) (n:=todo.length) (xs:=flatI todo) sZ (by omega);cases hg1;clear hA;have hA:=hB.drew;clear hB;have helt:=elem2 hc4 hxi'.out;refine wp_region_held (S:=fun w'=>Zaa w' bF f.cells 62∧Zaa w' bt c 33) hm ?_;change wpAnyH _ _ _ _ _ 9 _ _ (World.drew _);generalize World.drew _=w2 at *
      have hS0:Zaa w2 bF f.cells 62∧Zaa w2 bt c 33:=⟨hA.get (A:=Part.cells bF f.cells 62) sZ,hA.get (A:=Part.cells bt c 33) sZ⟩
      refine tZ 0 34 (.pointer (some ⟨p,0,none⟩)) (r:=(fun w' hS=>by simp[execOp,go_sem,Act.eval,Act.put])) (s:=hS0) (h:= ?_);go_frame;refine tZ 1 35 (.agg #[.int .i64 f.f0,.int .i64 f.f1,.int .i64 f.f2,.int .i64 f.f3,.int .i64 f.f4,.int .i64 f.f5,.int .i64 f.f6]) (r:=(fun w' hS=>Zae (ty:=62) (n:=7) rfl (by exact rfl) hS.1 (by kernel_rfl) (by kernel_rfl) rfl rfl)) (s:=hS0) (h:= ?_);go_frame;refine tZ 2 36 (.slice (some ⟨bt,0,none⟩) todo.length cap) (r:=(fun w' hS=>by simp[execOp,go_sem,Act.eval,Act.put])) (s:=hS0) (h:= ?_);go_frame;refine tZ 3 37 (.int .i64 i) (r:=(fun w' hS=>by simp[execOp,go_sem,Act.eval,Act.put])) (s:=hS0) (h:= ?_);go_frame;refine tZ 4 38 (.pointer (some ⟨bt,i * 2,none⟩)) (r:=(fun w' hS=>by simp[execOp,go_sem,Act.eval,Act.put];intro h;omega)) (s:=hS0) (h:= ?_);go_frame;refine tZ 5 39 (.agg #[.int .i64 r1,.int .i64 t1]) (r:=(fun w' hS=>Zae (ty:=33) (n:=2) (b:=bt) (j:=i * 2) rfl (by exact rfl) hS.2 (by kernel_rfl) (by kernel_rfl) helt rfl)) (s:=hS0) (h:= ?_);go_frame;refine tZ 8 42 (.int .i64 0) (r:=(fun w' hS=>by simp[execOp,go_sem,Act.eval,Act.put])) (s:=hS0) (h:= ?_);go_frame;refine Zab (i:=6) (by kernel_rfl) ?_;refine cY 6 40 70 (fun u w'=>At [GrP p m es] w2 [rowI2 u ls,GrP p m es] w') ((hle _ (hA.sep1 (A:=GrP p m es) sZ)).mono fun e w' ⟨v,he,hT⟩=>⟨v,he,hT⟩) ?_;intro vl w3 hT;replace hA:=hA.call1 (A:=GrP p m es) sZ hT;clear hT hle;simp only[uA] at hA;obtain⟨axl,capl,hvl,haxl,hcpl,_⟩:=hA.row_form .here;have haxl':=Hd haxl;subst hvl;clear haxl
      have hS1:Zaa w3 bF f.cells 62∧Zaa w3 bt c 33:=⟨hA.get (A:=Part.cells bF f.cells 62) sZ,hA.get (A:=Part.cells bt c 33) sZ⟩
      refine⟨hS1,?_⟩
      (try go_frame);refine tZ 7 41 (.int .i64 ls.length) (r:=(fun w' hS=>by simp[execOp,go_sem,Act.eval,Act.put])) (s:=hS1) (h:= ?_);go_frame;refine wpAnyH_done (by kernel_rfl) ?_ _;(try go_frame);clear hS0 hS1;have hB:=hA.row_shut (n:=todo.length) (cap:=cap) (size:=2) (g:=bt) (c:=c) (xs:=flatI todo) sZ hc3 hc1 hc2 hc4;clear hA;have hA:=hB;clear hB hc1 hc2 hc3 hc4 helt c;obtain⟨hA,hF⟩:=fZ hA;go_wp2_with fail;have hik':i + (gk - 1) + 1=2 + 7 * es.length∧0 < gk:=by omega
      have hikh:=Hd hik'
      obtain⟨G,hG⟩:∃G,G=gk - 1:=⟨_,rfl⟩
      have hGk:gk=G + 1:=by omega
      subst hGk;have hikG:i + 1 + G=2 + 7 * es.length:=by omega
      clear hik hik' hikh hG;try simp only[Nat.zero_add]
      go_loopg [42,9] ls.length (ZlJ w p m ms bF bI es f r0 t0 i (r1,t1) (.slice axl ls.length capl) ls)
      case atStart=>exact⟨0,todo,rfl,by simp,hbf'.out,hkn'.out,hi,hxi'.out,nofun,hA.pick pZ⟩
      case round=>
       clear hlen hcp hi hxi' hbf';have hax0:=hax';clear hax' hax0;clear hkn';obtain⟨j,todo,rfl,hjk,hbf,hkn,hi,hxi,hsub,hB⟩:=hrel;have hbf':=Hd hbf;have hsub':=Hd hsub;have hxi':=Hd hxi;have hlen:=ZgP hbf.nd hbf.reach;have hkn':=Hd hkn;clear hkn;clear hA hbf hsub hxi;have hA:=hB;clear hB;obtain⟨ax,cap,hv9,hax,hcp,_⟩:=hA.row_form .here;have hax':=Hd hax;subst hv9;clear hax;by_cases hj:j < ls.length
       · skip
         obtain⟨y,hyj⟩:∃y,ls[j]? =some y:=⟨_,List.getElem?_eq_getElem hj⟩
         have hyj':=Hd hyj;have hyl:y ∈ ZaA es f (r1,t1):=by rw[hls'.out];exact List.mem_of_getElem? hyj
         have hyl':=Hd hyl;have hyk:=ZeO hd0.out hyl;obtain⟨kl1,hk1⟩:=keyI hyk;have hrr:=ZbI (hA.row_reads (v:=.slice axl ls.length capl) (n:=ls.length) (xs:=flatI ls) sZ) hyj;clear hyj hyl hyk;have hnx:=Hd (show ∀z ∈ ls.take (j + 1),z ∈ ls.take j∨z=y from fun z hz=>by rw[List.take_add_one,hyj'.out] at hz;simpa using hz);obtain⟨r2,t2⟩:=y;obtain⟨bt2,offt2,hax3,hce⟩:=hrr;have hr2':=Hd (show ∀(k:Nat) u,([.int .i64 r2,.int .i64 t2]:List Value)[k]? =some u→wr.cell? ⟨bt2,offt2 + j * 2 + k,none⟩=some u from hce);clear hce;subst hax3;simp only[idV] at hk1;obtain⟨hA,hF⟩:=fZ hA;by_cases hmem:(r2,t2) ∈ todo
         · have hmem':=Hd hmem;clear hmem
           go_wp2_with (first|((with_reducible refine gal ?_);refine g3 hA ?_;clear hF hA;intro b12 w1 hA hb12 hF)|((with_reducible show wpList _ _ _ ({dst:=some 45,op:=Op.load _ _,type:=_,pos:=_,after:=_,guard:=_}::_) _ _);refine Zad (vs:=[.int .i64 r2,.int .i64 t2]) rfl rfl (by(try simp only[Act.eval,eV])<;>exact rfl) hr2'.out (by kernel_rfl) (by kernel_rfl) ?_)|((with_reducible refine glk ?_);refine ZcE (b:=ms) rfl rfl (by(try simp only[Act.eval,eV])<;>exact rfl) (key:=.agg #[.int .i64 r2,.int .i64 t2]) (by(try simp only[Act.eval,eV])<;>exact rfl) hA (k:=33) (es:=seenE todo) (v:=.int .i64 1) sR lawI Tryz.underlying150 hk1 (Zmb hmem'.out) ?_)|((with_reducible refine gst ?_);refine wTz hA ?_;clear hF hA;intro w1 hA hF))
           go_roundg (gk - 1);case measure=>omega
           case rel=>exact⟨j + 1,todo,by simp,by omega,hbf'.out,hkn'.out,hi,hxi'.out,fun z hz=>(hnx.out z hz).elim (hsub'.out z) (fun q=>by rw[q];exact hmem'.out),hA.pick pZ⟩
         have hni:=Hd hmem;clear hmem
         go_wp2_with (first|((with_reducible refine gal ?_);refine g3 hA ?_;clear hF hA;intro b12 w1 hA hb12 hF)|((with_reducible show wpList _ _ _ ({dst:=some 45,op:=Op.load _ _,type:=_,pos:=_,after:=_,guard:=_}::_) _ _);refine Zad (vs:=[.int .i64 r2,.int .i64 t2]) rfl rfl (by(try simp only[Act.eval,eV])<;>exact rfl) hr2'.out (by kernel_rfl) (by kernel_rfl) ?_)|((with_reducible refine glk ?_);refine ZcF (b:=ms) rfl rfl (by(try simp only[Act.eval,eV])<;>exact rfl) (key:=.agg #[.int .i64 r2,.int .i64 t2]) (by(try simp only[Act.eval,eV])<;>exact rfl) hA (k:=33) (es:=seenE todo) (z:=.int .i64 0) sR lawI Tryz.underlying150 hk1 (Zka hni.out) (fun _=>by kernel_rfl) ?_)|((with_reducible refine gmu ?_);refine Zao (b:=ms) (key:=.agg #[.int .i64 r2,.int .i64 t2]) (val:=.int .i64 1) (es:=seenE todo) rfl rfl (by(try simp only[Act.eval,eV])<;>exact rfl) (by(try simp only[Act.eval,eV])<;>exact rfl) (by(try simp only[Act.eval,eV])<;>exact rfl) hA sR lawI Tryz.underlying150 hk1 (Zka hni.out) ?_;intro w1 hB;have hsn:=Zj9 todo (r2,t2);simp only[idV] at hsn;rw[hsn] at hB;clear hsn hF hA;have hA:=hB;clear hB;obtain⟨hA,hF⟩:=fZ hA)|((with_reducible show wpList _ _ _ ({dst:=_,op:=Op.buildSlice _ _ _,type:=_,pos:=_,after:=_,guard:=_}::_) _ _);refine ZaO (e:=33) (vs:=idL (r2,t2)) rfl rfl (by(try simp only[Act.eval,eV])<;>exact rfl) (fun _=>by kernel_rfl) hA ?_;intro b54 w1 hB hb54;replace hA:=hB;clear hF hB;obtain⟨hA,hF⟩:=fZ hA)|((with_reducible show wpList _ _ _ ({dst:=_,op:=Op.call {callee:=Callee.builtin Builtin.append,args:=_,argTypes:=_},type:=_,pos:=_,after:=_,guard:=_}::_) _ _);refine Zal (e:=33) (size:=2) (v:=.slice ax todo.length cap) (xs:=flatI todo) (n:=todo.length) (m:=1) (news:=idL (r2,t2)) rfl _ _ 55 rfl Tryz.underlying55 hi0 hz0 hz1 hz2 rfl (by omega) hA sR (by(try simp only[Act.eval,eV])<;>exact rfl) (by(try simp only[Act.eval,eV])<;>exact rfl) rfl (hA.cells_reads sR _ _) (idL_one _) (by unfold maxLen;omega) (by omega) ?_;intro v1 w1 hB;rw[ZdK] at hB;replace hA:=hB;clear hF hB;obtain⟨hA,hF⟩:=fZ hA)|((with_reducible refine gst ?_);refine wTz hA ?_;clear hF hA;intro w1 hA hF))
         go_roundg (gk - 1);case measure=>omega
         case rel=>exact⟨j + 1,todo++[(r2,t2)],by simp,by omega,ZoT hbf'.out (by omega) (List.mem_of_getElem? hxi'.out) hyl'.out hni.out,fun k hk z hz=>by rw[List.getElem?_append_left (by omega)] at hz;exact hkn'.out k hk z hz,by simp;omega,by rw[List.getElem?_append_left hi];exact hxi'.out,fun z hz=>(hnx.out z hz).elim (fun q=>List.mem_append_left _ (hsub'.out z q)) (fun q=>by simp[q]),hA.pick pZ⟩
       have hbn:=Zng hbf'.out hxi'.out (fun z hz=>hsub'.out z (by rw[hls'.out] at hz;rw[List.take_of_length_le (by omega)];exact hz));have hbn':=Hd hbn;clear hbn;obtain⟨hA,hF⟩:=fZ hA;go_wp2_with fail;go_roundg G;case measure=>omega
       case rel=>exact⟨i + 1,todo,by simp,by omega,hbn'.out,fun k hk z hz=>if e:k < i then hkn'.out k e z hz else(by have e2:k=i:=(by omega);subst e2;rw[hxi'.out] at hz;cases hz;exact hkn2.out),hA.pick pZ⟩
    have hall:=Hd (ZoU hbf'.out (by omega));obtain⟨hA,hF⟩:=fZ hA;go_wp2_with fail;refine(Ziu (hA.sep1 (A:=rowI2 (.slice ax todo.length cap) todo) sZ) (by omega)).mono ?_;rintro e w1 ⟨rfl,hT⟩;replace hA:=hA.call1 (A:=rowI2 (.slice ax todo.length cap) todo) sZ hT;clear hF hT;simp only[uA] at hA;obtain⟨hA,hF⟩:=fZ hA;go_wp2_with fail;refine bodyPost_ret (v:=.tuple #[.slice ax todo.length cap,.bool true]) (by simp[results,Tryz.results53,go_sem]) rfl ?_;exact .inl ⟨Zay todo,_,rfl,⟨hbh'.out,ZhL hbf'.out.nd,fun z=>Zd5.trans (hall.out z),fun z hz=>by obtain⟨k,hk,e⟩:=List.mem_iff_getElem.1 (Zd5.1 hz);exact hkn'.out k (by omega) z (by rw[List.getElem?_eq_getElem hk,e])⟩,hA.only2 sZ sZ⟩
 go_wp2_with fail;refine bodyPost_ret (v:=.tuple #[.slice none 0 0,.bool false]) (by simp[results,Tryz.results53,go_sem]) rfl ?_;exact .inr ⟨rfl,.inl hbh'.out,hA.only1 sR⟩
end Gr
end
section
namespace Gr
open Go.RowKit
open Go.Maps (Keyed)
open Attr (A8 Zaz)
theorem Zny {L0 K F:List Part} {w0 w:World} {g cap:Nat} {c:List Value} {l:List I2} (hA:At L0 w0 K w) (s:Sel (Part.cells g c 33) K F) (hcl:c.length=cap * 2) (hcap:l.length≤cap) (hcm:cap≤maxLen) (hct:c.take (l.length * 2)=flatI l):
 At L0 w0 (rowI2 (.slice (some ⟨g,0,none⟩) l.length cap) l::F) w:=hA.row_shut s hcl hcap hcm hct
def lackF (es:List (I2 × A8)) (x:I2):Bool:= !(getA es x).isSome
abbrev cloL (b3 p m:Nat) (es:List (I2 × A8)):List Part:=[.cells b3 [.pointer (some ⟨p,0,none⟩)] 61,GrP p m es]
def cloP (b3 p m:Nat) (es:List (I2 × A8)):Part:=.all (cloL b3 p m es)
theorem Ze0 (b3 p m:Nat) (es:List (I2 × A8)) (F:List Part):Eqv (cloP b3 p m es::F) (cloL b3 p m es++F):=Eqv.all _ F
theorem ZiK {w:World} {b3 p m:Nat} {es:List (I2 × A8)} (h:Sep [cloP b3 p m es] w) {x:I2} (hx:okD x) {c:Bool} (hc:lackF es x=c):
 Calls Tryz.prog 75 #[.agg #[.int .i64 x.1,.int .i64 x.2],.pointer (some ⟨b3,0,none⟩)] w fun e w'=>e=.returned (.bool c)∧At [cloP b3 p m es] w [cloP b3 p m es] w':=by
 have hA:At [cloP b3 p m es] w (cloL b3 p m es) w:=(At.start h).to (Ze0 b3 p m es []);have hha:=fun(w1:World) (q:Sep [GrP p m es] w1)=>Zgh q x hx;unfold lackF at hc;have hF:=hA.facts;generalize (getA es x).isSome=z at *
 subst hc;clear h hx;obtain⟨r,t⟩:=x;simp only[idV] at *
 obtain⟨hA,hF⟩:=fZ hA;go_enter Tryz.func75,Tryz.ntmps75
 go_wp2_with ((with_reducible refine gbx ?_);refine wHz 33 [.int .i64 r,.int .i64 t] hA ?_;clear hF hA;intro bX w1 hA hbX hF)
 refine(hha _ (hA.sep1 (A:=GrP p m es) sR)).mono ?_;clear hha;rintro e w1 ⟨rfl,hT⟩;replace hA:=hA.call1 sR hT;clear hF hT;obtain⟨hA,hF⟩:=fZ hA;go_wp2_with fail;go_ret;exact⟨rfl,(hA.only2 sZ sR).to (Ze0 b3 p m es []).symm⟩
def Zo3 (w:World) (v:Value) (l:List I2) (E:Part) (f:I2→Bool) (k:Nat) (u:Value) (wr:World):Prop:=
 ∃i:Nat,u=.int .i64 i∧i + k=l.length∧At [rowI2 v l,E] w [rowI2 v l,E] wr∧∀x ∈ l.take i,f x=false
def Znr (w:World) (v:Value) (l:List I2) (E:Part) (f:I2→Bool) (e:Ending) (w':World):Prop:=
 ((∃i:Nat,e=.returned (.int .i64 i)∧i < l.length∧(∀h:i < l.length,f l[i]=true)∧∀x ∈ l.take i,f x=false)∨(e=.returned (.int .i64 (-1))∧∀x ∈ l,f x=false))∧At [rowI2 v l,E] w [rowI2 v l,E] w'
def keepF (f:I2→Bool) (l:List I2):List I2:=l.filter (fun x=> !f x)
abbrev rowN (v:Value) (n:Nat) (lc:List I2):Part:=.row 33 2 v n (flatI lc)
theorem ZdP (f:I2→Bool) (l:List I2) (x:I2):keepF f (l++[x])=keepF f l++(if f x then[] else[x]):=by
 unfold keepF;rw[List.filter_append];cases h:f x<;>simp[h]
theorem ZfB (l:List I2) (k:Nat):(flatI l).take (k * 2)=flatI (l.take k):=by
 induction l generalizing k with
 |nil=>simp[flatI]
 |cons x l ih=>
  cases k with
  |zero=>simp[flatI]
  |succ k=>
   have:=ih k
   unfold flatI at *
   rw[List.take_succ_cons,List.flatMap_cons,List.flatMap_cons,←this,List.take_append];have e:(idL x).length=2:=rfl;rw[List.take_of_length_le (by omega),e,show(k + 1) * 2 - 2=k * 2 by omega]
structure Moved (f:I2→Bool) (l lc:List I2) (i j:Nat):Prop where
 lt:i < j
 len:lc.length=l.length
 head:lc.take i=keepF f (l.take j)
 tail:lc.drop j=l.drop j
theorem Moved.at {f:I2→Bool} {l lc:List I2} {i j:Nat} (h:Moved f l lc i j) (hj:j < l.length):lc[j]? =some l[j]:=by
 have:=congrArg (fun m=>m[0]?) h.tail;simp only[List.getElem?_drop,Nat.add_zero] at this;rw[this,List.getElem?_eq_getElem hj]
theorem Moved.tail1 {f:I2→Bool} {l lc:List I2} {i j:Nat} (h:Moved f l lc i j):lc.drop (j + 1)=l.drop (j + 1):=by
 have:=congrArg (fun m=>m.drop 1) h.tail
 simpa [List.drop_drop,Nat.add_comm] using this
theorem Moved.gone {f:I2→Bool} {l lc:List I2} {i j:Nat} (h:Moved f l lc i j) (hj:j < l.length) (hf:f l[j]=true):Moved f l lc i (j + 1):=
 ⟨by have:=h.lt;omega,h.len,by rw[h.head,List.take_succ_eq_append_getElem hj,ZdP,hf];exact(List.append_nil _).symm,h.tail1⟩
theorem Moved.kept {f:I2→Bool} {l lc:List I2} {i j:Nat} (h:Moved f l lc i j) (hj:j < l.length) (hf:f l[j]=false):Moved f l (lc.set i l[j]) (i + 1) (j + 1):=by
 have hlt:=h.lt;have hil:i < lc.length:=by rw[h.len];omega
 refine⟨by omega,by rw[List.length_set,h.len],?_,?_⟩
 · rw[List.take_succ_eq_append_getElem hj,List.take_succ_eq_append_getElem (by rw[List.length_set];exact hil),List.take_set_of_le (Nat.le_refl _),h.head,ZdP,hf,List.getElem_set_self];rfl
 rw[List.drop_set_of_lt (by omega),h.tail1]
theorem Moved.first {f:I2→Bool} {l:List I2} {i:Nat} (hi:i < l.length) (hf:f l[i]=true) (hn:∀x ∈ l.take i,f x=false):Moved f l l i (i + 1):=by
 refine⟨by omega,rfl,?_,rfl⟩;rw[List.take_succ_eq_append_getElem hi,ZdP,hf];unfold keepF;rw[List.filter_eq_self.2 (fun x hx=>by rw[hn x hx];rfl)];exact(List.append_nil _).symm
def Zo4 (w:World) (v:Value) (l:List I2) (E:Part) (f:I2→Bool) (k:Nat) (u5 u6:Value) (wr:World):Prop:=
 ∃(i j:Nat) (lc:List I2),u5=.int .i64 i∧u6=.int .i64 j∧j + k=l.length∧Moved f l lc i j∧At [rowI2 v l,E] w [rowN v l.length lc,E] wr
def Zns (w:World) (v:Value) (l:List I2) (E:Part) (f:I2→Bool) (e:Ending) (w':World):Prop:=
 ∃v',e=.returned v'∧At [rowI2 v l,E] w [rowI2 v' (keepF f l),E] w'
theorem ZmJ {w:World} {v:Value} {l:List I2} {b3 p m:Nat} {es:List (I2 × A8)} (h:Sep [rowI2 v l,cloP b3 p m es] w) (hm:∀x ∈ l,okD x) (hmax:l.length≤1000000):
 Calls Tryz.prog 97 #[v,.func (.func 75) #[] #[.pointer (some ⟨b3,0,none⟩)]] w (Znr w v l (cloP b3 p m es) (lackF es)):=by
 have hA:=At.start h;have hF:=hA.facts;clear h;obtain⟨ax,cap,rfl,hax,hcap,_⟩:=hA.row_form (v:=v) (xs:=flatI l) sR;have hm':=Hd hm;clear hm;go_enter Tryz.func97,Tryz.ntmps97;go_wp2_with fail;(try go_frame);go_loopg [8] l.length (Zo3 w (.slice ax l.length cap) l (cloP b3 p m es) (lackF es))
 case atStart=>exact⟨0,rfl,by simp,hA,by simp⟩
 case round=>
  obtain⟨i,rfl,hik,hB,hno⟩:=hrel;have hno':=Hd hno;clear hF hA hno;have hA:=hB;clear hB;by_cases hi:i < l.length
  · obtain⟨g,c,rfl,_,hcm,hcl,hct,hB⟩:=hA.row_open (ax:=ax) (cap:=cap) (n:=l.length) (xs:=flatI l) sR (by omega);have hx:l[i]? =some l[i]:=List.getElem?_eq_getElem hi;have c0:c[i * 2]? =some (.int .i64 l[i].1):=Zaq idL_len hct hx 0 (by omega);have c1:c[i * 2 + 1]? =some (.int .i64 l[i].2):=Zaq idL_len hct hx 1 (by omega);clear hA;have hA:=hB;clear hB;obtain⟨hA,hF⟩:=fZ hA;cases hy:lackF es l[i]
    · go_wp2_with fail;refine(ZiK (hA.sep1 (A:=cloP b3 p m es) sR) (hm'.out _ (List.getElem_mem hi)) hy).mono ?_;rintro e w2 ⟨rfl,hT⟩;replace hA:=hA.call1 sR hT;clear hF hT;obtain⟨hA,hF⟩:=fZ hA;go_wp2_with fail;go_roundg (gk - 1);case measure=>omega
      case rel=>exact⟨i + 1,by simp,by omega,(Zny hA sR hcl hcap hcm hct).only2 sR sR,fun x hx=>by
       rw[List.take_succ_eq_append_getElem hi] at hx;rcases List.mem_append.1 hx with hx|hx
       · exact hno'.out x hx
       rw[List.mem_singleton.1 hx];exact hy⟩
    go_wp2_with fail;refine(ZiK (hA.sep1 (A:=cloP b3 p m es) sR) (hm'.out _ (List.getElem_mem hi)) hy).mono ?_;rintro e w2 ⟨rfl,hT⟩;replace hA:=hA.call1 sR hT;clear hF hT;obtain⟨hA,hF⟩:=fZ hA;go_wp2_with fail;refine bodyPost_ret (results_tmp rfl _ _ _) rfl ?_;exact⟨.inl ⟨i,rfl,hi,fun _=>hy,hno'.out⟩,(Zny hA sR hcl hcap hcm hct).only2 sR sR⟩
  go_wp2_with fail;go_ret;exact⟨.inr ⟨rfl,fun x hx=>hno'.out x (by rw[List.take_of_length_le (by omega)];exact hx)⟩,hA.only2 sR sR⟩
theorem Zm5 {w:World} {v:Value} {l:List I2} {b3 p m:Nat} {es:List (I2 × A8)} (h:Sep [rowI2 v l,cloP b3 p m es] w) (hm:∀x ∈ l,okD x) (hmax:l.length≤1000000):
 Calls Tryz.prog 73 #[v,.func (.func 75) #[] #[.pointer (some ⟨b3,0,none⟩)]] w (Zns w v l (cloP b3 p m es) (lackF es)):=by
 have hA:=At.start h;have hF:=hA.facts;clear h;have hm':=Hd hm;clear hm;go_enter Tryz.func73,Tryz.ntmps73;go_wp2_with fail;refine(ZmJ hA.sep hm'.out hmax).mono ?_;rintro e w2 ⟨hr,hT⟩;replace hA:=hA.call2 sR sR hT;clear hF hT;obtain⟨hA,hF⟩:=fZ hA;rcases hr with⟨i0,rfl,hi0,hf0,hno⟩|⟨rfl,hno⟩
 · obtain⟨ax,cap,rfl,hax,hcap,_⟩:=hA.row_form (v:=v) (xs:=flatI l) sR;have hM0:=Hd (Moved.first hi0 (hf0 hi0) hno);clear hf0 hno;have hne:((i0:Int)== -1)=false:=by simp
   go_wp2_with fail;(try go_frame);go_loopg [5,6] (l.length - (i0 + 1)) (Zo4 w (.slice ax l.length cap) l (cloP b3 p m es) (lackF es))
   case atStart=>exact⟨i0,i0 + 1,l,rfl,by simp,by omega,hM0.out,hA.only2 sR sR⟩
   case round=>
    obtain⟨i,j,lc,rfl,rfl,hjk,hMv,hB⟩:=hrel;have hMv':=Hd hMv;have hij:=hMv.lt;have hlen:=hMv.len;clear hF hA hMv;have hA:=hB;clear hB;obtain⟨g,c,rfl,_,hcm,hcl,hct,hB⟩:=hA.row_open (ax:=ax) (cap:=cap) (n:=l.length) (xs:=flatI lc) sR (by omega);have hct':c.take (lc.length * 2)=lc.flatMap idL:=by rw[hlen];exact hct
    replace hA:=hB;clear hB;by_cases hj:j < l.length
    · have hx:lc[j]? =some l[j]:=hMv'.out.at hj;have c0:c[j * 2]? =some (.int .i64 l[j].1):=Zaq idL_len hct' hx 0 (by omega);have c1:c[j * 2 + 1]? =some (.int .i64 l[j].2):=Zaq idL_len hct' hx 1 (by omega);obtain⟨hA,hF⟩:=fZ hA;cases hy:lackF es l[j]
      · have hMn:=Hd (hMv'.out.kept hj hy);have hwr:=Hd (Zgp idL_len hct' (i:=i) (by omega) l[j])
        go_wp2_with (first|((with_reducible refine gst ?_);refine wTz hA ?_;clear hF hA;intro w1 hA hF)|((with_reducible refine gal ?_);refine g3 hA ?_;clear hF hA;intro b1 w1 hA hb1 hF))
        refine(ZiK (hA.sep1 (A:=cloP b3 p m es) sR) (hm'.out _ (List.getElem_mem hj)) hy).mono ?_;rintro e w2 ⟨rfl,hT⟩;replace hA:=hA.call1 sR hT;clear hF hT;obtain⟨hA,hF⟩:=fZ hA
        go_wp2_with (refine Zax (b:=g) (j:=i * 2) (c:=c) (vs:=idL l[j]) rfl rfl rfl (by(try simp only[Act.eval,eV])<;>exact rfl) (by exact rfl) hA sR (by kernel_rfl) rfl (by show i * 2 + 2≤c.length;omega) ?_;intro w1 hB;clear hF hA;have hA:=hB;clear hB)
        go_roundg (gk - 1);case measure=>omega
        case rel=>
         have hS:=hA.row_shut (n:=l.length) (cap:=cap) (xs:=flatI (lc.set i l[j])) sR (by rw[Zan];exact hcl) (by omega) hcm (by have:=hwr.out;rw[List.length_set,hlen] at this;exact this);exact⟨i + 1,j + 1,_,by simp,by simp,by omega,hMn.out,hS.only2 sR sR⟩
      have hMn:=Hd (hMv'.out.gone hj hy)
      go_wp2_with (first|((with_reducible refine gst ?_);refine wTz hA ?_;clear hF hA;intro w1 hA hF)|((with_reducible refine gal ?_);refine g3 hA ?_;clear hF hA;intro b1 w1 hA hb1 hF))
      refine(ZiK (hA.sep1 (A:=cloP b3 p m es) sR) (hm'.out _ (List.getElem_mem hj)) hy).mono ?_;rintro e w2 ⟨rfl,hT⟩;replace hA:=hA.call1 sR hT;clear hF hT;obtain⟨hA,hF⟩:=fZ hA;go_wp2_with fail;go_roundg (gk - 1);case measure=>omega
      case rel=>
       have hS:=hA.row_shut (n:=l.length) (cap:=cap) (xs:=flatI lc) sR hcl (by omega) hcm hct;exact⟨i,j + 1,lc,rfl,by simp,by omega,hMn.out,hS.only2 sR sR⟩
    have hci:¬cap=i:=by omega
    have hil:i≤l.length:=by omega
    have hkl:(keepF (lackF es) l).length=i:=by
     have:=congrArg List.length hMv'.out.head;rw[List.take_of_length_le (l:=l) (by omega),List.length_take] at this
     omega
    have hfl:flatI (keepF (lackF es) l)=(flatI lc).take (i * 2):=by
     have:=hMv'.out.head;rw[List.take_of_length_le (l:=l) (by omega)] at this;rw[ZfB,this]
    have hkl':=Hd hkl;have hfl':=Hd hfl;clear hkl hfl;obtain⟨hA,hF⟩:=fZ hA
    go_wp2_with (refine Zcf (e:=33) (z:=.agg #[.int .i64 0,.int .i64 0]) (b:=g) (off:=i * 2) (m:=l.length - i) (cp:=cap - i) (c:=c) (T:=33) rfl rfl Tryz.underlying55 (fun _=>by kernel_rfl) (idL_one (0,0)) (by decide) (by(try simp only[Act.eval,eV])<;>exact rfl) (by omega) hA sR (by show i * 2 + (l.length - i) * 2≤c.length;omega) ?_;intro c' w1 hcl' hct2 hB;replace hA:=hB;clear hF hB;obtain⟨hA,hF⟩:=fZ hA)
    go_ret
    have hS:=hA.row_shut (n:=i) (cap:=cap) (xs:=flatI (keepF (lackF es) l)) sR (hcl'.trans hcl) (by omega) hcm (by
     rw[hfl'.out,hct2,←hct,List.take_take,Nat.min_eq_left (by omega)])
    refine⟨.slice (some ⟨g,0,none⟩) i cap,rfl,?_⟩;show At _ _ [Part.row 33 2 (.slice (some ⟨g,0,none⟩) i cap) (keepF (lackF es) l).length (flatI (keepF (lackF es) l)),cloP b3 p m es] _;rw[hkl'.out];exact hS.only2 sR sR
 have hk:keepF (lackF es) l=l:=List.filter_eq_self.2 (fun x hx=>by rw[hno x hx];rfl);clear hno;go_wp2_with fail;refine bodyPost_ret (results_tmp rfl _ _ _) rfl ?_;exact⟨v,rfl,by rw[hk];exact hA.only2 sR sR⟩
end Gr
end
section
namespace Gr
open _root_.Go.Proofs.YtbeckijoabapkaaGreatDoor.Mark (ltID Zay)
open _root_.Go.Proofs.YtbeckijoabapkaaGreatDoor.Attr (Zdt ZbA Zbz)
open Go.RowKit
theorem ZkJ (a:Option Addr) (n c:Nat) (w:World):(binOp .eql 55 (.slice a n c) (.slice none 0 0)).run Tryz.prog w=.ok (.bool a.isNone) w:=Lib.run_eql_slice_nil w _ _ _ _ _ _ _ Tryz.underlying55
def Zii (R:Part) (v:Value) (l:List I2):Prop:=∀w,R.holds w→Reads w v l.length (flatI l)
def ZlI (L0:List Part) (l:List I2) (L:List Part) (w:World) (e:Ending) (w':World):Prop:=∃v,e=.returned v∧At L0 w (rowI2 v l::L) w'
theorem Zlv {w:World} {R:Part} {v:Value} {l:List I2} (h:Sep [R] w) (hr:Zii R v l) (hl:l.length≤1000000):
 Calls Tryz.prog 74 #[v] w (ZlI [R] l [R] w):=by
 obtain⟨i0,hi0,hz0,hz1,hz2⟩:=info_parts infoI;have hA:=At.start h;have hF:=hA.facts;have hR:=hr w (hA.get (A:=R) .here);obtain⟨ax,cp,rfl,hax,_⟩:=hR;have hax':=Hd hax;have hr':=Hd hr;clear h hax hr;obtain⟨hA,hF⟩:=fZ hA
 cases ax with
 |none=>
  have hl0:l=[]:=List.eq_nil_of_length_eq_zero (hax'.out rfl);subst hl0;clear hax';have hnl:=fun w=>ZkJ none 0 cp w;go_enter Tryz.func74,Tryz.ntmps74;go_wp2_with fail;go_ret;exact⟨_,rfl,hA.row_nil 33 2⟩
 |some ad=>
  clear hax';have hnl:=fun w=>ZkJ (some ad) l.length cp w;go_enter Tryz.func74,Tryz.ntmps74
  go_wp2_with (first|((with_reducible show wpList _ _ _ ({dst:=_,op:=Op.buildSlice _ _ _,type:=_,pos:=_,after:=_,guard:=_}::_) _ _);refine ZbO (e:=33) 2 rfl rfl (fun _=>by kernel_rfl) hA ?_;intro b5 w1 hB;replace hA:=hB;clear hF hB;obtain⟨hA,hF⟩:=fZ hA)|((with_reducible show wpList _ _ _ ({dst:=_,op:=Op.call {callee:=Callee.builtin Builtin.append,args:=_,argTypes:=_},type:=_,pos:=_,after:=_,guard:=_}::_) _ _);refine Zal (e:=33) (size:=2) (v:=.slice (some ⟨b5,0,none⟩) 0 0) (xs:=[]) (n:=0) (m:=l.length) (news:=flatI l) rfl _ _ 55 rfl Tryz.underlying55 hi0 hz0 hz1 hz2 rfl (by omega) hA sR (by(try simp only[Act.eval,eV])<;>exact rfl) (by(try simp only[Act.eval,eV])<;>exact rfl) (ZeU _) (hr'.out _ (hA.get (A:=R) sR)) (Zdw _) (by unfold maxLen;omega) (by omega) ?_;intro v1 w1 hB;rw[Nat.zero_add,List.nil_append] at hB;replace hA:=hB;clear hF hB;obtain⟨hA,hF⟩:=fZ hA))
  go_ret;exact⟨_,rfl,hA.pick pZ⟩
def ddA (p:I2):List I2→List I2
 |[]=>[]
 |y::t=>if y=p then ddA y t else y::ddA y t
def dd:List I2→List I2
 |[]=>[]
 |x::t=>x::ddA x t
theorem Zi1:∀(l:List I2) (p x:I2),ddA p (l++[x])=ddA p l++(if x=(p::l).getLast (by simp) then[] else[x])
 |[],p,x=>by
  unfold ddA;by_cases h:x=p
  · simp[h,ddA]
  simp[h,ddA]
 |y::l,p,x=>by
  have ih:=Zi1 l y x;have e:(p::y::l).getLast (by simp)=(y::l).getLast (by simp):=List.getLast_cons (by simp);rw[e];simp only[List.cons_append];unfold ddA;split
  · exact ih
  rw[ih];rfl
theorem ZoN {l:List I2} (hl:l≠[]) (x:I2):dd (l++[x])=dd l++(if x=l.getLast hl then[] else[x]):=by
 cases l with
 |nil=>exact absurd rfl hl
 |cons y l=>
  show y::ddA y (l++[x])=_;rw[Zi1];rfl
theorem Zlr {l:List I2} {k:Nat} (hk:k + 1 < l.length):dd (l.take (k + 2))=dd (l.take (k + 1))++(if l[k + 1]=l[k] then[] else[l[k + 1]]):=by
 have h1:l.take (k + 2)=l.take (k + 1)++[l[k + 1]]:=List.take_succ_eq_append_getElem hk;have hne:l.take (k + 1)≠[]:=by intro e;have:=congrArg List.length e;simp at this;subst this;simp at hk
 have h2:(l.take (k + 1)).getLast hne=l[k]:=by
  rw[List.getLast_eq_getElem];simp only[List.getElem_take];congr 1
  rw[List.length_take];omega
 rw[h1,ZoN hne,h2]
theorem ZnK:∀l:List I2,(dd l).length≤l.length:=by
 have H:∀(l:List I2) p,(ddA p l).length≤l.length:=by
  intro l
  induction l with
  |nil=>intro p;simp[ddA]
  |cons y l ih=>
   intro p;unfold ddA;split
   · have:=ih y;simp;omega
   have:=ih y;simp;omega
 intro l
 cases l with
 |nil=>simp[dd]
 |cons x t=>have:=H t x;simp[dd];omega
theorem ZnJ {x:I2}:∀{l:List I2},x ∈ dd l↔x ∈ l:=by
 have H:∀(l:List I2) p,x ∈ p::ddA p l↔x ∈ p::l:=by
  intro l
  induction l with
  |nil=>intro p;simp[ddA]
  |cons y l ih=>
   intro p;unfold ddA;split
   · rename_i e;subst e;rw[ih y];simp
   have:=ih y
   simp only[List.mem_cons] at this ⊢;rw[this]
 intro l
 cases l with
 |nil=>simp[dd]
 |cons y t=>exact H t y
theorem Zhq {l:List I2} (h:l.Pairwise (fun a b=>¬ltID b a)):(dd l).Pairwise ltID:=by
 have H:∀(l:List I2) p,(p::l).Pairwise (fun a b=>¬ltID b a)→(p::ddA p l).Pairwise ltID:=by
  intro l
  induction l with
  |nil=>intro p _;simp[ddA]
  |cons y l ih=>
   intro p hp;have h1:=List.pairwise_cons.1 hp;unfold ddA;split
   · rename_i e;subst e;exact ih y h1.2
   rename_i hne;have h2:=ih y h1.2;have h3:=List.pairwise_cons.1 h2
   have hpy:ltID p y:=by
    rcases ZkR p y with q|q|q
    · exact q
    · exact absurd q.symm hne
    exact absurd q (h1.1 y (by simp))
   refine List.pairwise_cons.2 ⟨fun z hz=> ?_,h2⟩;rcases List.mem_cons.1 hz with rfl|hz
   · exact hpy
   exact lt_tr hpy (h3.1 z hz)
 cases l with
 |nil=>exact .nil
 |cons x t=>exact H t x h
end Gr
end
section
namespace Gr
open _root_.Go.Proofs.YtbeckijoabapkaaGreatDoor.Mark (ltID Zay)
open _root_.Go.Proofs.YtbeckijoabapkaaGreatDoor.Attr (Zdt ZbA Zbz)
open Go.RowKit
attribute [-go_sem] run_eql_struct run_neq_struct run_eqGuard_agg
attribute [local go_sem] Zdt ZbA Zbz
theorem ZnI (l:List I2) (h:l.length < 2):dd l=l:=by
 match l,h with
 |[],_=>rfl
 |[x],_=>rfl
def CpRel (w:World) (v:Value) (l:List I2) (k:Nat) (u:Value) (wr:World):Prop:=
 ∃j:Nat,u=.int .i64 ((j:Int) + 1)∧j + 1 + k=l.length∧dd (l.take (j + 1))=l.take (j + 1)∧At [rowI2 v l] w [rowI2 v l] wr
def CpIn (w:World) (v:Value) (l:List I2) (g cap j:Nat) (m:Nat) (u5 u3:Value) (wr:World):Prop:=
 ∃(i k:Nat) (lc:List I2) (c:List Value),u5=.int .i64 ((i:Int) + 1)∧u3=.int .i64 k∧j + 1 + i + 1 + m=l.length∧1≤k∧k≤j + 1 + i∧lc.length=l.length∧
  lc.take k=dd (l.take (j + 1 + i + 1))∧lc.drop (j + 1 + i)=l.drop (j + 1 + i)∧c.length=cap * 2∧c.take (l.length * 2)=flatI lc∧At [rowI2 v l] w [Part.cells g c 33] wr
theorem ZdE {L0 L F:List Part} {w0 w:World} {g:Nat} {c:List Value} {T:TypeId} {o n:Nat} {vs:List Value} (h:At L0 w0 L w) (s:Sel (Part.cells g c T) L F) (hv:(c.drop o).take n=vs):∀(k:Nat) u,vs[k]? =some u→w.cell? ⟨g,o + k,none⟩=some u:=by
 intro k u hk;have hb:Zaa w g c T:=h.get s;rw[←hv] at hk
 have hkn:k < n:=by
  have:=(List.getElem?_eq_some_iff.1 hk).1;rw[List.length_take] at this
  omega
 rw[List.getElem?_take,if_pos hkn,List.getElem?_drop] at hk;rw[hb.cell,hk]
theorem Zlm {α:Type} {l m:List α} {n i:Nat} (h:l.drop n=m.drop n) (hi:n≤i):l[i]? =m[i]? :=by
 have:=congrArg (fun x=>x[i - n]?) h;simp only[List.getElem?_drop] at this
 rwa [show n + (i - n)=i by omega] at this
theorem Zh6 {w:World} {v:Value} {l:List I2} (h:Sep [rowI2 v l] w) (hl:l.length≤1000000):
 Calls Tryz.prog 76 #[v] w (ZlI [rowI2 v l] (dd l) [] w):=by
 have hA:=At.start h;have hF:=hA.facts;clear h;obtain⟨ax,cap,hv,hax,hcp,_⟩:=hA.row_form .here;subst hv;have hax':=Hd hax;clear hax;obtain⟨hA,hF⟩:=fZ hA;go_enter Tryz.func76,Tryz.ntmps76;by_cases h2:l.length < 2
 · go_wp2_with fail;go_ret;exact⟨_,rfl,by rw[ZnI l h2];exact hA⟩
 go_wp2_with fail;(try go_frame);go_loopg [3] (l.length - 1) (CpRel w (.slice ax l.length cap) l)
 case atStart=>exact⟨0,rfl,by omega,ZnI _ (by simp;omega),hA⟩
 case round=>
  obtain⟨j,rfl,hjk,hdd,hB⟩:=hrel;have hdd':=Hd hdd;clear hF hA hdd;have hA:=hB;clear hB;by_cases hj:j + 1 < l.length
  · obtain⟨g,c,hg1,_,hc2,hc3,hc4,hB⟩:=hA.row_open (ax:=ax) (cap:=cap) (n:=l.length) (xs:=flatI l) .here (by omega);have hg1':=Hd hg1;have he1:=elem2 hc4 (q:=j + 1) (List.getElem?_eq_getElem hj);have he0:=elem2 hc4 (q:=j) (List.getElem?_eq_getElem (by omega));have hnx:=Hd (Zlr hj);have hl0:(l[j + 1]=l[j])=((l[j + 1].1,l[j + 1].2)=(l[j].1,l[j].2)):=rfl;generalize hy:l[j + 1]=y at *
    have hy':=Hd hy;clear hy;generalize l[j]=x at *
    obtain⟨r1,t1⟩:=y;obtain⟨r0,t0⟩:=x;simp only[idL] at he0 he1;subst hg1;clear hA hg1' hl0;have hA:=hB;clear hB;obtain⟨hA,hF⟩:=fZ hA
    obtain⟨d,hd⟩:∃d,(decide (r1=r0)&&decide (t1=t0))=d:=⟨_,rfl⟩
    have hd':=Hd (show d=decide ((r1,t1)=(r0,t0)) from by rw[←hd,Bool.eq_iff_iff];simp);have hwr:IntKind.i64.wrap ((j:Int) + 1 - 1)=j:=by rw[IntKind.wrap_i64]<;>omega
    have hwj:IntKind.i64.wrap (j:Int)=j:=by rw[IntKind.wrap_i64]<;>omega
    cases d
    · go_wp2_with fail;(try go_frame);refine cl6 hA ?_;clear hF hA;intro w1 hA hF;(try simp only[uZ] at hA hF);go_wp2_with fail;go_roundg (gk - 1);case measure=>omega
      case rel=>exact⟨j + 1,by simp,by omega,by rw[hnx.out,hdd'.out,if_neg (of_decide_eq_false hd'.out.symm),List.take_succ_eq_append_getElem hj,hy'.out],hA.row_shut .here hc3 hcp hc2 hc4⟩
    have hst:=Hd (show l.take (j + 1)=dd (l.take (j + 1 + 0 + 1)) from by rw[hnx.out,hdd'.out,if_pos (of_decide_eq_true hd'.out.symm),List.append_nil]);go_wp2_with fail;(try go_frame);refine cl6 hA ?_;clear hF hA;intro w1 hA hF;(try simp only[uZ] at hA hF);clear hd hd' hnx hdd' he0 he1 hwr hwj;go_wp2_with fail;(try go_frame);have hjt:decide ((j:Int) + 1 < (l.length:Int))=true:=by simp;omega
    try simp only[hjt]
    clear hjt;go_loopg [5,3] (l.length - (j + 2)) (CpIn w (.slice (some ⟨g,0,none⟩) l.length cap) l g cap j)
    case atStart=>exact⟨0,j + 1,l,c,rfl,rfl,by omega,by omega,by omega,rfl,hst.out,rfl,hc3,hc4,hA⟩
    case round=>
     clear hc3 hc4 hst;obtain⟨i,k,lc,c,rfl,rfl,him,hk1,hk2,hlc,htk,hdr,hc3,hc4,hB⟩:=hrel;have htk':=Hd htk;have hdr':=Hd hdr;have hlc':=Hd hlc;clear hF hA htk hdr hlc;have hA:=hB;clear hB;by_cases hi:j + 1 + (i + 1) < l.length
     · have e1:lc[j + 1 + (i + 1)]? =some l[j + 1 + (i + 1)]:=(Zlm hdr'.out (by omega)).trans (List.getElem?_eq_getElem hi);have e0:lc[j + 1 + i]? =some l[j + 1 + i]:=(Zlm hdr'.out (by omega)).trans (List.getElem?_eq_getElem (by omega));have hc4':c.take (lc.length * 2)=flatI lc:=by rw[hlc'.out];exact hc4
       have he1:=elem2 hc4' e1;have he0:=elem2 hc4' e0;have hnx:=Hd (Zlr (l:=l) (k:=j + 1 + i) hi);have hwrt:=Hd (Zgp idL_len hc4' (i:=k) (by rw[hlc'.out];omega) l[j + 1 + (i + 1)]);have hdl:=Hd (show(lc.set k l[j + 1 + (i + 1)]).drop (j + 1 + (i + 1))=l.drop (j + 1 + (i + 1)) from by rw[List.drop_set_of_lt (by omega)];have:=congrArg (List.drop 1) hdr'.out;simpa [List.drop_drop,Nat.add_assoc] using this);have htl:=Hd (show(lc.set k l[j + 1 + (i + 1)]).take (k + 1)=dd (l.take (j + 1 + i + 1))++[l[j + 1 + (i + 1)]] from by rw[List.take_succ_eq_append_getElem (by rw[List.length_set,hlc'.out];omega),List.take_set_of_le (Nat.le_refl _),htk'.out,List.getElem_set_self]);have hd1:=Hd (show lc.drop (j + 1 + (i + 1))=l.drop (j + 1 + (i + 1)) from by have:=congrArg (List.drop 1) hdr'.out;simpa [List.drop_drop,Nat.add_assoc] using this);clear e0 e1;generalize l[j + 1 + (i + 1)]=y at *
       have hnx2:=Hd (show dd (l.take (j + 1 + i + 2))=dd (l.take (j + 1 + i + 1))++(if y=l[j + 1 + i] then[] else[y]) from hnx.out);clear hnx;generalize l[j + 1 + i]=x at *
       obtain⟨r1,t1⟩:=y;obtain⟨r0,t0⟩:=x;simp only[idL] at he0 he1;rw[show(j + 1 + (i + 1)) * 2=(j + 1) * 2 + (i + 1) * 2 by omega] at he1;rw[show(j + 1 + i) * 2=(j + 1) * 2 + i * 2 by omega] at he0
       obtain⟨d,hd⟩:∃d,(decide (r1=r0)&&decide (t1=t0))=d:=⟨_,rfl⟩
       have hd':=Hd (show d=decide ((r1,t1)=(r0,t0)) from by rw[←hd,Bool.eq_iff_iff];simp);have hwr:IntKind.i64.wrap ((i:Int) + 1 - 1)=i:=by rw[IntKind.wrap_i64]<;>omega
       have hwj:IntKind.i64.wrap (i:Int)=i:=by rw[IntKind.wrap_i64]<;>omega
       obtain⟨hA,hF⟩:=fZ hA;cases d
       · go_wp2_with fail;(try go_frame);refine cl6 hA ?_;clear hF hA;intro w1 hA hF;(try simp only[uZ] at hA hF);rw[if_neg (of_decide_eq_false hd'.out.symm)] at hnx2
         go_wp2_with (first|((with_reducible show wpList _ _ _ ({dst:=some 50,op:=Op.load _ _,type:=_,pos:=_,after:=_,guard:=_}::_) _ _);refine Zad (vs:=[.int .i64 r1,.int .i64 t1]) rfl rfl (by(try simp only[Act.eval,eV])<;>exact rfl) (ZdE hA .here he1) (by kernel_rfl) (by kernel_rfl) ?_)|((with_reducible refine gst ?_);refine Zax (b:=g) (j:=k * 2) (c:=c) (vs:=idL (r1,t1)) rfl rfl rfl (by(try simp only[Act.eval,eV])<;>exact rfl) (by exact rfl) hA sR (by kernel_rfl) rfl (by show k * 2 + 2≤c.length;omega) ?_;intro w1 hB;clear hF hA;have hA:=hB;clear hB))
         go_roundg (gk - 1);case measure=>omega
         case rel=>exact⟨i + 1,k + 1,lc.set k (r1,t1),_,by simp,by simp,by omega,by omega,by omega,by rw[List.length_set,hlc'.out],by rw[htl.out];exact hnx2.out.symm,hdl.out,by rw[Zan];exact hc3,by have:=hwrt.out;rw[List.length_set,hlc'.out] at this;exact this,hA⟩
       go_wp2_with fail;(try go_frame);refine cl6 hA ?_;clear hF hA;intro w1 hA hF;(try simp only[uZ] at hA hF);rw[if_pos (of_decide_eq_true hd'.out.symm),List.append_nil] at hnx2;go_wp2_with fail;go_roundg (gk - 1);case measure=>omega
       case rel=>exact⟨i + 1,k,lc,c,by simp,rfl,by omega,by omega,by omega,hlc'.out,by rw[htk'.out];exact hnx2.out.symm,hd1.out,hc3,hc4,hA⟩
     have hkd:(dd l).length=k:=by
      have:=congrArg List.length htk'.out;rw[List.take_of_length_le (l:=l) (by omega),List.length_take,hlc'.out] at this
      omega
     have hfl:flatI (dd l)=(flatI lc).take (k * 2):=by
      rw[ZfB,htk'.out,List.take_of_length_le (by omega)]
     have hkd':=Hd hkd;have hfl':=Hd hfl;clear hkd hfl;obtain⟨hA,hF⟩:=fZ hA
     go_wp2_with (refine Zcf (e:=33) (z:=.agg #[.int .i64 0,.int .i64 0]) (b:=g) (off:=k * 2) (m:=l.length - k) (cp:=cap - k) (c:=c) (T:=33) rfl rfl Tryz.underlying55 (fun _=>by kernel_rfl) (idL_one (0,0)) (by decide) (by(try simp only[Act.eval,eV])<;>exact rfl) (by omega) hA sR (by show k * 2 + (l.length - k) * 2≤c.length;omega) ?_;intro c' w1 hcl' hct2 hB;replace hA:=hB;clear hF hB;obtain⟨hA,hF⟩:=fZ hA)
     go_ret;have hS:=hA.row_shut (n:=k) (cap:=cap) (size:=2) (xs:=flatI (dd l)) sR (hcl'.trans hc3) (by omega) hc2 (by rw[hfl'.out,hct2,←hc4,List.take_take,Nat.min_eq_left (by omega)]);refine⟨.slice (some ⟨g,0,none⟩) k cap,rfl,?_⟩;show At _ _ [Part.row 33 2 (.slice (some ⟨g,0,none⟩) k cap) (dd l).length (flatI (dd l))] _;rw[hkd'.out];exact hS
  have hF:=hA.facts;obtain⟨hA,hF⟩:=fZ hA;go_wp2_with fail;go_ret;exact⟨_,rfl,by rw[show dd l=l from by have:=hdd'.out;rwa [List.take_of_length_le (by omega)] at this];exact hA⟩
end Gr
end
end Go.Proofs.YtbeckijoabapkaaGreatDoor
