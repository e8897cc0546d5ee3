import Derived.WalkSpells
import Derived.WalkLawsBesides
import Derived.Lib.Hide
import Derived.StillTail
import Derived.Deep.QuietTactic
import Derived.DeepKeys4
set_option linter.unusedSimpArgs false
set_option linter.unusedVariables false
set_option maxRecDepth 100000
set_option maxHeartbeats 16000000
namespace Go.Proofs.YtbeckijoabapkaaGreatDoor
section
section
open Go.RowKit
def Ext (w w':World):Prop:=Below w.heap.size w w'
theorem Ext.refl (w:World):Ext w w:=Below.refl _ _
theorem Ext.size {w w':World} (h:Ext w w'):w.heap.size≤w'.heap.size:=Below.size h
theorem Ext.trans {a b c:World} (h:Ext a b) (k:Ext b c):Ext a c:=Below.trans h (Below.mono k (Below.size h))
theorem Ext.drew {a b:World} (h:Ext a b):Ext a b.drew:=Below.drew h
theorem Ext.alloc {a b:World} (h:Ext a b) (o:Obj):Ext a (b.alloc o):=Below.alloc h (Below.size h) o
theorem Ext.setCell {a b:World} (h:Ext a b) {p:Addr} (hp:a.heap.size≤p.block) (u:Value):Ext a (b.setCell p u):=Below.setCell h hp u
theorem Ext.cell {w w':World} (h:Ext w w') {p:Addr} (hp:p.block < w.heap.size):w'.cell? p=w.cell? p:=Below.cell h hp
theorem Ext.frozen {w w':World} (h:Ext w w') {p:Addr} (hp:p.block < w.heap.size):w'.frozen? p=w.frozen? p:=Below.frozen h hp
theorem Ext.cells {w w':World} (h:Ext w w'):∀b o,b < w.heap.size→w'.cell? ⟨b,o,none⟩=w.cell? ⟨b,o,none⟩:=fun _ _ hb=>h.cell hb
theorem ZoS {w:World} {b o:Nat} {v:Value} (h:w.cell? ⟨b,o,none⟩=some v):b < w.heap.size:=by
 by_cases hb:b < w.heap.size
 · exact hb
 have:w.heap[b]? =none:=by simp;omega
 simp[World.cell?,this] at h
theorem Ext.cell_of {w w':World} (h:Ext w w') {b o:Nat} {v:Value} (hc:w.cell? ⟨b,o,none⟩=some v):w'.cell? ⟨b,o,none⟩=some v:=by
 rw[h.cell (ZoS hc)];exact hc
structure Exc (S:Nat→Prop) (w w':World):Prop where
 os:w'.os=w.os
 tape:w'.tape=w.tape
 output:w'.output=w.output
 size:w.heap.size≤w'.heap.size
 block:∀k,k < w.heap.size→¬S k→w'.heap[k]? =w.heap[k]?
theorem Exc.refl (S:Nat→Prop) (w:World):Exc S w w:=⟨rfl,rfl,rfl,Nat.le_refl _,fun _ _ _=>rfl⟩
theorem Exc.trans {S:Nat→Prop} {a b c:World} (h:Exc S a b) (k:Exc S b c):Exc S a c:=
 ⟨k.os.trans h.os,k.tape.trans h.tape,k.output.trans h.output,Nat.le_trans h.size k.size,fun i hi hs=>(k.block i (Nat.lt_of_lt_of_le hi h.size) hs).trans (h.block i hi hs)⟩
theorem Exc.mono {S T:Nat→Prop} {a b:World} (h:Exc S a b) (hs:∀k,k < a.heap.size→S k→T k):Exc T a b:=
 ⟨h.os,h.tape,h.output,h.size,fun k hk ht=>h.block k hk (fun s=>ht (hs k hk s))⟩
theorem Ext.exc {a b:World} (h:Ext a b) (S:Nat→Prop):Exc S a b:=⟨Below.os h,Below.tape h,Below.output h,Below.size h,fun k hk _=>Below.block h k hk⟩
theorem Exc.ext {S:Nat→Prop} {a b:World} (h:Exc S a b) (hs:∀k,k < a.heap.size→¬S k):Ext a b:=⟨h.os,h.tape,h.output,h.size,fun k hk=>h.block k hk (hs k hk)⟩
theorem Exc.drew {S:Nat→Prop} {a b:World} (h:Exc S a b):Exc S a b.drew:=⟨h.os,h.tape,h.output,h.size,h.block⟩
theorem Exc.alloc {S:Nat→Prop} {a b:World} (h:Exc S a b) (o:Obj):Exc S a (b.alloc o):=
 h.trans (((Ext.refl b).alloc o).exc S)
theorem Exc.setCell {S:Nat→Prop} {a b:World} (h:Exc S a b) {p:Addr} (hp:S p.block∨a.heap.size≤p.block) (u:Value):Exc S a (b.setCell p u):=
 ⟨h.os,h.tape,h.output,by have:=h.size;simpa [World.setCell] using this,fun k hk hs=>by
   rw[Below.heap_setCell _ _ _ _ (fun e=>by subst e;rcases hp with hp|hp;exact hs hp;omega)];exact h.block k hk hs⟩
theorem Exc.cell {S:Nat→Prop} {w w':World} (h:Exc S w w') {p:Addr} (hp:p.block < w.heap.size) (hs:¬S p.block):w'.cell? p=w.cell? p:=World.cell?_of_block (w:=w) (h.block p.block hp hs)
def ZhC (w:World) (v:Value) (xs:List Int):Prop:=
 ∃a cap,v=.slice a xs.length cap∧∀j,j < xs.length→∃b off,a=some ⟨b,off,none⟩∧w.cell? ⟨b,off + j,none⟩=some (.int .i64 (xs.getD j 0))
theorem ZhC.ext {w w':World} {v:Value} {xs:List Int} (h:ZhC w v xs) (he:Ext w w'):ZhC w' v xs:=by
 obtain⟨a,cap,hv,hc⟩:=h;refine⟨a,cap,hv,fun j hj=> ?_⟩;obtain⟨b,off,ha,hx⟩:=hc j hj;exact⟨b,off,ha,he.cell_of hx⟩
theorem ZgF {w:World} {a:Addr} {v:Value} (h:w.cell? a=some v):a=⟨a.block,a.off,none⟩:=by
 obtain⟨b,o,s⟩:=a
 cases s with
 |none=>rfl
 |some s=>
  unfold World.cell? at h;split at h<;>simp at h
theorem row_at {w:World} {x:Addr} {n:Nat} {f:Nat→Value} (hc:∀i,i < n→w.cell? (x.add i)=some (f i)):∀j,j < n→∃b off,some x=some (⟨b,off,none⟩:Addr)∧w.cell? ⟨b,off + j,none⟩=some (f j):=by
 intro j hj;have h0:=hc 0 (by omega);have hx:x.add 0=x:=by simp[Addr.add]
 rw[hx] at h0;have hs:=ZgF h0;refine⟨x.block,x.off,congrArg some hs,?_⟩;have hj':=hc j hj;by_cases h:j=0
 · subst h;rw[hx] at hj';rw[Nat.add_zero,←hs];exact hj'
 simpa [Addr.add,h] using hj'
theorem Zjz {w:World} {x:Addr} {len cap:Nat} {zs:List Int} (hl:len≤cap) (hz:zs.length=cap) (hc:∀i,i < zs.length→w.cell? (x.add i)=some (.int .i64 (zs.getD i 0))):
 ZhC w (.slice (some x) len cap) (zs.take len):=by
 have hlen:(zs.take len).length=len:=by simp;omega
 refine⟨some x,cap,by rw[hlen],?_⟩;rw[hlen];intro j hj;obtain⟨b,off,h1,h2⟩:=row_at hc j (by omega);refine⟨b,off,h1,?_⟩;rw[h2];simp[hj]
def Zaa (w:World) (b:Nat) (c:List Value) (T:TypeId):Prop:=w.heap[b]? =some (.cells c.toArray T (0,0))
theorem Zaa.cell {w:World} {b:Nat} {c:List Value} {T:TypeId} (h:Zaa w b c T) (j:Nat):w.cell? ⟨b,j,none⟩=c[j]? :=by
 unfold Zaa at h;simp[World.cell?,h]
theorem Zaa.free {w:World} {b:Nat} {c:List Value} {T:TypeId} (h:Zaa w b c T) (j:Nat):w.frozen? ⟨b,j,none⟩=false:=by
 unfold Zaa at h;simp[World.frozen?,h]
theorem Zaa.lt {w:World} {b:Nat} {c:List Value} {T:TypeId} (h:Zaa w b c T):b < w.heap.size:=by
 unfold Zaa at h;by_cases hb:b < w.heap.size
 · exact hb
 simp[Array.getElem?_eq_none (by omega:w.heap.size≤b)] at h
theorem Zaa.set {w:World} {b:Nat} {c:List Value} {T:TypeId} (h:Zaa w b c T) (j:Nat) (v:Value):Zaa (w.setCell ⟨b,j,none⟩ v) b (c.set j v) T:=by
 unfold Zaa at *
 simp[World.setCell,Array.getElem?_modify,h]
theorem Zaa.same {w w':World} {b:Nat} {c:List Value} {T:TypeId} (h:Zaa w b c T) (e:w'.heap[b]? =w.heap[b]?):Zaa w' b c T:=by unfold Zaa at *;rw[e];exact h
theorem Zaa.ext {w w':World} {b:Nat} {c:List Value} {T:TypeId} (h:Zaa w b c T) (e:Ext w w'):Zaa w' b c T:=h.same (Below.block e b h.lt)
theorem Zaa.exc {S:Nat→Prop} {w w':World} {b:Nat} {c:List Value} {T:TypeId} (h:Zaa w b c T) (e:Exc S w w') (hs:¬S b):Zaa w' b c T:=h.same (e.block b h.lt hs)
theorem Zaa.alloc (w:World) (c:List Value) (T:TypeId):Zaa (w.alloc (.cells c.toArray T)) w.heap.size c T:=by
 show(w.heap.push _)[w.heap.size]? =_
 simp
theorem Zaa.other {w:World} {b:Nat} {c:List Value} {T:TypeId} (h:Zaa w b c T) {p:Addr} (hp:b≠p.block) (v:Value):Zaa (w.setCell p v) b c T:=
 h.same (Below.heap_setCell _ _ _ _ hp)
def setL:List Value→Nat→List Value→List Value
 |c,_,[]=>c
 |c,o,v::vs=>setL (c.set o v) (o + 1) vs
theorem Zan:∀(vs:List Value) (c:List Value) (o:Nat),(setL c o vs).length=c.length
 |[],_,_=>rfl
 |v::vs,c,o=>by rw[setL,Zan vs];simp
theorem ZeC:∀(vs:List Value) (c:List Value) (o j:Nat),j < o→(setL c o vs)[j]? =c[j]?
 |[],_,_,_,_=>rfl
 |v::vs,c,o,j,h=>by rw[setL,ZeC vs _ _ _ (by omega),List.getElem?_set_ne (by omega)]
theorem Zj8:∀(vs:List Value) (c:List Value) (o j:Nat),o + vs.length≤c.length→j < vs.length→(setL c o vs)[o + j]? =vs[j]?
 |[],_,_,_,_,h=>by simp at h
 |v::vs,c,o,j,hl,h=>by
  rw[List.length_cons] at hl h;rw[setL]
  cases j with
  |zero=>rw[ZeC vs _ _ _ (by omega)];simp[List.getElem?_set];omega
  |succ j=>rw[show o + (j + 1)=o + 1 + j by omega,Zj8 vs _ (o + 1) j (by simp;omega) (by omega)];simp
theorem Zaa.setCells {b:Nat} {T:TypeId}:∀(vs:List Value) (o:Nat) {w:World} {c:List Value},Zaa w b c T→Zaa (w.setCells b o vs) b (setL c o vs) T
 |[],_,_,_,h=>h
 |v::vs,o,w,c,h=>Zaa.setCells vs (o + 1) (h.set o v)
theorem Exc.setCells {S:Nat→Prop} {a:World} {b:Nat} (hb:S b∨a.heap.size≤b):∀(vs:List Value) (o:Nat) (x:World),Exc S a x→Exc S a (x.setCells b o vs)
 |[],_,_,h=>h
 |v::vs,o,_,h=>Exc.setCells hb vs (o + 1) _ (h.setCell (p:=⟨b,o,none⟩) hb v)
end
end
section
namespace Attr
structure A8 where
 s:Int
 d0:Int
 d1:Int
 d2:Int
 d3:Int
 d4:Int
 d5:Int
 d6:Int
deriving DecidableEq
def A8.cells (a:A8):List Value:=[.int .i64 a.s,.int .i64 a.d0,.int .i64 a.d1,.int .i64 a.d2,.int .i64 a.d3,.int .i64 a.d4,.int .i64 a.d5,.int .i64 a.d6]
def A8.val (a:A8):Value:=.agg #[.int .i64 a.s,.int .i64 a.d0,.int .i64 a.d1,.int .i64 a.d2,.int .i64 a.d3,.int .i64 a.d4,.int .i64 a.d5,.int .i64 a.d6]
def A8.zero:A8:=⟨0,0,0,0,0,0,0,0⟩
def A8.past (a:A8) (q:Int):A8:=if 0≤q then {a with s:=max a.s (min q 1073741823 + 1)} else a
def A8.set (a:A8) (q:Nat) (v:Int):A8:=match q with
 |0=>{a with d0:=v}
 |1=>{a with d1:=v}
 |2=>{a with d2:=v}
 |3=>{a with d3:=v}
 |4=>{a with d4:=v}
 |5=>{a with d5:=v}
 |6=>{a with d6:=v}
 |_=>a
def A8.dep (a:A8) (q:Nat):Int:=match q with
 |0=>a.d0
 |1=>a.d1
 |2=>a.d2
 |3=>a.d3
 |4=>a.d4
 |5=>a.d5
 |6=>a.d6
 |_=>0
def Zaz (r t:Int):Bool:=decide (0≤r)&&decide (r≤6)&&decide (0≤t)&&decide (t < 1024)
def A8.own (a:A8) (r t:Int):A8:=if Zaz r t then a.set r.toNat t else a
def badD (d:Int):Bool:=decide (d < 0) || decide (1024 < d)
def A8.right (a:A8):Bool:= !badD a.d0&& !badD a.d1&& !badD a.d2&& !badD a.d3&& !badD a.d4&& !badD a.d5&& !badD a.d6&&(decide (0≤a.s)&&decide (a.s≤1073741824))
theorem Zas {r t:Int}:Zaz r t=true↔0≤r∧r≤6∧0≤t∧t < 1024:=by
 unfold Zaz;simp;omega
end Attr
end
end Go.Proofs.YtbeckijoabapkaaGreatDoor
section
namespace Go
section
variable {P:Program} {ops:Array Oper} {md:Region.Mode} {C:World→Prop}
def Zej (P:Program) (md:Region.Mode) (ops:Array Oper) (C:World→Prop) (n:Nat) (L:Array Bool→Act→Prop):Nat→Array Bool→Act→Prop
 |0,listed,a=>L listed a
 |f + 1,listed,a=>
  Region.ready md ops listed≠[]∧∀i ∈ Region.ready md ops listed,i < n∧qOp P ops C i (Zej P md ops C n L f (listed.setIfInBounds i true)) a
theorem ZcH {n g:Nat} {L:Array Bool→Act→Prop} {Q':Exit→Act→World→Prop} (hL:∀listed a w,C w→L listed a→wpAny P md ops Q' g listed a w):
 ∀(f:Nat) (listed:Array Bool) (a:Act) (w:World),C w→Zej P md ops C n L f listed a→wpAny P md ops Q' (f + g) listed a w
 |0,listed,a,w,hw,h=>by rw[Nat.zero_add];exact hL _ _ _ hw h
 |f + 1,listed,a,w,hw,h=>by
  rw[show f + 1 + g=(f + g) + 1 by omega];exact⟨fun h0=>absurd h0 h.1,fun i hi=>wpOp_of_qOp hw (fun a' w' hw' h'=>ZcH hL f _ a' w' hw' h') (h.2 i hi).2⟩
theorem ZfV {n i:Nat} {oi:Oper} {v:Value} {L:Array Bool→Act→Prop} (hi:ops[i]? =some oi) (hsel:∀(j:Nat) (o:Oper) cs b,ops[j]? =some o→o.op≠.select cs b)
 (hs:Region.sinkB md ops n=true) (hc:Region.chainB md ops n=true) (hn:n < ops.size) (hin:i < n)
 (hdone:∀listed a,L listed a→∀j ∈ Region.ready md ops listed,n≤j):
 ∀(f:Nat) (listed:Array Bool) (a:Act),HeadInv md ops n listed→
  (∀j oj,ops[j]? =some oj→j≠i→listed.getD j true=false→(∀e ∈ oj.after,Region.binds md e=true→e.on≠i)→oi.apart ops oj=true)→
  i ∈ Region.ready md ops listed→YieldsIn P ops C oi v a→
  Zej P md ops C n L f (listed.setIfInBounds i true) (a.put oi.dst v)→Zej P md ops C n L (f + 1) listed a:=by
 intro f
 induction f with
 |zero=>
  intro listed a inv _ hr hy H;have hun:=(mem_ready.1 hr).1;refine⟨fun h=>(by rw[h] at hr;cases hr),fun j hj=> ?_⟩
  have hjn:j < n:=by
   rcases Nat.lt_or_ge j n with h|h
   · exact h
   exact absurd hj (tail_waits hs hc hn inv _ i rfl hin hun j h)
  refine⟨hjn,?_⟩
  by_cases hji:j=i
  · subst hji;exact hy.qOp hi H
  have:=hdone _ _ H j (ready_mono hj hji)
  omega
 |succ f ih=>
  intro listed a inv hfree hr hy H;have hun:=(mem_ready.1 hr).1;refine⟨fun h=>(by rw[h] at hr;cases hr),fun j hj=> ?_⟩
  have hjn:j < n:=by
   rcases Nat.lt_or_ge j n with h|h
   · exact h
   exact absurd hj (tail_waits hs hc hn inv _ i rfl hin hun j h)
  refine⟨hjn,?_⟩
  by_cases hji:j=i
  · subst hji;exact hy.qOp hi H
  have h1:=(H.2 j (ready_mono hj hji)).2;obtain⟨hjun,oj,hoj,hall⟩:=mem_ready.1 hj
  have hnot:∀e ∈ oj.after,Region.binds md e=true→e.on≠i:=fun e he hb heq=>by
   have h1:=hall e he hb;rw[heq,getD_both hun] at h1;cases h1
  have h2:=qOp_put hoj (hfree j oj hoj hji hjun hnot) (fun cs b=>hsel i oi cs b hi) (fun cs b=>hsel j oj cs b hoj) hy h1
  have hfree':∀k ok,ops[k]? =some ok→k≠i→(listed.setIfInBounds j true).getD k true=false→
   (∀e ∈ ok.after,Region.binds md e=true→e.on≠i)→oi.apart ops ok=true:=fun k ok hk hki hun hno=>by
   refine hfree k ok hk hki ?_ hno;by_cases hjk:j=k
   · subst hjk;exact hjun
   rw[getD_set_ne true hjk] at hun;exact hun
  refine qOp_mono (fun a' h3=>ih (listed.setIfInBounds j true) a' (inv.set hj hjn) hfree' (ready_mono hr (Ne.symm hji)) h3.1 ?_) h2;rw[Array.setIfInBounds_comm _ _ hji];exact h3.2
theorem Zei {n g:Nat} {Lq:Act→Prop} (hsel:Region.noSelect ops=true) (hs:Region.sinkB md ops n=true) (hc:Region.chainB md ops n=true) (hn:n < ops.size):
 ∀(l:List Oper) (k:Nat) (listed:Array Bool) (a:Act),(∀j,j < l.length→l[j]? =ops[k + j]?)→k + l.length=n→HeadInv md ops n listed→
 Region.lexHead md ops g l.length k listed=true→wpQuiet P ops C Lq l a→
 Zej P md ops C n (fun listed' a'=>Region.seqB md ops g n listed'=true∧Lq a') l.length listed a
 |[],k,listed,a,_,hk,_,hB,h=>by
  have:k=n:=by simpa using hk
  subst this;exact⟨by simpa [Region.lexHead] using hB,h⟩
 |o::l,k,listed,a,hl,hk,inv,hB,h=>by
  have h0:ops[k]? =some o:=by simpa using(hl 0 (by simp)).symm
  simp only[List.length_cons,Region.lexHead,Bool.and_eq_true] at hB;obtain⟨⟨hr,hf⟩,hB'⟩:=hB;have hkn:k < n:=by simp only[List.length_cons] at hk;omega
  have hr':k ∈ Region.ready md ops listed:=by simpa using hr
  have hst:qOp P ops C k (wpQuiet P ops C Lq l) a:=by unfold qOp;simp only[h0];exact h
  obtain⟨v,hy,hK⟩:=yieldsIn_of_qOp h0 hst
  exact ZfV h0 (Region.noSelect_spec hsel) hs hc hn hkn (fun listed' a' hL=>seqB_ready hL.1) l.length listed a inv (Region.free_spec h0 hf) hr' hy
   (Zei hsel hs hc hn l (k + 1) _ _ (fun j hj=>by have:=hl (j + 1) (by simp;omega);simpa [Nat.add_assoc,Nat.add_comm 1 j] using this) (by simp only[List.length_cons] at hk;omega) (inv.set hr' hkn) hB' hK)
theorem Zaj {id:Nat} {Q:Exit→Act→World→Prop} {a:Act} {w:World} {l:List Oper} (n:Nat) (C:World→Prop) (hm:P.follows .mixedOrders=true) (hB:Region.lexTailB .any l.toArray n=true)
 (hC:C w.drew) (h:wpQuiet P l.toArray C (fun a'=>∀w',C w'→wpList P l.toArray Q (l.drop n) a' w') (l.take n) a):(Code.region id l.toArray true).wp P Q a w:=by
 simp only[Region.lexTailB,Bool.and_eq_true,decide_eq_true_eq] at hB;obtain⟨⟨⟨⟨hsel,hn⟩,hs⟩,hc⟩,hlex⟩:=hB;have hn':n < l.length:=by simpa using hn
 have htl:(l.take n).length=n:=by simp;omega
 have hdl:(l.drop n).length=l.toArray.size - n:=by simp
 have inv0:HeadInv .any l.toArray n (Array.replicate l.toArray.size false):=
  ⟨by simp,fun j oj _ hl=>(by rw[getD_replicate_false] at hl;cases hl),fun t _ ht=>getD_in (by simpa using ht) (getD_replicate_false _ _)⟩
 have H:=Zei (C:=C) (md:=.any) (g:=l.toArray.size - n) hsel hs hc hn (l.take n) 0 _ a (fun j hj=>by
  have hj':j < n:=by rw[htl] at hj;exact hj
  simp[hj']) (by simpa using htl) inv0 (by rw[htl];exact hlex) h
 refine wp_region_any hm ?_
 have:=ZcH (Q':=Q) (g:=l.toArray.size - n) (fun listed a' w' hw' hL=>by
  have:=wpAny_of_seq (md:=.any) (Q':=Q) (l.drop n) n listed a' w' (fun j=>by simp[List.getElem?_drop]) (by rw[hdl];exact hL.1) (hL.2 w' hw')
  rwa [hdl] at this) _ _ _ _ hC H
 rw[htl,show n + (l.toArray.size - n)=l.toArray.size by omega] at this;exact this
theorem ZaI {id:Nat} {Q:Exit→Act→World→Prop} {a:Act} {w:World} {l:List Oper} (C:World→Prop) (hm:P.follows .mixedOrders=true) (hB:Region.lexB .any l.toArray=true)
 (hC:C w.drew) (h:wpQuiet P l.toArray C (fun a'=>∀w',C w'→Q .normal a' w') l a):(Code.region id l.toArray true).wp P Q a w:=
 wp_region_quiet (C:=C) hm hB hC (by simpa using h)
end
end Go
end
section
namespace Go
section
variable {P:Program} {ops:Array Oper} {md:Region.Mode} {C:World→Prop}
def Zbh (m n:Nat):Array Bool:=((List.range m).map fun j=>decide (j < n)).toArray
theorem Zld {n:Nat} {listed:Array Bool} (hsz:listed.size=ops.size) (h1:∀j,j < n→listed.getD j false=true) (h2:∀t,n≤t→t < ops.size→listed.getD t true=false):listed=Zbh ops.size n:=by
 apply Array.ext
 · simp[Zbh,hsz]
 intro i hi hi2;have e1:(Zbh ops.size n)[i]=decide (i < n):=by simp[Zbh]
 rw[e1];by_cases h:i < n
 · have:=h1 i h
   simp[hi] at this;simp[this,h]
 have:=h2 i (by omega) (by omega)
 simp[hi] at this;simp[this,h]
def headB (md:Region.Mode) (ops:Array Oper):Nat→Nat→Array Bool→Bool
 |0,_,_=>true
 |f + 1,k,listed=>((Region.ready md ops listed).contains k&&Region.free md ops listed k)&&headB md ops f (k + 1) (listed.setIfInBounds k true)
theorem ZdZ {n:Nat}:∀j ∈ Region.ready md ops (Zbh ops.size n),n≤j:=fun j hj=>by
 obtain⟨hun,oj,hoj,_⟩:=mem_ready.1 hj;have hjs:j < ops.size:=(Array.getElem?_eq_some_iff.1 hoj).1;rcases Nat.lt_or_ge j n with h|h
 · simp[Zbh,hjs,h] at hun
 exact h
theorem Zc4 {Q:Exit→Act→World→Prop} {i:Nat} {o:Oper} {K:Act→World→Prop} {a:Act} {w:World} (ho:ops[i]? =some o) (hw:Region.wanted o (yielded ops a.tmps)=true) {v:Value} {w':World} (hrun:(execOp a.eval o).run P w=.ok (.value v) w') (hK:K (a.put o.dst v) w'):wpOp P ops Q i K a w:=by
 unfold wpOp;simp only[ho,hw,if_true];left
 unfold Oper.wp;rw[hrun];exact hK
theorem Zgr {Q:Exit→Act→World→Prop} {i:Nat} {o:Oper} {K:Act→World→Prop} {a:Act} {w:World} (ho:ops[i]? =some o) (hw:Region.wanted o (yielded ops a.tmps)=true) {w':World} (hrun:(execOp a.eval o).run P w=.ok .skip w') (hK:K (a.put o.dst undef) w'):wpOp P ops Q i K a w:=by
 unfold wpOp;simp only[ho,hw,if_true];left
 unfold Oper.wp;rw[hrun];exact hK
theorem ZjS {Q:Exit→Act→World→Prop} {i:Nat} {o:Oper} {K:Act→World→Prop} {a:Act} {w:World} (ho:ops[i]? =some o) (hw:Region.wanted o (yielded ops a.tmps)=true) {fn:FuncId} {args:Array Value} (hrun:(execOp a.eval o).run P w=.ok (.enter fn args) w) {R:Ending→World→Prop} (hc:Calls P fn args w R) (hK:∀e w',R e w'→∃v,e=.returned v∧K (a.put o.dst v) w'):wpOp P ops Q i K a w:=by
 unfold wpOp;simp only[ho,hw,if_true];left
 unfold Oper.wp;rw[hrun]
 exact hc.mono fun e w' h=>by
  obtain⟨v,rfl,h2⟩:=hK e w' h;exact h2
end
end Go
end
namespace Go.Proofs.YtbeckijoabapkaaGreatDoor
section
section
open Go.RowKit
theorem Ext.drewN {a b:World} (h:Ext a b) (n:Nat):Ext a (b.drewN n):=⟨h.os,h.tape,h.output,h.size,h.block⟩
theorem Exc.drewN {S:Nat→Prop} {a b:World} (h:Exc S a b) (n:Nat):Exc S a (b.drewN n):=⟨h.os,h.tape,h.output,h.size,h.block⟩
theorem Ext.grown {a w w':World} {row:Option Nat} (h:Ext a w) (hg:w.grownBy w' row) (hr:∀k,row=some k→a.heap.size≤k):Ext a w':=Below.grown h hg (Below.size h) hr
theorem Zaa.new {w:World} {c:List Value} {T:TypeId} {b:Nat} (hb:b=w.heap.size):Zaa (w.alloc (.cells c.toArray T)) b c T:=by subst hb;exact Zaa.alloc w c T
end
end
section
section
open Go.RowKit
theorem own_of {w:World} {T:TypeId} {size:Nat} {g n cap:Nat} {c:List Value} (hb:Zaa w g c T) (hl:c.length=cap * size) (hn:n≤cap) (hm:cap≤maxLen):
 w.ownsRow 0 T size (.slice (some ⟨g,0,none⟩) n cap) n (c.take (n * size)):=by
 refine⟨?_,.inr ⟨g,cap,c.toArray,rfl,Nat.zero_le _,hb,hn,hm,by simpa using hl,by simp⟩⟩;rw[List.length_take,hl];have:n * size≤cap * size:=Nat.mul_le_mul_right _ hn
 omega
end
end
end Go.Proofs.YtbeckijoabapkaaGreatDoor
section
namespace Go.Proofs.YtbeckijoabapkaaGreatDoor
open Go.RowKit
structure Part where
 holds:World→Prop
 foot:Nat→Prop
 lt:∀w,holds w→∀b,foot b→b < w.heap.size
 stay:∀w w',holds w→(∀b,foot b→w'.heap[b]? =w.heap[b]?)→holds w'
 facts:World→Prop:=fun _=>True
 say:∀w,holds w→facts w:=by intros;trivial
theorem Za0 {w:World} {b:Nat} {o:Obj} (h:w.heap[b]? =some o):b < w.heap.size:=by
 rcases Nat.lt_or_ge b w.heap.size with q|q
 · exact q
 rw[Array.getElem?_eq_none q] at h;cases h
namespace Part
def cells (b:Nat) (c:List Value) (T:TypeId):Part where
 holds w:=Zaa w b c T
 foot k:=k=b
 lt:=fun _ h _ e=>by subst e;exact h.lt
 stay:=fun _ _ h e=>h.same (e b rfl)
 facts w:=(∀j,w.cell? ⟨b,j,none⟩=c[j]?)∧(∀j,w.frozen? ⟨b,j,none⟩=false)∧b < w.heap.size
 say:=fun _ h=>⟨h.cell,h.free,h.lt⟩
def obj (b:Nat) (o:Obj):Part where
 holds w:=w.heap[b]? =some o
 foot k:=k=b
 lt:=fun _ h _ e=>by subst e;exact Za0 h
 stay:=fun _ _ h e=>(e b rfl).trans h
def old (W:World):Part where
 holds w:=∀b,b < W.heap.size→w.heap[b]? =W.heap[b]?
 foot k:=k < W.heap.size
 lt:=fun w h b hb=>by
  have:=h b hb;rw[Array.getElem?_eq_getElem hb] at this;exact Za0 this
 stay:=fun _ _ h e b hb=>(e b hb).trans (h b hb)
def fact (p:Prop):Part where
 holds _:=p
 foot _:=False
 lt:=fun _ _ _ e=>e.elim
 stay:=fun _ _ h _=>h
end Part
def Facts:List Part→World→Prop
 |[],_=>True
 |A::L,w=>A.facts w∧Facts L w
theorem Zhi (w:World):Facts [] w=True:=rfl
theorem ZfH (A:Part) (L:List Part) (w:World):Facts (A::L) w=(A.facts w∧Facts L w):=rfl
theorem ZeW (b:Nat) (c:List Value) (T:TypeId) (w:World):(Part.cells b c T).facts w=((∀j,w.cell? ⟨b,j,none⟩=c[j]?)∧(∀j,w.frozen? ⟨b,j,none⟩=false)∧b < w.heap.size):=rfl
theorem Zhg (W w:World):(Part.old W).facts w=True:=rfl
theorem ZfG (p:Prop) (w:World):(Part.fact p).facts w=True:=rfl
theorem Zhh (b:Nat) (o:Obj) (w:World):(Part.obj b o).facts w=True:=rfl
def Sep:List Part→World→Prop
 |[],_=>True
 |A::L,w=>A.holds w∧Sep L w∧∀B ∈ L,∀b,A.foot b→¬B.foot b
namespace Sep
theorem get:∀{L:List Part} {w:World},Sep L w→∀{A:Part},A ∈ L→A.holds w
 |B::L,w,h,A,hA=>by
  rcases List.mem_cons.1 hA with rfl|hA
  · exact h.1
  exact get h.2.1 hA
theorem at_ {L:List Part} {w:World} (h:Sep L w) (i:Nat) {A:Part} (hA:L[i]? =some A):A.holds w:=h.get (List.mem_of_getElem? hA)
theorem apart:∀{L:List Part} {w:World},Sep L w→∀(i j:Nat) {A B:Part},L[i]? =some A→L[j]? =some B→i≠j→∀b,A.foot b→¬B.foot b
 |C::L,w,h,0,0,A,B,_,_,hne=>absurd rfl hne
 |C::L,w,h,0,j + 1,A,B,hA,hB,_=>by
  simp at hA hB;subst hA
  exact h.2.2 B (List.mem_of_getElem? hB)
 |C::L,w,h,i + 1,0,A,B,hA,hB,_=>by
  simp at hA hB;subst hB
  exact fun b ha hb=>h.2.2 A (List.mem_of_getElem? hA) b hb ha
 |C::L,w,h,i + 1,j + 1,A,B,hA,hB,hne=>by
  simp at hA hB
  exact apart h.2.1 i j hA hB (by omega)
theorem same:∀{L:List Part} {w w':World},Sep L w→(∀b:Nat,(∃A ∈ L,A.foot b)→w'.heap[b]? =w.heap[b]?)→Sep L w'
 |[],_,_,_,_=>trivial
 |A::L,w,w',h,e=>⟨A.stay w w' h.1 (fun b hb=>e b ⟨A,by simp,hb⟩),same h.2.1 (fun b ⟨B,hB,hb⟩=>e b ⟨B,by simp[hB],hb⟩),h.2.2⟩
theorem lt {L:List Part} {w:World} (h:Sep L w) {A:Part} (hA:A ∈ L) {b:Nat} (hb:A.foot b):b < w.heap.size:=A.lt w (h.get hA) b hb
theorem sub:∀{L L':List Part} {w:World},Sep L w→L'.Sublist L→Sep L' w
 |_,_,_,_,.slnil=>trivial
 |_,_,_,h,.cons _ s=>sub h.2.1 s
 |_,_,_,h,.cons_cons _ s=>⟨h.1,sub h.2.1 s,fun B hB=>h.2.2 B (s.subset hB)⟩
theorem perm {L L':List Part} (p:L.Perm L') {w:World}:Sep L w→Sep L' w:=by
 induction p with
 |nil=>exact fun h=>h
 |cons A p ih=>exact fun h=>⟨h.1,ih h.2.1,fun B hB=>h.2.2 B (p.mem_iff.2 hB)⟩
 |swap A B L=>exact fun h=>⟨h.2.1.1,⟨h.1,h.2.1.2.1,fun C hC=>h.2.2 C (by simp[hC])⟩,fun C hC b ha hc=>by
  rcases List.mem_cons.1 hC with rfl|hC
  · exact h.2.2 A (by simp) b hc ha
  exact h.2.1.2.2 C hC b ha hc⟩
 |trans _ _ i j=>exact fun h=>j (i h)
theorem facts:∀{L:List Part} {w:World},Sep L w→Facts L w
 |[],_,_=>trivial
 |A::L,w,h=>⟨A.say w h.1,facts h.2.1⟩
theorem turn:∀{L:List Part} {w w':World},Sep L w→∀(i:Nat) {A:Part},L[i]? =some A→∀(A':Part),A'.holds w'→(∀b,A'.foot b→A.foot b∨w.heap.size≤b)→
 (∀b:Nat,b < w.heap.size→¬A.foot b→w'.heap[b]? =w.heap[b]?)→Sep (L.set i A') w'
 |C::L,w,w',h,0,A,hA,A',h',hf,hx=>by
  simp at hA;subst hA
  exact⟨h',same h.2.1 (fun b ⟨B,hB,hb⟩=>hx b (h.2.1.lt hB hb) (fun hc=>h.2.2 B hB b hc hb)),fun B hB b hb hb'=>by
   rcases hf b hb with q|q
   · exact h.2.2 B hB b q hb'
   have:=h.2.1.lt hB hb';omega⟩
 |C::L,w,w',h,i + 1,A,hA,A',h',hf,hx=>by
  simp at hA
  have hC:C.holds w':=C.stay w w' h.1 (fun b hb=>hx b (C.lt w h.1 b hb) (fun ha=>h.2.2 A (List.mem_of_getElem? hA) b hb ha));refine⟨hC,turn h.2.1 i hA A' h' hf hx,fun B hB b hb hb'=> ?_⟩;rcases List.mem_or_eq_of_mem_set hB with hB|hB
  · exact h.2.2 B hB b hb hb'
  subst hB;rcases hf b hb' with q|q
  · exact h.2.2 A (List.mem_of_getElem? hA) b hb q
  have:=C.lt w h.1 b hb;omega
theorem new {L:List Part} {w w':World} (h:Sep L w) (A:Part) (hA:A.holds w') (hf:∀b,A.foot b→w.heap.size≤b) (hx:∀b:Nat,b < w.heap.size→w'.heap[b]? =w.heap[b]?):Sep (A::L) w':=
 ⟨hA,h.same (fun b ⟨B,hB,hb⟩=>hx b (h.lt hB hb)),fun B hB b hb hb'=>by have:=hf b hb;have:=h.lt hB hb';omega⟩
theorem join {A B C:Part} {L:List Part} {w:World} (h:Sep (A::B::L) w) (hC:C.holds w) (hf:∀b,C.foot b→A.foot b∨B.foot b):Sep (C::L) w:=
 ⟨hC,h.2.1.2.1,fun D hD b hb=>by
   rcases hf b hb with q|q
   · exact h.2.2 D (by simp[hD]) b q
   exact h.2.1.2.2 D hD b q⟩
theorem alloc {L:List Part} {w:World} (h:Sep L w) (c:List Value) (T:TypeId):Sep (Part.cells w.heap.size c T::L) (w.alloc (.cells c.toArray T)):=
 h.new _ (Zaa.alloc w c T) (fun b e=>by cases e;exact Nat.le_refl _) (fun b hb=>Below.heap_alloc w _ b hb)
theorem allocObj {L:List Part} {w:World} (h:Sep L w) (o:Obj):Sep (Part.obj w.heap.size o::L) (w.alloc o):=
 h.new _ (heap_alloc_new w o) (fun b e=>by cases e;exact Nat.le_refl _) (fun b hb=>Below.heap_alloc w _ b hb)
theorem store {L:List Part} {w:World} (h:Sep L w) (i:Nat) {b:Nat} {c:List Value} {T:TypeId} (hA:L[i]? =some (Part.cells b c T)) (j:Nat) (v:Value):
 Sep (L.set i (Part.cells b (c.set j v) T)) (w.setCell ⟨b,j,none⟩ v):=by
 have hb:Zaa w b c T:=h.at_ i hA;exact h.turn i hA _ (hb.set j v) (fun _ e=>.inl e) (fun k _ hk=>Below.heap_setCell _ _ _ _ hk)
end Sep
def Part.all (L:List Part):Part where
 holds w:=Sep L w
 foot b:=∃A ∈ L,A.foot b
 lt:=fun _ h _ ⟨_,hA,hb⟩=>h.lt hA hb
 stay:=fun _ _ h e=>h.same e
 facts w:=Facts L w
 say:=fun _ h=>h.facts
theorem Sep.apart2:∀{K F:List Part} {w:World},Sep (K++F) w→Sep K w∧Sep F w∧∀A ∈ K,∀B ∈ F,∀b,A.foot b→¬B.foot b
 |[],_,_,h=>⟨trivial,h,nofun⟩
 |A::K,F,w,h=>by
  obtain⟨i0,i1,i2⟩:=apart2 h.2.1;refine⟨⟨h.1,i0,fun B hB=>h.2.2 B (by simp[hB])⟩,i1,fun C hC B hB b hc hb=> ?_⟩;rcases List.mem_cons.1 hC with rfl|hC
  · exact h.2.2 B (by simp[hB]) b hc hb
  exact i2 C hC B hB b hc hb
theorem Sep.join2:∀{K F:List Part} {w:World},Sep K w→Sep F w→(∀A ∈ K,∀B ∈ F,∀b,A.foot b→¬B.foot b)→Sep (K++F) w
 |[],_,_,_,h,_=>h
 |A::K,F,w,h1,h2,h3=>by
  refine⟨h1.1,join2 h1.2.1 h2 (fun C hC=>h3 C (by simp[hC])),fun B hB=> ?_⟩
  rcases List.mem_append.1 hB with hB|hB
  · exact h1.2.2 B hB
  exact h3 A (by simp) B hB
theorem Sep.unfold {K F:List Part} {w:World} (h:Sep (Part.all K::F) w):Sep (K++F) w:=
 h.1.join2 h.2.1 (fun A hA B hB b ha hb=>h.2.2 B hB b ⟨A,hA,ha⟩ hb)
theorem Sep.fold {K F:List Part} {w:World} (h:Sep (K++F) w):Sep (Part.all K::F) w:=
 ⟨h.apart2.1,h.apart2.2.1,fun B hB b ⟨A,hA,ha⟩ hb=>h.apart2.2.2 A hA B hB b ha hb⟩
inductive Sel (A:Part):List Part→List Part→Prop
 |here {L:List Part}:Sel A (A::L) L
 |there {B:Part} {L L':List Part}:Sel A L L'→Sel A (B::L) (B::L')
theorem Sel.perm {A:Part} {L F:List Part} (s:Sel A L F):L.Perm (A::F):=by
 induction s with
 |here=>exact .refl _
 |there _ ih=>exact(ih.cons _).trans (.swap _ _ _)
theorem Sel.mem {A:Part} {L F:List Part} (s:Sel A L F):A ∈ L:=s.perm.mem_iff.2 (by simp)
def footL (L:List Part) (b:Nat):Prop:=∃A ∈ L,A.foot b
theorem Exc.trans' {S T:Nat→Prop} {a b c:World} (h:Exc S a b) (k:Exc T b c) (hs:∀i,i < b.heap.size→T i→S i∨a.heap.size≤i):Exc S a c:=
 ⟨k.os.trans h.os,k.tape.trans h.tape,k.output.trans h.output,Nat.le_trans h.size k.size,fun i hi hn=>(k.block i (Nat.lt_of_lt_of_le hi h.size) (fun t=>by
   rcases hs i (Nat.lt_of_lt_of_le hi h.size) t with q|q
   · exact hn q
   omega)).trans (h.block i hi hn)⟩
structure At (L0:List Part) (w0:World) (L:List Part) (w:World):Prop where
 sep:Sep L w
 foot:∀b,footL L b→footL L0 b∨w0.heap.size≤b
 exc:Exc (footL L0) w0 w
namespace At
variable {L0:List Part} {w0 w w':World} {L:List Part}
theorem start {w0:World} {L0:List Part} (h:Sep L0 w0):At L0 w0 L0 w0:=⟨h,fun _ h=>.inl h,Exc.refl _ w0⟩
theorem get (h:At L0 w0 L w) {A:Part} {F:List Part} (s:Sel A L F):A.holds w:=h.sep.get s.mem
theorem facts (h:At L0 w0 L w):Facts L w:=h.sep.facts
theorem size (h:At L0 w0 L w):w0.heap.size≤w.heap.size:=h.exc.size
theorem drewN (h:At L0 w0 L w) (n:Nat):At L0 w0 L (w.drewN n):=⟨h.sep.same (fun _ _=>rfl),h.foot,h.exc.drewN n⟩
theorem drew (h:At L0 w0 L w):At L0 w0 L w.drew:=⟨h.sep.same (fun _ _=>rfl),h.foot,h.exc.drew⟩
theorem perm (h:At L0 w0 L w) {L':List Part} (p:L.Perm L'):At L0 w0 L' w:=⟨h.sep.perm p,fun b ⟨A,hA,hb⟩=>h.foot b ⟨A,p.mem_iff.2 hA,hb⟩,h.exc⟩
theorem sub (h:At L0 w0 L w) {L':List Part} (p:L'.Sublist L):At L0 w0 L' w:=⟨h.sep.sub p,fun b ⟨A,hA,hb⟩=>h.foot b ⟨A,p.subset hA,hb⟩,h.exc⟩
theorem drop (h:At L0 w0 L w) {A:Part} {F:List Part} (s:Sel A L F):At L0 w0 F w:=(h.perm s.perm).sub (List.sublist_cons_self _ _)
theorem take (h:At L0 w0 L w) {A:Part} {F:List Part} (s:Sel A L F):At L0 w0 (A::F) w:=h.perm s.perm
theorem ext (h:At L0 w0 L w) (he:Ext w w'):At L0 w0 L w':=⟨h.sep.same (fun b ⟨_,hA,hb⟩=>Below.block he b (h.sep.lt hA hb)),h.foot,h.exc.trans (he.exc _)⟩
theorem new (h:At L0 w0 L w) (he:Ext w w') (A:Part) (hA:A.holds w') (hf:∀b,A.foot b→w.heap.size≤b):At L0 w0 (A::L) w':=
 ⟨h.sep.new A hA hf (fun b hb=>Below.block he b hb),fun b ⟨B,hB,hb⟩=>by
   rcases List.mem_cons.1 hB with rfl|hB
   · exact .inr (Nat.le_trans h.size (hf b hb))
   exact h.foot b ⟨B,hB,hb⟩,h.exc.trans (he.exc _)⟩
theorem alloc (h:At L0 w0 L w) (c:List Value) (T:TypeId):At L0 w0 (Part.cells w.heap.size c T::L) (w.alloc (.cells c.toArray T)):=
 h.new ((Ext.refl w).alloc _) _ (Zaa.alloc w c T) (fun _ e=>by cases e;exact Nat.le_refl _)
theorem allocObj (h:At L0 w0 L w) (o:Obj):At L0 w0 (Part.obj w.heap.size o::L) (w.alloc o):=
 h.new ((Ext.refl w).alloc _) _ (heap_alloc_new w o) (fun _ e=>by cases e;exact Nat.le_refl _)
theorem turn (h:At L0 w0 L w) {A:Part} {F:List Part} (s:Sel A L F) (A':Part) (hA':A'.holds w') (hf:∀b,A'.foot b→A.foot b∨w.heap.size≤b) (hx:Exc A.foot w w'):At L0 w0 (A'::F) w':=by
 have h1:=h.take s;refine⟨h1.sep.turn 0 rfl A' hA' hf (fun b hb hn=>hx.block b hb hn),fun b ⟨B,hB,hb⟩=> ?_,h1.exc.trans' hx (fun b _ hb=>h1.foot b ⟨A,by simp,hb⟩)⟩;rcases List.mem_cons.1 hB with rfl|hB
 · rcases hf b hb with q|q
   · exact h1.foot b ⟨A,by simp,q⟩
   exact .inr (Nat.le_trans h.size q)
 exact h1.foot b ⟨B,by simp[hB],hb⟩
theorem store (h:At L0 w0 L w) {b:Nat} {c:List Value} {T:TypeId} {F:List Part} (s:Sel (Part.cells b c T) L F) (j:Nat) (v:Value):
 At L0 w0 (Part.cells b (c.set j v) T::F) (w.setCell ⟨b,j,none⟩ v):=
 h.turn s _ (Zaa.set (h.get s) j v) (fun _ e=>.inl e) (Exc.setCell (S:=fun k=>k=b) (p:=⟨b,j,none⟩) (Exc.refl _ _) (.inl rfl) v)
theorem stores (h:At L0 w0 L w) {b:Nat} {c:List Value} {T:TypeId} {F:List Part} (s:Sel (Part.cells b c T) L F) (j:Nat) (vs:List Value):
 At L0 w0 (Part.cells b (setL c j vs) T::F) (w.setCells b j vs):=
 h.turn s _ (Zaa.setCells vs j (h.get s)) (fun _ e=>.inl e) (Exc.setCells (S:=fun k=>k=b) (b:=b) (.inl rfl) _ _ _ (Exc.refl _ _))
theorem frame {K K' F:List Part} (h:At L0 w0 (K++F) w) (t:At K w K' w'):At L0 w0 (K'++F) w':=by
 have hK:∀b,footL K b→footL (K++F) b:=fun b ⟨A,hA,hb⟩=>⟨A,by simp[hA],hb⟩
 have apart:∀{K F:List Part} {w:World},Sep (K++F) w→Sep F w∧∀A ∈ K,∀B ∈ F,∀b,A.foot b→¬B.foot b:=by
  intro K
  induction K with
  |nil=>exact fun h=>⟨h,nofun⟩
  |cons A K ih=>
   intro F w h;obtain⟨i1,i2⟩:=ih h.2.1;refine⟨i1,fun C hC B hB b hc hb=> ?_⟩;rcases List.mem_cons.1 hC with rfl|hC
   · exact h.2.2 B (by simp[hB]) b hc hb
   exact i2 C hC B hB b hc hb
 have join:∀{K F:List Part} {w:World},Sep K w→Sep F w→(∀A ∈ K,∀B ∈ F,∀b,A.foot b→¬B.foot b)→Sep (K++F) w:=by
  intro K
  induction K with
  |nil=>exact fun _ h _=>h
  |cons A K ih=>
   intro F w h1 h2 h3;refine⟨h1.1,ih h1.2.1 h2 (fun C hC=>h3 C (by simp[hC])),fun B hB=> ?_⟩;rcases List.mem_append.1 hB with hB|hB
   · exact h1.2.2 B hB
   exact h3 A (by simp) B hB
 obtain⟨hF,hap⟩:=apart h.sep;have hF':Sep F w':=hF.same (fun b ⟨B,hB,hb⟩=>t.exc.block b (hF.lt hB hb) (fun⟨A,hA,ha⟩=>hap A hA B hB b ha hb));refine⟨join t.sep hF' (fun A hA B hB b ha hb=> ?_),fun b ⟨B,hB,hb⟩=> ?_,h.exc.trans' t.exc (fun b _ hb=>h.foot b (hK b hb))⟩
 · rcases t.foot b ⟨A,hA,ha⟩ with⟨C,hC,hc⟩|q
   · exact hap C hC B hB b hc hb
   have:=hF.lt hB hb;omega
 rcases List.mem_append.1 hB with hB|hB
 · rcases t.foot b ⟨B,hB,hb⟩ with q|q
   · exact h.foot b (hK b q)
   exact .inr (Nat.le_trans h.size q)
 exact h.foot b ⟨B,by simp[hB],hb⟩
theorem unfold {K F:List Part} (h:At L0 w0 (Part.all K::F) w):At L0 w0 (K++F) w:=⟨h.sep.unfold,fun b ⟨A,hA,hb⟩=>h.foot b (by
 rcases List.mem_append.1 hA with hA|hA
 · exact⟨_,List.mem_cons_self,A,hA,hb⟩
 exact⟨A,by simp[hA],hb⟩),h.exc⟩
theorem fold {K F:List Part} (h:At L0 w0 (K++F) w):At L0 w0 (Part.all K::F) w:=⟨h.sep.fold,fun b ⟨A,hA,hb⟩=>h.foot b (by
 rcases List.mem_cons.1 hA with rfl|hA
 · obtain⟨B,hB,hb⟩:=hb;exact⟨B,by simp[hB],hb⟩
 exact⟨A,by simp[hA],hb⟩),h.exc⟩
theorem call0 (h:At L0 w0 L w) {K':List Part} (t:At [] w K' w'):At L0 w0 (K'++L) w':=frame (K:=[]) h t
theorem toExt (h:At [] w0 L w):Ext w0 w:=h.exc.ext (fun _ _ ⟨_,hA,_⟩=>by cases hA)
theorem call1 (h:At L0 w0 L w) {A:Part} {F K':List Part} (s:Sel A L F) (t:At [A] w K' w'):At L0 w0 (K'++F) w':=frame (K:=[A]) (h.take s) t
theorem call2 (h:At L0 w0 L w) {A B:Part} {F G K':List Part} (s:Sel A L F) (r:Sel B F G) (t:At [A,B] w K' w'):At L0 w0 (K'++G) w':=
 frame (K:=[A,B]) (h.perm (s.perm.trans (r.perm.cons A))) t
theorem call3 (h:At L0 w0 L w) {A B C:Part} {F G H K':List Part} (s:Sel A L F) (r:Sel B F G) (q:Sel C G H) (t:At [A,B,C] w K' w'):At L0 w0 (K'++H) w':=
 frame (K:=[A,B,C]) (h.perm (s.perm.trans ((r.perm.trans (q.perm.cons B)).cons A))) t
theorem sep1 (h:At L0 w0 L w) {A:Part} {F:List Part} (s:Sel A L F):Sep [A] w:=(h.take s).sep.sub (by simp)
theorem sep2 (h:At L0 w0 L w) {A B:Part} {F G:List Part} (s:Sel A L F) (r:Sel B F G):Sep [A,B] w:=(h.perm (s.perm.trans (r.perm.cons A))).sep.sub (by simp)
theorem sep3 (h:At L0 w0 L w) {A B C:Part} {F G H:List Part} (s:Sel A L F) (r:Sel B F G) (q:Sel C G H):Sep [A,B,C] w:=(h.perm (s.perm.trans ((r.perm.trans (q.perm.cons B)).cons A))).sep.sub (by simp)
theorem only1 (h:At L0 w0 L w) {A:Part} {F:List Part} (s:Sel A L F):At L0 w0 [A] w:=(h.perm s.perm).sub (by simp)
theorem only2 (h:At L0 w0 L w) {A B:Part} {F G:List Part} (s:Sel A L F) (r:Sel B F G):At L0 w0 [A,B] w:=(h.perm (s.perm.trans (r.perm.cons A))).sub (by simp)
theorem only3 (h:At L0 w0 L w) {A B C:Part} {F G H:List Part} (s:Sel A L F) (r:Sel B F G) (q:Sel C G H):At L0 w0 [A,B,C] w:=
 (h.perm (s.perm.trans ((r.perm.trans (q.perm.cons B)).cons A))).sub (by simp)
theorem join (h:At L0 w0 L w) {A B C:Part} {F G:List Part} (s:Sel A L F) (r:Sel B F G) (hC:C.holds w) (hf:∀b,C.foot b→A.foot b∨B.foot b):At L0 w0 (C::G) w:=by
 have h1:=h.perm (s.perm.trans (r.perm.cons A));refine⟨h1.sep.join hC hf,fun b ⟨D,hD,hb⟩=> ?_,h1.exc⟩;rcases List.mem_cons.1 hD with rfl|hD
 · rcases hf b hb with q|q
   · exact h1.foot b ⟨A,by simp,q⟩
   exact h1.foot b ⟨B,by simp,q⟩
 exact h1.foot b ⟨D,by simp[hD],hb⟩
end At
structure Eqv (L K:List Part):Prop where
 sep:∀w,Sep L w↔Sep K w
 foot:∀b,footL L b↔footL K b
namespace Eqv
theorem refl (L:List Part):Eqv L L:=⟨fun _=>.rfl,fun _=>.rfl⟩
theorem symm {L K:List Part} (h:Eqv L K):Eqv K L:=⟨fun w=>(h.sep w).symm,fun b=>(h.foot b).symm⟩
theorem trans {L K M:List Part} (h:Eqv L K) (k:Eqv K M):Eqv L M:=⟨fun w=>(h.sep w).trans (k.sep w),fun b=>(h.foot b).trans (k.foot b)⟩
theorem perm {L K:List Part} (p:L.Perm K):Eqv L K:=⟨fun _=>⟨Sep.perm p,Sep.perm p.symm⟩,fun _=>⟨fun⟨A,hA,hb⟩=>⟨A,p.mem_iff.1 hA,hb⟩,fun⟨A,hA,hb⟩=>⟨A,p.mem_iff.2 hA,hb⟩⟩⟩
theorem all (K F:List Part):Eqv (Part.all K::F) (K++F):=⟨fun _=>⟨Sep.unfold,Sep.fold⟩,fun b=>by
 constructor
 · rintro⟨A,hA,hb⟩
   rcases List.mem_cons.1 hA with rfl|hA
   · obtain⟨B,hB,hb⟩:=hb;exact⟨B,by simp[hB],hb⟩
   exact⟨A,by simp[hA],hb⟩
 rintro⟨A,hA,hb⟩
 rcases List.mem_append.1 hA with hA|hA
 · exact⟨_,List.mem_cons_self,A,hA,hb⟩
 exact⟨A,by simp[hA],hb⟩⟩
theorem append {L K:List Part} (h:Eqv L K) (F:List Part):Eqv (L++F) (K++F):=by
 have key:∀{L K:List Part},Eqv L K→∀w,Sep (L++F) w→Sep (K++F) w:=fun {L K} h w q=>by
  obtain⟨a,b,c⟩:=q.apart2;refine((h.sep w).1 a).join2 b (fun A hA B hB k ha hb=> ?_);obtain⟨A',hA',ha'⟩:=(h.foot k).2 ⟨A,hA,ha⟩;exact c A' hA' B hB k ha' hb
 refine⟨fun w=>⟨key h w,key h.symm w⟩,fun b=> ?_⟩
 have f:∀{L K:List Part},Eqv L K→footL (L++F) b→footL (K++F) b:=fun {L K} h ⟨A,hA,hb⟩=>by
  rcases List.mem_append.1 hA with hA|hA
  · obtain⟨B,hB,hb⟩:=(h.foot b).1 ⟨A,hA,hb⟩;exact⟨B,by simp[hB],hb⟩
  exact⟨A,by simp[hA],hb⟩
 exact⟨f h,f h.symm⟩
theorem prepend {L K:List Part} (h:Eqv L K) (F:List Part):Eqv (F++L) (F++K):=(perm List.perm_append_comm).trans ((h.append F).trans (perm List.perm_append_comm))
theorem cons {L K:List Part} (h:Eqv L K) (A:Part):Eqv (A::L) (A::K):=h.prepend [A]
end Eqv
theorem At.eqv {L0 K0 L K:List Part} {w0 w:World} (h:At L0 w0 L w) (e0:Eqv L0 K0) (e:Eqv L K):At K0 w0 K w:=
 ⟨(e.sep w).1 h.sep,fun b hb=>by
   rcases h.foot b ((e.foot b).2 hb) with q|q
   · exact .inl ((e0.foot b).1 q)
   exact .inr q,h.exc.mono (fun b _ hb=>(e0.foot b).1 hb)⟩
theorem At.to {L0 L K:List Part} {w0 w:World} (h:At L0 w0 L w) (e:Eqv L K):At L0 w0 K w:=h.eqv (.refl _) e
theorem At.through {L0 L K F:List Part} {w0 w:World} {P:Program} {f:FuncId} {args:Array Value} {v:Value} (h:At L0 w0 L w) (e:Eqv L (K++F)) (hc:Sep K w→Calls P f args w fun e w'=>e=.returned v∧At K w K w'):
 Calls P f args w fun e w'=>e=.returned v∧At L0 w0 L w':=by
 have h1:=h.to e
 exact(hc h1.sep.apart2.1).mono fun e' w' ⟨he,t⟩=>⟨he,(h1.frame t).to e.symm⟩
theorem uA:(∀(c:List Value) (o:Nat),setL c o []=c)∧(∀(c:List Value) (o:Nat) (v:Value) (vs:List Value),setL c o (v::vs)=setL (c.set o v) (o + 1) vs)∧(∀{α:Type} (x:α) (xs:List α) (v:α),(x::xs).set 0 v=v::xs)∧(∀{α:Type} (x:α) (xs:List α) (n:Nat) (v:α),(x::xs).set (n + 1) v=x::xs.set n v)∧(∀{α:Type} (x:α) (xs ys:List α),(x::xs)++ys=x::(xs++ys))∧(∀{α:Type} (ys:List α),[]++ys=ys):=
 ⟨fun _ _=>rfl,fun _ _ _ _=>rfl,fun _ _ _=>rfl,fun _ _ _ _=>rfl,fun _ _ _=>rfl,fun _=>rfl⟩
theorem eV {α:Type}:(∀(xs:Array α) (i:Nat) (d:α),xs.getD i d=xs[i]?.getD d)∧(∀(l:List α) (i:Nat),l.toArray[i]? =l[i]?)∧(∀(x:α) (xs:List α) (i:Nat),(x::xs)[i + 1]? =xs[i]?)∧(∀(x:α) (xs:List α),(x::xs)[0]? =some x)∧(∀(x d:α),(some x).getD d=x):=
 ⟨fun _ _ _=>Array.getD_eq_getD_getElem?,fun _ _=>List.getElem?_toArray,fun _ _ _=>List.getElem?_cons_succ,fun _ _=>List.getElem?_cons_zero,fun _ _=>rfl⟩
end Go.Proofs.YtbeckijoabapkaaGreatDoor
namespace Go.Proofs.YtbeckijoabapkaaGreatDoor
theorem sZ {A:Part} {L F:List Part} (h:Sel A L F:=by repeat(first|exact Sel.here|apply Sel.there)):Sel A L F:=h
theorem andH {p q:Prop} (h:p) (k:p→q):p∧q:=⟨h,k h⟩
theorem At.ci {L0 L F:List Part} {w0 w:World} {b:Nat} {c:List Value} {T:TypeId} (h:At L0 w0 L w) (s:Sel (Part.cells b c T) L F:=by repeat(first|exact Sel.here|apply Sel.there)):Zaa w b c T:=h.get s
theorem sR {A:Part} {L F:List Part} (h:Sel A L F:=by with_reducible repeat(first|exact Sel.here|apply Sel.there)):Sel A L F:=h
end Go.Proofs.YtbeckijoabapkaaGreatDoor
end
namespace Go.Proofs.YtbeckijoabapkaaGreatDoor
section
section
open Go.RowKit
open Go.Maps (Keyed)
def MapAt (P:Program) (k:TypeId) (w:World) (b:Nat) (es:List (Value × Value)):Prop:=
 ∃(ents:Array MapEntry) (clock:Nat),w.heap[b]? =some (.map ents clock)∧ents.toList.map (fun e=>(e.key,e.val))=es∧(∀e ∈ ents.toList,e.born < clock)∧ents.toList.Pairwise (fun e f=>e.born≠f.born)∧
  (∀p ∈ es,∃l,keyOf P k p.1=some l)∧es.Pairwise (fun p q=>p.1≠q.1)
section
variable {P:Program} {k:TypeId} {w:World} {b:Nat} {es:List (Value × Value)}
theorem MapAt.lt (h:MapAt P k w b es):b < w.heap.size:=by
 obtain⟨ents,clock,hb,_⟩:=h;rcases Nat.lt_or_ge b w.heap.size with q|q
 · exact q
 rw[Array.getElem?_eq_none q] at hb;cases hb
theorem MapAt.same (h:MapAt P k w b es) {w':World} (e:w'.heap[b]? =w.heap[b]?):MapAt P k w' b es:=by
 obtain⟨ents,clock,hb,r⟩:=h;exact⟨ents,clock,e.trans hb,r⟩
theorem MapAt.ext (h:MapAt P k w b es) {w':World} (e:Ext w w'):MapAt P k w' b es:=h.same (Below.block e b h.lt)
theorem MapAt.exc (h:MapAt P k w b es) {S:Nat→Prop} {w':World} (e:Exc S w w') (hs:¬S b):MapAt P k w' b es:=h.same (e.block b h.lt hs)
theorem MapAt.made (P:Program) (k:TypeId) (w:World):MapAt P k (w.alloc (.map #[] 0)) w.heap.size []:=
 ⟨#[],0,heap_alloc_new w _,rfl,nofun,List.Pairwise.nil,nofun,List.Pairwise.nil⟩
theorem MapAt.find (h:MapAt P k w b es) (K:Keyed P k) {key:Value} {kl:Lit} (hk:keyOf P k key=some kl) (w0:World):
 ∃(ents:Array MapEntry) (clock:Nat),w.heap[b]? =some (.map ents clock)∧
  (((Instr.findKey k key ents.toList).run P w0=.ok none w0∧∀p ∈ es,p.1≠key)∨∃j v,(Instr.findKey k key ents.toList).run P w0=.ok (some (j,v)) w0∧(key,v) ∈ es):=by
 obtain⟨ents,clock,hb,he,_,_,hkeys,_⟩:=h;refine⟨ents,clock,hb,?_⟩;have hall:∀e ∈ ents.toList,∃l,keyOf P k e.key=some l:=fun e hm=>hkeys (e.key,e.val) (by rw[←he];exact List.mem_map.2 ⟨e,hm,rfl⟩);rcases K.find w0 hk ents.toList hall with⟨h1,h2⟩|⟨j,e,h1,h2,h3⟩
 · refine .inl ⟨h1,fun p hp=> ?_⟩;rw[←he] at hp;obtain⟨e,hm,rfl⟩:=List.mem_map.1 hp;exact h2 e hm
 refine .inr ⟨j,e.val,h1,?_⟩;rw[←he];exact List.mem_map.2 ⟨e,List.mem_of_getElem? h2,by rw[h3]⟩
theorem Zoh {es:List (Value × Value)} (h:es.Pairwise (fun p q=>p.1≠q.1)) {key u v:Value} (h1:(key,u) ∈ es) (h2:(key,v) ∈ es):u=v:=by
 induction es with
 |nil=>cases h1
 |cons p r ih=>
  obtain⟨hp,hr⟩:=List.pairwise_cons.1 h;rcases List.mem_cons.1 h1 with e1|e1
  · rcases List.mem_cons.1 h2 with e2|e2
    · rw[←e1] at e2;cases e2;rfl
    exact absurd (by rw[←e1]) (hp _ e2)
  rcases List.mem_cons.1 h2 with e2|e2
  · exact absurd (by rw[←e2]) (hp _ e1)
  exact ih hr e1 e2
theorem MapAt.once (h:MapAt P k w b es) {key u v:Value} (h1:(key,u) ∈ es) (h2:(key,v) ∈ es):u=v:=by
 obtain⟨_,_,_,_,_,_,_,hp⟩:=h;exact Zoh hp h1 h2
theorem MapAt.look_none {t e:TypeId} (h:MapAt P k w b es) (K:Keyed P k) (ht:P.underlying t=some (.map k e)) {key:Value} {kl:Lit} (hk:keyOf P k key=some kl) (hn:∀p ∈ es,p.1≠key) {z:Value} (hz:(zeroValue e).run P w=.ok z w) (ok:Bool):
 (Instr.lookup t (.map (some b)) key ok).run P w=.ok (if ok then .tuple #[z,.bool false] else z) w:=by
 obtain⟨ents,clock,hb,hf⟩:=h.find K hk w;rcases hf with⟨h1,_⟩|⟨j,v,h1,h2⟩
 · simp[Instr.lookup,run_underlying ht,MapKept.run_getObj_map hb,K.check w _ hk,h1,hz,Result.andThen]
 exact absurd rfl (hn _ h2)
theorem MapAt.look_some {t e:TypeId} (h:MapAt P k w b es) (K:Keyed P k) (ht:P.underlying t=some (.map k e)) {key v:Value} {kl:Lit} (hk:keyOf P k key=some kl) (hn:(key,v) ∈ es) (ok:Bool):
 (Instr.lookup t (.map (some b)) key ok).run P w=.ok (if ok then .tuple #[v,.bool true] else v) w:=by
 obtain⟨ents,clock,hb,hf⟩:=h.find K hk w;rcases hf with⟨_,h2⟩|⟨j,u,h1,h2⟩
 · exact absurd rfl (h2 _ hn)
 have e:=h.once hn h2;subst e;simp[Instr.lookup,run_underlying ht,MapKept.run_getObj_map hb,K.check w _ hk,h1,Result.andThen]
theorem MapAt.put_new {t e:TypeId} (h:MapAt P k w b es) (K:Keyed P k) (ht:P.underlying t=some (.map k e)) {key:Value} {kl:Lit} (hk:keyOf P k key=some kl) (hn:∀p ∈ es,p.1≠key) (val:Value):
 ∃w',(Instr.mapUpdate t (.map (some b)) key val).run P w=.ok () w'∧MapAt P k w' b (es++[(key,val)])∧Exc (fun q=>q=b) w w':=by
 have h0:=h;obtain⟨ents,clock,hb,he,hbn,hdn,hkeys,hpw⟩:=h0;obtain⟨ents',clock',hb',hf⟩:=h.find K hk w;rw[hb] at hb';cases hb';rcases hf with⟨h1,_⟩|⟨j,v,h1,h2⟩
 · refine⟨ChangeMaps.setBlock w b (.map (ents.push ⟨key,val,clock⟩) (clock + 1)),by simp[Instr.mapUpdate,run_underlying ht,MapKept.run_getObj_map hb,K.check w _ hk,h1,MapKept.run_setObj_map _ hb,Result.andThen,ChangeMaps.setBlock],?_,?_⟩
   · refine⟨ents.push ⟨key,val,clock⟩,clock + 1,ChangeMaps.heap_setBlock_same hb _,?_,?_,?_,?_,?_⟩
     · simp[he]
     · intro e hm;simp only[Array.toList_push,List.mem_append,List.mem_singleton] at hm;rcases hm with hm|hm
       · have:=hbn e hm;omega
       subst hm;simp
     · simp only[Array.toList_push];refine List.pairwise_append.2 ⟨hdn,List.pairwise_singleton _ _,fun e hm f hf=> ?_⟩;have hfe:f=⟨key,val,clock⟩:=by simpa using hf
       subst hfe;have:=hbn e hm;simp only;omega
     · intro p hp;rcases List.mem_append.1 hp with hp|hp
       · exact hkeys p hp
       have:p=(key,val):=by simpa using hp
       subst this;exact⟨kl,hk⟩
     refine List.pairwise_append.2 ⟨hpw,List.pairwise_singleton _ _,fun p hp q hq=> ?_⟩;have:q=(key,val):=by simpa using hq
     subst this;exact hn p hp
   exact⟨rfl,rfl,rfl,by simp[ChangeMaps.setBlock],fun i _ hi=>ChangeMaps.heap_setBlock_other hb _ (fun e=>hi e)⟩
 exact absurd rfl (hn _ h2)
theorem Zmn {l1 l2:List (Value × Value)} {key u:Value} (hp:(l1++(key,u)::l2).Pairwise (fun p q=>p.1≠q.1)) {j:Nat} {v:Value} (hj:(l1++(key,u)::l2)[j]? =some (key,v)):j=l1.length:=by
 obtain⟨h1,h2,h3⟩:=List.pairwise_append.1 hp;rcases Nat.lt_trichotomy j l1.length with h|h|h
 · rw[List.getElem?_append_left h] at hj;exact absurd rfl (h3 (key,v) (List.mem_of_getElem? hj) (key,u) (by simp))
 · exact h
 rw[List.getElem?_append_right (by omega),show j - l1.length=(j - l1.length - 1) + 1 by omega,List.getElem?_cons_succ] at hj;exact absurd rfl ((List.pairwise_cons.1 h2).1 (key,v) (List.mem_of_getElem? hj))
theorem MapAt.find_at {l1 l2:List (Value × Value)} {key u:Value} (h:MapAt P k w b (l1++(key,u)::l2)) (K:Keyed P k) {kl:Lit} (hk:keyOf P k key=some kl) (w0:World) {ents:Array MapEntry} {clock:Nat} (hb:w.heap[b]? =some (.map ents clock)):
 ∃e,(Instr.findKey k key ents.toList).run P w0=.ok (some (l1.length,u)) w0∧ents[l1.length]? =some e∧e.key=key∧e.val=u:=by
 obtain⟨ents',clock',hb',he,_,_,hkeys,hpw⟩:=h;rw[hb] at hb';cases hb';have hall:∀e ∈ ents.toList,∃l,keyOf P k e.key=some l:=fun e hm=>hkeys (e.key,e.val) (by rw[←he];exact List.mem_map.2 ⟨e,hm,rfl⟩);rcases K.find w0 hk ents.toList hall with⟨_,h2⟩|⟨j,e,h1,h2,h3⟩
 · have:(key,u) ∈ ents.toList.map (fun e=>(e.key,e.val)):=by rw[he];simp
   obtain⟨e,hm,hq⟩:=List.mem_map.1 this;exact absurd (congrArg Prod.fst hq) (h2 e hm)
 have hj:(l1++(key,u)::l2)[j]? =some (key,e.val):=by rw[←he,List.getElem?_map,h2];simp[h3]
 have e1:=Zmn hpw hj;subst e1;have hv:e.val=u:=by simpa using hj.symm
 rw[hv] at h1;exact⟨e,h1,by simpa using h2,h3,hv⟩
theorem MapAt.put_there {t e:TypeId} {l1 l2:List (Value × Value)} {key u:Value} (h:MapAt P k w b (l1++(key,u)::l2)) (K:Keyed P k) (ht:P.underlying t=some (.map k e)) {kl:Lit} (hk:keyOf P k key=some kl) (val:Value):
 ∃w',(Instr.mapUpdate t (.map (some b)) key val).run P w=.ok () w'∧MapAt P k w' b (l1++(key,val)::l2)∧Exc (fun q=>q=b) w w':=by
 have h0:=h;obtain⟨ents,clock,hb,he,hbn,hdn,hkeys,hpw⟩:=h0;obtain⟨e0,h1,h2,h3,h4⟩:=h.find_at K hk w hb;have hlt:l1.length < ents.size:=(Array.getElem?_eq_some_iff.1 h2).1;have hge:ents[l1.length]=e0:=(Array.getElem?_eq_some_iff.1 h2).2
 have hmod:(ents.modify l1.length fun e=>{e with key:=key,val:=val}).toList=ents.toList.set l1.length {e0 with key:=key,val:=val}:=by
  apply List.ext_getElem?;intro i;rw[Array.getElem?_toList,Array.getElem?_modify,List.getElem?_set];split
  · rename_i hi;subst hi;simp[hlt,hge]
  simp
 refine⟨ChangeMaps.setBlock w b (.map (ents.modify l1.length fun e=>{e with key:=key,val:=val}) clock),?_,?_,?_⟩
 · simp[Instr.mapUpdate,run_underlying ht,MapKept.run_getObj_map hb,K.check w _ hk,h1,h2,h3,K.stays w hk,MapKept.run_setObj_map _ hb,Result.andThen,ChangeMaps.setBlock]
 · refine⟨_,clock,ChangeMaps.heap_setBlock_same hb _,?_,?_,?_,?_,?_⟩
   · rw[hmod,List.map_set,he];simp
   · intro e hm;rw[hmod] at hm;rcases List.mem_or_eq_of_mem_set hm with hm|hm
     · exact hbn e hm
     subst hm;exact hbn e0 (by rw[Array.mem_toList_iff];exact Array.mem_of_getElem? h2)
   · have e1:(ents.modify l1.length fun e=>{e with key:=key,val:=val}).toList.map (·.born)=ents.toList.map (·.born):=by
      rw[hmod,List.map_set];apply List.ext_getElem?;intro i;rw[List.getElem?_set];split
      · rename_i hi;subst hi;simp[hlt,hge]
      rfl
     have q1:(ents.toList.map (·.born)).Pairwise (· ≠ ·):=List.pairwise_map.2 hdn;rw[←e1] at q1;exact List.pairwise_map.1 q1
   · intro p hp;rcases List.mem_append.1 hp with hp|hp
     · exact hkeys p (by simp[hp])
     rcases List.mem_cons.1 hp with rfl|hp
     · exact⟨kl,hk⟩
     exact hkeys p (by simp[hp])
   have q1:((l1++(key,u)::l2).map (·.1)).Pairwise (· ≠ ·):=List.pairwise_map.2 hpw;have q2:(l1++(key,val)::l2).map (·.1)=(l1++(key,u)::l2).map (·.1):=by simp
   rw[←q2] at q1;exact List.pairwise_map.1 q1
 exact⟨rfl,rfl,rfl,by simp[ChangeMaps.setBlock],fun i _ hi=>ChangeMaps.heap_setBlock_other hb _ (fun e=>hi e)⟩
def Part.map (P:Program) (k:TypeId) (b:Nat) (es:List (Value × Value)):Part where
 holds w:=MapAt P k w b es
 foot q:=q=b
 lt:=fun _ h _ e=>by subst e;exact h.lt
 stay:=fun _ _ h e=>h.same (e b rfl)
theorem Zhj (w:World):(Part.map P k b es).facts w=True:=rfl
theorem MapAt.len (h:MapAt P k w b es):∃ents clock,w.heap[b]? =some (.map ents clock)∧ents.size=es.length:=by
 obtain⟨ents,clock,hb,he,_⟩:=h;exact⟨ents,clock,hb,by rw[←he];simp⟩
def ZaU (P:Program) (k:TypeId) (w:World) (r b:Nat) (es done:List (Value × Value)):Prop:=
 MapAt P k w b es∧r≠b∧∃(ents:Array MapEntry) (clock c0:Nat) (vs:List MapEntry),w.heap[b]? =some (.map ents clock)∧w.heap[r]? =some (.mapIter (some b) clock (vs.map (·.born)).toArray c0)∧clock≤c0∧
  vs.map (fun e=>(e.key,e.val))=done∧(∀e ∈ vs,e ∈ ents.toList)∧vs.Pairwise (fun e f=>e.born≠f.born)∧(vs≠[]→c0=clock)
theorem ZaU.start (h:MapAt P k w b es) {t e:TypeId} (ht:P.underlying t=some (.map k e)):
 ∃w',(Instr.range t (.map (some b))).run P w=.ok (.pointer (some ⟨w.heap.size,0,none⟩)) w'∧Ext w w'∧ZaU P k w' w.heap.size b es []:=by
 have h0:=h;obtain⟨ents,clock,hb,_⟩:=h0;refine⟨w.alloc (.mapIter (some b) clock #[] clock),by simp[Instr.range,run_underlying ht,MapKept.run_getObj_map hb,Result.andThen],(Ext.refl w).alloc _,h.ext ((Ext.refl w).alloc _),?_,ents,clock,clock,[],?_,heap_alloc_new w _,Nat.le_refl _,rfl,nofun,List.Pairwise.nil,fun q=>absurd rfl q⟩
 · have:=h.lt;omega
 rw[Below.heap_alloc _ _ _ h.lt];exact hb
theorem ZiX {ents:Array MapEntry} {es:List (Value × Value)} (he:ents.toList.map (fun e=>(e.key,e.val))=es) {e:MapEntry} (hm:e ∈ ents.toList):(e.key,e.val) ∈ es:=by
 rw[←he];exact List.mem_map.2 ⟨e,hm,rfl⟩
theorem ZaU.next {r:Nat} {done:List (Value × Value)} (h:ZaU P k w r b es done) (ty:TypeId):
 (es.Perm done∧(Instr.next (.pointer (some ⟨r,0,none⟩)) false ty).run P w=.ok (.tuple #[.bool false]) w)∨
 ∃p w',p ∈ es∧(∀q ∈ done,q.1≠p.1)∧(Instr.next (.pointer (some ⟨r,0,none⟩)) false ty).run P w=.ok (.tuple #[.bool true,p.1,p.2]) w'∧ZaU P k w' r b es (done++[p])∧Exc (fun q=>q=r) w w':=by
 obtain⟨hm,hrb,ents,clock,c0,vs,hb,hr,hc,hd,hin,hpw,hc1⟩:=h;have hm0:=hm;obtain⟨ents',clock',hb',he,hbn,hdn,hkeys,hkp⟩:=hm0;rw[hb] at hb';cases hb'
 have hborn:∀x ∈ ents.toList,∀y ∈ ents.toList,x.born=y.born→x=y:=by
  intro x hx y hy e;obtain⟨i,hi⟩:=List.mem_iff_getElem?.1 hx;obtain⟨j,hj⟩:=List.mem_iff_getElem?.1 hy;by_cases hij:i=j
  · subst hij;rw[hi] at hj;exact Option.some.inj hj
  exfalso
  obtain⟨hi1,hi2⟩:=List.getElem?_eq_some_iff.1 hi;obtain⟨hj1,hj2⟩:=List.getElem?_eq_some_iff.1 hj;have hp:=List.pairwise_iff_getElem.1 hdn;rcases Nat.lt_or_gt_of_ne hij with q|q
  · exact hp i j hi1 hj1 q (by rw[hi2,hj2,e])
  exact hp j i hj1 hi1 q (by rw[hi2,hj2,e])
 rcases run_next_at (P:=P) w ty r b clock c0 (vs.map (·.born)).toArray ents clock hr hb hbn hc with⟨h0,hrun⟩|⟨e,he1,w1,hw1,hrun⟩
 · refine .inl ⟨?_,hrun⟩
   have hall:∀x ∈ ents.toList,x ∈ vs:=by
    intro x hx;have h1:leftOf ents (vs.map (·.born)).toArray= #[]:=Array.eq_empty_of_size_eq_zero h0;unfold leftOf at h1;rw[Array.filter_eq_empty_iff] at h1;have h2:=h1 x (by simpa using hx);simp at h2
    obtain⟨y,hy,hyb⟩:=h2;rw[←hborn y (hin y hy) x hx hyb];exact hy
   have np:∀(l:List MapEntry),l.Pairwise (fun e f=>e.born≠f.born)→l.Nodup:=fun l hl=>hl.imp (fun h e=>h (by rw[e]));have hp:ents.toList.Perm vs:=(List.perm_ext_iff_of_nodup (np _ hdn) (np _ hpw)).2 (fun x=>⟨hall x,hin x⟩);rw[←he,←hd];exact hp.map _
 refine .inr ⟨(e.key,e.val),ChangeMaps.setBlock w1 r (.mapIter (some b) clock ((vs.map (·.born)).toArray.push e.born) clock),?_,?_,hrun,?_,?_⟩
 all_goals
  have he2:e ∈ ents.toList∧∀y ∈ vs,y.born≠e.born:=by
   unfold leftOf at he1;simp at he1
   exact⟨by simpa using he1.1,fun y hy hb=>he1.2 y hy hb⟩
  have hh1:w1.heap=w.heap:=by rcases hw1 with rfl|rfl<;>rfl
 · exact ZiX he he2.1
 · intro q hq;rw[←hd] at hq;obtain⟨y,hy,rfl⟩:=List.mem_map.1 hq;intro hk;obtain⟨i,hi⟩:=List.mem_iff_getElem?.1 (hin y hy);obtain⟨j,hj⟩:=List.mem_iff_getElem?.1 he2.1
   have hij:i≠j:=by
    intro q;subst q;rw[hi] at hj;cases hj;exact he2.2 e hy rfl
   have hp:=List.pairwise_iff_getElem.1 hkp;have g1:es[i]? =some (y.key,y.val):=by rw[←he,List.getElem?_map,hi];rfl
   have g2:es[j]? =some (e.key,e.val):=by rw[←he,List.getElem?_map,hj];rfl
   obtain⟨hi1,hi2⟩:=List.getElem?_eq_some_iff.1 g1;obtain⟨hj1,hj2⟩:=List.getElem?_eq_some_iff.1 g2;rcases Nat.lt_or_gt_of_ne hij with q|q
   · exact hp i j hi1 hj1 q (by rw[hi2,hj2];exact hk)
   exact hp j i hj1 hi1 q (by rw[hi2,hj2];exact hk.symm)
 · have hr1:w1.heap[r]? =some (.mapIter (some b) clock (vs.map (·.born)).toArray c0):=by rw[hh1];exact hr
   have k1:∀(o:Obj) (i:Nat),i≠r→(ChangeMaps.setBlock w1 r o).heap[i]? =w.heap[i]? :=fun o i hi=>by
    rw[←hh1];simp[ChangeMaps.setBlock,Ne.symm hi]
   have k2:∀(o:Obj),(ChangeMaps.setBlock w1 r o).heap[r]? =some o:=fun o=>by
    have hlt:=Za0 hr1;simp[ChangeMaps.setBlock,hlt]
   refine⟨hm.same (k1 _ b (Ne.symm hrb)),hrb,ents,clock,clock,vs++[e],by rw[k1 _ b (Ne.symm hrb)];exact hb,by rw[k2];simp,Nat.le_refl _,by simp[hd],?_,?_,fun _=>rfl⟩
   · intro x hx;rcases List.mem_append.1 hx with hx|hx
     · exact hin x hx
     have:x=e:=by simpa using hx
     subst this;exact he2.1
   refine List.pairwise_append.2 ⟨hpw,List.pairwise_singleton _ _,fun x hx y hy=> ?_⟩;have:y=e:=by simpa using hy
   subst this;exact he2.2 x hx
 have g:∀(o:Obj),Exc (fun q=>q=r) w (ChangeMaps.setBlock w1 r o):=fun o=>by
  rcases hw1 with rfl|rfl
  · exact⟨rfl,rfl,rfl,by simp[ChangeMaps.setBlock],fun i _ hi=>by simp[ChangeMaps.setBlock,Ne.symm hi]⟩
  exact⟨rfl,rfl,rfl,by simp[ChangeMaps.setBlock],fun i _ hi=>by simp[ChangeMaps.setBlock,Ne.symm hi];rfl⟩
 exact g _
theorem ZaU.entry {r:Nat} {done:List (Value × Value)} {p:Value × Value} (h:ZaU P k w r b es (done++[p])):(Instr.entry (.pointer (some ⟨r,0,none⟩))).run P w=.ok (.tuple #[p.1,p.2]) w:=by
 obtain⟨hm,hrb,ents,clock,c0,vs,hb,hr,hc,hd,hin,hpw,hc1⟩:=h;obtain⟨ents',clock',hb',he,hbn,hdn,hkeys,hkp⟩:=hm;rw[hb] at hb';cases hb';rcases List.eq_nil_or_concat vs with rfl|⟨vs',e,rfl⟩
 · simp at hd
 have h1:c0=clock:=hc1 (by simp);subst h1;simp at hd
 obtain⟨hd1,hd2⟩:=hd;subst hd2;have:=run_entry_at (P:=P) w r b c0 (vs'.map (·.born)).toArray ents c0 e (by rw[hr];simp) hb (hin e (by simp)) (List.pairwise_map.2 hdn);exact this
theorem ZaU.len {r:Nat} {done:List (Value × Value)} (h:ZaU P k w r b es done):done.length≤es.length:=by
 obtain⟨hm,hrb,ents,clock,c0,vs,hb,hr,hc,hd,hin,hpw,hc1⟩:=h;obtain⟨ents',clock',hb',he,hbn,hdn,hkeys,hkp⟩:=hm;rw[hb] at hb';cases hb';have h1:(vs.map (·.born)).Nodup:=List.pairwise_map.2 hpw
 have h2:=h1.length_le_of_subset (l₂:=ents.toList.map (·.born)) (fun x hx=>by
  obtain⟨e,he,rfl⟩:=List.mem_map.1 hx
  exact List.mem_map.2 ⟨e,hin e he,rfl⟩)
 rw[←hd,←he];simpa using h2
theorem ZaU.keys {r:Nat} {done:List (Value × Value)} (h:ZaU P k w r b es done):es.Pairwise (fun p q=>p.1≠q.1):=by
 obtain⟨⟨_,_,_,_,_,_,_,hkp⟩,_⟩:=h;exact hkp
theorem MapAt.keys (h:MapAt P k w b es):es.Pairwise (fun p q=>p.1≠q.1):=by
 obtain⟨_,_,_,_,_,_,_,hkp⟩:=h;exact hkp
theorem ZaU.same {r:Nat} {done:List (Value × Value)} (h:ZaU P k w r b es done) {w':World} (e1:w'.heap[b]? =w.heap[b]?) (e2:w'.heap[r]? =w.heap[r]?):ZaU P k w' r b es done:=by
 obtain⟨hm,hrb,ents,clock,c0,vs,hb,hr,rest⟩:=h;exact⟨hm.same e1,hrb,ents,clock,c0,vs,e1.trans hb,e2.trans hr,rest⟩
def Part.iter (P:Program) (k:TypeId) (r b:Nat) (es done:List (Value × Value)):Part where
 holds w:=ZaU P k w r b es done
 foot q:=q=b∨q=r
 lt:=fun _ h q e=>by
  rcases e with e|e
  · subst e;exact h.1.lt
  subst e;obtain⟨_,_,_,_,_,_,_,hr,_⟩:=h;exact Za0 hr
 stay:=fun _ _ h e=>h.same (e b (.inl rfl)) (e r (.inr rfl))
theorem ZfF {r:Nat} {done:List (Value × Value)} (w:World):(Part.iter P k r b es done).facts w=True:=rfl
end
theorem fA:(∀(w:World),Facts [] w=True)∧(∀(A:Part) (L:List Part) (w:World),Facts (A::L) w=(A.facts w∧Facts L w))∧
 (∀(b:Nat) (c:List Value) (T:TypeId) (w:World),(Part.cells b c T).facts w=((∀j,w.cell? ⟨b,j,none⟩=c[j]?)∧(∀j,w.frozen? ⟨b,j,none⟩=false)∧b < w.heap.size))∧
 (∀(W w:World),(Part.old W).facts w=True)∧(∀(p:Prop) (w:World),(Part.fact p).facts w=True)∧(∀(b:Nat) (o:Obj) (w:World),(Part.obj b o).facts w=True)∧
 (∀(P:Program) (k:TypeId) (b:Nat) (es:List (Value × Value)) (w:World),(Part.map P k b es).facts w=True)∧(∀(P:Program) (k:TypeId) (r b:Nat) (es done:List (Value × Value)) (w:World),(Part.iter P k r b es done).facts w=True):=
 ⟨fun _=>rfl,fun _ _ _=>rfl,fun _ _ _ _=>rfl,fun _ _=>rfl,fun _ _=>rfl,fun _ _ _=>rfl,fun _ _ _ _ _=>rfl,fun _ _ _ _ _ _ _=>rfl⟩
end
end
end Go.Proofs.YtbeckijoabapkaaGreatDoor
