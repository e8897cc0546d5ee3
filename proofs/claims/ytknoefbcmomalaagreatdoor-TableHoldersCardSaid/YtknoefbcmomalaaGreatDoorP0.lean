import Derived.Lib.Join
import Derived.Lib.Small
import Derived.Lib.IndexLaws
import Derived.WalkSpells
import Derived.WalkLawsBesides
import Derived.Lib.Hide
import Derived.Deep.AppendLies
import Derived.StillTail
import Derived.Deep.QuietTactic
set_option linter.unusedSimpArgs false
set_option linter.unusedVariables false
set_option maxRecDepth 100000
set_option maxHeartbeats 16000000
namespace Go.Proofs.YtknoefbcmomalaaGreatDoor
section
namespace Path
open Go.Lib (compareBytes)
abbrev Bs:=List UInt8
def letB (c:UInt8):Bool:=(decide (97≤c.toNat)&&decide (c.toNat≤122)) || (decide (48≤c.toNat)&&decide (c.toNat≤57)) || decide (c.toNat=45) || decide (c.toNat=95)
def partB (p:Bs):Bool:= !p.isEmpty&&p.all letB
def Zai:Bs→List Bs
 |[]=>[[]]
 |c::r=>if c=47 then[]::Zai r else((c::(Zai r).headD [])::(Zai r).tail)
def joinS (l:List Bs):Bs:=Lib.join l [47]
def Zaf (s:Bs):Bool:=(Zai s).all partB&&decide ((Zai s).length≤8)&&decide (s.length≤64)
def stepW (acc:List Bs) (p:Bs):Option (List Bs):=
 if p=[]∨p=[46] then some acc else if p=[46,46] then(if acc=[] then none else some acc.dropLast) else if p.all letB=true then some (acc++[p]) else none
def walkL:List Bs→List Bs→Option (List Bs)
 |acc,[]=>some acc
 |acc,p::ps=>match stepW acc p with
  |none=>none
  |some a=>walkL a ps
def normL (s:Bs):Bs × Int:=match walkL [] (Zai s) with
 |none=>([],30)
 |some l=>if l=[] then([],13) else if 8 < l.length then([],31) else if 64 < (joinS l).length then([],11) else(joinS l,0)
def ZbE (s:Bs):List Bs:=if Zaf s=true then Zai s else[]
def Zan (p q:Bs):Bool:=Zaf p&&Zaf q&&(decide (p=q) || (p++[47]).isPrefixOf q)
def overB (p q:Bs):Bool:=Zan p q || Zan q p
theorem ZaD (c:UInt8) (r:Bs):Zai (c::r)=if c=47 then[]::Zai r else((c::(Zai r).headD [])::(Zai r).tail):=rfl
theorem Zbg (s:Bs):Zai s≠[]:=by
 cases s with
 |nil=>simp[Zai]
 |cons c r=>rw[ZaD];split<;>simp
theorem Zbo (s:Bs):1≤(Zai s).length:=by have:=Zbg s;cases h:Zai s<;>simp_all
theorem ZbH (p:Bs) (l:List Bs) (h:l≠[]):joinS (p::l)=p++47::joinS l:=by
 cases l with
 |nil=>exact absurd rfl h
 |cons q r=>simp[joinS,Lib.join,List.intercalate,List.intersperse]
theorem join_one (p:Bs):joinS [p]=p:=by simp[joinS,Lib.join_one]
theorem ZbG:∀s:Bs,joinS (Zai s)=s
 |[]=>by simp[Zai,join_one]
 |c::r=>by
  have ih:=ZbG r;rw[ZaD];split
  · rename_i h;subst h;rw[ZbH _ _ (Zbg r),ih];rfl
  cases h:Zai r with
  |nil=>exact absurd h (Zbg r)
  |cons p ps=>
   rw[h] at ih;simp only[List.headD_cons,List.tail_cons]
   cases ps with
   |nil=>rw[join_one] at ih ⊢;rw[ih]
   |cons q qs=>
    rw[ZbH _ _ (by simp)] at ih ⊢;rw[List.cons_append,ih]
theorem ZbR:∀p:Bs,(∀c ∈ p,c≠47)→Zai p=[p]
 |[],_=>rfl
 |c::r,h=>by
  have ih:=ZbR r (fun x hx=>h x (by simp[hx]));rw[ZaD];rw[if_neg (h c (by simp)),ih];rfl
theorem Zdd:∀(p r:Bs),(∀c ∈ p,c≠47)→Zai (p++47::r)=p::Zai r
 |[],r,_=>by simp[Zai]
 |c::p,r,h=>by
  have ih:=Zdd p r (fun x hx=>h x (by simp[hx]));rw[List.cons_append];rw[ZaD];rw[if_neg (h c (by simp)),ih];rfl
theorem Zcc:∀(p r:Bs),Zai (p++47::r)=Zai p++Zai r
 |[],r=>by simp[Zai]
 |c::p,r=>by
  have ih:=Zcc p r;rw[List.cons_append,ZaD,ZaD];by_cases h:c=47
  · rw[if_pos h,if_pos h,ih];rfl
  rw[if_neg h,if_neg h,ih]
  cases hs:Zai p with
  |nil=>exact absurd hs (Zbg p)
  |cons a b=>rfl
theorem ZcI:∀(l:List Bs),l≠[]→(∀p ∈ l,∀c ∈ p,c≠47)→Zai (joinS l)=l
 |[],h,_=>absurd rfl h
 |[p],_,h=>by rw[join_one];exact ZbR p (h p (by simp))
 |p::q::r,_,h=>by
  rw[ZbH _ _ (by simp),Zdd _ _ (h p (by simp)),ZcI (q::r) (by simp) (fun x hx=>h x (by simp[hx]))]
theorem Zht {c:UInt8} (h:letB c=true):c≠47:=by
 intro e;subst e;simp[letB] at h
theorem ZdW:∀(s:Bs),∀p ∈ Zai s,∀c ∈ p,c≠47
 |[],p,hp,c,hc=>by simp[Zai] at hp;subst hp;simp at hc
 |d::r,p,hp,c,hc=>by
  have ih:=ZdW r;rw[ZaD] at hp;split at hp
  · rcases List.mem_cons.1 hp with rfl|hp
    · simp at hc
    exact ih p hp c hc
  rename_i hd
  cases hs:Zai r with
  |nil=>exact absurd hs (Zbg r)
  |cons a b=>
   rw[hs] at hp ih;simp only[List.headD_cons,List.tail_cons] at hp;rcases List.mem_cons.1 hp with rfl|hp
   · rcases List.mem_cons.1 hc with rfl|hc
     · exact hd
     exact ih a (by simp) c hc
   exact ih p (by simp[hp]) c hc
theorem Zdc {s t:Bs} (h:Zai s=Zai t):s=t:=by rw[←ZbG s,h,ZbG]
theorem Zcd {p:Bs}:partB p=true↔p≠[]∧p.all letB=true:=by
 unfold partB;cases p<;>simp
theorem ZdV {acc:List Bs} {p:Bs} (h:partB p=true):stepW acc p=some (acc++[p]):=by
 obtain⟨h1,h2⟩:=Zcd.1 h;unfold stepW;rw[if_neg,if_neg,if_pos h2]
 · intro e;subst e;simp[letB] at h2
 rintro(e|e)
 · exact h1 e
 subst e;simp[letB] at h2
theorem Zdb:∀(l acc:List Bs),(∀p ∈ l,partB p=true)→walkL acc l=some (acc++l)
 |[],acc,_=>by simp[walkL]
 |p::r,acc,h=>by
  rw[walkL,ZdV (h p (by simp))];simp only;rw[Zdb r _ (fun x hx=>h x (by simp[hx]))];simp
theorem ZiJ {acc a:List Bs} {p:Bs} (h:stepW acc p=some a) (hacc:∀q ∈ acc,partB q=true):∀q ∈ a,partB q=true:=by
 unfold stepW at h;split at h
 · cases h;exact hacc
 split at h
 · split at h
   · cases h
   cases h;exact fun q hq=>hacc q (List.dropLast_subset _ hq)
 split at h
 · cases h;rename_i h1 h2 h3;intro q hq;rcases List.mem_append.1 hq with hq|hq
   · exact hacc q hq
   rw[List.mem_singleton.1 hq,Zcd];exact⟨fun e=>h1 (.inl e),h3⟩
 cases h
theorem Zez:∀{l acc a:List Bs},walkL acc l=some a→(∀q ∈ acc,partB q=true)→∀q ∈ a,partB q=true
 |[],acc,a,h,hacc=>by simp[walkL] at h;subst h;exact hacc
 |p::r,acc,a,h,hacc=>by
  rw[walkL] at h
  cases hs:stepW acc p with
  |none=>simp[hs] at h
  |some b=>simp only[hs] at h;exact Zez h (ZiJ hs hacc)
theorem Zj3 {p:Bs} (h:partB p=true):∀c ∈ p,c≠47:=fun c hc=>Zht (List.all_eq_true.1 (Zcd.1 h).2 c hc)
theorem ZeF (s:Bs):((normL s).2=0∧(normL s).1=s)↔Zaf s=true:=by
 constructor
 · rintro⟨h1,h2⟩
   unfold normL at h1 h2
   cases hw:walkL [] (Zai s) with
   |none=>simp[hw] at h1
   |some l=>
    simp only[hw] at h1 h2;by_cases e1:l=[]
    · simp[e1] at h1
    rw[if_neg e1] at h1 h2;by_cases e2:8 < l.length
    · simp[e2] at h1
    rw[if_neg e2] at h1 h2;by_cases e3:64 < (joinS l).length
    · simp[e3] at h1
    rw[if_neg e3] at h1 h2;simp only at h2;have hp:=Zez hw (by simp);have hs:Zai s=l:=by rw[←h2];exact ZcI l e1 (fun p hp'=>Zj3 (hp p hp'))
    unfold Zaf;rw[hs];simp only[Bool.and_eq_true,decide_eq_true_eq,List.all_eq_true];rw[h2] at e3;exact⟨⟨hp,by omega⟩,by omega⟩
 intro h;unfold Zaf at h;simp only[Bool.and_eq_true,decide_eq_true_eq,List.all_eq_true] at h;obtain⟨⟨h1,h2⟩,h3⟩:=h;have hw:=Zdb (Zai s) [] h1;unfold normL;rw[hw];simp only[List.nil_append];rw[if_neg (Zbg s),if_neg (by omega),ZbG,if_neg (by omega)];exact⟨rfl,rfl⟩
theorem Zhn {s:Bs} (h:Zaf s=true):walkL [] (Zai s)=some (Zai s):=by
 unfold Zaf at h;simp only[Bool.and_eq_true,List.all_eq_true] at h;simpa using Zdb (Zai s) [] h.1.1
theorem Zlh (p q:Bs):Zai p <+:Zai q↔p=q∨(p++[47]) <+:q:=by
 constructor
 · rintro⟨r,hr⟩
   cases r with
   |nil=>exact .inl (Zdc (by simpa using hr))
   |cons a b=>
    right
    have e:q=p++47::joinS (a::b):=by
     apply Zdc;rw[Zcc,←hr,ZcI (a::b) (by simp) (fun x hx=>ZdW q x (by rw[←hr];exact List.mem_append_right _ hx))]
    rw[e];exact⟨joinS (a::b),by simp⟩
 rintro(rfl|⟨t,rfl⟩)
 · exact List.prefix_refl _
 rw[show p++[47]++t=p++47::t by simp,Zcc];exact List.prefix_append _ _
theorem ZgZ {p q:Bs}:Zan p q=(Zaf p&&Zaf q&&decide (Zai p <+:Zai q)):=by
 unfold Zan;congr 1
 rw[Bool.eq_iff_iff];simp only[Bool.or_eq_true,decide_eq_true_eq,List.isPrefixOf_iff_prefix];exact(Zlh p q).symm
theorem Zj5 (p q:Bs):overB p q=overB q p:=by unfold overB;exact Bool.or_comm _ _
theorem Zgo {p:Bs} (h:Zaf p=true):overB p p=true:=by simp[overB,Zan,h]
def cmpL:List Bs→List Bs→Int
 |[],[]=>0
 |[],_::_=> -1
 |_::_,[]=>1
 |a::r,b::t=>if compareBytes a b=0 then cmpL r t else compareBytes a b
def cmpP (p q:Bs):Int:=if Zaf p=true∧Zaf q=true then cmpL (Zai p) (Zai q) else compareBytes p q
theorem u8_eq {x y:UInt8} (h1:¬x < y) (h2:¬y < x):x=y:=by
 apply UInt8.toNat_inj.1;have a1:¬x.toNat < y.toNat:=fun q=>h1 (UInt8.lt_iff_toNat_lt.2 q);have a2:¬y.toNat < x.toNat:=fun q=>h2 (UInt8.lt_iff_toNat_lt.2 q);omega
theorem cb_eq:∀{a b:Bs},compareBytes a b=0→a=b
 |[],[],_=>rfl
 |[],_::_,h=>by simp[compareBytes] at h
 |_::_,[],h=>by simp[compareBytes] at h
 |x::a,y::b,h=>by
  rw[compareBytes] at h;by_cases h1:x < y
  · simp[h1] at h
  by_cases h2:y < x
  · simp[h1,h2] at h
  rw[if_neg h1,if_neg h2] at h;have:x=y:=u8_eq h1 h2;rw[this,cb_eq h]
theorem ZhH:∀a:Bs,compareBytes a a=0
 |[]=>rfl
 |x::a=>by
  rw[compareBytes,if_neg (fun q=>by have:=UInt8.lt_iff_toNat_lt.1 q;omega),if_neg (fun q=>by have:=UInt8.lt_iff_toNat_lt.1 q;omega),ZhH a]
theorem ZhJ:∀a b:Bs,compareBytes a b= - compareBytes b a
 |[],[]=>rfl
 |[],_::_=>rfl
 |_::_,[]=>rfl
 |x::a,y::b=>by
  rw[compareBytes,compareBytes,ZhJ a b];by_cases h1:x < y
  · have h2:¬y < x:=fun q=>by have:=UInt8.lt_iff_toNat_lt.1 q;have:=UInt8.lt_iff_toNat_lt.1 h1;omega
    simp[h1,h2]
  by_cases h2:y < x<;>simp[h1,h2]
theorem cb_three (a b:Bs):compareBytes a b= -1∨compareBytes a b=0∨compareBytes a b=1:=by
 induction a generalizing b with
 |nil=>cases b<;>simp[compareBytes]
 |cons x a ih=>
  cases b with
  |nil=>simp[compareBytes]
  |cons y b=>
   rw[compareBytes];split
   · simp
   split
   · simp
   exact ih b
theorem cb_trans:∀{a b c:Bs},compareBytes a b < 0→compareBytes b c < 0→compareBytes a c < 0
 |[],_::_,_::_,_,_=>by simp[compareBytes]
 |[],[],_,h,_=>by simp[compareBytes] at h
 |_::_,[],_,h,_=>by simp[compareBytes] at h
 |_,_::_,[],_,h=>by simp[compareBytes] at h
 |x::a,y::b,z::c,h1,h2=>by
  rw[compareBytes] at h1 h2 ⊢;by_cases q1:x < y
  · by_cases q2:y < z
    · have:x < z:=UInt8.lt_iff_toNat_lt.2 (by have:=UInt8.lt_iff_toNat_lt.1 q1;have:=UInt8.lt_iff_toNat_lt.1 q2;omega)
      simp[this]
    by_cases q3:z < y
    · simp[q2,q3] at h2
    have:y=z:=u8_eq q2 q3
    subst this;simp[q1]
  by_cases q4:y < x
  · simp[q1,q4] at h1
  have:x=y:=u8_eq q1 q4
  subst this;rw[if_neg q1,if_neg q1] at h1;by_cases q2:x < z
  · simp[q2]
  by_cases q3:z < x
  · simp[q2,q3] at h2
  rw[if_neg q2,if_neg q3] at h2 ⊢;exact cb_trans h1 h2
theorem cl_eq:∀{a b:List Bs},cmpL a b=0→a=b
 |[],[],_=>rfl
 |[],_::_,h=>by simp[cmpL] at h
 |_::_,[],h=>by simp[cmpL] at h
 |x::a,y::b,h=>by
  rw[cmpL] at h;by_cases h1:compareBytes x y=0
  · rw[if_pos h1] at h;rw[cb_eq h1,cl_eq h]
  rw[if_neg h1] at h;exact absurd h h1
theorem ZfY:∀a:List Bs,cmpL a a=0
 |[]=>rfl
 |x::a=>by rw[cmpL,if_pos (ZhH x),ZfY a]
theorem Zk2:∀a b:List Bs,cmpL a b= - cmpL b a
 |[],[]=>rfl
 |[],_::_=>rfl
 |_::_,[]=>rfl
 |x::a,y::b=>by
  rw[cmpL,cmpL,Zk2 a b,ZhJ x y];by_cases h:compareBytes y x=0<;>simp[h]
theorem Ziv:∀{a b c:List Bs},cmpL a b < 0→cmpL b c < 0→cmpL a c < 0
 |[],_::_,_::_,_,_=>by simp[cmpL]
 |[],[],_,h,_=>by simp[cmpL] at h
 |_::_,[],_,h,_=>by simp[cmpL] at h
 |_,_::_,[],_,h=>by simp[cmpL] at h
 |x::a,y::b,z::c,h1,h2=>by
  rw[cmpL] at h1 h2 ⊢;by_cases q1:compareBytes x y=0
  · have:=cb_eq q1
    subst this;rw[if_pos q1] at h1;by_cases q2:compareBytes x z=0
    · rw[if_pos q2] at h2 ⊢;exact Ziv h1 h2
    rw[if_neg q2] at h2 ⊢;exact h2
  rw[if_neg q1] at h1;by_cases q2:compareBytes y z=0
  · have:=cb_eq q2
    subst this;rw[if_neg q1];exact h1
  rw[if_neg q2] at h2;have h3:=cb_trans h1 h2;rw[if_neg (by omega)];exact h3
end Path
end
section
section
open Go.RowKit
def Ext (w w':World):Prop:=Below w.heap.size w w'
theorem Ext.refl (w:World):Ext w w:=Below.refl _ _
theorem Ext.size {w w':World} (h:Ext w w'):w.heap.size≤w'.heap.size:=Below.size h
theorem Ext.trans {a b c:World} (h:Ext a b) (k:Ext b c):Ext a c:=Below.trans h (Below.mono k (Below.size h))
theorem Ext.drew {a b:World} (h:Ext a b):Ext a b.drew:=Below.drew h
theorem Ext.alloc {a b:World} (h:Ext a b) (o:Obj):Ext a (b.alloc o):=Below.alloc h (Below.size h) o
theorem Ext.setCell {a b:World} (h:Ext a b) {p:Addr} (hp:a.heap.size≤p.block) (u:Value):Ext a (b.setCell p u):=Below.setCell h hp u
theorem Ext.cell {w w':World} (h:Ext w w') {p:Addr} (hp:p.block < w.heap.size):w'.cell? p=w.cell? p:=Below.cell h hp
theorem Ext.frozen {w w':World} (h:Ext w w') {p:Addr} (hp:p.block < w.heap.size):w'.frozen? p=w.frozen? p:=Below.frozen h hp
theorem Ext.cells {w w':World} (h:Ext w w'):∀b o,b < w.heap.size→w'.cell? ⟨b,o,none⟩=w.cell? ⟨b,o,none⟩:=fun _ _ hb=>h.cell hb
theorem Zon {w:World} {b o:Nat} {v:Value} (h:w.cell? ⟨b,o,none⟩=some v):b < w.heap.size:=by
 by_cases hb:b < w.heap.size
 · exact hb
 have:w.heap[b]? =none:=by simp;omega
 simp[World.cell?,this] at h
theorem Ext.cell_of {w w':World} (h:Ext w w') {b o:Nat} {v:Value} (hc:w.cell? ⟨b,o,none⟩=some v):w'.cell? ⟨b,o,none⟩=some v:=by
 rw[h.cell (Zon hc)];exact hc
structure Exc (S:Nat→Prop) (w w':World):Prop where
 os:w'.os=w.os
 tape:w'.tape=w.tape
 output:w'.output=w.output
 size:w.heap.size≤w'.heap.size
 block:∀k,k < w.heap.size→¬S k→w'.heap[k]? =w.heap[k]?
theorem Exc.refl (S:Nat→Prop) (w:World):Exc S w w:=⟨rfl,rfl,rfl,Nat.le_refl _,fun _ _ _=>rfl⟩
theorem Exc.trans {S:Nat→Prop} {a b c:World} (h:Exc S a b) (k:Exc S b c):Exc S a c:=
 ⟨k.os.trans h.os,k.tape.trans h.tape,k.output.trans h.output,Nat.le_trans h.size k.size,fun i hi hs=>(k.block i (Nat.lt_of_lt_of_le hi h.size) hs).trans (h.block i hi hs)⟩
theorem Exc.mono {S T:Nat→Prop} {a b:World} (h:Exc S a b) (hs:∀k,k < a.heap.size→S k→T k):Exc T a b:=
 ⟨h.os,h.tape,h.output,h.size,fun k hk ht=>h.block k hk (fun s=>ht (hs k hk s))⟩
theorem Ext.exc {a b:World} (h:Ext a b) (S:Nat→Prop):Exc S a b:=⟨Below.os h,Below.tape h,Below.output h,Below.size h,fun k hk _=>Below.block h k hk⟩
theorem Exc.ext {S:Nat→Prop} {a b:World} (h:Exc S a b) (hs:∀k,k < a.heap.size→¬S k):Ext a b:=⟨h.os,h.tape,h.output,h.size,fun k hk=>h.block k hk (hs k hk)⟩
theorem Exc.drew {S:Nat→Prop} {a b:World} (h:Exc S a b):Exc S a b.drew:=⟨h.os,h.tape,h.output,h.size,h.block⟩
theorem Exc.alloc {S:Nat→Prop} {a b:World} (h:Exc S a b) (o:Obj):Exc S a (b.alloc o):=
 h.trans (((Ext.refl b).alloc o).exc S)
theorem Exc.setCell {S:Nat→Prop} {a b:World} (h:Exc S a b) {p:Addr} (hp:S p.block∨a.heap.size≤p.block) (u:Value):Exc S a (b.setCell p u):=
 ⟨h.os,h.tape,h.output,by have:=h.size;simpa [World.setCell] using this,fun k hk hs=>by
   rw[Below.heap_setCell _ _ _ _ (fun e=>by subst e;rcases hp with hp|hp;exact hs hp;omega)];exact h.block k hk hs⟩
theorem Exc.cell {S:Nat→Prop} {w w':World} (h:Exc S w w') {p:Addr} (hp:p.block < w.heap.size) (hs:¬S p.block):w'.cell? p=w.cell? p:=World.cell?_of_block (w:=w) (h.block p.block hp hs)
theorem Zga {w:World} {a:Addr} {v:Value} (h:w.cell? a=some v):a=⟨a.block,a.off,none⟩:=by
 obtain⟨b,o,s⟩:=a
 cases s with
 |none=>rfl
 |some s=>
  unfold World.cell? at h;split at h<;>simp at h
theorem row_at {w:World} {x:Addr} {n:Nat} {f:Nat→Value} (hc:∀i,i < n→w.cell? (x.add i)=some (f i)):∀j,j < n→∃b off,some x=some (⟨b,off,none⟩:Addr)∧w.cell? ⟨b,off + j,none⟩=some (f j):=by
 intro j hj;have h0:=hc 0 (by omega);have hx:x.add 0=x:=by simp[Addr.add]
 rw[hx] at h0;have hs:=Zga h0;refine⟨x.block,x.off,congrArg some hs,?_⟩;have hj':=hc j hj;by_cases h:j=0
 · subst h;rw[hx] at hj';rw[Nat.add_zero,←hs];exact hj'
 simpa [Addr.add,h] using hj'
def Zaa (w:World) (b:Nat) (c:List Value) (T:TypeId):Prop:=w.heap[b]? =some (.cells c.toArray T (0,0))
theorem Zaa.cell {w:World} {b:Nat} {c:List Value} {T:TypeId} (h:Zaa w b c T) (j:Nat):w.cell? ⟨b,j,none⟩=c[j]? :=by
 unfold Zaa at h;simp[World.cell?,h]
theorem Zaa.free {w:World} {b:Nat} {c:List Value} {T:TypeId} (h:Zaa w b c T) (j:Nat):w.frozen? ⟨b,j,none⟩=false:=by
 unfold Zaa at h;simp[World.frozen?,h]
theorem Zaa.lt {w:World} {b:Nat} {c:List Value} {T:TypeId} (h:Zaa w b c T):b < w.heap.size:=by
 unfold Zaa at h;by_cases hb:b < w.heap.size
 · exact hb
 simp[Array.getElem?_eq_none (by omega:w.heap.size≤b)] at h
theorem Zaa.set {w:World} {b:Nat} {c:List Value} {T:TypeId} (h:Zaa w b c T) (j:Nat) (v:Value):Zaa (w.setCell ⟨b,j,none⟩ v) b (c.set j v) T:=by
 unfold Zaa at *
 simp[World.setCell,Array.getElem?_modify,h]
theorem Zaa.same {w w':World} {b:Nat} {c:List Value} {T:TypeId} (h:Zaa w b c T) (e:w'.heap[b]? =w.heap[b]?):Zaa w' b c T:=by unfold Zaa at *;rw[e];exact h
theorem Zaa.ext {w w':World} {b:Nat} {c:List Value} {T:TypeId} (h:Zaa w b c T) (e:Ext w w'):Zaa w' b c T:=h.same (Below.block e b h.lt)
theorem Zaa.exc {S:Nat→Prop} {w w':World} {b:Nat} {c:List Value} {T:TypeId} (h:Zaa w b c T) (e:Exc S w w') (hs:¬S b):Zaa w' b c T:=h.same (e.block b h.lt hs)
theorem Zaa.alloc (w:World) (c:List Value) (T:TypeId):Zaa (w.alloc (.cells c.toArray T)) w.heap.size c T:=by
 show(w.heap.push _)[w.heap.size]? =_
 simp
theorem Zaa.other {w:World} {b:Nat} {c:List Value} {T:TypeId} (h:Zaa w b c T) {p:Addr} (hp:b≠p.block) (v:Value):Zaa (w.setCell p v) b c T:=
 h.same (Below.heap_setCell _ _ _ _ hp)
def setL:List Value→Nat→List Value→List Value
 |c,_,[]=>c
 |c,o,v::vs=>setL (c.set o v) (o + 1) vs
theorem Zaj:∀(vs:List Value) (c:List Value) (o:Nat),(setL c o vs).length=c.length
 |[],_,_=>rfl
 |v::vs,c,o=>by rw[setL,Zaj vs];simp
theorem ZdY:∀(vs:List Value) (c:List Value) (o j:Nat),j < o→(setL c o vs)[j]? =c[j]?
 |[],_,_,_,_=>rfl
 |v::vs,c,o,j,h=>by rw[setL,ZdY vs _ _ _ (by omega),List.getElem?_set_ne (by omega)]
theorem ZjM:∀(vs:List Value) (c:List Value) (o j:Nat),o + vs.length≤c.length→j < vs.length→(setL c o vs)[o + j]? =vs[j]?
 |[],_,_,_,_,h=>by simp at h
 |v::vs,c,o,j,hl,h=>by
  rw[List.length_cons] at hl h;rw[setL]
  cases j with
  |zero=>rw[ZdY vs _ _ _ (by omega)];simp[List.getElem?_set];omega
  |succ j=>rw[show o + (j + 1)=o + 1 + j by omega,ZjM vs _ (o + 1) j (by simp;omega) (by omega)];simp
theorem Zaa.setCells {b:Nat} {T:TypeId}:∀(vs:List Value) (o:Nat) {w:World} {c:List Value},Zaa w b c T→Zaa (w.setCells b o vs) b (setL c o vs) T
 |[],_,_,_,h=>h
 |v::vs,o,w,c,h=>Zaa.setCells vs (o + 1) (h.set o v)
theorem Exc.setCells {S:Nat→Prop} {a:World} {b:Nat} (hb:S b∨a.heap.size≤b):∀(vs:List Value) (o:Nat) (x:World),Exc S a x→Exc S a (x.setCells b o vs)
 |[],_,_,h=>h
 |v::vs,o,_,h=>Exc.setCells hb vs (o + 1) _ (h.setCell (p:=⟨b,o,none⟩) hb v)
end
end
section
section
open Go.RowKit
theorem Ext.drewN {a b:World} (h:Ext a b) (n:Nat):Ext a (b.drewN n):=⟨h.os,h.tape,h.output,h.size,h.block⟩
theorem Exc.drewN {S:Nat→Prop} {a b:World} (h:Exc S a b) (n:Nat):Exc S a (b.drewN n):=⟨h.os,h.tape,h.output,h.size,h.block⟩
theorem Ext.grown {a w w':World} {row:Option Nat} (h:Ext a w) (hg:w.grownBy w' row) (hr:∀k,row=some k→a.heap.size≤k):Ext a w':=Below.grown h hg (Below.size h) hr
theorem Zaa.new {w:World} {c:List Value} {T:TypeId} {b:Nat} (hb:b=w.heap.size):Zaa (w.alloc (.cells c.toArray T)) b c T:=by subst hb;exact Zaa.alloc w c T
end
end
section
section
open Go.RowKit
theorem own_of {w:World} {T:TypeId} {size:Nat} {g n cap:Nat} {c:List Value} (hb:Zaa w g c T) (hl:c.length=cap * size) (hn:n≤cap) (hm:cap≤maxLen):
 w.ownsRow 0 T size (.slice (some ⟨g,0,none⟩) n cap) n (c.take (n * size)):=by
 refine⟨?_,.inr ⟨g,cap,c.toArray,rfl,Nat.zero_le _,hb,hn,hm,by simpa using hl,by simp⟩⟩;rw[List.length_take,hl];have:n * size≤cap * size:=Nat.mul_le_mul_right _ hn
 omega
end
end
section
section
open Go.RowKit
section
variable {P:Program}
theorem Zd0 (w:World) (base:Nat) (t ty e:TypeId) (i:TypeInfo) (size:Nat) (ht:P.underlying t=some (.slice e)) (hi:P.info? e=some i)
 (v:Value) (n:Nat) (xs:List Value) (hown:w.ownsRow base e size v n xs) (c:Nat):
 (Builtin.append_ #[t,t] ty #[v,.slice none 0 c]).run P w=.ok v w:=by
 rcases hown.2 with⟨rfl,rfl⟩|⟨g,cap,cur,rfl,hbg,hg,hnc,hcm,hcs,htake⟩
 · simp[Builtin.append_,run_underlying ht,sizeOf,typeInfo,hi,Builtin.lenOf,Builtin.firstCells]
 simp[Builtin.append_,run_underlying ht,sizeOf,typeInfo,hi,Builtin.lenOf,Builtin.firstCells,hnc,storeCells]
def Reads (w:World) (x:Value) (m:Nat) (news:List Value):Prop:=
 ∃ax c,x=.slice ax m c∧(ax=none→m=0)∧∀j u,news[j]? =some u→∃b off,ax=some ⟨b,off,none⟩∧w.cell? ⟨b,off + j,none⟩=some u
theorem Zcz (w:World) (base:Nat) (t ty e:TypeId) (i:TypeInfo) (z:Value) (size bytes:Nat) (ht:P.underlying t=some (.slice e)) (hi:P.info? e=some i) (hz:i.zero=some z)
 (hsize:i.size=size) (hby:i.bytes=bytes) (hzs:z.cells.size=size) (hsz:0 < size)
 (v:Value) (n:Nat) (xs:List Value) (hown:w.ownsRow base e size v n xs)
 (x:Value) (m:Nat) (news:List Value) (hl:news.length=m * size) (hx:Reads w x m news) (h1:∀u ∈ news,u.oneCell'=true)
 (h63:n + m≤maxLen) (hbytes:(n + m) * bytes≤140737488355328) (hbase:base≤w.heap.size):
 ∃v' w',(Builtin.append_ #[t,t] ty #[v,x]).run P w=.ok v' w'∧w'.ownsRow base e size v' (n + m) (xs++news)∧w.grownBy w' v.ownBlock∧
  (v'.ownBlock=v.ownBlock∨v'.ownBlock=some w.heap.size):=by
 obtain⟨ax,c,rfl,hax,hnews⟩:=hx
 cases ax with
 |none=>
  have hm:m=0:=hax rfl;subst hm;have hn:news=[]:=List.eq_nil_of_length_eq_zero (by simpa using hl);subst hn;exact⟨v,w,Zd0 w base t ty e i size ht hi v n xs hown c,by simpa using hown,⟨rfl,rfl,rfl,Nat.le_refl _,fun _ _ _=>rfl⟩,.inl rfl⟩
 |some ad=>
  obtain⟨v',w',h1,h2,h3,_,h5⟩:=run_append_own_at (P:=P) w base t ty e i z size bytes ht hi hz hsize hby hzs hsz v n xs hown ad m c news hl (fun j u hj=>by
   obtain⟨b',off',e',hc⟩:=hnews j u hj;cases e';rw[Addr.add_lit]
   exact hc) h1 h63 hbytes hbase
  exact⟨v',w',h1,h2,h3,h5⟩
theorem Ze4 (w:World) {o:Oper} {a:Act} {K:Act→World→Prop} {Q:Exit→Act→World→Prop} (s x:Operand) (t:TypeId)
 (ho:o.op=.call {callee:=.builtin .append,args:= #[s,x],argTypes:= #[t,t]})
 (base:Nat) (e:TypeId) (i:TypeInfo) (z:Value) (size bytes:Nat) (ht:P.underlying t=some (.slice e)) (hi:P.info? e=some i) (hz:i.zero=some z)
 (hsize:i.size=size) (hby:i.bytes=bytes) (hzs:z.cells.size=size) (hsz:0 < size)
 (v:Value) (n:Nat) (xs:List Value) (hs:a.eval s=v) (hown:w.ownsRow base e size v n xs)
 (xv:Value) (m:Nat) (news:List Value) (hxv:a.eval x=xv) (hl:news.length=m * size) (hx:Reads w xv m news) (h1:∀u ∈ news,u.oneCell'=true)
 (h63:n + m≤maxLen) (hbytes:(n + m) * bytes≤140737488355328) (hbase:base≤w.heap.size)
 (h:∀v' w',w'.ownsRow base e size v' (n + m) (xs++news)→w.grownBy w' v.ownBlock→(v'.ownBlock=v.ownBlock∨v'.ownBlock=some w.heap.size)→K (a.put o.dst v') w'):o.wp P a w K Q:=by
 obtain⟨v',w',hr,h2,h3,h4⟩:=Zcz (P:=P) w base t o.type e i z size bytes ht hi hz hsize hby hzs hsz v n xs hown xv m news hl hx h1 h63 hbytes hbase;unfold Oper.wp execOp;simp only[ho,resolve,invoke,builtin,Sem.run_bind,Sem.run_pure,Result.andThen_ok,List.map_toArray,List.map_cons,List.map_nil,hs,hxv,hr];exact h v' w' h2 h3 h4
theorem Zda (w:World) {ops:Array Oper} {rest:List Oper} {o:Oper} {a:Act} {Q:Exit→Act→World→Prop} (hgd:o.guard=none) (s x:Operand) (t:TypeId)
 (ho:o.op=.call {callee:=.builtin .append,args:= #[s,x],argTypes:= #[t,t]})
 (base:Nat) (e:TypeId) (i:TypeInfo) (z:Value) (size bytes:Nat) (ht:P.underlying t=some (.slice e)) (hi:P.info? e=some i) (hz:i.zero=some z)
 (hsize:i.size=size) (hby:i.bytes=bytes) (hzs:z.cells.size=size) (hsz:0 < size)
 (v:Value) (n:Nat) (xs:List Value) (hs:a.eval s=v) (hown:w.ownsRow base e size v n xs)
 (xv:Value) (m:Nat) (news:List Value) (hxv:a.eval x=xv) (hl:news.length=m * size) (hx:Reads w xv m news) (h1:∀u ∈ news,u.oneCell'=true)
 (h63:n + m≤maxLen) (hbytes:(n + m) * bytes≤140737488355328) (hbase:base≤w.heap.size)
 (h:∀v' w',w'.ownsRow base e size v' (n + m) (xs++news)→w.grownBy w' v.ownBlock→(v'.ownBlock=v.ownBlock∨v'.ownBlock=some w.heap.size)→wpList P ops Q rest (a.put o.dst v') w'):wpList P ops Q (o::rest) a w:=
 wpList_plain hgd fun _ hK=>Ze4 w s x t ho base e i z size bytes ht hi hz hsize hby hzs hsz v n xs hs hown xv m news hxv hl hx h1 h63 hbytes hbase fun v' w' h2 h3 h4=>hK _ _ (h v' w' h2 h3 h4)
end
theorem ZbF {w:World} {base:Nat} {T:TypeId} {size:Nat} {v:Value} {n:Nat} {xs:List Value} (h:w.ownsRow base T size v n xs):Reads w v n xs:=by
 rcases h.2 with⟨rfl,rfl⟩|⟨g,cap,cur,rfl,_⟩
 · have:xs=[]:=List.eq_nil_of_length_eq_zero (by simpa using h.1)
   subst this;exact⟨none,0,rfl,fun _=>rfl,fun j u hj=>by simp at hj⟩
 refine⟨some ⟨g,0,none⟩,cap,rfl,nofun,fun j u hj=>⟨g,0,rfl,?_⟩⟩
 have:=h.cells (g:=g) rfl j u hj;rw[Addr.add_lit] at this;exact this
theorem Reads.ext {w w':World} {x:Value} {m:Nat} {news:List Value} (h:Reads w x m news) (e:Ext w w'):Reads w' x m news:=by
 obtain⟨ax,c,hx,ha,hn⟩:=h;refine⟨ax,c,hx,ha,fun j u hj=> ?_⟩;obtain⟨b,off,h1,h2⟩:=hn j u hj;exact⟨b,off,h1,e.cell_of h2⟩
theorem Reads.new (w:World) (c:List Value) (T:TypeId) (m cap:Nat):Reads (w.alloc (.cells c.toArray T)) (.slice (some ⟨w.heap.size,0,none⟩) m cap) m c:=by
 refine⟨_,_,rfl,nofun,fun j u hj=>⟨_,0,rfl,?_⟩⟩;rw[Nat.zero_add];exact((Zaa.alloc w c T).cell j).trans hj
theorem Zl3 {w:World} {base b:Nat} {T:TypeId} {size:Nat} {v:Value} {n:Nat} {xs:List Value} (h:w.ownsRow base T size v n xs) (hb:b≤base):w.ownsRow b T size v n xs:=by
 obtain⟨h1,h2|⟨g,cap,cur,hv,hg,r⟩⟩:=h
 · exact⟨h1,.inl h2⟩
 exact⟨h1,.inr ⟨g,cap,cur,hv,Nat.le_trans hb hg,r⟩⟩
theorem own_ge {w:World} {base:Nat} {T:TypeId} {size:Nat} {v:Value} {n:Nat} {xs:List Value} (h:w.ownsRow base T size v n xs) (g:Nat) (hg:v.ownBlock=some g):base≤g:=by
 rcases h.2 with⟨rfl,_⟩|⟨q,cap,cur,rfl,hb,_⟩
 · exact nomatch hg
 cases hg;exact hb
end
end
end Go.Proofs.YtknoefbcmomalaaGreatDoor
section
namespace Go.Proofs.YtknoefbcmomalaaGreatDoor
open Go.RowKit
structure Part where
 holds:World→Prop
 foot:Nat→Prop
 lt:∀w,holds w→∀b,foot b→b < w.heap.size
 stay:∀w w',holds w→(∀b,foot b→w'.heap[b]? =w.heap[b]?)→holds w'
 facts:World→Prop:=fun _=>True
 say:∀w,holds w→facts w:=by intros;trivial
theorem ZaJ {w:World} {b:Nat} {o:Obj} (h:w.heap[b]? =some o):b < w.heap.size:=by
 rcases Nat.lt_or_ge b w.heap.size with q|q
 · exact q
 rw[Array.getElem?_eq_none q] at h;cases h
namespace Part
def cells (b:Nat) (c:List Value) (T:TypeId):Part where
 holds w:=Zaa w b c T
 foot k:=k=b
 lt:=fun _ h _ e=>by subst e;exact h.lt
 stay:=fun _ _ h e=>h.same (e b rfl)
 facts w:=(∀j,w.cell? ⟨b,j,none⟩=c[j]?)∧(∀j,w.frozen? ⟨b,j,none⟩=false)∧b < w.heap.size
 say:=fun _ h=>⟨h.cell,h.free,h.lt⟩
def obj (b:Nat) (o:Obj):Part where
 holds w:=w.heap[b]? =some o
 foot k:=k=b
 lt:=fun _ h _ e=>by subst e;exact ZaJ h
 stay:=fun _ _ h e=>(e b rfl).trans h
def old (W:World):Part where
 holds w:=∀b,b < W.heap.size→w.heap[b]? =W.heap[b]?
 foot k:=k < W.heap.size
 lt:=fun w h b hb=>by
  have:=h b hb;rw[Array.getElem?_eq_getElem hb] at this;exact ZaJ this
 stay:=fun _ _ h e b hb=>(e b hb).trans (h b hb)
def fact (p:Prop):Part where
 holds _:=p
 foot _:=False
 lt:=fun _ _ _ e=>e.elim
 stay:=fun _ _ h _=>h
end Part
def Facts:List Part→World→Prop
 |[],_=>True
 |A::L,w=>A.facts w∧Facts L w
theorem ZgF (w:World):Facts [] w=True:=rfl
theorem ZeX (A:Part) (L:List Part) (w:World):Facts (A::L) w=(A.facts w∧Facts L w):=rfl
theorem Zee (b:Nat) (c:List Value) (T:TypeId) (w:World):(Part.cells b c T).facts w=((∀j,w.cell? ⟨b,j,none⟩=c[j]?)∧(∀j,w.frozen? ⟨b,j,none⟩=false)∧b < w.heap.size):=rfl
theorem ZgD (W w:World):(Part.old W).facts w=True:=rfl
theorem ZeW (p:Prop) (w:World):(Part.fact p).facts w=True:=rfl
theorem ZgE (b:Nat) (o:Obj) (w:World):(Part.obj b o).facts w=True:=rfl
def Sep:List Part→World→Prop
 |[],_=>True
 |A::L,w=>A.holds w∧Sep L w∧∀B ∈ L,∀b,A.foot b→¬B.foot b
namespace Sep
theorem get:∀{L:List Part} {w:World},Sep L w→∀{A:Part},A ∈ L→A.holds w
 |B::L,w,h,A,hA=>by
  rcases List.mem_cons.1 hA with rfl|hA
  · exact h.1
  exact get h.2.1 hA
theorem at_ {L:List Part} {w:World} (h:Sep L w) (i:Nat) {A:Part} (hA:L[i]? =some A):A.holds w:=h.get (List.mem_of_getElem? hA)
theorem apart:∀{L:List Part} {w:World},Sep L w→∀(i j:Nat) {A B:Part},L[i]? =some A→L[j]? =some B→i≠j→∀b,A.foot b→¬B.foot b
 |C::L,w,h,0,0,A,B,_,_,hne=>absurd rfl hne
 |C::L,w,h,0,j + 1,A,B,hA,hB,_=>by
  simp at hA hB;subst hA
  exact h.2.2 B (List.mem_of_getElem? hB)
 |C::L,w,h,i + 1,0,A,B,hA,hB,_=>by
  simp at hA hB;subst hB
  exact fun b ha hb=>h.2.2 A (List.mem_of_getElem? hA) b hb ha
 |C::L,w,h,i + 1,j + 1,A,B,hA,hB,hne=>by
  simp at hA hB
  exact apart h.2.1 i j hA hB (by omega)
theorem same:∀{L:List Part} {w w':World},Sep L w→(∀b:Nat,(∃A ∈ L,A.foot b)→w'.heap[b]? =w.heap[b]?)→Sep L w'
 |[],_,_,_,_=>trivial
 |A::L,w,w',h,e=>⟨A.stay w w' h.1 (fun b hb=>e b ⟨A,by simp,hb⟩),same h.2.1 (fun b ⟨B,hB,hb⟩=>e b ⟨B,by simp[hB],hb⟩),h.2.2⟩
theorem lt {L:List Part} {w:World} (h:Sep L w) {A:Part} (hA:A ∈ L) {b:Nat} (hb:A.foot b):b < w.heap.size:=A.lt w (h.get hA) b hb
theorem sub:∀{L L':List Part} {w:World},Sep L w→L'.Sublist L→Sep L' w
 |_,_,_,_,.slnil=>trivial
 |_,_,_,h,.cons _ s=>sub h.2.1 s
 |_,_,_,h,.cons_cons _ s=>⟨h.1,sub h.2.1 s,fun B hB=>h.2.2 B (s.subset hB)⟩
theorem perm {L L':List Part} (p:L.Perm L') {w:World}:Sep L w→Sep L' w:=by
 induction p with
 |nil=>exact fun h=>h
 |cons A p ih=>exact fun h=>⟨h.1,ih h.2.1,fun B hB=>h.2.2 B (p.mem_iff.2 hB)⟩
 |swap A B L=>exact fun h=>⟨h.2.1.1,⟨h.1,h.2.1.2.1,fun C hC=>h.2.2 C (by simp[hC])⟩,fun C hC b ha hc=>by
  rcases List.mem_cons.1 hC with rfl|hC
  · exact h.2.2 A (by simp) b hc ha
  exact h.2.1.2.2 C hC b ha hc⟩
 |trans _ _ i j=>exact fun h=>j (i h)
theorem facts:∀{L:List Part} {w:World},Sep L w→Facts L w
 |[],_,_=>trivial
 |A::L,w,h=>⟨A.say w h.1,facts h.2.1⟩
theorem turn:∀{L:List Part} {w w':World},Sep L w→∀(i:Nat) {A:Part},L[i]? =some A→∀(A':Part),A'.holds w'→(∀b,A'.foot b→A.foot b∨w.heap.size≤b)→
 (∀b:Nat,b < w.heap.size→¬A.foot b→w'.heap[b]? =w.heap[b]?)→Sep (L.set i A') w'
 |C::L,w,w',h,0,A,hA,A',h',hf,hx=>by
  simp at hA;subst hA
  exact⟨h',same h.2.1 (fun b ⟨B,hB,hb⟩=>hx b (h.2.1.lt hB hb) (fun hc=>h.2.2 B hB b hc hb)),fun B hB b hb hb'=>by
   rcases hf b hb with q|q
   · exact h.2.2 B hB b q hb'
   have:=h.2.1.lt hB hb';omega⟩
 |C::L,w,w',h,i + 1,A,hA,A',h',hf,hx=>by
  simp at hA
  have hC:C.holds w':=C.stay w w' h.1 (fun b hb=>hx b (C.lt w h.1 b hb) (fun ha=>h.2.2 A (List.mem_of_getElem? hA) b hb ha));refine⟨hC,turn h.2.1 i hA A' h' hf hx,fun B hB b hb hb'=> ?_⟩;rcases List.mem_or_eq_of_mem_set hB with hB|hB
  · exact h.2.2 B hB b hb hb'
  subst hB;rcases hf b hb' with q|q
  · exact h.2.2 A (List.mem_of_getElem? hA) b hb q
  have:=C.lt w h.1 b hb;omega
theorem new {L:List Part} {w w':World} (h:Sep L w) (A:Part) (hA:A.holds w') (hf:∀b,A.foot b→w.heap.size≤b) (hx:∀b:Nat,b < w.heap.size→w'.heap[b]? =w.heap[b]?):Sep (A::L) w':=
 ⟨hA,h.same (fun b ⟨B,hB,hb⟩=>hx b (h.lt hB hb)),fun B hB b hb hb'=>by have:=hf b hb;have:=h.lt hB hb';omega⟩
theorem join {A B C:Part} {L:List Part} {w:World} (h:Sep (A::B::L) w) (hC:C.holds w) (hf:∀b,C.foot b→A.foot b∨B.foot b):Sep (C::L) w:=
 ⟨hC,h.2.1.2.1,fun D hD b hb=>by
   rcases hf b hb with q|q
   · exact h.2.2 D (by simp[hD]) b q
   exact h.2.1.2.2 D hD b q⟩
theorem alloc {L:List Part} {w:World} (h:Sep L w) (c:List Value) (T:TypeId):Sep (Part.cells w.heap.size c T::L) (w.alloc (.cells c.toArray T)):=
 h.new _ (Zaa.alloc w c T) (fun b e=>by cases e;exact Nat.le_refl _) (fun b hb=>Below.heap_alloc w _ b hb)
theorem allocObj {L:List Part} {w:World} (h:Sep L w) (o:Obj):Sep (Part.obj w.heap.size o::L) (w.alloc o):=
 h.new _ (heap_alloc_new w o) (fun b e=>by cases e;exact Nat.le_refl _) (fun b hb=>Below.heap_alloc w _ b hb)
theorem store {L:List Part} {w:World} (h:Sep L w) (i:Nat) {b:Nat} {c:List Value} {T:TypeId} (hA:L[i]? =some (Part.cells b c T)) (j:Nat) (v:Value):
 Sep (L.set i (Part.cells b (c.set j v) T)) (w.setCell ⟨b,j,none⟩ v):=by
 have hb:Zaa w b c T:=h.at_ i hA;exact h.turn i hA _ (hb.set j v) (fun _ e=>.inl e) (fun k _ hk=>Below.heap_setCell _ _ _ _ hk)
end Sep
def Part.all (L:List Part):Part where
 holds w:=Sep L w
 foot b:=∃A ∈ L,A.foot b
 lt:=fun _ h _ ⟨_,hA,hb⟩=>h.lt hA hb
 stay:=fun _ _ h e=>h.same e
 facts w:=Facts L w
 say:=fun _ h=>h.facts
theorem Sep.apart2:∀{K F:List Part} {w:World},Sep (K++F) w→Sep K w∧Sep F w∧∀A ∈ K,∀B ∈ F,∀b,A.foot b→¬B.foot b
 |[],_,_,h=>⟨trivial,h,nofun⟩
 |A::K,F,w,h=>by
  obtain⟨i0,i1,i2⟩:=apart2 h.2.1;refine⟨⟨h.1,i0,fun B hB=>h.2.2 B (by simp[hB])⟩,i1,fun C hC B hB b hc hb=> ?_⟩;rcases List.mem_cons.1 hC with rfl|hC
  · exact h.2.2 B (by simp[hB]) b hc hb
  exact i2 C hC B hB b hc hb
theorem Sep.join2:∀{K F:List Part} {w:World},Sep K w→Sep F w→(∀A ∈ K,∀B ∈ F,∀b,A.foot b→¬B.foot b)→Sep (K++F) w
 |[],_,_,_,h,_=>h
 |A::K,F,w,h1,h2,h3=>by
  refine⟨h1.1,join2 h1.2.1 h2 (fun C hC=>h3 C (by simp[hC])),fun B hB=> ?_⟩
  rcases List.mem_append.1 hB with hB|hB
  · exact h1.2.2 B hB
  exact h3 A (by simp) B hB
theorem Sep.unfold {K F:List Part} {w:World} (h:Sep (Part.all K::F) w):Sep (K++F) w:=
 h.1.join2 h.2.1 (fun A hA B hB b ha hb=>h.2.2 B hB b ⟨A,hA,ha⟩ hb)
theorem Sep.fold {K F:List Part} {w:World} (h:Sep (K++F) w):Sep (Part.all K::F) w:=
 ⟨h.apart2.1,h.apart2.2.1,fun B hB b ⟨A,hA,ha⟩ hb=>h.apart2.2.2 A hA B hB b ha hb⟩
inductive Sel (A:Part):List Part→List Part→Prop
 |here {L:List Part}:Sel A (A::L) L
 |there {B:Part} {L L':List Part}:Sel A L L'→Sel A (B::L) (B::L')
theorem Sel.perm {A:Part} {L F:List Part} (s:Sel A L F):L.Perm (A::F):=by
 induction s with
 |here=>exact .refl _
 |there _ ih=>exact(ih.cons _).trans (.swap _ _ _)
theorem Sel.mem {A:Part} {L F:List Part} (s:Sel A L F):A ∈ L:=s.perm.mem_iff.2 (by simp)
def footL (L:List Part) (b:Nat):Prop:=∃A ∈ L,A.foot b
theorem Exc.trans' {S T:Nat→Prop} {a b c:World} (h:Exc S a b) (k:Exc T b c) (hs:∀i,i < b.heap.size→T i→S i∨a.heap.size≤i):Exc S a c:=
 ⟨k.os.trans h.os,k.tape.trans h.tape,k.output.trans h.output,Nat.le_trans h.size k.size,fun i hi hn=>(k.block i (Nat.lt_of_lt_of_le hi h.size) (fun t=>by
   rcases hs i (Nat.lt_of_lt_of_le hi h.size) t with q|q
   · exact hn q
   omega)).trans (h.block i hi hn)⟩
structure At (L0:List Part) (w0:World) (L:List Part) (w:World):Prop where
 sep:Sep L w
 foot:∀b,footL L b→footL L0 b∨w0.heap.size≤b
 exc:Exc (footL L0) w0 w
namespace At
variable {L0:List Part} {w0 w w':World} {L:List Part}
theorem start {w0:World} {L0:List Part} (h:Sep L0 w0):At L0 w0 L0 w0:=⟨h,fun _ h=>.inl h,Exc.refl _ w0⟩
theorem get (h:At L0 w0 L w) {A:Part} {F:List Part} (s:Sel A L F):A.holds w:=h.sep.get s.mem
theorem facts (h:At L0 w0 L w):Facts L w:=h.sep.facts
theorem size (h:At L0 w0 L w):w0.heap.size≤w.heap.size:=h.exc.size
theorem drewN (h:At L0 w0 L w) (n:Nat):At L0 w0 L (w.drewN n):=⟨h.sep.same (fun _ _=>rfl),h.foot,h.exc.drewN n⟩
theorem drew (h:At L0 w0 L w):At L0 w0 L w.drew:=⟨h.sep.same (fun _ _=>rfl),h.foot,h.exc.drew⟩
theorem perm (h:At L0 w0 L w) {L':List Part} (p:L.Perm L'):At L0 w0 L' w:=⟨h.sep.perm p,fun b ⟨A,hA,hb⟩=>h.foot b ⟨A,p.mem_iff.2 hA,hb⟩,h.exc⟩
theorem sub (h:At L0 w0 L w) {L':List Part} (p:L'.Sublist L):At L0 w0 L' w:=⟨h.sep.sub p,fun b ⟨A,hA,hb⟩=>h.foot b ⟨A,p.subset hA,hb⟩,h.exc⟩
theorem drop (h:At L0 w0 L w) {A:Part} {F:List Part} (s:Sel A L F):At L0 w0 F w:=(h.perm s.perm).sub (List.sublist_cons_self _ _)
theorem take (h:At L0 w0 L w) {A:Part} {F:List Part} (s:Sel A L F):At L0 w0 (A::F) w:=h.perm s.perm
theorem ext (h:At L0 w0 L w) (he:Ext w w'):At L0 w0 L w':=⟨h.sep.same (fun b ⟨_,hA,hb⟩=>Below.block he b (h.sep.lt hA hb)),h.foot,h.exc.trans (he.exc _)⟩
theorem new (h:At L0 w0 L w) (he:Ext w w') (A:Part) (hA:A.holds w') (hf:∀b,A.foot b→w.heap.size≤b):At L0 w0 (A::L) w':=
 ⟨h.sep.new A hA hf (fun b hb=>Below.block he b hb),fun b ⟨B,hB,hb⟩=>by
   rcases List.mem_cons.1 hB with rfl|hB
   · exact .inr (Nat.le_trans h.size (hf b hb))
   exact h.foot b ⟨B,hB,hb⟩,h.exc.trans (he.exc _)⟩
theorem alloc (h:At L0 w0 L w) (c:List Value) (T:TypeId):At L0 w0 (Part.cells w.heap.size c T::L) (w.alloc (.cells c.toArray T)):=
 h.new ((Ext.refl w).alloc _) _ (Zaa.alloc w c T) (fun _ e=>by cases e;exact Nat.le_refl _)
theorem allocObj (h:At L0 w0 L w) (o:Obj):At L0 w0 (Part.obj w.heap.size o::L) (w.alloc o):=
 h.new ((Ext.refl w).alloc _) _ (heap_alloc_new w o) (fun _ e=>by cases e;exact Nat.le_refl _)
theorem turn (h:At L0 w0 L w) {A:Part} {F:List Part} (s:Sel A L F) (A':Part) (hA':A'.holds w') (hf:∀b,A'.foot b→A.foot b∨w.heap.size≤b) (hx:Exc A.foot w w'):At L0 w0 (A'::F) w':=by
 have h1:=h.take s;refine⟨h1.sep.turn 0 rfl A' hA' hf (fun b hb hn=>hx.block b hb hn),fun b ⟨B,hB,hb⟩=> ?_,h1.exc.trans' hx (fun b _ hb=>h1.foot b ⟨A,by simp,hb⟩)⟩;rcases List.mem_cons.1 hB with rfl|hB
 · rcases hf b hb with q|q
   · exact h1.foot b ⟨A,by simp,q⟩
   exact .inr (Nat.le_trans h.size q)
 exact h1.foot b ⟨B,by simp[hB],hb⟩
theorem store (h:At L0 w0 L w) {b:Nat} {c:List Value} {T:TypeId} {F:List Part} (s:Sel (Part.cells b c T) L F) (j:Nat) (v:Value):
 At L0 w0 (Part.cells b (c.set j v) T::F) (w.setCell ⟨b,j,none⟩ v):=
 h.turn s _ (Zaa.set (h.get s) j v) (fun _ e=>.inl e) (Exc.setCell (S:=fun k=>k=b) (p:=⟨b,j,none⟩) (Exc.refl _ _) (.inl rfl) v)
theorem stores (h:At L0 w0 L w) {b:Nat} {c:List Value} {T:TypeId} {F:List Part} (s:Sel (Part.cells b c T) L F) (j:Nat) (vs:List Value):
 At L0 w0 (Part.cells b (setL c j vs) T::F) (w.setCells b j vs):=
 h.turn s _ (Zaa.setCells vs j (h.get s)) (fun _ e=>.inl e) (Exc.setCells (S:=fun k=>k=b) (b:=b) (.inl rfl) _ _ _ (Exc.refl _ _))
theorem frame {K K' F:List Part} (h:At L0 w0 (K++F) w) (t:At K w K' w'):At L0 w0 (K'++F) w':=by
 have hK:∀b,footL K b→footL (K++F) b:=fun b ⟨A,hA,hb⟩=>⟨A,by simp[hA],hb⟩
 have apart:∀{K F:List Part} {w:World},Sep (K++F) w→Sep F w∧∀A ∈ K,∀B ∈ F,∀b,A.foot b→¬B.foot b:=by
  intro K
  induction K with
  |nil=>exact fun h=>⟨h,nofun⟩
  |cons A K ih=>
   intro F w h;obtain⟨i1,i2⟩:=ih h.2.1;refine⟨i1,fun C hC B hB b hc hb=> ?_⟩;rcases List.mem_cons.1 hC with rfl|hC
   · exact h.2.2 B (by simp[hB]) b hc hb
   exact i2 C hC B hB b hc hb
 have join:∀{K F:List Part} {w:World},Sep K w→Sep F w→(∀A ∈ K,∀B ∈ F,∀b,A.foot b→¬B.foot b)→Sep (K++F) w:=by
  intro K
  induction K with
  |nil=>exact fun _ h _=>h
  |cons A K ih=>
   intro F w h1 h2 h3;refine⟨h1.1,ih h1.2.1 h2 (fun C hC=>h3 C (by simp[hC])),fun B hB=> ?_⟩;rcases List.mem_append.1 hB with hB|hB
   · exact h1.2.2 B hB
   exact h3 A (by simp) B hB
 obtain⟨hF,hap⟩:=apart h.sep;have hF':Sep F w':=hF.same (fun b ⟨B,hB,hb⟩=>t.exc.block b (hF.lt hB hb) (fun⟨A,hA,ha⟩=>hap A hA B hB b ha hb));refine⟨join t.sep hF' (fun A hA B hB b ha hb=> ?_),fun b ⟨B,hB,hb⟩=> ?_,h.exc.trans' t.exc (fun b _ hb=>h.foot b (hK b hb))⟩
 · rcases t.foot b ⟨A,hA,ha⟩ with⟨C,hC,hc⟩|q
   · exact hap C hC B hB b hc hb
   have:=hF.lt hB hb;omega
 rcases List.mem_append.1 hB with hB|hB
 · rcases t.foot b ⟨B,hB,hb⟩ with q|q
   · exact h.foot b (hK b q)
   exact .inr (Nat.le_trans h.size q)
 exact h.foot b ⟨B,by simp[hB],hb⟩
theorem unfold {K F:List Part} (h:At L0 w0 (Part.all K::F) w):At L0 w0 (K++F) w:=⟨h.sep.unfold,fun b ⟨A,hA,hb⟩=>h.foot b (by
 rcases List.mem_append.1 hA with hA|hA
 · exact⟨_,List.mem_cons_self,A,hA,hb⟩
 exact⟨A,by simp[hA],hb⟩),h.exc⟩
theorem fold {K F:List Part} (h:At L0 w0 (K++F) w):At L0 w0 (Part.all K::F) w:=⟨h.sep.fold,fun b ⟨A,hA,hb⟩=>h.foot b (by
 rcases List.mem_cons.1 hA with rfl|hA
 · obtain⟨B,hB,hb⟩:=hb;exact⟨B,by simp[hB],hb⟩
 exact⟨A,by simp[hA],hb⟩),h.exc⟩
theorem call0 (h:At L0 w0 L w) {K':List Part} (t:At [] w K' w'):At L0 w0 (K'++L) w':=frame (K:=[]) h t
theorem toExt (h:At [] w0 L w):Ext w0 w:=h.exc.ext (fun _ _ ⟨_,hA,_⟩=>by cases hA)
theorem call1 (h:At L0 w0 L w) {A:Part} {F K':List Part} (s:Sel A L F) (t:At [A] w K' w'):At L0 w0 (K'++F) w':=frame (K:=[A]) (h.take s) t
theorem call2 (h:At L0 w0 L w) {A B:Part} {F G K':List Part} (s:Sel A L F) (r:Sel B F G) (t:At [A,B] w K' w'):At L0 w0 (K'++G) w':=
 frame (K:=[A,B]) (h.perm (s.perm.trans (r.perm.cons A))) t
theorem sep1 (h:At L0 w0 L w) {A:Part} {F:List Part} (s:Sel A L F):Sep [A] w:=(h.take s).sep.sub (by simp)
theorem sep2 (h:At L0 w0 L w) {A B:Part} {F G:List Part} (s:Sel A L F) (r:Sel B F G):Sep [A,B] w:=(h.perm (s.perm.trans (r.perm.cons A))).sep.sub (by simp)
theorem only1 (h:At L0 w0 L w) {A:Part} {F:List Part} (s:Sel A L F):At L0 w0 [A] w:=(h.perm s.perm).sub (by simp)
theorem only2 (h:At L0 w0 L w) {A B:Part} {F G:List Part} (s:Sel A L F) (r:Sel B F G):At L0 w0 [A,B] w:=(h.perm (s.perm.trans (r.perm.cons A))).sub (by simp)
theorem only3 (h:At L0 w0 L w) {A B C:Part} {F G H:List Part} (s:Sel A L F) (r:Sel B F G) (q:Sel C G H):At L0 w0 [A,B,C] w:=
 (h.perm (s.perm.trans ((r.perm.trans (q.perm.cons B)).cons A))).sub (by simp)
theorem only4 (h:At L0 w0 L w) {A B C D:Part} {F G H I:List Part} (s:Sel A L F) (r:Sel B F G) (q:Sel C G H) (u:Sel D H I):At L0 w0 [A,B,C,D] w:=
 (h.perm (s.perm.trans ((r.perm.trans ((q.perm.trans (u.perm.cons C)).cons B)).cons A))).sub (by simp)
theorem join (h:At L0 w0 L w) {A B C:Part} {F G:List Part} (s:Sel A L F) (r:Sel B F G) (hC:C.holds w) (hf:∀b,C.foot b→A.foot b∨B.foot b):At L0 w0 (C::G) w:=by
 have h1:=h.perm (s.perm.trans (r.perm.cons A));refine⟨h1.sep.join hC hf,fun b ⟨D,hD,hb⟩=> ?_,h1.exc⟩;rcases List.mem_cons.1 hD with rfl|hD
 · rcases hf b hb with q|q
   · exact h1.foot b ⟨A,by simp,q⟩
   exact h1.foot b ⟨B,by simp,q⟩
 exact h1.foot b ⟨D,by simp[hD],hb⟩
end At
structure Eqv (L K:List Part):Prop where
 sep:∀w,Sep L w↔Sep K w
 foot:∀b,footL L b↔footL K b
namespace Eqv
theorem refl (L:List Part):Eqv L L:=⟨fun _=>.rfl,fun _=>.rfl⟩
theorem symm {L K:List Part} (h:Eqv L K):Eqv K L:=⟨fun w=>(h.sep w).symm,fun b=>(h.foot b).symm⟩
theorem trans {L K M:List Part} (h:Eqv L K) (k:Eqv K M):Eqv L M:=⟨fun w=>(h.sep w).trans (k.sep w),fun b=>(h.foot b).trans (k.foot b)⟩
theorem perm {L K:List Part} (p:L.Perm K):Eqv L K:=⟨fun _=>⟨Sep.perm p,Sep.perm p.symm⟩,fun _=>⟨fun⟨A,hA,hb⟩=>⟨A,p.mem_iff.1 hA,hb⟩,fun⟨A,hA,hb⟩=>⟨A,p.mem_iff.2 hA,hb⟩⟩⟩
theorem all (K F:List Part):Eqv (Part.all K::F) (K++F):=⟨fun _=>⟨Sep.unfold,Sep.fold⟩,fun b=>by
 constructor
 · rintro⟨A,hA,hb⟩
   rcases List.mem_cons.1 hA with rfl|hA
   · obtain⟨B,hB,hb⟩:=hb;exact⟨B,by simp[hB],hb⟩
   exact⟨A,by simp[hA],hb⟩
 rintro⟨A,hA,hb⟩
 rcases List.mem_append.1 hA with hA|hA
 · exact⟨_,List.mem_cons_self,A,hA,hb⟩
 exact⟨A,by simp[hA],hb⟩⟩
theorem append {L K:List Part} (h:Eqv L K) (F:List Part):Eqv (L++F) (K++F):=by
 have key:∀{L K:List Part},Eqv L K→∀w,Sep (L++F) w→Sep (K++F) w:=fun {L K} h w q=>by
  obtain⟨a,b,c⟩:=q.apart2;refine((h.sep w).1 a).join2 b (fun A hA B hB k ha hb=> ?_);obtain⟨A',hA',ha'⟩:=(h.foot k).2 ⟨A,hA,ha⟩;exact c A' hA' B hB k ha' hb
 refine⟨fun w=>⟨key h w,key h.symm w⟩,fun b=> ?_⟩
 have f:∀{L K:List Part},Eqv L K→footL (L++F) b→footL (K++F) b:=fun {L K} h ⟨A,hA,hb⟩=>by
  rcases List.mem_append.1 hA with hA|hA
  · obtain⟨B,hB,hb⟩:=(h.foot b).1 ⟨A,hA,hb⟩;exact⟨B,by simp[hB],hb⟩
  exact⟨A,by simp[hA],hb⟩
 exact⟨f h,f h.symm⟩
theorem prepend {L K:List Part} (h:Eqv L K) (F:List Part):Eqv (F++L) (F++K):=(perm List.perm_append_comm).trans ((h.append F).trans (perm List.perm_append_comm))
theorem cons {L K:List Part} (h:Eqv L K) (A:Part):Eqv (A::L) (A::K):=h.prepend [A]
end Eqv
theorem At.eqv {L0 K0 L K:List Part} {w0 w:World} (h:At L0 w0 L w) (e0:Eqv L0 K0) (e:Eqv L K):At K0 w0 K w:=
 ⟨(e.sep w).1 h.sep,fun b hb=>by
   rcases h.foot b ((e.foot b).2 hb) with q|q
   · exact .inl ((e0.foot b).1 q)
   exact .inr q,h.exc.mono (fun b _ hb=>(e0.foot b).1 hb)⟩
theorem At.to {L0 L K:List Part} {w0 w:World} (h:At L0 w0 L w) (e:Eqv L K):At L0 w0 K w:=h.eqv (.refl _) e
theorem At.through {L0 L K F:List Part} {w0 w:World} {P:Program} {f:FuncId} {args:Array Value} {v:Value} (h:At L0 w0 L w) (e:Eqv L (K++F)) (hc:Sep K w→Calls P f args w fun e w'=>e=.returned v∧At K w K w'):
 Calls P f args w fun e w'=>e=.returned v∧At L0 w0 L w':=by
 have h1:=h.to e
 exact(hc h1.sep.apart2.1).mono fun e' w' ⟨he,t⟩=>⟨he,(h1.frame t).to e.symm⟩
theorem uA:(∀(c:List Value) (o:Nat),setL c o []=c)∧(∀(c:List Value) (o:Nat) (v:Value) (vs:List Value),setL c o (v::vs)=setL (c.set o v) (o + 1) vs)∧(∀{α:Type} (x:α) (xs:List α) (v:α),(x::xs).set 0 v=v::xs)∧(∀{α:Type} (x:α) (xs:List α) (n:Nat) (v:α),(x::xs).set (n + 1) v=x::xs.set n v)∧(∀{α:Type} (x:α) (xs ys:List α),(x::xs)++ys=x::(xs++ys))∧(∀{α:Type} (ys:List α),[]++ys=ys):=
 ⟨fun _ _=>rfl,fun _ _ _ _=>rfl,fun _ _ _=>rfl,fun _ _ _ _=>rfl,fun _ _ _=>rfl,fun _=>rfl⟩
theorem eV {α:Type}:(∀(xs:Array α) (i:Nat) (d:α),xs.getD i d=xs[i]?.getD d)∧(∀(l:List α) (i:Nat),l.toArray[i]? =l[i]?)∧(∀(x:α) (xs:List α) (i:Nat),(x::xs)[i + 1]? =xs[i]?)∧(∀(x:α) (xs:List α),(x::xs)[0]? =some x)∧(∀(x d:α),(some x).getD d=x):=
 ⟨fun _ _ _=>Array.getD_eq_getD_getElem?,fun _ _=>List.getElem?_toArray,fun _ _ _=>List.getElem?_cons_succ,fun _ _=>List.getElem?_cons_zero,fun _ _=>rfl⟩
end Go.Proofs.YtknoefbcmomalaaGreatDoor
namespace Go.Proofs.YtknoefbcmomalaaGreatDoor
theorem sZ {A:Part} {L F:List Part} (h:Sel A L F:=by repeat(first|exact Sel.here|apply Sel.there)):Sel A L F:=h
theorem andH {p q:Prop} (h:p) (k:p→q):p∧q:=⟨h,k h⟩
theorem At.ci {L0 L F:List Part} {w0 w:World} {b:Nat} {c:List Value} {T:TypeId} (h:At L0 w0 L w) (s:Sel (Part.cells b c T) L F:=by repeat(first|exact Sel.here|apply Sel.there)):Zaa w b c T:=h.get s
theorem sR {A:Part} {L F:List Part} (h:Sel A L F:=by with_reducible repeat(first|exact Sel.here|apply Sel.there)):Sel A L F:=h
end Go.Proofs.YtknoefbcmomalaaGreatDoor
end
section
namespace Go
section
variable {P:Program} {ops:Array Oper} {md:Region.Mode} {C:World→Prop}
def ZdQ (P:Program) (md:Region.Mode) (ops:Array Oper) (C:World→Prop) (n:Nat) (L:Array Bool→Act→Prop):Nat→Array Bool→Act→Prop
 |0,listed,a=>L listed a
 |f + 1,listed,a=>
  Region.ready md ops listed≠[]∧∀i ∈ Region.ready md ops listed,i < n∧qOp P ops C i (ZdQ P md ops C n L f (listed.setIfInBounds i true)) a
theorem Zcw {n g:Nat} {L:Array Bool→Act→Prop} {Q':Exit→Act→World→Prop} (hL:∀listed a w,C w→L listed a→wpAny P md ops Q' g listed a w):
 ∀(f:Nat) (listed:Array Bool) (a:Act) (w:World),C w→ZdQ P md ops C n L f listed a→wpAny P md ops Q' (f + g) listed a w
 |0,listed,a,w,hw,h=>by rw[Nat.zero_add];exact hL _ _ _ hw h
 |f + 1,listed,a,w,hw,h=>by
  rw[show f + 1 + g=(f + g) + 1 by omega];exact⟨fun h0=>absurd h0 h.1,fun i hi=>wpOp_of_qOp hw (fun a' w' hw' h'=>Zcw hL f _ a' w' hw' h') (h.2 i hi).2⟩
theorem Ze9 {n i:Nat} {oi:Oper} {v:Value} {L:Array Bool→Act→Prop} (hi:ops[i]? =some oi) (hsel:∀(j:Nat) (o:Oper) cs b,ops[j]? =some o→o.op≠.select cs b)
 (hs:Region.sinkB md ops n=true) (hc:Region.chainB md ops n=true) (hn:n < ops.size) (hin:i < n)
 (hdone:∀listed a,L listed a→∀j ∈ Region.ready md ops listed,n≤j):
 ∀(f:Nat) (listed:Array Bool) (a:Act),HeadInv md ops n listed→
  (∀j oj,ops[j]? =some oj→j≠i→listed.getD j true=false→(∀e ∈ oj.after,Region.binds md e=true→e.on≠i)→oi.apart ops oj=true)→
  i ∈ Region.ready md ops listed→YieldsIn P ops C oi v a→
  ZdQ P md ops C n L f (listed.setIfInBounds i true) (a.put oi.dst v)→ZdQ P md ops C n L (f + 1) listed a:=by
 intro f
 induction f with
 |zero=>
  intro listed a inv _ hr hy H;have hun:=(mem_ready.1 hr).1;refine⟨fun h=>(by rw[h] at hr;cases hr),fun j hj=> ?_⟩
  have hjn:j < n:=by
   rcases Nat.lt_or_ge j n with h|h
   · exact h
   exact absurd hj (tail_waits hs hc hn inv _ i rfl hin hun j h)
  refine⟨hjn,?_⟩
  by_cases hji:j=i
  · subst hji;exact hy.qOp hi H
  have:=hdone _ _ H j (ready_mono hj hji)
  omega
 |succ f ih=>
  intro listed a inv hfree hr hy H;have hun:=(mem_ready.1 hr).1;refine⟨fun h=>(by rw[h] at hr;cases hr),fun j hj=> ?_⟩
  have hjn:j < n:=by
   rcases Nat.lt_or_ge j n with h|h
   · exact h
   exact absurd hj (tail_waits hs hc hn inv _ i rfl hin hun j h)
  refine⟨hjn,?_⟩
  by_cases hji:j=i
  · subst hji;exact hy.qOp hi H
  have h1:=(H.2 j (ready_mono hj hji)).2;obtain⟨hjun,oj,hoj,hall⟩:=mem_ready.1 hj
  have hnot:∀e ∈ oj.after,Region.binds md e=true→e.on≠i:=fun e he hb heq=>by
   have h1:=hall e he hb;rw[heq,getD_both hun] at h1;cases h1
  have h2:=qOp_put hoj (hfree j oj hoj hji hjun hnot) (fun cs b=>hsel i oi cs b hi) (fun cs b=>hsel j oj cs b hoj) hy h1
  have hfree':∀k ok,ops[k]? =some ok→k≠i→(listed.setIfInBounds j true).getD k true=false→
   (∀e ∈ ok.after,Region.binds md e=true→e.on≠i)→oi.apart ops ok=true:=fun k ok hk hki hun hno=>by
   refine hfree k ok hk hki ?_ hno;by_cases hjk:j=k
   · subst hjk;exact hjun
   rw[getD_set_ne true hjk] at hun;exact hun
  refine qOp_mono (fun a' h3=>ih (listed.setIfInBounds j true) a' (inv.set hj hjn) hfree' (ready_mono hr (Ne.symm hji)) h3.1 ?_) h2;rw[Array.setIfInBounds_comm _ _ hji];exact h3.2
theorem ZdP {n g:Nat} {Lq:Act→Prop} (hsel:Region.noSelect ops=true) (hs:Region.sinkB md ops n=true) (hc:Region.chainB md ops n=true) (hn:n < ops.size):
 ∀(l:List Oper) (k:Nat) (listed:Array Bool) (a:Act),(∀j,j < l.length→l[j]? =ops[k + j]?)→k + l.length=n→HeadInv md ops n listed→
 Region.lexHead md ops g l.length k listed=true→wpQuiet P ops C Lq l a→
 ZdQ P md ops C n (fun listed' a'=>Region.seqB md ops g n listed'=true∧Lq a') l.length listed a
 |[],k,listed,a,_,hk,_,hB,h=>by
  have:k=n:=by simpa using hk
  subst this;exact⟨by simpa [Region.lexHead] using hB,h⟩
 |o::l,k,listed,a,hl,hk,inv,hB,h=>by
  have h0:ops[k]? =some o:=by simpa using(hl 0 (by simp)).symm
  simp only[List.length_cons,Region.lexHead,Bool.and_eq_true] at hB;obtain⟨⟨hr,hf⟩,hB'⟩:=hB;have hkn:k < n:=by simp only[List.length_cons] at hk;omega
  have hr':k ∈ Region.ready md ops listed:=by simpa using hr
  have hst:qOp P ops C k (wpQuiet P ops C Lq l) a:=by unfold qOp;simp only[h0];exact h
  obtain⟨v,hy,hK⟩:=yieldsIn_of_qOp h0 hst
  exact Ze9 h0 (Region.noSelect_spec hsel) hs hc hn hkn (fun listed' a' hL=>seqB_ready hL.1) l.length listed a inv (Region.free_spec h0 hf) hr' hy
   (ZdP hsel hs hc hn l (k + 1) _ _ (fun j hj=>by have:=hl (j + 1) (by simp;omega);simpa [Nat.add_assoc,Nat.add_comm 1 j] using this) (by simp only[List.length_cons] at hk;omega) (inv.set hr' hkn) hB' hK)
theorem Zar {id:Nat} {Q:Exit→Act→World→Prop} {a:Act} {w:World} {l:List Oper} (n:Nat) (C:World→Prop) (hm:P.follows .mixedOrders=true) (hB:Region.lexTailB .any l.toArray n=true)
 (hC:C w.drew) (h:wpQuiet P l.toArray C (fun a'=>∀w',C w'→wpList P l.toArray Q (l.drop n) a' w') (l.take n) a):(Code.region id l.toArray true).wp P Q a w:=by
 simp only[Region.lexTailB,Bool.and_eq_true,decide_eq_true_eq] at hB;obtain⟨⟨⟨⟨hsel,hn⟩,hs⟩,hc⟩,hlex⟩:=hB;have hn':n < l.length:=by simpa using hn
 have htl:(l.take n).length=n:=by simp;omega
 have hdl:(l.drop n).length=l.toArray.size - n:=by simp
 have inv0:HeadInv .any l.toArray n (Array.replicate l.toArray.size false):=
  ⟨by simp,fun j oj _ hl=>(by rw[getD_replicate_false] at hl;cases hl),fun t _ ht=>getD_in (by simpa using ht) (getD_replicate_false _ _)⟩
 have H:=ZdP (C:=C) (md:=.any) (g:=l.toArray.size - n) hsel hs hc hn (l.take n) 0 _ a (fun j hj=>by
  have hj':j < n:=by rw[htl] at hj;exact hj
  simp[hj']) (by simpa using htl) inv0 (by rw[htl];exact hlex) h
 refine wp_region_any hm ?_
 have:=Zcw (Q':=Q) (g:=l.toArray.size - n) (fun listed a' w' hw' hL=>by
  have:=wpAny_of_seq (md:=.any) (Q':=Q) (l.drop n) n listed a' w' (fun j=>by simp[List.getElem?_drop]) (by rw[hdl];exact hL.1) (hL.2 w' hw')
  rwa [hdl] at this) _ _ _ _ hC H
 rw[htl,show n + (l.toArray.size - n)=l.toArray.size by omega] at this;exact this
theorem Zas {id:Nat} {Q:Exit→Act→World→Prop} {a:Act} {w:World} {l:List Oper} (C:World→Prop) (hm:P.follows .mixedOrders=true) (hB:Region.lexB .any l.toArray=true)
 (hC:C w.drew) (h:wpQuiet P l.toArray C (fun a'=>∀w',C w'→Q .normal a' w') l a):(Code.region id l.toArray true).wp P Q a w:=
 wp_region_quiet (C:=C) hm hB hC (by simpa using h)
end
end Go
end
