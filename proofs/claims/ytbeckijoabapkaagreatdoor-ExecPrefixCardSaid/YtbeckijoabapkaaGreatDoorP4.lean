import Derived.Test.YtbeckijoabapkaaGreatDoorP1
import Derived.Test.YtbeckijoabapkaaGreatDoorChecked
set_option linter.unusedSimpArgs false
set_option linter.unusedVariables false
set_option maxRecDepth 100000
set_option maxHeartbeats 16000000
namespace Go.Proofs.YtbeckijoabapkaaGreatDoor
section
namespace Tar
inductive R (nx:Nat→List Nat):Nat→Nat→Prop
 |refl (a:Nat):R nx a a
 |step {a b c:Nat} (h:b ∈ nx a) (t:R nx b c):R nx a c
theorem R.trans {nx:Nat→List Nat} {a b c:Nat} (h:R nx a b) (k:R nx b c):R nx a c:=by
 induction h with
 |refl _=>exact k
 |step e _ ih=>exact .step e (ih k)
theorem R.one {nx:Nat→List Nat} {a b:Nat} (h:b ∈ nx a):R nx a b:=.step h (.refl _)
theorem R.lt {nx:Nat→List Nat} {n a b:Nat} (hn:∀x,x < n→∀y ∈ nx x,y < n) (h:R nx a b) (ha:a < n):b < n:=by
 induction h with
 |refl _=>exact ha
 |step e _ ih=>exact ih (hn _ ha _ e)
def up {α:Type} (f:Nat→α) (i:Nat) (v:α):Nat→α:=fun j=>if j=i then v else f j
theorem ZaD {α:Type} (f:Nat→α) (i:Nat) (v:α):up f i v i=v:=if_pos rfl
theorem Zak {α:Type} (f:Nat→α) {i j:Nat} (v:α) (h:j≠i):up f i v j=f j:=if_neg h
structure TS where
 num:Nat→Nat
 low:Nat→Nat
 knot:Nat→Nat
 on:Nat→Bool
 stk:List Nat
 wk:List (Nat × Nat)
 count:Nat
 found:Nat
def TS.start:TS:=⟨fun _=>0,fun _=>0,fun _=>0,fun _=>false,[],[],0,0⟩
def enter (s:TS) (i:Nat):TS:=
 {s with count:=s.count + 1,num:=up s.num i (s.count + 1),low:=up s.low i (s.count + 1),on:=up s.on i true,stk:=i::s.stk,wk:=(i,0)::s.wk}
def popTo (f i:Nat):List Nat→(Nat→Bool)→(Nat→Nat)→List Nat × (Nat→Bool) × (Nat→Nat)
 |[],on,kn=>([],on,kn)
 |x::xs,on,kn=>if x=i then(xs,up on x false,up kn x f) else popTo f i xs (up on x false) (up kn x f)
def close (s:TS) (i:Nat):TS:=
 {s with found:=s.found + 1,stk:=(popTo (s.found + 1) i s.stk s.on s.knot).1,on:=(popTo (s.found + 1) i s.stk s.on s.knot).2.1,knot:=(popTo (s.found + 1) i s.stk s.on s.knot).2.2}
def leave (s:TS) (v:Nat):List (Nat × Nat)→TS
 |[]=>{s with wk:=[]}
 |(u,b)::w=>{s with wk:=(u,b)::w,low:=up s.low u (min (s.low u) (s.low v))}
theorem Zfs (s:TS) (v u b:Nat) (w:List (Nat × Nat)):leave s v ((u,b)::w)={s with wk:=(u,b)::w,low:=up s.low u (min (s.low u) (s.low v))}:=rfl
def step (nx:Nat→List Nat) (s:TS):TS:=match s.wk with
 |[]=>s
 |(v,a)::w=>match(nx v)[a]? with
  |some to=>
   if s.num to=0 then enter {s with wk:=(v,a + 1)::w} to
   else if s.on to then {s with wk:=(v,a + 1)::w,low:=up s.low v (min (s.low v) (s.num to))}
   else {s with wk:=(v,a + 1)::w}
  |none=>if(leave s v w).low v=s.num v then close (leave s v w) v else leave s v w
inductive Seg (nx:Nat→List Nat) (num low:Nat→Nat) (on:Nat→Bool):List Nat→List (Nat × Nat)→Prop
 |nil:Seg nx num low on [] []
 |cons {B:List Nat} {v a:Nat} {rest:List Nat} {w:List (Nat × Nat)} (h:Seg nx num low on rest w)
  (hB:∀x ∈ B,R nx x v∧R nx v x)
  (ha:a≤(nx v).length)
  (hbl:∀x ∈ B,∀y ∈ nx x,num y≠0∧(on y=true→low v≤num y))
  (hgr:∀j,j < a→∀y,(nx v)[j]? =some y→num y≠0∧(on y=true→low v≤num y))
  (hlo:∃y ∈ v::rest,num y=low v∧R nx v y)
  (hli:∀u b w',w=(u,b)::w'→v ∈ nx u):Seg nx num low on (B++v::rest) ((v,a)::w)
theorem Seg.change {nx:Nat→List Nat} {num low num' low':Nat→Nat} {on on':Nat→Bool} {st:List Nat} {w:List (Nat × Nat)} (h:Seg nx num low on st w)
 (h1:∀v ∈ st,low' v=low v∧num' v=num v) (h2:∀y,num y≠0→num' y=num y∧(on' y=true→on y=true)):Seg nx num' low' on' st w:=by
 induction h with
 |nil=>exact .nil
 |@cons B v a rest w h hB ha hbl hgr hlo hli ih=>
  have hv:=h1 v (by simp)
  have key:∀y,num y≠0∧(on y=true→low v≤num y)→num' y≠0∧(on' y=true→low' v≤num' y):=fun y hy=>by
   have:=h2 y hy.1;refine⟨by rw[this.1];exact hy.1,fun ho=> ?_⟩;rw[hv.1,this.1];exact hy.2 (this.2 ho)
  refine .cons (ih fun x hx=>h1 x (by simp[hx])) hB ha (fun x hx y hy=>key y (hbl x hx y hy)) (fun j hj y hy=>key y (hgr j hj y hy)) ?_ hli;obtain⟨y,hy,e,r⟩:=hlo;refine⟨y,hy,?_,r⟩;rw[hv.1,(h1 y (List.mem_append_right _ hy)).2,e]
theorem Seg.top {nx:Nat→List Nat} {num low:Nat→Nat} {on:Nat→Bool} {st:List Nat} {w:List (Nat × Nat)} (h:Seg nx num low on st w):
 ∀v a w',w=(v,a)::w'→v ∈ st∧∀x ∈ st,R nx x v:=by
 induction h with
 |nil=>intro v a w' e;cases e
 |@cons B v a rest w h hB ha hbl hgr hlo hli ih=>
  intro v' a' w' e;cases e;refine⟨by simp,fun x hx=> ?_⟩;rcases List.mem_append.1 hx with hx|hx
  · exact(hB x hx).1
  rcases List.mem_cons.1 hx with rfl|hx
  · exact .refl _
  cases w with
  |nil=>cases h;cases hx
  |cons p w2=>
   obtain⟨u,b⟩:=p;exact((ih u b w2 rfl).2 x hx).trans (.one (hli u b w2 rfl))
theorem Seg.sub {nx:Nat→List Nat} {num low:Nat→Nat} {on:Nat→Bool} {st:List Nat} {w:List (Nat × Nat)} (h:Seg nx num low on st w):∀p ∈ w,p.1 ∈ st∧p.2≤(nx p.1).length:=by
 induction h with
 |nil=>nofun
 |@cons B v a rest w h hB ha hbl hgr hlo hli ih=>
  intro p hp;rcases List.mem_cons.1 hp with rfl|hp
  · exact⟨by simp,ha⟩
  exact⟨by simp[(ih p hp).1],(ih p hp).2⟩
structure Inv (nx:Nat→List Nat) (n:Nat) (s:TS):Prop where
 sorted:s.stk.Pairwise (fun x y=>s.num y < s.num x)
 seg:Seg nx s.num s.low s.on s.stk s.wk
 onI:∀x,s.on x=true↔x ∈ s.stk
 stI:∀x ∈ s.stk,x < n∧s.num x≠0∧s.knot x=0
 cnt:∀x,s.num x≤s.count
 white:∀x,s.num x=0→s.knot x=0
 done:∀x,x < n→s.num x≠0→s.on x=false→s.knot x≠0
 kf:∀x,s.knot x≤s.found
 kn:∀x,s.knot x≠0→x < n
 edge:∀x,s.knot x≠0→∀y ∈ nx x,s.knot y≠0∧s.knot y≤s.knot x
 same:∀x y,s.knot x≠0→s.knot x=s.knot y→R nx x y
 stl:s.stk.length≤s.count
 wkl:s.wk.length≤s.count
theorem Zg6 (nx:Nat→List Nat) (n:Nat):Inv nx n TS.start where
 sorted:=.nil
 seg:=.nil
 onI x:=by simp[TS.start]
 stI:=nofun
 cnt _:=Nat.le_refl _
 white _ _:=rfl
 done x _ h:=absurd rfl h
 kf _:=Nat.le_refl _
 kn x h:=absurd rfl h
 edge x h:=absurd rfl h
 same x y h:=absurd rfl h
 stl:=Nat.le_refl _
 wkl:=Nat.le_refl _
section
variable {nx:Nat→List Nat} {n:Nat} {s:TS}
theorem ZeR (hi:Inv nx n s) {to:Nat} (ht:to < n) (h0:s.num to=0) (hli:∀u b w',s.wk=(u,b)::w'→to ∈ nx u):Inv nx n (enter s to):=by
 have hnot:to ∉ s.stk:=fun h=>(hi.stI to h).2.1 h0;have hne:∀x ∈ s.stk,x≠to:=fun x hx e=>hnot (e ▸ hx);have hne2:∀y,s.num y≠0→y≠to:=fun y hy e=>hy (e ▸ h0);constructor
 · refine List.pairwise_cons.2 ⟨fun y hy=> ?_,?_⟩
   · show up s.num to _ y < up s.num to _ to;rw[ZaD,Zak _ _ (hne y hy)];have:=hi.cnt y;omega
   refine hi.sorted.imp_of_mem fun {a b} ha hb h=> ?_;show up s.num to _ b < up s.num to _ a;rw[Zak _ _ (hne a ha),Zak _ _ (hne b hb)];exact h
 · refine Seg.cons (B:=[]) (v:=to) (a:=0) (rest:=s.stk) (w:=s.wk) (hi.seg.change ?_ ?_) nofun (Nat.zero_le _) nofun (fun j hj=>absurd hj (by omega)) ?_ hli
   · intro v hv;exact⟨Zak _ _ (hne v hv),Zak _ _ (hne v hv)⟩
   · intro y hy;refine⟨Zak _ _ (hne2 y hy),fun h=> ?_⟩;have h':up s.on to true y=true:=h
     rwa [Zak _ _ (hne2 y hy)] at h'
   refine⟨to,by simp,?_,.refl _⟩
   show up s.num to _ to=up s.low to _ to;rw[ZaD,ZaD]
 · intro x;show up s.on to true x=true↔x ∈ to::s.stk;by_cases hx:x=to
   · subst hx;simp[ZaD]
   rw[Zak _ _ hx,hi.onI];simp[hx]
 · intro x hx;show x < n∧up s.num to _ x≠0∧s.knot x=0;rcases List.mem_cons.1 hx with rfl|hx
   · exact⟨ht,by rw[ZaD];omega,hi.white _ h0⟩
   rw[Zak _ _ (hne x hx)];exact hi.stI x hx
 · intro x;show up s.num to _ x≤s.count + 1;by_cases hx:x=to
   · subst hx;rw[ZaD];exact Nat.le_refl _
   rw[Zak _ _ hx];have:=hi.cnt x;omega
 · intro x hx;have hx':up s.num to (s.count + 1) x=0:=hx;by_cases h:x=to
   · subst h;exact hi.white _ h0
   rw[Zak _ _ h] at hx';exact hi.white x hx'
 · intro x hxn hx ho;have hx':up s.num to (s.count + 1) x≠0:=hx;have ho':up s.on to true x=false:=ho;by_cases h:x=to
   · subst h;rw[ZaD] at ho';cases ho'
   rw[Zak _ _ h] at hx' ho';exact hi.done x hxn hx' ho'
 · exact hi.kf
 · exact hi.kn
 · exact hi.edge
 · exact hi.same
 · have:=hi.stl;show(to::s.stk).length≤s.count + 1;simp;omega
 have:=hi.wkl;show((to,0)::s.wk).length≤s.count + 1;simp;omega
theorem Zfk (f i:Nat):∀(B:List Nat) (rest:List Nat) (on:Nat→Bool) (kn:Nat→Nat),i ∉ B→
 (popTo f i (B++i::rest) on kn).1=rest∧(∀x,(popTo f i (B++i::rest) on kn).2.1 x=if x ∈ B∨x=i then false else on x)∧
  (∀x,(popTo f i (B++i::rest) on kn).2.2 x=if x ∈ B∨x=i then f else kn x)
 |[],rest,on,kn,_=>by
  exact⟨by simp[popTo],fun x=>by simp[popTo,up],fun x=>by simp[popTo,up]⟩
 |b::B,rest,on,kn,h=>by
  have hb:b≠i:=fun e=>h (by simp[e]);have ih:=Zfk f i B rest (up on b false) (up kn b f) (fun q=>h (by simp[q]));simp only[List.cons_append,popTo,if_neg hb];refine⟨ih.1,fun x=> ?_,fun x=> ?_⟩
  · rw[ih.2.1 x];by_cases hx:x ∈ B∨x=i
    · rw[if_pos hx,if_pos (by rcases hx with q|q<;>simp[q])]
    rw[if_neg hx];by_cases hxb:x=b
    · subst hxb;simp[up]
    rw[Zak _ _ hxb,if_neg (by
     simp only[List.mem_cons];rintro((q|q)|q)
     · exact hxb q
     · exact hx (.inl q)
     exact hx (.inr q))]
  rw[ih.2.2 x];by_cases hx:x ∈ B∨x=i
  · rw[if_pos hx,if_pos (by rcases hx with q|q<;>simp[q])]
  rw[if_neg hx];by_cases hxb:x=b
  · subst hxb;simp[up]
  rw[Zak _ _ hxb,if_neg (by
   simp only[List.mem_cons];rintro((q|q)|q)
   · exact hxb q
   · exact hx (.inl q)
   exact hx (.inr q))]
theorem ZiQ (hi:Inv nx n s) {v a to:Nat} {w:List (Nat × Nat)} (hw:s.wk=(v,a)::w) (he:(nx v)[a]? =some to) (h0:s.num to≠0) (low':Nat→Nat)
 (hl:low'=s.low∧s.on to=false∨low'=up s.low v (min (s.low v) (s.num to))∧s.on to=true):Inv nx n {s with wk:=(v,a + 1)::w,low:=low'}:=by
 have hsg:=hi.seg;obtain⟨num,low,knot,on,stk,wk,count,found⟩:=s;simp only at *
 subst hw
 cases hsg with
 |@cons B v a rest w h hB ha hbl hgr hlo hli=>
 have hlen:a < (nx v).length:=(List.getElem?_eq_some_iff.1 he).1
 have hnd:v ∉ B∧v ∉ rest:=by
  have h1:=List.pairwise_append.1 hi.sorted;have h2:=List.pairwise_cons.1 h1.2.1;exact⟨fun q=>Nat.lt_irrefl _ (h1.2.2 v q v (by simp)),fun q=>Nat.lt_irrefl _ (h2.1 v q)⟩
 have hle:low' v≤low v:=by
  rcases hl with⟨rfl,_⟩|⟨rfl,_⟩
  · exact Nat.le_refl _
  rw[ZaD];omega
 have hoth:∀x,x≠v→low' x=low x:=fun x hx=>by
  rcases hl with⟨rfl,_⟩|⟨rfl,_⟩
  · rfl
  exact Zak _ _ hx
 have hwk2:=hi.wkl;refine {hi with seg:= ?_,wkl:=by simpa using hwk2};show Seg nx num low' on (B++v::rest) ((v,a + 1)::w);refine Seg.cons (h.change (fun x hx=>⟨hoth x (fun e=>hnd.2 (e ▸ hx)),rfl⟩) (fun y hy=>⟨rfl,id⟩)) hB (by omega) (fun x hx y hy=> ?_) (fun j hj y hy=> ?_) ?_ hli
 · have:=hbl x hx y hy
   exact⟨this.1,fun ho=>Nat.le_trans hle (this.2 ho)⟩
 · by_cases hja:j < a
   · have:=hgr j hja y hy
     exact⟨this.1,fun ho=>Nat.le_trans hle (this.2 ho)⟩
   have hj2:j=a:=by omega
   subst hj2;have:y=to:=Option.some.inj (hy.symm.trans he);subst this;refine⟨h0,fun ho=> ?_⟩;rcases hl with⟨rfl,q⟩|⟨rfl,q⟩
   · rw[q] at ho;cases ho
   rw[ZaD];exact Nat.min_le_right _ _
 rcases hl with⟨rfl,q⟩|⟨rfl,q⟩
 · exact hlo
 rw[ZaD];rcases Nat.lt_or_ge (num to) (low v) with hlt|hge
 · obtain⟨y0,hy0,e0,_⟩:=hlo;refine⟨to,?_,by omega,.one (List.mem_of_getElem? he)⟩;have hst:=(hi.onI to).1 q
   rcases List.mem_append.1 hst with hb|hb
   · exfalso
     have h1:num y0 < num to:=(List.pairwise_append.1 hi.sorted).2.2 to hb y0 hy0;omega
   exact hb
 obtain⟨y0,hy0,e0,r0⟩:=hlo;exact⟨y0,hy0,by omega,r0⟩
theorem Seg.low_num {nx:Nat→List Nat} {num low:Nat→Nat} {on:Nat→Bool} {st:List Nat} {w:List (Nat × Nat)} (h:Seg nx num low on st w):
 ∀v a w',w=(v,a)::w'→∃y,num y=low v:=by
 cases h with
 |nil=>intro v a w' e;cases e
 |cons h hB ha hbl hgr hlo hli=>
  intro v' a' w' e;cases e;obtain⟨y,_,e,_⟩:=hlo;exact⟨y,e⟩
theorem ZmG (hi:Inv nx n s) {t c v a to:Nat} {w:List (Nat × Nat)} (hw:s.wk=(t,c)::(v,a)::w) (he:(nx v)[a]? =some to) (h0:s.num to≠0) (hl:s.low v≤s.num to):
 Inv nx n {s with wk:=(t,c)::(v,a + 1)::w}:=by
 have hsg:=hi.seg;have hlen:a < (nx v).length:=(List.getElem?_eq_some_iff.1 he).1;refine {hi with seg:= ?_,wkl:= ?_}
 · show Seg nx s.num s.low s.on s.stk ((t,c)::(v,a + 1)::w);rw[hw] at hsg;generalize s.stk=st at hsg ⊢
   cases hsg with
   |@cons B _ _ rest _ h hB ha hbl hgr hlo hli=>
   refine Seg.cons ?_ hB ha hbl hgr hlo (fun u b w' e=> ?_)
   · generalize rest=rs at h ⊢
     cases h with
     |@cons B2 _ _ rest2 _ h' hB2 ha2 hbl2 hgr2 hlo2 hli2=>
     refine Seg.cons h' hB2 (by omega) hbl2 (fun j hj y hy=> ?_) hlo2 hli2;by_cases hja:j < a
     · exact hgr2 j hja y hy
     have hj2:j=a:=by omega
     subst hj2;have:y=to:=Option.some.inj (hy.symm.trans he);subst this;exact⟨h0,fun _=>hl⟩
   cases e;exact hli v a w rfl
 have:=hi.wkl
 rw[hw] at this;simpa using this
theorem Zi0 {nx:Nat→List Nat} {v y:Nat} (h:y ∈ nx v):∃j,j < (nx v).length∧(nx v)[j]? =some y:=by
 obtain⟨j,hj,e⟩:=List.mem_iff_getElem.1 h;exact⟨j,hj,by rw[List.getElem?_eq_getElem hj,e]⟩
theorem Zg7 (hn:∀x,x < n→∀y ∈ nx x,y < n) (hi:Inv nx n s) {v a:Nat} {w:List (Nat × Nat)} (hw:s.wk=(v,a)::w) (he:(nx v)[a]? =none) (hl:s.low v=s.num v):
 Inv nx n (close {s with wk:=w} v):=by
 have hsg:=hi.seg;obtain⟨num,low,knot,on,stk,wk,count,found⟩:=s;simp only at *
 subst hw
 cases hsg with
 |@cons B v a rest w h hB ha hbl hgr hlo hli=>
 have hlen:(nx v).length≤a:=List.getElem?_eq_none_iff.1 he;have hso:(B++v::rest).Pairwise (fun x y=>num y < num x):=hi.sorted;have h1:=List.pairwise_append.1 hso;have h2:=List.pairwise_cons.1 h1.2.1;have hvB:v ∉ B:=fun q=>Nat.lt_irrefl _ (h1.2.2 v q v (by simp));have hvr:v ∉ rest:=fun q=>Nat.lt_irrefl _ (h2.1 v q);have hBr:∀x ∈ B,x ∉ rest:=fun x hx q=>Nat.lt_irrefl _ (h1.2.2 x hx x (by simp[q]));obtain⟨p1,p2,p3⟩:=Zfk (found + 1) v B rest on knot hvB;have hC:∀x,(x ∈ B∨x=v)→x ∈ B++v::rest:=fun x hx=>by rcases hx with q|q<;>simp[q]
 have hst:∀x,x ∈ B++v::rest→(x ∈ B∨x=v)∨x ∈ rest:=fun x hx=>by
  rcases List.mem_append.1 hx with q|q
  · exact .inl (.inl q)
  rcases List.mem_cons.1 q with q|q
  · exact .inl (.inr q)
  exact .inr q
 have hrn:∀x ∈ rest,¬(x ∈ B∨x=v):=fun x hx q=>by
  rcases q with q|q
  · exact hBr x q hx
  exact hvr (q ▸ hx)
 have hmut:∀x,(x ∈ B∨x=v)→R nx x v∧R nx v x:=fun x hx=>by
  rcases hx with q|rfl
  · exact hB x q
  exact⟨.refl _,.refl _⟩
 have hed:∀x,(x ∈ B∨x=v)→∀y ∈ nx x,num y≠0∧(on y=true→num v≤num y):=fun x hx y hy=>by
  rcases hx with q|rfl
  · rw[←hl];exact hbl x q y hy
  obtain⟨j,hj,e⟩:=Zi0 hy;rw[←hl];exact hgr j (by omega) y e
 unfold close;simp only[p1];have k0:∀x,(x ∈ B∨x=v)→(popTo (found + 1) v (B++v::rest) on knot).2.2 x=found + 1:=fun x hx=>by rw[p3,if_pos hx]
 have k1:∀x,¬(x ∈ B∨x=v)→(popTo (found + 1) v (B++v::rest) on knot).2.2 x=knot x:=fun x hx=>by rw[p3,if_neg hx]
 have o0:∀x,(x ∈ B∨x=v)→(popTo (found + 1) v (B++v::rest) on knot).2.1 x=false:=fun x hx=>by rw[p2,if_pos hx]
 have o1:∀x,¬(x ∈ B∨x=v)→(popTo (found + 1) v (B++v::rest) on knot).2.1 x=on x:=fun x hx=>by rw[p2,if_neg hx]
 generalize (popTo (found + 1) v (B++v::rest) on knot).2.2=kn' at *
 generalize (popTo (found + 1) v (B++v::rest) on knot).2.1=on' at *
 clear p1 p2 p3;have dec:∀x,(x ∈ B∨x=v)∨¬(x ∈ B∨x=v):=fun x=>Classical.em _;have hkf:∀x,knot x≤found:=hi.kf;have hst':∀x ∈ B++v::rest,x < n∧num x≠0∧knot x=0:=hi.stI;have hcl:∀y,knot y≠0→¬(y ∈ B∨y=v):=fun y hy q=>hy (hi.stI y (hC y q)).2.2;constructor<;>simp only
 · exact h2.2
 · refine h.change (fun x _=>⟨rfl,rfl⟩) (fun y _=>⟨rfl,fun ho=> ?_⟩);rcases dec y with q|q
   · rw[o0 y q] at ho;cases ho
   rwa [o1 y q] at ho
 · intro x;rcases dec x with q|q
   · rw[o0 x q];exact⟨nofun,fun hx=>absurd q (hrn x hx)⟩
   rw[o1 x q,hi.onI];exact⟨fun hx=>(hst x hx).resolve_left q,fun hx=>by simp[hx]⟩
 · intro x hx;have:=hi.stI x (by simp[hx]);rw[k1 x (hrn x hx)];exact this
 · exact hi.cnt
 · intro x hx;rcases dec x with q|q
   · exact absurd hx (hi.stI x (hC x q)).2.1
   rw[k1 x q];exact hi.white x hx
 · intro x hxn hx ho;rcases dec x with q|q
   · rw[k0 x q];omega
   rw[o1 x q] at ho;rw[k1 x q];exact hi.done x hxn hx ho
 · intro x;rcases dec x with q|q
   · rw[k0 x q];exact Nat.le_refl _
   rw[k1 x q];have:=hkf x;omega
 · intro x hx;rcases dec x with q|q
   · exact(hi.stI x (hC x q)).1
   rw[k1 x q] at hx;exact hi.kn x hx
 · intro x hx y hy;rcases dec x with q|q
   · have hy1:=hed x q y hy;rw[k0 x q];rcases dec y with r|r
     · rw[k0 y r];omega
     rw[k1 y r]
     have hno:on y=false:=by
      cases ho:on y with
      |false=>rfl
      |true=>
       exfalso
       have:=(hst y ((hi.onI y).1 ho)).resolve_left r;have h3:=h2.1 y this;have h4:=hy1.2 ho
       omega
     have:=hkf y;exact⟨hi.done y (hn x (hi.stI x (hC x q)).1 y hy) hy1.1 hno,by omega⟩
   rw[k1 x q] at hx ⊢;have:=hi.edge x hx y hy;rw[k1 y (hcl y this.1)];exact this
 · intro x y hx he;rcases dec x with q|q
   · rcases dec y with r|r
     · exact(hmut x q).1.trans (hmut y r).2
     rw[k0 x q,k1 y r] at he;have:=hkf y
     omega
   rw[k1 x q] at hx he;rcases dec y with r|r
   · rw[k0 y r] at he;have:=hkf x
     omega
   rw[k1 y r] at he;exact hi.same x y hx he
 · have:=hi.stl;simp at this;omega
 have:=hi.wkl;simp at this;omega
theorem Zk0 (hn:∀x,x < n→∀y ∈ nx x,y < n) (hi:Inv nx n s) {v a:Nat} {w:List (Nat × Nat)} (hw:s.wk=(v,a)::w) (he:(nx v)[a]? =none):
 Inv nx n (if(leave s v w).low v=s.num v then close (leave s v w) v else leave s v w):=by
 have hlen:(nx v).length≤a:=List.getElem?_eq_none_iff.1 he;have hsg:=hi.seg;rw[hw] at hsg;generalize hstk:s.stk=st at hsg
 cases hsg with
 |@cons B v a rest w h hB ha hbl hgr hlo hli=>
 have hso:=hi.sorted;rw[hstk] at hso;have h1:=List.pairwise_append.1 hso;have h2:=List.pairwise_cons.1 h1.2.1;obtain⟨y0,hy0,e0,r0⟩:=hlo
 cases w with
 |nil=>
  cases h;have:y0=v:=by simpa using hy0
  subst this;unfold leave;rw[if_pos e0.symm];exact Zg7 hn hi hw he e0.symm
 |cons p w2=>
  obtain⟨u,b⟩:=p;have htop:=h.top u b w2 rfl;have huv:u≠v:=fun e=>Nat.lt_irrefl _ (h2.1 v (e ▸ htop.1));have hlv:(leave s v ((u,b)::w2)).low v=s.low v:=Zak _ _ (fun e=>huv e.symm);have hdec:rest=rest:=rfl;generalize hrest:rest=rs at h
  cases h with
  |@cons B2 u b rest2 w2 h' hB2 ha2 hbl2 hgr2 hlo2 hli2=>
  have h3:=h2.2;rw[hrest] at h3;have h4:=List.pairwise_append.1 h3;have h5:=List.pairwise_cons.1 h4.2.1;obtain⟨y2,hy2,e2,r2⟩:=hlo2
  have hlu:s.low u≤s.num u:=by
   rcases List.mem_cons.1 hy2 with rfl|q
   · omega
   have:=h5.1 y2 q;omega
  have hur:u ∈ rest:=htop.1;have hnu:s.num u < s.num v:=h2.1 u hur;rw[hlv];split
  · rename_i hl
    have hsame:leave s v ((u,b)::w2)={s with wk:=(u,b)::w2}:=by
     rw[Zfs]
     have:up s.low u (min (s.low u) (s.low v))=s.low:=by
      funext x
      unfold up;split
      · rename_i q;subst q;omega
      rfl
     rw[this]
    rw[hsame];exact Zg7 hn hi hw he hl
  rename_i hl
  have hy0r:y0 ∈ rest:=by
   rcases List.mem_cons.1 hy0 with rfl|q
   · exact absurd e0.symm hl
   exact q
  have hvu:R nx v u:=r0.trans (htop.2 y0 hy0r);have huv1:R nx u v:=.one (hli u b w2 rfl);rw[Zfs];refine {hi with seg:= ?_,wkl:= ?_}
  · show Seg nx s.num (up s.low u (min (s.low u) (s.low v))) s.on s.stk ((u,b)::w2);rw[hstk,hrest,show B++v::(B2++u::rest2)=(B++v::B2)++u::rest2 from by simp];have hu2:u ∉ rest2:=fun q=>Nat.lt_irrefl _ (h5.1 u q);refine Seg.cons (h'.change (fun x hx=>⟨Zak _ _ (fun e=>hu2 (e ▸ hx)),rfl⟩) (fun y hy=>⟨rfl,id⟩)) ?_ ha2 ?_ ?_ ?_ hli2
    · intro x hx;rcases List.mem_append.1 hx with q|q
      · exact⟨(hB x q).1.trans hvu,huv1.trans (hB x q).2⟩
      rcases List.mem_cons.1 q with rfl|q
      · exact⟨hvu,huv1⟩
      exact hB2 x q
    · intro x hx y hy;rw[ZaD];rcases List.mem_append.1 hx with q|q
      · have:=hbl x q y hy
        exact⟨this.1,fun ho=>Nat.le_trans (Nat.min_le_right _ _) (this.2 ho)⟩
      rcases List.mem_cons.1 q with rfl|q
      · obtain⟨j,hj,e⟩:=Zi0 hy;have:=hgr j (by omega) y e;exact⟨this.1,fun ho=>Nat.le_trans (Nat.min_le_right _ _) (this.2 ho)⟩
      have:=hbl2 x q y hy
      exact⟨this.1,fun ho=>Nat.le_trans (Nat.min_le_left _ _) (this.2 ho)⟩
    · intro j hj y hy;rw[ZaD];have:=hgr2 j hj y hy;exact⟨this.1,fun ho=>Nat.le_trans (Nat.min_le_left _ _) (this.2 ho)⟩
    rw[ZaD];rcases Nat.lt_or_ge (s.low v) (s.low u) with hlt|hge
    · refine⟨y0,?_,by omega,huv1.trans r0⟩
      rw[hrest] at hy0r;rcases List.mem_append.1 hy0r with q|q
      · exfalso
        have:=h4.2.2 y0 q u (by simp)
        omega
      exact q
    exact⟨y2,hy2,by omega,r2⟩
  have:=hi.wkl
  rw[hw] at this;simp at this ⊢
  omega
end
def white (nx:Nat→List Nat) (num:Nat→Nat) (n:Nat):Nat:=((List.range n).map fun x=>if num x=0 then(nx x).length + 2 else 0).sum
def left (nx:Nat→List Nat) (wk:List (Nat × Nat)):Nat:=(wk.map fun p=>(nx p.1).length - p.2 + 1).sum
def M (nx:Nat→List Nat) (n:Nat) (s:TS):Nat:=white nx s.num n + left nx s.wk
theorem Zil (nx:Nat→List Nat) (num:Nat→Nat) {i v:Nat} (h0:num i=0) (hv:v≠0):∀{n:Nat},i < n→white nx (up num i v) n + ((nx i).length + 2)=white nx num n
 |n + 1,h=>by
  unfold white;rw[List.range_succ,List.map_append,List.map_append,List.sum_append,List.sum_append];simp only[List.map_cons,List.map_nil,List.sum_cons,List.sum_nil,Nat.add_zero];by_cases hi:i=n
  · subst hi
    have:((List.range i).map fun x=>if up num i v x=0 then(nx x).length + 2 else 0)=((List.range i).map fun x=>if num x=0 then(nx x).length + 2 else 0):=by
     apply List.map_congr_left;intro x hx;rw[Zak _ _ (by have:=List.mem_range.1 hx;omega)]
    rw[this,ZaD,if_neg hv,if_pos h0];omega
  have ih:=Zil nx num h0 hv (n:=n) (by omega);unfold white at ih;rw[Zak _ _ (by omega:n≠i)];omega
theorem ZlO {nx:Nat→List Nat} {n:Nat} {s:TS} {i:Nat} (h:i < n) (h0:s.num i=0):M nx n (enter s i) + 1=M nx n s:=by
 have:=Zil nx s.num h0 (v:=s.count + 1) (by omega) h;unfold M enter left;simp only[List.map_cons,List.sum_cons,Nat.sub_zero]
 omega
structure Went (nx:Nat→List Nat) (n:Nat) (s s':TS):Prop where
 inv:Inv nx n s'
 less:M nx n s' < M nx n s
 most:s'.count + s'.found + M nx n s'≤s.count + s.found + M nx n s
 seen:∀x,s.num x≠0→s'.num x≠0
theorem Zen {nx:Nat→List Nat} {n:Nat} {s:TS} (hn:∀x,x < n→∀y ∈ nx x,y < n) (hi:Inv nx n s) (hw:s.wk≠[]):Went nx n s (step nx s):=by
 unfold step
 cases hwk:s.wk with
 |nil=>exact absurd hwk hw
 |cons p w=>
  obtain⟨v,a⟩:=p;have hvs:=hi.seg.sub (v,a) (by rw[hwk];simp);have hvn:=(hi.stI v hvs.1).1;simp only
  cases he:(nx v)[a]? with
  |some to=>
   have hlen:a < (nx v).length:=(List.getElem?_eq_some_iff.1 he).1;have hton:=hn v hvn to (List.mem_of_getElem? he)
   have hM:∀low',M nx n {s with wk:=(v,a + 1)::w,low:=low'} + 1=M nx n s:=fun low'=>by
    unfold M left;rw[hwk];simp only[List.map_cons,List.sum_cons];omega
   simp only;split
   · rename_i h0;have hin:=List.mem_of_getElem? he;have hvt:v≠to:=fun e=>(hi.stI v hvs.1).2.1 (by rw[e];exact h0);have hi2:=ZeR hi hton h0 (fun u b w' e=>by rw[hwk] at e;cases e;exact hin);obtain⟨y0,ey⟩:=hi.seg.low_num v a w hwk
     have hi3:Inv nx n {enter s to with wk:=(to,0)::(v,a + 1)::w}:=by
      refine ZmG hi2 (a:=a) (to:=to) (by show(to,0)::s.wk=_;rw[hwk]) he ?_ ?_
      · show up s.num to (s.count + 1) to≠0;rw[ZaD];omega
      show up s.low to (s.count + 1) v≤up s.num to (s.count + 1) to;rw[ZaD,Zak _ _ hvt];have:=hi.cnt y0;omega
     have hm:=ZlO (nx:=nx) (n:=n) (s:={s with wk:=(v,a + 1)::w}) hton h0;have hm2:=hM s.low;refine⟨hi3,by omega,?_,fun x hx=> ?_⟩
     · show s.count + 1 + s.found + M nx n (enter {s with wk:=(v,a + 1)::w} to)≤_;omega
     show up s.num to (s.count + 1) x≠0;unfold up;split
     · omega
     exact hx
   rename_i h0;split
   · rename_i ho;have hm:=hM (up s.low v (min (s.low v) (s.num to)));exact⟨ZiQ hi hwk he h0 _ (.inr ⟨rfl,ho⟩),by omega,by simp only;omega,fun _ h=>h⟩
   rename_i ho;have hm:=hM s.low;exact⟨ZiQ hi hwk he h0 _ (.inl ⟨rfl,by simpa using ho⟩),by omega,by simp only;omega,fun _ h=>h⟩
  |none=>
   simp only;have hinv:=Zk0 hn hi hwk he
   have hM:M nx n (leave s v w) < M nx n s:=by
    unfold M left leave;rw[hwk]
    cases w with
    |nil=>simp only[List.map_cons,List.map_nil,List.sum_cons,List.sum_nil];omega
    |cons q w=>obtain⟨u,b⟩:=q;simp only[List.map_cons,List.sum_cons];omega
   have hcf:(leave s v w).count=s.count∧(leave s v w).found=s.found∧(leave s v w).num=s.num:=by
    unfold leave
    cases w with
    |nil=>exact⟨rfl,rfl,rfl⟩
    |cons q w=>exact⟨rfl,rfl,rfl⟩
   split at hinv
   · rename_i hl;rw[if_pos hl];refine⟨hinv,hM,?_,fun x h=> ?_⟩
     · show(leave s v w).count + ((leave s v w).found + 1) + M nx n (leave s v w)≤_
       rw[hcf.1,hcf.2.1];omega
     show(leave s v w).num x≠0
     rw[hcf.2.2];exact h
   rename_i hl;rw[if_neg hl];refine⟨hinv,hM,?_,fun x h=> ?_⟩
   · rw[hcf.1,hcf.2.1];omega
   rw[hcf.2.2];exact h
end Tar
end
section
namespace Tar
structure Kn (nx:Nat→List Nat) (n:Nat) (kn:Nat→Nat) (found:Nat):Prop where
 hn:∀x,x < n→∀y ∈ nx x,y < n
 pos:∀x,x < n→kn x≠0
 le:∀x,kn x≤found
 edge:∀x,x < n→∀y ∈ nx x,kn y≤kn x
 same:∀x y,x < n→kn x=kn y→R nx x y
theorem ZiM {nx:Nat→List Nat} {n:Nat} {s:TS} (hn:∀x,x < n→∀y ∈ nx x,y < n) (hi:Inv nx n s) (hw:s.wk=[]) (hall:∀x,x < n→s.num x≠0):Kn nx n s.knot s.found:=by
 have hst:s.stk=[]:=by
  have:=hi.seg;rw[hw] at this;generalize s.stk=st at this;cases this
  rfl
 have hp:∀x,x < n→s.knot x≠0:=fun x hx=>hi.done x hx (hall x hx) (by
  cases ho:s.on x with
  |false=>rfl
  |true=>have:=(hi.onI x).1 ho;rw[hst] at this;cases this)
 exact⟨hn,hp,hi.kf,fun x hx y hy=>(hi.edge x (hp x hx) y hy).2,fun x y hx e=>hi.same x y (hp x hx) e⟩
section
variable {nx:Nat→List Nat} {n:Nat} {kn:Nat→Nat} {found:Nat}
theorem Kn.reach (h:Kn nx n kn found) {x y:Nat} (r:R nx x y) (hx:x < n):kn y≤kn x:=by
 induction r with
 |refl _=>exact Nat.le_refl _
 |step e _ ih=>exact Nat.le_trans (ih (h.hn _ hx _ e)) (h.edge _ hx _ e)
theorem Kn.both (h:Kn nx n kn found) {x y:Nat} (hx:x < n) (hy:y < n):kn x=kn y↔R nx x y∧R nx y x:=
 ⟨fun e=>⟨h.same x y hx e,h.same y x hy e.symm⟩,fun⟨a,b⟩=>Nat.le_antisymm (h.reach b hy) (h.reach a hx)⟩
def freeP (nx:Nat→List Nat) (n:Nat) (kn:Nat→Nat) (gone:List Nat) (i:Nat):Bool:=
 !gone.contains (kn i)&&(List.range n).all fun x=> !(kn x==kn i) || (nx x).all fun y=>kn y==kn i || gone.contains (kn y)
def freeD (n:Nat) (t:Nat→Nat→Bool) (come:Nat→Bool) (i:Nat):Bool:=
 !come i&&(List.range n).all fun k=>come k || !t i k || t k i
theorem Zbk {gone:List Nat} {i:Nat}:freeP nx n kn gone i=true↔kn i ∉ gone∧∀x,x < n→kn x=kn i→∀y ∈ nx x,kn y=kn i∨kn y ∈ gone:=by
 unfold freeP;simp only[Bool.and_eq_true,Bool.not_eq_true',List.all_eq_true,List.mem_range,Bool.or_eq_true,beq_iff_eq,beq_eq_false_iff_ne,List.contains_iff_mem,ne_eq];constructor
 · rintro⟨h1,h2⟩
   refine⟨fun q=> ?_,fun x hx e y hy=> ?_⟩
   · rw[List.contains_iff_mem.2 q] at h1;cases h1
   rcases h2 x hx with q|q
   · exact absurd e q
   exact q y hy
 rintro⟨h1,h2⟩
 refine⟨?_,fun x hx=> ?_⟩
 · cases hq:gone.contains (kn i) with
   |false=>rfl
   |true=>exact absurd (List.contains_iff_mem.1 hq) h1
 by_cases e:kn x=kn i
 · exact .inr fun y hy=>h2 x hx e y hy
 exact .inl e
theorem Zlb {t:Nat→Nat→Bool} {come:Nat→Bool} {i:Nat}:freeD n t come i=true↔come i=false∧∀k,k < n→come k=true∨t i k=false∨t k i=true:=by
 unfold freeD;simp only[Bool.and_eq_true,Bool.not_eq_true',List.all_eq_true,List.mem_range,Bool.or_eq_true,or_assoc]
def Shut (nx:Nat→List Nat) (n:Nat) (kn:Nat→Nat) (gone:List Nat):Prop:=∀x,x < n→kn x ∈ gone→∀y ∈ nx x,kn y ∈ gone
theorem Zfj (h:Kn nx n kn found) {gone:List Nat} (hs:Shut nx n kn gone) {x y:Nat} (r:R nx x y) (hx:x < n) (hg:kn x ∈ gone):kn y ∈ gone:=by
 induction r with
 |refl _=>exact hg
 |step e _ ih=>exact ih (h.hn _ hx _ e) (hs _ hx hg _ e)
theorem ZeA (h:Kn nx n kn found) {gone:List Nat} (hs:Shut nx n kn gone) {i:Nat} (hf:freeP nx n kn gone i=true):Shut nx n kn (kn i::gone):=by
 have hf:=Zbk.1 hf;intro x hx hg y hy;rcases List.mem_cons.1 hg with q|q
 · rcases hf.2 x hx q y hy with r|r<;>simp[r]
 simp[hs x hx q y hy]
theorem Zla (h:Kn nx n kn found) {gone:List Nat} (hs:Shut nx n kn gone) {t:Nat→Nat→Bool} {come:Nat→Bool} (ht:∀i k,i < n→k < n→(t i k=true↔R nx i k)) (hc:∀k,k < n→(come k=true↔kn k ∈ gone)) {i:Nat} (hi:i < n):
 freeP nx n kn gone i=freeD n t come i:=by
 rw[Bool.eq_iff_iff,Zbk,Zlb];constructor
 · rintro⟨h1,h2⟩
   have hci:come i=false:=by
    cases q:come i with
    |false=>rfl
    |true=>exact absurd ((hc i hi).1 q) h1
   refine⟨hci,fun k hk=> ?_⟩
   cases htk:t i k with
   |false=>exact .inr (.inl rfl)
   |true=>
    have key:∀{x y:Nat},R nx x y→x < n→kn x=kn i→kn y=kn i∨kn y ∈ gone:=by
     intro x y r
     induction r with
     |refl _=>intro _ e;exact .inl e
     |step e r ih=>
      intro hx ex;have hb:=h.hn _ hx _ e;rcases h2 _ hx ex _ e with q|q
      · exact ih hb q
      exact .inr (Zfj h hs r hb q)
    rcases key ((ht i k hi hk).1 htk) hi rfl with q|q
    · exact .inr (.inr ((ht k i hk hi).2 (h.same k i hk q)))
    exact .inl ((hc k hk).2 q)
 rintro⟨h1,h2⟩
 refine⟨fun q=>(by rw[(hc i hi).2 q] at h1;cases h1),fun x hx e y hy=> ?_⟩;have hyn:=h.hn x hx y hy;have r:R nx i y:=(h.same i x hi e.symm).trans (.one hy)
 rcases h2 y hyn with q|q|q
 · exact .inr ((hc y hyn).1 q)
 · rw[(ht i y hi hyn).2 r] at q;cases q
 exact .inl ((h.both hyn hi).2 ⟨(ht y i hyn hi).1 q,r⟩)
theorem Zk9 (h:Kn nx n kn found) {gone:List Nat} (hs:Shut nx n kn gone) {i:Nat} (hi:i < n) (hg:kn i ∉ gone):∃k,k < n∧freeP nx n kn gone k=true:=by
 suffices H:∀m,∀i,i < n→kn i≤m→kn i ∉ gone→∃k,k < n∧freeP nx n kn gone k=true from H (kn i) i hi (Nat.le_refl _) hg
 intro m
 induction m with
 |zero=>intro i hi hm _;exact absurd (Nat.le_zero.1 hm) (h.pos i hi)
 |succ m ih=>
  intro i hi hm hg;by_cases hq:∃k,k < n∧kn k < kn i∧kn k ∉ gone
  · obtain⟨k,hk,hlt,hkg⟩:=hq;exact ih k hk (by omega) hkg
  refine⟨i,hi,Zbk.2 ⟨hg,fun x hx e y hy=> ?_⟩⟩
  have hyn:=h.hn x hx y hy;have hle:=h.edge x hx y hy;rw[e] at hle;rcases Nat.lt_or_ge (kn y) (kn i) with hlt|hge
  · right
    exact Classical.byContradiction fun q=>hq ⟨y,hyn,hlt,q⟩
  left;omega
def insS (sq:Nat→Int) (x:Nat):List Nat→List Nat
 |[]=>[x]
 |y::l=>if sq y≤sq x then y::insS sq x l else x::y::l
def sortS (sq:Nat→Int) (l:List Nat):List Nat:=l.foldl (fun out x=>insS sq x out) []
def ltS (sq:Nat→Int) (a b:Nat):Prop:=sq a < sq b∨sq a=sq b∧a < b
theorem Zcr (sq:Nat→Int) (x:Nat):∀l,(insS sq x l).Perm (x::l)
 |[]=>.refl _
 |y::l=>by
  unfold insS;split
  · exact((Zcr sq x l).cons y).trans (.swap x y l)
  exact .refl _
theorem ZeS {sq:Nat→Int} {x:Nat}:∀{l},l.Pairwise (ltS sq)→(∀y ∈ l,y < x)→(insS sq x l).Pairwise (ltS sq)
 |[],_,_=>by simp[insS]
 |y::l,h,hx=>by
  have h1:=List.pairwise_cons.1 h;unfold insS;split
  · rename_i q;refine List.pairwise_cons.2 ⟨fun z hz=> ?_,ZeS h1.2 fun z hz=>hx z (by simp[hz])⟩;rcases List.mem_cons.1 ((Zcr sq x l).mem_iff.1 hz) with rfl|hz
    · have:=hx y (by simp)
      unfold ltS;omega
    exact h1.1 z hz
  rename_i q;refine List.pairwise_cons.2 ⟨fun z hz=> ?_,h⟩;rcases List.mem_cons.1 hz with rfl|hz
  · unfold ltS;omega
  have:=h1.1 z hz
  unfold ltS at *;omega
theorem Zex {sq:Nat→Int}:∀(l out:List Nat),l.Pairwise (· < ·)→out.Pairwise (ltS sq)→(∀y ∈ out,∀x ∈ l,y < x)→
 (l.foldl (fun out x=>insS sq x out) out).Pairwise (ltS sq)∧(l.foldl (fun out x=>insS sq x out) out).Perm (out++l)
 |[],out,_,h,_=>⟨h,by simp⟩
 |x::l,out,hl,h,hx=>by
  have h1:=List.pairwise_cons.1 hl
  have ih:=Zex l (insS sq x out) h1.2 (ZeS h fun y hy=>hx y hy x (by simp)) fun y hy z hz=>by
   rcases List.mem_cons.1 ((Zcr sq x out).mem_iff.1 hy) with rfl|hy
   · exact h1.1 z hz
   exact hx y hy z (by simp[hz])
  refine⟨ih.1,ih.2.trans ?_⟩;exact((Zcr sq x out).append_right l).trans (by simpa using List.perm_middle.symm)
theorem Zcy {sq:Nat→Int} {l:List Nat} (h:l.Pairwise (· < ·)):(sortS sq l).Pairwise (ltS sq)∧(sortS sq l).Perm l:=by
 have:=Zex (sq:=sq) l [] h .nil nofun
 simpa [sortS] using this
def knotL (n:Nat) (kn:Nat→Nat) (k:Nat):List Nat:=(List.range n).filter fun x=>kn x==k
theorem ZeQ (n:Nat) (kn:Nat→Nat) (k:Nat):(knotL n kn k).Pairwise (· < ·):=List.Pairwise.filter _ List.pairwise_lt_range
theorem Zdp {k x:Nat}:x ∈ knotL n kn k↔x < n∧kn x=k:=by simp[knotL]
def ordP (nx:Nat→List Nat) (n:Nat) (kn:Nat→Nat) (sq:Nat→Int):Nat→List Nat→List Nat
 |0,_=>[]
 |f + 1,gone=>match(List.range n).find? (freeP nx n kn gone) with
  |none=>[]
  |some i=>sortS sq (knotL n kn (kn i))++ordP nx n kn sq f (kn i::gone)
def ordD (n:Nat) (t:Nat→Nat→Bool) (sq:Nat→Int):Nat→(Nat→Bool)→List Nat
 |0,_=>[]
 |f + 1,come=>match(List.range n).find? (freeD n t come) with
  |none=>[]
  |some i=>sortS sq ((List.range n).filter fun k=>t i k&&t k i)++ordD n t sq f (fun k=>come k || (t i k&&t k i))
theorem ZfE {p q:Nat→Bool}:∀{l:List Nat},(∀x ∈ l,p x=q x)→l.find? p=l.find? q
 |[],_=>rfl
 |x::l,h=>by
  rw[List.find?_cons,List.find?_cons,h x (by simp),ZfE fun y hy=>h y (by simp[hy])]
theorem ZiC (h:Kn nx n kn found) {t:Nat→Nat→Bool} (ht:∀i k,i < n→k < n→(t i k=true↔R nx i k)) (sq:Nat→Int):∀(f:Nat) (gone:List Nat) (come:Nat→Bool),Shut nx n kn gone→(∀k,k < n→(come k=true↔kn k ∈ gone))→
 ordP nx n kn sq f gone=ordD n t sq f come
 |0,_,_,_,_=>rfl
 |f + 1,gone,come,hs,hc=>by
  have he:(List.range n).find? (freeP nx n kn gone)=(List.range n).find? (freeD n t come):=ZfE fun x hx=>Zla h hs ht hc (List.mem_range.1 hx);unfold ordP ordD;rw[←he]
  cases hq:(List.range n).find? (freeP nx n kn gone) with
  |none=>rfl
  |some i=>
   have hi:i < n:=List.mem_range.1 (List.mem_of_find?_eq_some hq);have hf:=List.find?_some hq
   have hk:knotL n kn (kn i)=(List.range n).filter fun k=>t i k&&t k i:=by
    unfold knotL;apply List.filter_congr;intro x hx;have hx:=List.mem_range.1 hx;rw[Bool.eq_iff_iff];simp only[beq_iff_eq,Bool.and_eq_true];rw[ht i x hi hx,ht x i hx hi,h.both hx hi];exact⟨fun⟨a,b⟩=>⟨b,a⟩,fun⟨a,b⟩=>⟨b,a⟩⟩
   simp only[hk];rw[ZiC h ht sq f (kn i::gone) _ (ZeA h hs hf) fun k hk=> ?_];simp only[Bool.or_eq_true,Bool.and_eq_true,List.mem_cons];rw[hc k hk,ht i k hi hk,ht k i hk hi,h.both hk hi];exact⟨fun q=>q.elim .inr fun⟨a,b⟩=>.inl ⟨b,a⟩,fun q=>q.elim (fun⟨a,b⟩=>.inr ⟨b,a⟩) .inl⟩
end
end Tar
end
section
namespace Tar
def T (nx:Nat→List Nat):Nat→Nat→Nat→Prop
 |0,i,k=>i=k∨k ∈ nx i
 |m + 1,i,k=>T nx m i k∨(T nx m i m∧T nx m m k)
section
variable {nx:Nat→List Nat} {n:Nat}
end
end Tar
end
section
namespace Lease
open Go.RowKit
structure Ans where
 e:Int
 n:Int
 g:Bool
def Ans.val (a:Ans):Value:=.agg #[.int .i64 a.e,.int .u64 a.n,.bool a.g]
structure Ses where
 num:Int
 foot:ByteArray
 op:Bool
 dead:Bool
 dl:Int
 ttl:Int
 told:List (Int × Ans)
 blk:Nat
 tm:Nat
def Ses.is (s:Ses) (n:Int) (f:ByteArray):Bool:=decide (s.num=n∧s.foot=f)
def keyV (n:Int) (f:ByteArray):Value:=.agg #[.int .u64 n,.string f]
def Ses.key (s:Ses):Value:=keyV s.num s.foot
def Ses.ptr (s:Ses):Value:=.pointer (some ⟨s.blk,0,none⟩)
def Ses.cells (s:Ses):List Value:=[.bool s.op,.bool s.dead,.int .i64 s.dl,.int .i64 s.ttl,.int .i64 0,.map (some s.tm)]
def ent (s:Ses):Value × Value:=(s.key,s.ptr)
def saidE (p:Int × Ans):Value × Value:=(.int .u64 p.1,p.2.val)
def ents (ss:List Ses):List (Value × Value):=ss.map ent
def saids (l:List (Int × Ans)):List (Value × Value):=l.map saidE
def sesL (s:Ses):List Part:=[Part.cells s.blk s.cells 144,Part.map Tryz.prog 22 s.tm (saids s.told)]
def sesP (s:Ses):Part:=Part.all (sesL s)
def headP (p m:Nat):Part:=Part.cells p [.map (some m)] 113
def mapP (m:Nat) (ss:List Ses):Part:=Part.map Tryz.prog 35 m (ents ss)
def restP (ss:List Ses):Part:=Part.all (ss.map sesP)
def BookP (p m:Nat) (ss:List Ses):Part:=Part.all [headP p m,mapP m ss,restP ss]
abbrev headC (p m:Nat):Part:=Part.cells p [.map (some m)] 113
abbrev mapC (m:Nat) (es:List (Value × Value)):Part:=Part.map Tryz.prog 35 m es
abbrev toldC (m:Nat) (es:List (Value × Value)):Part:=Part.map Tryz.prog 22 m es
abbrev sesC (b:Nat) (c:List Value):Part:=Part.cells b c 144
theorem eqv0 (p m:Nat) (ss:List Ses) (F:List Part):Eqv (BookP p m ss::F) (headC p m::mapC m (ents ss)::restP ss::F):=Eqv.all [headC p m,mapC m (ents ss),restP ss] F
theorem eqvR (l1 l2:List Ses) (s:Ses) (F:List Part):Eqv (restP (l1++s::l2)::F) (sesC s.blk s.cells::toldC s.tm (saids s.told)::restP (l1++l2)::F):=by
 refine(Eqv.all _ F).trans ?_
 have p1:((l1++s::l2).map sesP++F).Perm (sesP s::((l1++l2).map sesP++F)):=by
  simp only[List.map_append,List.map_cons,List.append_assoc,List.cons_append];exact List.perm_middle
 refine(Eqv.perm p1).trans ((Eqv.all (sesL s) _).trans ?_);exact(Eqv.all ((l1++l2).map sesP) F).symm.prepend (sesL s)
theorem eqvR' {ss l1 l2:List Ses} {s:Ses} (e:ss=l1++s::l2) (F:List Part):Eqv (restP ss::F) (sesC s.blk s.cells::toldC s.tm (saids s.told)::restP (l1++l2)::F):=by rw[e];exact eqvR l1 l2 s F
theorem out' {L0 L F:List Part} {w0 w:World} {ss l1 l2:List Ses} {s:Ses} (e:ss=l1++s::l2) (h:At L0 w0 L w) (q:Sel (restP ss) L F):At L0 w0 (sesC s.blk s.cells::toldC s.tm (saids s.told)::restP (l1++l2)::F) w:=(h.take q).to (eqvR' e F)
theorem in' {L0 L F G H:List Part} {w0 w:World} {ss l1 l2:List Ses} {s:Ses} (e:ss=l1++s::l2) (h:At L0 w0 L w) (q1:Sel (sesC s.blk s.cells) L F) (q2:Sel (toldC s.tm (saids s.told)) F G) (q3:Sel (restP (l1++l2)) G H):At L0 w0 (restP ss::H) w:=
 (h.perm (q1.perm.trans ((q2.perm.trans (q3.perm.cons _)).cons _))).to (eqvR' e H).symm
theorem eqv1 (p m:Nat) (l1 l2:List Ses) (s:Ses) (F:List Part):Eqv (BookP p m (l1++s::l2)::F) (sesC s.blk s.cells::toldC s.tm (saids s.told)::restP (l1++l2)::headC p m::mapC m (ents (l1++s::l2))::F):=
 (eqv0 p m _ F).trans ((Eqv.perm ((List.Perm.cons _ (List.Perm.swap _ _ _)).trans (List.Perm.swap _ _ _))).trans (eqvR l1 l2 s _))
theorem begin0 {w:World} {p m:Nat} {ss:List Ses} (h:Sep [BookP p m ss] w):At [BookP p m ss] w [headC p m,mapC m (ents ss),restP ss] w:=(At.start h).to (eqv0 p m ss [])
theorem ZlC {w:World} {p m:Nat} {l1 l2:List Ses} {s:Ses} (h:Sep [BookP p m (l1++s::l2)] w):
 At [BookP p m (l1++s::l2)] w [sesC s.blk s.cells,toldC s.tm (saids s.told),restP (l1++l2),headC p m,mapC m (ents (l1++s::l2))] w:=
 (At.start h).to (eqv1 p m l1 l2 s [])
theorem open1 {L0 L F:List Part} {w0 w:World} {p m:Nat} {l1 l2:List Ses} {s:Ses} (h:At L0 w0 L w) (q:Sel (BookP p m (l1++s::l2)) L F):
 At L0 w0 (sesC s.blk s.cells::toldC s.tm (saids s.told)::restP (l1++l2)::headC p m::mapC m (ents (l1++s::l2))::F) w:=(h.take q).to (eqv1 p m l1 l2 s F)
theorem fold0 {L0 L F G H:List Part} {w0 w:World} {p m:Nat} {ss:List Ses} (h:At L0 w0 L w) (s1:Sel (headC p m) L F) (s2:Sel (mapC m (ents ss)) F G) (s3:Sel (restP ss) G H):At L0 w0 (BookP p m ss::H) w:=
 (h.perm (s1.perm.trans ((s2.perm.trans (s3.perm.cons _)).cons _))).to (eqv0 p m ss H).symm
theorem perm1 {L F G H I J:List Part} {A B C D E:Part} (s1:Sel A L F) (s2:Sel B F G) (s3:Sel C G H) (s4:Sel D H I) (s5:Sel E I J):L.Perm (C::D::E::A::B::J):=
 (s1.perm.trans ((s2.perm.trans ((s3.perm.trans ((s4.perm.trans (s5.perm.cons D)).cons C)).cons B)).cons A)).trans (List.perm_append_comm (l₁:=[A,B]) (l₂:=[C,D,E]) |>.append_right J)
theorem fold1 {L0 L F G H I J:List Part} {w0 w:World} {p m:Nat} {l1 l2:List Ses} {s:Ses} (h:At L0 w0 L w) (s1:Sel (headC p m) L F) (s2:Sel (mapC m (ents (l1++s::l2))) F G)
 (s3:Sel (sesC s.blk s.cells) G H) (s4:Sel (toldC s.tm (saids s.told)) H I) (s5:Sel (restP (l1++l2)) I J):At L0 w0 (BookP p m (l1++s::l2)::J) w:=
 (h.perm (perm1 s1 s2 s3 s4 s5)).to (eqv1 p m l1 l2 s J).symm
theorem ZmR {L0 L F G H I J:List Part} {w0 w:World} {p m:Nat} {ss:List Ses} (s:Ses) (h:At L0 w0 L w) (s1:Sel (headC p m) L F) (s2:Sel (mapC m (ents ss++[(s.key,s.ptr)])) F G)
 (s3:Sel (sesC s.blk s.cells) G H) (s4:Sel (toldC s.tm (saids s.told)) H I) (s5:Sel (restP ss) I J):At L0 w0 (BookP p m (ss++[s])::J) w:=by
 have e:ents ss++[(s.key,s.ptr)]=ents (ss++s::[]):=by simp[ents,ent]
 rw[e] at s2;exact fold1 (l1:=ss) (l2:=[]) h s1 s2 s3 s4 (by rw[List.append_nil];exact s5)
theorem close0 {L0 L F G H:List Part} {w0 w:World} {p m:Nat} {ss:List Ses} (h:At L0 w0 L w) (s1:Sel (headC p m) L F) (s2:Sel (mapC m (ents ss)) F G) (s3:Sel (restP ss) G H):At L0 w0 [BookP p m ss] w:=(fold0 h s1 s2 s3).only1 .here
theorem ZcR {L0 L F G H I J:List Part} {w0 w:World} {p m:Nat} {l1 l2:List Ses} {s:Ses} (h:At L0 w0 L w) (s1:Sel (headC p m) L F) (s2:Sel (mapC m (ents (l1++s::l2))) F G)
 (s3:Sel (sesC s.blk s.cells) G H) (s4:Sel (toldC s.tm (saids s.told)) H I) (s5:Sel (restP (l1++l2)) I J):At L0 w0 [BookP p m (l1++s::l2)] w:=(fold1 h s1 s2 s3 s4 s5).only1 .here
theorem Zhv {L0 L F G H I J:List Part} {w0 w:World} {p m:Nat} {ss:List Ses} (s:Ses) (h:At L0 w0 L w) (s1:Sel (headC p m) L F) (s2:Sel (mapC m (ents ss++[(s.key,s.ptr)])) F G)
 (s3:Sel (sesC s.blk s.cells) G H) (s4:Sel (toldC s.tm (saids s.told)) H I) (s5:Sel (restP ss) I J):At L0 w0 [BookP p m (ss++[s])] w:=(ZmR s h s1 s2 s3 s4 s5).only1 .here
theorem opened {L0 L F G H I J:List Part} {w0 w:World} {p m:Nat} {l1 l2:List Ses} {s:Ses} {f:FuncId} {args:Array Value} {v:Value} (h:At L0 w0 L w) (s1:Sel (headC p m) L F) (s2:Sel (mapC m (ents (l1++s::l2))) F G)
 (s3:Sel (sesC s.blk s.cells) G H) (s4:Sel (toldC s.tm (saids s.told)) H I) (s5:Sel (restP (l1++l2)) I J)
 (hc:Sep [BookP p m (l1++s::l2)] w→Calls Tryz.prog f args w fun e w'=>e=.returned v∧At [BookP p m (l1++s::l2)] w [BookP p m (l1++s::l2)] w'):
 Calls Tryz.prog f args w fun e w'=>e=.returned v∧At L0 w0 L w':=
 At.through h ((Eqv.perm (perm1 s1 s2 s3 s4 s5)).trans (eqv1 p m l1 l2 s J).symm) hc
def find (ss:List Ses) (n:Int) (f:ByteArray):Option Ses:=ss.find? (·.is n f)
theorem find_split {ss:List Ses} {n:Int} {f:ByteArray} {s:Ses} (h:find ss n f=some s):∃l1 l2,ss=l1++s::l2∧s.num=n∧s.foot=f∧∀x ∈ l1,x.is n f=false:=by
 obtain⟨h1,l1,l2,h2,h3⟩:=List.find?_eq_some_iff_append.1 h;have h4:s.num=n∧s.foot=f:=by simpa [Ses.is] using h1
 exact⟨l1,l2,h2,h4.1,h4.2,fun x hx=>by simpa using h3 x hx⟩
theorem find_none {ss:List Ses} {n:Int} {f:ByteArray} (h:find ss n f=none):∀p ∈ ents ss,p.1≠keyV n f:=by
 intro p hp;obtain⟨s,hs,rfl⟩:=List.mem_map.1 hp;have h1:¬s.is n f=true:=List.find?_eq_none.1 h s hs;intro e;apply h1;simp[ent,Ses.key,keyV] at e;simp[Ses.is,e]
theorem find_mem {ss:List Ses} {n:Int} {f:ByteArray} {s:Ses} (h:find ss n f=some s):(keyV n f,s.ptr) ∈ ents ss:=by
 obtain⟨l1,l2,rfl,rfl,rfl,_⟩:=find_split h;simp[ents,ent,Ses.key]
def said (told:List (Int × Ans)) (r:Int):Option Ans:=(told.find? (·.1=r)).map (·.2)
theorem ZgK {told:List (Int × Ans)} {r:Int} (h:said told r=none):∀p ∈ saids told,p.1≠.int .u64 r:=by
 intro p hp;obtain⟨s,hs,rfl⟩:=List.mem_map.1 hp;unfold said at h;simp at h
 intro e;simp[saidE] at e;exact h s.1 s.2 hs e
theorem Zmc {told:List (Int × Ans)} {r:Int} {a:Ans} (h:said told r=some a):(.int .u64 r,a.val) ∈ saids told:=by
 unfold said at h;simp only[Option.map_eq_some_iff] at h;obtain⟨q,h1,h2⟩:=h;have h3:=List.find?_some h1;have h4:=List.mem_of_find?_eq_some h1;refine List.mem_map.2 ⟨q,h4,?_⟩;simp at h3
 simp[saidE,h3,h2]
end Lease
end
section
namespace Lease
open Go.RowKit
open Go.Maps (Keyed)
theorem laidOut:laidOutB Tryz.prog=true:=by kernel_rfl
theorem wideS:(match Tryz.prog.underlying 35 with|some (.array _ _)|some (.struct _)=>true|_=>false)=true:=by kernel_rfl
theorem rowS:(35:TypeId) < Tryz.prog.types.size:=of_decide_eq_true (by kernel_rfl)
theorem lawS:Keyed Tryz.prog 35:=Keyed.of_law (deep_law_laid laidOut (m:=2) (by omega) rowS (by kernel_rfl) wideS)
theorem lawU:Keyed Tryz.prog 22:=Go.Maps.int_keyed Tryz.underlying22
theorem ZmB:Tryz.prog.keyType 35=true:=by kernel_rfl
theorem cellsS:Tryz.prog.cellsOf 35=2:=by kernel_rfl
theorem cellsU:Tryz.prog.cellsOf 22=1:=by kernel_rfl
theorem cellsStr:Tryz.prog.cellsOf 9=1:=by kernel_rfl
theorem Zoy (c0 c1:Value):(Value.agg #[c0,c1]).formed Tryz.prog 35=true:=by simp[Value.formed,Tryz.underlying35,cellsS]
def big64:Int:=18446744073709551616
theorem keyS {n:Int} {f:ByteArray} (h0:0≤n) (h1:n < big64) (hf:f.size≤maxLen):∃l,keyOf Tryz.prog 35 (keyV n f)=some l:=by
 have hw:(Lit.int .u64 n).wf=true:=by simp[Lit.wf,IntKind.min,IntKind.max,IntKind.signed,IntKind.bits];unfold big64 at h1;omega
 obtain⟨d,hd⟩:∃d,Tryz.prog.types.size=d + 1:=Nat.exists_eq_succ_of_ne_zero (Nat.ne_of_gt (Nat.lt_of_le_of_lt (Nat.zero_le _) rowS))
 have hl:Tryz.prog.keyLits (Tryz.prog.types.size + 1) 35 [.int .u64 n,.string f]=some [.int .u64 n,.string f.data.toList]:=by
  rw[hd];simp[Program.keyLits,Tryz.underlying35,Tryz.underlying22,Tryz.underlying9,cellsS,cellsU,cellsStr,hw,hf]
 exact⟨.string (keyBytes [.int .u64 n,.string f.data.toList]),by
  unfold keyOf;rw[Tryz.underlying35];simp only[ZmB,keyV,Zoy,Bool.and_self,if_true];rw[show(Value.agg #[.int .u64 n,.string f]).cells.toList=[.int .u64 n,.string f] from rfl,hl]
  rfl⟩
theorem keyU {n:Int} (h0:0≤n) (h1:n < big64):∃l,keyOf Tryz.prog 22 (.int .u64 n)=some l:=
 ⟨_,Go.Maps.keyOf_int_mk Tryz.underlying22 (by simp[Lit.wf,IntKind.min,IntKind.max,IntKind.signed,IntKind.bits];unfold big64 at h1;omega)⟩
end Lease
end
section
namespace Lease
open Go.RowKit
open Go.Maps (Keyed)
def Zfy (o:Option Ses):Value:=
 match o with
 |none=>.agg #[.bool false,.bool false,.int .i64 0,.int .i64 0,.int .i64 0]
 |some s=>.agg #[.bool s.op,.bool s.dead,.int .i64 s.dl,.int .i64 s.ttl,.int .i64 s.told.length]
theorem Zk4 {w:World} {p m:Nat} {ss:List Ses} (h:Sep [BookP p m ss] w) {n:Int} {f:ByteArray} (h0:0≤n) (h1:n < big64) (hf:f.size≤maxLen) (hn:find ss n f=none):
 Calls Tryz.prog 61 #[.pointer (some ⟨p,0,none⟩),keyV n f] w fun e w'=>e=.returned (Zfy none)∧At [BookP p m ss] w [BookP p m ss] w':=by
 obtain⟨kl,hk⟩:=keyS h0 h1 hf;have hmiss:=Hd (find_none hn);have hA:=begin0 h;have hF:=hA.facts;clear h;unfold keyV at *
 go_enter Tryz.func61,Tryz.ntmps61
 go_wp2_with (first|((with_reducible refine gbx ?_);refine wCy hA ?_;clear hF hA;intro b1 w1 hA hb1 hF)|((with_reducible refine gal ?_);refine g4 hA ?_;clear hF hA;intro b1 w1 hA hb1 hF))
 have hl:∀q,(Instr.lookup 111 (.map (some m)) (.agg #[.int .u64 n,.string f]) true).run Tryz.prog (w1.drewN q)=.ok (.tuple #[.pointer none,.bool false]) (w1.drewN q):=fun q=>
  MapAt.look_none (w:=w1.drewN q) ((hA.drewN q).get (A:=Part.map Tryz.prog 35 m (ents ss)) sR) lawS Tryz.underlying111 hk hmiss.out (by kernel_rfl) true
 go_quiet (fail)
 have hA:=hA.drewN nq;generalize World.drewN _ nq=w1 at *;clear hF;obtain⟨hA,hF⟩:=fY hA
 go_wp2_with ((with_reducible refine gst ?_);refine wTy hA ?_;clear hF hA;intro w1 hA hF)
 refine bodyPost_ret (v:=Zfy none) (by simp[Zfy,results,Tryz.results61,go_sem,hF]) rfl ⟨rfl,?_⟩;exact close0 (m:=m) (ss:=ss) hA sR sR sR
theorem Zk3 {w:World} {p m:Nat} {ss:List Ses} (h:Sep [BookP p m ss] w) {n:Int} {f:ByteArray} (h0:0≤n) (h1:n < big64) (hf:f.size≤maxLen) {s:Ses} (hn:find ss n f=some s):
 Calls Tryz.prog 61 #[.pointer (some ⟨p,0,none⟩),keyV n f] w fun e w'=>e=.returned (Zfy (some s))∧At [BookP p m ss] w [BookP p m ss] w':=by
 obtain⟨kl,hk⟩:=keyS h0 h1 hf;have hmem:=Hd (find_mem hn);obtain⟨l1,l2,rfl,_,_,_⟩:=find_split hn;have hA:=ZlC h;simp only[Ses.cells] at hA;obtain⟨hA,hF⟩:=fY hA;clear h hn;unfold keyV at *
 go_enter Tryz.func61,Tryz.ntmps61
 go_wp2_with (first|((with_reducible refine gbx ?_);refine wCy hA ?_;clear hF hA;intro b1 w1 hA hb1 hF)|((with_reducible refine gal ?_);refine g4 hA ?_;clear hF hA;intro b1 w1 hA hb1 hF))
 have hl:∀q,(Instr.lookup 111 (.map (some m)) (.agg #[.int .u64 n,.string f]) true).run Tryz.prog (w1.drewN q)=.ok (.tuple #[s.ptr,.bool true]) (w1.drewN q):=fun q=>
  MapAt.look_some (w:=w1.drewN q) ((hA.drewN q).get (A:=Part.map Tryz.prog 35 m (ents (l1++s::l2))) sR) lawS Tryz.underlying111 hk hmem.out true
 unfold Ses.ptr at hl;go_quiet (fail)
 have hA:=hA.drewN nq;generalize World.drewN _ nq=w1 at *;clear hF;obtain⟨hA,hF⟩:=fY hA
 go_wp2_with (first|((with_reducible refine gst ?_);refine wTy hA ?_;clear hF hA;intro w1 hA hF)|((with_reducible refine gal ?_);refine g4 hA ?_;clear hF hA;intro b1 w1 hA hb1 hF)|(refine Zbm rfl rfl rfl hA sR Tryz.underlying142 ?_))
 refine bodyPost_ret (v:=Zfy (some s)) (by simp[Zfy,saids,results,Tryz.results61,go_sem,hF]) rfl ⟨rfl,?_⟩;exact ZcR (m:=m) (s:=s) hA sR sR sZ sR sR
end Lease
end
section
namespace Lease
open Go.RowKit
open Go.Maps (Keyed)
def fresh (n:Int) (f:ByteArray) (b t:Nat):Ses:=⟨n,f,false,false,0,0,[],b,t⟩
def look (ss:List Ses) (n:Int) (f:ByteArray):Ses:=(find ss n f).getD (fresh n f 0 0)
def Ses.info (s:Ses):Value:=.agg #[.bool s.op,.bool s.dead,.int .i64 s.dl,.int .i64 s.ttl,.int .i64 s.told.length]
theorem ZaX {w:World} {p m:Nat} {ss:List Ses} (h:Sep [BookP p m ss] w) {n:Int} {f:ByteArray} (h0:0≤n) (h1:n < big64) (hf:f.size≤maxLen):
 Calls Tryz.prog 61 #[.pointer (some ⟨p,0,none⟩),.agg #[.int .u64 n,.string f]] w fun e w'=>e=.returned ((look ss n f).info)∧At [BookP p m ss] w [BookP p m ss] w':=by
 cases hn:find ss n f with
 |none=>have:=Zk4 h h0 h1 hf hn;unfold look;rw[hn];exact this
 |some s=>have:=Zk3 h h0 h1 hf hn;unfold look;rw[hn];exact this
def ZlQ (p m:Nat) (ss:List Ses) (n:Int) (f:ByteArray) (w:World) (e:Ending) (w':World):Prop:=
 ∃b t,e=.returned (.pointer (some ⟨b,0,none⟩))∧At [BookP p m ss] w [BookP p m (ss++[fresh n f b t])] w'
theorem Zjx {w:World} {p m:Nat} {ss:List Ses} (h:Sep [BookP p m ss] w) {n:Int} {f:ByteArray} (h0:0≤n) (h1:n < big64) (hf:f.size≤maxLen) (hn:find ss n f=none):
 Calls Tryz.prog 66 #[.pointer (some ⟨p,0,none⟩),.agg #[.int .u64 n,.string f]] w (ZlQ p m ss n f w):=by
 obtain⟨kl,hk⟩:=keyS h0 h1 hf;have hmiss:=Hd (find_none hn);have hA:=begin0 h;have hF:=hA.facts;clear h;unfold keyV at *
 go_enter Tryz.func66,Tryz.ntmps66
 go_wp2_with ((with_reducible refine gbx ?_);refine wCy hA ?_;clear hF hA;intro b1 w1 hA hb1 hF)
 have hl:∀q,(Instr.lookup 111 (.map (some m)) (.agg #[.int .u64 n,.string f]) true).run Tryz.prog (w1.drewN q)=.ok (.tuple #[.pointer none,.bool false]) (w1.drewN q):=fun q=>
  MapAt.look_none (w:=w1.drewN q) ((hA.drewN q).get (A:=mapC m (ents ss)) sR) lawS Tryz.underlying111 hk hmiss.out (by kernel_rfl) true
 go_quiet (fail)
 have hA:=hA.drewN nq;generalize World.drewN _ nq=w1 at *;clear hF;obtain⟨hA,hF⟩:=fY hA
 go_wp2_with (first|((with_reducible refine gbx ?_);refine wCy hA ?_;clear hF hA;intro b1 w1 hA hb1 hF)|(refine Zav Tryz.prog 22 rfl rfl hA ?_;intro b2 w1 hB hb2;replace hA:=hB;clear hF hB;obtain⟨hA,hF⟩:=fY hA))
 (refine Zaj 6 (fun w'=>∃n,w'=World.drewN _ n) (by kernel_rfl) (by kernel_rfl) ⟨1,rfl⟩ ?_);(simp only[List.take_succ_cons,List.take_zero,List.drop_succ_cons,List.drop_zero]);(repeat(first|go_big_quiet_step (fail)|quiet_step (fail)));(refine wpQuiet_nil ?_);(rintro _ ⟨nq,rfl⟩)
 have hA:=hA.drewN nq;generalize World.drewN _ nq=w1 at *;clear hF;obtain⟨hA,hF⟩:=fY hA
 refine Zao rfl rfl rfl (by(try simp only[Act.eval,eV])<;>exact rfl) (by(try simp only[Act.eval,eV])<;>exact rfl) hA sR lawS Tryz.underlying111 hk hmiss.out ?_;intro w1 hB;replace hA:=hB;clear hF hB;obtain⟨hA,hF⟩:=fY hA;go_wp2_with fail;go_ret;exact⟨_,_,rfl,Zhv (fresh n f _ _) hA sR sZ sZ sZ sR⟩
theorem Zfu {w:World} {p m:Nat} {ss:List Ses} (h:Sep [BookP p m ss] w) {n:Int} {f:ByteArray} (h0:0≤n) (h1:n < big64) (hf:f.size≤maxLen) {s:Ses} (hn:find ss n f=some s):
 Calls Tryz.prog 66 #[.pointer (some ⟨p,0,none⟩),.agg #[.int .u64 n,.string f]] w fun e w'=>e=.returned (.pointer (some ⟨s.blk,0,none⟩))∧At [BookP p m ss] w [BookP p m ss] w':=by
 obtain⟨kl,hk⟩:=keyS h0 h1 hf;have hmem:=Hd (find_mem hn);have hA:=begin0 h;have hF:=hA.facts;clear h;unfold keyV at *
 go_enter Tryz.func66,Tryz.ntmps66
 go_wp2_with ((with_reducible refine gbx ?_);refine wCy hA ?_;clear hF hA;intro b1 w1 hA hb1 hF)
 have hl:∀q,(Instr.lookup 111 (.map (some m)) (.agg #[.int .u64 n,.string f]) true).run Tryz.prog (w1.drewN q)=.ok (.tuple #[s.ptr,.bool true]) (w1.drewN q):=fun q=>
  MapAt.look_some (w:=w1.drewN q) ((hA.drewN q).get (A:=mapC m (ents ss)) sR) lawS Tryz.underlying111 hk hmem.out true
 unfold Ses.ptr at hl;go_quiet (fail)
 have hA:=hA.drewN nq;generalize World.drewN _ nq=w1 at *;clear hF;obtain⟨hA,hF⟩:=fY hA
 go_wp2_with fail;go_ret;exact⟨rfl,close0 (m:=m) (ss:=ss) hA sR sR sR⟩
theorem Zgx {w:World} {p m:Nat} {ss:List Ses} (h:Sep [BookP p m ss] w) {n r:Int} {f:ByteArray} (h0:0≤n) (h1:n < big64) (hf:f.size≤maxLen) (hn:find ss n f=none):
 Calls Tryz.prog 38 #[.pointer (some ⟨p,0,none⟩),.agg #[.int .u64 n,.string f],.int .u64 r] w fun e w'=>e=.returned (.tuple #[.agg #[.int .i64 0,.int .u64 0,.bool false],.bool false])∧At [BookP p m ss] w [BookP p m ss] w':=by
 obtain⟨kl,hk⟩:=keyS h0 h1 hf;have hmiss:=Hd (find_none hn);have hA:=begin0 h;have hF:=hA.facts;clear h;unfold keyV at *
 go_enter Tryz.func38,Tryz.ntmps38
 go_wp2_with (first|((with_reducible refine gbx ?_);refine wCy hA ?_;clear hF hA;intro b1 w1 hA hb1 hF)|((with_reducible refine gal ?_);refine g1 hA ?_;clear hF hA;intro b1 w1 hA hb1 hF))
 have hl:∀q,(Instr.lookup 111 (.map (some m)) (.agg #[.int .u64 n,.string f]) true).run Tryz.prog (w1.drewN q)=.ok (.tuple #[.pointer none,.bool false]) (w1.drewN q):=fun q=>
  MapAt.look_none (w:=w1.drewN q) ((hA.drewN q).get (A:=mapC m (ents ss)) sR) lawS Tryz.underlying111 hk hmiss.out (by kernel_rfl) true
 go_quiet (fail)
 have hA:=hA.drewN nq;generalize World.drewN _ nq=w1 at *;clear hF;obtain⟨hA,hF⟩:=fY hA
 go_wp2_with ((with_reducible refine gst ?_);refine wTy hA ?_;clear hF hA;intro w1 hA hF)
 refine bodyPost_ret (v:=.tuple #[.agg #[.int .i64 0,.int .u64 0,.bool false],.bool false]) (by simp[results,Tryz.results38,go_sem,hF]) rfl ⟨rfl,?_⟩;exact close0 (m:=m) (ss:=ss) hA sR sR sR
theorem Zf1 {w:World} {p m:Nat} {ss:List Ses} (h:Sep [BookP p m ss] w) {n r:Int} {f:ByteArray} (h0:0≤n) (h1:n < big64) (hf:f.size≤maxLen) {s:Ses} (hn:find ss n f=some s) (r0:0≤r) (r1:r < big64) (hr:said s.told r=none):
 Calls Tryz.prog 38 #[.pointer (some ⟨p,0,none⟩),.agg #[.int .u64 n,.string f],.int .u64 r] w fun e w'=>e=.returned (.tuple #[.agg #[.int .i64 0,.int .u64 0,.bool false],.bool false])∧At [BookP p m ss] w [BookP p m ss] w':=by
 obtain⟨kl,hk⟩:=keyS h0 h1 hf;obtain⟨ku,hu⟩:=keyU r0 r1;have hmem:=Hd (find_mem hn);have hmiss:=Hd (ZgK hr);obtain⟨l1,l2,rfl,_,_,_⟩:=find_split hn;have hA:=ZlC h;simp only[Ses.cells] at hA;obtain⟨hA,hF⟩:=fY hA;clear h hn;unfold keyV at *
 go_enter Tryz.func38,Tryz.ntmps38
 go_wp2_with (first|((with_reducible refine gbx ?_);refine wCy hA ?_;clear hF hA;intro b1 w1 hA hb1 hF)|((with_reducible refine gal ?_);refine g1 hA ?_;clear hF hA;intro b1 w1 hA hb1 hF))
 have hl:∀q,(Instr.lookup 111 (.map (some m)) (.agg #[.int .u64 n,.string f]) true).run Tryz.prog (w1.drewN q)=.ok (.tuple #[s.ptr,.bool true]) (w1.drewN q):=fun q=>
  MapAt.look_some (w:=w1.drewN q) ((hA.drewN q).get (A:=mapC m (ents (l1++s::l2))) sR) lawS Tryz.underlying111 hk hmem.out true
 unfold Ses.ptr at hl;go_quiet (fail)
 have hA:=hA.drewN nq;generalize World.drewN _ nq=w1 at *;clear hF;obtain⟨hA,hF⟩:=fY hA
 go_wp2_with (first|((with_reducible refine gst ?_);refine wTy hA ?_;clear hF hA;intro w1 hA hF)|((with_reducible refine gal ?_);refine g1 hA ?_;clear hF hA;intro b1 w1 hA hb1 hF)|(refine Zbf rfl rfl rfl (by(try simp only[Act.eval,eV])<;>exact rfl) hA (k:=22) (es:=saids s.told) sR lawU Tryz.underlying142 hu hmiss.out (z:=.agg #[.int .i64 0,.int .u64 0,.bool false]) (fun _=>by kernel_rfl) ?_))
 refine bodyPost_ret (v:=.tuple #[.agg #[.int .i64 0,.int .u64 0,.bool false],.bool false]) (by simp[results,Tryz.results38,go_sem,hF]) rfl ⟨rfl,?_⟩;exact ZcR (m:=m) (s:=s) hA sR sR sZ sR sR
theorem Zis {w:World} {p m:Nat} {ss:List Ses} (h:Sep [BookP p m ss] w) {n r:Int} {f:ByteArray} (h0:0≤n) (h1:n < big64) (hf:f.size≤maxLen) {s:Ses} (hn:find ss n f=some s) (r0:0≤r) (r1:r < big64) {a:Ans} (hr:said s.told r=some a):
 Calls Tryz.prog 38 #[.pointer (some ⟨p,0,none⟩),.agg #[.int .u64 n,.string f],.int .u64 r] w fun e w'=>e=.returned (.tuple #[.agg #[.int .i64 a.e,.int .u64 a.n,.bool a.g],.bool true])∧At [BookP p m ss] w [BookP p m ss] w':=by
 obtain⟨kl,hk⟩:=keyS h0 h1 hf;obtain⟨ku,hu⟩:=keyU r0 r1;have hmem:=Hd (find_mem hn);have hthere:=Hd (Zmc hr);obtain⟨l1,l2,rfl,_,_,_⟩:=find_split hn;have hA:=ZlC h;simp only[Ses.cells] at hA;obtain⟨hA,hF⟩:=fY hA;clear h hn;unfold keyV Ans.val at *
 go_enter Tryz.func38,Tryz.ntmps38
 go_wp2_with (first|((with_reducible refine gbx ?_);refine wCy hA ?_;clear hF hA;intro b1 w1 hA hb1 hF)|((with_reducible refine gal ?_);refine g1 hA ?_;clear hF hA;intro b1 w1 hA hb1 hF))
 have hl:∀q,(Instr.lookup 111 (.map (some m)) (.agg #[.int .u64 n,.string f]) true).run Tryz.prog (w1.drewN q)=.ok (.tuple #[s.ptr,.bool true]) (w1.drewN q):=fun q=>
  MapAt.look_some (w:=w1.drewN q) ((hA.drewN q).get (A:=mapC m (ents (l1++s::l2))) sR) lawS Tryz.underlying111 hk hmem.out true
 unfold Ses.ptr at hl;go_quiet (fail)
 have hA:=hA.drewN nq;generalize World.drewN _ nq=w1 at *;clear hF;obtain⟨hA,hF⟩:=fY hA
 go_wp2_with (first|((with_reducible refine gst ?_);refine wTy hA ?_;clear hF hA;intro w1 hA hF)|((with_reducible refine gal ?_);refine g1 hA ?_;clear hF hA;intro b1 w1 hA hb1 hF)|(refine Zbe rfl rfl rfl (by(try simp only[Act.eval,eV])<;>exact rfl) hA (k:=22) (es:=saids s.told) sR lawU Tryz.underlying142 hu hthere.out ?_))
 refine bodyPost_ret (v:=.tuple #[.agg #[.int .i64 a.e,.int .u64 a.n,.bool a.g],.bool true]) (by simp[results,Tryz.results38,go_sem,hF]) rfl ⟨rfl,?_⟩;exact ZcR (m:=m) (s:=s) hA sR sR sZ sR sR
end Lease
end
end Go.Proofs.YtbeckijoabapkaaGreatDoor
