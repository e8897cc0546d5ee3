import Derived.Test.YtknoefbcmomalaaGreatDoorP23
set_option linter.unusedSimpArgs false
set_option linter.unusedVariables false
set_option maxRecDepth 100000
set_option maxHeartbeats 16000000
namespace Go.Proofs.YtknoefbcmomalaaGreatDoor
section
namespace Sta
open Lock (Ent rowL)
def bubU (l:List Ent) (a:Nat):Nat→List Ent
 |0=>l
 |n + 1=>swp (bubU l a n) (a + n) (a + n + 1)
def bubD (l:List Ent) (m:Nat):Nat→List Ent
 |0=>l
 |n + 1=>swp (bubD l m n) (m - n) (m - n - 1)
theorem Ziy (l:List Ent) (a:Nat):∀n,(bubU l a n).length=l.length
 |0=>rfl
 |n + 1=>by unfold bubU;rw[ZcH,Ziy l a n]
theorem ZiA (l:List Ent) (m:Nat):∀n,(bubD l m n).length=l.length
 |0=>rfl
 |n + 1=>by unfold bubD;rw[ZcH,ZiA l m n]
theorem Ziz {P S:List Ent} {x:Ent} {a:Nat} (ha:P.length=a):∀(n:Nat) (Y R:List Ent),Y.length=n→bubU (P++(x::(Y++R))) a n=P++(Y++(x::R))
 |0,Y,R,hy=>by
  rw[List.eq_nil_of_length_eq_zero hy];rfl
 |n + 1,Y,R,hy=>by
  rcases List.eq_nil_or_concat Y with rfl|⟨Y',y,rfl⟩
  · simp at hy
  have hy':Y'.length=n:=by simpa using hy
  have ih:=Ziz (S:=S) (x:=x) ha n Y' (y::R) hy';unfold bubU;rw[List.concat_eq_append,show P++(x::((Y'++[y])++R))=P++(x::(Y'++(y::R))) by simp,ih];have:=Zfk (P++Y') [] R x y (a:=a + n) (b:=a + n + 1) (by simp;omega) (by simp);simpa using this
theorem ZiB {P:List Ent} {x:Ent} {m:Nat}:∀(n:Nat) (X R:List Ent),X.length=n→∀Q:List Ent,Q.length + n=m→bubD (Q++(X++(x::R))) m n=Q++(x::(X++R))
 |0,X,R,hx,Q,hq=>by
  rw[List.eq_nil_of_length_eq_zero hx];rfl
 |n + 1,X,R,hx,Q,hq=>by
  cases X with
  |nil=>simp at hx
  |cons y X'=>
   have hx':X'.length=n:=by simpa using hx
   have ih:=ZiB (P:=P) (x:=x) (m:=m) n X' R hx' (Q++[y]) (by simp;omega);unfold bubD;rw[show Q++((y::X')++(x::R))=(Q++[y])++(X'++(x::R)) by simp,ih,ZhU _ _ _ (by omega)];have:=Zfk Q [] (X'++R) y x (a:=m - n - 1) (b:=m - n) (by omega) (by simp;omega);simpa using this
def Bs (p:Nat→Prop) (lo hi i j:Nat):Prop:=lo≤i∧i≤j∧j≤hi∧(i=lo∨p (i - 1))∧(j=hi∨¬p j)
theorem Bs.start (p:Nat→Prop) {lo hi:Nat} (h:lo≤hi):Bs p lo hi lo hi:=⟨Nat.le_refl _,h,Nat.le_refl _,Or.inl rfl,Or.inl rfl⟩
theorem Bs.up {p:Nat→Prop} {lo hi i j h:Nat} (b:Bs p lo hi i j) (h1:i≤h) (h2:h < j) (hp:p h):Bs p lo hi (h + 1) j:=
 ⟨by have:=b.1;omega,by omega,b.2.2.1,Or.inr (by simpa using hp),b.2.2.2.2⟩
theorem Bs.down {p:Nat→Prop} {lo hi i j h:Nat} (b:Bs p lo hi i j) (h1:i≤h) (h2:h < j) (hp:¬p h):Bs p lo hi i h:=
 ⟨b.1,h1,by have:=b.2.2.1;omega,b.2.2.2.1,Or.inr hp⟩
theorem Zki {Y:List Ent} (hs:Srt stp Y) {t:Int} {r:Nat} (h:r=0∨∃y,Y[r - 1]? =some y∧stp y≤t):∀y ∈ Y.take r,stp y≤t:=by
 intro y hy;rcases h with rfl|⟨z,hz,hle⟩
 · simp at hy
 obtain⟨i,hi,rfl⟩:=List.mem_iff_getElem.1 hy;obtain⟨hl,rfl⟩:=List.getElem?_eq_some_iff.1 hz;rw[List.length_take] at hi;rw[List.getElem_take];by_cases q:i=r - 1
 · simp only[q];exact hle
 have:=List.pairwise_iff_getElem.1 hs i (r - 1) (by omega) hl (by omega)
 omega
theorem Zii {Y:List Ent} (hs:Srt stp Y) {t:Int} {r:Nat} (h:Y.length≤r∨∃y,Y[r]? =some y∧t≤stp y):∀y ∈ Y.drop r,t≤stp y:=by
 intro y hy;rcases h with h|⟨z,hz,hle⟩
 · rw[List.drop_eq_nil_of_le h] at hy;simp at hy
 obtain⟨i,hi,rfl⟩:=List.mem_iff_getElem.1 hy;obtain⟨hl,rfl⟩:=List.getElem?_eq_some_iff.1 hz;rw[List.length_drop] at hi;rw[List.getElem_drop];by_cases q:i=0
 · simp only[q,Nat.add_zero];exact hle
 have:=List.pairwise_iff_getElem.1 hs r (r + i) hl (by omega) (by omega)
 omega
theorem Zne {Y:List Ent} (hs:Srt stp Y) {x:Ent} {r:Nat} (h1:r=0∨∃y,Y[r - 1]? =some y∧stp y≤stp x) (h2:Y.length≤r∨∃y,Y[r]? =some y∧stp x≤stp y):
 Srt stp (Y.take r++x::Y.drop r)∧(Y.take r++x::Y.drop r).Perm (x::Y):=by
 refine⟨Zhj (Zlz hs r) (ZlA hs r) (Zki hs h1) (Zii hs h2),?_⟩;refine List.perm_middle.trans ?_;rw[List.take_append_drop]
theorem Ziq {X Y:List Ent} (hx:Srt stp X) (hy:Srt stp Y) {r q:Nat} (h:r=0∨Y.length≤q∨∃x y,X[r - 1]? =some x∧Y[q]? =some y∧stp x≤stp y):∀x ∈ X.take r,∀y ∈ Y.drop q,stp x≤stp y:=by
 intro x h1 y h2;rcases h with rfl|h|⟨x0,y0,hx0,hy0,hle⟩
 · simp at h1
 · rw[List.drop_eq_nil_of_le h] at h2;simp at h2
 have e1:=Zki hx (t:=stp x0) (r:=r) (Or.inr ⟨x0,hx0,Int.le_refl _⟩) x h1;have e2:=Zii hy (t:=stp y0) (r:=q) (Or.inr ⟨y0,hy0,Int.le_refl _⟩) y h2;omega
def MerP (w:World) (v:Value) (P X Y S:List Ent) (e:Ending) (w':World):Prop:=e=.returned (.tuple #[])∧∃Z:List Ent,Z.Perm (X++Y)∧Srt stp Z∧At [rowL v (P++(X++(Y++S)))] w [rowL v (P++(Z++S))] w'
theorem ZiC {P Q R:List Ent} {i k:Nat} (h:P.length + k=i) (hk:k < Q.length):(P++(Q++R))[i]? =Q[k]? :=by
 subst h;rw[List.getElem?_append_right (by omega),Nat.add_sub_cancel_left,List.getElem?_append_left hk]
def lowP (L:List Ent) (t:Int) (h:Nat):Prop:=∃y,L[h]? =some y∧y.stamp < t
def highP (L:List Ent) (t:Int) (h:Nat):Prop:=∃y,L[h]? =some y∧y.stamp≤t
def pairP (L:List Ent) (q:Nat) (c:Nat):Prop:=∃u v,L[q - c]? =some u∧L[c]? =some v∧v.stamp≤u.stamp
theorem ZnR {P Y S:List Ent} {x:Ent} {a m b i:Nat} (ha:P.length=a) (hm:a + 1=m) (hb:m + Y.length=b) (sy:Srt stp Y) (hs:Bs (lowP (P++([x]++(Y++S))) x.stamp) m b i i):
 ∃(r:Nat) (Z:List Ent),m + r=i∧Z.Perm ([x]++Y)∧Srt stp Z∧bubU (P++([x]++(Y++S))) a r=P++(Z++S):=by
 obtain⟨h1,_,h2,h3,h4⟩:=hs
 obtain⟨r,rfl⟩:∃r,i=m + r:=⟨i - m,by omega⟩
 have hY:∀t,t < Y.length→(P++([x]++(Y++S)))[m + t]? =Y[t]? :=fun t ht=>by
  rw[show P++([x]++(Y++S))=(P++[x])++(Y++S) by simp];exact ZiC (by simp;omega) ht
 have e1:r=0∨∃y,Y[r - 1]? =some y∧stp y≤stp x:=by
  rcases h3 with h3|⟨y,hy,hl⟩
  · left;omega
  by_cases q:r=0
  · left;exact q
  right
  rw[show m + r - 1=m + (r - 1) by omega,hY _ (by omega)] at hy;exact⟨y,hy,by unfold stp;omega⟩
 have e2:Y.length≤r∨∃y,Y[r]? =some y∧stp x≤stp y:=by
  by_cases q:Y.length≤r
  · left;exact q
  right
  rcases h4 with h4|h4
  · omega
  refine⟨Y[r],List.getElem?_eq_getElem (by omega),?_⟩
  have hr:r < Y.length:=by omega
  have:=fun(hlt:Y[r].stamp < x.stamp)=>h4 ⟨Y[r],(hY r (by omega)).trans (List.getElem?_eq_getElem (by omega)),hlt⟩
  exact Int.not_lt.1 this
 obtain⟨z1,z2⟩:=Zne sy e1 e2;refine⟨r,_,rfl,z2,z1,?_⟩;have:=Ziz (S:=S) (x:=x) ha r (Y.take r) (Y.drop r++S) (by rw[List.length_take];omega);rw[←List.append_assoc (Y.take r),List.take_append_drop] at this;simpa using this
theorem Znr {P X S:List Ent} {y:Ent} {a m i:Nat} (ha:P.length=a) (hm:a + X.length=m) (sx:Srt stp X) (hs:Bs (highP (P++(X++([y]++S))) y.stamp) a m i i):
 ∃(r:Nat) (Z:List Ent),i + r=m∧Z.Perm (X++[y])∧Srt stp Z∧bubD (P++(X++([y]++S))) m r=P++(Z++S):=by
 obtain⟨h1,_,h2,h3,h4⟩:=hs
 obtain⟨t,rfl⟩:∃t,i=a + t:=⟨i - a,by omega⟩
 have hX:∀t,t < X.length→(P++(X++([y]++S)))[a + t]? =X[t]? :=fun t ht=>ZiC (by omega) ht
 have e1:t=0∨∃z,X[t - 1]? =some z∧stp z≤stp y:=by
  rcases h3 with h3|⟨z,hz,hl⟩
  · left;omega
  by_cases q:t=0
  · left;exact q
  right
  rw[show a + t - 1=a + (t - 1) by omega,hX _ (by omega)] at hz;exact⟨z,hz,hl⟩
 have e2:X.length≤t∨∃z,X[t]? =some z∧stp y≤stp z:=by
  by_cases q:X.length≤t
  · left;exact q
  right
  rcases h4 with h4|h4
  · omega
  refine⟨X[t],List.getElem?_eq_getElem (by omega),?_⟩
  have ht:t < X.length:=by omega
  have:=fun(hlt:X[t].stamp≤y.stamp)=>h4 ⟨X[t],(hX t (by omega)).trans (List.getElem?_eq_getElem (by omega)),hlt⟩
  exact Int.le_of_lt (Int.not_le.1 this)
 obtain⟨z1,z2⟩:=Zne sx e1 e2;refine⟨X.length - t,_,by omega,z2.trans (List.perm_append_comm (l₁:=[y]) (l₂:=X)),z1,?_⟩;have:=ZiB (P:=P) (x:=y) (m:=m) (X.length - t) (X.drop t) S (by rw[List.length_drop]) (P++X.take t) (by rw[List.length_append,List.length_take];omega);rw[show(P++X.take t)++(X.drop t++(y::S))=P++(X++([y]++S)) by rw[List.append_assoc,←List.append_assoc (X.take t),List.take_append_drop];rfl] at this;rw[this];simp
theorem ZnW {P X Y S:List Ent} {a m b mid n s0 r0 s:Nat} (ha:P.length=a) (hm:a + X.length=m) (hb:m + Y.length=b) (hx:0 < X.length) (hy:0 < Y.length) (hmid:(a + b) / 2=mid) (hn:mid + m=n)
 (hs0:(mid < m∧s0 + b=n∧r0=mid)∨(m≤mid∧s0=a∧r0=m)) (sx:Srt stp X) (sy:Srt stp Y) (hs:Bs (pairP (P++(X++(Y++S))) (n - 1)) s0 r0 s s):
 ∃(X1 X2 Y1 Y2:List Ent) (e:Nat),X=X1++X2∧Y=Y1++Y2∧s + e=n∧a + X1.length=s∧s + X2.length=m∧m + Y1.length=e∧e + Y2.length=b∧(∀x ∈ X1,∀y ∈ Y2,stp x≤stp y)∧(∀y ∈ Y1,∀x ∈ X2,stp y≤stp x):=by
 obtain⟨h1,_,h2,h3,h4⟩:=hs;have hX:∀t,t < X.length→(P++(X++(Y++S)))[a + t]? =X[t]? :=fun t ht=>ZiC (by omega) ht
 have hY:∀t,t < Y.length→(P++(X++(Y++S)))[m + t]? =Y[t]? :=fun t ht=>by
  rw[show P++(X++(Y++S))=(P++X)++(Y++S) by simp];exact ZiC (by simp;omega) ht
 obtain⟨r,rfl⟩:∃r,s=a + r:=⟨s - a,by omega⟩
 obtain⟨e,he⟩:∃e,a + r + e=n:=⟨n - (a + r),by omega⟩
 obtain⟨q,rfl⟩:∃q,e=m + q:=⟨e - m,by omega⟩
 have hr:r≤X.length:=by omega
 have hq:q≤Y.length:=by omega
 refine⟨X.take r,X.drop r,Y.take q,Y.drop q,m + q,(List.take_append_drop r X).symm,(List.take_append_drop q Y).symm,he,by rw[List.length_take];omega,by rw[List.length_drop];omega,by rw[List.length_take];omega,by rw[List.length_drop];omega,?_,?_⟩
 · refine Ziq sx sy ?_;rcases h3 with h3|⟨u,v,hu,hv,hl⟩
   · rcases hs0 with⟨_,e1,_⟩|⟨_,e1,_⟩
     · right;left;omega
     left;omega
   by_cases q0:r=0
   · left;exact q0
   by_cases q1:Y.length≤q
   · right;left;exact q1
   right;right
   rw[show a + r - 1=a + (r - 1) by omega,hX _ (by omega)] at hv;rw[show n - 1 - (a + r - 1)=m + q by omega,hY _ (by omega)] at hu;exact⟨v,u,hv,hu,hl⟩
 refine Ziq sy sx ?_;by_cases q0:q=0
 · left;exact q0
 by_cases q1:X.length≤r
 · right;left;exact q1
 right;right
 rcases h4 with h4|h4
 · rcases hs0 with⟨_,_,e1⟩|⟨_,_,e1⟩<;>omega
 refine⟨Y[q - 1],X[r],List.getElem?_eq_getElem (by omega),List.getElem?_eq_getElem (by omega),?_⟩
 have hq1:q - 1 < Y.length:=by omega
 have hr1:r < X.length:=by omega
 have:=fun(hlt:X[r].stamp≤Y[q - 1].stamp)=>h4 ⟨Y[q - 1],X[r],(by rw[show n - 1 - (a + r)=m + (q - 1) by omega,hY _ (by omega)];exact List.getElem?_eq_getElem (by omega)),(hX r (by omega)).trans (List.getElem?_eq_getElem (by omega)),hlt⟩
 exact Int.le_of_lt (Int.not_le.1 this)
end Sta
end
section
namespace Sta
open Go.RowKit
open Lock (Ent rowL)
def BsRel (w:World) (v:Value) (L:List Ent) (p:Nat→Prop) (lo hi:Nat) (k:Nat) (u1 u2:Value) (wr:World):Prop:=
 ∃i j:Nat,u1=.int .i64 i∧u2=.int .i64 j∧Bs p lo hi i j∧j - i=k∧At [rowL v L] w [rowL v L] wr
theorem Zcr {i j:Nat} (h:i < j) (hj:j≤1000000):∃s h:Nat,IntKind.i64.wrap ((i:Int) + (j:Int))=(s:Int)∧IntKind.u64.wrap (s:Int)=(s:Int)∧(s:Int) / 2=(h:Int)∧IntKind.i64.wrap (h:Int)=(h:Int)∧i≤h∧h < j∧s / 2=h∧IntKind.i64.wrap ((h:Int) + 1)=((h + 1:Nat):Int):=by
 refine⟨i + j,(i + j) / 2,?_,?_,?_,?_,by omega,by omega,rfl,?_⟩
 · rw[IntKind.wrap_i64]<;>omega
 · rw[IntKind.wrap_u64]<;>omega
 · omega
 · rw[IntKind.wrap_i64]<;>omega
 rw[IntKind.wrap_i64]<;>omega
def BuRel (w:World) (v:Value) (L:List Ent) (a r:Nat) (k:Nat) (u:Value) (wr:World):Prop:=
 ∃t p:Nat,u=.int .i64 p∧a + t=p∧t + k=r∧At [rowL v L] w [rowL v (bubU L a t)] wr
theorem ZnV {w:World} {v:Value} {P Y S:List Ent} {x:Ent} (h:Sep [rowL v (P++([x]++(Y++S)))] w) (a m b:Nat) (ha:P.length=a) (hm0:a + 1=m) (hb:m + Y.length=b) (sy:Srt stp Y) (hl:(P++([x]++(Y++S))).length≤1000000):
 Calls Tryz.prog 111 #[v,.int .i64 a,.int .i64 m,.int .i64 b,.func (.func 37) #[] #[]] w (MerP w v P [x] Y S):=by
 have hm:Tryz.prog.follows .mixedOrders=true:=by kernel_rfl
 have hA:=At.start h;clear h;have hend:=fun i=>ZnR (S:=S) (x:=x) (i:=i) ha hm0 hb sy
 have hx:(P++([x]++(Y++S)))[a]? =some x:=by
  rw[List.getElem?_append_right (by omega),ha,Nat.sub_self];rfl
 have hlen:b≤(P++([x]++(Y++S))).length:=by simp only[List.length_append,List.length_cons,List.length_nil];omega
 unfold MerP
 obtain⟨L,hL⟩:∃L,P++([x]++(Y++S))=L:=⟨_,rfl⟩
 rw[hL] at hA hl hlen hx hend ⊢
 obtain⟨N,hN⟩:∃N,L.length=N:=⟨_,rfl⟩
 rw[hN] at hl hlen;obtain⟨ax,cap,hv,_,hcp,_⟩:=hA.row_form (v:=v) (xs:=L.flatMap Ent.cells) sZ;rw[hN] at hv hcp;subst hv;obtain⟨g,_,rfl,_,_,_,_,_⟩:=hA.row_open (e:=55) (size:=6) (ax:=ax) (cap:=cap) (n:=N) (xs:=L.flatMap Ent.cells) (by rw[←hN];exact Sel.here) (by omega);have hw0:IntKind.i64.wrap ((m:Int) - (a:Int))=1:=by rw[IntKind.wrap_i64]<;>omega
 have hva:=Hd (Zdt (g:=g) (n:=N) (cap:=cap) hx);have hLl':=Hd hN;have hend':=Hd hend;have hb':=Hd hb;have haN:a < N:=by omega
 clear hL hN hx hend hb ha sy;obtain⟨hA,hF⟩:=fZ hA;go_enter Tryz.func111,Tryz.ntmps111;go_wp2_with fail;(try go_frame);clear hw0;go_loopg [10,11] (b - m) (BsRel w (.slice (some ⟨g,0,none⟩) N cap) L (lowP L x.stamp) m b)
 case atStart=>exact⟨m,b,rfl,rfl,Bs.start _ (by have:=hb'.out;omega),rfl,hA.pick pZ⟩
 case round=>
  obtain⟨i,j,rfl,rfl,hbs,hk,hB⟩:=hrel;replace hA:=hB;clear hF hB;have hbs':=Hd hbs;obtain⟨hb1,hb2,hb3,_,_⟩:=hbs;by_cases hij:i < j
  · obtain⟨s,h,hw1,hw2,hw3,hw4,hih,hhj,_,hw5⟩:=Zcr hij (by omega);have hhN:h < N:=by omega
    obtain⟨y,hy⟩:∃y,L[h]? =some y:=⟨_,List.getElem?_eq_getElem (by have:=hLl'.out;omega)⟩
    have hvh:=Hd (Zdt (g:=g) (n:=N) (cap:=cap) hy);have hy':=Hd hy;have hcm:=fun(w1:World)=>ZdF y x w1;have hlt:=ZfX y x;generalize cmpT y x=cv at *
    have hlt':=Hd hlt;have hcm':=Hd hcm;clear hy hcm hlt;by_cases hd:cv < 0
    · have hbn:=Hd (show Bs (lowP L x.stamp) m b (h + 1) j from by
       have hxy:=hlt'.out;rw[decide_eq_true hd] at hxy;have hxy:=of_decide_eq_true hxy.symm
       exact hbs'.out.up hih hhj ⟨y,hy'.out,hxy⟩)
      obtain⟨hA,hF⟩:=fZ hA;go_wp2_with fail;(try go_frame);refine cl9 hA ?_;clear hF hA;intro w1 hA hF;(try simp only[uZ] at hA hF);go_wp2_with fail;go_roundg (j - (h + 1));case measure=>omega
      case rel=>exact⟨h + 1,j,rfl,rfl,hbn.out,rfl,hA.pick pZ⟩
    have hbn:=Hd (show Bs (lowP L x.stamp) m b i h from by
     have hxy:=hlt'.out;rw[decide_eq_false hd] at hxy;have hxy:=of_decide_eq_false hxy.symm
     exact hbs'.out.down hih hhj (fun⟨z,hz,hq⟩=>hxy (by have e:=hy'.out.symm.trans hz;cases e;exact hq)))
    obtain⟨hA,hF⟩:=fZ hA;go_wp2_with fail;(try go_frame);refine cl9 hA ?_;clear hF hA;intro w1 hA hF;(try simp only[uZ] at hA hF);go_wp2_with fail;go_roundg (h - i);case measure=>omega
    case rel=>exact⟨i,h,rfl,rfl,hbn.out,rfl,hA.pick pZ⟩
  obtain rfl:i=j:=by omega
  obtain⟨r,Z,hri,hZp,hZs,hZ⟩:=hend'.out i hbs'.out;have hZ':=Hd hZ;have hZp':=Hd hZp;have hZs':=Hd hZs;clear hZ hZp hZs hk hij;have hw1:IntKind.i64.wrap ((i:Int) - 1)=((a + r:Nat):Int):=by rw[IntKind.wrap_i64]<;>omega
  obtain⟨hA,hF⟩:=fZ hA;go_wp2_with fail;(try go_frame);clear hF;go_loopg [13] r (BuRel w (.slice (some ⟨g,0,none⟩) N cap) L a r)
  case atStart=>exact⟨0,a,rfl,rfl,by omega,hA.pick pZ⟩
  case round=>
   clear hA;obtain⟨t,p,rfl,htp,htk,hA⟩:=hrel
   obtain⟨M,hM⟩:∃M,bubU L a t=M:=⟨_,rfl⟩
   have hMl:M.length=N:=by rw[←hM,Ziy];exact hLl'.out
   by_cases htr:t < r
   · obtain⟨q,hpq⟩:∃q,p + 1=q:=⟨_,rfl⟩
     have hqN:q < N:=by omega
     have hpN:p < N:=by omega
     have hsw:=Hd (show bubU L a (t + 1)=swp M p q by rw[←hM,←hpq,←htp];rfl)
     obtain⟨x1,hM1⟩:∃x1,M[p]? =some x1:=⟨_,List.getElem?_eq_getElem (by omega)⟩
     obtain⟨x2,hM2⟩:∃x2,M[q]? =some x2:=⟨_,List.getElem?_eq_getElem (by omega)⟩
     rw[hM] at hA;have hMl':=Hd hMl;have hM1':=Hd hM1;have hM2':=Hd hM2;have hlt:p < a + r:=by omega
     have hw1':IntKind.i64.wrap ((p:Int) + 1)=(q:Int):=by rw[IntKind.wrap_i64]<;>omega
     have htp':=Hd htp;have hpq':=Hd hpq;clear hM hMl hM1 hM2 htp hpq;have hw2:=hw1;clear hw1;have hw1:=hw1';clear hw1';rw[show rowL (.slice (some ⟨g,0,none⟩) N cap) M=Part.row 55 6 (.slice (some ⟨g,0,none⟩) N cap) N (M.flatMap Ent.cells) by rw[←hMl'.out]] at hA;obtain⟨g',c,e',_,hcm,hcl,hct,hB⟩:=hA.row_open (e:=55) (size:=6) (ax:=some ⟨g,0,none⟩) (cap:=cap) (n:=N) (xs:=M.flatMap Ent.cells) sZ (by omega);cases e';clear hA;have hA:=hB;clear hB;rw[←hMl'.out] at hct;have hv0:=Zbe hct hM1'.out;have hv1:=Zbe hct hM2'.out;have hnew0:=Zcn hct hM1'.out hM2'.out;rw[hMl'.out] at hnew0;have hnew:=Hd hnew0;have hswl':=Hd (show(swp M p q).length=N by rw[ZcH];exact hMl'.out);clear hct hnew0;obtain⟨hA,hF⟩:=fZ hA;go_wp2_with fail;(try go_frame);replace hA:=hA.drew;clear hF;refine wp_region_held (S:=fun _=>True) hm ?_;change wpAnyH _ _ _ _ _ 18 _ _ (World.drew _);generalize World.drew _=wd at *
     refine tZ 0 61 (.slice (some ⟨g,0,none⟩) N cap) (r:=(fun w' hS=>by simp[execOp,go_sem,Act.eval,Act.put])) (s:=trivial) (h:= ?_);go_frame;refine tZ 1 62 (.int .i64 ((p:Nat):Int)) (r:=(fun w' hS=>by simp[execOp,go_sem,Act.eval,Act.put])) (s:=trivial) (h:= ?_);go_frame;refine tZ 2 63 (.slice (some ⟨g,0,none⟩) N cap) (r:=(fun w' hS=>by simp[execOp,go_sem,Act.eval,Act.put])) (s:=trivial) (h:= ?_);go_frame;refine tZ 3 64 (.int .i64 ((p:Nat):Int)) (r:=(fun w' hS=>by simp[execOp,go_sem,Act.eval,Act.put])) (s:=trivial) (h:= ?_);go_frame;refine tZ 4 65 (.int .i64 ((q:Nat):Int)) (r:=(fun w' hS=>by simp[execOp,go_sem,Act.eval,Act.put,hw1])) (s:=trivial) (h:= ?_);go_frame;refine tZ 5 66 (.slice (some ⟨g,0,none⟩) N cap) (r:=(fun w' hS=>by simp[execOp,go_sem,Act.eval,Act.put])) (s:=trivial) (h:= ?_);go_frame;refine tZ 6 67 (.int .i64 ((p:Nat):Int)) (r:=(fun w' hS=>by simp[execOp,go_sem,Act.eval,Act.put])) (s:=trivial) (h:= ?_);go_frame;refine tZ 7 68 (.int .i64 ((q:Nat):Int)) (r:=(fun w' hS=>by simp[execOp,go_sem,Act.eval,Act.put,hw1])) (s:=trivial) (h:= ?_);go_frame;refine tZ 8 69 (.pointer (some ⟨g,q * 6,none⟩)) (r:=(fun w' hS=>by simp[execOp,go_sem,Act.eval,Act.put];intro h;omega)) (s:=trivial) (h:= ?_);go_frame;refine tZ 10 71 (.slice (some ⟨g,0,none⟩) N cap) (r:=(fun w' hS=>by simp[execOp,go_sem,Act.eval,Act.put])) (s:=trivial) (h:= ?_);go_frame;refine tZ 11 72 (.int .i64 ((p:Nat):Int)) (r:=(fun w' hS=>by simp[execOp,go_sem,Act.eval,Act.put])) (s:=trivial) (h:= ?_);go_frame;refine tZ 12 73 (.pointer (some ⟨g,p * 6,none⟩)) (r:=(fun w' hS=>by simp[execOp,go_sem,Act.eval,Act.put];intro h;omega)) (s:=trivial) (h:= ?_);go_frame;refine ZaY (i:=9) (j:=13) (by kernel_rfl) ?_ ?_
     · refine Zak (i:=9) (d:=some 70) (n:=6) (b:=g) (j:=q * 6) (vs:=x2.cells) rfl rfl (by kernel_rfl) rfl (by exact rfl) hA sZ (by kernel_rfl) (by kernel_rfl) hv1 rfl ?_;refine⟨trivial,?_⟩;go_frame;refine Zab (i:=13) (by kernel_rfl) ?_;refine Zak (i:=13) (d:=some 74) (n:=6) (b:=g) (j:=p * 6) (vs:=x1.cells) rfl rfl (by kernel_rfl) rfl (by exact rfl) hA sZ (by kernel_rfl) (by kernel_rfl) hv0 rfl ?_;refine⟨trivial,?_⟩;go_frame;refine tZ 14 75 (.pointer (some ⟨g,p * 6,none⟩)) (r:=(fun w' hS=>by simp[execOp,go_sem,Act.eval,Act.put];intro h;omega)) (s:=trivial) (h:= ?_);go_frame;refine Zab (i:=15) (by kernel_rfl) ?_;refine Zaw (i:=15) (b:=g) (j:=p * 6) (vs:=x2.cells) rfl rfl (by kernel_rfl) rfl (by exact rfl) (by exact rfl) rfl hA sZ (by kernel_rfl) (List.all_eq_true.2 (Ent.one _)) (by rw[Ent.cells_len,hcl];omega) ?_;intro w3 hB;clear hA;have hA:=hB;clear hB;refine⟨trivial,?_⟩;go_frame;refine tZ 16 76 (.pointer (some ⟨g,q * 6,none⟩)) (r:=(fun w' hS=>by simp[execOp,go_sem,Act.eval,Act.put];intro h;omega)) (s:=trivial) (h:= ?_);go_frame;refine Zab (i:=17) (by kernel_rfl) ?_;refine Zaw (i:=17) (b:=g) (j:=q * 6) (vs:=x1.cells) rfl rfl (by kernel_rfl) rfl (by exact rfl) (by exact rfl) rfl hA sZ (by kernel_rfl) (List.all_eq_true.2 (Ent.one _)) (by rw[Ent.cells_len,Zaj,hcl];omega) ?_;intro w3 hB;clear hA;have hA:=hB;clear hB;refine⟨trivial,?_⟩;go_frame;refine wpAnyH_done (by kernel_rfl) ?_ _
       (try go_frame);clear hv0 hv1;have hC:=hA.row_shut (e:=55) (size:=6) (g:=g) (n:=N) (cap:=cap) (xs:=(swp M p q).flatMap Ent.cells) sZ (by rw[Zaj,Zaj,hcl]) hcp hcm hnew.out;rw[show Part.row 55 6 (.slice (some ⟨g,0,none⟩) N cap) N ((swp M p q).flatMap Ent.cells)=rowL (.slice (some ⟨g,0,none⟩) N cap) (swp M p q) by rw[←hswl'.out]] at hC;clear hA;have hA:=hC;clear hC;rw[←hsw.out] at hA;obtain⟨hA,hF⟩:=fZ hA;go_wp2_with fail;go_roundg (gk - 1);case measure=>omega
       case rel=>exact⟨t + 1,q,rfl,by have:=htp'.out;have:=hpq'.out;omega,by omega,hA.pick pZ⟩
     refine Zak (i:=13) (d:=some 74) (n:=6) (b:=g) (j:=p * 6) (vs:=x1.cells) rfl rfl (by kernel_rfl) rfl (by exact rfl) hA sZ (by kernel_rfl) (by kernel_rfl) hv0 rfl ?_;refine⟨trivial,?_⟩;go_frame;refine Zab (i:=9) (by kernel_rfl) ?_;refine Zak (i:=9) (d:=some 70) (n:=6) (b:=g) (j:=q * 6) (vs:=x2.cells) rfl rfl (by kernel_rfl) rfl (by exact rfl) hA sZ (by kernel_rfl) (by kernel_rfl) hv1 rfl ?_;refine⟨trivial,?_⟩;go_frame;refine tZ 14 75 (.pointer (some ⟨g,p * 6,none⟩)) (r:=(fun w' hS=>by simp[execOp,go_sem,Act.eval,Act.put];intro h;omega)) (s:=trivial) (h:= ?_);go_frame;refine Zab (i:=15) (by kernel_rfl) ?_;refine Zaw (i:=15) (b:=g) (j:=p * 6) (vs:=x2.cells) rfl rfl (by kernel_rfl) rfl (by exact rfl) (by exact rfl) rfl hA sZ (by kernel_rfl) (List.all_eq_true.2 (Ent.one _)) (by rw[Ent.cells_len,hcl];omega) ?_;intro w3 hB;clear hA;have hA:=hB;clear hB;refine⟨trivial,?_⟩;go_frame;refine tZ 16 76 (.pointer (some ⟨g,q * 6,none⟩)) (r:=(fun w' hS=>by simp[execOp,go_sem,Act.eval,Act.put];intro h;omega)) (s:=trivial) (h:= ?_);go_frame;refine Zab (i:=17) (by kernel_rfl) ?_;refine Zaw (i:=17) (b:=g) (j:=q * 6) (vs:=x1.cells) rfl rfl (by kernel_rfl) rfl (by exact rfl) (by exact rfl) rfl hA sZ (by kernel_rfl) (List.all_eq_true.2 (Ent.one _)) (by rw[Ent.cells_len,Zaj,hcl];omega) ?_;intro w3 hB;clear hA;have hA:=hB;clear hB;refine⟨trivial,?_⟩;go_frame;refine wpAnyH_done (by kernel_rfl) ?_ _
     (try go_frame);clear hv0 hv1;have hC:=hA.row_shut (e:=55) (size:=6) (g:=g) (n:=N) (cap:=cap) (xs:=(swp M p q).flatMap Ent.cells) sZ (by rw[Zaj,Zaj,hcl]) hcp hcm hnew.out;rw[show Part.row 55 6 (.slice (some ⟨g,0,none⟩) N cap) N ((swp M p q).flatMap Ent.cells)=rowL (.slice (some ⟨g,0,none⟩) N cap) (swp M p q) by rw[←hswl'.out]] at hC;clear hA;have hA:=hC;clear hC;rw[←hsw.out] at hA;obtain⟨hA,hF⟩:=fZ hA;go_wp2_with fail;go_roundg (gk - 1);case measure=>omega
     case rel=>exact⟨t + 1,q,rfl,by have:=htp'.out;have:=hpq'.out;omega,by omega,hA.pick pZ⟩
   obtain rfl:t=r:=by omega
   subst htp;rw[hZ'.out] at hA;clear hM hMl;have hlt:¬(a + t < a + t):=by omega
   obtain⟨hA,hF⟩:=fZ hA;go_wp2_with fail;refine bodyPost_ret (results_none rfl _ _ _) rfl ?_;exact⟨rfl,Z,hZp'.out,hZs'.out,hA.pick pZ⟩
end Sta
end
section
namespace Sta
open Go.RowKit
open Lock (Ent rowL)
def BdRel (w:World) (v:Value) (L:List Ent) (m r:Nat) (k:Nat) (u:Value) (wr:World):Prop:=
 ∃t p:Nat,u=.int .i64 p∧p + t=m∧t + k=r∧At [rowL v L] w [rowL v (bubD L m t)] wr
theorem ZnU {w:World} {v:Value} {P X S:List Ent} {x:Ent} (h:Sep [rowL v (P++(X++([x]++S)))] w) (a m b:Nat) (ha:P.length=a) (hm0:a + X.length=m) (hb:m + 1=b) (hx1:1 < X.length) (sx:Srt stp X) (hl:(P++(X++([x]++S))).length≤1000000):
 Calls Tryz.prog 111 #[v,.int .i64 a,.int .i64 m,.int .i64 b,.func (.func 37) #[] #[]] w (MerP w v P X [x] S):=by
 have hm:Tryz.prog.follows .mixedOrders=true:=by kernel_rfl
 have hA:=At.start h;clear h;have hend:=fun i=>Znr (S:=S) (y:=x) (i:=i) ha hm0 sx
 have hx:(P++(X++([x]++S)))[m]? =some x:=by
  rw[show P++(X++([x]++S))=(P++X)++([x]++S) by simp,List.getElem?_append_right (by simp;omega),show m - (P++X).length=0 by simp;omega];rfl
 have hlen:b≤(P++(X++([x]++S))).length:=by simp only[List.length_append,List.length_cons,List.length_nil];omega
 unfold MerP
 obtain⟨L,hL⟩:∃L,P++(X++([x]++S))=L:=⟨_,rfl⟩
 rw[hL] at hA hl hlen hx hend ⊢
 obtain⟨N,hN⟩:∃N,L.length=N:=⟨_,rfl⟩
 rw[hN] at hl hlen;obtain⟨ax,cap,hv,_,hcp,_⟩:=hA.row_form (v:=v) (xs:=L.flatMap Ent.cells) sZ;rw[hN] at hv hcp;subst hv;obtain⟨g,_,rfl,_,_,_,_,_⟩:=hA.row_open (e:=55) (size:=6) (ax:=ax) (cap:=cap) (n:=N) (xs:=L.flatMap Ent.cells) (by rw[←hN];exact Sel.here) (by omega)
 obtain⟨dx,hdx⟩:∃d,X.length=d:=⟨_,rfl⟩
 have hw0:IntKind.i64.wrap ((m:Int) - (a:Int))=(dx:Int):=by rw[IntKind.wrap_i64]<;>omega
 have hne:((dx:Int)==1)=false:=by rw[beq_eq_false_iff_ne];omega
 have hw6:IntKind.i64.wrap ((b:Int) - (m:Int))=1:=by rw[IntKind.wrap_i64]<;>omega
 have ham:a≤m:=by omega
 have hmN:m < N:=by omega
 have hva:=Hd (Zdt (g:=g) (n:=N) (cap:=cap) hx);have hLl':=Hd hN;have hend':=Hd hend;clear hL hN hx hend ha sx hdx hx1 hm0;obtain⟨hA,hF⟩:=fZ hA;go_enter Tryz.func111,Tryz.ntmps111;go_wp2_with fail;(try go_frame);clear hw0 hne hw6;go_loopg [14,15] (m - a) (BsRel w (.slice (some ⟨g,0,none⟩) N cap) L (highP L x.stamp) a m)
 case atStart=>exact⟨a,m,rfl,rfl,Bs.start _ ham,rfl,hA.pick pZ⟩
 case round=>
  obtain⟨i,j,rfl,rfl,hbs,hk,hB⟩:=hrel;replace hA:=hB;clear hF hB;have hbs':=Hd hbs;obtain⟨hb1,hb2,hb3,_,_⟩:=hbs;by_cases hij:i < j
  · obtain⟨s,h,hw1,hw2,hw3,hw4,hih,hhj,_,hw5⟩:=Zcr hij (by omega);have hhN:h < N:=by omega
    obtain⟨y,hy⟩:∃y,L[h]? =some y:=⟨_,List.getElem?_eq_getElem (by have:=hLl'.out;omega)⟩
    have hvh:=Hd (Zdt (g:=g) (n:=N) (cap:=cap) hy);have hy':=Hd hy;have hcm:=fun(w1:World)=>ZdF x y w1;have hlt:=ZfX x y;generalize cmpT x y=cv at *
    have hlt':=Hd hlt;have hcm':=Hd hcm;clear hy hcm hlt;by_cases hd:cv < 0
    · have hbn:=Hd (show Bs (highP L x.stamp) a m i h from by
       have hxy:=hlt'.out;rw[decide_eq_true hd] at hxy;have hxy:=of_decide_eq_true hxy.symm
       exact hbs'.out.down hih hhj (fun⟨z,hz,hq⟩=>by have e:=hy'.out.symm.trans hz;cases e;omega))
      obtain⟨hA,hF⟩:=fZ hA;go_wp2_with fail;(try go_frame);refine cl10 hA ?_;clear hF hA;intro w1 hA hF;(try simp only[uZ] at hA hF);go_wp2_with fail;go_roundg (h - i);case measure=>omega
      case rel=>exact⟨i,h,rfl,rfl,hbn.out,rfl,hA.pick pZ⟩
    have hbn:=Hd (show Bs (highP L x.stamp) a m (h + 1) j from by
     have hxy:=hlt'.out;rw[decide_eq_false hd] at hxy;have hxy:=of_decide_eq_false hxy.symm
     exact hbs'.out.up hih hhj ⟨y,hy'.out,by omega⟩)
    have hdb:(!decide (cv < 0))=true:=by rw[decide_eq_false hd];rfl
    obtain⟨hA,hF⟩:=fZ hA;go_wp2_with fail;(try go_frame);refine cl10 hA ?_;clear hF hA;intro w1 hA hF;(try simp only[uZ] at hA hF);go_wp2_with fail;go_roundg (j - (h + 1));case measure=>omega
    case rel=>exact⟨h + 1,j,rfl,rfl,hbn.out,rfl,hA.pick pZ⟩
  obtain rfl:i=j:=by omega
  obtain⟨r,Z,hri,hZp,hZs,hZ⟩:=hend'.out i hbs'.out;have hZ':=Hd hZ;have hZp':=Hd hZp;have hZs':=Hd hZs;clear hZ hZp hZs hk hij;obtain⟨hA,hF⟩:=fZ hA;go_wp2_with fail;(try go_frame);clear hF;go_loopg [17] r (BdRel w (.slice (some ⟨g,0,none⟩) N cap) L m r)
  case atStart=>exact⟨0,m,rfl,rfl,by omega,hA.pick pZ⟩
  case round=>
   clear hA;obtain⟨t,p,rfl,htp,htk,hA⟩:=hrel
   obtain⟨M,hM⟩:∃M,bubD L m t=M:=⟨_,rfl⟩
   have hMl:M.length=N:=by rw[←hM,ZiA];exact hLl'.out
   by_cases htr:t < r
   · obtain⟨q,hpq⟩:∃q,q + 1=p:=⟨p - 1,by omega⟩
     have hqN:q < N:=by omega
     have hpN:p < N:=by omega
     have hsw:=Hd (show bubD L m (t + 1)=swp M p q by rw[show p=m - t by omega,show q=m - t - 1 by omega,←hM];rfl)
     obtain⟨x1,hM1⟩:∃x1,M[p]? =some x1:=⟨_,List.getElem?_eq_getElem (by omega)⟩
     obtain⟨x2,hM2⟩:∃x2,M[q]? =some x2:=⟨_,List.getElem?_eq_getElem (by omega)⟩
     rw[hM] at hA;have hMl':=Hd hMl;have hM1':=Hd hM1;have hM2':=Hd hM2;have hlt:i < p:=by omega
     have hw1':IntKind.i64.wrap ((p:Int) - 1)=(q:Int):=by rw[IntKind.wrap_i64]<;>omega
     have htp':=Hd htp;have hpq':=Hd hpq;clear hM hMl hM1 hM2 htp hpq;have hw1:=hw1';clear hw1';rw[show rowL (.slice (some ⟨g,0,none⟩) N cap) M=Part.row 55 6 (.slice (some ⟨g,0,none⟩) N cap) N (M.flatMap Ent.cells) by rw[←hMl'.out]] at hA;obtain⟨g',c,e',_,hcm,hcl,hct,hB⟩:=hA.row_open (e:=55) (size:=6) (ax:=some ⟨g,0,none⟩) (cap:=cap) (n:=N) (xs:=M.flatMap Ent.cells) sZ (by omega);cases e';clear hA;have hA:=hB;clear hB;rw[←hMl'.out] at hct;have hv0:=Zbe hct hM1'.out;have hv1:=Zbe hct hM2'.out;have hnew0:=Zcn hct hM1'.out hM2'.out;rw[hMl'.out] at hnew0;have hnew:=Hd hnew0;have hswl':=Hd (show(swp M p q).length=N by rw[ZcH];exact hMl'.out);clear hct hnew0;obtain⟨hA,hF⟩:=fZ hA;go_wp2_with fail;(try go_frame);replace hA:=hA.drew;clear hF;refine wp_region_held (S:=fun _=>True) hm ?_;change wpAnyH _ _ _ _ _ 18 _ _ (World.drew _);generalize World.drew _=wd at *
     refine tZ 0 113 (.slice (some ⟨g,0,none⟩) N cap) (r:=(fun w' hS=>by simp[execOp,go_sem,Act.eval,Act.put])) (s:=trivial) (h:= ?_);go_frame;refine tZ 1 114 (.int .i64 ((p:Nat):Int)) (r:=(fun w' hS=>by simp[execOp,go_sem,Act.eval,Act.put])) (s:=trivial) (h:= ?_);go_frame;refine tZ 2 115 (.slice (some ⟨g,0,none⟩) N cap) (r:=(fun w' hS=>by simp[execOp,go_sem,Act.eval,Act.put])) (s:=trivial) (h:= ?_);go_frame;refine tZ 3 116 (.int .i64 ((p:Nat):Int)) (r:=(fun w' hS=>by simp[execOp,go_sem,Act.eval,Act.put])) (s:=trivial) (h:= ?_);go_frame;refine tZ 4 117 (.int .i64 ((q:Nat):Int)) (r:=(fun w' hS=>by simp[execOp,go_sem,Act.eval,Act.put,hw1])) (s:=trivial) (h:= ?_);go_frame;refine tZ 5 118 (.slice (some ⟨g,0,none⟩) N cap) (r:=(fun w' hS=>by simp[execOp,go_sem,Act.eval,Act.put])) (s:=trivial) (h:= ?_);go_frame;refine tZ 6 119 (.int .i64 ((p:Nat):Int)) (r:=(fun w' hS=>by simp[execOp,go_sem,Act.eval,Act.put])) (s:=trivial) (h:= ?_);go_frame;refine tZ 7 120 (.int .i64 ((q:Nat):Int)) (r:=(fun w' hS=>by simp[execOp,go_sem,Act.eval,Act.put,hw1])) (s:=trivial) (h:= ?_);go_frame;refine tZ 8 121 (.pointer (some ⟨g,q * 6,none⟩)) (r:=(fun w' hS=>by simp[execOp,go_sem,Act.eval,Act.put];intro h;omega)) (s:=trivial) (h:= ?_);go_frame;refine tZ 10 123 (.slice (some ⟨g,0,none⟩) N cap) (r:=(fun w' hS=>by simp[execOp,go_sem,Act.eval,Act.put])) (s:=trivial) (h:= ?_);go_frame;refine tZ 11 124 (.int .i64 ((p:Nat):Int)) (r:=(fun w' hS=>by simp[execOp,go_sem,Act.eval,Act.put])) (s:=trivial) (h:= ?_);go_frame;refine tZ 12 125 (.pointer (some ⟨g,p * 6,none⟩)) (r:=(fun w' hS=>by simp[execOp,go_sem,Act.eval,Act.put];intro h;omega)) (s:=trivial) (h:= ?_);go_frame;refine ZaY (i:=9) (j:=13) (by kernel_rfl) ?_ ?_
     · refine Zak (i:=9) (d:=some 122) (n:=6) (b:=g) (j:=q * 6) (vs:=x2.cells) rfl rfl (by kernel_rfl) rfl (by exact rfl) hA sZ (by kernel_rfl) (by kernel_rfl) hv1 rfl ?_;refine⟨trivial,?_⟩;go_frame;refine Zab (i:=13) (by kernel_rfl) ?_;refine Zak (i:=13) (d:=some 126) (n:=6) (b:=g) (j:=p * 6) (vs:=x1.cells) rfl rfl (by kernel_rfl) rfl (by exact rfl) hA sZ (by kernel_rfl) (by kernel_rfl) hv0 rfl ?_;refine⟨trivial,?_⟩;go_frame;refine tZ 14 127 (.pointer (some ⟨g,p * 6,none⟩)) (r:=(fun w' hS=>by simp[execOp,go_sem,Act.eval,Act.put];intro h;omega)) (s:=trivial) (h:= ?_);go_frame;refine Zab (i:=15) (by kernel_rfl) ?_;refine Zaw (i:=15) (b:=g) (j:=p * 6) (vs:=x2.cells) rfl rfl (by kernel_rfl) rfl (by exact rfl) (by exact rfl) rfl hA sZ (by kernel_rfl) (List.all_eq_true.2 (Ent.one _)) (by rw[Ent.cells_len,hcl];omega) ?_;intro w3 hB;clear hA;have hA:=hB;clear hB;refine⟨trivial,?_⟩;go_frame;refine tZ 16 128 (.pointer (some ⟨g,q * 6,none⟩)) (r:=(fun w' hS=>by simp[execOp,go_sem,Act.eval,Act.put];intro h;omega)) (s:=trivial) (h:= ?_);go_frame;refine Zab (i:=17) (by kernel_rfl) ?_;refine Zaw (i:=17) (b:=g) (j:=q * 6) (vs:=x1.cells) rfl rfl (by kernel_rfl) rfl (by exact rfl) (by exact rfl) rfl hA sZ (by kernel_rfl) (List.all_eq_true.2 (Ent.one _)) (by rw[Ent.cells_len,Zaj,hcl];omega) ?_;intro w3 hB;clear hA;have hA:=hB;clear hB;refine⟨trivial,?_⟩;go_frame;refine wpAnyH_done (by kernel_rfl) ?_ _
       (try go_frame);clear hv0 hv1;have hC:=hA.row_shut (e:=55) (size:=6) (g:=g) (n:=N) (cap:=cap) (xs:=(swp M p q).flatMap Ent.cells) sZ (by rw[Zaj,Zaj,hcl]) hcp hcm hnew.out;rw[show Part.row 55 6 (.slice (some ⟨g,0,none⟩) N cap) N ((swp M p q).flatMap Ent.cells)=rowL (.slice (some ⟨g,0,none⟩) N cap) (swp M p q) by rw[←hswl'.out]] at hC;clear hA;have hA:=hC;clear hC;rw[←hsw.out] at hA;obtain⟨hA,hF⟩:=fZ hA;go_wp2_with fail;go_roundg (gk - 1);case measure=>omega
       case rel=>exact⟨t + 1,q,rfl,by have:=htp'.out;have:=hpq'.out;omega,by omega,hA.pick pZ⟩
     refine Zak (i:=13) (d:=some 126) (n:=6) (b:=g) (j:=p * 6) (vs:=x1.cells) rfl rfl (by kernel_rfl) rfl (by exact rfl) hA sZ (by kernel_rfl) (by kernel_rfl) hv0 rfl ?_;refine⟨trivial,?_⟩;go_frame;refine Zab (i:=9) (by kernel_rfl) ?_;refine Zak (i:=9) (d:=some 122) (n:=6) (b:=g) (j:=q * 6) (vs:=x2.cells) rfl rfl (by kernel_rfl) rfl (by exact rfl) hA sZ (by kernel_rfl) (by kernel_rfl) hv1 rfl ?_;refine⟨trivial,?_⟩;go_frame;refine tZ 14 127 (.pointer (some ⟨g,p * 6,none⟩)) (r:=(fun w' hS=>by simp[execOp,go_sem,Act.eval,Act.put];intro h;omega)) (s:=trivial) (h:= ?_);go_frame;refine Zab (i:=15) (by kernel_rfl) ?_;refine Zaw (i:=15) (b:=g) (j:=p * 6) (vs:=x2.cells) rfl rfl (by kernel_rfl) rfl (by exact rfl) (by exact rfl) rfl hA sZ (by kernel_rfl) (List.all_eq_true.2 (Ent.one _)) (by rw[Ent.cells_len,hcl];omega) ?_;intro w3 hB;clear hA;have hA:=hB;clear hB;refine⟨trivial,?_⟩;go_frame;refine tZ 16 128 (.pointer (some ⟨g,q * 6,none⟩)) (r:=(fun w' hS=>by simp[execOp,go_sem,Act.eval,Act.put];intro h;omega)) (s:=trivial) (h:= ?_);go_frame;refine Zab (i:=17) (by kernel_rfl) ?_;refine Zaw (i:=17) (b:=g) (j:=q * 6) (vs:=x1.cells) rfl rfl (by kernel_rfl) rfl (by exact rfl) (by exact rfl) rfl hA sZ (by kernel_rfl) (List.all_eq_true.2 (Ent.one _)) (by rw[Ent.cells_len,Zaj,hcl];omega) ?_;intro w3 hB;clear hA;have hA:=hB;clear hB;refine⟨trivial,?_⟩;go_frame;refine wpAnyH_done (by kernel_rfl) ?_ _
     (try go_frame);clear hv0 hv1;have hC:=hA.row_shut (e:=55) (size:=6) (g:=g) (n:=N) (cap:=cap) (xs:=(swp M p q).flatMap Ent.cells) sZ (by rw[Zaj,Zaj,hcl]) hcp hcm hnew.out;rw[show Part.row 55 6 (.slice (some ⟨g,0,none⟩) N cap) N ((swp M p q).flatMap Ent.cells)=rowL (.slice (some ⟨g,0,none⟩) N cap) (swp M p q) by rw[←hswl'.out]] at hC;clear hA;have hA:=hC;clear hC;rw[←hsw.out] at hA;obtain⟨hA,hF⟩:=fZ hA;go_wp2_with fail;go_roundg (gk - 1);case measure=>omega
     case rel=>exact⟨t + 1,q,rfl,by have:=htp'.out;have:=hpq'.out;omega,by omega,hA.pick pZ⟩
   obtain rfl:t=r:=by omega
   obtain rfl:p=i:=by omega
   rw[hZ'.out] at hA;clear hM hMl;have hlt:¬(p < p):=by omega
   obtain⟨hA,hF⟩:=fZ hA;go_wp2_with fail;refine bodyPost_ret (results_none rfl _ _ _) rfl ?_;exact⟨rfl,Z,hZp'.out,hZs'.out,hA.pick pZ⟩
end Sta
end
section
namespace Sta
open Go.RowKit
open Lock (Ent rowL)
def CutM (w:World) (v:Value) (L:List Ent) (a b m mid n:Nat) (u1 u2:Value) (wc:World):Prop:=
 ∃s0 r0:Nat,u1=.int .i64 s0∧u2=.int .i64 r0∧((mid < m∧s0 + b=n∧r0=mid)∨(m≤mid∧s0=a∧r0=m))∧At [rowL v L] w [rowL v L] wc
def MerI (k:Nat) (v:Value):Prop:=∀(w:World) (P X Y S:List Ent),Sep [rowL v (P++(X++(Y++S)))] w→∀a m b:Nat,P.length=a→a + X.length=m→m + Y.length=b→0 < X.length→0 < Y.length→Srt stp X→Srt stp Y→X.length + Y.length < k→(P++(X++(Y++S))).length≤1000000→
 Calls Tryz.prog 111 #[v,.int .i64 a,.int .i64 m,.int .i64 b,.func (.func 37) #[] #[]] w (MerP w v P X Y S)
theorem Zme {w:World} {v:Value} {P X Y S:List Ent} (h:Sep [rowL v (P++(X++(Y++S)))] w) (a m b:Nat) (ha0:P.length=a) (hm0:a + X.length=m) (hb:m + Y.length=b) (hx1:1 < X.length) (hy1:1 < Y.length) (sx:Srt stp X) (sy:Srt stp Y)
 (ih:MerI (X.length + Y.length) v) (hl:(P++(X++(Y++S))).length≤1000000):
 Calls Tryz.prog 111 #[v,.int .i64 a,.int .i64 m,.int .i64 b,.func (.func 37) #[] #[]] w (MerP w v P X Y S):=by
 have hA:=At.start h;clear h;have hlen:b≤(P++(X++(Y++S))).length:=by simp only[List.length_append];omega
 obtain⟨hs,mid,hw1,hw2,hw3,hw4,ham,hmb,hmid,_⟩:=Zcr (i:=a) (j:=b) (by omega) (by omega)
 have hmm:a + b - 1≤mid + mid∧mid + mid≤a + b:=by
  have h0:IntKind.i64.wrap ((a:Int) + (b:Int))=(a:Int) + (b:Int):=by rw[IntKind.wrap_i64]<;>omega
  have h1:hs=a + b:=by omega
  omega
 obtain⟨n,hn⟩:∃n,mid + m=n:=⟨_,rfl⟩
 obtain⟨q,hq⟩:∃q,n - 1=q:=⟨_,rfl⟩
 have hend:=fun s0 r0 s h0=>ZnW (S:=S) (s0:=s0) (r0:=r0) (s:=s) ha0 hm0 hb (by omega) (by omega) (show(a + b) / 2=mid by omega) hn h0 sx sy;rw[hq] at hend;unfold MerP
 obtain⟨L,hL⟩:∃L,P++(X++(Y++S))=L:=⟨_,rfl⟩
 rw[hL] at hA hl hlen hend ⊢
 obtain⟨N,hN⟩:∃N,L.length=N:=⟨_,rfl⟩
 rw[hN] at hl hlen;obtain⟨ax,cap,hv,_,hcp,_⟩:=hA.row_form (v:=v) (xs:=L.flatMap Ent.cells) sZ;rw[hN] at hv hcp;subst hv;obtain⟨g,_,rfl,_,_,_,_,_⟩:=hA.row_open (e:=55) (size:=6) (ax:=ax) (cap:=cap) (n:=N) (xs:=L.flatMap Ent.cells) (by rw[←hN];exact Sel.here) (by omega)
 obtain⟨dx,hdx⟩:∃d,X.length=d:=⟨_,rfl⟩
 obtain⟨dy,hdy⟩:∃d,Y.length=d:=⟨_,rfl⟩
 have hw5:IntKind.i64.wrap ((m:Int) - (a:Int))=(dx:Int):=by rw[IntKind.wrap_i64]<;>omega
 have hne:((dx:Int)==1)=false:=by rw[beq_eq_false_iff_ne];omega
 have hw6:IntKind.i64.wrap ((b:Int) - (m:Int))=(dy:Int):=by rw[IntKind.wrap_i64]<;>omega
 have hne2:((dy:Int)==1)=false:=by rw[beq_eq_false_iff_ne];omega
 have hw7:IntKind.i64.wrap ((mid:Int) + (m:Int))=(n:Int):=by rw[IntKind.wrap_i64]<;>omega
 have ham':a + 2≤m:=by omega
 have hmb':m + 2≤b:=by omega
 have hLl':=Hd hN;have hend':=Hd hend;have ih':=Hd ih;have ha:=Hd ha0;have sx':=Hd sx;have sy':=Hd sy;have hL':=Hd hL;clear hL hN hend ih ha0 sx sy hdx hdy hx1 hy1 hm0 hb;obtain⟨hA,hF⟩:=fZ hA;go_enter Tryz.func111,Tryz.ntmps111;go_upto_if 140 with fail
 (try go_frame);clear hw1 hw2 hw3 hw4 hw5 hne hw6 hne2 hw7;go_cut [20,21] from 141 to 146 (CutM w (.slice (some ⟨g,0,none⟩) N cap) L a b m mid n)
 case first=>
  by_cases hc:mid < m
  · obtain⟨s0,hs0⟩:∃s0,s0 + b=n:=⟨n - b,by omega⟩
    have hw8:IntKind.i64.wrap ((n:Int) - (b:Int))=(s0:Int):=by rw[IntKind.wrap_i64]<;>omega
    obtain⟨hA,hF⟩:=fZ hA;go_wp2_with fail;go_meet;case rel=>exact⟨s0,mid,rfl,rfl,.inl ⟨hc,hs0,rfl⟩,hA⟩
  have hF:=hA.facts;obtain⟨hA,hF⟩:=fZ hA;go_wp2_with fail;go_meet;case rel=>exact⟨a,m,rfl,rfl,.inr ⟨by omega,rfl,rfl⟩,hA⟩
 case rest=>
  obtain⟨s0,r0,rfl,rfl,hcs0,hB⟩:=hcut;clear hA hF;have hA:=hB;clear hB;have hcs:=Hd hcs0;have hsr:s0≤r0:=by rcases hcs0 with⟨q1,q2,q3⟩|⟨q1,q2,q3⟩<;>omega
  have hrN:r0≤m:=by rcases hcs0 with⟨q1,q2,q3⟩|⟨q1,q2,q3⟩<;>omega
  clear hcs0;have hw9:IntKind.i64.wrap ((n:Int) - 1)=(q:Int):=by rw[IntKind.wrap_i64]<;>omega
  obtain⟨hA,hF⟩:=fZ hA;go_wp2_with fail;(try go_frame);clear hw9;go_loopg [20,21] (r0 - s0) (BsRel w (.slice (some ⟨g,0,none⟩) N cap) L (pairP L q) s0 r0)
  case atStart=>exact⟨s0,r0,rfl,rfl,Bs.start _ hsr,rfl,hA.pick pZ⟩
  case round=>
   obtain⟨i,j,rfl,rfl,hbs,hk,hB⟩:=hrel;replace hA:=hB;clear hF hB;have hbs':=Hd hbs;obtain⟨hb1,hb2,hb3,_,_⟩:=hbs;by_cases hij:i < j
   · obtain⟨s,h,hw1,hw2,hw3,hw4,hih,hhj,_,hw5⟩:=Zcr hij (by omega);have hhN:h < N:=by omega
     obtain⟨y,hy⟩:∃y,L[h]? =some y:=⟨_,List.getElem?_eq_getElem (by have:=hLl'.out;omega)⟩
     have hvh:=Hd (Zdt (g:=g) (n:=N) (cap:=cap) hy);have hy':=Hd hy
     have hqh:q - h < N∧h≤q:=by
      rcases hcs.out with⟨q1,q2,q3⟩|⟨q1,q2,q3⟩<;>omega
     obtain⟨e1,he1⟩:∃e1,q - h=e1:=⟨_,rfl⟩
     have hw6:IntKind.i64.wrap ((q:Int) - (h:Int))=(e1:Int):=by rw[IntKind.wrap_i64]<;>omega
     have he1N:e1 < N:=by omega
     obtain⟨z,hz⟩:∃z,L[e1]? =some z:=⟨_,List.getElem?_eq_getElem (by have:=hLl'.out;omega)⟩
     have hvz:=Hd (Zdt (g:=g) (n:=N) (cap:=cap) hz);have hz':=Hd (show L[q - h]? =some z by rw[he1];exact hz);clear hz he1 hqh;have hcm:=fun(w1:World)=>ZdF z y w1;have hlt:=ZfX z y;generalize cmpT z y=cv at *
     have hlt':=Hd hlt;have hcm':=Hd hcm;clear hy hcm hlt;by_cases hd:cv < 0
     · have hbn:=Hd (show Bs (pairP L q) s0 r0 i h from by
        have hxy:=hlt'.out;rw[decide_eq_true hd] at hxy;have hxy:=of_decide_eq_true hxy.symm
        exact hbs'.out.down hih hhj (fun⟨u',v',h1,h2,h3⟩=>by have e1:=hz'.out.symm.trans h1;have e2:=hy'.out.symm.trans h2;cases e1;cases e2;omega))
       obtain⟨hA,hF⟩:=fZ hA;go_wp2_with fail;(try go_frame);refine cl11 hA ?_;clear hF hA;intro w1 hA hF;(try simp only[uZ] at hA hF);go_wp2_with fail;go_roundg (h - i);case measure=>omega
       case rel=>exact⟨i,h,rfl,rfl,hbn.out,rfl,hA.pick pZ⟩
     have hbn:=Hd (show Bs (pairP L q) s0 r0 (h + 1) j from by
      have hxy:=hlt'.out;rw[decide_eq_false hd] at hxy;have hxy:=of_decide_eq_false hxy.symm
      exact hbs'.out.up hih hhj ⟨z,y,hz'.out,hy'.out,by omega⟩)
     have hdb:(!decide (cv < 0))=true:=by rw[decide_eq_false hd];rfl
     obtain⟨hA,hF⟩:=fZ hA;go_wp2_with fail;(try go_frame);refine cl11 hA ?_;clear hF hA;intro w1 hA hF;(try simp only[uZ] at hA hF);go_wp2_with fail;go_roundg (j - (h + 1));case measure=>omega
     case rel=>exact⟨h + 1,j,rfl,rfl,hbn.out,rfl,hA.pick pZ⟩
   obtain rfl:i=j:=by omega
   obtain⟨X1,X2,Y1,Y2,e,rfl,rfl,hse,hx1,hx2,hy1,hy2,hc1,hc2⟩:=hend'.out s0 r0 i hcs.out hbs'.out;have hsx:=ZaZ.1 sx'.out;have hsy:=ZaZ.1 sy'.out;have hc1':=Hd hc1;have hc2':=Hd hc2;have hw1:IntKind.i64.wrap ((n:Int) - (i:Int))=(e:Int):=by rw[IntKind.wrap_i64]<;>omega
   have hLe:L=(P++X1)++(X2++(Y1++(Y2++S))):=by rw[←hL'.out];simp
   have hsx1:=Hd hsx.1;have hxx:=Hd hsx.2.2;have hyy:=Hd hsy.2.2;have hsx2:=Hd hsx.2.1;have hsy1:=Hd hsy.1;have hsy2:=Hd hsy.2.1;have hLe':=Hd hLe;have hlen2:=Hd (show(P++X1).length + (X2.length + (Y1.length + (Y2.length + S.length)))=N by have:=hLl'.out;rw[hLe] at this;simp only[List.length_append] at this ⊢;omega);have hl2:(P++(X1++(Y1++(X2++(Y2++S))))).length≤1000000:=by have:=hlen2.out;simp only[List.length_append] at this ⊢;omega
   have hl2':=Hd hl2;have hLN:=Hd (show L.length≤1000000 by have:=hLl'.out;omega);clear hc1 hc2 hsx hsy hLe hend' sx' sy' hbs' hb1 hb2 hb3 hij hk hcs hl2;by_cases h1:i < m
   · by_cases h2:m < e
     · have hF:=hA.facts;obtain⟨hA,hF⟩:=fZ hA;rw[hLe'.out] at hA;go_wp2_with fail;refine(ZiP (P:=P++X1) (X:=X2) (Y:=Y1) (S:=Y2++S) (hA.sep1 (A:=rowL (.slice (some ⟨g,0,none⟩) N cap) ((P++X1)++(X2++(Y1++(Y2++S))))) sZ) i m e (.func (.func 37) #[] #[]) (by have:=ha.out;rw[List.length_append];omega) hx2 hy1 (by omega) (by omega) (by rw[←hLe'.out];exact hLN.out)).mono ?_;rintro e' w2 ⟨rfl,hT⟩;have hB:=hA.call1 (A:=rowL (.slice (some ⟨g,0,none⟩) N cap) ((P++X1)++(X2++(Y1++(Y2++S))))) sZ hT;clear hT;simp only[uA] at hB;clear hA;have hA:=hB;clear hB;rw[←hLe'.out] at hA;rw[List.append_assoc P X1] at hA;have h4:i < mid:=by omega
       have h5:mid < e:=by omega
       by_cases h3:a < i
       · go_wp2_with fail;refine(ih'.out _ P X1 Y1 (X2++(Y2++S)) (hA.sep1 (A:=rowL (.slice (some ⟨g,0,none⟩) N cap) (P++(X1++(Y1++(X2++(Y2++S)))))) sZ) a i mid ha.out hx1 (by omega) (by omega) (by omega) hsx1.out hsy1.out (by simp only[List.length_append];omega) hl2'.out).mono ?_;rintro e' w2 ⟨rfl,Z1,hp1,hs1,hT⟩;have hB:=hA.call1 (A:=rowL (.slice (some ⟨g,0,none⟩) N cap) (P++(X1++(Y1++(X2++(Y2++S)))))) sZ hT;clear hT;simp only[uA] at hB;clear hA;have hA:=hB;clear hB;rw[show P++(Z1++(X2++(Y2++S)))=((P++Z1)++(X2++(Y2++S))) by simp] at hA;have hz1:=hp1.length_eq;simp only[List.length_append] at hz1;have hPZ:(P++Z1).length=mid:=by have:=ha.out;simp only[List.length_append];omega
         have hl3:((P++Z1)++(X2++(Y2++S))).length≤1000000:=by have:=hlen2.out;simp only[List.length_append] at this ⊢;omega
         have hfin:=fun(Z2:List Ent) (p2:Z2.Perm (X2++Y2)) (s2:Srt stp Z2)=>ZdX (ZaZ.2 ⟨hsx1.out,hsx2.out,hxx.out⟩) (ZaZ.2 ⟨hsy1.out,hsy2.out,hyy.out⟩) hc1'.out hc2'.out hp1 p2 hs1 s2;have hfin':=Hd hfin;have hPZ':=Hd hPZ;have hl3':=Hd hl3;clear hp1 hs1 hfin hPZ hl3;by_cases h6:e < b
         · go_wp2_with fail;refine(ih'.out _ (P++Z1) X2 Y2 S (hA.sep1 (A:=rowL (.slice (some ⟨g,0,none⟩) N cap) ((P++Z1)++(X2++(Y2++S)))) sZ) mid e b hPZ'.out (by omega) hy2 (by omega) (by omega) hsx2.out hsy2.out (by simp only[List.length_append];omega) hl3'.out).mono ?_;rintro e' w2 ⟨rfl,Z2,hp2,hs2,hT⟩;have hB:=hA.call1 (A:=rowL (.slice (some ⟨g,0,none⟩) N cap) ((P++Z1)++(X2++(Y2++S)))) sZ hT;clear hT;simp only[uA] at hB;clear hA;have hA:=hB;clear hB;have hq:=Hd (hfin'.out Z2 hp2 hs2);clear hp2 hs2;go_wp2_with fail;go_end0
           exact⟨rfl,Z1++Z2,hq.out.2,hq.out.1,by simpa using hA⟩
         have hY2:Y2=[]:=List.eq_nil_of_length_eq_zero (by omega);have hq:=Hd (hfin'.out (X2++Y2) (.refl _) (by rw[hY2,List.append_nil];exact hsx2.out));go_wp2_with fail;go_end0
         exact⟨rfl,Z1++(X2++Y2),hq.out.2,hq.out.1,by simpa using hA⟩
       have hX1:X1=[]:=List.eq_nil_of_length_eq_zero (by omega);have hp1:(X1++Y1).Perm (X1++Y1):=.refl _;have hs1:Srt stp (X1++Y1):=by rw[hX1,List.nil_append];exact hsy1.out
       rw[←List.append_assoc X1] at hA;rw[show P++((X1++Y1)++(X2++(Y2++S)))=((P++(X1++Y1))++(X2++(Y2++S))) by simp] at hA;have hz1:=hp1.length_eq;simp only[List.length_append] at hz1;have hPZ:(P++(X1++Y1)).length=mid:=by have:=ha.out;simp only[List.length_append];omega
       have hl3:((P++(X1++Y1))++(X2++(Y2++S))).length≤1000000:=by have:=hlen2.out;simp only[List.length_append] at this ⊢;omega
       have hfin:=fun(Z2:List Ent) (p2:Z2.Perm (X2++Y2)) (s2:Srt stp Z2)=>ZdX (ZaZ.2 ⟨hsx1.out,hsx2.out,hxx.out⟩) (ZaZ.2 ⟨hsy1.out,hsy2.out,hyy.out⟩) hc1'.out hc2'.out hp1 p2 hs1 s2;have hfin':=Hd hfin;have hPZ':=Hd hPZ;have hl3':=Hd hl3;clear hp1 hs1 hfin hPZ hl3;by_cases h6:e < b
       · go_wp2_with fail;refine(ih'.out _ (P++(X1++Y1)) X2 Y2 S (hA.sep1 (A:=rowL (.slice (some ⟨g,0,none⟩) N cap) ((P++(X1++Y1))++(X2++(Y2++S)))) sZ) mid e b hPZ'.out (by omega) hy2 (by omega) (by omega) hsx2.out hsy2.out (by simp only[List.length_append];omega) hl3'.out).mono ?_;rintro e' w2 ⟨rfl,Z2,hp2,hs2,hT⟩;have hB:=hA.call1 (A:=rowL (.slice (some ⟨g,0,none⟩) N cap) ((P++(X1++Y1))++(X2++(Y2++S)))) sZ hT;clear hT;simp only[uA] at hB;clear hA;have hA:=hB;clear hB;have hq:=Hd (hfin'.out Z2 hp2 hs2);clear hp2 hs2;go_wp2_with fail;go_end0
         exact⟨rfl,(X1++Y1)++Z2,hq.out.2,hq.out.1,by simpa using hA⟩
       have hY2:Y2=[]:=List.eq_nil_of_length_eq_zero (by omega);have hq:=Hd (hfin'.out (X2++Y2) (.refl _) (by rw[hY2,List.append_nil];exact hsx2.out));go_wp2_with fail;go_end0
       exact⟨rfl,(X1++Y1)++(X2++Y2),hq.out.2,hq.out.1,by simpa using hA⟩
     have hY1:Y1=[]:=List.eq_nil_of_length_eq_zero (by omega);replace hA:=Eq.subst (motive:=fun z=>At [rowL (.slice (some ⟨g,0,none⟩) N cap) L] w [rowL (.slice (some ⟨g,0,none⟩) N cap) z] wr) (show L=P++(X1++(Y1++(X2++(Y2++S)))) by rw[hLe'.out,hY1];simp) hA;have h4:¬(i < mid):=by omega
     have h5:mid < e:=by omega
     have hp1:(X1++Y1).Perm (X1++Y1):=.refl _;have hs1:Srt stp (X1++Y1):=by rw[hY1,List.append_nil];exact hsx1.out
     rw[←List.append_assoc X1] at hA;rw[show P++((X1++Y1)++(X2++(Y2++S)))=((P++(X1++Y1))++(X2++(Y2++S))) by simp] at hA;have hz1:=hp1.length_eq;simp only[List.length_append] at hz1;have hPZ:(P++(X1++Y1)).length=mid:=by have:=ha.out;simp only[List.length_append];omega
     have hl3:((P++(X1++Y1))++(X2++(Y2++S))).length≤1000000:=by have:=hlen2.out;simp only[List.length_append] at this ⊢;omega
     have hfin:=fun(Z2:List Ent) (p2:Z2.Perm (X2++Y2)) (s2:Srt stp Z2)=>ZdX (ZaZ.2 ⟨hsx1.out,hsx2.out,hxx.out⟩) (ZaZ.2 ⟨hsy1.out,hsy2.out,hyy.out⟩) hc1'.out hc2'.out hp1 p2 hs1 s2;have hfin':=Hd hfin;have hPZ':=Hd hPZ;have hl3':=Hd hl3;clear hp1 hs1 hfin hPZ hl3;by_cases h3:a < i
     · by_cases h6:e < b
       · go_wp2_with fail;refine(ih'.out _ (P++(X1++Y1)) X2 Y2 S (hA.sep1 (A:=rowL (.slice (some ⟨g,0,none⟩) N cap) ((P++(X1++Y1))++(X2++(Y2++S)))) sZ) mid e b hPZ'.out (by omega) hy2 (by omega) (by omega) hsx2.out hsy2.out (by simp only[List.length_append];omega) hl3'.out).mono ?_;rintro e' w2 ⟨rfl,Z2,hp2,hs2,hT⟩;have hB:=hA.call1 (A:=rowL (.slice (some ⟨g,0,none⟩) N cap) ((P++(X1++Y1))++(X2++(Y2++S)))) sZ hT;clear hT;simp only[uA] at hB;clear hA;have hA:=hB;clear hB;have hq:=Hd (hfin'.out Z2 hp2 hs2);clear hp2 hs2;go_wp2_with fail;go_end0
         exact⟨rfl,(X1++Y1)++Z2,hq.out.2,hq.out.1,by simpa using hA⟩
       have hY2:Y2=[]:=List.eq_nil_of_length_eq_zero (by omega);have hq:=Hd (hfin'.out (X2++Y2) (.refl _) (by rw[hY2,List.append_nil];exact hsx2.out));go_wp2_with fail;go_end0
       exact⟨rfl,(X1++Y1)++(X2++Y2),hq.out.2,hq.out.1,by simpa using hA⟩
     by_cases h6:e < b
     · go_wp2_with fail;refine(ih'.out _ (P++(X1++Y1)) X2 Y2 S (hA.sep1 (A:=rowL (.slice (some ⟨g,0,none⟩) N cap) ((P++(X1++Y1))++(X2++(Y2++S)))) sZ) mid e b hPZ'.out (by omega) hy2 (by omega) (by omega) hsx2.out hsy2.out (by simp only[List.length_append];omega) hl3'.out).mono ?_;rintro e' w2 ⟨rfl,Z2,hp2,hs2,hT⟩;have hB:=hA.call1 (A:=rowL (.slice (some ⟨g,0,none⟩) N cap) ((P++(X1++Y1))++(X2++(Y2++S)))) sZ hT;clear hT;simp only[uA] at hB;clear hA;have hA:=hB;clear hB;have hq:=Hd (hfin'.out Z2 hp2 hs2);clear hp2 hs2;go_wp2_with fail;go_end0
       exact⟨rfl,(X1++Y1)++Z2,hq.out.2,hq.out.1,by simpa using hA⟩
     have hY2:Y2=[]:=List.eq_nil_of_length_eq_zero (by omega);have hq:=Hd (hfin'.out (X2++Y2) (.refl _) (by rw[hY2,List.append_nil];exact hsx2.out));go_wp2_with fail;go_end0
     exact⟨rfl,(X1++Y1)++(X2++Y2),hq.out.2,hq.out.1,by simpa using hA⟩
   have hX2:X2=[]:=List.eq_nil_of_length_eq_zero (by omega);replace hA:=Eq.subst (motive:=fun z=>At [rowL (.slice (some ⟨g,0,none⟩) N cap) L] w [rowL (.slice (some ⟨g,0,none⟩) N cap) z] wr) (show L=P++(X1++(Y1++(X2++(Y2++S)))) by rw[hLe'.out,hX2];simp) hA;have h5:¬(mid < e):=by omega
   have h3:a < i:=by omega
   by_cases h4:i < mid
   · go_wp2_with fail;refine(ih'.out _ P X1 Y1 (X2++(Y2++S)) (hA.sep1 (A:=rowL (.slice (some ⟨g,0,none⟩) N cap) (P++(X1++(Y1++(X2++(Y2++S)))))) sZ) a i mid ha.out hx1 (by omega) (by omega) (by omega) hsx1.out hsy1.out (by simp only[List.length_append];omega) hl2'.out).mono ?_;rintro e' w2 ⟨rfl,Z1,hp1,hs1,hT⟩;have hB:=hA.call1 (A:=rowL (.slice (some ⟨g,0,none⟩) N cap) (P++(X1++(Y1++(X2++(Y2++S)))))) sZ hT;clear hT;simp only[uA] at hB;clear hA;have hA:=hB;clear hB;rw[show P++(Z1++(X2++(Y2++S)))=((P++Z1)++(X2++(Y2++S))) by simp] at hA;have hz1:=hp1.length_eq;simp only[List.length_append] at hz1;have hPZ:(P++Z1).length=mid:=by have:=ha.out;simp only[List.length_append];omega
     have hl3:((P++Z1)++(X2++(Y2++S))).length≤1000000:=by have:=hlen2.out;simp only[List.length_append] at this ⊢;omega
     have hfin:=fun(Z2:List Ent) (p2:Z2.Perm (X2++Y2)) (s2:Srt stp Z2)=>ZdX (ZaZ.2 ⟨hsx1.out,hsx2.out,hxx.out⟩) (ZaZ.2 ⟨hsy1.out,hsy2.out,hyy.out⟩) hc1'.out hc2'.out hp1 p2 hs1 s2;have hfin':=Hd hfin;have hPZ':=Hd hPZ;have hl3':=Hd hl3;clear hp1 hs1 hfin hPZ hl3;have hq:=Hd (hfin'.out (X2++Y2) (.refl _) (by rw[hX2,List.nil_append];exact hsy2.out));go_wp2_with fail;go_end0
     exact⟨rfl,Z1++(X2++Y2),hq.out.2,hq.out.1,by simpa using hA⟩
   have hY1:Y1=[]:=List.eq_nil_of_length_eq_zero (by omega);have hp1:(X1++Y1).Perm (X1++Y1):=.refl _;have hs1:Srt stp (X1++Y1):=by rw[hY1,List.append_nil];exact hsx1.out
   rw[←List.append_assoc X1] at hA;rw[show P++((X1++Y1)++(X2++(Y2++S)))=((P++(X1++Y1))++(X2++(Y2++S))) by simp] at hA;have hz1:=hp1.length_eq;simp only[List.length_append] at hz1;have hPZ:(P++(X1++Y1)).length=mid:=by have:=ha.out;simp only[List.length_append];omega
   have hl3:((P++(X1++Y1))++(X2++(Y2++S))).length≤1000000:=by have:=hlen2.out;simp only[List.length_append] at this ⊢;omega
   have hfin:=fun(Z2:List Ent) (p2:Z2.Perm (X2++Y2)) (s2:Srt stp Z2)=>ZdX (ZaZ.2 ⟨hsx1.out,hsx2.out,hxx.out⟩) (ZaZ.2 ⟨hsy1.out,hsy2.out,hyy.out⟩) hc1'.out hc2'.out hp1 p2 hs1 s2;have hfin':=Hd hfin;have hPZ':=Hd hPZ;have hl3':=Hd hl3;clear hp1 hs1 hfin hPZ hl3;have hq:=Hd (hfin'.out (X2++Y2) (.refl _) (by rw[hX2,List.nil_append];exact hsy2.out));go_wp2_with fail;go_end0
   exact⟨rfl,(X1++Y1)++(X2++Y2),hq.out.2,hq.out.1,by simpa using hA⟩
theorem Zhr (v:Value):∀k:Nat,MerI k v
 |0=>by
  intro w P X Y S _ a m b _ _ _ _ _ _ _ h _;exact absurd h (Nat.not_lt_zero _)
 |k + 1=>by
  have ih:MerI k v:=Zhr v k;intro w P X Y S h a m b ha hm hb hx hy sx sy hk hl;by_cases h1:X.length=1
  · obtain⟨x,rfl⟩:=List.length_eq_one_iff.1 h1;exact ZnV h a m b ha hm hb sy hl
  by_cases h2:Y.length=1
  · obtain⟨y,rfl⟩:=List.length_eq_one_iff.1 h2;exact ZnU h a m b ha hm hb (by omega) sx hl
  refine Zme h a m b ha hm hb (by omega) (by omega) sx sy ?_ hl;intro w P' X' Y' S' h a m b ha hm hb hx hy sx sy hk' hl;exact ih w P' X' Y' S' h a m b ha hm hb hx hy sx sy (by omega) hl
end Sta
end
section
namespace Sta
open Go.RowKit
open Lock (Ent rowL)
def StbP (w:World) (v:Value) (L:List Ent) (e:Ending) (w':World):Prop:=e=.returned (.tuple #[])∧∃Z:List Ent,Z.Perm L∧Srt stp Z∧At [rowL v L] w [rowL v Z] w'
theorem ZiL {w:World} {v:Value} {L:List Ent} (h:Sep [rowL v L] w) {n:Nat} (hn:L.length=n) (hl:n≤40):
 Calls Tryz.prog 78 #[v,.int .i64 n,.func (.func 37) #[] #[]] w (StbP w v L):=by
 have hA:=At.start h;clear h;have hF:=hA.facts;by_cases h1:n < 20
 · have hB:At [rowL v L] w [rowL v (([]:List Ent)++(L++[]))] w:=by simpa using hA
   clear hA;have hA:=hB;clear hB;obtain⟨hA,hF⟩:=fZ hA;go_enter Tryz.func78,Tryz.ntmps78;go_wp2_with fail;(try go_frame);refine wp_loop_rounds 1 ?_;rw[rounds_succ];go_wp2_with fail;(try go_frame);refine(Zbz (P:=[]) (X:=L) (S:=[]) (hA.sep1 (A:=rowL v ([]++(L++[]))) sZ) 0 n rfl (by omega) (by simp[hn]<;>omega)).mono ?_;rintro e w2 ⟨rfl,Z,hpZ,hsZ,hT⟩;have hB:At [rowL v L] w [rowL v (Z)] w2:=by simpa using hA.call1 (A:=rowL v (([]:List Ent)++(L++[]))) sZ hT
   clear hT hA;have hA:=hB;clear hB;go_wp2_with fail;(try go_frame);refine wp_loop_rounds 1 ?_;rw[rounds_succ];go_wp2_with fail;(try go_frame);go_end0
   exact⟨rfl,Z,hpZ,hsZ,hA⟩
 obtain⟨B,C,hL,hB20⟩:∃B C,L=B++C∧B.length=20:=⟨L.take 20,L.drop 20,(List.take_append_drop 20 L).symm,by rw[List.length_take];omega⟩
 have hC:20 + C.length=n:=by rw[hL,List.length_append] at hn;omega
 have hL':=Hd hL;by_cases h2:n < 40
 · have hB:At [rowL v L] w [rowL v (([]:List Ent)++(B++C))] w:=Eq.subst (motive:=fun z=>At [rowL v L] w [rowL v z] w) (show L=([]:List Ent)++(B++C) from hL'.out) hA;clear hA;have hA:=hB;clear hB;clear hL;obtain⟨hA,hF⟩:=fZ hA;go_enter Tryz.func78,Tryz.ntmps78;go_wp2_with fail;(try go_frame);refine wp_loop_rounds 2 ?_;rw[rounds_succ];go_wp2_with fail;(try go_frame);refine(Zbz (P:=[]) (X:=B) (S:=C) (hA.sep1 (A:=rowL v ([]++(B++C))) sZ) 0 20 rfl (by omega) (by simp only[List.nil_append,List.length_append];omega)).mono ?_;rintro e w2 ⟨rfl,Z,hpZ,hsZ,hT⟩;have hB:At [rowL v L] w [rowL v (Z++(C++[]))] w2:=by simpa using hA.call1 (A:=rowL v (([]:List Ent)++(B++C))) sZ hT
   clear hT hA;have hA:=hB;clear hB;have hZ20:Z.length=20:=by rw[hpZ.length_eq];exact hB20
   go_wp2_with fail;(try go_frame);rw[rounds_succ];go_wp2_with fail;(try go_frame);refine(Zbz (P:=Z) (X:=C) (S:=[]) (hA.sep1 (A:=rowL v (Z++(C++[]))) sZ) 20 n hZ20 (by omega) (by simp only[List.append_nil,List.length_append];omega)).mono ?_;rintro e w2 ⟨rfl,Y,hpY,hsY,hT⟩;have hB:At [rowL v L] w [rowL v (([]:List Ent)++(Z++(Y++[])))] w2:=by simpa using hA.call1 (A:=rowL v (Z++(C++[]))) sZ hT
   clear hT hA;have hA:=hB;clear hB;have hYn:Y.length=C.length:=hpY.length_eq;by_cases h3:n=20
   · have hY0:Y=[]:=List.eq_nil_of_length_eq_zero (by omega);have hC0:C=[]:=List.eq_nil_of_length_eq_zero (by omega);subst h3;go_wp2_with fail;(try go_frame);refine wp_loop_rounds 1 ?_;rw[rounds_succ];go_wp2_with fail;(try go_frame);go_end0
     exact⟨rfl,Z,by rw[hL'.out,hC0,List.append_nil];exact hpZ,hsZ,by rw[hY0] at hA;simpa using hA⟩
   go_wp2_with fail;(try go_frame);refine wp_loop_rounds 2 ?_;rw[rounds_succ];go_wp2_with fail;(try go_frame);refine wp_loop_rounds 1 ?_;rw[rounds_succ];go_wp2_with fail;(try go_frame);refine(Zhr v 1000 _ [] Z Y [] (hA.sep1 (A:=rowL v (([]:List Ent)++(Z++(Y++[])))) sZ) 0 20 n rfl (by omega) (by omega) (by omega) (by omega) hsZ hsY (by omega) (by simp only[List.nil_append,List.append_nil,List.length_append];omega)).mono ?_;rintro e w2 ⟨rfl,W,hpW,hsW,hT⟩;have hB:At [rowL v L] w [rowL v (W)] w2:=by simpa using hA.call1 (A:=rowL v (([]:List Ent)++(Z++(Y++[])))) sZ hT
   clear hT hA;have hA:=hB;clear hB;go_wp2_with fail;(try go_frame);rw[rounds_succ];go_wp2_with fail;(try go_frame);go_end0
   exact⟨rfl,W,by rw[hL'.out];exact hpW.trans (hpZ.append hpY),hsW,hA⟩
 obtain rfl:n=40:=by omega
 have hB:At [rowL v L] w [rowL v (([]:List Ent)++(B++C))] w:=Eq.subst (motive:=fun z=>At [rowL v L] w [rowL v z] w) (show L=([]:List Ent)++(B++C) from hL'.out) hA;clear hA;have hA:=hB;clear hB;clear hL;obtain⟨hA,hF⟩:=fZ hA;go_enter Tryz.func78,Tryz.ntmps78;go_wp2_with fail;(try go_frame);refine wp_loop_rounds 3 ?_;rw[rounds_succ];go_wp2_with fail;(try go_frame);refine(Zbz (P:=[]) (X:=B) (S:=C) (hA.sep1 (A:=rowL v ([]++(B++C))) sZ) 0 20 rfl (by omega) (by simp only[List.nil_append,List.length_append];omega)).mono ?_;rintro e w2 ⟨rfl,Z,hpZ,hsZ,hT⟩;have hB:At [rowL v L] w [rowL v (Z++(C++[]))] w2:=by simpa using hA.call1 (A:=rowL v (([]:List Ent)++(B++C))) sZ hT
 clear hT hA;have hA:=hB;clear hB;have hZ20:Z.length=20:=by rw[hpZ.length_eq];exact hB20
 go_wp2_with fail;(try go_frame);rw[rounds_succ];go_wp2_with fail;(try go_frame);refine(Zbz (P:=Z) (X:=C) (S:=[]) (hA.sep1 (A:=rowL v (Z++(C++[]))) sZ) 20 40 hZ20 (by omega) (by simp only[List.append_nil,List.length_append];omega)).mono ?_;rintro e w2 ⟨rfl,Y,hpY,hsY,hT⟩;have hB:At [rowL v L] w [rowL v ((Z++Y)++([]++[]))] w2:=by simpa using hA.call1 (A:=rowL v (Z++(C++[]))) sZ hT
 clear hT hA;have hA:=hB;clear hB;have hYn:Y.length=C.length:=hpY.length_eq;go_wp2_with fail;(try go_frame);rw[rounds_succ];go_wp2_with fail;(try go_frame);refine(Zbz (P:=(Z++Y)) (X:=[]) (S:=[]) (hA.sep1 (A:=rowL v ((Z++Y)++([]++[]))) sZ) 40 40 (by rw[List.length_append];omega) rfl (by simp only[List.append_nil,List.length_append];omega)).mono ?_;rintro e w2 ⟨rfl,U,hpU,hsU,hT⟩;have hB:At [rowL v L] w [rowL v (([]:List Ent)++(Z++(Y++[])))] w2:=by obtain rfl:=List.Perm.eq_nil hpU;simpa using hA.call1 (A:=rowL v ((Z++Y)++([]++[]))) sZ hT
 clear hT hA;have hA:=hB;clear hB;go_wp2_with fail;(try go_frame);refine wp_loop_rounds 2 ?_;rw[rounds_succ];go_wp2_with fail;(try go_frame);refine wp_loop_rounds 2 ?_;rw[rounds_succ];go_wp2_with fail;(try go_frame);refine(Zhr v 1000 _ [] Z Y [] (hA.sep1 (A:=rowL v (([]:List Ent)++(Z++(Y++[])))) sZ) 0 20 40 rfl (by omega) (by omega) (by omega) (by omega) hsZ hsY (by omega) (by simp only[List.nil_append,List.append_nil,List.length_append];omega)).mono ?_;rintro e w2 ⟨rfl,W,hpW,hsW,hT⟩;have hB:At [rowL v L] w [rowL v (W)] w2:=by simpa using hA.call1 (A:=rowL v (([]:List Ent)++(Z++(Y++[])))) sZ hT
 clear hT hA;have hA:=hB;clear hB;go_wp2_with fail;(try go_frame);rw[rounds_succ];go_wp2_with fail;(try go_frame);rw[rounds_succ];go_wp2_with fail;(try go_frame);go_end0
 exact⟨rfl,W,by rw[hL'.out];exact hpW.trans (hpZ.append hpY),hsW,hA⟩
theorem Zet {w:World} {v:Value} {L:List Ent} (h:Sep [rowL v L] w) (hl:L.length≤40):
 Calls Tryz.prog 36 #[v,.func (.func 37) #[] #[]] w (StbP w v L):=by
 have hA:=At.start h;clear h;obtain⟨ax,cap,rfl,_,_,_⟩:=hA.row_form (v:=v) (xs:=L.flatMap Ent.cells) sZ
 obtain⟨n,hn⟩:∃n,L.length=n:=⟨_,rfl⟩
 rw[hn] at hA hl ⊢;have hn':=Hd hn;clear hn;obtain⟨hA,hF⟩:=fZ hA;go_enter Tryz.func36,Tryz.ntmps36;go_wp2_with fail;refine(ZiL (hA.sep1 (A:=rowL (.slice ax n cap) L) sZ) hn'.out hl).mono ?_;rintro e w2 ⟨rfl,Z,hp,hs,hT⟩;have hB:=hA.call1 (A:=rowL (.slice ax n cap) L) sZ hT;simp only[uA] at hB;clear hF hA hT;go_wp2_with fail;go_end0
 exact⟨rfl,Z,hp,hs,hB⟩
end Sta
end
end Go.Proofs.YtknoefbcmomalaaGreatDoor
