import Derived.Test.YtknoefbcmomalaaGreatDoorP2
set_option linter.unusedSimpArgs false
set_option linter.unusedVariables false
set_option maxRecDepth 100000
set_option maxHeartbeats 16000000
section
namespace Go
section
variable {P:Program} {ops:Array Oper} {md:Region.Mode} {ι:Type} {C:ι→World→Prop}
def Oper.quietF (P:Program) (o:Oper) (a:Act) (C:ι→World→Prop) (next:Act→Prop):Prop:=∃v,(∀i w,C i w→o.quietAt P a (C i) w v)∧next (a.put o.dst v)
def ZbK (P:Program) (ops:Array Oper) (C:ι→World→Prop) (Q:Act→Prop):List Oper→Act→Prop
 |[],a=>Q a
 |o::rest,a=>if Region.wanted o (yielded ops a.tmps) then o.quietF P a C (ZbK P ops C Q rest) else ZbK P ops C Q rest (a.put o.dst undef)
def qOpF (P:Program) (ops:Array Oper) (C:ι→World→Prop) (i:Nat) (K:Act→Prop) (a:Act):Prop:=
 match ops[i]? with
 |none=>K a
 |some o=>if Region.wanted o (yielded ops a.tmps) then o.quietF P a C K else K (a.put o.dst undef)
theorem Oper.quietF_mono {o:Oper} {a:Act} {K K':Act→Prop} (h:∀a,K a→K' a) (hh:o.quietF P a C K):o.quietF P a C K':=
 let ⟨v,h1,h2⟩:=hh
 ⟨v,h1,h _ h2⟩
theorem Zj1 {i:Nat} {a:Act} {K K':Act→Prop} (h:∀a,K a→K' a) (hh:qOpF P ops C i K a):qOpF P ops C i K' a:=by
 unfold qOpF at *
 split
 · exact h _ (by simpa [*] using hh)
 rename_i o ho;simp only[ho] at hh;split
 · rename_i hw;simp only[hw,if_true] at hh;exact Oper.quietF_mono h hh
 rename_i hw;simp only[hw] at hh;exact h _ hh
def Zbu (P:Program) (ops:Array Oper) (C:ι→World→Prop) (o:Oper) (v:Value) (a:Act):Prop:=
 (Region.wanted o (yielded ops a.tmps)=true∧∀i w,C i w→o.quietAt P a (C i) w v)∨
 (Region.wanted o (yielded ops a.tmps)=false∧v=undef)
theorem Zbu.qOp {i:Nat} {o:Oper} {v:Value} {a:Act} (hi:ops[i]? =some o) (hy:Zbu P ops C o v a) {K:Act→Prop} (h:K (a.put o.dst v)):qOpF P ops C i K a:=by
 unfold qOpF;simp only[hi];rcases hy with⟨hw,hv⟩|⟨hw,rfl⟩
 · simp only[hw,if_true];exact⟨v,hv,h⟩
 simp only[hw,Bool.false_eq_true,if_false];exact h
theorem Zbu.of_same {o:Oper} {v:Value} {a a':Act} (hy:Zbu P ops C o v a) (he:execOp a'.eval o=execOp a.eval o)
 (hw:Region.wanted o (yielded ops a'.tmps)=Region.wanted o (yielded ops a.tmps)):Zbu P ops C o v a':=by
 unfold Zbu Oper.quietAt at *
 rw[he,hw];exact hy
theorem Zep {i:Nat} {o:Oper} {a:Act} {K:Act→Prop} (hi:ops[i]? =some o) (h:qOpF P ops C i K a):∃v,Zbu P ops C o v a∧K (a.put o.dst v):=by
 unfold qOpF at h;simp only[hi] at h;by_cases hw:Region.wanted o (yielded ops a.tmps)=true
 · simp only[hw,if_true] at h;obtain⟨v,h1,h2⟩:=h;exact⟨v,.inl ⟨hw,h1⟩,h2⟩
 simp only[hw] at h;exact⟨undef,.inr ⟨by simpa using hw,rfl⟩,h⟩
theorem ZlZ {j:Nat} {oi oj:Oper} {v:Value} (hj:ops[j]? =some oj) (hap:oi.apart ops oj=true)
 (hsi:∀cs b,oi.op≠.select cs b) (hsj:∀cs b,oj.op≠.select cs b) {K:Act→Prop} {a:Act}
 (hy:Zbu P ops C oi v a) (h:qOpF P ops C j K (a.put oi.dst v)):
 qOpF P ops C j (fun a'=>Zbu P ops C oi v a'∧K (a'.put oi.dst v)) a:=by
 obtain⟨h1,h2,h3⟩:=Oper.apart_spec hap
 have keep:∀(a:Act),Zbu P ops C oi v a→∀u,Zbu P ops C oi v (a.put oj.dst u):=fun a hy u=>
  hy.of_same (execOp_put oi hsi a oj.dst u h3) (wanted_put oi a oj.dst u h3)
 unfold qOpF at *
 simp only[hj] at *
 rw[wanted_put oj a oi.dst v h1] at h;split
 · rename_i hw;simp only[hw,if_true] at h;obtain⟨u,hu,hn⟩:=h;refine⟨u,fun i w hw'=> ?_,keep a hy u,by rw[←Act.put_comm a v u h2];exact hn⟩;have:=hu i w hw';unfold Oper.quietAt at *
   rwa [execOp_put oj hsj a oi.dst v h1] at this
 rename_i hw;simp only[hw] at h;exact⟨keep a hy _,by rw[←Act.put_comm a v undef h2];exact h⟩
def Zbn (P:Program) (md:Region.Mode) (ops:Array Oper) (C:ι→World→Prop) (n:Nat) (L:Array Bool→Act→Prop):Nat→Array Bool→Act→Prop
 |0,listed,a=>L listed a
 |f + 1,listed,a=>(∃i ∈ Region.ready md ops listed,i < n)∧∀i ∈ Region.ready md ops listed,i≠n→i < n∧qOpF P ops C i (Zbn P md ops C n L f (listed.setIfInBounds i true)) a
def tailX (md:Region.Mode) (ops:Array Oper) (n:Nat):Bool:=
 (List.range ops.size).all fun t=>decide (t≤n) || (List.range (n + 1)).all fun i=>Region.waitsFor md ops t i
theorem ZbU {n:Nat} {listed:Array Bool} (hx:tailX md ops n=true) {i:Nat} (hi:i≤n) (hun:listed.getD i false=false) {t:Nat} (ht:n < t):t ∉ Region.ready md ops listed:=by
 intro hr;obtain⟨_,ot,hot,hall⟩:=mem_ready.1 hr;have htlt:t < ops.size:=(Array.getElem?_eq_some_iff.1 hot).1;have h1:=List.all_eq_true.1 hx t (List.mem_range.2 htlt);simp only[Bool.or_eq_true,decide_eq_true_eq] at h1;rcases h1 with h1|h1
 · omega
 obtain⟨oj,hoj,e,he,hb,hon⟩:=Region.waitsFor_spec (List.all_eq_true.1 h1 i (List.mem_range.2 (by omega)));have:oj=ot:=Option.some.inj (hoj.symm.trans hot);subst this;have:=hall e he hb;rw[hon,hun] at this;cases this
theorem Zgk {n:Nat} {listed:Array Bool} (hx:tailX md ops (n + 1)=true) (hw:Region.waitsFor md ops (n + 1) n=true) (hun:listed.getD n false=false):∀i ∈ Region.ready md ops listed,i≤n:=fun i hi=>by
 rcases Nat.lt_or_ge n i with q|q
 · exfalso
   by_cases e:i=n + 1
   · subst e;obtain⟨_,ot,hot,hall⟩:=mem_ready.1 hi;obtain⟨oj,hoj,e,he,hb,hon⟩:=Region.waitsFor_spec hw;have:oj=ot:=Option.some.inj (hoj.symm.trans hot);subst this;have:=hall e he hb;rw[hon,hun] at this;cases this
   exact absurd hi (ZbU hx (i:=n) (by omega) hun (by omega))
 exact q
theorem Zfb {n i:Nat} {oi:Oper} {v:Value} {L:Array Bool→Act→Prop} (hi:ops[i]? =some oi) (hsel:∀(j:Nat) (o:Oper) cs b,ops[j]? =some o→o.op≠.select cs b)
 (hfar:∀listed:Array Bool,listed.getD n false=false→∀i ∈ Region.ready md ops listed,i≤n) (hns:n < ops.size) (hin:i < n) (hdone:∀listed a,L listed a→∀j ∈ Region.ready md ops listed,n≤j):
 ∀(f:Nat) (listed:Array Bool) (a:Act),HeadInv md ops n listed→
  (∀j oj,ops[j]? =some oj→j≠i→listed.getD j true=false→(∀e ∈ oj.after,Region.binds md e=true→e.on≠i)→oi.apart ops oj=true)→
  i ∈ Region.ready md ops listed→Zbu P ops C oi v a→
  Zbn P md ops C n L f (listed.setIfInBounds i true) (a.put oi.dst v)→Zbn P md ops C n L (f + 1) listed a:=by
 intro f
 induction f with
 |zero=>
  intro listed a inv _ hr hy H;have hun:=(mem_ready.1 hr).1;refine⟨⟨i,hr,hin⟩,fun j hj hjx=> ?_⟩
  have hjn:j < n:=by
   have:=hfar _ (getD_both (inv.tail n (Nat.le_refl _) hns)) j hj
   omega
  refine⟨hjn,?_⟩
  by_cases hji:j=i
  · subst hji;exact hy.qOp hi H
  have:=hdone _ _ H j (ready_mono hj hji)
  omega
 |succ f ih=>
  intro listed a inv hfree hr hy H;have hun:=(mem_ready.1 hr).1;refine⟨⟨i,hr,hin⟩,fun j hj hjx=> ?_⟩
  have hjn:j < n:=by
   have:=hfar _ (getD_both (inv.tail n (Nat.le_refl _) hns)) j hj
   omega
  refine⟨hjn,?_⟩
  by_cases hji:j=i
  · subst hji;exact hy.qOp hi H
  have h1:=(H.2 j (ready_mono hj hji) hjx).2;obtain⟨hjun,oj,hoj,hall⟩:=mem_ready.1 hj
  have hnot:∀e ∈ oj.after,Region.binds md e=true→e.on≠i:=fun e he hb heq=>by
   have h1:=hall e he hb;rw[heq,getD_both hun] at h1;cases h1
  have h2:=ZlZ hoj (hfree j oj hoj hji hjun hnot) (fun cs b=>hsel i oi cs b hi) (fun cs b=>hsel j oj cs b hoj) hy h1
  have hfree':∀k ok,ops[k]? =some ok→k≠i→(listed.setIfInBounds j true).getD k true=false→
   (∀e ∈ ok.after,Region.binds md e=true→e.on≠i)→oi.apart ops ok=true:=fun k ok hk hki hun hno=>by
   refine hfree k ok hk hki ?_ hno;by_cases hjk:j=k
   · subst hjk;exact hjun
   rw[getD_set_ne true hjk] at hun;exact hun
  refine Zj1 (fun a' h3=>ih (listed.setIfInBounds j true) a' (inv.set hj hjn) hfree' (ready_mono hr (Ne.symm hji)) h3.1 ?_) h2;rw[Array.setIfInBounds_comm _ _ hji];exact h3.2
theorem ZcF {n:Nat} {Lq:Act→Prop} (hsel:Region.noSelect ops=true) (hfar:∀listed:Array Bool,listed.getD n false=false→∀i ∈ Region.ready md ops listed,i≤n) (hn:n < ops.size):
 ∀(l:List Oper) (k:Nat) (listed:Array Bool) (a:Act),(∀j,j < l.length→l[j]? =ops[k + j]?)→k + l.length=n→HeadInv md ops n listed→(∀j,j < k→listed.getD j false=true)→
 headB md ops l.length k listed=true→ZbK P ops C Lq l a→
 Zbn P md ops C n (fun listed' a'=>listed'=ZaK ops.size n∧Lq a') l.length listed a
 |[],k,listed,a,_,hk,inv,hd,_,h=>by
  have:k=n:=by simpa using hk
  subst this;exact⟨ZkH inv.size hd inv.tail,h⟩
 |o::l,k,listed,a,hl,hk,inv,hd,hB,h=>by
  have h0:ops[k]? =some o:=by simpa using(hl 0 (by simp)).symm
  simp only[List.length_cons,headB,Bool.and_eq_true] at hB;obtain⟨⟨hr,hf⟩,hB'⟩:=hB;have hkn:k < n:=by simp only[List.length_cons] at hk;omega
  have hr':k ∈ Region.ready md ops listed:=by simpa using hr
  have hst:qOpF P ops C k (ZbK P ops C Lq l) a:=by unfold qOpF;simp only[h0];exact h
  obtain⟨v,hy,hK⟩:=Zep h0 hst;have hks:k < listed.size:=by rw[inv.size];omega
  exact Zfb h0 (Region.noSelect_spec hsel) hfar hn hkn (fun listed' a' hL=>by rw[hL.1];exact Zch) l.length listed a inv (Region.free_spec h0 hf) hr' hy
   (ZcF hsel hfar hn l (k + 1) _ _ (fun j hj=>by have:=hl (j + 1) (by simp;omega);simpa [Nat.add_assoc,Nat.add_comm 1 j] using this) (by simp only[List.length_cons] at hk;omega) (inv.set hr' hkn)
     (fun j hj=>by
       by_cases hjk:j=k
       · subst hjk;simp[hks]
       rw[getD_set_ne false (Ne.symm hjk)];exact hd j (by omega)) hB' hK)
theorem Zdo {i:Nat} {o:Oper} {a:Act} {K:Act→Prop} {K':Act→World→Prop} {Q':Exit→Act→World→Prop} {w:World} {R:ι} {on:Oper} {p:Value} (ho:ops[i]? =some o) (hap:on.apart ops o=true) (hsel:∀cs b,o.op≠.select cs b)
 (hC:C R w) (h:∀a w',C R w'→K a→K' (a.put on.dst p) w') (hh:qOpF P ops C i K a):wpOp P ops Q' i K' (a.put on.dst p) w:=by
 obtain⟨h1,h2,_⟩:=Oper.apart_spec hap;unfold qOpF at hh;unfold wpOp;simp only[ho] at hh ⊢;rw[wanted_put o a on.dst p h1];split
 · rename_i hw;simp only[hw,if_true] at hh;obtain⟨v,hv,hn⟩:=hh;have h3:=hv R w hC;left
   unfold Oper.quietAt at h3;unfold Oper.wp;rw[execOp_put o hsel a on.dst p h1];generalize (execOp a.eval o).run P w=r at *
   cases r with
   |ok n w'=>
    cases n<;>simp only[Oper.quietUpon] at h3<;>simp only[Oper.upon]
    case value u=>
     obtain⟨e1,e2⟩:=h3;rw[e1,e2,Act.put_comm a p v h2];exact h _ _ hC hn
    case skip=>
     obtain⟨e1,e2⟩:=h3;rw[e1,←e2,Act.put_comm a p v h2];exact h _ _ hC hn
    case enter f args=>
     obtain⟨e1,hc⟩:=h3;rw[e1];refine hc.mono fun e w'' ⟨he,hw''⟩=> ?_;subst he;show K' ((a.put on.dst p).put o.dst v) w'';rw[Act.put_comm a p v h2];exact h _ _ hw'' hn
   |halt x w'=>simp only[Oper.quietUpon] at h3
 rename_i hw;simp only[hw] at hh;rw[Act.put_comm a p undef h2];exact h _ _ hC hh
theorem Zb1 {i:Nat} {a:Act} {K:Act→Prop} {K':Act→World→Prop} {Q':Exit→Act→World→Prop} {w:World} {R:ι} (hC:C R w) (h:∀a w',C R w'→K a→K' a w') (hh:qOpF P ops C i K a):wpOp P ops Q' i K' a w:=
 wpOp_of_qOp (C:=C R) hC h (by
  unfold qOpF at hh;unfold qOp;split
  · rename_i ho;simpa only[ho] using hh
  rename_i o ho;simp only[ho] at hh;split
  · rename_i hw;simp only[hw,if_true] at hh;obtain⟨v,hv,hn⟩:=hh;exact⟨v,fun w hw=>hv R w hw,hn⟩
  rename_i hw;rw[if_neg hw] at hh
  exact hh)
def freeX (md:Region.Mode) (ops:Array Oper) (n:Nat):Bool:=
 match ops[n]?,ops[n + 1]? with
 |some on,some os=>on.after.isEmpty&&on.guard.isNone&&os.guard.isNone&&os.dst.isNone&&os.after.all (fun e=> !Region.binds md e || decide (e.on≤n))&&Region.waitsFor md ops (n + 1) n&&(List.range n).all fun i=> !Region.waitsFor md ops i n&& !Region.waitsFor md ops i (n + 1)&&(match ops[i]? with
  |some o=>on.apart ops o&&(Region.waitsFor md ops (n + 1) i || (match o.dst with|some d=> !(os.looksAt ops).contains d|none=>true))
  |none=>true)
 |_,_=>false
structure FreeX (md:Region.Mode) (ops:Array Oper) (n:Nat) (on os:Oper):Prop where
 hon:ops[n]? =some on
 hos:ops[n + 1]? =some os
 after:on.after= #[]
 guard:on.guard=none
 guards:os.guard=none
 dst:os.dst=none
 waits:Region.waitsFor md ops (n + 1) n=true
 apart:∀i o,i < n→ops[i]? =some o→on.apart ops o=true
 no:∀i o,i < n→ops[i]? =some o→∀e ∈ o.after,Region.binds md e=true→e.on≠n∧e.on≠n + 1
 reads:∀i o,i < n→ops[i]? =some o→Region.waitsFor md ops (n + 1) i=true∨∀d,o.dst=some d→d ∉ os.looksAt ops
 back:∀e ∈ os.after,Region.binds md e=true→e.on≤n
theorem Zi6 {n:Nat} (h:freeX md ops n=true):∃on os,FreeX md ops n on os:=by
 unfold freeX at h;split at h
 · rename_i on os ho hs;simp only[Bool.and_eq_true,List.all_eq_true,Array.isEmpty_iff,Option.isNone_iff_eq_none] at h;obtain⟨⟨⟨⟨⟨⟨h1,h2⟩,h3⟩,h4⟩,h9⟩,h5⟩,h6⟩:=h
   have no:∀i o m,ops[i]? =some o→(!Region.waitsFor md ops i m)=true→∀e ∈ o.after,Region.binds md e=true→e.on≠m:=fun i o m hio hw e he hb heq=>by
    have h3:Region.waitsFor md ops i m=false:=by simpa using hw
    unfold Region.waitsFor at h3;rw[hio] at h3;simp only[Array.any_eq_false'] at h3;exact h3 e he (by simp[hb,heq])
   refine⟨on,os,ho,hs,h1,h2,h3,h4,h5,fun i o hi hio=> ?_,fun i o hi hio e he hb=> ?_,fun i o hi hio=> ?_,fun e he hb=> ?_⟩
   · have h7:=h6 i (List.mem_range.2 hi);rw[hio] at h7;simp only[Bool.and_eq_true] at h7;exact h7.2.1
   · have h7:=h6 i (List.mem_range.2 hi);exact⟨no i o n hio h7.1.1 e he hb,no i o (n + 1) hio h7.1.2 e he hb⟩
   · have h7:=h6 i (List.mem_range.2 hi);rw[hio] at h7;simp only[Bool.and_eq_true,Bool.or_eq_true] at h7;rcases h7.2.2 with h8|h8
     · exact .inl h8
     right
     intro d hd;rw[hd] at h8;simpa using h8
   have:=Array.all_eq_true'.1 h9 e he
   simpa [hb] using this
 cases h
theorem ZcT {n:Nat} {a1:Act} {d:Tmp} (i0:ι) (hst:∀i o,i < n→ops[i]? =some o→o.dst=none→True):∀(f:Nat) (listed:Array Bool) (a:Act),
 (∀i o,i < n→ops[i]? =some o→listed.getD i false=false→o.dst≠some d)→Zbn P md ops C n (fun listed' a'=>listed'=ZaK ops.size n∧a'=a1) f listed a→a.tmps[d]? =a1.tmps[d]?
 |0,listed,a,_,h=>by rw[h.2]
 |f + 1,listed,a,hd,h=>by
  obtain⟨⟨i,hi,hin⟩,h⟩:=h;obtain⟨hun,o,ho,_⟩:=mem_ready.1 hi;have h1:=(h i hi (by omega)).2;have hne:=hd i o hin ho (getD_both hun)
  have key:∀v,(a.put o.dst v).tmps[d]? =a.tmps[d]? :=fun v=>by
   cases hq:o.dst with
   |none=>rfl
   |some t=>
    have:t≠d:=fun e=>hne (by rw[hq,e])
    simp[Act.put,Array.getElem?_setIfInBounds_ne this]
  have hd':∀j o',j < n→ops[j]? =some o'→(listed.setIfInBounds i true).getD j false=false→o'.dst≠some d:=fun j o' hj hjo hl=>by
   by_cases hij:i=j
   · subst hij;rw[hjo] at ho;cases ho;exact hne
   rw[getD_set_ne false hij] at hl;exact hd j o' hj hjo hl
  unfold qOpF at h1;simp only[ho] at h1;split at h1
  · obtain⟨v,_,h2⟩:=h1;rw[←ZcT i0 hst f _ _ hd' h2,key]
  rw[←ZcT i0 hst f _ _ hd' h1,key]
section
variable {n g:Nat} {on os:Oper} {p:Value} {a1:Act} {Q':Exit→Act→World→Prop}
theorem ZgX {R:ι} (hX:FreeX md ops n on os) (hsel:∀(j:Nat) (o:Oper) cs b,ops[j]? =some o→o.op≠.select cs b) (hx:tailX md ops (n + 1)=true)
 (hfin:∀w',C R w'→wpAny P md ops Q' g (((ZaK ops.size n).setIfInBounds n true).setIfInBounds (n + 1) true) (a1.put on.dst p) w'):
 ∀(f:Nat) (listed:Array Bool) (a:Act) (w:World),C R w→Zbn P md ops C n (fun listed' a'=>listed'=ZaK ops.size n∧a'=a1) f listed a→wpAny P md ops Q' (f + g) ((listed.setIfInBounds n true).setIfInBounds (n + 1) true) (a.put on.dst p) w
 |0,listed,a,w,hC,h=>by
  obtain⟨rfl,h⟩:=h;rw[Nat.zero_add,h];exact hfin _ hC
 |f + 1,listed,a,w,hC,h=>by
  rw[show f + 1 + g=(f + g) + 1 by omega];obtain⟨⟨i0,hi0,hi0n⟩,h⟩:=h;have hun:=(mem_ready.1 hi0).1;refine⟨fun h0=> ?_,fun i hi=> ?_⟩
  · have:=ready_mono (i:=n + 1) (ready_mono (i:=n) hi0 (by omega)) (by omega)
    rw[h0] at this;cases this
  obtain⟨hiun,o,ho,hall⟩:=mem_ready.1 hi
  have nots:∀(l:Array Bool) (m:Nat),(l.setIfInBounds m true).getD m true=true:=fun l m=>by
   rcases Nat.lt_or_ge m l.size with q|q
   · simp[q]
   rw[Array.getD_eq_getD_getElem?,Array.getElem?_eq_none (by simpa using q)];rfl
  have hin1:i≠n + 1:=by
   rintro rfl;rw[nots] at hiun;cases hiun
  rw[getD_set_ne true (Ne.symm hin1)] at hiun
  have hin:i≠n:=by
   rintro rfl;rw[nots] at hiun;cases hiun
  rw[getD_set_ne true (Ne.symm hin)] at hiun
  have hlt:i < n:=by
   rcases Nat.lt_or_ge i n with q|q
   · exact q
   refine absurd hi (ZbU hx (i:=i0) (by omega) ?_ (by omega));rw[getD_set_ne false (by omega),getD_set_ne false (by omega)];exact getD_both hun
  have hi':i ∈ Region.ready md ops listed:=by
   rw[mem_ready];refine⟨hiun,o,ho,fun e he hb=> ?_⟩;have:=hall e he hb;obtain⟨q1,q2⟩:=hX.no i o hlt ho e he hb;rwa [getD_set_ne false (Ne.symm q2),getD_set_ne false (Ne.symm q1)] at this
  refine Zdo ho (hX.apart i o hlt ho) (fun cs b=>hsel i o cs b ho) hC (fun a' w' hC' h'=> ?_) (h i hi' hin).2;rw[Array.setIfInBounds_comm _ _ (Ne.symm hin1),Array.setIfInBounds_comm _ _ (Ne.symm hin)];exact ZgX hX hsel hx hfin f _ a' w' hC' h'
theorem ZmY {R:ι} (hX:FreeX md ops n on os) (hsel:∀(j:Nat) (o:Oper) cs b,ops[j]? =some o→o.op≠.select cs b) (hx:tailX md ops (n + 1)=true)
 (hst:∀w,C R w→∃(R2:ι) (w':World),(execOp (Act.eval (a1.put on.dst p)) os).run P w=.ok .skip w'∧C R2 w'∧
   ∀w'',C R2 w''→wpAny P md ops Q' g (((ZaK ops.size n).setIfInBounds n true).setIfInBounds (n + 1) true) (a1.put on.dst p) w''):
 ∀(f:Nat) (listed:Array Bool) (a:Act) (w:World),HeadInv md ops n listed→C R w→Zbn P md ops C n (fun listed' a'=>listed'=ZaK ops.size n∧a'=a1) f listed a→wpAny P md ops Q' (f + 1 + g) (listed.setIfInBounds n true) (a.put on.dst p) w:=by
 intro f
 induction f with
 |zero=> ?_
 |succ f ih=> ?_
 all_goals
  intro listed a w inv hC h;have hss:n + 1 < ops.size:=(Array.getElem?_eq_some_iff.1 hX.hos).1;have hnl:n < listed.size:=by rw[inv.size];omega
  have h1un:(listed.setIfInBounds n true).getD (n + 1) false=false:=by
   rw[getD_set_ne false (by omega)];exact getD_both (inv.tail (n + 1) (by omega) hss)
  have store:∀f',Zbn P md ops C n (fun listed' a'=>listed'=ZaK ops.size n∧a'=a1) f' listed a→n + 1 ∈ Region.ready md ops (listed.setIfInBounds n true)→
   wpOp P ops Q' (n + 1) (wpAny P md ops Q' (f' + g) ((listed.setIfInBounds n true).setIfInBounds (n + 1) true)) (a.put on.dst p) w:=fun f' h hr=>by
   obtain⟨R2,w',hrun,hR2,hfin⟩:=hst w hC;obtain⟨_,os',hos',hall⟩:=mem_ready.1 hr;have hoe:os'=os:=Option.some.inj (hos'.symm.trans hX.hos);subst hoe
   have hev:execOp (Act.eval (a.put on.dst p)) os'=execOp (Act.eval (a1.put on.dst p)) os':=execOp_congr os' (fun cs b=>hsel _ _ cs b hos') fun x hxm=>by
    cases x with
    |tmp t=>
     have hlook:t ∈ os'.looksAt ops:=List.mem_append_left _ (List.mem_filterMap.2 ⟨.tmp t,by simpa using hxm,rfl⟩)
     have hk:a.tmps[t]? =a1.tmps[t]? :=ZcT R (fun _ _ _ _ _=>trivial) f' listed a (fun i o hi ho hl hd=>by
      rcases hX.reads i o hi ho with q|q
      · obtain⟨oj,hoj,e,he,hb,hon⟩:=Region.waitsFor_spec q;have:oj=os':=Option.some.inj (hoj.symm.trans hos');subst this;have:=hall e he hb;rw[hon,getD_set_ne false (by omega),hl] at this;cases this
      exact q t hd hlook) h
     have hps:∀(c:Act),(c.put on.dst p).tmps[t]? =if on.dst=some t∧t < c.tmps.size then some p else c.tmps[t]? :=fun c=>by
      cases hd:on.dst with
      |none=>simp[Act.put]
      |some u=>
       by_cases hu:u=t
       · subst hu;by_cases hz:u < c.tmps.size<;>simp[Act.put,hz]
       simp[Act.put,Array.getElem?_setIfInBounds_ne hu,hu]
     have hsz:t < a.tmps.size↔t < a1.tmps.size:=by
      constructor
      · intro q;rw[Array.getElem?_eq_getElem q] at hk;exact(Array.getElem?_eq_some_iff.1 hk.symm).1
      intro q;rw[Array.getElem?_eq_getElem q] at hk;exact(Array.getElem?_eq_some_iff.1 hk).1
     show(a.put on.dst p).tmps.getD t undef=(a1.put on.dst p).tmps.getD t undef;rw[Array.getD_eq_getD_getElem?,Array.getD_eq_getD_getElem?,hps,hps,hk];simp only[hsz]
    |_=>rfl
   refine ZdI hos' (by unfold Region.wanted;rw[hX.guards]) (by rw[hev];exact hrun) ?_;rw[hX.dst];exact ZgX hX hsel hx hfin f' listed a w' hR2 h
  have far:∀i,i ∈ Region.ready md ops (listed.setIfInBounds n true)→i≠n∧¬n + 1 < i:=fun i hi=>by
   refine⟨?_,fun q=>absurd hi (ZbU hx (Nat.le_refl _) h1un q)⟩;rintro rfl;have:=(mem_ready.1 hi).1;simp[hnl] at this
 · rw[show 0 + 1 + g=(0 + g) + 1 by omega]
   have hlast:∀i,i ∈ Region.ready md ops (listed.setIfInBounds n true)→i=n + 1:=fun i hi=>by
    have:=far i hi
    rcases Nat.lt_or_ge i n with q|q
    · have hun:=(mem_ready.1 hi).1;rw[getD_set_ne true (by omega),h.1] at hun;simp[ZaK,show i < ops.size by omega,q] at hun
    omega
   have hrs:n + 1 ∈ Region.ready md ops (listed.setIfInBounds n true):=by
    rw[mem_ready];refine⟨by rw[getD_set_ne true (by omega)];exact inv.tail (n + 1) (by omega) hss,os,hX.hos,fun e he hb=> ?_⟩;have:=hX.back e he hb;by_cases q:e.on=n
    · rw[q];simp[hnl]
    rw[getD_set_ne false (Ne.symm q),h.1];simp[ZaK,show e.on < ops.size by omega,show e.on < n by omega]
   refine⟨fun h0=>by rw[h0] at hrs;(cases hrs),fun i hi=> ?_⟩;have e:=hlast i hi;subst e;exact store 0 h hi
 rw[show f + 1 + 1 + g=(f + 1 + g) + 1 by omega];obtain⟨⟨i0,hi0,hi0n⟩,h'⟩:=id h;refine⟨fun h0=> ?_,fun i hi=> ?_⟩
 · have:=ready_mono (i:=n) hi0 (by omega)
   rw[h0] at this;cases this
 have hfar:=far i hi;by_cases hs:i=n + 1
 · subst hs;exact store (f + 1) h hi
 have hlt:i < n:=by omega
 obtain⟨hiun,o,ho,hall⟩:=mem_ready.1 hi;rw[getD_set_ne true (by omega)] at hiun
 have hi':i ∈ Region.ready md ops listed:=by
  rw[mem_ready];refine⟨hiun,o,ho,fun e he hb=> ?_⟩;have:=hall e he hb;rwa [getD_set_ne false (Ne.symm (hX.no i o hlt ho e he hb).1)] at this
 refine Zdo ho (hX.apart i o hlt ho) (fun cs b=>hsel i o cs b ho) hC (fun a' w' hC' hh=> ?_) (h' i hi' (by omega)).2;rw[Array.setIfInBounds_comm _ _ (show n≠i by omega)];exact ih _ a' w' (inv.set hi' hlt) hC' hh
theorem ZhN {R0:ι} (hX:FreeX md ops n on os) (hsel:∀(j:Nat) (o:Oper) cs b,ops[j]? =some o→o.op≠.select cs b) (hx:tailX md ops (n + 1)=true)
 (hal:∀a w,C R0 w→∃(p:Value) (R:ι) (w':World),(execOp (Act.eval a) on).run P w=.ok (.value p) w'∧C R w'∧
   ∀w,C R w→∃(R2:ι) (w':World),(execOp (Act.eval (a1.put on.dst p)) os).run P w=.ok .skip w'∧C R2 w'∧
   ∀w'',C R2 w''→wpAny P md ops Q' g (((ZaK ops.size n).setIfInBounds n true).setIfInBounds (n + 1) true) (a1.put on.dst p) w''):
 ∀(f:Nat) (listed:Array Bool) (a:Act) (w:World),HeadInv md ops n listed→C R0 w→Zbn P md ops C n (fun listed' a'=>listed'=ZaK ops.size n∧a'=a1) f listed a→wpAny P md ops Q' (f + 2 + g) listed a w:=by
 intro f
 induction f with
 |zero=> ?_
 |succ f ih=> ?_
 all_goals
  intro listed a w inv hC h;have hns:n < ops.size:=(Array.getElem?_eq_some_iff.1 hX.hon).1;have hnr:n ∈ Region.ready md ops listed:=mem_ready.2 ⟨inv.tail n (Nat.le_refl _) hns,on,hX.hon,fun e he=>by rw[hX.after] at he;simp at he⟩;have hnun:listed.getD n false=false:=getD_both (inv.tail n (Nat.le_refl _) hns);have far:=Zgk hx hX.waits hnun
  have alloc:∀f',Zbn P md ops C n (fun listed' a'=>listed'=ZaK ops.size n∧a'=a1) f' listed a→wpOp P ops Q' n (wpAny P md ops Q' (f' + 1 + g) (listed.setIfInBounds n true)) a w:=fun f' h=>by
   obtain⟨p,R,w',hrun,hR,hfin⟩:=hal a w hC;refine Ze5 hX.hon (by unfold Region.wanted;rw[hX.guard]) hrun ?_;exact ZmY hX hsel hx hfin f' listed a w' inv hR h
 · rw[show 0 + 2 + g=(0 + 1 + g) + 1 by omega];refine⟨fun h0=>by rw[h0] at hnr;(cases hnr),fun i hi=> ?_⟩;have hle:=far i hi
   by_cases hin:i=n
   · subst hin;exact alloc 0 h
   exact absurd (Zch i (by rw[←h.1];exact hi)) (by omega)
 rw[show f + 1 + 2 + g=(f + 1 + 1 + g) + 1 by omega];refine⟨fun h0=>by rw[h0] at hnr;(cases hnr),fun i hi=> ?_⟩;have hle:=far i hi
 by_cases hin:i=n
 · subst hin;exact alloc (f + 1) h
 have hlt:i < n:=by omega
 refine Zb1 hC (fun a' w' hC' h'=> ?_) (h.2 i hi hin).2;have:=ih _ a' w' (inv.set hi hlt) hC' h';rwa [show f + 2 + g=f + 1 + 1 + g by omega] at this
end
def freeS (md:Region.Mode) (ops:Array Oper) (n:Nat):Bool:=
 match ops[n]? with
 |some os=>os.guard.isNone&&os.dst.isNone&&os.after.all (fun e=> !Region.binds md e || decide (e.on < n))&&(List.range n).all fun i=> !Region.waitsFor md ops i n&&(match ops[i]? with
  |some o=>Region.waitsFor md ops n i || (match o.dst with|some d=> !(os.looksAt ops).contains d|none=>true)
  |none=>true)
 |none=>false
structure FreeS (md:Region.Mode) (ops:Array Oper) (n:Nat) (os:Oper):Prop where
 hos:ops[n]? =some os
 guards:os.guard=none
 dst:os.dst=none
 no:∀i o,i < n→ops[i]? =some o→∀e ∈ o.after,Region.binds md e=true→e.on≠n
 reads:∀i o,i < n→ops[i]? =some o→Region.waitsFor md ops n i=true∨∀d,o.dst=some d→d ∉ os.looksAt ops
 back:∀e ∈ os.after,Region.binds md e=true→e.on < n
theorem Zi7 {n:Nat} (h:freeS md ops n=true):∃os,FreeS md ops n os:=by
 unfold freeS at h;split at h
 · rename_i os hs;simp only[Bool.and_eq_true,List.all_eq_true,Option.isNone_iff_eq_none] at h;obtain⟨⟨⟨h3,h4⟩,h9⟩,h6⟩:=h;refine⟨os,hs,h3,h4,fun i o hi hio e he hb heq=> ?_,fun i o hi hio=> ?_,fun e he hb=> ?_⟩
   · have h7:=(h6 i (List.mem_range.2 hi)).1;have h3:Region.waitsFor md ops i n=false:=by simpa using h7
     unfold Region.waitsFor at h3;rw[hio] at h3;simp only[Array.any_eq_false'] at h3;exact h3 e he (by simp[hb,heq])
   · have h7:=h6 i (List.mem_range.2 hi);rw[hio] at h7;simp only[Bool.or_eq_true] at h7;rcases h7.2 with h8|h8
     · exact .inl h8
     right
     intro d hd;rw[hd] at h8;simpa using h8
   have:=Array.all_eq_true'.1 h9 e he
   simpa [hb] using this
 cases h
section
variable {n g:Nat} {os:Oper} {a1:Act} {Q':Exit→Act→World→Prop}
theorem ZgW {R:ι} (hX:FreeS md ops n os) (hx:tailX md ops n=true)
 (hfin:∀w',C R w'→wpAny P md ops Q' g ((ZaK ops.size n).setIfInBounds n true) a1 w'):
 ∀(f:Nat) (listed:Array Bool) (a:Act) (w:World),C R w→Zbn P md ops C n (fun listed' a'=>listed'=ZaK ops.size n∧a'=a1) f listed a→wpAny P md ops Q' (f + g) (listed.setIfInBounds n true) a w
 |0,listed,a,w,hC,h=>by
  obtain⟨rfl,h⟩:=h;rw[Nat.zero_add,h];exact hfin _ hC
 |f + 1,listed,a,w,hC,h=>by
  rw[show f + 1 + g=(f + g) + 1 by omega];obtain⟨⟨i0,hi0,hi0n⟩,h⟩:=h;have hun:=(mem_ready.1 hi0).1;refine⟨fun h0=> ?_,fun i hi=> ?_⟩
  · have:=ready_mono (i:=n) hi0 (by omega)
    rw[h0] at this;cases this
  obtain⟨hiun,o,ho,hall⟩:=mem_ready.1 hi
  have hin:i≠n:=by
   rintro rfl;rcases Nat.lt_or_ge i listed.size with q|q
   · simp[q] at hiun
   rw[Array.getD_eq_getD_getElem?,Array.getElem?_eq_none (by simpa using q)] at hiun;cases hiun
  rw[getD_set_ne true (Ne.symm hin)] at hiun
  have hlt:i < n:=by
   rcases Nat.lt_or_ge i n with q|q
   · exact q
   refine absurd hi (ZbU hx (i:=i0) (by omega) ?_ (by omega));rw[getD_set_ne false (by omega)];exact getD_both hun
  have hi':i ∈ Region.ready md ops listed:=by
   rw[mem_ready];refine⟨hiun,o,ho,fun e he hb=> ?_⟩;have:=hall e he hb;rwa [getD_set_ne false (Ne.symm (hX.no i o hlt ho e he hb))] at this
  refine Zb1 hC (fun a' w' hC' h'=> ?_) (h i hi' hin).2;rw[Array.setIfInBounds_comm _ _ (Ne.symm hin)];exact ZgW hX hx hfin f _ a' w' hC' h'
theorem ZmX {R:ι} (hX:FreeS md ops n os) (hsel:∀(j:Nat) (o:Oper) cs b,ops[j]? =some o→o.op≠.select cs b) (hx:tailX md ops n=true)
 (hst:∀w,C R w→∃(R2:ι) (w':World),(execOp (Act.eval a1) os).run P w=.ok .skip w'∧C R2 w'∧
   ∀w'',C R2 w''→wpAny P md ops Q' g ((ZaK ops.size n).setIfInBounds n true) a1 w''):
 ∀(f:Nat) (listed:Array Bool) (a:Act) (w:World),HeadInv md ops n listed→C R w→Zbn P md ops C n (fun listed' a'=>listed'=ZaK ops.size n∧a'=a1) f listed a→wpAny P md ops Q' (f + 1 + g) listed a w:=by
 intro f
 induction f with
 |zero=> ?_
 |succ f ih=> ?_
 all_goals
  intro listed a w inv hC h;have hss:n < ops.size:=(Array.getElem?_eq_some_iff.1 hX.hos).1;have hnun:listed.getD n false=false:=getD_both (inv.tail n (Nat.le_refl _) hss)
  have store:∀f',Zbn P md ops C n (fun listed' a'=>listed'=ZaK ops.size n∧a'=a1) f' listed a→n ∈ Region.ready md ops listed→
   wpOp P ops Q' n (wpAny P md ops Q' (f' + g) (listed.setIfInBounds n true)) a w:=fun f' h hr=>by
   obtain⟨R2,w',hrun,hR2,hfin⟩:=hst w hC;obtain⟨_,os',hos',hall⟩:=mem_ready.1 hr;have hoe:os'=os:=Option.some.inj (hos'.symm.trans hX.hos);subst hoe
   have hev:execOp (Act.eval a) os'=execOp (Act.eval a1) os':=execOp_congr os' (fun cs b=>hsel _ _ cs b hos') fun x hxm=>by
    cases x with
    |tmp t=>
     have hlook:t ∈ os'.looksAt ops:=List.mem_append_left _ (List.mem_filterMap.2 ⟨.tmp t,by simpa using hxm,rfl⟩)
     have hk:a.tmps[t]? =a1.tmps[t]? :=ZcT R (fun _ _ _ _ _=>trivial) f' listed a (fun i o hi ho hl hd=>by
      rcases hX.reads i o hi ho with q|q
      · obtain⟨oj,hoj,e,he,hb,hon⟩:=Region.waitsFor_spec q;have:oj=os':=Option.some.inj (hoj.symm.trans hos');subst this;have:=hall e he hb;rw[hon,hl] at this;cases this
      exact q t hd hlook) h
     show a.tmps.getD t undef=a1.tmps.getD t undef;rw[Array.getD_eq_getD_getElem?,Array.getD_eq_getD_getElem?,hk]
    |_=>rfl
   refine ZdI hos' (by unfold Region.wanted;rw[hX.guards]) (by rw[hev];exact hrun) ?_;rw[hX.dst];exact ZgW hX hx hfin f' listed a w' hR2 h
  have far:∀i,i ∈ Region.ready md ops listed→¬n < i:=fun i hi q=>absurd hi (ZbU hx (Nat.le_refl _) hnun q)
 · rw[show 0 + 1 + g=(0 + g) + 1 by omega]
   have hrs:n ∈ Region.ready md ops listed:=by
    rw[mem_ready];refine⟨inv.tail n (Nat.le_refl _) hss,os,hX.hos,fun e he hb=> ?_⟩;have:=hX.back e he hb;rw[h.1];simp[ZaK,show e.on < ops.size by omega,this]
   refine⟨fun h0=>by rw[h0] at hrs;(cases hrs),fun i hi=> ?_⟩;have h1:=far i hi;have h2:=Zch i (by rw[←h.1];exact hi)
   obtain rfl:i=n:=by omega
   exact store 0 h hi
 rw[show f + 1 + 1 + g=(f + 1 + g) + 1 by omega];obtain⟨⟨i0,hi0,hi0n⟩,h'⟩:=id h;refine⟨fun h0=>by rw[h0] at hi0;(cases hi0),fun i hi=> ?_⟩;have hfar:=far i hi;by_cases hs:i=n
 · subst hs;exact store (f + 1) h hi
 have hlt:i < n:=by omega
 refine Zb1 hC (fun a' w' hC' hh=> ?_) (h' i hi hs).2;exact ih _ a' w' (inv.set hi hlt) hC' hh
end
def dstB (m:Nat):List Oper→Bool
 |[]=>true
 |o::l=>(match o.dst with|some d=>decide (d < m)&&l.all (fun p=>p.dst != some d)|none=>false)&&dstB m l
theorem Zh3 (a:Act) (x:Option Tmp) (v:Value):(a.put x v).tmps.size=a.tmps.size:=by cases x<;>simp[Act.put]
theorem Zb8 {D:World→Prop} {a1:Act} {d:Tmp}:∀(l:List Oper) (a:Act),l.all (fun p=>p.dst != some d)=true→wpQuiet P ops D (fun a'=>a'=a1) l a→a1.tmps[d]? =a.tmps[d]?
 |[],a,_,h=>by rw[show a=a1 from h]
 |o::l,a,hd,h=>by
  simp only[List.all_cons,Bool.and_eq_true,bne_iff_ne,ne_eq] at hd
  have key:∀v,(a.put o.dst v).tmps[d]? =a.tmps[d]? :=fun v=>by
   cases ho:o.dst with
   |none=>rfl
   |some t=>
    have:t≠d:=fun e=>hd.1 (by rw[ho,e])
    simp[Act.put,Array.getElem?_setIfInBounds_ne this]
  unfold wpQuiet at h;split at h
  · obtain⟨v,_,h⟩:=h;rw[Zb8 l _ hd.2 h,key]
  rw[Zb8 l _ hd.2 h,key]
theorem Zb0 {a1:Act} (i0:ι):∀(l:List Oper) (a:Act),(∀i,wpQuiet P ops (C i) (fun a'=>a'=a1) l a)→dstB a.tmps.size l=true→ZbK P ops C (fun a'=>a'=a1) l a
 |[],a,h,_=>h i0
 |o::l,a,h,hd=>by
  unfold dstB at hd;simp only[Bool.and_eq_true] at hd;obtain⟨hd1,hd2⟩:=hd;unfold ZbK;unfold wpQuiet at h;split
  · rename_i hw;simp only[hw,if_true] at h
    cases ho:o.dst with
    |none=>rw[ho] at hd1;cases hd1
    |some d=>
     rw[ho] at hd1;simp only[Bool.and_eq_true,decide_eq_true_eq] at hd1
     have hv:∀i v,wpQuiet P ops (C i) (fun a'=>a'=a1) l (a.put o.dst v)→a1.tmps[d]? =some v:=fun i v hq=>by
      rw[Zb8 l _ hd1.2 hq,ho];simp[Act.put,hd1.1]
     obtain⟨v0,_,hr0⟩:=h i0;have e0:=hv i0 v0 hr0
     have hall:∀i,(∀w,C i w→o.quietAt P a (C i) w v0)∧wpQuiet P ops (C i) (fun a'=>a'=a1) l (a.put o.dst v0):=fun i=>by
      obtain⟨v,hq,hr⟩:=h i;have e:=hv i v hr;rw[e0] at e;cases e;exact⟨hq,hr⟩
     refine⟨v0,fun i=>(hall i).1,Zb0 i0 l _ (fun i=>(hall i).2) (by rw[Zh3];exact hd2)⟩
  rename_i hw;simp only[hw] at h;exact Zb0 i0 l _ h (by rw[Zh3];exact hd2)
end
end Go
namespace Go.Proofs.YtknoefbcmomalaaGreatDoor
section
variable {P:Program} {L0 L:List Part} {w0:World}
abbrev ZiG (L0:List Part) (w0:World) (L:List Part):Type:={R:Part // ∃w,At L0 w0 (R::L) w}
theorem ZlE (vs us:List Value) (h:us.length=vs.length):setL vs 0 us=us:=by
 apply List.ext_getElem?;intro j;by_cases hj:j < us.length
 · have:=ZjM us vs 0 j (by omega) hj
   rwa [Nat.zero_add] at this
 rw[List.getElem?_eq_none (by rw[Zaj];omega),List.getElem?_eq_none (by omega)]
theorem Zaq {id:Nat} {Q:Exit→Act→World→Prop} {a a1:Act} {w:World} {l:List Oper} (n:Nat) (d:Tmp) (E:TypeId) (y:Operand) (z:Value) (vs us:List Value) (hm:P.follows .mixedOrders=true)
 (hB:(Region.noSelect l.toArray&&tailX .any l.toArray (n + 1)&&freeX .any l.toArray n&&headB .any l.toArray n 0 (Array.replicate l.toArray.size false)&&dstB a.tmps.size (l.take n)&&Region.seqB .any l.toArray (l.length - (n + 2)) (n + 2) (((ZaK l.toArray.size n).setIfInBounds n true).setIfInBounds (n + 1) true))=true)
 (ho:(l[n]?).map (fun o=>(o.dst,o.op))=some (some d,.alloc E)) (hs:(l[n + 1]?).map (fun o=>o.op)=some (.store E (.tmp d) y)) (hyd:(match y with|.tmp t=>t != d|_=>true)=true) (hz:(P.info? E).map (·.zero)=some (some z)) (hv:z.cells=vs.toArray)
 (hA:At L0 w0 L w)
 (h1:∀(R:Part) (wR:World),At L0 w0 (R::L) wR→wpQuiet P l.toArray (Cl L0 w0 (R::L)) (fun a'=>a'=a1) (l.take n) a)
 (hd:d < a1.tmps.size) {v:Value} (hy:a1.eval y=v) (hu:v.cells=us.toArray) (hsz:(P.info? E).map (·.size)=some us.length) (hus:us.all (·.oneCell')=true) (hl:us.length=vs.length)
 (h2:∀b w',At L0 w0 (Part.cells b us E::L) w'→w0.heap.size≤b→wpList P l.toArray Q (l.drop (n + 2)) (a1.put (some d) (.pointer (some ⟨b,0,none⟩))) w'):(Code.region id l.toArray true).wp P Q a w:=by
 simp only[Bool.and_eq_true] at hB;obtain⟨⟨⟨⟨⟨hsel,hx⟩,hfx⟩,hhead⟩,hdst⟩,hseq⟩:=hB;obtain⟨on,os,hX⟩:=Zi6 hfx;have hss:n + 1 < l.length:=by simpa using(Array.getElem?_eq_some_iff.1 hX.hos).1
 have hon':l[n]? =some on:=by simpa using hX.hon
 have hos':l[n + 1]? =some os:=by simpa using hX.hos
 rw[hon'] at ho;rw[hos'] at hs;simp only[Option.map_some,Option.some.injEq,Prod.mk.injEq] at ho hs;obtain⟨hod,hop⟩:=ho;have htl:(l.take n).length=n:=by simp;omega
 have hA0:At L0 w0 (Part.fact True::L) w.drew:=hA.drew.new (Ext.refl _) (Part.fact True) trivial (fun _ e=>e.elim);let C:ZiG L0 w0 L→World→Prop:=fun R w=>At L0 w0 (R.1::L) w
 let R0:ZiG L0 w0 L:=⟨Part.fact True,w.drew,hA0⟩
 have inv0:HeadInv .any l.toArray n (Array.replicate l.toArray.size false):=
  ⟨by simp,fun j oj _ hl=>(by rw[getD_replicate_false] at hl;cases hl),fun t _ ht=>getD_in (by simpa using ht) (getD_replicate_false _ _)⟩
 have hq:ZbK P l.toArray C (fun a'=>a'=a1) (l.take n) a:=Zb0 R0 _ _ (fun R=>by
  obtain⟨R,wR,hR⟩:=R
  exact h1 R wR hR) hdst
 have H:=ZcF (C:=C) (md:=.any) hsel (fun _ hun=>Zgk hx hX.waits hun) (by simp;omega) (l.take n) 0 _ a (fun j hj=>by
  have hj':j < n:=by rw[htl] at hj;exact hj
  simp[hj']) (by simpa using htl) inv0 (fun j hj=>by omega) (by rw[htl];exact hhead) hq
 refine wp_region_any hm ?_;have hdl:(l.drop (n + 2)).length=l.length - (n + 2):=by simp
 have key:=ZhN (C:=C) (Q':=Q) (R0:=R0) (g:=l.length - (n + 2)) hX (Region.noSelect_spec hsel) hx (fun a w hC=>by
  have hC':At L0 w0 L w:=At.sub hC (List.sublist_cons_self _ _);have hnew:=hC'.alloc vs E;refine⟨.pointer (some ⟨w.heap.size,0,none⟩),⟨Part.cells w.heap.size vs E,_,hnew⟩,_,?_,hnew,fun w1 hw1=> ?_⟩
  · cases hq:P.info? E with
    |none=>simp[hq] at hz
    |some i=>
     have hi:i.zero=some z:=by simpa [hq] using hz
     simp[execOp,hop,Instr.alloc,zeroValue,typeInfo,hq,hi,newVar,newRow,hv,Result.andThen]
  have hb:Zaa w1 w.heap.size vs E:=At.get (A:=Part.cells w.heap.size vs E) hw1 .here;have hsto:=At.stores hw1 (b:=w.heap.size) (c:=vs) (T:=E) .here 0 us;have hset:setL vs 0 us=us:=ZlE vs us hl;rw[hset] at hsto;have hvs:v.cells.size=us.length:=by rw[hu];simp
  have hrun:=ZaT (P:=P) w1 w.heap.size 0 E v (hb.there 0 _ (by omega)) (by rw[hvs];exact hsz) (by
   rw[hu,Array.all_eq_true_iff_forall_mem];intro u hu'
   exact List.all_eq_true.1 hus u (by simpa using hu'))
  rw[show v.cells.toList=us from by rw[hu]] at hrun
  have ed:(a1.put on.dst (.pointer (some ⟨w.heap.size,0,none⟩))).eval (.tmp d)=.pointer (some ⟨w.heap.size,0,none⟩):=by
   rw[hod];simp[Act.put,Act.eval,hd]
  have ey:(a1.put on.dst (.pointer (some ⟨w.heap.size,0,none⟩))).eval y=v:=by
   rw[←hy];refine Act.eval_put fun t ht e=> ?_;rw[hod] at ht;cases ht;subst e;simp at hyd
  refine⟨⟨Part.cells w.heap.size us E,_,hsto⟩,_,?_,hsto,fun w'' hw''=> ?_⟩
  · simp[execOp,hs,ed,ey,hrun,Result.andThen]
  have:=wpAny_of_seq (P:=P) (ops:=l.toArray) (md:=.any) (Q':=Q) (l.drop (n + 2)) (n + 2) (((ZaK l.toArray.size n).setIfInBounds n true).setIfInBounds (n + 1) true) (a1.put on.dst (.pointer (some ⟨w.heap.size,0,none⟩))) w'' (fun j=>by simp[List.getElem?_drop]) (by rw[hdl];exact hseq) (by
   rw[hod]
   exact h2 _ _ hw'' hC'.size)
  rwa [hdl] at this) _ _ _ _ inv0 hA0 H
 rw[htl,show n + 2 + (l.length - (n + 2))=l.toArray.size by simp;omega] at key;exact key
theorem Zb7 {id:Nat} {Q:Exit→Act→World→Prop} {a a1:Act} {w:World} {l:List Oper} (n:Nat) (T:TypeId) (x y:Operand) (hm:P.follows .mixedOrders=true)
 (hB:(Region.noSelect l.toArray&&tailX .any l.toArray n&&freeS .any l.toArray n&&headB .any l.toArray n 0 (Array.replicate l.toArray.size false)&&dstB a.tmps.size (l.take n)&&Region.seqB .any l.toArray (l.length - (n + 1)) (n + 1) ((ZaK l.toArray.size n).setIfInBounds n true))=true)
 (hs:(l[n]?).map (fun o=>o.op)=some (.store T x y)) {b j:Nat} {c:List Value} {E:TypeId} {F:List Part}
 (hA0:At L0 w0 L w) (s:Sel (Part.cells b c E) L F)
 (h1:∀(R:Part) (wR:World),At L0 w0 (R::F) wR→wpQuiet P l.toArray (Cl L0 w0 (R::F)) (fun a'=>a'=a1) (l.take n) a)
 (hx:a1.eval x=.pointer (some ⟨b,j,none⟩)) {v:Value} {us:List Value} (hy:a1.eval y=v) (hu:v.cells=us.toArray) (hsz:(P.info? T).map (·.size)=some us.length) (hus:us.all (·.oneCell')=true) (hl:j + us.length≤c.length)
 (h2:∀w',At L0 w0 (Part.cells b (setL c j us) E::F) w'→wpList P l.toArray Q (l.drop (n + 1)) a1 w'):(Code.region id l.toArray true).wp P Q a w:=by
 simp only[Bool.and_eq_true] at hB;obtain⟨⟨⟨⟨⟨hsel,htx⟩,hfx⟩,hhead⟩,hdst⟩,hseq⟩:=hB;obtain⟨os,hX⟩:=Zi7 hfx;have hss:n < l.length:=by simpa using(Array.getElem?_eq_some_iff.1 hX.hos).1
 have hos':l[n]? =some os:=by simpa using hX.hos
 rw[hos'] at hs;simp only[Option.map_some,Option.some.injEq] at hs;have htl:(l.take n).length=n:=by simp;omega
 have hA:At L0 w0 (Part.cells b c E::F) w.drew:=(hA0.take s).drew;let C:ZiG L0 w0 F→World→Prop:=fun R w=>At L0 w0 (R.1::F) w
 let R0:ZiG L0 w0 F:=⟨Part.cells b c E,w.drew,hA⟩
 have inv0:HeadInv .any l.toArray n (Array.replicate l.toArray.size false):=
  ⟨by simp,fun j oj _ hl=>(by rw[getD_replicate_false] at hl;cases hl),fun t _ ht=>getD_in (by simpa using ht) (getD_replicate_false _ _)⟩
 have hq:ZbK P l.toArray C (fun a'=>a'=a1) (l.take n) a:=Zb0 R0 _ _ (fun R=>by
  obtain⟨R,wR,hR⟩:=R
  exact h1 R wR hR) hdst
 have H:=ZcF (C:=C) (md:=.any) hsel (fun listed hun i hi=>by
  rcases Nat.lt_or_ge n i with q|q
  · exact absurd hi (ZbU htx (Nat.le_refl _) hun q)
  · exact q) (by simpa using hss) (l.take n) 0 _ a (fun j hj=>by
  have hj':j < n:=by rw[htl] at hj;exact hj
  simp[hj']) (by simpa using htl) inv0 (fun j hj=>by omega) (by rw[htl];exact hhead) hq
 refine wp_region_any hm ?_;have hdl:(l.drop (n + 1)).length=l.length - (n + 1):=by simp
 have key:=ZmX (C:=C) (Q':=Q) (R:=R0) (g:=l.length - (n + 1)) (a1:=a1) hX (Region.noSelect_spec hsel) htx (fun w1 hw1=>by
  have hb:Zaa w1 b c E:=At.get (A:=Part.cells b c E) hw1 .here;have hsto:=At.stores hw1 (b:=b) (c:=c) (T:=E) .here j us;have hvs:v.cells.size=us.length:=by rw[hu];simp
  have hrun:=ZaT (P:=P) w1 b j T v (hb.there j _ (by omega)) (by rw[hvs];exact hsz) (by
   rw[hu,Array.all_eq_true_iff_forall_mem];intro u hu'
   exact List.all_eq_true.1 hus u (by simpa using hu'))
  rw[show v.cells.toList=us from by rw[hu]] at hrun;refine⟨⟨Part.cells b (setL c j us) E,_,hsto⟩,_,?_,hsto,fun w'' hw''=> ?_⟩
  · simp[execOp,hs,hx,hy,hrun,Result.andThen]
  have:=wpAny_of_seq (P:=P) (ops:=l.toArray) (md:=.any) (Q':=Q) (l.drop (n + 1)) (n + 1) ((ZaK l.toArray.size n).setIfInBounds n true) a1 w'' (fun j=>by simp[List.getElem?_drop]) (by rw[hdl];exact hseq) (h2 _ hw'')
  rwa [hdl] at this) _ _ _ _ inv0 hA H
 rw[htl,show n + 1 + (l.length - (n + 1))=l.toArray.size by simp;omega] at key;exact key
end
section
open Go.Maps (Keyed)
variable {P:Program} {k:TypeId} {b:Nat} {es:List (Value × Value)} {o:Oper} {a:Act} {L0 L F:List Part} {w0:World} {K:Act→Prop}
theorem ZbO {t:TypeId} {m x:Operand} (hop:o.op=.lookup t m x true) (hm:a.eval m=.map (some b)) {key:Value} (hx:a.eval x=key)
 (s:Sel (Part.map P k b es) L F) {e:TypeId} (Kd:Keyed P k) (ht:P.underlying t=some (.map k e)) {kl:Lit} (hk:keyOf P k key=some kl) (hn:∀p ∈ es,p.1≠key) {z:Value} (hz:∀w,(zeroValue e).run P w=.ok z w)
 (hK:K (a.put o.dst (.tuple #[z,.bool false]))):o.quiet P a (Cl L0 w0 L) K:=by
 refine Zb3 _ (fun w' hw=> ?_) hK;have hM:MapAt P k w' b es:=hw.get s;simp[execOp,hop,hm,hx,hM.look_none Kd ht hk hn (hz w') true,Result.andThen]
theorem ZbN {t:TypeId} {m x:Operand} (hop:o.op=.lookup t m x true) (hm:a.eval m=.map (some b)) {key:Value} (hx:a.eval x=key)
 (s:Sel (Part.map P k b es) L F) {e:TypeId} (Kd:Keyed P k) (ht:P.underlying t=some (.map k e)) {kl:Lit} (hk:keyOf P k key=some kl) {v:Value} (hn:(key,v) ∈ es)
 (hK:K (a.put o.dst (.tuple #[v,.bool true]))):o.quiet P a (Cl L0 w0 L) K:=by
 refine Zb3 _ (fun w' hw=> ?_) hK;have hM:MapAt P k w' b es:=hw.get s;simp[execOp,hop,hm,hx,hM.look_some Kd ht hk hn true,Result.andThen]
end
end Go.Proofs.YtknoefbcmomalaaGreatDoor
end
namespace Go.Proofs.YtknoefbcmomalaaGreatDoor
section
namespace Mark
open Go.RowKit Go.Shelf
open Go.Maps (Keyed)
attribute [local go_sem] Oper.semAt_some
def seenOf (w:World) (r:Nat):Nat:=match w.heap[r]? with|some (.mapIter _ _ seen _)=>seen.size|_=>0
theorem seenOf_eq {P:Program} {k:TypeId} {w:World} {r b:Nat} {es done:List (Value × Value)} (h:Zax P k w r b es done):seenOf w r=done.length:=by
 obtain⟨_,_,ents,clock,c0,vs,hb,hr,hc,hd,_⟩:=h;unfold seenOf;rw[hr,←hd];simp
theorem iter_walk {P:Program} {k:TypeId} {w:World} {r b:Nat} {es done:List (Value × Value)} (h:Zax P k w r b es done):∃o:Obj,w.heap[r]? =some o∧o.isWalk=true:=by
 obtain⟨_,_,ents,clock,c0,vs,hb,hr,_⟩:=h;exact⟨_,hr,rfl⟩
theorem iter_keeps {P:Program} {k:TypeId} {w w':World} {r b:Nat} {es done:List (Value × Value)} (h:Zax P k w r b es done) (hk:KeepsWalks w w'):Zax P k w' r b es done:=by
 have h0:=h;obtain⟨_,_,ents,clock,c0,vs,hb,hr,_⟩:=h0;exact h.same ((hk.same b _ hb rfl).trans hb.symm) ((hk.same r _ hr rfl).trans hr.symm)
theorem grown_of_exc {w w':World} {r:Nat} (h:Exc (fun q=>q=r) w w'):w.grownBy w' (some r):=⟨h.os,h.tape,h.output,h.size,fun k hk hn=>h.block k hk (fun e=>hn (by rw[e]))⟩
theorem grown_of_ext {w w':World} (h:Ext w w'):w.grownBy w' none:=⟨Below.os h,Below.tape h,Below.output h,Below.size h,fun k hk _=>Below.block h k hk⟩
def Box (W:World) (B:Nat) (t:TypeId) (c:Array Value):Prop:=W.heap[B]? =some (.cells c t (0,0))
theorem Box.own {β:Type} (B:Nat) (t:TypeId) (c:Array Value):Own (fun(_:β) W=>Box W B t c):=fun s X Y row hs hg hrow=>
 (hg.block B (ZaJ hs) (fun e=>by obtain⟨o,ho,hc⟩:=hrow B e.symm;rw[show X.heap[B]? =_ from hs] at ho;cases ho;cases hc)).trans hs
theorem two_new (W:World) (x y:Value) (t:TypeId):∀(j:Nat) (u:Value),[x,y][j]? =some u→(W.alloc (.cells #[x,y] t)).cell? ((⟨W.heap.size,0,none⟩:Addr).add j)=some u:=by
 intro j u h
 match j,h with
 |0,h=>simp at h;subst h;simp[Addr.add]
 |1,h=>simp at h;subst h;simp[Addr.add]
 |j + 2,h=>simp at h
end Mark
end
end Go.Proofs.YtknoefbcmomalaaGreatDoor
