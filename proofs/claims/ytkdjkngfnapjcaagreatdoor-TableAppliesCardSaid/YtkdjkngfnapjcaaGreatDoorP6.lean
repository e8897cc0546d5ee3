/- RegB, LockG, LockH, joined. -/
import Derived.Test.YtkdjkngfnapjcaaGreatDoorP4
import Derived.Test.YtkdjkngfnapjcaaGreatDoorP2
import Derived.Test.YtkdjkngfnapjcaaGreatDoorP5
set_option linter.unusedSimpArgs false
set_option linter.unusedVariables false
set_option maxRecDepth 100000
set_option maxHeartbeats 16000000
section
namespace Go
section
variable {P:Program} {ops:Array Oper} {md:Region.Mode} {ι:Type} {C:ι→World→Prop}
def Oper.quietF (P:Program) (o:Oper) (a:Act) (C:ι→World→Prop) (next:Act→Prop):Prop:=∃v,(∀i w,C i w→o.quietAt P a (C i) w v)∧next (a.put o.dst v)
def ZbJ (P:Program) (ops:Array Oper) (C:ι→World→Prop) (Q:Act→Prop):List Oper→Act→Prop
 |[],a=>Q a
 |o::rest,a=>if Region.wanted o (yielded ops a.tmps) then o.quietF P a C (ZbJ P ops C Q rest) else ZbJ P ops C Q rest (a.put o.dst undef)
def qOpF (P:Program) (ops:Array Oper) (C:ι→World→Prop) (i:Nat) (K:Act→Prop) (a:Act):Prop:=
 match ops[i]? with
 |none=>K a
 |some o=>if Region.wanted o (yielded ops a.tmps) then o.quietF P a C K else K (a.put o.dst undef)
theorem Oper.quietF_mono {o:Oper} {a:Act} {K K':Act→Prop} (h:∀a,K a→K' a) (hh:o.quietF P a C K):o.quietF P a C K':=
 let ⟨v,h1,h2⟩:=hh
 ⟨v,h1,h _ h2⟩
theorem Zks {i:Nat} {a:Act} {K K':Act→Prop} (h:∀a,K a→K' a) (hh:qOpF P ops C i K a):qOpF P ops C i K' a:=by
 unfold qOpF at *
 split
 · exact h _ (by simpa [*] using hh)
 rename_i o ho
 simp only[ho] at hh
 split
 · rename_i hw;simp only[hw,if_true] at hh;exact Oper.quietF_mono h hh
 rename_i hw;simp only[hw] at hh;exact h _ hh
def Zbt (P:Program) (ops:Array Oper) (C:ι→World→Prop) (o:Oper) (v:Value) (a:Act):Prop:=
 (Region.wanted o (yielded ops a.tmps)=true∧∀i w,C i w→o.quietAt P a (C i) w v)∨
 (Region.wanted o (yielded ops a.tmps)=false∧v=undef)
theorem Zbt.qOp {i:Nat} {o:Oper} {v:Value} {a:Act} (hi:ops[i]? =some o) (hy:Zbt P ops C o v a) {K:Act→Prop} (h:K (a.put o.dst v)):qOpF P ops C i K a:=by
 unfold qOpF;simp only[hi]
 rcases hy with⟨hw,hv⟩|⟨hw,rfl⟩
 · simp only[hw,if_true];exact⟨v,hv,h⟩
 simp only[hw,Bool.false_eq_true,if_false];exact h
theorem Zbt.of_same {o:Oper} {v:Value} {a a':Act} (hy:Zbt P ops C o v a) (he:execOp a'.eval o=execOp a.eval o)
 (hw:Region.wanted o (yielded ops a'.tmps)=Region.wanted o (yielded ops a.tmps)):Zbt P ops C o v a':=by
 unfold Zbt Oper.quietAt at *
 rw[he,hw];exact hy
theorem ZeR {i:Nat} {o:Oper} {a:Act} {K:Act→Prop} (hi:ops[i]? =some o) (h:qOpF P ops C i K a):∃v,Zbt P ops C o v a∧K (a.put o.dst v):=by
 unfold qOpF at h;simp only[hi] at h
 by_cases hw:Region.wanted o (yielded ops a.tmps)=true
 · simp only[hw,if_true] at h
   obtain⟨v,h1,h2⟩:=h;exact⟨v,.inl ⟨hw,h1⟩,h2⟩
 simp only[hw] at h
 exact⟨undef,.inr ⟨by simpa using hw,rfl⟩,h⟩
theorem Zmn {j:Nat} {oi oj:Oper} {v:Value} (hj:ops[j]? =some oj) (hap:oi.apart ops oj=true)
 (hsi:∀cs b,oi.op≠.select cs b) (hsj:∀cs b,oj.op≠.select cs b) {K:Act→Prop} {a:Act}
 (hy:Zbt P ops C oi v a) (h:qOpF P ops C j K (a.put oi.dst v)):
 qOpF P ops C j (fun a'=>Zbt P ops C oi v a'∧K (a'.put oi.dst v)) a:=by
 obtain⟨h1,h2,h3⟩:=Oper.apart_spec hap
 have keep:∀(a:Act),Zbt P ops C oi v a→∀u,Zbt P ops C oi v (a.put oj.dst u):=fun a hy u=>
  hy.of_same (execOp_put oi hsi a oj.dst u h3) (wanted_put oi a oj.dst u h3)
 unfold qOpF at *
 simp only[hj] at *
 rw[wanted_put oj a oi.dst v h1] at h
 split
 · rename_i hw
   simp only[hw,if_true] at h;obtain⟨u,hu,hn⟩:=h;refine⟨u,fun i w hw'=> ?_,keep a hy u,by rw[←Act.put_comm a v u h2];exact hn⟩;have:=hu i w hw'
   unfold Oper.quietAt at *
   rwa [execOp_put oj hsj a oi.dst v h1] at this
 rename_i hw
 simp only[hw] at h;exact⟨keep a hy _,by rw[←Act.put_comm a v undef h2];exact h⟩
def Zbj (P:Program) (md:Region.Mode) (ops:Array Oper) (C:ι→World→Prop) (n:Nat) (L:Array Bool→Act→Prop):Nat→Array Bool→Act→Prop
 |0,listed,a=>L listed a
 |f + 1,listed,a=>(∃i ∈ Region.ready md ops listed,i < n)∧∀i ∈ Region.ready md ops listed,i≠n→i < n∧qOpF P ops C i (Zbj P md ops C n L f (listed.setIfInBounds i true)) a
def tailX (md:Region.Mode) (ops:Array Oper) (n:Nat):Bool:=
 (List.range ops.size).all fun t=>decide (t≤n) || (List.range (n + 1)).all fun i=>Region.waitsFor md ops t i
theorem ZbT {n:Nat} {listed:Array Bool} (hx:tailX md ops n=true) {i:Nat} (hi:i≤n) (hun:listed.getD i false=false) {t:Nat} (ht:n < t):t ∉ Region.ready md ops listed:=by
 intro hr;obtain⟨_,ot,hot,hall⟩:=mem_ready.1 hr;have htlt:t < ops.size:=(Array.getElem?_eq_some_iff.1 hot).1;have h1:=List.all_eq_true.1 hx t (List.mem_range.2 htlt);simp only[Bool.or_eq_true,decide_eq_true_eq] at h1
 rcases h1 with h1|h1
 · omega
 obtain⟨oj,hoj,e,he,hb,hon⟩:=Region.waitsFor_spec (List.all_eq_true.1 h1 i (List.mem_range.2 (by omega)))
 have:oj=ot:=Option.some.inj (hoj.symm.trans hot);subst this;have:=hall e he hb;rw[hon,hun] at this;cases this
theorem ZgL {n:Nat} {listed:Array Bool} (hx:tailX md ops (n + 1)=true) (hw:Region.waitsFor md ops (n + 1) n=true) (hun:listed.getD n false=false):∀i ∈ Region.ready md ops listed,i≤n:=fun i hi=>by
 rcases Nat.lt_or_ge n i with q|q
 · exfalso
   by_cases e:i=n + 1
   · subst e
     obtain⟨_,ot,hot,hall⟩:=mem_ready.1 hi;obtain⟨oj,hoj,e,he,hb,hon⟩:=Region.waitsFor_spec hw;have:oj=ot:=Option.some.inj (hoj.symm.trans hot);subst this;have:=hall e he hb;rw[hon,hun] at this;cases this
   exact absurd hi (ZbT hx (i:=n) (by omega) hun (by omega))
 exact q
theorem Zfy {n i:Nat} {oi:Oper} {v:Value} {L:Array Bool→Act→Prop} (hi:ops[i]? =some oi) (hsel:∀(j:Nat) (o:Oper) cs b,ops[j]? =some o→o.op≠.select cs b)
 (hfar:∀listed:Array Bool,listed.getD n false=false→∀i ∈ Region.ready md ops listed,i≤n) (hns:n < ops.size) (hin:i < n) (hdone:∀listed a,L listed a→∀j ∈ Region.ready md ops listed,n≤j):
 ∀(f:Nat) (listed:Array Bool) (a:Act),HeadInv md ops n listed→
  (∀j oj,ops[j]? =some oj→j≠i→listed.getD j true=false→(∀e ∈ oj.after,Region.binds md e=true→e.on≠i)→oi.apart ops oj=true)→
  i ∈ Region.ready md ops listed→Zbt P ops C oi v a→
  Zbj P md ops C n L f (listed.setIfInBounds i true) (a.put oi.dst v)→Zbj P md ops C n L (f + 1) listed a:=by
 intro f
 induction f with
 |zero=>
  intro listed a inv _ hr hy H;have hun:=(mem_ready.1 hr).1;refine⟨⟨i,hr,hin⟩,fun j hj hjx=> ?_⟩
  have hjn:j < n:=by
   have:=hfar _ (getD_both (inv.tail n (Nat.le_refl _) hns)) j hj
   omega
  refine⟨hjn,?_⟩
  by_cases hji:j=i
  · subst hji;exact hy.qOp hi H
  have:=hdone _ _ H j (ready_mono hj hji)
  omega
 |succ f ih=>
  intro listed a inv hfree hr hy H;have hun:=(mem_ready.1 hr).1;refine⟨⟨i,hr,hin⟩,fun j hj hjx=> ?_⟩
  have hjn:j < n:=by
   have:=hfar _ (getD_both (inv.tail n (Nat.le_refl _) hns)) j hj
   omega
  refine⟨hjn,?_⟩
  by_cases hji:j=i
  · subst hji;exact hy.qOp hi H
  have h1:=(H.2 j (ready_mono hj hji) hjx).2
  obtain⟨hjun,oj,hoj,hall⟩:=mem_ready.1 hj
  have hnot:∀e ∈ oj.after,Region.binds md e=true→e.on≠i:=fun e he hb heq=>by
   have h1:=hall e he hb;rw[heq,getD_both hun] at h1;cases h1
  have h2:=Zmn hoj (hfree j oj hoj hji hjun hnot) (fun cs b=>hsel i oi cs b hi) (fun cs b=>hsel j oj cs b hoj) hy h1
  have hfree':∀k ok,ops[k]? =some ok→k≠i→(listed.setIfInBounds j true).getD k true=false→
   (∀e ∈ ok.after,Region.binds md e=true→e.on≠i)→oi.apart ops ok=true:=fun k ok hk hki hun hno=>by
   refine hfree k ok hk hki ?_ hno
   by_cases hjk:j=k
   · subst hjk;exact hjun
   rw[getD_set_ne true hjk] at hun;exact hun
  refine Zks (fun a' h3=>ih (listed.setIfInBounds j true) a' (inv.set hj hjn) hfree' (ready_mono hr (Ne.symm hji)) h3.1 ?_) h2;rw[Array.setIfInBounds_comm _ _ hji];exact h3.2
theorem ZcP {n:Nat} {Lq:Act→Prop} (hsel:Region.noSelect ops=true) (hfar:∀listed:Array Bool,listed.getD n false=false→∀i ∈ Region.ready md ops listed,i≤n) (hn:n < ops.size):
 ∀(l:List Oper) (k:Nat) (listed:Array Bool) (a:Act),(∀j,j < l.length→l[j]? =ops[k + j]?)→k + l.length=n→HeadInv md ops n listed→(∀j,j < k→listed.getD j false=true)→
 headB md ops l.length k listed=true→ZbJ P ops C Lq l a→
 Zbj P md ops C n (fun listed' a'=>listed'=ZaR ops.size n∧Lq a') l.length listed a
 |[],k,listed,a,_,hk,inv,hd,_,h=>by
  have:k=n:=by simpa using hk
  subst this;exact⟨ZkX inv.size hd inv.tail,h⟩
 |o::l,k,listed,a,hl,hk,inv,hd,hB,h=>by
  have h0:ops[k]? =some o:=by simpa using(hl 0 (by simp)).symm
  simp only[List.length_cons,headB,Bool.and_eq_true] at hB;obtain⟨⟨hr,hf⟩,hB'⟩:=hB
  have hkn:k < n:=by simp only[List.length_cons] at hk;omega
  have hr':k ∈ Region.ready md ops listed:=by simpa using hr
  have hst:qOpF P ops C k (ZbJ P ops C Lq l) a:=by unfold qOpF;simp only[h0];exact h
  obtain⟨v,hy,hK⟩:=ZeR h0 hst
  have hks:k < listed.size:=by rw[inv.size];omega
  exact Zfy h0 (Region.noSelect_spec hsel) hfar hn hkn (fun listed' a' hL=>by rw[hL.1];exact Zcr) l.length listed a inv (Region.free_spec h0 hf) hr' hy
   (ZcP hsel hfar hn l (k + 1) _ _ (fun j hj=>by have:=hl (j + 1) (by simp;omega);simpa [Nat.add_assoc,Nat.add_comm 1 j] using this) (by simp only[List.length_cons] at hk;omega) (inv.set hr' hkn)
     (fun j hj=>by
       by_cases hjk:j=k
       · subst hjk;simp[hks]
       rw[getD_set_ne false (Ne.symm hjk)];exact hd j (by omega)) hB' hK)
theorem Zdy {i:Nat} {o:Oper} {a:Act} {K:Act→Prop} {K':Act→World→Prop} {Q':Exit→Act→World→Prop} {w:World} {R:ι} {on:Oper} {p:Value} (ho:ops[i]? =some o) (hap:on.apart ops o=true) (hsel:∀cs b,o.op≠.select cs b)
 (hC:C R w) (h:∀a w',C R w'→K a→K' (a.put on.dst p) w') (hh:qOpF P ops C i K a):wpOp P ops Q' i K' (a.put on.dst p) w:=by
 obtain⟨h1,h2,_⟩:=Oper.apart_spec hap;unfold qOpF at hh;unfold wpOp;simp only[ho] at hh ⊢;rw[wanted_put o a on.dst p h1]
 split
 · rename_i hw
   simp only[hw,if_true] at hh;obtain⟨v,hv,hn⟩:=hh;have h3:=hv R w hC
   left
   unfold Oper.quietAt at h3;unfold Oper.wp;rw[execOp_put o hsel a on.dst p h1]
   generalize (execOp a.eval o).run P w=r at *
   cases r with
   |ok n w'=>
    cases n<;>simp only[Oper.quietUpon] at h3<;>simp only[Oper.upon]
    case value u=>
     obtain⟨e1,e2⟩:=h3;rw[e1,e2,Act.put_comm a p v h2];exact h _ _ hC hn
    case skip=>
     obtain⟨e1,e2⟩:=h3;rw[e1,←e2,Act.put_comm a p v h2];exact h _ _ hC hn
    case enter f args=>
     obtain⟨e1,hc⟩:=h3;rw[e1]
     refine hc.mono fun e w'' ⟨he,hw''⟩=> ?_
     subst he;show K' ((a.put on.dst p).put o.dst v) w'';rw[Act.put_comm a p v h2];exact h _ _ hw'' hn
   |halt x w'=>simp only[Oper.quietUpon] at h3
 rename_i hw
 simp only[hw] at hh;rw[Act.put_comm a p undef h2];exact h _ _ hC hh
theorem Zb3 {i:Nat} {a:Act} {K:Act→Prop} {K':Act→World→Prop} {Q':Exit→Act→World→Prop} {w:World} {R:ι} (hC:C R w) (h:∀a w',C R w'→K a→K' a w') (hh:qOpF P ops C i K a):wpOp P ops Q' i K' a w:=
 wpOp_of_qOp (C:=C R) hC h (by
  unfold qOpF at hh;unfold qOp
  split
  · rename_i ho;simpa only[ho] using hh
  rename_i o ho
  simp only[ho] at hh
  split
  · rename_i hw
    simp only[hw,if_true] at hh;obtain⟨v,hv,hn⟩:=hh;exact⟨v,fun w hw=>hv R w hw,hn⟩
  rename_i hw
  rw[if_neg hw] at hh
  exact hh)
def freeX (md:Region.Mode) (ops:Array Oper) (n:Nat):Bool:=
 match ops[n]?,ops[n + 1]? with
 |some on,some os=>on.after.isEmpty&&on.guard.isNone&&os.guard.isNone&&os.dst.isNone&&os.after.all (fun e=> !Region.binds md e || decide (e.on≤n))&&Region.waitsFor md ops (n + 1) n&&(List.range n).all fun i=> !Region.waitsFor md ops i n&& !Region.waitsFor md ops i (n + 1)&&(match ops[i]? with
  |some o=>on.apart ops o&&(Region.waitsFor md ops (n + 1) i || (match o.dst with|some d=> !(os.looksAt ops).contains d|none=>true))
  |none=>true)
 |_,_=>false
structure FreeX (md:Region.Mode) (ops:Array Oper) (n:Nat) (on os:Oper):Prop where
 hon:ops[n]? =some on
 hos:ops[n + 1]? =some os
 after:on.after= #[]
 guard:on.guard=none
 guards:os.guard=none
 dst:os.dst=none
 waits:Region.waitsFor md ops (n + 1) n=true
 apart:∀i o,i < n→ops[i]? =some o→on.apart ops o=true
 no:∀i o,i < n→ops[i]? =some o→∀e ∈ o.after,Region.binds md e=true→e.on≠n∧e.on≠n + 1
 reads:∀i o,i < n→ops[i]? =some o→Region.waitsFor md ops (n + 1) i=true∨∀d,o.dst=some d→d ∉ os.looksAt ops
 back:∀e ∈ os.after,Region.binds md e=true→e.on≤n
theorem Zjz {n:Nat} (h:freeX md ops n=true):∃on os,FreeX md ops n on os:=by
 unfold freeX at h
 split at h
 · rename_i on os ho hs
   simp only[Bool.and_eq_true,List.all_eq_true,Array.isEmpty_iff,Option.isNone_iff_eq_none] at h;obtain⟨⟨⟨⟨⟨⟨h1,h2⟩,h3⟩,h4⟩,h9⟩,h5⟩,h6⟩:=h
   have no:∀i o m,ops[i]? =some o→(!Region.waitsFor md ops i m)=true→∀e ∈ o.after,Region.binds md e=true→e.on≠m:=fun i o m hio hw e he hb heq=>by
    have h3:Region.waitsFor md ops i m=false:=by simpa using hw
    unfold Region.waitsFor at h3;rw[hio] at h3;simp only[Array.any_eq_false'] at h3;exact h3 e he (by simp[hb,heq])
   refine⟨on,os,ho,hs,h1,h2,h3,h4,h5,fun i o hi hio=> ?_,fun i o hi hio e he hb=> ?_,fun i o hi hio=> ?_,fun e he hb=> ?_⟩
   · have h7:=h6 i (List.mem_range.2 hi)
     rw[hio] at h7;simp only[Bool.and_eq_true] at h7;exact h7.2.1
   · have h7:=h6 i (List.mem_range.2 hi)
     exact⟨no i o n hio h7.1.1 e he hb,no i o (n + 1) hio h7.1.2 e he hb⟩
   · have h7:=h6 i (List.mem_range.2 hi)
     rw[hio] at h7;simp only[Bool.and_eq_true,Bool.or_eq_true] at h7
     rcases h7.2.2 with h8|h8
     · exact .inl h8
     right
     intro d hd;rw[hd] at h8
     simpa using h8
   have:=Array.all_eq_true'.1 h9 e he
   simpa [hb] using this
 cases h
theorem ZcX {n:Nat} {a1:Act} {d:Tmp} (i0:ι) (hst:∀i o,i < n→ops[i]? =some o→o.dst=none→True):∀(f:Nat) (listed:Array Bool) (a:Act),
 (∀i o,i < n→ops[i]? =some o→listed.getD i false=false→o.dst≠some d)→Zbj P md ops C n (fun listed' a'=>listed'=ZaR ops.size n∧a'=a1) f listed a→a.tmps[d]? =a1.tmps[d]?
 |0,listed,a,_,h=>by rw[h.2]
 |f + 1,listed,a,hd,h=>by
  obtain⟨⟨i,hi,hin⟩,h⟩:=h;obtain⟨hun,o,ho,_⟩:=mem_ready.1 hi;have h1:=(h i hi (by omega)).2;have hne:=hd i o hin ho (getD_both hun)
  have key:∀v,(a.put o.dst v).tmps[d]? =a.tmps[d]? :=fun v=>by
   cases hq:o.dst with
   |none=>rfl
   |some t=>
    have:t≠d:=fun e=>hne (by rw[hq,e])
    simp[Act.put,Array.getElem?_setIfInBounds_ne this]
  have hd':∀j o',j < n→ops[j]? =some o'→(listed.setIfInBounds i true).getD j false=false→o'.dst≠some d:=fun j o' hj hjo hl=>by
   by_cases hij:i=j
   · subst hij
     rw[hjo] at ho;cases ho;exact hne
   rw[getD_set_ne false hij] at hl;exact hd j o' hj hjo hl
  unfold qOpF at h1;simp only[ho] at h1
  split at h1
  · obtain⟨v,_,h2⟩:=h1
    rw[←ZcX i0 hst f _ _ hd' h2,key]
  rw[←ZcX i0 hst f _ _ hd' h1,key]
section
variable {n g:Nat} {on os:Oper} {p:Value} {a1:Act} {Q':Exit→Act→World→Prop}
theorem Zhp {R:ι} (hX:FreeX md ops n on os) (hsel:∀(j:Nat) (o:Oper) cs b,ops[j]? =some o→o.op≠.select cs b) (hx:tailX md ops (n + 1)=true)
 (hfin:∀w',C R w'→wpAny P md ops Q' g (((ZaR ops.size n).setIfInBounds n true).setIfInBounds (n + 1) true) (a1.put on.dst p) w'):
 ∀(f:Nat) (listed:Array Bool) (a:Act) (w:World),C R w→Zbj P md ops C n (fun listed' a'=>listed'=ZaR ops.size n∧a'=a1) f listed a→wpAny P md ops Q' (f + g) ((listed.setIfInBounds n true).setIfInBounds (n + 1) true) (a.put on.dst p) w
 |0,listed,a,w,hC,h=>by
  obtain⟨rfl,h⟩:=h;rw[Nat.zero_add,h];exact hfin _ hC
 |f + 1,listed,a,w,hC,h=>by
  rw[show f + 1 + g=(f + g) + 1 by omega];obtain⟨⟨i0,hi0,hi0n⟩,h⟩:=h;have hun:=(mem_ready.1 hi0).1;refine⟨fun h0=> ?_,fun i hi=> ?_⟩
  · have:=ready_mono (i:=n + 1) (ready_mono (i:=n) hi0 (by omega)) (by omega)
    rw[h0] at this;cases this
  obtain⟨hiun,o,ho,hall⟩:=mem_ready.1 hi
  have nots:∀(l:Array Bool) (m:Nat),(l.setIfInBounds m true).getD m true=true:=fun l m=>by
   rcases Nat.lt_or_ge m l.size with q|q
   · simp[q]
   rw[Array.getD_eq_getD_getElem?,Array.getElem?_eq_none (by simpa using q)];rfl
  have hin1:i≠n + 1:=by
   rintro rfl;rw[nots] at hiun;cases hiun
  rw[getD_set_ne true (Ne.symm hin1)] at hiun
  have hin:i≠n:=by
   rintro rfl;rw[nots] at hiun;cases hiun
  rw[getD_set_ne true (Ne.symm hin)] at hiun
  have hlt:i < n:=by
   rcases Nat.lt_or_ge i n with q|q
   · exact q
   refine absurd hi (ZbT hx (i:=i0) (by omega) ?_ (by omega));rw[getD_set_ne false (by omega),getD_set_ne false (by omega)];exact getD_both hun
  have hi':i ∈ Region.ready md ops listed:=by
   rw[mem_ready];refine⟨hiun,o,ho,fun e he hb=> ?_⟩;have:=hall e he hb;obtain⟨q1,q2⟩:=hX.no i o hlt ho e he hb
   rwa [getD_set_ne false (Ne.symm q2),getD_set_ne false (Ne.symm q1)] at this
  refine Zdy ho (hX.apart i o hlt ho) (fun cs b=>hsel i o cs b ho) hC (fun a' w' hC' h'=> ?_) (h i hi' hin).2;rw[Array.setIfInBounds_comm _ _ (Ne.symm hin1),Array.setIfInBounds_comm _ _ (Ne.symm hin)];exact Zhp hX hsel hx hfin f _ a' w' hC' h'
theorem Znl {R:ι} (hX:FreeX md ops n on os) (hsel:∀(j:Nat) (o:Oper) cs b,ops[j]? =some o→o.op≠.select cs b) (hx:tailX md ops (n + 1)=true)
 (hst:∀w,C R w→∃(R2:ι) (w':World),(execOp (Act.eval (a1.put on.dst p)) os).run P w=.ok .skip w'∧C R2 w'∧
   ∀w'',C R2 w''→wpAny P md ops Q' g (((ZaR ops.size n).setIfInBounds n true).setIfInBounds (n + 1) true) (a1.put on.dst p) w''):
 ∀(f:Nat) (listed:Array Bool) (a:Act) (w:World),HeadInv md ops n listed→C R w→Zbj P md ops C n (fun listed' a'=>listed'=ZaR ops.size n∧a'=a1) f listed a→wpAny P md ops Q' (f + 1 + g) (listed.setIfInBounds n true) (a.put on.dst p) w:=by
 intro f
 induction f with
 |zero=> ?_
 |succ f ih=> ?_
 all_goals
  intro listed a w inv hC h;have hss:n + 1 < ops.size:=(Array.getElem?_eq_some_iff.1 hX.hos).1
  have hnl:n < listed.size:=by rw[inv.size];omega
  have h1un:(listed.setIfInBounds n true).getD (n + 1) false=false:=by
   rw[getD_set_ne false (by omega)];exact getD_both (inv.tail (n + 1) (by omega) hss)
  have store:∀f',Zbj P md ops C n (fun listed' a'=>listed'=ZaR ops.size n∧a'=a1) f' listed a→n + 1 ∈ Region.ready md ops (listed.setIfInBounds n true)→
   wpOp P ops Q' (n + 1) (wpAny P md ops Q' (f' + g) ((listed.setIfInBounds n true).setIfInBounds (n + 1) true)) (a.put on.dst p) w:=fun f' h hr=>by
   obtain⟨R2,w',hrun,hR2,hfin⟩:=hst w hC;obtain⟨_,os',hos',hall⟩:=mem_ready.1 hr;have hoe:os'=os:=Option.some.inj (hos'.symm.trans hX.hos);subst hoe
   have hev:execOp (Act.eval (a.put on.dst p)) os'=execOp (Act.eval (a1.put on.dst p)) os':=execOp_congr os' (fun cs b=>hsel _ _ cs b hos') fun x hxm=>by
    cases x with
    |tmp t=>
     have hlook:t ∈ os'.looksAt ops:=List.mem_append_left _ (List.mem_filterMap.2 ⟨.tmp t,by simpa using hxm,rfl⟩)
     have hk:a.tmps[t]? =a1.tmps[t]? :=ZcX R (fun _ _ _ _ _=>trivial) f' listed a (fun i o hi ho hl hd=>by
      rcases hX.reads i o hi ho with q|q
      · obtain⟨oj,hoj,e,he,hb,hon⟩:=Region.waitsFor_spec q
        have:oj=os':=Option.some.inj (hoj.symm.trans hos');subst this;have:=hall e he hb;rw[hon,getD_set_ne false (by omega),hl] at this;cases this
      exact q t hd hlook) h
     have hps:∀(c:Act),(c.put on.dst p).tmps[t]? =if on.dst=some t∧t < c.tmps.size then some p else c.tmps[t]? :=fun c=>by
      cases hd:on.dst with
      |none=>simp[Act.put]
      |some u=>
       by_cases hu:u=t
       · subst hu
         by_cases hz:u < c.tmps.size<;>simp[Act.put,hz]
       simp[Act.put,Array.getElem?_setIfInBounds_ne hu,hu]
     have hsz:t < a.tmps.size↔t < a1.tmps.size:=by
      constructor
      · intro q
        rw[Array.getElem?_eq_getElem q] at hk;exact(Array.getElem?_eq_some_iff.1 hk.symm).1
      intro q;rw[Array.getElem?_eq_getElem q] at hk;exact(Array.getElem?_eq_some_iff.1 hk).1
     show(a.put on.dst p).tmps.getD t undef=(a1.put on.dst p).tmps.getD t undef;rw[Array.getD_eq_getD_getElem?,Array.getD_eq_getD_getElem?,hps,hps,hk];simp only[hsz]
    |_=>rfl
   refine Zd2 hos' (by unfold Region.wanted;rw[hX.guards]) (by rw[hev];exact hrun) ?_;rw[hX.dst];exact Zhp hX hsel hx hfin f' listed a w' hR2 h
  have far:∀i,i ∈ Region.ready md ops (listed.setIfInBounds n true)→i≠n∧¬n + 1 < i:=fun i hi=>by
   refine⟨?_,fun q=>absurd hi (ZbT hx (Nat.le_refl _) h1un q)⟩;rintro rfl;have:=(mem_ready.1 hi).1;simp[hnl] at this
 · rw[show 0 + 1 + g=(0 + g) + 1 by omega]
   have hlast:∀i,i ∈ Region.ready md ops (listed.setIfInBounds n true)→i=n + 1:=fun i hi=>by
    have:=far i hi
    rcases Nat.lt_or_ge i n with q|q
    · have hun:=(mem_ready.1 hi).1
      rw[getD_set_ne true (by omega),h.1] at hun;simp[ZaR,show i < ops.size by omega,q] at hun
    omega
   have hrs:n + 1 ∈ Region.ready md ops (listed.setIfInBounds n true):=by
    rw[mem_ready];refine⟨by rw[getD_set_ne true (by omega)];exact inv.tail (n + 1) (by omega) hss,os,hX.hos,fun e he hb=> ?_⟩;have:=hX.back e he hb
    by_cases q:e.on=n
    · rw[q];simp[hnl]
    rw[getD_set_ne false (Ne.symm q),h.1];simp[ZaR,show e.on < ops.size by omega,show e.on < n by omega]
   refine⟨fun h0=>by rw[h0] at hrs;(cases hrs),fun i hi=> ?_⟩;have e:=hlast i hi;subst e;exact store 0 h hi
 rw[show f + 1 + 1 + g=(f + 1 + g) + 1 by omega]
 obtain⟨⟨i0,hi0,hi0n⟩,h'⟩:=id h;refine⟨fun h0=> ?_,fun i hi=> ?_⟩
 · have:=ready_mono (i:=n) hi0 (by omega)
   rw[h0] at this;cases this
 have hfar:=far i hi
 by_cases hs:i=n + 1
 · subst hs
   exact store (f + 1) h hi
 have hlt:i < n:=by omega
 obtain⟨hiun,o,ho,hall⟩:=mem_ready.1 hi;rw[getD_set_ne true (by omega)] at hiun
 have hi':i ∈ Region.ready md ops listed:=by
  rw[mem_ready];refine⟨hiun,o,ho,fun e he hb=> ?_⟩;have:=hall e he hb
  rwa [getD_set_ne false (Ne.symm (hX.no i o hlt ho e he hb).1)] at this
 refine Zdy ho (hX.apart i o hlt ho) (fun cs b=>hsel i o cs b ho) hC (fun a' w' hC' hh=> ?_) (h' i hi' (by omega)).2;rw[Array.setIfInBounds_comm _ _ (show n≠i by omega)];exact ih _ a' w' (inv.set hi' hlt) hC' hh
theorem Zik {R0:ι} (hX:FreeX md ops n on os) (hsel:∀(j:Nat) (o:Oper) cs b,ops[j]? =some o→o.op≠.select cs b) (hx:tailX md ops (n + 1)=true)
 (hal:∀a w,C R0 w→∃(p:Value) (R:ι) (w':World),(execOp (Act.eval a) on).run P w=.ok (.value p) w'∧C R w'∧
   ∀w,C R w→∃(R2:ι) (w':World),(execOp (Act.eval (a1.put on.dst p)) os).run P w=.ok .skip w'∧C R2 w'∧
   ∀w'',C R2 w''→wpAny P md ops Q' g (((ZaR ops.size n).setIfInBounds n true).setIfInBounds (n + 1) true) (a1.put on.dst p) w''):
 ∀(f:Nat) (listed:Array Bool) (a:Act) (w:World),HeadInv md ops n listed→C R0 w→Zbj P md ops C n (fun listed' a'=>listed'=ZaR ops.size n∧a'=a1) f listed a→wpAny P md ops Q' (f + 2 + g) listed a w:=by
 intro f
 induction f with
 |zero=> ?_
 |succ f ih=> ?_
 all_goals
  intro listed a w inv hC h;have hns:n < ops.size:=(Array.getElem?_eq_some_iff.1 hX.hon).1;have hnr:n ∈ Region.ready md ops listed:=mem_ready.2 ⟨inv.tail n (Nat.le_refl _) hns,on,hX.hon,fun e he=>by rw[hX.after] at he;simp at he⟩;have hnun:listed.getD n false=false:=getD_both (inv.tail n (Nat.le_refl _) hns);have far:=ZgL hx hX.waits hnun
  have alloc:∀f',Zbj P md ops C n (fun listed' a'=>listed'=ZaR ops.size n∧a'=a1) f' listed a→wpOp P ops Q' n (wpAny P md ops Q' (f' + 1 + g) (listed.setIfInBounds n true)) a w:=fun f' h=>by
   obtain⟨p,R,w',hrun,hR,hfin⟩:=hal a w hC;refine Zb2 hX.hon (by unfold Region.wanted;rw[hX.guard]) hrun ?_;exact Znl hX hsel hx hfin f' listed a w' inv hR h
 · rw[show 0 + 2 + g=(0 + 1 + g) + 1 by omega]
   refine⟨fun h0=>by rw[h0] at hnr;(cases hnr),fun i hi=> ?_⟩;have hle:=far i hi
   by_cases hin:i=n
   · subst hin;exact alloc 0 h
   exact absurd (Zcr i (by rw[←h.1];exact hi)) (by omega)
 rw[show f + 1 + 2 + g=(f + 1 + 1 + g) + 1 by omega]
 refine⟨fun h0=>by rw[h0] at hnr;(cases hnr),fun i hi=> ?_⟩;have hle:=far i hi
 by_cases hin:i=n
 · subst hin;exact alloc (f + 1) h
 have hlt:i < n:=by omega
 refine Zb3 hC (fun a' w' hC' h'=> ?_) (h.2 i hi hin).2;have:=ih _ a' w' (inv.set hi hlt) hC' h'
 rwa [show f + 2 + g=f + 1 + 1 + g by omega] at this
end
def freeS (md:Region.Mode) (ops:Array Oper) (n:Nat):Bool:=
 match ops[n]? with
 |some os=>os.guard.isNone&&os.dst.isNone&&os.after.all (fun e=> !Region.binds md e || decide (e.on < n))&&(List.range n).all fun i=> !Region.waitsFor md ops i n&&(match ops[i]? with
  |some o=>Region.waitsFor md ops n i || (match o.dst with|some d=> !(os.looksAt ops).contains d|none=>true)
  |none=>true)
 |none=>false
structure FreeS (md:Region.Mode) (ops:Array Oper) (n:Nat) (os:Oper):Prop where
 hos:ops[n]? =some os
 guards:os.guard=none
 dst:os.dst=none
 no:∀i o,i < n→ops[i]? =some o→∀e ∈ o.after,Region.binds md e=true→e.on≠n
 reads:∀i o,i < n→ops[i]? =some o→Region.waitsFor md ops n i=true∨∀d,o.dst=some d→d ∉ os.looksAt ops
 back:∀e ∈ os.after,Region.binds md e=true→e.on < n
theorem ZjA {n:Nat} (h:freeS md ops n=true):∃os,FreeS md ops n os:=by
 unfold freeS at h
 split at h
 · rename_i os hs
   simp only[Bool.and_eq_true,List.all_eq_true,Option.isNone_iff_eq_none] at h;obtain⟨⟨⟨h3,h4⟩,h9⟩,h6⟩:=h;refine⟨os,hs,h3,h4,fun i o hi hio e he hb heq=> ?_,fun i o hi hio=> ?_,fun e he hb=> ?_⟩
   · have h7:=(h6 i (List.mem_range.2 hi)).1
     have h3:Region.waitsFor md ops i n=false:=by simpa using h7
     unfold Region.waitsFor at h3;rw[hio] at h3;simp only[Array.any_eq_false'] at h3;exact h3 e he (by simp[hb,heq])
   · have h7:=h6 i (List.mem_range.2 hi)
     rw[hio] at h7;simp only[Bool.or_eq_true] at h7
     rcases h7.2 with h8|h8
     · exact .inl h8
     right
     intro d hd;rw[hd] at h8
     simpa using h8
   have:=Array.all_eq_true'.1 h9 e he
   simpa [hb] using this
 cases h
section
variable {n g:Nat} {os:Oper} {a1:Act} {Q':Exit→Act→World→Prop}
theorem Zho {R:ι} (hX:FreeS md ops n os) (hx:tailX md ops n=true)
 (hfin:∀w',C R w'→wpAny P md ops Q' g ((ZaR ops.size n).setIfInBounds n true) a1 w'):
 ∀(f:Nat) (listed:Array Bool) (a:Act) (w:World),C R w→Zbj P md ops C n (fun listed' a'=>listed'=ZaR ops.size n∧a'=a1) f listed a→wpAny P md ops Q' (f + g) (listed.setIfInBounds n true) a w
 |0,listed,a,w,hC,h=>by
  obtain⟨rfl,h⟩:=h;rw[Nat.zero_add,h];exact hfin _ hC
 |f + 1,listed,a,w,hC,h=>by
  rw[show f + 1 + g=(f + g) + 1 by omega];obtain⟨⟨i0,hi0,hi0n⟩,h⟩:=h;have hun:=(mem_ready.1 hi0).1;refine⟨fun h0=> ?_,fun i hi=> ?_⟩
  · have:=ready_mono (i:=n) hi0 (by omega)
    rw[h0] at this;cases this
  obtain⟨hiun,o,ho,hall⟩:=mem_ready.1 hi
  have hin:i≠n:=by
   rintro rfl
   rcases Nat.lt_or_ge i listed.size with q|q
   · simp[q] at hiun
   rw[Array.getD_eq_getD_getElem?,Array.getElem?_eq_none (by simpa using q)] at hiun;cases hiun
  rw[getD_set_ne true (Ne.symm hin)] at hiun
  have hlt:i < n:=by
   rcases Nat.lt_or_ge i n with q|q
   · exact q
   refine absurd hi (ZbT hx (i:=i0) (by omega) ?_ (by omega));rw[getD_set_ne false (by omega)];exact getD_both hun
  have hi':i ∈ Region.ready md ops listed:=by
   rw[mem_ready];refine⟨hiun,o,ho,fun e he hb=> ?_⟩;have:=hall e he hb
   rwa [getD_set_ne false (Ne.symm (hX.no i o hlt ho e he hb))] at this
  refine Zb3 hC (fun a' w' hC' h'=> ?_) (h i hi' hin).2;rw[Array.setIfInBounds_comm _ _ (Ne.symm hin)];exact Zho hX hx hfin f _ a' w' hC' h'
theorem Znk {R:ι} (hX:FreeS md ops n os) (hsel:∀(j:Nat) (o:Oper) cs b,ops[j]? =some o→o.op≠.select cs b) (hx:tailX md ops n=true)
 (hst:∀w,C R w→∃(R2:ι) (w':World),(execOp (Act.eval a1) os).run P w=.ok .skip w'∧C R2 w'∧
   ∀w'',C R2 w''→wpAny P md ops Q' g ((ZaR ops.size n).setIfInBounds n true) a1 w''):
 ∀(f:Nat) (listed:Array Bool) (a:Act) (w:World),HeadInv md ops n listed→C R w→Zbj P md ops C n (fun listed' a'=>listed'=ZaR ops.size n∧a'=a1) f listed a→wpAny P md ops Q' (f + 1 + g) listed a w:=by
 intro f
 induction f with
 |zero=> ?_
 |succ f ih=> ?_
 all_goals
  intro listed a w inv hC h;have hss:n < ops.size:=(Array.getElem?_eq_some_iff.1 hX.hos).1;have hnun:listed.getD n false=false:=getD_both (inv.tail n (Nat.le_refl _) hss)
  have store:∀f',Zbj P md ops C n (fun listed' a'=>listed'=ZaR ops.size n∧a'=a1) f' listed a→n ∈ Region.ready md ops listed→
   wpOp P ops Q' n (wpAny P md ops Q' (f' + g) (listed.setIfInBounds n true)) a w:=fun f' h hr=>by
   obtain⟨R2,w',hrun,hR2,hfin⟩:=hst w hC;obtain⟨_,os',hos',hall⟩:=mem_ready.1 hr;have hoe:os'=os:=Option.some.inj (hos'.symm.trans hX.hos);subst hoe
   have hev:execOp (Act.eval a) os'=execOp (Act.eval a1) os':=execOp_congr os' (fun cs b=>hsel _ _ cs b hos') fun x hxm=>by
    cases x with
    |tmp t=>
     have hlook:t ∈ os'.looksAt ops:=List.mem_append_left _ (List.mem_filterMap.2 ⟨.tmp t,by simpa using hxm,rfl⟩)
     have hk:a.tmps[t]? =a1.tmps[t]? :=ZcX R (fun _ _ _ _ _=>trivial) f' listed a (fun i o hi ho hl hd=>by
      rcases hX.reads i o hi ho with q|q
      · obtain⟨oj,hoj,e,he,hb,hon⟩:=Region.waitsFor_spec q
        have:oj=os':=Option.some.inj (hoj.symm.trans hos');subst this;have:=hall e he hb;rw[hon,hl] at this;cases this
      exact q t hd hlook) h
     show a.tmps.getD t undef=a1.tmps.getD t undef;rw[Array.getD_eq_getD_getElem?,Array.getD_eq_getD_getElem?,hk]
    |_=>rfl
   refine Zd2 hos' (by unfold Region.wanted;rw[hX.guards]) (by rw[hev];exact hrun) ?_;rw[hX.dst];exact Zho hX hx hfin f' listed a w' hR2 h
  have far:∀i,i ∈ Region.ready md ops listed→¬n < i:=fun i hi q=>absurd hi (ZbT hx (Nat.le_refl _) hnun q)
 · rw[show 0 + 1 + g=(0 + g) + 1 by omega]
   have hrs:n ∈ Region.ready md ops listed:=by
    rw[mem_ready];refine⟨inv.tail n (Nat.le_refl _) hss,os,hX.hos,fun e he hb=> ?_⟩;have:=hX.back e he hb;rw[h.1];simp[ZaR,show e.on < ops.size by omega,this]
   refine⟨fun h0=>by rw[h0] at hrs;(cases hrs),fun i hi=> ?_⟩;have h1:=far i hi;have h2:=Zcr i (by rw[←h.1];exact hi)
   obtain rfl:i=n:=by omega
   exact store 0 h hi
 rw[show f + 1 + 1 + g=(f + 1 + g) + 1 by omega]
 obtain⟨⟨i0,hi0,hi0n⟩,h'⟩:=id h;refine⟨fun h0=>by rw[h0] at hi0;(cases hi0),fun i hi=> ?_⟩;have hfar:=far i hi
 by_cases hs:i=n
 · subst hs
   exact store (f + 1) h hi
 have hlt:i < n:=by omega
 refine Zb3 hC (fun a' w' hC' hh=> ?_) (h' i hi hs).2;exact ih _ a' w' (inv.set hi hlt) hC' hh
end
def dstB (m:Nat):List Oper→Bool
 |[]=>true
 |o::l=>(match o.dst with|some d=>decide (d < m)&&l.all (fun p=>p.dst != some d)|none=>false)&&dstB m l
theorem ZiB (a:Act) (x:Option Tmp) (v:Value):(a.put x v).tmps.size=a.tmps.size:=by cases x<;>simp[Act.put]
theorem Zcf {D:World→Prop} {a1:Act} {d:Tmp}:∀(l:List Oper) (a:Act),l.all (fun p=>p.dst != some d)=true→wpQuiet P ops D (fun a'=>a'=a1) l a→a1.tmps[d]? =a.tmps[d]?
 |[],a,_,h=>by rw[show a=a1 from h]
 |o::l,a,hd,h=>by
  simp only[List.all_cons,Bool.and_eq_true,bne_iff_ne,ne_eq] at hd
  have key:∀v,(a.put o.dst v).tmps[d]? =a.tmps[d]? :=fun v=>by
   cases ho:o.dst with
   |none=>rfl
   |some t=>
    have:t≠d:=fun e=>hd.1 (by rw[ho,e])
    simp[Act.put,Array.getElem?_setIfInBounds_ne this]
  unfold wpQuiet at h
  split at h
  · obtain⟨v,_,h⟩:=h
    rw[Zcf l _ hd.2 h,key]
  rw[Zcf l _ hd.2 h,key]
theorem Zb1 {a1:Act} (i0:ι):∀(l:List Oper) (a:Act),(∀i,wpQuiet P ops (C i) (fun a'=>a'=a1) l a)→dstB a.tmps.size l=true→ZbJ P ops C (fun a'=>a'=a1) l a
 |[],a,h,_=>h i0
 |o::l,a,h,hd=>by
  unfold dstB at hd;simp only[Bool.and_eq_true] at hd;obtain⟨hd1,hd2⟩:=hd;unfold ZbJ;unfold wpQuiet at h
  split
  · rename_i hw
    simp only[hw,if_true] at h
    cases ho:o.dst with
    |none=>rw[ho] at hd1;cases hd1
    |some d=>
     rw[ho] at hd1;simp only[Bool.and_eq_true,decide_eq_true_eq] at hd1
     have hv:∀i v,wpQuiet P ops (C i) (fun a'=>a'=a1) l (a.put o.dst v)→a1.tmps[d]? =some v:=fun i v hq=>by
      rw[Zcf l _ hd1.2 hq,ho];simp[Act.put,hd1.1]
     obtain⟨v0,_,hr0⟩:=h i0;have e0:=hv i0 v0 hr0
     have hall:∀i,(∀w,C i w→o.quietAt P a (C i) w v0)∧wpQuiet P ops (C i) (fun a'=>a'=a1) l (a.put o.dst v0):=fun i=>by
      obtain⟨v,hq,hr⟩:=h i;have e:=hv i v hr;rw[e0] at e;cases e;exact⟨hq,hr⟩
     refine⟨v0,fun i=>(hall i).1,Zb1 i0 l _ (fun i=>(hall i).2) (by rw[ZiB];exact hd2)⟩
  rename_i hw
  simp only[hw] at h;exact Zb1 i0 l _ h (by rw[ZiB];exact hd2)
end
end Go
namespace Go.Proofs.YtkdjkngfnapjcaaGreatDoor
section
variable {P:Program} {L0 L:List Part} {w0:World}
abbrev Zi8 (L0:List Part) (w0:World) (L:List Part):Type:={R:Part // ∃w,At L0 w0 (R::L) w}
theorem ZlZ (vs us:List Value) (h:us.length=vs.length):setL vs 0 us=us:=by
 apply List.ext_getElem?
 intro j
 by_cases hj:j < us.length
 · have:=Zkg us vs 0 j (by omega) hj
   rwa [Nat.zero_add] at this
 rw[List.getElem?_eq_none (by rw[Zej];omega),List.getElem?_eq_none (by omega)]
theorem Zap {id:Nat} {Q:Exit→Act→World→Prop} {a a1:Act} {w:World} {l:List Oper} (n:Nat) (d:Tmp) (E:TypeId) (y:Operand) (z:Value) (vs us:List Value) (hm:P.follows .mixedOrders=true)
 (hB:(Region.noSelect l.toArray&&tailX .any l.toArray (n + 1)&&freeX .any l.toArray n&&headB .any l.toArray n 0 (Array.replicate l.toArray.size false)&&dstB a.tmps.size (l.take n)&&Region.seqB .any l.toArray (l.length - (n + 2)) (n + 2) (((ZaR l.toArray.size n).setIfInBounds n true).setIfInBounds (n + 1) true))=true)
 (ho:(l[n]?).map (fun o=>(o.dst,o.op))=some (some d,.alloc E)) (hs:(l[n + 1]?).map (fun o=>o.op)=some (.store E (.tmp d) y)) (hyd:(match y with|.tmp t=>t != d|_=>true)=true) (hz:(P.info? E).map (·.zero)=some (some z)) (hv:z.cells=vs.toArray)
 (hA:At L0 w0 L w)
 (h1:∀(R:Part) (wR:World),At L0 w0 (R::L) wR→wpQuiet P l.toArray (Cl L0 w0 (R::L)) (fun a'=>a'=a1) (l.take n) a)
 (hd:d < a1.tmps.size) {v:Value} (hy:a1.eval y=v) (hu:v.cells=us.toArray) (hsz:(P.info? E).map (·.size)=some us.length) (hus:us.all (·.oneCell')=true) (hl:us.length=vs.length)
 (h2:∀b w',At L0 w0 (Part.cells b us E::L) w'→w0.heap.size≤b→wpList P l.toArray Q (l.drop (n + 2)) (a1.put (some d) (.pointer (some ⟨b,0,none⟩))) w'):(Code.region id l.toArray true).wp P Q a w:=by
 simp only[Bool.and_eq_true] at hB;obtain⟨⟨⟨⟨⟨hsel,hx⟩,hfx⟩,hhead⟩,hdst⟩,hseq⟩:=hB;obtain⟨on,os,hX⟩:=Zjz hfx
 have hss:n + 1 < l.length:=by simpa using(Array.getElem?_eq_some_iff.1 hX.hos).1
 have hon':l[n]? =some on:=by simpa using hX.hon
 have hos':l[n + 1]? =some os:=by simpa using hX.hos
 rw[hon'] at ho;rw[hos'] at hs;simp only[Option.map_some,Option.some.injEq,Prod.mk.injEq] at ho hs;obtain⟨hod,hop⟩:=ho
 have htl:(l.take n).length=n:=by simp;omega
 have hA0:At L0 w0 (Part.fact True::L) w.drew:=hA.drew.new (Ext.refl _) (Part.fact True) trivial (fun _ e=>e.elim)
 let C:Zi8 L0 w0 L→World→Prop:=fun R w=>At L0 w0 (R.1::L) w
 let R0:Zi8 L0 w0 L:=⟨Part.fact True,w.drew,hA0⟩
 have inv0:HeadInv .any l.toArray n (Array.replicate l.toArray.size false):=
  ⟨by simp,fun j oj _ hl=>(by rw[getD_replicate_false] at hl;cases hl),fun t _ ht=>getD_in (by simpa using ht) (getD_replicate_false _ _)⟩
 have hq:ZbJ P l.toArray C (fun a'=>a'=a1) (l.take n) a:=Zb1 R0 _ _ (fun R=>by
  obtain⟨R,wR,hR⟩:=R
  exact h1 R wR hR) hdst
 have H:=ZcP (C:=C) (md:=.any) hsel (fun _ hun=>ZgL hx hX.waits hun) (by simp;omega) (l.take n) 0 _ a (fun j hj=>by
  have hj':j < n:=by rw[htl] at hj;exact hj
  simp[hj']) (by simpa using htl) inv0 (fun j hj=>by omega) (by rw[htl];exact hhead) hq
 refine wp_region_any hm ?_
 have hdl:(l.drop (n + 2)).length=l.length - (n + 2):=by simp
 have key:=Zik (C:=C) (Q':=Q) (R0:=R0) (g:=l.length - (n + 2)) hX (Region.noSelect_spec hsel) hx (fun a w hC=>by
  have hC':At L0 w0 L w:=At.sub hC (List.sublist_cons_self _ _);have hnew:=hC'.alloc vs E;refine⟨.pointer (some ⟨w.heap.size,0,none⟩),⟨Part.cells w.heap.size vs E,_,hnew⟩,_,?_,hnew,fun w1 hw1=> ?_⟩
  · cases hq:P.info? E with
    |none=>simp[hq] at hz
    |some i=>
     have hi:i.zero=some z:=by simpa [hq] using hz
     simp[execOp,hop,Instr.alloc,zeroValue,typeInfo,hq,hi,newVar,newRow,hv,Result.andThen]
  have hb:Zab w1 w.heap.size vs E:=At.get (A:=Part.cells w.heap.size vs E) hw1 .here;have hsto:=At.stores hw1 (b:=w.heap.size) (c:=vs) (T:=E) .here 0 us;have hset:setL vs 0 us=us:=ZlZ vs us hl;rw[hset] at hsto
  have hvs:v.cells.size=us.length:=by rw[hu];simp
  have hrun:=ZaY (P:=P) w1 w.heap.size 0 E v (hb.there 0 _ (by omega)) (by rw[hvs];exact hsz) (by
   rw[hu,Array.all_eq_true_iff_forall_mem];intro u hu'
   exact List.all_eq_true.1 hus u (by simpa using hu'))
  rw[show v.cells.toList=us from by rw[hu]] at hrun
  have ed:(a1.put on.dst (.pointer (some ⟨w.heap.size,0,none⟩))).eval (.tmp d)=.pointer (some ⟨w.heap.size,0,none⟩):=by
   rw[hod];simp[Act.put,Act.eval,hd]
  have ey:(a1.put on.dst (.pointer (some ⟨w.heap.size,0,none⟩))).eval y=v:=by
   rw[←hy]
   refine Act.eval_put fun t ht e=> ?_
   rw[hod] at ht;cases ht;subst e
   simp at hyd
  refine⟨⟨Part.cells w.heap.size us E,_,hsto⟩,_,?_,hsto,fun w'' hw''=> ?_⟩
  · simp[execOp,hs,ed,ey,hrun,Result.andThen]
  have:=wpAny_of_seq (P:=P) (ops:=l.toArray) (md:=.any) (Q':=Q) (l.drop (n + 2)) (n + 2) (((ZaR l.toArray.size n).setIfInBounds n true).setIfInBounds (n + 1) true) (a1.put on.dst (.pointer (some ⟨w.heap.size,0,none⟩))) w'' (fun j=>by simp[List.getElem?_drop]) (by rw[hdl];exact hseq) (by
   rw[hod]
   exact h2 _ _ hw'' hC'.size)
  rwa [hdl] at this) _ _ _ _ inv0 hA0 H
 rw[htl,show n + 2 + (l.length - (n + 2))=l.toArray.size by simp;omega] at key;exact key
theorem Zce {id:Nat} {Q:Exit→Act→World→Prop} {a a1:Act} {w:World} {l:List Oper} (n:Nat) (T:TypeId) (x y:Operand) (hm:P.follows .mixedOrders=true)
 (hB:(Region.noSelect l.toArray&&tailX .any l.toArray n&&freeS .any l.toArray n&&headB .any l.toArray n 0 (Array.replicate l.toArray.size false)&&dstB a.tmps.size (l.take n)&&Region.seqB .any l.toArray (l.length - (n + 1)) (n + 1) ((ZaR l.toArray.size n).setIfInBounds n true))=true)
 (hs:(l[n]?).map (fun o=>o.op)=some (.store T x y)) {b j:Nat} {c:List Value} {E:TypeId} {F:List Part}
 (hA0:At L0 w0 L w) (s:Sel (Part.cells b c E) L F)
 (h1:∀(R:Part) (wR:World),At L0 w0 (R::F) wR→wpQuiet P l.toArray (Cl L0 w0 (R::F)) (fun a'=>a'=a1) (l.take n) a)
 (hx:a1.eval x=.pointer (some ⟨b,j,none⟩)) {v:Value} {us:List Value} (hy:a1.eval y=v) (hu:v.cells=us.toArray) (hsz:(P.info? T).map (·.size)=some us.length) (hus:us.all (·.oneCell')=true) (hl:j + us.length≤c.length)
 (h2:∀w',At L0 w0 (Part.cells b (setL c j us) E::F) w'→wpList P l.toArray Q (l.drop (n + 1)) a1 w'):(Code.region id l.toArray true).wp P Q a w:=by
 simp only[Bool.and_eq_true] at hB;obtain⟨⟨⟨⟨⟨hsel,htx⟩,hfx⟩,hhead⟩,hdst⟩,hseq⟩:=hB;obtain⟨os,hX⟩:=ZjA hfx
 have hss:n < l.length:=by simpa using(Array.getElem?_eq_some_iff.1 hX.hos).1
 have hos':l[n]? =some os:=by simpa using hX.hos
 rw[hos'] at hs;simp only[Option.map_some,Option.some.injEq] at hs
 have htl:(l.take n).length=n:=by simp;omega
 have hA:At L0 w0 (Part.cells b c E::F) w.drew:=(hA0.take s).drew
 let C:Zi8 L0 w0 F→World→Prop:=fun R w=>At L0 w0 (R.1::F) w
 let R0:Zi8 L0 w0 F:=⟨Part.cells b c E,w.drew,hA⟩
 have inv0:HeadInv .any l.toArray n (Array.replicate l.toArray.size false):=
  ⟨by simp,fun j oj _ hl=>(by rw[getD_replicate_false] at hl;cases hl),fun t _ ht=>getD_in (by simpa using ht) (getD_replicate_false _ _)⟩
 have hq:ZbJ P l.toArray C (fun a'=>a'=a1) (l.take n) a:=Zb1 R0 _ _ (fun R=>by
  obtain⟨R,wR,hR⟩:=R
  exact h1 R wR hR) hdst
 have H:=ZcP (C:=C) (md:=.any) hsel (fun listed hun i hi=>by
  rcases Nat.lt_or_ge n i with q|q
  · exact absurd hi (ZbT htx (Nat.le_refl _) hun q)
  · exact q) (by simpa using hss) (l.take n) 0 _ a (fun j hj=>by
  have hj':j < n:=by rw[htl] at hj;exact hj
  simp[hj']) (by simpa using htl) inv0 (fun j hj=>by omega) (by rw[htl];exact hhead) hq
 refine wp_region_any hm ?_
 have hdl:(l.drop (n + 1)).length=l.length - (n + 1):=by simp
 have key:=Znk (C:=C) (Q':=Q) (R:=R0) (g:=l.length - (n + 1)) (a1:=a1) hX (Region.noSelect_spec hsel) htx (fun w1 hw1=>by
  have hb:Zab w1 b c E:=At.get (A:=Part.cells b c E) hw1 .here;have hsto:=At.stores hw1 (b:=b) (c:=c) (T:=E) .here j us
  have hvs:v.cells.size=us.length:=by rw[hu];simp
  have hrun:=ZaY (P:=P) w1 b j T v (hb.there j _ (by omega)) (by rw[hvs];exact hsz) (by
   rw[hu,Array.all_eq_true_iff_forall_mem];intro u hu'
   exact List.all_eq_true.1 hus u (by simpa using hu'))
  rw[show v.cells.toList=us from by rw[hu]] at hrun;refine⟨⟨Part.cells b (setL c j us) E,_,hsto⟩,_,?_,hsto,fun w'' hw''=> ?_⟩
  · simp[execOp,hs,hx,hy,hrun,Result.andThen]
  have:=wpAny_of_seq (P:=P) (ops:=l.toArray) (md:=.any) (Q':=Q) (l.drop (n + 1)) (n + 1) ((ZaR l.toArray.size n).setIfInBounds n true) a1 w'' (fun j=>by simp[List.getElem?_drop]) (by rw[hdl];exact hseq) (h2 _ hw'')
  rwa [hdl] at this) _ _ _ _ inv0 hA H
 rw[htl,show n + 1 + (l.length - (n + 1))=l.toArray.size by simp;omega] at key;exact key
end
section
open Go.Maps (Keyed)
variable {P:Program} {k:TypeId} {b:Nat} {es:List (Value × Value)} {o:Oper} {a:Act} {L0 L F:List Part} {w0:World} {K:Act→Prop}
theorem ZbN {t:TypeId} {m x:Operand} (hop:o.op=.lookup t m x true) (hm:a.eval m=.map (some b)) {key:Value} (hx:a.eval x=key)
 (s:Sel (Part.map P k b es) L F) {e:TypeId} (Kd:Keyed P k) (ht:P.underlying t=some (.map k e)) {kl:Lit} (hk:keyOf P k key=some kl) (hn:∀p ∈ es,p.1≠key) {z:Value} (hz:∀w,(zeroValue e).run P w=.ok z w)
 (hK:K (a.put o.dst (.tuple #[z,.bool false]))):o.quiet P a (Cl L0 w0 L) K:=by
 refine ZdU _ (fun w' hw=> ?_) hK;have hM:MapAt P k w' b es:=hw.get s;simp[execOp,hop,hm,hx,hM.look_none Kd ht hk hn (hz w') true,Result.andThen]
theorem ZbM {t:TypeId} {m x:Operand} (hop:o.op=.lookup t m x true) (hm:a.eval m=.map (some b)) {key:Value} (hx:a.eval x=key)
 (s:Sel (Part.map P k b es) L F) {e:TypeId} (Kd:Keyed P k) (ht:P.underlying t=some (.map k e)) {kl:Lit} (hk:keyOf P k key=some kl) {v:Value} (hn:(key,v) ∈ es)
 (hK:K (a.put o.dst (.tuple #[v,.bool true]))):o.quiet P a (Cl L0 w0 L) K:=by
 refine ZdU _ (fun w' hw=> ?_) hK;have hM:MapAt P k w' b es:=hw.get s;simp[execOp,hop,hm,hx,hM.look_some Kd ht hk hn true,Result.andThen]
end
end Go.Proofs.YtkdjkngfnapjcaaGreatDoor
end
namespace Go.Proofs.YtkdjkngfnapjcaaGreatDoor
section
namespace Lock
open Go.RowKit
open Go.Maps (Keyed)
open Path (bl Zad overB)
def Bk.st (b:Bk):S3:=⟨b.first,b.es,b.cs⟩
theorem through1 {L0 L F:List Part} {A:Part} {w0 w:World} {P:Program} {f:FuncId} {args:Array Value} {v:Value} (h:At L0 w0 L w) (s:Sel A L F) (hc:Sep [A] w→Calls P f args w fun e w'=>e=.returned v∧At [A] w [A] w'):
 Calls P f args w fun e w'=>e=.returned v∧At L0 w0 L w':=
 (hc (h.sep1 s)).mono fun e w' ⟨he,t⟩=>⟨he,((h.call1 s t).perm s.perm.symm)⟩
theorem through0 {L0 L:List Part} {w0 w:World} {P:Program} {f:FuncId} {args:Array Value} {v:Value} (h:At L0 w0 L w) (hc:Calls P f args w fun e w'=>e=.returned v∧Ext w w'):
 Calls P f args w fun e w'=>e=.returned v∧At L0 w0 L w':=hc.mono fun e w' ⟨he,t⟩=>⟨he,h.ext t⟩
section
variable {w:World} {b:Bk} {p f:ByteArray} {n mode:Int}
theorem ZmH {has:Bool} (hh:(find b.es p n f).isSome=has):b.st.may p n f mode=if Zbg p mode=false then 10 else if has=true then 15 else if 64≤heldN b.es n f then 14 else if lastN≤counter b.first b.cs p then 53 else 0:=by
 subst hh;rfl
theorem may_any (h:Sep [BookP b] w) (hp:p.size≤1000000) (h0:0≤n) (h1:n < big64) (hf:f.size≤maxLen) (hl:b.es.length≤1000000000) (hc:∀q,0≤counter b.first b.cs q):
 Calls Tryz.prog 262 #[.pointer (some ⟨b.p,0,none⟩),.string p,.agg #[.int .u64 n,.string f],.int .i64 mode] w fun e w'=>e=.returned (.int .i64 (b.st.may p n f mode))∧At [BookP b] w [BookP b] w':=by
 obtain⟨kl,hk⟩:=keyP (p:=p) (by unfold maxLen;omega) h0 h1 hf;have hA:=begin0 h;have hF:=hA.facts;have hr:=right_any p mode
 have hcode:=fun has=>ZmH (b:=b) (p:=p) (f:=f) (n:=n) (mode:=mode) (has:=has)
 obtain⟨r,hrr⟩:∃r,Zbg p mode=r:=⟨_,rfl⟩
 rw[hrr] at hcode hr
 unfold keyV at *
 cases hfi:find b.es p n f with
 |none=>
  have hmiss:=Hd (find_none hfi);have hcode':=Hd (hcode false (by rw[hfi];rfl));clear h hfi hcode hrr;obtain⟨hA,hF⟩:=fY hA
  go_enter Tryz.func262,Tryz.ntmps262
  go_wp2_with ((with_reducible refine gbx ?_);refine wCy (E:=25) hA ?_;clear hF hA;intro bS w1 hA hbS hF)
  (refine Zap (a1:= ?a1_q1) (v:= ?v_q1) 11 9 97 _ (.agg #[.string .empty,.int .u64 0,.string .empty,.int .i64 0,.int .u64 0,.int .i64 0]) [.string .empty,.int .u64 0,.string .empty,.int .i64 0,.int .u64 0,.int .i64 0] ([.string .empty,.int .u64 0,.string .empty,.int .i64 0,.int .u64 0,.int .i64 0]) (by kernel_rfl) (by kernel_rfl) rfl rfl ?hyd_q1 (by kernel_rfl) rfl hA ?h1_q1 ?hd_q1 ?hy_q1 ?hu_q1 ?hsz_q1 ?hus_q1 ?hl_q1 ?h2_q1);(case h1_q1=>(intro R wR hR;(try clear hF);(simp only[List.take_succ_cons,List.take_zero,List.drop_succ_cons,List.drop_zero]);(have hn1:=Cl.none hR);(have hn2:=Cl.none2 hR);(repeat(first|go_big_quiet_skip|(go_big_quiet_want;(first|(refine qM 25 2 ?_;go_frame;go_big_quiet_on)|((refine ZbN rfl rfl (by(try simp only[Act.eval,eV])<;>exact rfl) (k:=203) (es:=ents b.es) sR lawP Tryz.underlying201 hk hmiss.out (z:=nullE.val) (fun _=>by kernel_rfl) ?_);go_frame;go_big_quiet_on)|(refine qL ?_;go_frame;go_big_quiet_on)|(go_big_quiet_op;(first|go_big_quiet_on))))));(refine wpQuiet_nil ?_);exact rfl));(case hyd_q1=>rfl);(case hd_q1=>(first|decide|simp));(case hy_q1=>((try simp only[Act.eval,Array.getD_eq_getD_getElem?,List.getElem?_toArray,List.getElem?_cons_succ,List.getElem?_cons_zero,Option.getD_some]);exact rfl));(case hu_q1=>exact rfl);(case hsz_q1=>kernel_rfl);(case hus_q1=>rfl);(case hl_q1=>rfl);(intro b1 w1 hB hb1;clear hF hA;have hA:=hB;clear hB;(simp only[List.drop_succ_cons,List.drop_zero]);obtain⟨hA,hF⟩:=fY hA;(try go_frame))
  replace hA:=fold0 b hA sR sR sR;clear hF;obtain⟨hA,hF⟩:=fY hA
  go_wp2_with fail
  refine(hr w1 hp).mono ?_;clear hr;rintro e w2 ⟨rfl,hx⟩;replace hA:=hA.ext hx;clear hF hx;obtain⟨hA,hF⟩:=fY hA;cases r
  · go_wp2_with fail
    go_ret;exact⟨by rw[hcode'.out];rfl,hA.only1 sR⟩
  go_wp2_with fail
  refine(ZmQ (hA.sep1 (A:=BookP b) sR) n f hl).mono ?_
  have hq0:heldN b.es n f≤1000000000:=by have:=ZdY b.es n f;omega
  generalize heldN b.es n f=q at *
  rintro e w1 ⟨rfl,hT⟩;replace hA:=hA.call1 sR hT;clear hF hT;obtain⟨hA,hF⟩:=fY hA
  by_cases hq:64≤q
  · have hq':(64:Int)≤(q:Int):=by omega
    have hq2:=Hd hq;clear hq
    go_wp2_with fail
    go_ret;exact⟨by rw[hcode'.out];simp[hq2.out],hA.only1 sR⟩
  have hq':¬(64:Int)≤(q:Int):=by omega
  have hcode2:b.st.may p n f mode=if lastN≤counter b.first b.cs p then 53 else 0:=by rw[hcode'.out,if_neg (by simp),if_neg (by simp),if_neg hq]
  have hcode3:=Hd hcode2;clear hq hcode2 hcode'
  go_wp2_with fail
  refine(ZeH (hA.sep1 (A:=BookP b) sR) (p:=p) (by unfold maxLen;omega)).mono ?_;have hc0:=hc p
  generalize counter b.first b.cs p=cc at *
  rintro e w1 ⟨rfl,hT⟩;replace hA:=hA.call1 sR hT;clear hF hT;obtain⟨hA,hF⟩:=fY hA
  by_cases hq3:9223372036854775807≤cc
  · have hcode4:=Hd (hcode3.out.trans (if_pos hq3))
    go_wp2_with fail
    go_ret;exact⟨by rw[hcode4.out];rfl,hA.only1 sR⟩
  have hcode4:=Hd (hcode3.out.trans (if_neg hq3))
  go_wp2_with fail
  go_ret;exact⟨by rw[hcode4.out];rfl,hA.only1 sR⟩
 |some x=>
  have hmem:=Hd (find_mem hfi);have hcode':=Hd (hcode true (by rw[hfi];rfl));clear h hfi hcode hrr;obtain⟨hA,hF⟩:=fY hA;unfold Ent.val keyV at hmem
  go_enter Tryz.func262,Tryz.ntmps262
  go_wp2_with ((with_reducible refine gbx ?_);refine wCy (E:=25) hA ?_;clear hF hA;intro bS w1 hA hbS hF)
  (refine Zap (a1:= ?a1_q2) (v:= ?v_q2) 11 9 97 _ (.agg #[.string .empty,.int .u64 0,.string .empty,.int .i64 0,.int .u64 0,.int .i64 0]) [.string .empty,.int .u64 0,.string .empty,.int .i64 0,.int .u64 0,.int .i64 0] ([.string x.path,.int .u64 x.num,.string x.foot,.int .i64 x.mode,.int .u64 x.n,.int .i64 x.stamp]) (by kernel_rfl) (by kernel_rfl) rfl rfl ?hyd_q2 (by kernel_rfl) rfl hA ?h1_q2 ?hd_q2 ?hy_q2 ?hu_q2 ?hsz_q2 ?hus_q2 ?hl_q2 ?h2_q2);(case h1_q2=>(intro R wR hR;(try clear hF);(simp only[List.take_succ_cons,List.take_zero,List.drop_succ_cons,List.drop_zero]);(have hn1:=Cl.none hR);(have hn2:=Cl.none2 hR);(repeat(first|go_big_quiet_skip|(go_big_quiet_want;(first|(refine qM 25 2 ?_;go_frame;go_big_quiet_on)|((refine ZbM rfl rfl (by(try simp only[Act.eval,eV])<;>exact rfl) (k:=203) (es:=ents b.es) sR lawP Tryz.underlying201 hk hmem.out ?_);go_frame;go_big_quiet_on)|(refine qL ?_;go_frame;go_big_quiet_on)|(go_big_quiet_op;(first|go_big_quiet_on))))));(refine wpQuiet_nil ?_);exact rfl));(case hyd_q2=>rfl);(case hd_q2=>(first|decide|simp));(case hy_q2=>((try simp only[Act.eval,Array.getD_eq_getD_getElem?,List.getElem?_toArray,List.getElem?_cons_succ,List.getElem?_cons_zero,Option.getD_some]);exact rfl));(case hu_q2=>exact rfl);(case hsz_q2=>kernel_rfl);(case hus_q2=>rfl);(case hl_q2=>rfl);(intro b1 w1 hB hb1;clear hF hA;have hA:=hB;clear hB;(simp only[List.drop_succ_cons,List.drop_zero]);obtain⟨hA,hF⟩:=fY hA;(try go_frame))
  replace hA:=fold0 b hA sR sR sR;clear hF;obtain⟨hA,hF⟩:=fY hA
  go_wp2_with fail
  refine(hr w1 hp).mono ?_;clear hr;rintro e w2 ⟨rfl,hx⟩;replace hA:=hA.ext hx;clear hF hx;obtain⟨hA,hF⟩:=fY hA;cases r
  all_goals
   go_wp2_with fail
   go_ret;exact⟨by rw[hcode'.out];rfl,hA.only1 sR⟩
end
end Lock
end
section
namespace Lock
open Go.RowKit
open Go.Maps (Keyed)
open Path (bl Zad overB)
theorem Zgk (l r:List (ByteArray × Int)):ctrs (l++r)=ctrs l++ctrs r:=by simp[ctrs]
section
variable {P:Program} {ops:Array Oper} {rest:List Oper} {o:Oper} {a:Act} {Q:Exit→Act→World→Prop} {L0 L F:List Part} {w0 w:World} {k:TypeId} {c:Nat}
theorem ZeT {t:TypeId} {m x y:Operand} {cs:List (ByteArray × Int)} {p:ByteArray} {n:Int} (hg:o.guard=none) (hop:o.op=.mapUpdate t m x y) (hm:a.eval m=.map (some c)) (hx:a.eval x=.string p) (hy:a.eval y=.int .u64 n)
 (h:At L0 w0 L w) (s:Sel (Part.map P k c (ctrs cs)) L F) {e:TypeId} (K:Keyed P k) (ht:P.underlying t=some (.map k e)) {kl:Lit} (hk:keyOf P k (.string p)=some kl)
 (hK:∀w',At L0 w0 (Part.map P k c (ctrs (putC cs p n))::F) w'→wpList P ops Q rest (a.put o.dst undef) w'):wpList P ops Q (o::rest) a w:=by
 cases hq:ctr cs p with
 |none=>
  refine ZaN hg hop hm hx hy h s K ht hk (Zgl hq) fun w' h'=>hK w' ?_
  rw[Zc2 hq,Zgk];exact h'
 |some u=>
  obtain⟨l1,l2,rfl,hl⟩:=ZeG hq;rw[Zgk] at s
  refine ZcN (u:=.int .u64 u) (l1:=ctrs l1) (l2:=ctrs l2) hg hop hm hx hy h s K ht hk fun w' h'=>hK w' ?_
  rw[ZdV hl,Zgk];exact h'
end
section
variable {w:World} {b:Bk} {p f:ByteArray} {n mode:Int}
def Bk.with (b:Bk) (s:S3):Bk:=⟨b.p,b.m,b.c,b.first,s.es,s.cs⟩
theorem Zi9:b.with (b.st.added p n f mode)=⟨b.p,b.m,b.c,b.first,b.es++[b.st.newE p n f mode],putC b.cs p (counter b.first b.cs p + 1)⟩:=rfl
theorem Zm0 (l:List Ent) (e:Ent):ents l++[(keyV e.path e.num e.foot,e.val)]=ents (l++[e]):=ents_snoc l e
theorem add_no (h:Sep [BookP b] w) (hp:p.size≤1000000) (h0:0≤n) (h1:n < big64) (hf:f.size≤maxLen) (hl:b.es.length≤1000000000) (hc:∀q,0≤counter b.first b.cs q) {c:Int} (hm:b.st.may p n f mode=c) (hm0:c≠0):
 Calls Tryz.prog 261 #[.pointer (some ⟨b.p,0,none⟩),.string p,.agg #[.int .u64 n,.string f],.int .i64 mode] w fun e w'=>e=.returned (.tuple #[nullE.val,.int .i64 c])∧At [BookP b] w [BookP b] w':=by
 have hA:=At.start h;have hF:=hA.facts;have hm':=Hd hm
 have hm2:(c==0)=false:=by simpa using hm0
 clear h hm hm0;obtain⟨hA,hF⟩:=fY hA
 go_enter Tryz.func261,Tryz.ntmps261
 go_wp2_with (first|((with_reducible refine gbx ?_);refine wCy (E:=25) hA ?_;clear hF hA;intro bS w1 hA hbS hF)|((with_reducible refine gal ?_);refine g5 hA ?_;clear hF hA;intro bE w1 hA hbE hF))
 refine(may_any (hA.sep1 (A:=BookP b) sR) hp h0 h1 hf hl hc).mono ?_;rw[hm'.out];rintro e w1 ⟨rfl,hT⟩;replace hA:=hA.call1 sR hT;clear hF hT;obtain⟨hA,hF⟩:=fY hA
 go_wp2_with ((with_reducible refine gst ?_);refine wTy hA ?_;clear hF hA;intro w1 hA hF)
 refine bodyPost_ret (v:=.tuple #[nullE.val,.int .i64 c]) (by simp[results,Tryz.results261,go_sem,hF,nullE,Ent.val]<;>rfl) rfl ⟨rfl,?_⟩;exact hA.only1 sR
theorem ZoC (h:Sep [BookP b] w) (hp:p.size≤1000000) (h0:0≤n) (h1:n < big64) (hf:f.size≤maxLen) (hl:b.es.length≤1000000000) (hc:∀q,0≤counter b.first b.cs q) (hok:∀x ∈ b.es,x.path.size≤1000000∧x.stamp≤1000000000) (hm:b.st.may p n f mode=0):
 Calls Tryz.prog 261 #[.pointer (some ⟨b.p,0,none⟩),.string p,.agg #[.int .u64 n,.string f],.int .i64 mode] w fun e w'=>e=.returned (.tuple #[(b.st.newE p n f mode).val,.int .i64 0])∧At [BookP b] w [BookP (b.with (b.st.added p n f mode))] w':=by
 obtain⟨kl,hk⟩:=keyP (p:=p) (by unfold maxLen;omega) h0 h1 hf;obtain⟨kl2,hk2⟩:=keyT (p:=p) (by unfold maxLen;omega)
 have hpm:p.size≤maxLen:=by unfold maxLen;omega
 obtain⟨_,hfi,_,hcl⟩:=Zet hm;have hmiss:=Hd (find_none (es:=b.es) hfi);have hc0:=hc p;have hms:=Zdn (l:=b.es) (p:=p) (B:=1000000000) (by omega) (fun x hx=>(hok x hx).2);have hA:=At.start h;have hF:=hA.facts;have hm':=Hd hm;have hok':=Hd hok;have hcl':counter b.first b.cs p < 9223372036854775807:=hcl
 have hwr:IntKind.u64.wrap (counter b.first b.cs p + 1)=counter b.first b.cs p + 1:=by rw[IntKind.wrap_u64];omega
 rw[Zi9];have hne:(b.st.newE p n f mode).val=.agg #[.string p,.int .u64 n,.string f,.int .i64 mode,.int .u64 (counter b.first b.cs p + 1),.int .i64 (maxS b.es p + 1)]:=rfl;rw[hne];have hone:ents b.es++[(.agg #[.string p,.int .u64 n,.string f],.agg #[.string p,.int .u64 n,.string f,.int .i64 mode,.int .u64 (counter b.first b.cs p + 1),.int .i64 (maxS b.es p + 1)])]=ents (b.es++[b.st.newE p n f mode]):=Zm0 b.es (b.st.newE p n f mode)
 unfold keyV at *
 have hct:=fun(w1:World) (q:Sep [BookP b] w1)=>ZeH q (p:=p) hpm
 have hst:=fun(w1:World) (q:Sep [BookP b] w1)=>Zgz q p hp hok
 generalize hnn:b.st.newE p n f mode=e at *
 generalize counter b.first b.cs p=cc at *
 generalize maxS b.es p=ss at *
 have hone':=Hd hone;clear h hm hok hfi hcl hone hnn hne;obtain⟨hA,hF⟩:=fY hA
 go_enter Tryz.func261,Tryz.ntmps261
 go_wp2_with (first|((with_reducible refine gbx ?_);refine wCy (E:=25) hA ?_;clear hF hA;intro bS w1 hA hbS hF)|((with_reducible refine gal ?_);refine g5 hA ?_;clear hF hA;intro bE w1 hA hbE hF))
 refine(may_any (hA.sep1 (A:=BookP b) sR) hp h0 h1 hf hl hc).mono ?_;rw[hm'.out];rintro e w1 ⟨rfl,hT⟩;replace hA:=hA.call1 sR hT;clear hF hT;obtain⟨hA,hF⟩:=fY hA
 go_wp2_with fail
 (refine Zap (a1:= ?a1_q1) (v:= ?v_q1) 11 11 97 _ (.agg #[.string .empty,.int .u64 0,.string .empty,.int .i64 0,.int .u64 0,.int .i64 0]) [.string .empty,.int .u64 0,.string .empty,.int .i64 0,.int .u64 0,.int .i64 0] ([.string p,.int .u64 n,.string f,.int .i64 mode,.int .u64 (cc + 1),.int .i64 (ss + 1)]) (by kernel_rfl) (by kernel_rfl) rfl rfl ?hyd_q1 (by kernel_rfl) rfl hA ?h1_q1 ?hd_q1 ?hy_q1 ?hu_q1 ?hsz_q1 ?hus_q1 ?hl_q1 ?h2_q1);(case h1_q1=>(intro R wR hR;(try clear hF);(simp only[List.take_succ_cons,List.take_zero,List.drop_succ_cons,List.drop_zero]);(have hn1:=Cl.none hR);(have hn2:=Cl.none2 hR);(repeat(first|go_big_quiet_skip|(go_big_quiet_want;(first|(refine qM 25 2 ?_;go_frame;go_big_quiet_on)|(refine qL ?_;go_frame;go_big_quiet_on)|(go_big_quiet_op;(first|go_big_quiet_on|((apply Exists.intro);(refine⟨fun w1 hw=> ?_,?_⟩);(focus((have hw:=Cl.out hw);(first|exact through1 hw (A:=BookP b) sR (hct _)|exact through1 hw (A:=BookP b) sR (hst _))));(go_big_quiet_on))))))));(refine wpQuiet_nil ?_);exact rfl));(case hyd_q1=>rfl);(case hd_q1=>(first|decide|simp));(case hy_q1=>((try simp only[Act.eval,Array.getD_eq_getD_getElem?,List.getElem?_toArray,List.getElem?_cons_succ,List.getElem?_cons_zero,Option.getD_some]);exact rfl));(case hu_q1=>exact rfl);(case hsz_q1=>kernel_rfl);(case hus_q1=>rfl);(case hl_q1=>rfl);(intro b1 w1 hB hb1;clear hF hA;have hA:=hB;clear hB;(simp only[List.drop_succ_cons,List.drop_zero]);obtain⟨hA,hF⟩:=fY hA;(try go_frame))
 clear hct hst;replace hA:=open0 hA sR;clear hF;obtain⟨hA,hF⟩:=fY hA
 go_wp2_with fail
 (refine Zaw 7 (Cl _ _ _) (by kernel_rfl) (by kernel_rfl) (Cl.drew hA) ?_);(simp only[List.take_succ_cons,List.take_zero,List.drop_succ_cons,List.drop_zero]);(have hn1:=Cl.none hA);(have hn2:=Cl.none2 hA);(repeat(first|go_big_quiet_skip|(go_big_quiet_want;(first|(refine qL ?_;go_frame;go_big_quiet_on)|(go_big_quiet_op;(first|go_big_quiet_on))))))
 (refine wpQuiet_nil ?_);(intro w1 hB);(clear hF hA hn1 hn2);(have hA:=Cl.out hB);(clear hB);obtain⟨hA,hF⟩:=fY hA
 go_wp2_with (refine ZeT rfl rfl rfl (by(try simp only[Act.eval,eV])<;>exact rfl) (by exact rfl) hA (k:=9) (cs:=b.cs) sR lawT Tryz.underlying204 hk2 ?_;intro w1 hB;clear hF hA;have hA:=hB;clear hB;obtain⟨hA,hF⟩:=fY hA)
 try go_frame
 (refine Zaw 8 (Cl _ _ _) (by kernel_rfl) (by kernel_rfl) (Cl.drew hA) ?_);(simp only[List.take_succ_cons,List.take_zero,List.drop_succ_cons,List.drop_zero]);(have hn1:=Cl.none hA);(have hn2:=Cl.none2 hA);(repeat(first|go_big_quiet_skip|(go_big_quiet_want;(first|(refine qM 25 2 ?_;go_frame;go_big_quiet_on)|(refine qM 97 6 ?_;go_frame;go_big_quiet_on)|(refine qL ?_;go_frame;go_big_quiet_on)|(go_big_quiet_op;(first|go_big_quiet_on))))))
 (refine wpQuiet_nil ?_);(intro w1 hB);(clear hF hA hn1 hn2);(have hA:=Cl.out hB);(clear hB);obtain⟨hA,hF⟩:=fY hA
 go_wp2_with (first|((with_reducible refine gst ?_);refine wTy hA ?_;clear hF hA;intro w1 hA hF)|(refine ZaN rfl rfl rfl (by(try simp only[Act.eval,eV])<;>exact rfl) (by(try simp only[Act.eval,eV])<;>exact rfl) hA (k:=203) (es:=ents b.es) sR lawP Tryz.underlying201 hk hmiss.out ?_;intro w1 hB;rw[hone'.out] at hB;clear hF hA;have hA:=hB;clear hB;obtain⟨hA,hF⟩:=fY hA))
 refine bodyPost_ret (v:=.tuple #[.agg #[.string p,.int .u64 n,.string f,.int .i64 mode,.int .u64 (cc + 1),.int .i64 (ss + 1)],.int .i64 0]) (by simp[results,Tryz.results261,go_sem,hF]) rfl ⟨rfl,?_⟩;exact close0 ⟨b.p,b.m,b.c,b.first,b.es++[e],putC b.cs p (cc + 1)⟩ hA sR sR sR
theorem add_any (h:Sep [BookP b] w) (hp:p.size≤1000000) (h0:0≤n) (h1:n < big64) (hf:f.size≤maxLen) (hl:b.es.length≤1000000000) (hc:∀q,0≤counter b.first b.cs q) (hok:∀x ∈ b.es,x.path.size≤1000000∧x.stamp≤1000000000):
 Calls Tryz.prog 261 #[.pointer (some ⟨b.p,0,none⟩),.string p,.agg #[.int .u64 n,.string f],.int .i64 mode] w fun e w'=>e=.returned (.tuple #[(b.st.addE p n f mode).val,.int .i64 (b.st.may p n f mode)])∧At [BookP b] w [BookP (b.with (b.st.add p n f mode))] w':=by
 by_cases hm:b.st.may p n f mode=0
 · have:=ZoC h hp h0 h1 hf hl hc hok hm
   unfold S3.addE S3.add;rw[if_pos hm,if_pos hm,hm];exact this
 have:=add_no h hp h0 h1 hf hl hc (c:=b.st.may p n f mode) rfl hm
 unfold S3.addE S3.add;rw[if_neg hm,if_neg hm];exact this
end
end Lock
end
end Go.Proofs.YtkdjkngfnapjcaaGreatDoor
