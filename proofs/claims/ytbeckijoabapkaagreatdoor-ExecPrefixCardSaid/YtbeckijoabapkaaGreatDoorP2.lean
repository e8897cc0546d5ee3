import Derived.Test.YtbeckijoabapkaaGreatDoorP1
import Derived.Test.YtbeckijoabapkaaGreatDoorChecked
import Derived.Deep.AppendLies
set_option linter.unusedSimpArgs false
set_option linter.unusedVariables false
set_option maxRecDepth 100000
set_option maxHeartbeats 16000000
section
namespace Go
section
variable {P:Program} {ops:Array Oper} {md:Region.Mode} {ι:Type} {C:ι→World→Prop}
def Oper.quietF (P:Program) (o:Oper) (a:Act) (C:ι→World→Prop) (next:Act→Prop):Prop:=∃v,(∀i w,C i w→o.quietAt P a (C i) w v)∧next (a.put o.dst v)
def ZbZ (P:Program) (ops:Array Oper) (C:ι→World→Prop) (Q:Act→Prop):List Oper→Act→Prop
 |[],a=>Q a
 |o::rest,a=>if Region.wanted o (yielded ops a.tmps) then o.quietF P a C (ZbZ P ops C Q rest) else ZbZ P ops C Q rest (a.put o.dst undef)
def qOpF (P:Program) (ops:Array Oper) (C:ι→World→Prop) (i:Nat) (K:Act→Prop) (a:Act):Prop:=
 match ops[i]? with
 |none=>K a
 |some o=>if Region.wanted o (yielded ops a.tmps) then o.quietF P a C K else K (a.put o.dst undef)
theorem Oper.quietF_mono {o:Oper} {a:Act} {K K':Act→Prop} (h:∀a,K a→K' a) (hh:o.quietF P a C K):o.quietF P a C K':=
 let ⟨v,h1,h2⟩:=hh
 ⟨v,h1,h _ h2⟩
theorem Zkq {i:Nat} {a:Act} {K K':Act→Prop} (h:∀a,K a→K' a) (hh:qOpF P ops C i K a):qOpF P ops C i K' a:=by
 unfold qOpF at *
 split
 · exact h _ (by simpa [*] using hh)
 rename_i o ho;simp only[ho] at hh;split
 · rename_i hw;simp only[hw,if_true] at hh;exact Oper.quietF_mono h hh
 rename_i hw;simp only[hw] at hh;exact h _ hh
def Zbw (P:Program) (ops:Array Oper) (C:ι→World→Prop) (o:Oper) (v:Value) (a:Act):Prop:=
 (Region.wanted o (yielded ops a.tmps)=true∧∀i w,C i w→o.quietAt P a (C i) w v)∨
 (Region.wanted o (yielded ops a.tmps)=false∧v=undef)
theorem Zbw.qOp {i:Nat} {o:Oper} {v:Value} {a:Act} (hi:ops[i]? =some o) (hy:Zbw P ops C o v a) {K:Act→Prop} (h:K (a.put o.dst v)):qOpF P ops C i K a:=by
 unfold qOpF;simp only[hi];rcases hy with⟨hw,hv⟩|⟨hw,rfl⟩
 · simp only[hw,if_true];exact⟨v,hv,h⟩
 simp only[hw,Bool.false_eq_true,if_false];exact h
theorem Zbw.of_same {o:Oper} {v:Value} {a a':Act} (hy:Zbw P ops C o v a) (he:execOp a'.eval o=execOp a.eval o)
 (hw:Region.wanted o (yielded ops a'.tmps)=Region.wanted o (yielded ops a.tmps)):Zbw P ops C o v a':=by
 unfold Zbw Oper.quietAt at *
 rw[he,hw];exact hy
theorem Ze7 {i:Nat} {o:Oper} {a:Act} {K:Act→Prop} (hi:ops[i]? =some o) (h:qOpF P ops C i K a):∃v,Zbw P ops C o v a∧K (a.put o.dst v):=by
 unfold qOpF at h;simp only[hi] at h;by_cases hw:Region.wanted o (yielded ops a.tmps)=true
 · simp only[hw,if_true] at h;obtain⟨v,h1,h2⟩:=h;exact⟨v,.inl ⟨hw,h1⟩,h2⟩
 simp only[hw] at h;exact⟨undef,.inr ⟨by simpa using hw,rfl⟩,h⟩
theorem Zmk {j:Nat} {oi oj:Oper} {v:Value} (hj:ops[j]? =some oj) (hap:oi.apart ops oj=true)
 (hsi:∀cs b,oi.op≠.select cs b) (hsj:∀cs b,oj.op≠.select cs b) {K:Act→Prop} {a:Act}
 (hy:Zbw P ops C oi v a) (h:qOpF P ops C j K (a.put oi.dst v)):
 qOpF P ops C j (fun a'=>Zbw P ops C oi v a'∧K (a'.put oi.dst v)) a:=by
 obtain⟨h1,h2,h3⟩:=Oper.apart_spec hap
 have keep:∀(a:Act),Zbw P ops C oi v a→∀u,Zbw P ops C oi v (a.put oj.dst u):=fun a hy u=>
  hy.of_same (execOp_put oi hsi a oj.dst u h3) (wanted_put oi a oj.dst u h3)
 unfold qOpF at *
 simp only[hj] at *
 rw[wanted_put oj a oi.dst v h1] at h;split
 · rename_i hw;simp only[hw,if_true] at h;obtain⟨u,hu,hn⟩:=h;refine⟨u,fun i w hw'=> ?_,keep a hy u,by rw[←Act.put_comm a v u h2];exact hn⟩;have:=hu i w hw';unfold Oper.quietAt at *
   rwa [execOp_put oj hsj a oi.dst v h1] at this
 rename_i hw;simp only[hw] at h;exact⟨keep a hy _,by rw[←Act.put_comm a v undef h2];exact h⟩
def ZbP (P:Program) (md:Region.Mode) (ops:Array Oper) (C:ι→World→Prop) (n:Nat) (L:Array Bool→Act→Prop):Nat→Array Bool→Act→Prop
 |0,listed,a=>L listed a
 |f + 1,listed,a=>(∃i ∈ Region.ready md ops listed,i < n)∧∀i ∈ Region.ready md ops listed,i≠n→i < n∧qOpF P ops C i (ZbP P md ops C n L f (listed.setIfInBounds i true)) a
def tailX (md:Region.Mode) (ops:Array Oper) (n:Nat):Bool:=
 (List.range ops.size).all fun t=>decide (t≤n) || (List.range (n + 1)).all fun i=>Region.waitsFor md ops t i
theorem Zes {n:Nat} {listed:Array Bool} (hx:tailX md ops n=true) {i:Nat} (hi:i≤n) (hun:listed.getD i false=false) {t:Nat} (ht:n < t):t ∉ Region.ready md ops listed:=by
 intro hr;obtain⟨_,ot,hot,hall⟩:=mem_ready.1 hr;have htlt:t < ops.size:=(Array.getElem?_eq_some_iff.1 hot).1;have h1:=List.all_eq_true.1 hx t (List.mem_range.2 htlt);simp only[Bool.or_eq_true,decide_eq_true_eq] at h1;rcases h1 with h1|h1
 · omega
 obtain⟨oj,hoj,e,he,hb,hon⟩:=Region.waitsFor_spec (List.all_eq_true.1 h1 i (List.mem_range.2 (by omega)));have:oj=ot:=Option.some.inj (hoj.symm.trans hot);subst this;have:=hall e he hb;rw[hon,hun] at this;cases this
theorem ZgO {n:Nat} {listed:Array Bool} (hx:tailX md ops (n + 1)=true) (hw:Region.waitsFor md ops (n + 1) n=true) (hun:listed.getD n false=false):∀i ∈ Region.ready md ops listed,i≤n:=fun i hi=>by
 rcases Nat.lt_or_ge n i with q|q
 · exfalso
   by_cases e:i=n + 1
   · subst e;obtain⟨_,ot,hot,hall⟩:=mem_ready.1 hi;obtain⟨oj,hoj,e,he,hb,hon⟩:=Region.waitsFor_spec hw;have:oj=ot:=Option.some.inj (hoj.symm.trans hot);subst this;have:=hall e he hb;rw[hon,hun] at this;cases this
   exact absurd hi (Zes hx (i:=n) (by omega) hun (by omega))
 exact q
theorem ZfX {n i:Nat} {oi:Oper} {v:Value} {L:Array Bool→Act→Prop} (hi:ops[i]? =some oi) (hsel:∀(j:Nat) (o:Oper) cs b,ops[j]? =some o→o.op≠.select cs b)
 (hfar:∀listed:Array Bool,listed.getD n false=false→∀i ∈ Region.ready md ops listed,i≤n) (hns:n < ops.size) (hin:i < n) (hdone:∀listed a,L listed a→∀j ∈ Region.ready md ops listed,n≤j):
 ∀(f:Nat) (listed:Array Bool) (a:Act),HeadInv md ops n listed→
  (∀j oj,ops[j]? =some oj→j≠i→listed.getD j true=false→(∀e ∈ oj.after,Region.binds md e=true→e.on≠i)→oi.apart ops oj=true)→
  i ∈ Region.ready md ops listed→Zbw P ops C oi v a→
  ZbP P md ops C n L f (listed.setIfInBounds i true) (a.put oi.dst v)→ZbP P md ops C n L (f + 1) listed a:=by
 intro f
 induction f with
 |zero=>
  intro listed a inv _ hr hy H;have hun:=(mem_ready.1 hr).1;refine⟨⟨i,hr,hin⟩,fun j hj hjx=> ?_⟩
  have hjn:j < n:=by
   have:=hfar _ (getD_both (inv.tail n (Nat.le_refl _) hns)) j hj
   omega
  refine⟨hjn,?_⟩
  by_cases hji:j=i
  · subst hji;exact hy.qOp hi H
  have:=hdone _ _ H j (ready_mono hj hji)
  omega
 |succ f ih=>
  intro listed a inv hfree hr hy H;have hun:=(mem_ready.1 hr).1;refine⟨⟨i,hr,hin⟩,fun j hj hjx=> ?_⟩
  have hjn:j < n:=by
   have:=hfar _ (getD_both (inv.tail n (Nat.le_refl _) hns)) j hj
   omega
  refine⟨hjn,?_⟩
  by_cases hji:j=i
  · subst hji;exact hy.qOp hi H
  have h1:=(H.2 j (ready_mono hj hji) hjx).2;obtain⟨hjun,oj,hoj,hall⟩:=mem_ready.1 hj
  have hnot:∀e ∈ oj.after,Region.binds md e=true→e.on≠i:=fun e he hb heq=>by
   have h1:=hall e he hb;rw[heq,getD_both hun] at h1;cases h1
  have h2:=Zmk hoj (hfree j oj hoj hji hjun hnot) (fun cs b=>hsel i oi cs b hi) (fun cs b=>hsel j oj cs b hoj) hy h1
  have hfree':∀k ok,ops[k]? =some ok→k≠i→(listed.setIfInBounds j true).getD k true=false→
   (∀e ∈ ok.after,Region.binds md e=true→e.on≠i)→oi.apart ops ok=true:=fun k ok hk hki hun hno=>by
   refine hfree k ok hk hki ?_ hno;by_cases hjk:j=k
   · subst hjk;exact hjun
   rw[getD_set_ne true hjk] at hun;exact hun
  refine Zkq (fun a' h3=>ih (listed.setIfInBounds j true) a' (inv.set hj hjn) hfree' (ready_mono hr (Ne.symm hji)) h3.1 ?_) h2;rw[Array.setIfInBounds_comm _ _ hji];exact h3.2
theorem Zem {n:Nat} {Lq:Act→Prop} (hsel:Region.noSelect ops=true) (hfar:∀listed:Array Bool,listed.getD n false=false→∀i ∈ Region.ready md ops listed,i≤n) (hn:n < ops.size):
 ∀(l:List Oper) (k:Nat) (listed:Array Bool) (a:Act),(∀j,j < l.length→l[j]? =ops[k + j]?)→k + l.length=n→HeadInv md ops n listed→(∀j,j < k→listed.getD j false=true)→
 headB md ops l.length k listed=true→ZbZ P ops C Lq l a→
 ZbP P md ops C n (fun listed' a'=>listed'=Zbh ops.size n∧Lq a') l.length listed a
 |[],k,listed,a,_,hk,inv,hd,_,h=>by
  have:k=n:=by simpa using hk
  subst this;exact⟨Zld inv.size hd inv.tail,h⟩
 |o::l,k,listed,a,hl,hk,inv,hd,hB,h=>by
  have h0:ops[k]? =some o:=by simpa using(hl 0 (by simp)).symm
  simp only[List.length_cons,headB,Bool.and_eq_true] at hB;obtain⟨⟨hr,hf⟩,hB'⟩:=hB;have hkn:k < n:=by simp only[List.length_cons] at hk;omega
  have hr':k ∈ Region.ready md ops listed:=by simpa using hr
  have hst:qOpF P ops C k (ZbZ P ops C Lq l) a:=by unfold qOpF;simp only[h0];exact h
  obtain⟨v,hy,hK⟩:=Ze7 h0 hst;have hks:k < listed.size:=by rw[inv.size];omega
  exact ZfX h0 (Region.noSelect_spec hsel) hfar hn hkn (fun listed' a' hL=>by rw[hL.1];exact ZdZ) l.length listed a inv (Region.free_spec h0 hf) hr' hy
   (Zem hsel hfar hn l (k + 1) _ _ (fun j hj=>by have:=hl (j + 1) (by simp;omega);simpa [Nat.add_assoc,Nat.add_comm 1 j] using this) (by simp only[List.length_cons] at hk;omega) (inv.set hr' hkn)
     (fun j hj=>by
       by_cases hjk:j=k
       · subst hjk;simp[hks]
       rw[getD_set_ne false (Ne.symm hjk)];exact hd j (by omega)) hB' hK)
theorem ZdU {i:Nat} {o:Oper} {a:Act} {K:Act→Prop} {K':Act→World→Prop} {Q':Exit→Act→World→Prop} {w:World} {R:ι} {on:Oper} {p:Value} (ho:ops[i]? =some o) (hap:on.apart ops o=true) (hsel:∀cs b,o.op≠.select cs b)
 (hC:C R w) (h:∀a w',C R w'→K a→K' (a.put on.dst p) w') (hh:qOpF P ops C i K a):wpOp P ops Q' i K' (a.put on.dst p) w:=by
 obtain⟨h1,h2,_⟩:=Oper.apart_spec hap;unfold qOpF at hh;unfold wpOp;simp only[ho] at hh ⊢;rw[wanted_put o a on.dst p h1];split
 · rename_i hw;simp only[hw,if_true] at hh;obtain⟨v,hv,hn⟩:=hh;have h3:=hv R w hC;left
   unfold Oper.quietAt at h3;unfold Oper.wp;rw[execOp_put o hsel a on.dst p h1];generalize (execOp a.eval o).run P w=r at *
   cases r with
   |ok n w'=>
    cases n<;>simp only[Oper.quietUpon] at h3<;>simp only[Oper.upon]
    case value u=>
     obtain⟨e1,e2⟩:=h3;rw[e1,e2,Act.put_comm a p v h2];exact h _ _ hC hn
    case skip=>
     obtain⟨e1,e2⟩:=h3;rw[e1,←e2,Act.put_comm a p v h2];exact h _ _ hC hn
    case enter f args=>
     obtain⟨e1,hc⟩:=h3;rw[e1];refine hc.mono fun e w'' ⟨he,hw''⟩=> ?_;subst he;show K' ((a.put on.dst p).put o.dst v) w'';rw[Act.put_comm a p v h2];exact h _ _ hw'' hn
   |halt x w'=>simp only[Oper.quietUpon] at h3
 rename_i hw;simp only[hw] at hh;rw[Act.put_comm a p undef h2];exact h _ _ hC hh
theorem ZfT {i:Nat} {a:Act} {K:Act→Prop} {K':Act→World→Prop} {Q':Exit→Act→World→Prop} {w:World} {R:ι} (hC:C R w) (h:∀a w',C R w'→K a→K' a w') (hh:qOpF P ops C i K a):wpOp P ops Q' i K' a w:=
 wpOp_of_qOp (C:=C R) hC h (by
  unfold qOpF at hh;unfold qOp;split
  · rename_i ho;simpa only[ho] using hh
  rename_i o ho;simp only[ho] at hh;split
  · rename_i hw;simp only[hw,if_true] at hh;obtain⟨v,hv,hn⟩:=hh;exact⟨v,fun w hw=>hv R w hw,hn⟩
  rename_i hw;rw[if_neg hw] at hh
  exact hh)
def freeX (md:Region.Mode) (ops:Array Oper) (n:Nat):Bool:=
 match ops[n]?,ops[n + 1]? with
 |some on,some os=>on.after.isEmpty&&on.guard.isNone&&os.guard.isNone&&os.dst.isNone&&os.after.all (fun e=> !Region.binds md e || decide (e.on≤n))&&Region.waitsFor md ops (n + 1) n&&(List.range n).all fun i=> !Region.waitsFor md ops i n&& !Region.waitsFor md ops i (n + 1)&&(match ops[i]? with
  |some o=>on.apart ops o&&(Region.waitsFor md ops (n + 1) i || (match o.dst with|some d=> !(os.looksAt ops).contains d|none=>true))
  |none=>true)
 |_,_=>false
structure FreeX (md:Region.Mode) (ops:Array Oper) (n:Nat) (on os:Oper):Prop where
 hon:ops[n]? =some on
 hos:ops[n + 1]? =some os
 after:on.after= #[]
 guard:on.guard=none
 guards:os.guard=none
 dst:os.dst=none
 waits:Region.waitsFor md ops (n + 1) n=true
 apart:∀i o,i < n→ops[i]? =some o→on.apart ops o=true
 no:∀i o,i < n→ops[i]? =some o→∀e ∈ o.after,Region.binds md e=true→e.on≠n∧e.on≠n + 1
 reads:∀i o,i < n→ops[i]? =some o→Region.waitsFor md ops (n + 1) i=true∨∀d,o.dst=some d→d ∉ os.looksAt ops
 back:∀e ∈ os.after,Region.binds md e=true→e.on≤n
theorem ZjC {n:Nat} (h:freeX md ops n=true):∃on os,FreeX md ops n on os:=by
 unfold freeX at h;split at h
 · rename_i on os ho hs;simp only[Bool.and_eq_true,List.all_eq_true,Array.isEmpty_iff,Option.isNone_iff_eq_none] at h;obtain⟨⟨⟨⟨⟨⟨h1,h2⟩,h3⟩,h4⟩,h9⟩,h5⟩,h6⟩:=h
   have no:∀i o m,ops[i]? =some o→(!Region.waitsFor md ops i m)=true→∀e ∈ o.after,Region.binds md e=true→e.on≠m:=fun i o m hio hw e he hb heq=>by
    have h3:Region.waitsFor md ops i m=false:=by simpa using hw
    unfold Region.waitsFor at h3;rw[hio] at h3;simp only[Array.any_eq_false'] at h3;exact h3 e he (by simp[hb,heq])
   refine⟨on,os,ho,hs,h1,h2,h3,h4,h5,fun i o hi hio=> ?_,fun i o hi hio e he hb=> ?_,fun i o hi hio=> ?_,fun e he hb=> ?_⟩
   · have h7:=h6 i (List.mem_range.2 hi);rw[hio] at h7;simp only[Bool.and_eq_true] at h7;exact h7.2.1
   · have h7:=h6 i (List.mem_range.2 hi);exact⟨no i o n hio h7.1.1 e he hb,no i o (n + 1) hio h7.1.2 e he hb⟩
   · have h7:=h6 i (List.mem_range.2 hi);rw[hio] at h7;simp only[Bool.and_eq_true,Bool.or_eq_true] at h7;rcases h7.2.2 with h8|h8
     · exact .inl h8
     right
     intro d hd;rw[hd] at h8;simpa using h8
   have:=Array.all_eq_true'.1 h9 e he
   simpa [hb] using this
 cases h
theorem Zez {n:Nat} {a1:Act} {d:Tmp} (i0:ι) (hst:∀i o,i < n→ops[i]? =some o→o.dst=none→True):∀(f:Nat) (listed:Array Bool) (a:Act),
 (∀i o,i < n→ops[i]? =some o→listed.getD i false=false→o.dst≠some d)→ZbP P md ops C n (fun listed' a'=>listed'=Zbh ops.size n∧a'=a1) f listed a→a.tmps[d]? =a1.tmps[d]?
 |0,listed,a,_,h=>by rw[h.2]
 |f + 1,listed,a,hd,h=>by
  obtain⟨⟨i,hi,hin⟩,h⟩:=h;obtain⟨hun,o,ho,_⟩:=mem_ready.1 hi;have h1:=(h i hi (by omega)).2;have hne:=hd i o hin ho (getD_both hun)
  have key:∀v,(a.put o.dst v).tmps[d]? =a.tmps[d]? :=fun v=>by
   cases hq:o.dst with
   |none=>rfl
   |some t=>
    have:t≠d:=fun e=>hne (by rw[hq,e])
    simp[Act.put,Array.getElem?_setIfInBounds_ne this]
  have hd':∀j o',j < n→ops[j]? =some o'→(listed.setIfInBounds i true).getD j false=false→o'.dst≠some d:=fun j o' hj hjo hl=>by
   by_cases hij:i=j
   · subst hij;rw[hjo] at ho;cases ho;exact hne
   rw[getD_set_ne false hij] at hl;exact hd j o' hj hjo hl
  unfold qOpF at h1;simp only[ho] at h1;split at h1
  · obtain⟨v,_,h2⟩:=h1;rw[←Zez i0 hst f _ _ hd' h2,key]
  rw[←Zez i0 hst f _ _ hd' h1,key]
section
variable {n g:Nat} {on os:Oper} {p:Value} {a1:Act} {Q':Exit→Act→World→Prop}
theorem Zhy {R:ι} (hX:FreeX md ops n on os) (hsel:∀(j:Nat) (o:Oper) cs b,ops[j]? =some o→o.op≠.select cs b) (hx:tailX md ops (n + 1)=true)
 (hfin:∀w',C R w'→wpAny P md ops Q' g (((Zbh ops.size n).setIfInBounds n true).setIfInBounds (n + 1) true) (a1.put on.dst p) w'):
 ∀(f:Nat) (listed:Array Bool) (a:Act) (w:World),C R w→ZbP P md ops C n (fun listed' a'=>listed'=Zbh ops.size n∧a'=a1) f listed a→wpAny P md ops Q' (f + g) ((listed.setIfInBounds n true).setIfInBounds (n + 1) true) (a.put on.dst p) w
 |0,listed,a,w,hC,h=>by
  obtain⟨rfl,h⟩:=h;rw[Nat.zero_add,h];exact hfin _ hC
 |f + 1,listed,a,w,hC,h=>by
  rw[show f + 1 + g=(f + g) + 1 by omega];obtain⟨⟨i0,hi0,hi0n⟩,h⟩:=h;have hun:=(mem_ready.1 hi0).1;refine⟨fun h0=> ?_,fun i hi=> ?_⟩
  · have:=ready_mono (i:=n + 1) (ready_mono (i:=n) hi0 (by omega)) (by omega)
    rw[h0] at this;cases this
  obtain⟨hiun,o,ho,hall⟩:=mem_ready.1 hi
  have nots:∀(l:Array Bool) (m:Nat),(l.setIfInBounds m true).getD m true=true:=fun l m=>by
   rcases Nat.lt_or_ge m l.size with q|q
   · simp[q]
   rw[Array.getD_eq_getD_getElem?,Array.getElem?_eq_none (by simpa using q)];rfl
  have hin1:i≠n + 1:=by
   rintro rfl;rw[nots] at hiun;cases hiun
  rw[getD_set_ne true (Ne.symm hin1)] at hiun
  have hin:i≠n:=by
   rintro rfl;rw[nots] at hiun;cases hiun
  rw[getD_set_ne true (Ne.symm hin)] at hiun
  have hlt:i < n:=by
   rcases Nat.lt_or_ge i n with q|q
   · exact q
   refine absurd hi (Zes hx (i:=i0) (by omega) ?_ (by omega));rw[getD_set_ne false (by omega),getD_set_ne false (by omega)];exact getD_both hun
  have hi':i ∈ Region.ready md ops listed:=by
   rw[mem_ready];refine⟨hiun,o,ho,fun e he hb=> ?_⟩;have:=hall e he hb;obtain⟨q1,q2⟩:=hX.no i o hlt ho e he hb;rwa [getD_set_ne false (Ne.symm q2),getD_set_ne false (Ne.symm q1)] at this
  refine ZdU ho (hX.apart i o hlt ho) (fun cs b=>hsel i o cs b ho) hC (fun a' w' hC' h'=> ?_) (h i hi' hin).2;rw[Array.setIfInBounds_comm _ _ (Ne.symm hin1),Array.setIfInBounds_comm _ _ (Ne.symm hin)];exact Zhy hX hsel hx hfin f _ a' w' hC' h'
theorem Znj {R:ι} (hX:FreeX md ops n on os) (hsel:∀(j:Nat) (o:Oper) cs b,ops[j]? =some o→o.op≠.select cs b) (hx:tailX md ops (n + 1)=true)
 (hst:∀w,C R w→∃(R2:ι) (w':World),(execOp (Act.eval (a1.put on.dst p)) os).run P w=.ok .skip w'∧C R2 w'∧
   ∀w'',C R2 w''→wpAny P md ops Q' g (((Zbh ops.size n).setIfInBounds n true).setIfInBounds (n + 1) true) (a1.put on.dst p) w''):
 ∀(f:Nat) (listed:Array Bool) (a:Act) (w:World),HeadInv md ops n listed→C R w→ZbP P md ops C n (fun listed' a'=>listed'=Zbh ops.size n∧a'=a1) f listed a→wpAny P md ops Q' (f + 1 + g) (listed.setIfInBounds n true) (a.put on.dst p) w:=by
 intro f
 induction f with
 |zero=> ?_
 |succ f ih=> ?_
 all_goals
  intro listed a w inv hC h;have hss:n + 1 < ops.size:=(Array.getElem?_eq_some_iff.1 hX.hos).1;have hnl:n < listed.size:=by rw[inv.size];omega
  have h1un:(listed.setIfInBounds n true).getD (n + 1) false=false:=by
   rw[getD_set_ne false (by omega)];exact getD_both (inv.tail (n + 1) (by omega) hss)
  have store:∀f',ZbP P md ops C n (fun listed' a'=>listed'=Zbh ops.size n∧a'=a1) f' listed a→n + 1 ∈ Region.ready md ops (listed.setIfInBounds n true)→
   wpOp P ops Q' (n + 1) (wpAny P md ops Q' (f' + g) ((listed.setIfInBounds n true).setIfInBounds (n + 1) true)) (a.put on.dst p) w:=fun f' h hr=>by
   obtain⟨R2,w',hrun,hR2,hfin⟩:=hst w hC;obtain⟨_,os',hos',hall⟩:=mem_ready.1 hr;have hoe:os'=os:=Option.some.inj (hos'.symm.trans hX.hos);subst hoe
   have hev:execOp (Act.eval (a.put on.dst p)) os'=execOp (Act.eval (a1.put on.dst p)) os':=execOp_congr os' (fun cs b=>hsel _ _ cs b hos') fun x hxm=>by
    cases x with
    |tmp t=>
     have hlook:t ∈ os'.looksAt ops:=List.mem_append_left _ (List.mem_filterMap.2 ⟨.tmp t,by simpa using hxm,rfl⟩)
     have hk:a.tmps[t]? =a1.tmps[t]? :=Zez R (fun _ _ _ _ _=>trivial) f' listed a (fun i o hi ho hl hd=>by
      rcases hX.reads i o hi ho with q|q
      · obtain⟨oj,hoj,e,he,hb,hon⟩:=Region.waitsFor_spec q;have:oj=os':=Option.some.inj (hoj.symm.trans hos');subst this;have:=hall e he hb;rw[hon,getD_set_ne false (by omega),hl] at this;cases this
      exact q t hd hlook) h
     have hps:∀(c:Act),(c.put on.dst p).tmps[t]? =if on.dst=some t∧t < c.tmps.size then some p else c.tmps[t]? :=fun c=>by
      cases hd:on.dst with
      |none=>simp[Act.put]
      |some u=>
       by_cases hu:u=t
       · subst hu;by_cases hz:u < c.tmps.size<;>simp[Act.put,hz]
       simp[Act.put,Array.getElem?_setIfInBounds_ne hu,hu]
     have hsz:t < a.tmps.size↔t < a1.tmps.size:=by
      constructor
      · intro q;rw[Array.getElem?_eq_getElem q] at hk;exact(Array.getElem?_eq_some_iff.1 hk.symm).1
      intro q;rw[Array.getElem?_eq_getElem q] at hk;exact(Array.getElem?_eq_some_iff.1 hk).1
     show(a.put on.dst p).tmps.getD t undef=(a1.put on.dst p).tmps.getD t undef;rw[Array.getD_eq_getD_getElem?,Array.getD_eq_getD_getElem?,hps,hps,hk];simp only[hsz]
    |_=>rfl
   refine Zgr hos' (by unfold Region.wanted;rw[hX.guards]) (by rw[hev];exact hrun) ?_;rw[hX.dst];exact Zhy hX hsel hx hfin f' listed a w' hR2 h
  have far:∀i,i ∈ Region.ready md ops (listed.setIfInBounds n true)→i≠n∧¬n + 1 < i:=fun i hi=>by
   refine⟨?_,fun q=>absurd hi (Zes hx (Nat.le_refl _) h1un q)⟩;rintro rfl;have:=(mem_ready.1 hi).1;simp[hnl] at this
 · rw[show 0 + 1 + g=(0 + g) + 1 by omega]
   have hlast:∀i,i ∈ Region.ready md ops (listed.setIfInBounds n true)→i=n + 1:=fun i hi=>by
    have:=far i hi
    rcases Nat.lt_or_ge i n with q|q
    · have hun:=(mem_ready.1 hi).1;rw[getD_set_ne true (by omega),h.1] at hun;simp[Zbh,show i < ops.size by omega,q] at hun
    omega
   have hrs:n + 1 ∈ Region.ready md ops (listed.setIfInBounds n true):=by
    rw[mem_ready];refine⟨by rw[getD_set_ne true (by omega)];exact inv.tail (n + 1) (by omega) hss,os,hX.hos,fun e he hb=> ?_⟩;have:=hX.back e he hb;by_cases q:e.on=n
    · rw[q];simp[hnl]
    rw[getD_set_ne false (Ne.symm q),h.1];simp[Zbh,show e.on < ops.size by omega,show e.on < n by omega]
   refine⟨fun h0=>by rw[h0] at hrs;(cases hrs),fun i hi=> ?_⟩;have e:=hlast i hi;subst e;exact store 0 h hi
 rw[show f + 1 + 1 + g=(f + 1 + g) + 1 by omega];obtain⟨⟨i0,hi0,hi0n⟩,h'⟩:=id h;refine⟨fun h0=> ?_,fun i hi=> ?_⟩
 · have:=ready_mono (i:=n) hi0 (by omega)
   rw[h0] at this;cases this
 have hfar:=far i hi;by_cases hs:i=n + 1
 · subst hs;exact store (f + 1) h hi
 have hlt:i < n:=by omega
 obtain⟨hiun,o,ho,hall⟩:=mem_ready.1 hi;rw[getD_set_ne true (by omega)] at hiun
 have hi':i ∈ Region.ready md ops listed:=by
  rw[mem_ready];refine⟨hiun,o,ho,fun e he hb=> ?_⟩;have:=hall e he hb;rwa [getD_set_ne false (Ne.symm (hX.no i o hlt ho e he hb).1)] at this
 refine ZdU ho (hX.apart i o hlt ho) (fun cs b=>hsel i o cs b ho) hC (fun a' w' hC' hh=> ?_) (h' i hi' (by omega)).2;rw[Array.setIfInBounds_comm _ _ (show n≠i by omega)];exact ih _ a' w' (inv.set hi' hlt) hC' hh
theorem Zig {R0:ι} (hX:FreeX md ops n on os) (hsel:∀(j:Nat) (o:Oper) cs b,ops[j]? =some o→o.op≠.select cs b) (hx:tailX md ops (n + 1)=true)
 (hal:∀a w,C R0 w→∃(p:Value) (R:ι) (w':World),(execOp (Act.eval a) on).run P w=.ok (.value p) w'∧C R w'∧
   ∀w,C R w→∃(R2:ι) (w':World),(execOp (Act.eval (a1.put on.dst p)) os).run P w=.ok .skip w'∧C R2 w'∧
   ∀w'',C R2 w''→wpAny P md ops Q' g (((Zbh ops.size n).setIfInBounds n true).setIfInBounds (n + 1) true) (a1.put on.dst p) w''):
 ∀(f:Nat) (listed:Array Bool) (a:Act) (w:World),HeadInv md ops n listed→C R0 w→ZbP P md ops C n (fun listed' a'=>listed'=Zbh ops.size n∧a'=a1) f listed a→wpAny P md ops Q' (f + 2 + g) listed a w:=by
 intro f
 induction f with
 |zero=> ?_
 |succ f ih=> ?_
 all_goals
  intro listed a w inv hC h;have hns:n < ops.size:=(Array.getElem?_eq_some_iff.1 hX.hon).1;have hnr:n ∈ Region.ready md ops listed:=mem_ready.2 ⟨inv.tail n (Nat.le_refl _) hns,on,hX.hon,fun e he=>by rw[hX.after] at he;simp at he⟩;have hnun:listed.getD n false=false:=getD_both (inv.tail n (Nat.le_refl _) hns);have far:=ZgO hx hX.waits hnun
  have alloc:∀f',ZbP P md ops C n (fun listed' a'=>listed'=Zbh ops.size n∧a'=a1) f' listed a→wpOp P ops Q' n (wpAny P md ops Q' (f' + 1 + g) (listed.setIfInBounds n true)) a w:=fun f' h=>by
   obtain⟨p,R,w',hrun,hR,hfin⟩:=hal a w hC;refine Zc4 hX.hon (by unfold Region.wanted;rw[hX.guard]) hrun ?_;exact Znj hX hsel hx hfin f' listed a w' inv hR h
 · rw[show 0 + 2 + g=(0 + 1 + g) + 1 by omega];refine⟨fun h0=>by rw[h0] at hnr;(cases hnr),fun i hi=> ?_⟩;have hle:=far i hi
   by_cases hin:i=n
   · subst hin;exact alloc 0 h
   exact absurd (ZdZ i (by rw[←h.1];exact hi)) (by omega)
 rw[show f + 1 + 2 + g=(f + 1 + 1 + g) + 1 by omega];refine⟨fun h0=>by rw[h0] at hnr;(cases hnr),fun i hi=> ?_⟩;have hle:=far i hi
 by_cases hin:i=n
 · subst hin;exact alloc (f + 1) h
 have hlt:i < n:=by omega
 refine ZfT hC (fun a' w' hC' h'=> ?_) (h.2 i hi hin).2;have:=ih _ a' w' (inv.set hi hlt) hC' h';rwa [show f + 2 + g=f + 1 + 1 + g by omega] at this
end
section
variable {n g:Nat} {os:Oper} {a1:Act} {Q':Exit→Act→World→Prop}
end
def dstB (m:Nat):List Oper→Bool
 |[]=>true
 |o::l=>(match o.dst with|some d=>decide (d < m)&&l.all (fun p=>p.dst != some d)|none=>false)&&dstB m l
theorem Ziy (a:Act) (x:Option Tmp) (v:Value):(a.put x v).tmps.size=a.tmps.size:=by cases x<;>simp[Act.put]
theorem Zce {D:World→Prop} {a1:Act} {d:Tmp}:∀(l:List Oper) (a:Act),l.all (fun p=>p.dst != some d)=true→wpQuiet P ops D (fun a'=>a'=a1) l a→a1.tmps[d]? =a.tmps[d]?
 |[],a,_,h=>by rw[show a=a1 from h]
 |o::l,a,hd,h=>by
  simp only[List.all_cons,Bool.and_eq_true,bne_iff_ne,ne_eq] at hd
  have key:∀v,(a.put o.dst v).tmps[d]? =a.tmps[d]? :=fun v=>by
   cases ho:o.dst with
   |none=>rfl
   |some t=>
    have:t≠d:=fun e=>hd.1 (by rw[ho,e])
    simp[Act.put,Array.getElem?_setIfInBounds_ne this]
  unfold wpQuiet at h;split at h
  · obtain⟨v,_,h⟩:=h;rw[Zce l _ hd.2 h,key]
  rw[Zce l _ hd.2 h,key]
theorem ZcT {a1:Act} (i0:ι):∀(l:List Oper) (a:Act),(∀i,wpQuiet P ops (C i) (fun a'=>a'=a1) l a)→dstB a.tmps.size l=true→ZbZ P ops C (fun a'=>a'=a1) l a
 |[],a,h,_=>h i0
 |o::l,a,h,hd=>by
  unfold dstB at hd;simp only[Bool.and_eq_true] at hd;obtain⟨hd1,hd2⟩:=hd;unfold ZbZ;unfold wpQuiet at h;split
  · rename_i hw;simp only[hw,if_true] at h
    cases ho:o.dst with
    |none=>rw[ho] at hd1;cases hd1
    |some d=>
     rw[ho] at hd1;simp only[Bool.and_eq_true,decide_eq_true_eq] at hd1
     have hv:∀i v,wpQuiet P ops (C i) (fun a'=>a'=a1) l (a.put o.dst v)→a1.tmps[d]? =some v:=fun i v hq=>by
      rw[Zce l _ hd1.2 hq,ho];simp[Act.put,hd1.1]
     obtain⟨v0,_,hr0⟩:=h i0;have e0:=hv i0 v0 hr0
     have hall:∀i,(∀w,C i w→o.quietAt P a (C i) w v0)∧wpQuiet P ops (C i) (fun a'=>a'=a1) l (a.put o.dst v0):=fun i=>by
      obtain⟨v,hq,hr⟩:=h i;have e:=hv i v hr;rw[e0] at e;cases e;exact⟨hq,hr⟩
     refine⟨v0,fun i=>(hall i).1,ZcT i0 l _ (fun i=>(hall i).2) (by rw[Ziy];exact hd2)⟩
  rename_i hw;simp only[hw] at h;exact ZcT i0 l _ h (by rw[Ziy];exact hd2)
end
end Go
namespace Go.Proofs.YtbeckijoabapkaaGreatDoor
section
variable {P:Program} {L0 L:List Part} {w0:World}
abbrev ZnP (L0:List Part) (w0:World) (L:List Part):Type:={R:Part // ∃w,At L0 w0 (R::L) w}
theorem Zma (vs us:List Value) (h:us.length=vs.length):setL vs 0 us=us:=by
 apply List.ext_getElem?;intro j;by_cases hj:j < us.length
 · have:=Zj8 us vs 0 j (by omega) hj
   rwa [Nat.zero_add] at this
 rw[List.getElem?_eq_none (by rw[Zan];omega),List.getElem?_eq_none (by omega)]
theorem Zau {id:Nat} {Q:Exit→Act→World→Prop} {a a1:Act} {w:World} {l:List Oper} (n:Nat) (d:Tmp) (E:TypeId) (y:Operand) (z:Value) (vs us:List Value) (hm:P.follows .mixedOrders=true)
 (hB:(Region.noSelect l.toArray&&tailX .any l.toArray (n + 1)&&freeX .any l.toArray n&&headB .any l.toArray n 0 (Array.replicate l.toArray.size false)&&dstB a.tmps.size (l.take n)&&Region.seqB .any l.toArray (l.length - (n + 2)) (n + 2) (((Zbh l.toArray.size n).setIfInBounds n true).setIfInBounds (n + 1) true))=true)
 (ho:(l[n]?).map (fun o=>(o.dst,o.op))=some (some d,.alloc E)) (hs:(l[n + 1]?).map (fun o=>o.op)=some (.store E (.tmp d) y)) (hyd:(match y with|.tmp t=>t != d|_=>true)=true) (hz:(P.info? E).map (·.zero)=some (some z)) (hv:z.cells=vs.toArray)
 (hA:At L0 w0 L w)
 (h1:∀(R:Part) (wR:World),At L0 w0 (R::L) wR→wpQuiet P l.toArray (Cl L0 w0 (R::L)) (fun a'=>a'=a1) (l.take n) a)
 (hd:d < a1.tmps.size) {v:Value} (hy:a1.eval y=v) (hu:v.cells=us.toArray) (hsz:(P.info? E).map (·.size)=some us.length) (hus:us.all (·.oneCell')=true) (hl:us.length=vs.length)
 (h2:∀b w',At L0 w0 (Part.cells b us E::L) w'→w0.heap.size≤b→wpList P l.toArray Q (l.drop (n + 2)) (a1.put (some d) (.pointer (some ⟨b,0,none⟩))) w'):(Code.region id l.toArray true).wp P Q a w:=by
 simp only[Bool.and_eq_true] at hB;obtain⟨⟨⟨⟨⟨hsel,hx⟩,hfx⟩,hhead⟩,hdst⟩,hseq⟩:=hB;obtain⟨on,os,hX⟩:=ZjC hfx;have hss:n + 1 < l.length:=by simpa using(Array.getElem?_eq_some_iff.1 hX.hos).1
 have hon':l[n]? =some on:=by simpa using hX.hon
 have hos':l[n + 1]? =some os:=by simpa using hX.hos
 rw[hon'] at ho;rw[hos'] at hs;simp only[Option.map_some,Option.some.injEq,Prod.mk.injEq] at ho hs;obtain⟨hod,hop⟩:=ho;have htl:(l.take n).length=n:=by simp;omega
 have hA0:At L0 w0 (Part.fact True::L) w.drew:=hA.drew.new (Ext.refl _) (Part.fact True) trivial (fun _ e=>e.elim);let C:ZnP L0 w0 L→World→Prop:=fun R w=>At L0 w0 (R.1::L) w
 let R0:ZnP L0 w0 L:=⟨Part.fact True,w.drew,hA0⟩
 have inv0:HeadInv .any l.toArray n (Array.replicate l.toArray.size false):=
  ⟨by simp,fun j oj _ hl=>(by rw[getD_replicate_false] at hl;cases hl),fun t _ ht=>getD_in (by simpa using ht) (getD_replicate_false _ _)⟩
 have hq:ZbZ P l.toArray C (fun a'=>a'=a1) (l.take n) a:=ZcT R0 _ _ (fun R=>by
  obtain⟨R,wR,hR⟩:=R
  exact h1 R wR hR) hdst
 have H:=Zem (C:=C) (md:=.any) hsel (fun _ hun=>ZgO hx hX.waits hun) (by simp;omega) (l.take n) 0 _ a (fun j hj=>by
  have hj':j < n:=by rw[htl] at hj;exact hj
  simp[hj']) (by simpa using htl) inv0 (fun j hj=>by omega) (by rw[htl];exact hhead) hq
 refine wp_region_any hm ?_;have hdl:(l.drop (n + 2)).length=l.length - (n + 2):=by simp
 have key:=Zig (C:=C) (Q':=Q) (R0:=R0) (g:=l.length - (n + 2)) hX (Region.noSelect_spec hsel) hx (fun a w hC=>by
  have hC':At L0 w0 L w:=At.sub hC (List.sublist_cons_self _ _);have hnew:=hC'.alloc vs E;refine⟨.pointer (some ⟨w.heap.size,0,none⟩),⟨Part.cells w.heap.size vs E,_,hnew⟩,_,?_,hnew,fun w1 hw1=> ?_⟩
  · cases hq:P.info? E with
    |none=>simp[hq] at hz
    |some i=>
     have hi:i.zero=some z:=by simpa [hq] using hz
     simp[execOp,hop,Instr.alloc,zeroValue,typeInfo,hq,hi,newVar,newRow,hv,Result.andThen]
  have hb:Zaa w1 w.heap.size vs E:=At.get (A:=Part.cells w.heap.size vs E) hw1 .here;have hsto:=At.stores hw1 (b:=w.heap.size) (c:=vs) (T:=E) .here 0 us;have hset:setL vs 0 us=us:=Zma vs us hl;rw[hset] at hsto;have hvs:v.cells.size=us.length:=by rw[hu];simp
  have hrun:=Za5 (P:=P) w1 w.heap.size 0 E v (hb.there 0 _ (by omega)) (by rw[hvs];exact hsz) (by
   rw[hu,Array.all_eq_true_iff_forall_mem];intro u hu'
   exact List.all_eq_true.1 hus u (by simpa using hu'))
  rw[show v.cells.toList=us from by rw[hu]] at hrun
  have ed:(a1.put on.dst (.pointer (some ⟨w.heap.size,0,none⟩))).eval (.tmp d)=.pointer (some ⟨w.heap.size,0,none⟩):=by
   rw[hod];simp[Act.put,Act.eval,hd]
  have ey:(a1.put on.dst (.pointer (some ⟨w.heap.size,0,none⟩))).eval y=v:=by
   rw[←hy];refine Act.eval_put fun t ht e=> ?_;rw[hod] at ht;cases ht;subst e;simp at hyd
  refine⟨⟨Part.cells w.heap.size us E,_,hsto⟩,_,?_,hsto,fun w'' hw''=> ?_⟩
  · simp[execOp,hs,ed,ey,hrun,Result.andThen]
  have:=wpAny_of_seq (P:=P) (ops:=l.toArray) (md:=.any) (Q':=Q) (l.drop (n + 2)) (n + 2) (((Zbh l.toArray.size n).setIfInBounds n true).setIfInBounds (n + 1) true) (a1.put on.dst (.pointer (some ⟨w.heap.size,0,none⟩))) w'' (fun j=>by simp[List.getElem?_drop]) (by rw[hdl];exact hseq) (by
   rw[hod]
   exact h2 _ _ hw'' hC'.size)
  rwa [hdl] at this) _ _ _ _ inv0 hA0 H
 rw[htl,show n + 2 + (l.length - (n + 2))=l.toArray.size by simp;omega] at key;exact key
end
section
open Go.Maps (Keyed)
variable {P:Program} {k:TypeId} {b:Nat} {es:List (Value × Value)} {o:Oper} {a:Act} {L0 L F:List Part} {w0:World} {K:Act→Prop}
theorem ZaH {t:TypeId} {m x:Operand} (hop:o.op=.lookup t m x true) (hm:a.eval m=.map (some b)) {key:Value} (hx:a.eval x=key)
 (s:Sel (Part.map P k b es) L F) {e:TypeId} (Kd:Keyed P k) (ht:P.underlying t=some (.map k e)) {kl:Lit} (hk:keyOf P k key=some kl) (hn:∀p ∈ es,p.1≠key) {z:Value} (hz:∀w,(zeroValue e).run P w=.ok z w)
 (hK:K (a.put o.dst (.tuple #[z,.bool false]))):o.quiet P a (Cl L0 w0 L) K:=by
 refine ZbJ _ (fun w' hw=> ?_) hK;have hM:MapAt P k w' b es:=hw.get s;simp[execOp,hop,hm,hx,hM.look_none Kd ht hk hn (hz w') true,Result.andThen]
theorem ZaG {t:TypeId} {m x:Operand} (hop:o.op=.lookup t m x true) (hm:a.eval m=.map (some b)) {key:Value} (hx:a.eval x=key)
 (s:Sel (Part.map P k b es) L F) {e:TypeId} (Kd:Keyed P k) (ht:P.underlying t=some (.map k e)) {kl:Lit} (hk:keyOf P k key=some kl) {v:Value} (hn:(key,v) ∈ es)
 (hK:K (a.put o.dst (.tuple #[v,.bool true]))):o.quiet P a (Cl L0 w0 L) K:=by
 refine ZbJ _ (fun w' hw=> ?_) hK;have hM:MapAt P k w' b es:=hw.get s;simp[execOp,hop,hm,hx,hM.look_some Kd ht hk hn true,Result.andThen]
theorem ZcV {t:TypeId} {m x:Operand} (hop:o.op=.lookup t m x false) (hm:a.eval m=.map (some b)) {key:Value} (hx:a.eval x=key)
 (s:Sel (Part.map P k b es) L F) {e:TypeId} (Kd:Keyed P k) (ht:P.underlying t=some (.map k e)) {kl:Lit} (hk:keyOf P k key=some kl) {v:Value} (hn:(key,v) ∈ es)
 (hK:K (a.put o.dst v)):o.quiet P a (Cl L0 w0 L) K:=by
 refine ZbJ _ (fun w' hw=> ?_) hK;have hM:MapAt P k w' b es:=hw.get s;simp[execOp,hop,hm,hx,hM.look_some Kd ht hk hn false,Result.andThen]
end
end Go.Proofs.YtbeckijoabapkaaGreatDoor
end
namespace Go.Proofs.YtbeckijoabapkaaGreatDoor
section
namespace Attr
open Go.RowKit
attribute [-go_sem] run_eql_struct run_neq_struct run_eqGuard_agg
theorem Zdg {P:Program} {T:TypeId} {x y:Array Value} {b:Bool} {w:World} (h:(Go.Op.equalIn 10000 T (.agg x) (.agg y)).run P w=.ok b w):(binOp .eql T (.agg x) (.agg y)).run P w=.ok (.bool b) w:=by
 rw[run_eql_struct,h];rfl
theorem Ziw {P:Program} {T:TypeId} {x y:Array Value} {b:Bool} {w:World} (h:(Go.Op.equalIn 10000 T (.agg x) (.agg y)).run P w=.ok b w):(binOp .neq T (.agg x) (.agg y)).run P w=.ok (.bool (!b)) w:=by
 rw[run_neq_struct,h];rfl
theorem ZkZ (p:Prop) [Decidable p] (b:Bool) (w:World):(if p then Result.ok b w else Result.ok false w)=Result.ok (decide p&&b) w:=by
 by_cases h:p<;>simp[h]
def eqA (a b:A8):Bool:=decide (a.s=b.s)&&decide (a.d0=b.d0∧a.d1=b.d1∧a.d2=b.d2∧a.d3=b.d3∧a.d4=b.d4∧a.d5=b.d5∧a.d6=b.d6)
theorem Zb9 {a b:A8}:eqA a b=true↔a=b:=by
 obtain⟨s,d0,d1,d2,d3,d4,d5,d6⟩:=a;obtain⟨u,e0,e1,e2,e3,e4,e5,e6⟩:=b;simp[eqA]
def eq7 (d0 d1 d2 d3 d4 d5 d6 e0 e1 e2 e3 e4 e5 e6:Int):Bool:=decide (d0=e0∧d1=e1∧d2=e2∧d3=e3∧d4=e4∧d5=e5∧d6=e6)
theorem eq7g (d:Nat) (d0 d1 d2 d3 d4 d5 d6 e0 e1 e2 e3 e4 e5 e6:Int) (w:World):(Go.Op.equalIn (d + 2) 49 (.agg #[.int .i64 d0,.int .i64 d1,.int .i64 d2,.int .i64 d3,.int .i64 d4,.int .i64 d5,.int .i64 d6]) (.agg #[.int .i64 e0,.int .i64 e1,.int .i64 e2,.int .i64 e3,.int .i64 e4,.int .i64 e5,.int .i64 e6])).run Tryz.prog w=.ok (eq7 d0 d1 d2 d3 d4 d5 d6 e0 e1 e2 e3 e4 e5 e6) w:=by
 obtain⟨i,hi⟩:∃i,Tryz.prog.info? 3=some i:=by
  have h:(Tryz.prog.info? 3).isSome=true:=by kernel_rfl
  exact Option.isSome_iff_exists.1 h
 have hc:Tryz.prog.cellsOf 3=1:=by kernel_rfl
 rw[Go.run_equalIn_array _ (d + 1) _ _ Tryz.underlying49 hi,hc,show List.range 7=[0,1,2,3,4,5,6] from rfl];simp[Go.Op.eqItems,go_sem,hi,eq7];simp only[ZkZ,Bool.and_true]
theorem eq7b (d0 d1 d2 d3 d4 d5 d6 e0 e1 e2 e3 e4 e5 e6:Int) (w:World):(Go.Op.equalIn 9999 49 (.agg #[.int .i64 d0,.int .i64 d1,.int .i64 d2,.int .i64 d3,.int .i64 d4,.int .i64 d5,.int .i64 d6]) (.agg #[.int .i64 e0,.int .i64 e1,.int .i64 e2,.int .i64 e3,.int .i64 e4,.int .i64 e5,.int .i64 e6])).run Tryz.prog w=.ok (eq7 d0 d1 d2 d3 d4 d5 d6 e0 e1 e2 e3 e4 e5 e6) w:=eq7g 9997 d0 d1 d2 d3 d4 d5 d6 e0 e1 e2 e3 e4 e5 e6 w
theorem Zk7 (op:BinOp) (x y:Operand) (a b:A8) (w:World):(eqGuard op 51 x y (.agg #[.int .i64 a.s,.int .i64 a.d0,.int .i64 a.d1,.int .i64 a.d2,.int .i64 a.d3,.int .i64 a.d4,.int .i64 a.d5,.int .i64 a.d6]) (.agg #[.int .i64 b.s,.int .i64 b.d0,.int .i64 b.d1,.int .i64 b.d2,.int .i64 b.d3,.int .i64 b.d4,.int .i64 b.d5,.int .i64 b.d6])).run Tryz.prog w=.ok () w:=run_eqGuard_agg _ _ _ _ _ _ _ (by kernel_rfl)
theorem eqBg (a b:A8) (w:World):(Go.Op.equalIn 10000 51 (.agg #[.int .i64 a.s,.int .i64 a.d0,.int .i64 a.d1,.int .i64 a.d2,.int .i64 a.d3,.int .i64 a.d4,.int .i64 a.d5,.int .i64 a.d6]) (.agg #[.int .i64 b.s,.int .i64 b.d0,.int .i64 b.d1,.int .i64 b.d2,.int .i64 b.d3,.int .i64 b.d4,.int .i64 b.d5,.int .i64 b.d6])).run Tryz.prog w=.ok (eqA a b) w:=by
 rw[run_equalIn_agg _ 9999 _ _ _ (by kernel_rfl) (by kernel_rfl)];unfold eqA;have h7:=eq7b a.d0 a.d1 a.d2 a.d3 a.d4 a.d5 a.d6 b.d0 b.d1 b.d2 b.d3 b.d4 b.d5 b.d6 w;unfold eq7 at h7;generalize decide (a.d0=b.d0∧a.d1=b.d1∧a.d2=b.d2∧a.d3=b.d3∧a.d4=b.d4∧a.d5=b.d5∧a.d6=b.d6)=z at *
 by_cases hs:a.s=b.s<;>cases z<;>simp[go_sem,Go.Op.eqFields,h7,hs]
theorem ZmX (a b:A8) (w:World):(binOp .eql 51 (.agg #[.int .i64 a.s,.int .i64 a.d0,.int .i64 a.d1,.int .i64 a.d2,.int .i64 a.d3,.int .i64 a.d4,.int .i64 a.d5,.int .i64 a.d6]) (.agg #[.int .i64 b.s,.int .i64 b.d0,.int .i64 b.d1,.int .i64 b.d2,.int .i64 b.d3,.int .i64 b.d4,.int .i64 b.d5,.int .i64 b.d6])).run Tryz.prog w=.ok (.bool (eqA a b)) w:=Zdg (eqBg a b w)
theorem Zc0 (s d0 d1 d2 d3 d4 d5 d6 u e0 e1 e2 e3 e4 e5 e6:Int) (w:World):(binOp .eql 51 (.agg #[.int .i64 s,.int .i64 d0,.int .i64 d1,.int .i64 d2,.int .i64 d3,.int .i64 d4,.int .i64 d5,.int .i64 d6]) (.agg #[.int .i64 u,.int .i64 e0,.int .i64 e1,.int .i64 e2,.int .i64 e3,.int .i64 e4,.int .i64 e5,.int .i64 e6])).run Tryz.prog w=.ok (.bool (eqA ⟨s,d0,d1,d2,d3,d4,d5,d6⟩ ⟨u,e0,e1,e2,e3,e4,e5,e6⟩)) w:=Zdg (eqBg ⟨s,d0,d1,d2,d3,d4,d5,d6⟩ ⟨u,e0,e1,e2,e3,e4,e5,e6⟩ w)
theorem ZkK (s d0 d1 d2 d3 d4 d5 d6 u e0 e1 e2 e3 e4 e5 e6:Int) (w:World):(binOp .neq 51 (.agg #[.int .i64 s,.int .i64 d0,.int .i64 d1,.int .i64 d2,.int .i64 d3,.int .i64 d4,.int .i64 d5,.int .i64 d6]) (.agg #[.int .i64 u,.int .i64 e0,.int .i64 e1,.int .i64 e2,.int .i64 e3,.int .i64 e4,.int .i64 e5,.int .i64 e6])).run Tryz.prog w=.ok (.bool (!eqA ⟨s,d0,d1,d2,d3,d4,d5,d6⟩ ⟨u,e0,e1,e2,e3,e4,e5,e6⟩)) w:=Ziw (eqBg ⟨s,d0,d1,d2,d3,d4,d5,d6⟩ ⟨u,e0,e1,e2,e3,e4,e5,e6⟩ w)
theorem Zdt (op:BinOp) (x y:Operand) (c1 c2 e1 e2:Value) (w:World):(eqGuard op 33 x y (.agg #[c1,c2]) (.agg #[e1,e2])).run Tryz.prog w=.ok () w:=run_eqGuard_agg _ _ _ _ _ _ _ (by kernel_rfl)
theorem eqIg (a b c d:Int) (w:World):(Go.Op.equalIn 10000 33 (.agg #[.int .i64 a,.int .i64 b]) (.agg #[.int .i64 c,.int .i64 d])).run Tryz.prog w=.ok (decide ((a,b)=(c,d))) w:=by
 rw[run_equalIn_agg _ 9999 _ _ _ (by kernel_rfl) (by kernel_rfl)];by_cases h1:a=c<;>by_cases h2:b=d<;>simp[go_sem,Go.Op.eqFields,h1,h2]
theorem ZbA (a b c d:Int) (w:World):(binOp .eql 33 (.agg #[.int .i64 a,.int .i64 b]) (.agg #[.int .i64 c,.int .i64 d])).run Tryz.prog w=.ok (.bool (decide ((a,b)=(c,d)))) w:=Zdg (eqIg a b c d w)
theorem Zbz (a b c d:Int) (w:World):(binOp .neq 33 (.agg #[.int .i64 a,.int .i64 b]) (.agg #[.int .i64 c,.int .i64 d])).run Tryz.prog w=.ok (.bool (!decide ((a,b)=(c,d)))) w:=Ziw (eqIg a b c d w)
end Attr
end
section
section
open Go.RowKit
section
variable {P:Program}
theorem ZeD (w:World) (base:Nat) (t ty e:TypeId) (i:TypeInfo) (size:Nat) (ht:P.underlying t=some (.slice e)) (hi:P.info? e=some i)
 (v:Value) (n:Nat) (xs:List Value) (hown:w.ownsRow base e size v n xs) (c:Nat):
 (Builtin.append_ #[t,t] ty #[v,.slice none 0 c]).run P w=.ok v w:=by
 rcases hown.2 with⟨rfl,rfl⟩|⟨g,cap,cur,rfl,hbg,hg,hnc,hcm,hcs,htake⟩
 · simp[Builtin.append_,run_underlying ht,sizeOf,typeInfo,hi,Builtin.lenOf,Builtin.firstCells]
 simp[Builtin.append_,run_underlying ht,sizeOf,typeInfo,hi,Builtin.lenOf,Builtin.firstCells,hnc,storeCells]
def Reads (w:World) (x:Value) (m:Nat) (news:List Value):Prop:=
 ∃ax c,x=.slice ax m c∧(ax=none→m=0)∧∀j u,news[j]? =some u→∃b off,ax=some ⟨b,off,none⟩∧w.cell? ⟨b,off + j,none⟩=some u
theorem ZcL (w:World) (base:Nat) (t ty e:TypeId) (i:TypeInfo) (z:Value) (size bytes:Nat) (ht:P.underlying t=some (.slice e)) (hi:P.info? e=some i) (hz:i.zero=some z)
 (hsize:i.size=size) (hby:i.bytes=bytes) (hzs:z.cells.size=size) (hsz:0 < size)
 (v:Value) (n:Nat) (xs:List Value) (hown:w.ownsRow base e size v n xs)
 (x:Value) (m:Nat) (news:List Value) (hl:news.length=m * size) (hx:Reads w x m news) (h1:∀u ∈ news,u.oneCell'=true)
 (h63:n + m≤maxLen) (hbytes:(n + m) * bytes≤140737488355328) (hbase:base≤w.heap.size):
 ∃v' w',(Builtin.append_ #[t,t] ty #[v,x]).run P w=.ok v' w'∧w'.ownsRow base e size v' (n + m) (xs++news)∧w.grownBy w' v.ownBlock∧
  (v'.ownBlock=v.ownBlock∨v'.ownBlock=some w.heap.size):=by
 obtain⟨ax,c,rfl,hax,hnews⟩:=hx
 cases ax with
 |none=>
  have hm:m=0:=hax rfl;subst hm;have hn:news=[]:=List.eq_nil_of_length_eq_zero (by simpa using hl);subst hn;exact⟨v,w,ZeD w base t ty e i size ht hi v n xs hown c,by simpa using hown,⟨rfl,rfl,rfl,Nat.le_refl _,fun _ _ _=>rfl⟩,.inl rfl⟩
 |some ad=>
  obtain⟨v',w',h1,h2,h3,_,h5⟩:=run_append_own_at (P:=P) w base t ty e i z size bytes ht hi hz hsize hby hzs hsz v n xs hown ad m c news hl (fun j u hj=>by
   obtain⟨b',off',e',hc⟩:=hnews j u hj;cases e';rw[Addr.add_lit]
   exact hc) h1 h63 hbytes hbase
  exact⟨v',w',h1,h2,h3,h5⟩
theorem Zc3 (w:World) {o:Oper} {a:Act} {K:Act→World→Prop} {Q:Exit→Act→World→Prop} (s x:Operand) (t:TypeId)
 (ho:o.op=.call {callee:=.builtin .append,args:= #[s,x],argTypes:= #[t,t]})
 (base:Nat) (e:TypeId) (i:TypeInfo) (z:Value) (size bytes:Nat) (ht:P.underlying t=some (.slice e)) (hi:P.info? e=some i) (hz:i.zero=some z)
 (hsize:i.size=size) (hby:i.bytes=bytes) (hzs:z.cells.size=size) (hsz:0 < size)
 (v:Value) (n:Nat) (xs:List Value) (hs:a.eval s=v) (hown:w.ownsRow base e size v n xs)
 (xv:Value) (m:Nat) (news:List Value) (hxv:a.eval x=xv) (hl:news.length=m * size) (hx:Reads w xv m news) (h1:∀u ∈ news,u.oneCell'=true)
 (h63:n + m≤maxLen) (hbytes:(n + m) * bytes≤140737488355328) (hbase:base≤w.heap.size)
 (h:∀v' w',w'.ownsRow base e size v' (n + m) (xs++news)→w.grownBy w' v.ownBlock→(v'.ownBlock=v.ownBlock∨v'.ownBlock=some w.heap.size)→K (a.put o.dst v') w'):o.wp P a w K Q:=by
 obtain⟨v',w',hr,h2,h3,h4⟩:=ZcL (P:=P) w base t o.type e i z size bytes ht hi hz hsize hby hzs hsz v n xs hown xv m news hl hx h1 h63 hbytes hbase;unfold Oper.wp execOp;simp only[ho,resolve,invoke,builtin,Sem.run_bind,Sem.run_pure,Result.andThen_ok,List.map_toArray,List.map_cons,List.map_nil,hs,hxv,hr];exact h v' w' h2 h3 h4
theorem ZdI (w:World) {ops:Array Oper} {rest:List Oper} {o:Oper} {a:Act} {Q:Exit→Act→World→Prop} (hgd:o.guard=none) (s x:Operand) (t:TypeId)
 (ho:o.op=.call {callee:=.builtin .append,args:= #[s,x],argTypes:= #[t,t]})
 (base:Nat) (e:TypeId) (i:TypeInfo) (z:Value) (size bytes:Nat) (ht:P.underlying t=some (.slice e)) (hi:P.info? e=some i) (hz:i.zero=some z)
 (hsize:i.size=size) (hby:i.bytes=bytes) (hzs:z.cells.size=size) (hsz:0 < size)
 (v:Value) (n:Nat) (xs:List Value) (hs:a.eval s=v) (hown:w.ownsRow base e size v n xs)
 (xv:Value) (m:Nat) (news:List Value) (hxv:a.eval x=xv) (hl:news.length=m * size) (hx:Reads w xv m news) (h1:∀u ∈ news,u.oneCell'=true)
 (h63:n + m≤maxLen) (hbytes:(n + m) * bytes≤140737488355328) (hbase:base≤w.heap.size)
 (h:∀v' w',w'.ownsRow base e size v' (n + m) (xs++news)→w.grownBy w' v.ownBlock→(v'.ownBlock=v.ownBlock∨v'.ownBlock=some w.heap.size)→wpList P ops Q rest (a.put o.dst v') w'):wpList P ops Q (o::rest) a w:=
 wpList_plain hgd fun _ hK=>Zc3 w s x t ho base e i z size bytes ht hi hz hsize hby hzs hsz v n xs hs hown xv m news hxv hl hx h1 h63 hbytes hbase fun v' w' h2 h3 h4=>hK _ _ (h v' w' h2 h3 h4)
theorem Zeu (w:World) {ops:Array Oper} {o:Oper} {a:Act} {K:Act→World→Prop} {Q:Exit→Act→World→Prop} {E:Prop} (hgd:o.guard=none) (s x:Operand) (t:TypeId)
 (ho:o.op=.call {callee:=.builtin .append,args:= #[s,x],argTypes:= #[t,t]})
 (base:Nat) (e:TypeId) (i:TypeInfo) (z:Value) (size bytes:Nat) (ht:P.underlying t=some (.slice e)) (hi:P.info? e=some i) (hz:i.zero=some z)
 (hsize:i.size=size) (hby:i.bytes=bytes) (hzs:z.cells.size=size) (hsz:0 < size)
 (v:Value) (n:Nat) (xs:List Value) (hs:a.eval s=v) (hown:w.ownsRow base e size v n xs)
 (xv:Value) (m:Nat) (news:List Value) (hxv:a.eval x=xv) (hl:news.length=m * size) (hx:Reads w xv m news) (h1:∀u ∈ news,u.oneCell'=true)
 (h63:n + m≤maxLen) (hbytes:(n + m) * bytes≤140737488355328) (hbase:base≤w.heap.size)
 (h:∀v' w',w'.ownsRow base e size v' (n + m) (xs++news)→w.grownBy w' v.ownBlock→(v'.ownBlock=v.ownBlock∨v'.ownBlock=some w.heap.size)→K (a.put o.dst v') w'):
 if Region.wanted o (yielded ops a.tmps)=true then Oper.wp P o a w K Q else E:=by
 have hw:Region.wanted o (yielded ops a.tmps)=true:=by simp[Region.wanted,hgd]
 rw[if_pos hw];exact Zc3 w s x t ho base e i z size bytes ht hi hz hsize hby hzs hsz v n xs hs hown xv m news hxv hl hx h1 h63 hbytes hbase h
end
theorem ZbU {w:World} {base:Nat} {T:TypeId} {size:Nat} {v:Value} {n:Nat} {xs:List Value} (h:w.ownsRow base T size v n xs):Reads w v n xs:=by
 rcases h.2 with⟨rfl,rfl⟩|⟨g,cap,cur,rfl,_⟩
 · have:xs=[]:=List.eq_nil_of_length_eq_zero (by simpa using h.1)
   subst this;exact⟨none,0,rfl,fun _=>rfl,fun j u hj=>by simp at hj⟩
 refine⟨some ⟨g,0,none⟩,cap,rfl,nofun,fun j u hj=>⟨g,0,rfl,?_⟩⟩
 have:=h.cells (g:=g) rfl j u hj;rw[Addr.add_lit] at this;exact this
theorem Reads.ext {w w':World} {x:Value} {m:Nat} {news:List Value} (h:Reads w x m news) (e:Ext w w'):Reads w' x m news:=by
 obtain⟨ax,c,hx,ha,hn⟩:=h;refine⟨ax,c,hx,ha,fun j u hj=> ?_⟩;obtain⟨b,off,h1,h2⟩:=hn j u hj;exact⟨b,off,h1,e.cell_of h2⟩
theorem Reads.new (w:World) (c:List Value) (T:TypeId) (m cap:Nat):Reads (w.alloc (.cells c.toArray T)) (.slice (some ⟨w.heap.size,0,none⟩) m cap) m c:=by
 refine⟨_,_,rfl,nofun,fun j u hj=>⟨_,0,rfl,?_⟩⟩;rw[Nat.zero_add];exact((Zaa.alloc w c T).cell j).trans hj
theorem Zmo {w:World} {base b:Nat} {T:TypeId} {size:Nat} {v:Value} {n:Nat} {xs:List Value} (h:w.ownsRow base T size v n xs) (hb:b≤base):w.ownsRow b T size v n xs:=by
 obtain⟨h1,h2|⟨g,cap,cur,hv,hg,r⟩⟩:=h
 · exact⟨h1,.inl h2⟩
 exact⟨h1,.inr ⟨g,cap,cur,hv,Nat.le_trans hb hg,r⟩⟩
theorem own_ge {w:World} {base:Nat} {T:TypeId} {size:Nat} {v:Value} {n:Nat} {xs:List Value} (h:w.ownsRow base T size v n xs) (g:Nat) (hg:v.ownBlock=some g):base≤g:=by
 rcases h.2 with⟨rfl,_⟩|⟨q,cap,cur,rfl,hb,_⟩
 · exact nomatch hg
 cases hg;exact hb
end
end
end Go.Proofs.YtbeckijoabapkaaGreatDoor
section
namespace Go.Proofs.YtbeckijoabapkaaGreatDoor
open Go.RowKit
def Part.row (e:TypeId) (size:Nat) (v:Value) (n:Nat) (xs:List Value):Part where
 holds w:=w.ownsRow 0 e size v n xs
 foot b:=v.ownBlock=some b
 lt:=fun w h b hb=>by
  rcases h.2 with⟨rfl,_⟩|⟨g,cap,cur,rfl,_,hh,_⟩
  · exact nomatch hb
  cases hb;exact Za0 hh
 stay:=fun w w' h q=>by
  rcases h.2 with h2|⟨g,cap,cur,hv,hg,hh,r⟩
  · exact⟨h.1,.inl h2⟩
  exact⟨h.1,.inr ⟨g,cap,cur,hv,hg,(q g (by rw[hv];rfl)).trans hh,r⟩⟩
theorem Zdz (e:TypeId) (size:Nat) (v:Value) (n:Nat) (xs:List Value) (w:World):(Part.row e size v n xs).facts w=True:=rfl
theorem Zbt {w w':World} {row:Option Nat} (h:w.grownBy w' row):Exc (fun k=>row=some k) w w':=by
 obtain⟨h1,h2,h3,h4,h5⟩:=h;exact⟨h1,h2,h3,h4,fun k hk hn=>h5 k hk (fun e=>hn e.symm)⟩
section
variable {P:Program} {ops:Array Oper} {rest:List Oper} {o:Oper} {a:Act} {Q:Exit→Act→World→Prop} {L0 L F:List Part} {w0 w:World} {e:TypeId} {size n:Nat} {v:Value} {xs:List Value}
theorem At.row_form (h:At L0 w0 L w) (s:Sel (Part.row e size v n xs) L F):∃ax cap,v=.slice ax n cap∧(ax=none→n=0)∧n≤cap∧xs.length=n * size:=by
 have hr:w.ownsRow 0 e size v n xs:=h.get s;rcases hr.2 with⟨rfl,rfl⟩|⟨g,cap,cur,rfl,_,_,hc,_⟩
 · exact⟨none,0,rfl,fun _=>rfl,Nat.le_refl _,hr.1⟩
 exact⟨_,cap,rfl,nofun,hc,hr.1⟩
theorem At.row_open {ax:Option Addr} {cap:Nat} (h:At L0 w0 L w) (s:Sel (Part.row e size (.slice ax n cap) n xs) L F) (hn:0 < n):
 ∃g c,ax=some ⟨g,0,none⟩∧n≤cap∧cap≤maxLen∧c.length=cap * size∧c.take (n * size)=xs∧At L0 w0 (Part.cells g c e::F) w:=by
 have hr:w.ownsRow 0 e size (.slice ax n cap) n xs:=h.get s;rcases hr.2 with⟨hv,rfl⟩|⟨g,cap',cur,hv,_,hh,hc,hm,hs,ht⟩
 · omega
 cases hv;exact⟨g,cur.toList,rfl,hc,hm,by simpa using hs,ht,h.turn s (Part.cells g cur.toList e) (show Zaa w g _ e from(by unfold Zaa;simpa using hh)) (fun b hb=>.inl (by cases hb;rfl)) (Exc.refl _ _)⟩
theorem At.row_shut {g cap:Nat} {c:List Value} (h:At L0 w0 L w) (s:Sel (Part.cells g c e) L F) (hl:c.length=cap * size) (hn:n≤cap) (hm:cap≤maxLen) (ht:c.take (n * size)=xs):
 At L0 w0 (Part.row e size (.slice (some ⟨g,0,none⟩) n cap) n xs::F) w:=by
 subst ht;exact h.turn s (Part.row e size (.slice (some ⟨g,0,none⟩) n cap) n (c.take (n * size))) (own_of (h.get s:Zaa w g c e) hl hn hm) (fun b hb=>.inl (by simp[Part.row,Value.ownBlock] at hb;exact hb.symm)) (Exc.refl _ _)
theorem At.row_nil (h:At L0 w0 L w) (e:TypeId) (size:Nat):At L0 w0 (Part.row e size (.slice none 0 0) 0 []::L) w:=
 h.new (Ext.refl w) _ ⟨by simp,.inl ⟨rfl,rfl⟩⟩ (fun b hb=>nomatch hb)
theorem At.row_new {w':World} (h:At L0 w0 L w) (hx:Ext w w') (ho:w'.ownsRow w.heap.size e size v n xs):At L0 w0 (Part.row e size v n xs::L) w':=
 h.new hx _ (Zmo ho (Nat.zero_le _)) (fun b hb=>own_ge ho b hb)
theorem At.row_reads (h:At L0 w0 L w) (s:Sel (Part.row e size v n xs) L F):Reads w v n xs:=ZbU (h.get s:w.ownsRow 0 e size v n xs)
theorem At.cells_reads {b:Nat} {c:List Value} {T:TypeId} (h:At L0 w0 L w) (s:Sel (Part.cells b c T) L F) (m cap:Nat):Reads w (.slice (some ⟨b,0,none⟩) m cap) m c:=
 ⟨_,_,rfl,nofun,fun j u hj=>⟨b,0,rfl,by rw[Nat.zero_add];exact((h.get s:Zaa w b c T).cell j).trans hj⟩⟩
theorem ZcZ {α:Type} (enc:α→List Value) (size:Nat) (hs:∀x,(enc x).length=size):∀(l:List α) (k:Nat) (x:α),l[k]? =some x→∀j,j < size→(l.flatMap enc)[k * size + j]? =(enc x)[j]?
 |y::l,0,x,hx,j,hj=>by
  simp at hx;subst hx
  rw[List.flatMap_cons,Nat.zero_mul,Nat.zero_add,List.getElem?_append_left (by rw[hs];exact hj)]
 |y::l,k + 1,x,hx,j,hj=>by
  rw[List.flatMap_cons,List.getElem?_append_right (by rw[hs,Nat.add_mul];omega),hs,show(k + 1) * size + j - size=k * size + j by rw[Nat.add_mul];omega];exact ZcZ enc size hs l k x (by simpa using hx) j hj
 |[],k,x,hx,j,hj=>by simp at hx
theorem Zbl {α:Type} (enc:α→List Value) (size:Nat) (hs:∀x,(enc x).length=size):∀(l:List α),(l.flatMap enc).length=l.length * size
 |[]=>by simp
 |x::l=>by rw[List.flatMap_cons,List.length_append,Zbl enc size hs l,hs,List.length_cons,Nat.add_mul];omega
theorem Zaq {α:Type} {enc:α→List Value} {size:Nat} (hs:∀x,(enc x).length=size) {c:List Value} {l:List α} (ht:c.take (l.length * size)=l.flatMap enc) {k:Nat} {x:α} (hx:l[k]? =some x) (j:Nat) (hj:j < size):c[k * size + j]? =(enc x)[j]? :=by
 rw[←ZcZ enc size hs l k x hx j hj,←ht,List.getElem?_take_of_lt];have:=(List.getElem?_eq_some_iff.1 hx).1
 calc k * size + j < k * size + size:=by omega
  _=(k + 1) * size:=by rw[Nat.add_mul];omega
  _≤_:=Nat.mul_le_mul_right _ this
theorem Zal {i:TypeInfo} {z:Value} {bytes:Nat} (hg:o.guard=none) (s' x:Operand) (t:TypeId) (ho:o.op=.call {callee:=.builtin .append,args:= #[s',x],argTypes:= #[t,t]})
 (ht:P.underlying t=some (.slice e)) (hi:P.info? e=some i) (hz:i.zero=some z) (hsize:i.size=size) (hby:i.bytes=bytes) (hzs:z.cells.size=size) (hsz:0 < size)
 (h:At L0 w0 L w) (s:Sel (Part.row e size v n xs) L F) (hs:a.eval s'=v) {xv:Value} {m:Nat} {news:List Value} (hxv:a.eval x=xv) (hl:news.length=m * size) (hx:Reads w xv m news) (h1:∀u ∈ news,u.oneCell'=true)
 (h63:n + m≤maxLen) (hbytes:(n + m) * bytes≤140737488355328)
 (hK:∀v' w',At L0 w0 (Part.row e size v' (n + m) (xs++news)::F) w'→wpList P ops Q rest (a.put o.dst v') w'):wpList P ops Q (o::rest) a w:=
 ZdI w hg s' x t ho 0 e i z size bytes ht hi hz hsize hby hzs hsz v n xs hs (h.get s) xv m news hxv hl hx h1 h63 hbytes (Nat.zero_le _) fun v' w' h2 h3 h4=>
  hK v' w' (h.turn s _ h2 (fun b hb=>by
   rcases h4 with h4|h4
   · exact .inl (show v.ownBlock=some b from by rw[←h4];exact hb)
   right
   have hb':v'.ownBlock=some b:=hb;rw[h4] at hb';cases hb'
   exact Nat.le_refl _) (Zbt h3))
theorem ZaO {t:TypeId} {x:Operand} (hg:o.guard=none) (hop:o.op=.buildSlice t 1 #[(0,x)]) {xv:Value} (hx:a.eval x=xv) {vs:List Value}
 (hrun:∀w,(Instr.buildSlice t 1 #[(0,xv)]).run P w=.ok (.slice (some ⟨w.heap.size,0,none⟩) 1 1) (w.alloc (.cells vs.toArray e)))
 (h:At L0 w0 L w)
 (hK:∀b w',At L0 w0 (Part.cells b vs e::L) w'→w0.heap.size≤b→wpList P ops Q rest (a.put o.dst (.slice (some ⟨b,0,none⟩) 1 1)) w'):wpList P ops Q (o::rest) a w:=by
 refine Zah hg ?_ (hK _ _ (h.alloc vs e) h.size);simp[execOp,hop,hx,hrun,Result.andThen]
end
end Go.Proofs.YtbeckijoabapkaaGreatDoor
end
section
namespace Go.Proofs.YtbeckijoabapkaaGreatDoor
open Go
theorem uZ:type_of% @uA∧type_of% fA∧type_of% @Zdz∧(∀p:Prop,(p∧True)=p)∧(∀p:Prop,(True∧p)=p):=⟨@uA,fA,@Zdz,and_true,true_and⟩
end Go.Proofs.YtbeckijoabapkaaGreatDoor
section
namespace Go
open _root_.Go.Proofs.YtbeckijoabapkaaGreatDoor
open Go.RowKit
theorem fZ {L0 L:List Part} {w0 w:World} {X Y:Prop} (h:At L0 w0 L w) (s:At L0 w0 L w→Facts L w→X∧Y:=by intro hA hF;(try simp only[uZ] at hA hF);exact⟨hA,hF⟩):X∧Y:=s h h.facts
theorem wCz {X Y:Nat→World→Prop} {P:Program} {ops:Array Oper} {rest:List Oper} {o:Oper} {a:Act} {Q:Exit→Act→World→Prop} {L0 L:List Part} {w0 w:World} {E:TypeId} {x:Operand} {v:Value} {vs:List Value} (h:At L0 w0 L w) (hK:∀b w',X b w'→w0.heap.size≤b→Y b w'→wpList P ops Q rest (a.put o.dst (.pointer (some ⟨b,0,none⟩))) w') (hg:o.guard=none:=by exact rfl) (hop:o.op=.box E x:=by exact rfl) (hx:a.eval x=v:=by(try simp only[Act.eval,eV])<;>exact rfl) (hv:v.cells=vs.toArray:=by exact rfl) (sq:∀b w',At L0 w0 (Part.cells b vs E::L) w'→Facts (Part.cells b vs E::L) w'→X b w'∧Y b w':=by intro b w' hA hF;(try simp only[uZ] at hA hF);exact⟨hA,hF⟩):wpList P ops Q (o::rest) a w:=wC h (fun b w' p q r=>(sq b w' p r).elim fun x y=>hK b w' x q y) hg hop hx hv
theorem wGz {X Y:Nat→World→Prop} {P:Program} {ops:Array Oper} {rest:List Oper} {o:Oper} {a:Act} {Q:Exit→Act→World→Prop} {L0 L:List Part} {w0 w:World} (E:TypeId) (vs:List Value) (h:At L0 w0 L w) (hK:∀b w',X b w'→w0.heap.size≤b→Y b w'→wpList P ops Q rest (a.put o.dst (.pointer (some ⟨b,0,none⟩))) w') (hg:o.guard=none:=by exact rfl) (hop:o.op=.alloc E:=by exact rfl) (hz:(P.info? E).map (·.zero)=some (some (.agg vs.toArray)):=by kernel_rfl) (sq:∀b w',At L0 w0 (Part.cells b vs E::L) w'→Facts (Part.cells b vs E::L) w'→X b w'∧Y b w':=by intro b w' hA hF;(try simp only[uZ] at hA hF);exact⟨hA,hF⟩):wpList P ops Q (o::rest) a w:=wG E vs h (fun b w' p q r=>(sq b w' p r).elim fun x y=>hK b w' x q y) hg hop hz
theorem wHz {X Y:Nat→World→Prop} {P:Program} {ops:Array Oper} {rest:List Oper} {o:Oper} {a:Act} {Q:Exit→Act→World→Prop} {L0 L:List Part} {w0 w:World} (E:TypeId) (vs:List Value) {x:Operand} (h:At L0 w0 L w) (hK:∀b w',X b w'→w0.heap.size≤b→Y b w'→wpList P ops Q rest (a.put o.dst (.pointer (some ⟨b,0,none⟩))) w') (hg:o.guard=none:=by exact rfl) (hop:o.op=.box E x:=by exact rfl) (hx:a.eval x=.agg vs.toArray:=by first|(simp[Act.eval,Act.put];done)|exact rfl) (sq:∀b w',At L0 w0 (Part.cells b vs E::L) w'→Facts (Part.cells b vs E::L) w'→X b w'∧Y b w':=by intro b w' hA hF;(try simp only[uZ] at hA hF);exact⟨hA,hF⟩):wpList P ops Q (o::rest) a w:=wH E vs h (fun b w' p q r=>(sq b w' p r).elim fun x y=>hK b w' x q y) hg hop hx
theorem wTz {X Y:World→Prop} {P:Program} {ops:Array Oper} {rest:List Oper} {o:Oper} {a:Act} {Q:Exit→Act→World→Prop} {L0 L F:List Part} {w0 w:World} {ty:TypeId} {x y:Operand} {b j:Nat} {v:Value} {vs c:List Value} {T:TypeId} (h:At L0 w0 L w) (hK:∀w',X w'→Y w'→wpList P ops Q rest (a.put o.dst undef) w') (hg:o.guard=none:=by exact rfl) (hop:o.op=.store ty x y:=by exact rfl) (hx:a.eval x=.pointer (some ⟨b,j,none⟩):=by exact rfl) (hy:a.eval y=v:=by(try simp only[Act.eval,eV])<;>exact rfl) (hv:v.cells=vs.toArray:=by exact rfl) (s:Sel (Part.cells b c T) L F:=by with_reducible repeat(first|exact Sel.here|apply Sel.there)) (hi:(P.info? ty).map (·.size)=some vs.length:=by kernel_rfl) (h1:vs.all (·.oneCell')=true:=by exact rfl) (hj:j + vs.length≤c.length:=by first|decide|(simp;done)|omega) (sq:∀w',At L0 w0 (Part.cells b (setL c j vs) T::F) w'→Facts (Part.cells b (setL c j vs) T::F) w'→X w'∧Y w':=by intro w' hA hF;(try simp only[uZ] at hA hF);exact⟨hA,hF⟩):wpList P ops Q (o::rest) a w:=wT h (fun w' p r=>(sq w' p r).elim fun x y=>hK w' x y) hg hop hx hy hv s hi h1 hj
theorem g3 {X Y P ops rest o a Q L0 L w0 w}:type_of%(@wGz X Y P ops rest o a Q L0 L w0 w 33 [.int .i64 0,.int .i64 0]):=@wGz _ _ _ _ _ _ _ _ _ _ _ _ _ _
theorem g8 {X Y P ops rest o a Q L0 L w0 w}:type_of%(@wGz X Y P ops rest o a Q L0 L w0 w 53 [.int .i64 0,.int .i64 0,.int .i64 0,.int .u32 0,.int .u32 0,.bool false,.int .i64 0,.int .u64 0,.string .empty,.int .u64 0,.string .empty,.int .i64 0,.int .u64 0,.int .i64 0,.int .i64 0,.int .i64 0,.int .i64 0,.int .i64 0,.int .i64 0,.int .i64 0,.int .i64 0,.int .i64 0]):=@wGz _ _ _ _ _ _ _ _ _ _ _ _ _ _
theorem g9 {X Y P ops rest o a Q L0 L w0 w}:type_of%(@wGz X Y P ops rest o a Q L0 L w0 w 131 [.int .i64 0,.int .i64 0,.slice none 0 0,.int .i64 0,.int .i64 0,.bool false,.int .i64 0]):=@wGz _ _ _ _ _ _ _ _ _ _ _ _ _ _
theorem g10 {X Y P ops rest o a Q L0 L w0 w}:type_of%(@wGz X Y P ops rest o a Q L0 L w0 w 42 [.int .i64 0,.int .i64 0,.int .i64 0,.int .u64 0,.string .empty,.int .u64 0,.string .empty,.int .i64 0,.int .u64 0,.int .i64 0,.int .i64 0,.int .u64 0,.bool false]):=@wGz _ _ _ _ _ _ _ _ _ _ _ _ _ _
end Go
end
end
