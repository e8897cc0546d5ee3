import Derived.Test.YtknoefbcmomalaaGreatDoorP2
set_option linter.unusedSimpArgs false
set_option linter.unusedVariables false
set_option maxRecDepth 100000
set_option maxHeartbeats 16000000
section
namespace Go
section
variable {P:Program} {ops:Array Oper} {md:Region.Mode} {C:Bool→World→Prop} {k:Nat}
def Zcy (md:Region.Mode) (ops:Array Oper) (k:Nat):Nat→Nat→Bool
 |0,_=>false
 |f + 1,i=>match ops[i]? with
  |some o=>o.after.any fun e=>Region.binds md e&&(e.on==k || Zcy md ops k f e.on)
  |none=>false
def leg (md:Region.Mode) (ops:Array Oper) (k i:Nat) (c c':Bool):Prop:=
 if i=k then c=false∧c'=true else if Zcy md ops k ops.size i=true then c=true∧c'=true else c=c'
def Oper.turnUpon (P:Program) (C:World→Prop) (w:World) (v:Value):Result Next→Prop
 |.ok (.value u) w'=>w'=w∧u=v∧C w
 |.ok .skip w'=>w'=w∧v=undef∧C w
 |.ok (.enter f args) w'=>w'=w∧Calls P f args w (fun e w''=>e=.returned v∧C w'')
 |_=>False
def Oper.turnAt (P:Program) (o:Oper) (a:Act) (C:World→Prop) (w:World) (v:Value):Prop:=Oper.turnUpon P C w v ((execOp a.eval o).run P w)
def Oper.quietL (P:Program) (o:Oper) (a:Act) (C:Bool→World→Prop) (R:Bool→Bool→Prop) (next:Act→Prop):Prop:=
 ∃v,(∀c c',R c c'→∀w,C c w→o.turnAt P a (C c') w v)∧next (a.put o.dst v)
def ZaM (P:Program) (md:Region.Mode) (ops:Array Oper) (C:Bool→World→Prop) (k:Nat) (Q:Act→Prop):Nat→List Oper→Act→Prop
 |_,[],a=>Q a
 |n,o::rest,a=>if Region.wanted o (yielded ops a.tmps) then o.quietL P a C (leg md ops k n) (ZaM P md ops C k Q (n + 1) rest) else n≠k∧ZaM P md ops C k Q (n + 1) rest (a.put o.dst undef)
theorem Zf0 {Q:Act→Prop} {n:Nat} {a:Act} (h:Q a):ZaM P md ops C k Q n [] a:=h
theorem Zbw {Q:Act→Prop} {n:Nat} {a:Act} {o:Oper} {rest:List Oper}
 (h:∀K:Act→Prop,(∀a,ZaM P md ops C k Q (n + 1) rest a→K a)→if Region.wanted o (yielded ops a.tmps) then o.quietL P a C (leg md ops k n) K else n≠k∧K (a.put o.dst undef)):ZaM P md ops C k Q n (o::rest) a:=h _ (fun _ h=>h)
def qOpL (P:Program) (md:Region.Mode) (ops:Array Oper) (C:Bool→World→Prop) (k i:Nat) (K:Act→Prop) (a:Act):Prop:=
 match ops[i]? with
 |none=>i≠k∧K a
 |some o=>if Region.wanted o (yielded ops a.tmps) then o.quietL P a C (leg md ops k i) K else i≠k∧K (a.put o.dst undef)
theorem Oper.quietL_mono {o:Oper} {a:Act} {R:Bool→Bool→Prop} {K K':Act→Prop} (h:∀a,K a→K' a) (hh:o.quietL P a C R K):o.quietL P a C R K':=
 let ⟨v,h1,h2⟩:=hh
 ⟨v,h1,h _ h2⟩
theorem Zj0 {i:Nat} {a:Act} {K K':Act→Prop} (h:∀a,K a→K' a) (hh:qOpL P md ops C k i K a):qOpL P md ops C k i K' a:=by
 unfold qOpL at *
 split
 · rename_i ho;simp only[ho] at hh;exact⟨hh.1,h _ hh.2⟩
 rename_i o ho;simp only[ho] at hh;split
 · rename_i hw;simp only[hw,if_true] at hh;exact Oper.quietL_mono h hh
 rename_i hw;simp only[hw] at hh;exact⟨hh.1,h _ hh.2⟩
def Zbt (P:Program) (md:Region.Mode) (ops:Array Oper) (C:Bool→World→Prop) (k i:Nat) (o:Oper) (v:Value) (a:Act):Prop:=
 (Region.wanted o (yielded ops a.tmps)=true∧∀c c',leg md ops k i c c'→∀w,C c w→o.turnAt P a (C c') w v)∨
 (Region.wanted o (yielded ops a.tmps)=false∧i≠k∧v=undef)
theorem Zbt.qOp {i:Nat} {o:Oper} {v:Value} {a:Act} (hi:ops[i]? =some o) (hy:Zbt P md ops C k i o v a) {K:Act→Prop} (h:K (a.put o.dst v)):qOpL P md ops C k i K a:=by
 unfold qOpL;simp only[hi];rcases hy with⟨hw,hv⟩|⟨hw,hik,rfl⟩
 · simp only[hw,if_true];exact⟨v,hv,h⟩
 simp only[hw,Bool.false_eq_true,if_false];exact⟨hik,h⟩
theorem Zbt.of_same {i:Nat} {o:Oper} {v:Value} {a a':Act} (hy:Zbt P md ops C k i o v a) (he:execOp a'.eval o=execOp a.eval o)
 (hw:Region.wanted o (yielded ops a'.tmps)=Region.wanted o (yielded ops a.tmps)):Zbt P md ops C k i o v a':=by
 unfold Zbt Oper.turnAt at *
 rw[he,hw];exact hy
theorem Zeo {i:Nat} {o:Oper} {a:Act} {K:Act→Prop} (hi:ops[i]? =some o) (h:qOpL P md ops C k i K a):∃v,Zbt P md ops C k i o v a∧K (a.put o.dst v):=by
 unfold qOpL at h;simp only[hi] at h;by_cases hw:Region.wanted o (yielded ops a.tmps)=true
 · simp only[hw,if_true] at h;obtain⟨v,h1,h2⟩:=h;exact⟨v,.inl ⟨hw,h1⟩,h2⟩
 simp only[hw] at h;exact⟨undef,.inr ⟨by simpa using hw,h.1,rfl⟩,h.2⟩
theorem ZlY {i j:Nat} {oi oj:Oper} {v:Value} (hj:ops[j]? =some oj) (hap:oi.apart ops oj=true)
 (hsi:∀cs b,oi.op≠.select cs b) (hsj:∀cs b,oj.op≠.select cs b) {K:Act→Prop} {a:Act}
 (hy:Zbt P md ops C k i oi v a) (h:qOpL P md ops C k j K (a.put oi.dst v)):
 qOpL P md ops C k j (fun a'=>Zbt P md ops C k i oi v a'∧K (a'.put oi.dst v)) a:=by
 obtain⟨h1,h2,h3⟩:=Oper.apart_spec hap
 have keep:∀(a:Act),Zbt P md ops C k i oi v a→∀u,Zbt P md ops C k i oi v (a.put oj.dst u):=fun a hy u=>
  hy.of_same (execOp_put oi hsi a oj.dst u h3) (wanted_put oi a oj.dst u h3)
 unfold qOpL at *
 simp only[hj] at *
 rw[wanted_put oj a oi.dst v h1] at h;split
 · rename_i hw;simp only[hw,if_true] at h;obtain⟨u,hu,hn⟩:=h;refine⟨u,fun c c' hR w hw'=> ?_,keep a hy u,by rw[←Act.put_comm a v u h2];exact hn⟩;have:=hu c c' hR w hw';unfold Oper.turnAt at *
   rwa [execOp_put oj hsj a oi.dst v h1] at this
 rename_i hw;simp only[hw] at h;exact⟨h.1,keep a hy _,by rw[←Act.put_comm a v undef h2];exact h.2⟩
theorem Zdq {n:Nat} {listed:Array Bool} (inv:HeadInv md ops n listed):∀(f i:Nat),Zcy md ops k f i=true→listed.getD i false=true→listed.getD k false=true
 |0,_,h,_=>by simp[Zcy] at h
 |f + 1,i,h,hi=>by
  unfold Zcy at h;split at h
  · rename_i o ho;obtain⟨e,he,hb⟩:=Array.any_eq_true'.1 h;simp only[Bool.and_eq_true,Bool.or_eq_true,beq_iff_eq] at hb;have hl:=inv.closed i o ho hi e he hb.1;rcases hb.2 with hk|hk
    · rw[←hk];exact hl
    exact Zdq inv f e.on hk hl
  exact absurd h (by simp)
theorem Zg4 {n:Nat} {listed:Array Bool} (inv:HeadInv md ops n listed) {i:Nat} (hr:i ∈ Region.ready md ops listed):∀(f:Nat),Zcy md ops k f i=true→listed.getD k false=true
 |0,h=>by simp[Zcy] at h
 |f + 1,h=>by
  obtain⟨_,oi,hoi,hall⟩:=mem_ready.1 hr;unfold Zcy at h;simp only[hoi] at h;obtain⟨e,he,hb⟩:=Array.any_eq_true'.1 h;simp only[Bool.and_eq_true,Bool.or_eq_true,beq_iff_eq] at hb;have hl:=hall e he hb.1;rcases hb.2 with hk|hk
  · rw[←hk];exact hl
  exact Zdq inv f e.on hk hl
def ZdS (P:Program) (md:Region.Mode) (ops:Array Oper) (C:Bool→World→Prop) (k n:Nat) (L:Array Bool→Act→Prop):Nat→Array Bool→Act→Prop
 |0,listed,a=>L listed a
 |f + 1,listed,a=>
  Region.ready md ops listed≠[]∧∀i ∈ Region.ready md ops listed,i < n∧qOpL P md ops C k i (ZdS P md ops C k n L f (listed.setIfInBounds i true)) a
theorem Oper.wp_of_quietL {o:Oper} {a:Act} {R:Bool→Bool→Prop} {K:Act→Prop} {K':Act→World→Prop} {Q':Exit→Act→World→Prop} {w:World} {c c':Bool} (hR:R c c') (hw:C c w) (h:∀a w',C c' w'→K a→K' a w') (hh:o.quietL P a C R K):o.wp P a w K' Q':=by
 obtain⟨v,h1,h2⟩:=hh;have h3:=h1 c c' hR w hw;unfold Oper.turnAt at h3;unfold Oper.wp;generalize (execOp a.eval o).run P w=r at *
 cases r with
 |ok n w'=>
  cases n<;>simp only[Oper.turnUpon] at h3<;>simp only[Oper.upon]
  case value u=>
   obtain⟨e1,e2,e3⟩:=h3;rw[e1,e2];exact h _ _ e3 h2
  case skip=>
   obtain⟨e1,e2,e3⟩:=h3;rw[e1,←e2];exact h _ _ e3 h2
  case enter f args=>
   obtain⟨e1,hc⟩:=h3;rw[e1];exact hc.mono fun e w'' ⟨he,hw''⟩=>by subst he;exact h _ _ hw'' h2
 |halt x w'=>simp only[Oper.turnUpon] at h3
theorem Zf1 {n i:Nat} {listed:Array Bool} (inv:HeadInv md ops n listed) (hr:i ∈ Region.ready md ops listed) {a:Act} {K:Act→Prop} {K':Act→World→Prop} {Q':Exit→Act→World→Prop} {w:World} (hC:C (listed.getD k false) w)
 (h:∀a w',C ((listed.setIfInBounds i true).getD k false) w'→K a→K' a w') (hh:qOpL P md ops C k i K a):wpOp P ops Q' i K' a w:=by
 have hun:=(mem_ready.1 hr).1
 have his:i < listed.size:=by
  rcases Nat.lt_or_ge i listed.size with q|q
  · exact q
  rw[Array.getD_eq_getD_getElem?,Array.getElem?_eq_none q] at hun;cases hun
 have key:i≠k→(listed.setIfInBounds i true).getD k false=listed.getD k false:=fun hne=>getD_set_ne false hne;unfold qOpL at hh;unfold wpOp;split
 · rename_i ho;simp only[ho] at hh;exact h _ _ (by rw[key hh.1];exact hC) hh.2
 rename_i o ho;simp only[ho] at hh;split
 · rename_i hw;simp only[hw,if_true] at hh;refine .inl (Oper.wp_of_quietL (c:=listed.getD k false) (c':=(listed.setIfInBounds i true).getD k false) ?_ hC h hh);unfold leg;by_cases hik:i=k
   · subst hik;rw[if_pos rfl];exact⟨getD_both hun,by simp[his]⟩
   rw[if_neg hik,key hik];by_cases hwt:Zcy md ops k ops.size i=true
   · rw[if_pos hwt];have:=Zg4 inv hr _ hwt;exact⟨this,this⟩
   rw[if_neg hwt]
 rename_i hw;simp only[hw] at hh;exact h _ _ (by rw[key hh.1];exact hC) hh.2
theorem Zcx {n g:Nat} {L:Array Bool→Act→Prop} {Q':Exit→Act→World→Prop} (hL:∀listed a w,C (listed.getD k false) w→L listed a→wpAny P md ops Q' g listed a w):
 ∀(f:Nat) (listed:Array Bool) (a:Act) (w:World),HeadInv md ops n listed→C (listed.getD k false) w→ZdS P md ops C k n L f listed a→wpAny P md ops Q' (f + g) listed a w
 |0,listed,a,w,_,hw,h=>by rw[Nat.zero_add];exact hL _ _ _ hw h
 |f + 1,listed,a,w,inv,hw,h=>by
  rw[show f + 1 + g=(f + g) + 1 by omega];exact⟨fun h0=>absurd h0 h.1,fun i hi=>Zf1 inv hi hw (fun a' w' hw' h'=>Zcx hL f _ a' w' (inv.set hi (h.2 i hi).1) hw' h') (h.2 i hi).2⟩
theorem Zfa {n i:Nat} {oi:Oper} {v:Value} {L:Array Bool→Act→Prop} (hi:ops[i]? =some oi) (hsel:∀(j:Nat) (o:Oper) cs b,ops[j]? =some o→o.op≠.select cs b)
 (hs:Region.sinkB md ops n=true) (hc:Region.chainB md ops n=true) (hn:n < ops.size) (hin:i < n)
 (hdone:∀listed a,L listed a→∀j ∈ Region.ready md ops listed,n≤j):
 ∀(f:Nat) (listed:Array Bool) (a:Act),HeadInv md ops n listed→
  (∀j oj,ops[j]? =some oj→j≠i→listed.getD j true=false→(∀e ∈ oj.after,Region.binds md e=true→e.on≠i)→oi.apart ops oj=true)→
  i ∈ Region.ready md ops listed→Zbt P md ops C k i oi v a→
  ZdS P md ops C k n L f (listed.setIfInBounds i true) (a.put oi.dst v)→ZdS P md ops C k n L (f + 1) listed a:=by
 intro f
 induction f with
 |zero=>
  intro listed a inv _ hr hy H;have hun:=(mem_ready.1 hr).1;refine⟨fun h=>(by rw[h] at hr;cases hr),fun j hj=> ?_⟩
  have hjn:j < n:=by
   rcases Nat.lt_or_ge j n with h|h
   · exact h
   exact absurd hj (tail_waits hs hc hn inv _ i rfl hin hun j h)
  refine⟨hjn,?_⟩
  by_cases hji:j=i
  · subst hji;exact hy.qOp hi H
  have:=hdone _ _ H j (ready_mono hj hji)
  omega
 |succ f ih=>
  intro listed a inv hfree hr hy H;have hun:=(mem_ready.1 hr).1;refine⟨fun h=>(by rw[h] at hr;cases hr),fun j hj=> ?_⟩
  have hjn:j < n:=by
   rcases Nat.lt_or_ge j n with h|h
   · exact h
   exact absurd hj (tail_waits hs hc hn inv _ i rfl hin hun j h)
  refine⟨hjn,?_⟩
  by_cases hji:j=i
  · subst hji;exact hy.qOp hi H
  have h1:=(H.2 j (ready_mono hj hji)).2;obtain⟨hjun,oj,hoj,hall⟩:=mem_ready.1 hj
  have hnot:∀e ∈ oj.after,Region.binds md e=true→e.on≠i:=fun e he hb heq=>by
   have h1:=hall e he hb;rw[heq,getD_both hun] at h1;cases h1
  have h2:=ZlY (i:=i) hoj (hfree j oj hoj hji hjun hnot) (fun cs b=>hsel i oi cs b hi) (fun cs b=>hsel j oj cs b hoj) hy h1
  have hfree':∀t ot,ops[t]? =some ot→t≠i→(listed.setIfInBounds j true).getD t true=false→
   (∀e ∈ ot.after,Region.binds md e=true→e.on≠i)→oi.apart ops ot=true:=fun t ot ht hti hun hno=>by
   refine hfree t ot ht hti ?_ hno;by_cases hjt:j=t
   · subst hjt;exact hjun
   rw[getD_set_ne true hjt] at hun;exact hun
  refine Zj0 (fun a' h3=>ih (listed.setIfInBounds j true) a' (inv.set hj hjn) hfree' (ready_mono hr (Ne.symm hji)) h3.1 ?_) h2;rw[Array.setIfInBounds_comm _ _ hji];exact h3.2
theorem ZdR {n g:Nat} {Lq:Act→Prop} (hsel:Region.noSelect ops=true) (hs:Region.sinkB md ops n=true) (hc:Region.chainB md ops n=true) (hn:n < ops.size) (hkn:k < n):
 ∀(l:List Oper) (t:Nat) (listed:Array Bool) (a:Act),(∀j,j < l.length→l[j]? =ops[t + j]?)→t + l.length=n→HeadInv md ops n listed→(∀j,j < t→listed.getD j false=true)→
 Region.lexHead md ops g l.length t listed=true→ZaM P md ops C k Lq t l a→
 ZdS P md ops C k n (fun listed' a'=>Region.seqB md ops g n listed'=true∧listed'.getD k false=true∧Lq a') l.length listed a
 |[],t,listed,a,_,ht,_,hd,hB,h=>by
  have:t=n:=by simpa using ht
  subst this;exact⟨by simpa [Region.lexHead] using hB,hd k hkn,h⟩
 |o::l,t,listed,a,hl,ht,inv,hd,hB,h=>by
  have h0:ops[t]? =some o:=by simpa using(hl 0 (by simp)).symm
  simp only[List.length_cons,Region.lexHead,Bool.and_eq_true] at hB;obtain⟨⟨hr,hf⟩,hB'⟩:=hB;have htn:t < n:=by simp only[List.length_cons] at ht;omega
  have hr':t ∈ Region.ready md ops listed:=by simpa using hr
  have hst:qOpL P md ops C k t (ZaM P md ops C k Lq (t + 1) l) a:=by unfold qOpL;simp only[h0];exact h
  obtain⟨v,hy,hK⟩:=Zeo h0 hst;have hts:t < listed.size:=by rw[inv.size];omega
  exact Zfa h0 (Region.noSelect_spec hsel) hs hc hn htn (fun listed' a' hL=>seqB_ready hL.1) l.length listed a inv (Region.free_spec h0 hf) hr' hy
   (ZdR hsel hs hc hn hkn l (t + 1) _ _ (fun j hj=>by have:=hl (j + 1) (by simp;omega);simpa [Nat.add_assoc,Nat.add_comm 1 j] using this) (by simp only[List.length_cons] at ht;omega) (inv.set hr' htn)
     (fun j hj=>by
       by_cases hjt:j=t
       · subst hjt;simp[hts]
       rw[getD_set_ne false (Ne.symm hjt)];exact hd j (by omega)) hB' hK)
theorem Zeq {id:Nat} {Q:Exit→Act→World→Prop} {a:Act} {w:World} {l:List Oper} (n k:Nat) (C:Bool→World→Prop) (hm:P.follows .mixedOrders=true) (hB:Region.lexTailB .any l.toArray n=true) (hkn:k < n)
 (hC:C false w.drew) (h:ZaM P .any l.toArray C k (fun a'=>∀w',C true w'→wpList P l.toArray Q (l.drop n) a' w') 0 (l.take n) a):(Code.region id l.toArray true).wp P Q a w:=by
 simp only[Region.lexTailB,Bool.and_eq_true,decide_eq_true_eq] at hB;obtain⟨⟨⟨⟨hsel,hn⟩,hs⟩,hc⟩,hlex⟩:=hB;have hn':n < l.length:=by simpa using hn
 have htl:(l.take n).length=n:=by simp;omega
 have hdl:(l.drop n).length=l.toArray.size - n:=by simp
 have inv0:HeadInv .any l.toArray n (Array.replicate l.toArray.size false):=
  ⟨by simp,fun j oj _ hl=>(by rw[getD_replicate_false] at hl;cases hl),fun t _ ht=>getD_in (by simpa using ht) (getD_replicate_false _ _)⟩
 have H:=ZdR (C:=C) (md:=.any) (g:=l.toArray.size - n) hsel hs hc hn hkn (l.take n) 0 _ a (fun j hj=>by
  have hj':j < n:=by rw[htl] at hj;exact hj
  simp[hj']) (by simpa using htl) inv0 (fun j hj=>by omega) (by rw[htl];exact hlex) h
 refine wp_region_any hm ?_
 have:=Zcx (Q':=Q) (g:=l.toArray.size - n) (fun listed a' w' hw' hL=>by
  rw[hL.2.1] at hw';have:=wpAny_of_seq (md:=.any) (Q':=Q) (l.drop n) n listed a' w' (fun j=>by simp[List.getElem?_drop]) (by rw[hdl];exact hL.1) (hL.2.2 w' hw')
  rwa [hdl] at this) _ _ _ _ inv0 (by rw[getD_replicate_false];exact hC) H
 rw[htl,show n + (l.toArray.size - n)=l.toArray.size by omega] at this;exact this
end
end Go
end
namespace Go.Proofs.YtknoefbcmomalaaGreatDoor
section
section
open Go.RowKit
section
variable {P:Program} {ops:Array Oper} {rest:List Oper} {o:Oper} {a:Act} {Q:Exit→Act→World→Prop} {L0 L F:List Part} {w0 w:World} {S:Nat}
theorem ZcN {E:TypeId} {x:Operand} (hg:o.guard=none) (hop:o.op=.box E x) {v:Value} (hx:a.eval x=v) {vs:List Value} (hv:v.cells=vs.toArray) (h:At L0 w0 L w) (hS:w.heap.size=S)
 (hK:∀w',At L0 w0 (Part.cells S vs E::L) w'→w'.heap.size=S + 1→wpList P ops Q rest (a.put o.dst (.pointer (some ⟨S,0,none⟩))) w'):wpList P ops Q (o::rest) a w:=by
 subst hS;refine Zal hg ?_ (hK _ (h.alloc vs E) (by simp));simp[execOp,hop,hx,Instr.box,newVar,newRow,hv,Result.andThen]
theorem Zc9 {t:TypeId} (P:Program) (k:TypeId) (hg:o.guard=none) (hop:o.op=.makeMap t none) (h:At L0 w0 L w) (hS:w.heap.size=S)
 (hK:∀w',At L0 w0 (Part.map P k S []::L) w'→w'.heap.size=S + 1→wpList P ops Q rest (a.put o.dst (.map (some S))) w'):wpList P ops Q (o::rest) a w:=by
 subst hS;refine Zal hg ?_ (hK _ (h.new ((Ext.refl w).alloc (.map #[] 0)) _ (MapAt.made P k w) (fun _ e=>by cases e;exact Nat.le_refl _)) (by simp));simp[execOp,hop,run_makeMap,Result.andThen]
end
section
variable {P:Program} {ops:Array Oper} {i:Nat} {o:Oper} {a:Act} {Q:Exit→Act→World→Prop} {K:Act→World→Prop} {L0 L F:List Part} {w0 w:World}
end
def TurnC (L0:List Part) (w0:World) (L:List Part) (N:Nat) (L':List Part) (c:Bool) (w:World):Prop:=if c=true then At L0 w0 L' w else At L0 w0 L w∧w.heap.size=N
section
variable {P:Program} {md:Region.Mode} {ops:Array Oper} {k n:Nat} {rest:List Oper} {o:Oper} {a:Act} {Q:Act→Prop} {L0 L L':List Part} {w0:World} {N:Nat}
theorem Zha {w:World} (h:At L0 w0 L w) (hN:w.heap.size=N):TurnC L0 w0 L N L' false w.drew:=by
 unfold TurnC;rw[if_neg (by simp)];exact⟨h.drew,hN⟩
theorem Zf4 {w:World} (h:TurnC L0 w0 L N L' true w):At L0 w0 L' w:=by unfold TurnC at h;rwa [if_pos rfl] at h
theorem ZcP {C:Bool→World→Prop} (hw:Region.wanted o (yielded ops a.tmps)=true) (hnk:n≠k) {v:Value} (hrun:∀w,(execOp a.eval o).run P w=.ok (.value v) w) (hK:ZaM P md ops C k Q (n + 1) rest (a.put o.dst v)):
 ZaM P md ops C k Q n (o::rest) a:=by
 refine Zbw fun K hh=> ?_;rw[hw];simp only[if_true];refine⟨v,fun c c' hR w hC=> ?_,hh _ hK⟩;unfold Oper.turnAt;rw[hrun w];refine⟨rfl,rfl,?_⟩;unfold leg at hR;rw[if_neg hnk] at hR;split at hR
 · obtain⟨rfl,rfl⟩:=hR;exact hC
 subst hR;exact hC
theorem Zf3 (hw:Region.wanted o (yielded ops a.tmps)=true) (hnk:n≠k) {v:Value} (h1:∀w,At L0 w0 L w→(execOp a.eval o).run P w=.ok (.value v) w) (h2:∀w,At L0 w0 L' w→(execOp a.eval o).run P w=.ok (.value v) w)
 (hK:ZaM P md ops (TurnC L0 w0 L N L') k Q (n + 1) rest (a.put o.dst v)):ZaM P md ops (TurnC L0 w0 L N L') k Q n (o::rest) a:=by
 refine Zbw fun K hh=> ?_;rw[hw];simp only[if_true];refine⟨v,fun c c' hR w hC=> ?_,hh _ hK⟩
 have hrun:(execOp a.eval o).run P w=.ok (.value v) w:=by
  unfold TurnC at hC;cases c
  · exact h1 w (by simpa using hC.1)
  exact h2 w (by simpa using hC)
 unfold Oper.turnAt;rw[hrun];refine⟨rfl,rfl,?_⟩;unfold leg at hR;rw[if_neg hnk] at hR;split at hR
 · obtain⟨rfl,rfl⟩:=hR;exact hC
 subst hR;exact hC
theorem Zju (hw:Region.wanted o (yielded ops a.tmps)=true) (hnk:n≠k) (hwt:Zcy md ops k ops.size n=true) {v:Value} (h2:∀w,At L0 w0 L' w→(execOp a.eval o).run P w=.ok (.value v) w)
 (hK:ZaM P md ops (TurnC L0 w0 L N L') k Q (n + 1) rest (a.put o.dst v)):ZaM P md ops (TurnC L0 w0 L N L') k Q n (o::rest) a:=by
 refine Zbw fun K hh=> ?_;rw[hw];simp only[if_true];refine⟨v,fun c c' hR w hC=> ?_,hh _ hK⟩;unfold leg at hR;rw[if_neg hnk,if_pos hwt] at hR;obtain⟨rfl,rfl⟩:=hR;unfold Oper.turnAt;rw[h2 w (Zf4 hC)];exact⟨rfl,rfl,hC⟩
theorem Zjv (hw:Region.wanted o (yielded ops a.tmps)=true) (hnk:n=k) {v:Value} {f:FuncId} {args:Array Value} (hrun:∀w,(execOp a.eval o).run P w=.ok (.enter f args) w)
 (hc:∀w,At L0 w0 L w→w.heap.size=N→Calls P f args w fun e w'=>e=.returned v∧At L0 w0 L' w')
 (hK:ZaM P md ops (TurnC L0 w0 L N L') k Q (n + 1) rest (a.put o.dst v)):ZaM P md ops (TurnC L0 w0 L N L') k Q n (o::rest) a:=by
 refine Zbw fun K hh=> ?_;rw[hw];simp only[if_true];refine⟨v,fun c c' hR w hC=> ?_,hh _ hK⟩;unfold leg at hR;rw[if_pos hnk] at hR;obtain⟨rfl,rfl⟩:=hR;unfold Oper.turnAt;rw[hrun w];unfold TurnC at hC;simp only[Bool.false_eq_true,if_false] at hC;refine⟨rfl,(hc w hC.1 hC.2).mono fun e w' ⟨he,h⟩=>⟨he,?_⟩⟩;unfold TurnC;rw[if_pos rfl];exact h
end
end
end
section
section
open Go.RowKit
open Go.Maps (Keyed)
section
variable {P:Program} {k:TypeId} {w:World} {b:Nat} {es:List (Value × Value)}
theorem Zc4 {α:Type} (a:Array α) (i:Nat) (h:i < a.size):(a.eraseIdxIfInBounds i).toList=a.toList.eraseIdx i:=by
 rw[Array.eraseIdxIfInBounds_eq];rw[dif_pos h,Array.toList_eraseIdx]
theorem ZkL {α:Type} (l1 l2:List α) (x:α):(l1++x::l2).eraseIdx l1.length=l1++l2:=by
 rw[List.eraseIdx_append_of_length_le (Nat.le_refl _)];simp
theorem MapAt.erased {l1 l2:List (Value × Value)} {key u:Value} (h:MapAt P k w b (l1++(key,u)::l2)) {ents:Array MapEntry} {clock:Nat} (hb:w.heap[b]? =some (.map ents clock)):
 MapAt P k (ChangeMaps.setBlock w b (.map (ents.eraseIdxIfInBounds l1.length) clock)) b (l1++l2):=by
 obtain⟨ents',clock',hb',he,hbn,hdn,hkeys,hpw⟩:=h;rw[hb] at hb';cases hb'
 have hlt:l1.length < ents.size:=by
  have:=congrArg List.length he
  simp at this
  omega
 have hs:((l1++l2)).Sublist (l1++(key,u)::l2):=List.Sublist.append (List.Sublist.refl _) (List.sublist_cons_self _ _);have hes:(ents.toList.eraseIdx l1.length).Sublist ents.toList:=List.eraseIdx_sublist _ _;refine⟨_,clock,ChangeMaps.heap_setBlock_same hb _,?_,?_,?_,?_,?_⟩
 · rw[Zc4 _ _ hlt,List.eraseIdx_eq_take_drop_succ,List.map_append,List.map_take,List.map_drop,he,←List.eraseIdx_eq_take_drop_succ,ZkL]
 · intro e hm;rw[Zc4 _ _ hlt] at hm;exact hbn e (hes.subset hm)
 · rw[Zc4 _ _ hlt];exact hdn.sublist hes
 · exact fun p hp=>hkeys p (hs.subset hp)
 exact hpw.sublist hs
theorem MapAt.del_there {t e:TypeId} {l1 l2:List (Value × Value)} {key u:Value} (h:MapAt P k w b (l1++(key,u)::l2)) (K:Keyed P k) (ht:P.underlying t=some (.map k e)) {kl:Lit} (hk:keyOf P k key=some kl) (t2 ty:TypeId):
 ∃w',(Builtin.delete_ #[t,t2] ty #[.map (some b),key]).run P w=.ok (.tuple #[]) w'∧MapAt P k w' b (l1++l2)∧Exc (fun q=>q=b) w w'∧∃ents clock,w.heap[b]? =some (.map ents clock)∧w'.heap[b]? =some (.map (ents.eraseIdxIfInBounds l1.length) clock):=by
 have h0:=h;obtain⟨ents,clock,hb,_⟩:=h0;obtain⟨e0,h1,h2,h3,h4⟩:=h.find_at K hk w hb
 exact⟨ChangeMaps.setBlock w b (.map (ents.eraseIdxIfInBounds l1.length) clock),by simp[Builtin.delete_,run_underlying ht,MapKept.run_getObj_map hb,K.check w _ hk,h1,MapKept.run_setObj_map _ hb,Result.andThen,ChangeMaps.setBlock],h.erased hb,
  ⟨rfl,rfl,rfl,by simp[ChangeMaps.setBlock],fun i _ hi=>ChangeMaps.heap_setBlock_other hb _ (fun e=>hi e)⟩,ents,clock,hb,ChangeMaps.heap_setBlock_same hb _⟩
def IterD (P:Program) (k:TypeId) (w:World) (r b:Nat) (es done:List (Value × Value)):Prop:=
 MapAt P k w b es∧r≠b∧∃(ents:Array MapEntry) (clock c0:Nat) (vs:List MapEntry),w.heap[b]? =some (.map ents clock)∧w.heap[r]? =some (.mapIter (some b) clock (vs.map (·.born)).toArray c0)∧clock≤c0∧
  vs.map (fun e=>(e.key,e.val))=done∧(vs≠[]→c0=clock)∧(∀x ∈ vs,∀y ∈ ents.toList,x.key=y.key→x=y)∧(∀x ∈ vs,∀y ∈ ents.toList,x.born=y.born→x=y)
theorem IterD.start {r:Nat} (h:Zax P k w r b es []):IterD P k w r b es []:=by
 obtain⟨hm,hrb,ents,clock,c0,vs,hb,hr,hc,hd,hin,hpw,hc1⟩:=h;have:vs=[]:=by simpa using hd
 subst this;exact⟨hm,hrb,ents,clock,c0,[],hb,hr,hc,rfl,hc1,nofun,nofun⟩
theorem IterD.same {r:Nat} {done:List (Value × Value)} (h:IterD P k w r b es done) {w':World} (e1:w'.heap[b]? =w.heap[b]?) (e2:w'.heap[r]? =w.heap[r]?):IterD P k w' r b es done:=by
 obtain⟨hm,hrb,ents,clock,c0,vs,hb,hr,rest⟩:=h;exact⟨hm.same e1,hrb,ents,clock,c0,vs,e1.trans hb,e2.trans hr,rest⟩
theorem ZmW {l:List (Value × Value)} (h:l.Pairwise (fun p q=>p.1≠q.1)) {i j:Nat} {p q:Value × Value} (hi:l[i]? =some p) (hj:l[j]? =some q) (hk:p.1=q.1):i=j:=by
 by_cases hij:i=j
 · exact hij
 exfalso
 obtain⟨hi1,hi2⟩:=List.getElem?_eq_some_iff.1 hi;obtain⟨hj1,hj2⟩:=List.getElem?_eq_some_iff.1 hj;have hp:=List.pairwise_iff_getElem.1 h;rcases Nat.lt_or_gt_of_ne hij with q|q
 · exact hp i j hi1 hj1 q (by rw[hi2,hj2];exact hk)
 exact hp j i hj1 hi1 q (by rw[hi2,hj2];exact hk.symm)
theorem IterD.next {r:Nat} {done:List (Value × Value)} (h:IterD P k w r b es done) (ty:TypeId):
 ((∀p ∈ es,p ∈ done)∧(Instr.next (.pointer (some ⟨r,0,none⟩)) false ty).run P w=.ok (.tuple #[.bool false]) w)∨
 ∃p w',p ∈ es∧(∀q ∈ done,q.1≠p.1)∧(Instr.next (.pointer (some ⟨r,0,none⟩)) false ty).run P w=.ok (.tuple #[.bool true,p.1,p.2]) w'∧IterD P k w' r b es (done++[p])∧Exc (fun q=>q=r) w w':=by
 obtain⟨hm,hrb,ents,clock,c0,vs,hb,hr,hc,hd,hc1,hkey,hbo⟩:=h;have hm0:=hm;obtain⟨ents',clock',hb',he,hbn,hdn,hkeys,hkp⟩:=hm0;rw[hb] at hb';cases hb'
 have hone:∀x ∈ ents.toList,∀y ∈ ents.toList,x.key=y.key→x=y:=by
  intro x hx y hy e;obtain⟨i,hi⟩:=List.mem_iff_getElem?.1 hx;obtain⟨j,hj⟩:=List.mem_iff_getElem?.1 hy;have g1:es[i]? =some (x.key,x.val):=by rw[←he,List.getElem?_map,hi];rfl
  have g2:es[j]? =some (y.key,y.val):=by rw[←he,List.getElem?_map,hj];rfl
  have:=ZmW hkp g1 g2 e;subst this;rw[hi] at hj;exact Option.some.inj hj
 have hborn:∀x ∈ ents.toList,∀y ∈ ents.toList,x.born=y.born→x=y:=by
  intro x hx y hy e;obtain⟨i,hi⟩:=List.mem_iff_getElem?.1 hx;obtain⟨j,hj⟩:=List.mem_iff_getElem?.1 hy;by_cases hij:i=j
  · subst hij;rw[hi] at hj;exact Option.some.inj hj
  exfalso
  obtain⟨hi1,hi2⟩:=List.getElem?_eq_some_iff.1 hi;obtain⟨hj1,hj2⟩:=List.getElem?_eq_some_iff.1 hj;have hp:=List.pairwise_iff_getElem.1 hdn;rcases Nat.lt_or_gt_of_ne hij with q|q
  · exact hp i j hi1 hj1 q (by rw[hi2,hj2,e])
  exact hp j i hj1 hi1 q (by rw[hi2,hj2,e])
 rcases run_next_at (P:=P) w ty r b clock c0 (vs.map (·.born)).toArray ents clock hr hb hbn hc with⟨h0,hrun⟩|⟨e,he1,w1,hw1,hrun⟩
 · refine .inl ⟨?_,hrun⟩;intro p hp;rw[←he] at hp;obtain⟨x,hx,rfl⟩:=List.mem_map.1 hp;have h1:leftOf ents (vs.map (·.born)).toArray= #[]:=Array.eq_empty_of_size_eq_zero h0;unfold leftOf at h1;rw[Array.filter_eq_empty_iff] at h1;have h2:=h1 x (by simpa using hx);simp at h2
   obtain⟨y,hy,hyb⟩:=h2;have:=hbo y hy x hx hyb;subst this;rw[←hd];exact List.mem_map.2 ⟨y,hy,rfl⟩
 have he2:e ∈ ents.toList∧∀y ∈ vs,y.born≠e.born:=by
  unfold leftOf at he1;simp at he1
  exact⟨by simpa using he1.1,fun y hy hb=>he1.2 y hy hb⟩
 have hh1:w1.heap=w.heap:=by rcases hw1 with rfl|rfl<;>rfl
 refine .inr ⟨(e.key,e.val),ChangeMaps.setBlock w1 r (.mapIter (some b) clock ((vs.map (·.born)).toArray.push e.born) clock),Zim he he2.1,?_,hrun,?_,?_⟩
 · intro q hq;rw[←hd] at hq;obtain⟨y,hy,rfl⟩:=List.mem_map.1 hq;intro hk;have:=hkey y hy e he2.1 hk;subst this;exact he2.2 y hy rfl
 · have hr1:w1.heap[r]? =some (.mapIter (some b) clock (vs.map (·.born)).toArray c0):=by rw[hh1];exact hr
   have k1:∀(o:Obj) (i:Nat),i≠r→(ChangeMaps.setBlock w1 r o).heap[i]? =w.heap[i]? :=fun o i hi=>by
    rw[←hh1];simp[ChangeMaps.setBlock,Ne.symm hi]
   have k2:∀(o:Obj),(ChangeMaps.setBlock w1 r o).heap[r]? =some o:=fun o=>by
    have hlt:=ZaJ hr1;simp[ChangeMaps.setBlock,hlt]
   refine⟨hm.same (k1 _ b (Ne.symm hrb)),hrb,ents,clock,clock,vs++[e],by rw[k1 _ b (Ne.symm hrb)];exact hb,by rw[k2];simp,Nat.le_refl _,by simp[hd],fun _=>rfl,?_,?_⟩
   · intro x hx y hy hk;rcases List.mem_append.1 hx with hx|hx
     · exact hkey x hx y hy hk
     rw[List.mem_singleton.1 hx] at hk ⊢;exact hone e he2.1 y hy hk
   intro x hx y hy hk;rcases List.mem_append.1 hx with hx|hx
   · exact hbo x hx y hy hk
   rw[List.mem_singleton.1 hx] at hk ⊢;exact hborn e he2.1 y hy hk
 have g:∀(o:Obj),Exc (fun q=>q=r) w (ChangeMaps.setBlock w1 r o):=fun o=>by
  rcases hw1 with rfl|rfl
  · exact⟨rfl,rfl,rfl,by simp[ChangeMaps.setBlock],fun i _ hi=>by simp[ChangeMaps.setBlock,Ne.symm hi]⟩
  exact⟨rfl,rfl,rfl,by simp[ChangeMaps.setBlock],fun i _ hi=>by simp[ChangeMaps.setBlock,Ne.symm hi];rfl⟩
 exact g _
theorem IterD.entry {r:Nat} {done:List (Value × Value)} {p:Value × Value} (h:IterD P k w r b es (done++[p])) (hp:p ∈ es):(Instr.entry (.pointer (some ⟨r,0,none⟩))).run P w=.ok (.tuple #[p.1,p.2]) w:=by
 obtain⟨hm,hrb,ents,clock,c0,vs,hb,hr,hc,hd,hc1,hkey,hbo⟩:=h;obtain⟨ents',clock',hb',he,hbn,hdn,hkeys,hkp⟩:=hm;rw[hb] at hb';cases hb';rcases List.eq_nil_or_concat vs with rfl|⟨vs',e,rfl⟩
 · simp at hd
 have h1:c0=clock:=hc1 (by simp);subst h1;simp at hd
 obtain⟨hd1,hd2⟩:=hd;subst hd2;rw[←he] at hp;obtain⟨y,hy,hye⟩:=List.mem_map.1 hp;have hk0:e.key=y.key:=(congrArg Prod.fst hye).symm;have:=hkey e (by simp) y hy hk0;subst this;exact run_entry_at (P:=P) w r b c0 (vs'.map (·.born)).toArray ents c0 e (by rw[hr];simp) hb hy (List.pairwise_map.2 hdn)
theorem IterD.del {t e:TypeId} {r:Nat} {done l1 l2:List (Value × Value)} {key u:Value} (h:IterD P k w r b (l1++(key,u)::l2) done) (K:Keyed P k) (ht:P.underlying t=some (.map k e)) {kl:Lit} (hk:keyOf P k key=some kl) (t2 ty:TypeId):
 ∃w',(Builtin.delete_ #[t,t2] ty #[.map (some b),key]).run P w=.ok (.tuple #[]) w'∧IterD P k w' r b (l1++l2) done∧Exc (fun q=>q=b) w w':=by
 obtain⟨hm,hrb,ents,clock,c0,vs,hb,hr,hc,hd,hc1,hkey,hbo⟩:=h;obtain⟨w',h1,h2,h3,ents',clock',h4,h5⟩:=hm.del_there K ht hk t2 ty;rw[hb] at h4;cases h4
 have hsub:∀y ∈ (ents.eraseIdxIfInBounds l1.length).toList,y ∈ ents.toList:=by
  intro y hy;by_cases hlt:l1.length < ents.size
  · rw[Zc4 _ _ hlt] at hy;exact(List.eraseIdx_sublist _ _).subset hy
  rw[Array.eraseIdxIfInBounds_eq,dif_neg hlt] at hy;exact hy
 exact⟨w',h1,⟨h2,hrb,_,clock,c0,vs,h5,(h3.block r (ZaJ hr) hrb).trans hr,hc,hd,hc1,fun x hx y hy=>hkey x hx y (hsub y hy),fun x hx y hy=>hbo x hx y (hsub y hy)⟩,h3⟩
theorem IterD.keys {r:Nat} {done:List (Value × Value)} (h:IterD P k w r b es done):es.Pairwise (fun p q=>p.1≠q.1):=h.1.keys
def Part.iterD (P:Program) (k:TypeId) (r b:Nat) (es done:List (Value × Value)):Part where
 holds w:=IterD P k w r b es done
 foot q:=q=b∨q=r
 lt:=fun _ h q e=>by
  rcases e with e|e
  · subst e;exact h.1.lt
  subst e;obtain⟨_,_,_,_,_,_,_,hr,_⟩:=h;exact ZaJ hr
 stay:=fun _ _ h e=>h.same (e b (.inl rfl)) (e r (.inr rfl))
end
section
variable {P:Program} {ops:Array Oper} {rest:List Oper} {o:Oper} {a:Act} {Q:Exit→Act→World→Prop} {L0 L F:List Part} {w0 w:World} {k:TypeId} {b:Nat} {es:List (Value × Value)}
theorem ZcE {t t2:TypeId} {m x:Operand} (hg:o.guard=none) (hop:o.op=.call {callee:=.builtin .delete,args:= #[m,x],argTypes:= #[t,t2]}) (hm:a.eval m=.map (some b)) {key u:Value} {l1 l2:List (Value × Value)} (hx:a.eval x=key)
 (h:At L0 w0 L w) (s:Sel (Part.map P k b (l1++(key,u)::l2)) L F) {e:TypeId} (K:Keyed P k) (ht:P.underlying t=some (.map k e)) {kl:Lit} (hk:keyOf P k key=some kl)
 (hK:∀w',At L0 w0 (Part.map P k b (l1++l2)::F) w'→wpList P ops Q rest (a.put o.dst (.tuple #[])) w'):wpList P ops Q (o::rest) a w:=by
 have hM:MapAt P k w b (l1++(key,u)::l2):=h.get s;obtain⟨w',h1,h2,h3,_⟩:=hM.del_there K ht hk t2 o.type;refine Zal hg ?_ (hK w' (h.turn s _ h2 (fun _ e=>.inl e) h3));simp[execOp,hop,resolve,invoke,builtin,hm,hx,h1,Result.andThen]
theorem ZcM {t t2:TypeId} {m x:Operand} {r:Nat} {done:List (Value × Value)} (hg:o.guard=none) (hop:o.op=.call {callee:=.builtin .delete,args:= #[m,x],argTypes:= #[t,t2]}) (hm:a.eval m=.map (some b)) {key u:Value} {l1 l2:List (Value × Value)} (hx:a.eval x=key)
 (h:At L0 w0 L w) (s:Sel (Part.iterD P k r b (l1++(key,u)::l2) done) L F) {e:TypeId} (K:Keyed P k) (ht:P.underlying t=some (.map k e)) {kl:Lit} (hk:keyOf P k key=some kl)
 (hK:∀w',At L0 w0 (Part.iterD P k r b (l1++l2) done::F) w'→wpList P ops Q rest (a.put o.dst (.tuple #[])) w'):wpList P ops Q (o::rest) a w:=by
 have hI:IterD P k w r b (l1++(key,u)::l2) done:=h.get s;obtain⟨w',h1,h2,h3⟩:=hI.del K ht hk t2 o.type;refine Zal hg ?_ (hK w' (h.turn s (Part.iterD P k r b (l1++l2) done) h2 (fun _ e=>.inl e) (h3.mono (fun _ _ e=>.inl e))));simp[execOp,hop,resolve,invoke,builtin,hm,hx,h1,Result.andThen]
theorem ZdK {r:Nat} {done:List (Value × Value)} {it:Operand} (hg:o.guard=none) (hop:o.op=.next it false) (hi:a.eval it=.pointer (some ⟨r,0,none⟩)) (h:At L0 w0 L w) (s:Sel (Part.iterD P k r b es done) L F)
 (hEnd:(∀p ∈ es,p ∈ done)→wpList P ops Q rest (a.put o.dst (.tuple #[.bool false])) w)
 (hK:∀p w',p ∈ es→(∀q ∈ done,q.1≠p.1)→At L0 w0 (Part.iterD P k r b es (done++[p])::F) w'→wpList P ops Q rest (a.put o.dst (.tuple #[.bool true,p.1,p.2])) w'):wpList P ops Q (o::rest) a w:=by
 have hI:IterD P k w r b es done:=h.get s;rcases hI.next o.type with⟨h1,h2⟩|⟨p,w',h1,h2,h3,h4,h5⟩
 · refine Zal hg ?_ (hEnd h1);simp[execOp,hop,hi,h2,Result.andThen]
 refine Zal hg ?_ (hK p w' h1 h2 (h.turn s (Part.iterD P k r b es (done++[p])) h4 (fun q e=>.inl e) (h5.mono (fun _ _ e=>.inr e))));simp[execOp,hop,hi,h3,Result.andThen]
theorem At.rangedD {r:Nat} {done:List (Value × Value)} (h:At L0 w0 L w) (s:Sel (Part.iterD P k r b es done) L F):At L0 w0 (Part.map P k b es::F) w:=by
 have hI:IterD P k w r b es done:=h.get s;exact h.turn s (Part.map P k b es) hI.1 (fun _ e=>.inl (.inl e)) (Exc.refl _ _)
theorem At.rangeD {r:Nat} (h:At L0 w0 L w) (s:Sel (Part.iter P k r b es []) L F):At L0 w0 (Part.iterD P k r b es []::F) w:=by
 have hI:Zax P k w r b es []:=h.get s;exact h.turn s (Part.iterD P k r b es []) (IterD.start hI) (fun _ e=>.inl e) (Exc.refl _ _)
end
end
end
end Go.Proofs.YtknoefbcmomalaaGreatDoor
