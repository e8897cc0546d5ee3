/- RegT, SepT, LeaseV, SortU, SortU2, joined. -/
import Derived.Test.YtkdjkngfnapjcaaGreatDoorQ0
import Derived.Test.YtkdjkngfnapjcaaGreatDoorQ3
import Derived.Test.YtkdjkngfnapjcaaGreatDoorQ5
import Derived.Test.YtkdjkngfnapjcaaGreatDoorQ1
import Derived.Test.YtkdjkngfnapjcaaGreatDoorChecked
import Derived.Sort.AssemblyPlain
import Derived.Deep.LoopGhost
import Derived.Deep.QuietTactic
import Derived.BigQuiet
import Derived.Deep.Cut
set_option linter.unusedSimpArgs false
set_option linter.unusedVariables false
set_option maxRecDepth 100000
set_option maxHeartbeats 16000000
section
namespace Go
section
variable {P:Program} {ops:Array Oper} {md:Region.Mode} {C:Bool→World→Prop} {k:Nat}
def Zcv (md:Region.Mode) (ops:Array Oper) (k:Nat):Nat→Nat→Bool
 |0,_=>false
 |f + 1,i=>match ops[i]? with
  |some o=>o.after.any fun e=>Region.binds md e&&(e.on==k || Zcv md ops k f e.on)
  |none=>false
def leg (md:Region.Mode) (ops:Array Oper) (k i:Nat) (c c':Bool):Prop:=
 if i=k then c=false∧c'=true else if Zcv md ops k ops.size i=true then c=true∧c'=true else c=c'
def Oper.turnUpon (P:Program) (C:World→Prop) (w:World) (v:Value):Result Next→Prop
 |.ok (.value u) w'=>w'=w∧u=v∧C w
 |.ok .skip w'=>w'=w∧v=undef∧C w
 |.ok (.enter f args) w'=>w'=w∧Calls P f args w (fun e w''=>e=.returned v∧C w'')
 |_=>False
def Oper.turnAt (P:Program) (o:Oper) (a:Act) (C:World→Prop) (w:World) (v:Value):Prop:=Oper.turnUpon P C w v ((execOp a.eval o).run P w)
def Oper.quietL (P:Program) (o:Oper) (a:Act) (C:Bool→World→Prop) (R:Bool→Bool→Prop) (next:Act→Prop):Prop:=
 ∃v,(∀c c',R c c'→∀w,C c w→o.turnAt P a (C c') w v)∧next (a.put o.dst v)
def ZaH (P:Program) (md:Region.Mode) (ops:Array Oper) (C:Bool→World→Prop) (k:Nat) (Q:Act→Prop):Nat→List Oper→Act→Prop
 |_,[],a=>Q a
 |n,o::rest,a=>if Region.wanted o (yielded ops a.tmps) then o.quietL P a C (leg md ops k n) (ZaH P md ops C k Q (n + 1) rest) else n≠k∧ZaH P md ops C k Q (n + 1) rest (a.put o.dst undef)
theorem Zf9 {Q:Act→Prop} {n:Nat} {a:Act} (h:Q a):ZaH P md ops C k Q n [] a:=h
theorem Zbq {Q:Act→Prop} {n:Nat} {a:Act} {o:Oper} {rest:List Oper}
 (h:∀K:Act→Prop,(∀a,ZaH P md ops C k Q (n + 1) rest a→K a)→if Region.wanted o (yielded ops a.tmps) then o.quietL P a C (leg md ops k n) K else n≠k∧K (a.put o.dst undef)):ZaH P md ops C k Q n (o::rest) a:=h _ (fun _ h=>h)
def qOpL (P:Program) (md:Region.Mode) (ops:Array Oper) (C:Bool→World→Prop) (k i:Nat) (K:Act→Prop) (a:Act):Prop:=
 match ops[i]? with
 |none=>i≠k∧K a
 |some o=>if Region.wanted o (yielded ops a.tmps) then o.quietL P a C (leg md ops k i) K else i≠k∧K (a.put o.dst undef)
theorem Oper.quietL_mono {o:Oper} {a:Act} {R:Bool→Bool→Prop} {K K':Act→Prop} (h:∀a,K a→K' a) (hh:o.quietL P a C R K):o.quietL P a C R K':=
 let ⟨v,h1,h2⟩:=hh
 ⟨v,h1,h _ h2⟩
theorem Zke {i:Nat} {a:Act} {K K':Act→Prop} (h:∀a,K a→K' a) (hh:qOpL P md ops C k i K a):qOpL P md ops C k i K' a:=by
 unfold qOpL at *
 split
 · rename_i ho
   simp only[ho] at hh;exact⟨hh.1,h _ hh.2⟩
 rename_i o ho
 simp only[ho] at hh
 split
 · rename_i hw;simp only[hw,if_true] at hh;exact Oper.quietL_mono h hh
 rename_i hw;simp only[hw] at hh;exact⟨hh.1,h _ hh.2⟩
def Zbo (P:Program) (md:Region.Mode) (ops:Array Oper) (C:Bool→World→Prop) (k i:Nat) (o:Oper) (v:Value) (a:Act):Prop:=
 (Region.wanted o (yielded ops a.tmps)=true∧∀c c',leg md ops k i c c'→∀w,C c w→o.turnAt P a (C c') w v)∨
 (Region.wanted o (yielded ops a.tmps)=false∧i≠k∧v=undef)
theorem Zbo.qOp {i:Nat} {o:Oper} {v:Value} {a:Act} (hi:ops[i]? =some o) (hy:Zbo P md ops C k i o v a) {K:Act→Prop} (h:K (a.put o.dst v)):qOpL P md ops C k i K a:=by
 unfold qOpL;simp only[hi]
 rcases hy with⟨hw,hv⟩|⟨hw,hik,rfl⟩
 · simp only[hw,if_true];exact⟨v,hv,h⟩
 simp only[hw,Bool.false_eq_true,if_false];exact⟨hik,h⟩
theorem Zbo.of_same {i:Nat} {o:Oper} {v:Value} {a a':Act} (hy:Zbo P md ops C k i o v a) (he:execOp a'.eval o=execOp a.eval o)
 (hw:Region.wanted o (yielded ops a'.tmps)=Region.wanted o (yielded ops a.tmps)):Zbo P md ops C k i o v a':=by
 unfold Zbo Oper.turnAt at *
 rw[he,hw];exact hy
theorem ZeB {i:Nat} {o:Oper} {a:Act} {K:Act→Prop} (hi:ops[i]? =some o) (h:qOpL P md ops C k i K a):∃v,Zbo P md ops C k i o v a∧K (a.put o.dst v):=by
 unfold qOpL at h;simp only[hi] at h
 by_cases hw:Region.wanted o (yielded ops a.tmps)=true
 · simp only[hw,if_true] at h
   obtain⟨v,h1,h2⟩:=h;exact⟨v,.inl ⟨hw,h1⟩,h2⟩
 simp only[hw] at h
 exact⟨undef,.inr ⟨by simpa using hw,h.1,rfl⟩,h.2⟩
theorem ZlO {i j:Nat} {oi oj:Oper} {v:Value} (hj:ops[j]? =some oj) (hap:oi.apart ops oj=true)
 (hsi:∀cs b,oi.op≠.select cs b) (hsj:∀cs b,oj.op≠.select cs b) {K:Act→Prop} {a:Act}
 (hy:Zbo P md ops C k i oi v a) (h:qOpL P md ops C k j K (a.put oi.dst v)):
 qOpL P md ops C k j (fun a'=>Zbo P md ops C k i oi v a'∧K (a'.put oi.dst v)) a:=by
 obtain⟨h1,h2,h3⟩:=Oper.apart_spec hap
 have keep:∀(a:Act),Zbo P md ops C k i oi v a→∀u,Zbo P md ops C k i oi v (a.put oj.dst u):=fun a hy u=>
  hy.of_same (execOp_put oi hsi a oj.dst u h3) (wanted_put oi a oj.dst u h3)
 unfold qOpL at *
 simp only[hj] at *
 rw[wanted_put oj a oi.dst v h1] at h
 split
 · rename_i hw
   simp only[hw,if_true] at h;obtain⟨u,hu,hn⟩:=h;refine⟨u,fun c c' hR w hw'=> ?_,keep a hy u,by rw[←Act.put_comm a v u h2];exact hn⟩;have:=hu c c' hR w hw'
   unfold Oper.turnAt at *
   rwa [execOp_put oj hsj a oi.dst v h1] at this
 rename_i hw
 simp only[hw] at h;exact⟨h.1,keep a hy _,by rw[←Act.put_comm a v undef h2];exact h.2⟩
theorem Zdq {n:Nat} {listed:Array Bool} (inv:HeadInv md ops n listed):∀(f i:Nat),Zcv md ops k f i=true→listed.getD i false=true→listed.getD k false=true
 |0,_,h,_=>by simp[Zcv] at h
 |f + 1,i,h,hi=>by
  unfold Zcv at h
  split at h
  · rename_i o ho
    obtain⟨e,he,hb⟩:=Array.any_eq_true'.1 h;simp only[Bool.and_eq_true,Bool.or_eq_true,beq_iff_eq] at hb;have hl:=inv.closed i o ho hi e he hb.1
    rcases hb.2 with hk|hk
    · rw[←hk];exact hl
    exact Zdq inv f e.on hk hl
  exact absurd h (by simp)
theorem Zhl {n:Nat} {listed:Array Bool} (inv:HeadInv md ops n listed) {i:Nat} (hr:i ∈ Region.ready md ops listed):∀(f:Nat),Zcv md ops k f i=true→listed.getD k false=true
 |0,h=>by simp[Zcv] at h
 |f + 1,h=>by
  obtain⟨_,oi,hoi,hall⟩:=mem_ready.1 hr;unfold Zcv at h;simp only[hoi] at h;obtain⟨e,he,hb⟩:=Array.any_eq_true'.1 h;simp only[Bool.and_eq_true,Bool.or_eq_true,beq_iff_eq] at hb;have hl:=hall e he hb.1
  rcases hb.2 with hk|hk
  · rw[←hk];exact hl
  exact Zdq inv f e.on hk hl
def ZdU (P:Program) (md:Region.Mode) (ops:Array Oper) (C:Bool→World→Prop) (k n:Nat) (L:Array Bool→Act→Prop):Nat→Array Bool→Act→Prop
 |0,listed,a=>L listed a
 |f + 1,listed,a=>
  Region.ready md ops listed≠[]∧∀i ∈ Region.ready md ops listed,i < n∧qOpL P md ops C k i (ZdU P md ops C k n L f (listed.setIfInBounds i true)) a
theorem Oper.wp_of_quietL {o:Oper} {a:Act} {R:Bool→Bool→Prop} {K:Act→Prop} {K':Act→World→Prop} {Q':Exit→Act→World→Prop} {w:World} {c c':Bool} (hR:R c c') (hw:C c w) (h:∀a w',C c' w'→K a→K' a w') (hh:o.quietL P a C R K):o.wp P a w K' Q':=by
 obtain⟨v,h1,h2⟩:=hh;have h3:=h1 c c' hR w hw;unfold Oper.turnAt at h3;unfold Oper.wp
 generalize (execOp a.eval o).run P w=r at *
 cases r with
 |ok n w'=>
  cases n<;>simp only[Oper.turnUpon] at h3<;>simp only[Oper.upon]
  case value u=>
   obtain⟨e1,e2,e3⟩:=h3;rw[e1,e2];exact h _ _ e3 h2
  case skip=>
   obtain⟨e1,e2,e3⟩:=h3;rw[e1,←e2];exact h _ _ e3 h2
  case enter f args=>
   obtain⟨e1,hc⟩:=h3;rw[e1]
   exact hc.mono fun e w'' ⟨he,hw''⟩=>by subst he;exact h _ _ hw'' h2
 |halt x w'=>simp only[Oper.turnUpon] at h3
theorem Zgb {n i:Nat} {listed:Array Bool} (inv:HeadInv md ops n listed) (hr:i ∈ Region.ready md ops listed) {a:Act} {K:Act→Prop} {K':Act→World→Prop} {Q':Exit→Act→World→Prop} {w:World} (hC:C (listed.getD k false) w)
 (h:∀a w',C ((listed.setIfInBounds i true).getD k false) w'→K a→K' a w') (hh:qOpL P md ops C k i K a):wpOp P ops Q' i K' a w:=by
 have hun:=(mem_ready.1 hr).1
 have his:i < listed.size:=by
  rcases Nat.lt_or_ge i listed.size with q|q
  · exact q
  rw[Array.getD_eq_getD_getElem?,Array.getElem?_eq_none q] at hun;cases hun
 have key:i≠k→(listed.setIfInBounds i true).getD k false=listed.getD k false:=fun hne=>getD_set_ne false hne
 unfold qOpL at hh;unfold wpOp
 split
 · rename_i ho
   simp only[ho] at hh;exact h _ _ (by rw[key hh.1];exact hC) hh.2
 rename_i o ho
 simp only[ho] at hh
 split
 · rename_i hw
   simp only[hw,if_true] at hh;refine .inl (Oper.wp_of_quietL (c:=listed.getD k false) (c':=(listed.setIfInBounds i true).getD k false) ?_ hC h hh);unfold leg
   by_cases hik:i=k
   · subst hik
     rw[if_pos rfl];exact⟨getD_both hun,by simp[his]⟩
   rw[if_neg hik,key hik]
   by_cases hwt:Zcv md ops k ops.size i=true
   · rw[if_pos hwt]
     have:=Zhl inv hr _ hwt;exact⟨this,this⟩
   rw[if_neg hwt]
 rename_i hw
 simp only[hw] at hh;exact h _ _ (by rw[key hh.1];exact hC) hh.2
theorem Zcu {n g:Nat} {L:Array Bool→Act→Prop} {Q':Exit→Act→World→Prop} (hL:∀listed a w,C (listed.getD k false) w→L listed a→wpAny P md ops Q' g listed a w):
 ∀(f:Nat) (listed:Array Bool) (a:Act) (w:World),HeadInv md ops n listed→C (listed.getD k false) w→ZdU P md ops C k n L f listed a→wpAny P md ops Q' (f + g) listed a w
 |0,listed,a,w,_,hw,h=>by rw[Nat.zero_add];exact hL _ _ _ hw h
 |f + 1,listed,a,w,inv,hw,h=>by
  rw[show f + 1 + g=(f + g) + 1 by omega];exact⟨fun h0=>absurd h0 h.1,fun i hi=>Zgb inv hi hw (fun a' w' hw' h'=>Zcu hL f _ a' w' (inv.set hi (h.2 i hi).1) hw' h') (h.2 i hi).2⟩
theorem Zfh {n i:Nat} {oi:Oper} {v:Value} {L:Array Bool→Act→Prop} (hi:ops[i]? =some oi) (hsel:∀(j:Nat) (o:Oper) cs b,ops[j]? =some o→o.op≠.select cs b)
 (hs:Region.sinkB md ops n=true) (hc:Region.chainB md ops n=true) (hn:n < ops.size) (hin:i < n)
 (hdone:∀listed a,L listed a→∀j ∈ Region.ready md ops listed,n≤j):
 ∀(f:Nat) (listed:Array Bool) (a:Act),HeadInv md ops n listed→
  (∀j oj,ops[j]? =some oj→j≠i→listed.getD j true=false→(∀e ∈ oj.after,Region.binds md e=true→e.on≠i)→oi.apart ops oj=true)→
  i ∈ Region.ready md ops listed→Zbo P md ops C k i oi v a→
  ZdU P md ops C k n L f (listed.setIfInBounds i true) (a.put oi.dst v)→ZdU P md ops C k n L (f + 1) listed a:=by
 intro f
 induction f with
 |zero=>
  intro listed a inv _ hr hy H;have hun:=(mem_ready.1 hr).1;refine⟨fun h=>(by rw[h] at hr;cases hr),fun j hj=> ?_⟩
  have hjn:j < n:=by
   rcases Nat.lt_or_ge j n with h|h
   · exact h
   exact absurd hj (tail_waits hs hc hn inv _ i rfl hin hun j h)
  refine⟨hjn,?_⟩
  by_cases hji:j=i
  · subst hji;exact hy.qOp hi H
  have:=hdone _ _ H j (ready_mono hj hji)
  omega
 |succ f ih=>
  intro listed a inv hfree hr hy H;have hun:=(mem_ready.1 hr).1;refine⟨fun h=>(by rw[h] at hr;cases hr),fun j hj=> ?_⟩
  have hjn:j < n:=by
   rcases Nat.lt_or_ge j n with h|h
   · exact h
   exact absurd hj (tail_waits hs hc hn inv _ i rfl hin hun j h)
  refine⟨hjn,?_⟩
  by_cases hji:j=i
  · subst hji;exact hy.qOp hi H
  have h1:=(H.2 j (ready_mono hj hji)).2
  obtain⟨hjun,oj,hoj,hall⟩:=mem_ready.1 hj
  have hnot:∀e ∈ oj.after,Region.binds md e=true→e.on≠i:=fun e he hb heq=>by
   have h1:=hall e he hb;rw[heq,getD_both hun] at h1;cases h1
  have h2:=ZlO (i:=i) hoj (hfree j oj hoj hji hjun hnot) (fun cs b=>hsel i oi cs b hi) (fun cs b=>hsel j oj cs b hoj) hy h1
  have hfree':∀t ot,ops[t]? =some ot→t≠i→(listed.setIfInBounds j true).getD t true=false→
   (∀e ∈ ot.after,Region.binds md e=true→e.on≠i)→oi.apart ops ot=true:=fun t ot ht hti hun hno=>by
   refine hfree t ot ht hti ?_ hno
   by_cases hjt:j=t
   · subst hjt;exact hjun
   rw[getD_set_ne true hjt] at hun;exact hun
  refine Zke (fun a' h3=>ih (listed.setIfInBounds j true) a' (inv.set hj hjn) hfree' (ready_mono hr (Ne.symm hji)) h3.1 ?_) h2;rw[Array.setIfInBounds_comm _ _ hji];exact h3.2
theorem ZdT {n g:Nat} {Lq:Act→Prop} (hsel:Region.noSelect ops=true) (hs:Region.sinkB md ops n=true) (hc:Region.chainB md ops n=true) (hn:n < ops.size) (hkn:k < n):
 ∀(l:List Oper) (t:Nat) (listed:Array Bool) (a:Act),(∀j,j < l.length→l[j]? =ops[t + j]?)→t + l.length=n→HeadInv md ops n listed→(∀j,j < t→listed.getD j false=true)→
 Region.lexHead md ops g l.length t listed=true→ZaH P md ops C k Lq t l a→
 ZdU P md ops C k n (fun listed' a'=>Region.seqB md ops g n listed'=true∧listed'.getD k false=true∧Lq a') l.length listed a
 |[],t,listed,a,_,ht,_,hd,hB,h=>by
  have:t=n:=by simpa using ht
  subst this;exact⟨by simpa [Region.lexHead] using hB,hd k hkn,h⟩
 |o::l,t,listed,a,hl,ht,inv,hd,hB,h=>by
  have h0:ops[t]? =some o:=by simpa using(hl 0 (by simp)).symm
  simp only[List.length_cons,Region.lexHead,Bool.and_eq_true] at hB;obtain⟨⟨hr,hf⟩,hB'⟩:=hB
  have htn:t < n:=by simp only[List.length_cons] at ht;omega
  have hr':t ∈ Region.ready md ops listed:=by simpa using hr
  have hst:qOpL P md ops C k t (ZaH P md ops C k Lq (t + 1) l) a:=by unfold qOpL;simp only[h0];exact h
  obtain⟨v,hy,hK⟩:=ZeB h0 hst
  have hts:t < listed.size:=by rw[inv.size];omega
  exact Zfh h0 (Region.noSelect_spec hsel) hs hc hn htn (fun listed' a' hL=>seqB_ready hL.1) l.length listed a inv (Region.free_spec h0 hf) hr' hy
   (ZdT hsel hs hc hn hkn l (t + 1) _ _ (fun j hj=>by have:=hl (j + 1) (by simp;omega);simpa [Nat.add_assoc,Nat.add_comm 1 j] using this) (by simp only[List.length_cons] at ht;omega) (inv.set hr' htn)
     (fun j hj=>by
       by_cases hjt:j=t
       · subst hjt;simp[hts]
       rw[getD_set_ne false (Ne.symm hjt)];exact hd j (by omega)) hB' hK)
theorem ZeD {id:Nat} {Q:Exit→Act→World→Prop} {a:Act} {w:World} {l:List Oper} (n k:Nat) (C:Bool→World→Prop) (hm:P.follows .mixedOrders=true) (hB:Region.lexTailB .any l.toArray n=true) (hkn:k < n)
 (hC:C false w.drew) (h:ZaH P .any l.toArray C k (fun a'=>∀w',C true w'→wpList P l.toArray Q (l.drop n) a' w') 0 (l.take n) a):(Code.region id l.toArray true).wp P Q a w:=by
 simp only[Region.lexTailB,Bool.and_eq_true,decide_eq_true_eq] at hB;obtain⟨⟨⟨⟨hsel,hn⟩,hs⟩,hc⟩,hlex⟩:=hB
 have hn':n < l.length:=by simpa using hn
 have htl:(l.take n).length=n:=by simp;omega
 have hdl:(l.drop n).length=l.toArray.size - n:=by simp
 have inv0:HeadInv .any l.toArray n (Array.replicate l.toArray.size false):=
  ⟨by simp,fun j oj _ hl=>(by rw[getD_replicate_false] at hl;cases hl),fun t _ ht=>getD_in (by simpa using ht) (getD_replicate_false _ _)⟩
 have H:=ZdT (C:=C) (md:=.any) (g:=l.toArray.size - n) hsel hs hc hn hkn (l.take n) 0 _ a (fun j hj=>by
  have hj':j < n:=by rw[htl] at hj;exact hj
  simp[hj']) (by simpa using htl) inv0 (fun j hj=>by omega) (by rw[htl];exact hlex) h
 refine wp_region_any hm ?_
 have:=Zcu (Q':=Q) (g:=l.toArray.size - n) (fun listed a' w' hw' hL=>by
  rw[hL.2.1] at hw';have:=wpAny_of_seq (md:=.any) (Q':=Q) (l.drop n) n listed a' w' (fun j=>by simp[List.getElem?_drop]) (by rw[hdl];exact hL.1) (hL.2.2 w' hw')
  rwa [hdl] at this) _ _ _ _ inv0 (by rw[getD_replicate_false];exact hC) H
 rw[htl,show n + (l.toArray.size - n)=l.toArray.size by omega] at this;exact this
end
end Go
end
namespace Go.Proofs.YtkdjkngfnapjcaaGreatDoor
section
section
open Go.RowKit
section
variable {P:Program} {ops:Array Oper} {rest:List Oper} {o:Oper} {a:Act} {Q:Exit→Act→World→Prop} {L0 L F:List Part} {w0 w:World} {S:Nat}
theorem ZcH {E:TypeId} {x:Operand} (hg:o.guard=none) (hop:o.op=.box E x) {v:Value} (hx:a.eval x=v) {vs:List Value} (hv:v.cells=vs.toArray) (h:At L0 w0 L w) (hS:w.heap.size=S)
 (hK:∀w',At L0 w0 (Part.cells S vs E::L) w'→w'.heap.size=S + 1→wpList P ops Q rest (a.put o.dst (.pointer (some ⟨S,0,none⟩))) w'):wpList P ops Q (o::rest) a w:=by
 subst hS;refine Zak hg ?_ (hK _ (h.alloc vs E) (by simp));simp[execOp,hop,hx,Instr.box,newVar,newRow,hv,Result.andThen]
theorem Zc6 {t:TypeId} (P:Program) (k:TypeId) (hg:o.guard=none) (hop:o.op=.makeMap t none) (h:At L0 w0 L w) (hS:w.heap.size=S)
 (hK:∀w',At L0 w0 (Part.map P k S []::L) w'→w'.heap.size=S + 1→wpList P ops Q rest (a.put o.dst (.map (some S))) w'):wpList P ops Q (o::rest) a w:=by
 subst hS;refine Zak hg ?_ (hK _ (h.new ((Ext.refl w).alloc (.map #[] 0)) _ (MapAt.made P k w) (fun _ e=>by cases e;exact Nat.le_refl _)) (by simp));simp[execOp,hop,run_makeMap,Result.andThen]
end
section
variable {P:Program} {ops:Array Oper} {i:Nat} {o:Oper} {a:Act} {Q:Exit→Act→World→Prop} {K:Act→World→Prop} {L0 L F:List Part} {w0 w:World}
end
def TurnC (L0:List Part) (w0:World) (L:List Part) (N:Nat) (L':List Part) (c:Bool) (w:World):Prop:=if c=true then At L0 w0 L' w else At L0 w0 L w∧w.heap.size=N
section
variable {P:Program} {md:Region.Mode} {ops:Array Oper} {k n:Nat} {rest:List Oper} {o:Oper} {a:Act} {Q:Act→Prop} {L0 L L':List Part} {w0:World} {N:Nat}
theorem Zhp {w:World} (h:At L0 w0 L w) (hN:w.heap.size=N):TurnC L0 w0 L N L' false w.drew:=by
 unfold TurnC;rw[if_neg (by simp)];exact⟨h.drew,hN⟩
theorem Zgf {w:World} (h:TurnC L0 w0 L N L' true w):At L0 w0 L' w:=by unfold TurnC at h;rwa [if_pos rfl] at h
theorem ZcK {C:Bool→World→Prop} (hw:Region.wanted o (yielded ops a.tmps)=true) (hnk:n≠k) {v:Value} (hrun:∀w,(execOp a.eval o).run P w=.ok (.value v) w) (hK:ZaH P md ops C k Q (n + 1) rest (a.put o.dst v)):
 ZaH P md ops C k Q n (o::rest) a:=by
 refine Zbq fun K hh=> ?_
 rw[hw];simp only[if_true];refine⟨v,fun c c' hR w hC=> ?_,hh _ hK⟩;unfold Oper.turnAt;rw[hrun w];refine⟨rfl,rfl,?_⟩;unfold leg at hR;rw[if_neg hnk] at hR
 split at hR
 · obtain⟨rfl,rfl⟩:=hR;exact hC
 subst hR;exact hC
theorem Zge (hw:Region.wanted o (yielded ops a.tmps)=true) (hnk:n≠k) {v:Value} (h1:∀w,At L0 w0 L w→(execOp a.eval o).run P w=.ok (.value v) w) (h2:∀w,At L0 w0 L' w→(execOp a.eval o).run P w=.ok (.value v) w)
 (hK:ZaH P md ops (TurnC L0 w0 L N L') k Q (n + 1) rest (a.put o.dst v)):ZaH P md ops (TurnC L0 w0 L N L') k Q n (o::rest) a:=by
 refine Zbq fun K hh=> ?_
 rw[hw];simp only[if_true];refine⟨v,fun c c' hR w hC=> ?_,hh _ hK⟩
 have hrun:(execOp a.eval o).run P w=.ok (.value v) w:=by
  unfold TurnC at hC;cases c
  · exact h1 w (by simpa using hC.1)
  exact h2 w (by simpa using hC)
 unfold Oper.turnAt;rw[hrun];refine⟨rfl,rfl,?_⟩;unfold leg at hR;rw[if_neg hnk] at hR
 split at hR
 · obtain⟨rfl,rfl⟩:=hR;exact hC
 subst hR;exact hC
theorem ZjL (hw:Region.wanted o (yielded ops a.tmps)=true) (hnk:n≠k) (hwt:Zcv md ops k ops.size n=true) {v:Value} (h2:∀w,At L0 w0 L' w→(execOp a.eval o).run P w=.ok (.value v) w)
 (hK:ZaH P md ops (TurnC L0 w0 L N L') k Q (n + 1) rest (a.put o.dst v)):ZaH P md ops (TurnC L0 w0 L N L') k Q n (o::rest) a:=by
 refine Zbq fun K hh=> ?_
 rw[hw];simp only[if_true];refine⟨v,fun c c' hR w hC=> ?_,hh _ hK⟩;unfold leg at hR;rw[if_neg hnk,if_pos hwt] at hR;obtain⟨rfl,rfl⟩:=hR;unfold Oper.turnAt;rw[h2 w (Zgf hC)];exact⟨rfl,rfl,hC⟩
theorem ZjM (hw:Region.wanted o (yielded ops a.tmps)=true) (hnk:n=k) {v:Value} {f:FuncId} {args:Array Value} (hrun:∀w,(execOp a.eval o).run P w=.ok (.enter f args) w)
 (hc:∀w,At L0 w0 L w→w.heap.size=N→Calls P f args w fun e w'=>e=.returned v∧At L0 w0 L' w')
 (hK:ZaH P md ops (TurnC L0 w0 L N L') k Q (n + 1) rest (a.put o.dst v)):ZaH P md ops (TurnC L0 w0 L N L') k Q n (o::rest) a:=by
 refine Zbq fun K hh=> ?_
 rw[hw];simp only[if_true];refine⟨v,fun c c' hR w hC=> ?_,hh _ hK⟩;unfold leg at hR;rw[if_pos hnk] at hR;obtain⟨rfl,rfl⟩:=hR;unfold Oper.turnAt;rw[hrun w];unfold TurnC at hC;simp only[Bool.false_eq_true,if_false] at hC;refine⟨rfl,(hc w hC.1 hC.2).mono fun e w' ⟨he,h⟩=>⟨he,?_⟩⟩;unfold TurnC;rw[if_pos rfl];exact h
end
end
end
section
namespace Lease
open Go.RowKit
open Go.Maps (Keyed)
theorem Zl9 {w:World} {p m:Nat} {ss:List Ses} (h:Sep [BookP p m ss] w) {n:Int} {f:ByteArray} (h0:0≤n) (h1:n < big64) (hf:f.size≤maxLen) (hn:find ss n f=none) {S:Nat} (hS:w.heap.size=S):
 Calls Tryz.prog 170 #[.pointer (some ⟨p,0,none⟩),.agg #[.int .u64 n,.string f]] w fun e w'=>e=.returned (.pointer (some ⟨S + 2,0,none⟩))∧At [BookP p m ss] w [BookP p m (ss++[fresh n f (S + 2) (S + 1)])] w':=by
 obtain⟨kl,hk⟩:=keyS h0 h1 hf;have hmiss:=Hd (find_none hn);have hA:=begin0 h;have hF:=hA.facts;have hS':=Hd hS;clear h hS
 unfold keyV at *
 go_enter Tryz.func170,Tryz.ntmps170
 go_wp2_with (refine ZcH (E:=25) rfl rfl (by(try simp only[Act.eval,eV])<;>exact rfl) (by exact rfl) hA hS'.out ?_;intro w1 hB hS1;clear hF hA hS';have hS':=Hd hS1;clear hS1;have hA:=hB;clear hB;obtain⟨hA,hF⟩:=fY hA)
 have hl:∀q,(Instr.lookup 212 (.map (some m)) (.agg #[.int .u64 n,.string f]) true).run Tryz.prog (w1.drewN q)=.ok (.tuple #[.pointer none,.bool false]) (w1.drewN q):=fun q=>
  MapAt.look_none (w:=w1.drewN q) ((hA.drewN q).get (A:=mapC m (ents ss)) sR) lawS Tryz.underlying212 hk hmiss.out (by kernel_rfl) true
 go_quiet (fail)
 have hS2:=(show(World.drewN w1 nq).heap.size=S + 1 from hS'.out)
 have hA:=hA.drewN nq;clear hl hS'
 generalize World.drewN _ nq=w2 at *
 have hS':=Hd hS2;clear hS2 hF;obtain⟨hA,hF⟩:=fY hA
 go_wp2_with (first|(refine Zc6 Tryz.prog 23 rfl rfl hA hS'.out ?_;intro w1 hB hS1;clear hF hA hS';have hS':=Hd hS1;clear hS1;have hA:=hB;clear hB;obtain⟨hA,hF⟩:=fY hA)|(refine ZcH (E:=219) rfl rfl (by(try simp only[Act.eval,eV])<;>exact rfl) (by exact rfl) hA hS'.out ?_;intro w1 hB hS1;clear hF hA hS';have hS':=Hd hS1;clear hS1;have hA:=hB;clear hB;obtain⟨hA,hF⟩:=fY hA))
 (refine Zaj 6 (fun w'=>∃n,w'=World.drewN _ n) (by kernel_rfl) (by kernel_rfl) ⟨1,rfl⟩ ?_);(simp only[List.take_succ_cons,List.take_zero,List.drop_succ_cons,List.drop_zero]);(repeat(first|go_big_quiet_step (fail)|quiet_step (fail)));(refine wpQuiet_nil ?_);(rintro _ ⟨nq,rfl⟩)
 have hA:=hA.drewN nq;generalize World.drewN _ nq=w1 at *;clear hF;obtain⟨hA,hF⟩:=fY hA
 refine Zao rfl rfl rfl (by(try simp only[Act.eval,eV])<;>exact rfl) (by(try simp only[Act.eval,eV])<;>exact rfl) hA sR lawS Tryz.underlying212 hk hmiss.out ?_;intro w1 hB;clear hF hA;have hA:=hB;clear hB;obtain⟨hA,hF⟩:=fY hA
 go_wp2_with fail
 go_ret;exact⟨rfl,Zg6 (fresh n f _ _) hA sR sZ sZ sZ sR⟩
def Zn5 (w:World) (p m:Nat) (ss:List Ses) (n:Int) (f:ByteArray) (r:Int) (c:Ans) (e:Ending) (w':World):Prop:=
 ∃b t,e=.returned (.tuple #[])∧At [BookP p m ss] w [BookP p m (ss++[{fresh n f b t with told:=[(r,c)]}])] w'
theorem Zgj {w:World} {p m:Nat} {ss:List Ses} (h:Sep [BookP p m ss] w) {n r:Int} {f:ByteArray} (h0:0≤n) (h1:n < big64) (hf:f.size≤maxLen) (hn:find ss n f=none) (r0:0≤r) (r1:r < big64) (c:Ans):
 Calls Tryz.prog 119 #[.pointer (some ⟨p,0,none⟩),.agg #[.int .u64 n,.string f],.int .u64 r,.agg #[.int .i64 c.e,.int .u64 c.n,.bool c.g]] w (Zn5 w p m ss n f r c):=by
 obtain⟨ku,hu⟩:=keyU r0 r1;have hA:=At.start h;have hF:=hA.facts
 have hl':(look ss n f).told.length < 256:=by unfold look;rw[hn];simp[fresh]
 clear h
 go_enter Tryz.func119,Tryz.ntmps119
 go_wp2_with (first|((with_reducible refine gbx ?_);refine wCy (E:=25) hA ?_;clear hF hA;intro bS w1 hA hbS hF)|((with_reducible refine gbx ?_);refine wCy (E:=107) hA ?_;clear hF hA;intro bA w1 hA hbA hF))
 refine(Zgg (hA.sep1 sR) h0 h1 hf hn).mono ?_;rintro e w1 ⟨rfl,hT⟩;replace hA:=hA.call1 sR hT;clear hF hT;obtain⟨hA,hF⟩:=fY hA
 go_wp2_with (first|((with_reducible refine gal ?_);refine g0 hA ?_;clear hF hA;intro bQ w1 hA hbQ hF)|((with_reducible refine gst ?_);refine wTy hA ?_;clear hF hA;intro w1 hA hF))
 refine(Zfv (hA.sep1 sR) h0 h1 hf hl').mono ?_;rintro e w1 ⟨rfl,hT⟩;replace hA:=hA.call1 sR hT;clear hF hT;obtain⟨hA,hF⟩:=fY hA
 go_wp2_with fail
 obtain⟨S,hS⟩:∃S,w1.heap.size=S:=⟨_,rfl⟩
 refine ZeD 8 2 (TurnC [BookP p m ss] w _ S [sesC (S + 2) (fresh n f (S + 2) (S + 1)).cells,toldC (S + 1) (saids []),restP (ss++[]),headC p m,mapC m (ents (ss++[fresh n f (S + 2) (S + 1)])),Part.cells bQ [.int .i64 0,.int .u64 0,.bool false] 107,Part.cells bA [.int .i64 c.e,.int .u64 c.n,.bool c.g] 107,Part.cells bS [.int .u64 n,.string f] 25]) (by kernel_rfl) (by kernel_rfl) (by decide) (Zhp hA hS) ?_;simp only[List.take_succ_cons,List.take_zero,List.drop_succ_cons,List.drop_zero];refine ZcK (v:=.pointer (some ⟨p,0,none⟩)) rfl (by decide) (fun _=>rfl) ?_;go_frame;refine Zge (v:=.agg #[.int .u64 n,.string f]) rfl (by decide) (fun w hw=>Zag (ty:=25) (n:=2) rfl rfl (hw.get (A:=Part.cells bS [.int .u64 n,.string f] 25) sR) (by kernel_rfl) (by kernel_rfl) rfl rfl) (fun w hw=>Zag (ty:=25) (n:=2) rfl rfl (hw.get (A:=Part.cells bS [.int .u64 n,.string f] 25) sR) (by kernel_rfl) (by kernel_rfl) rfl rfl) ?_;go_frame;refine ZjM (v:=.pointer (some ⟨S + 2,0,none⟩)) (f:=170) (args:= #[.pointer (some ⟨p,0,none⟩),.agg #[.int .u64 n,.string f]]) rfl rfl (fun _=>by kernel_rfl) (fun w hw hs=>(Zl9 (m:=m) (ss:=ss) (hw.sep1 sR) h0 h1 hf hn hs).mono fun e w' ⟨he,t⟩=>⟨he,(open1 (l1:=ss) (l2:=[]) (s:=fresh n f (S + 2) (S + 1)) (hw.call1 sR t) sZ).pick pZ⟩) ?_;go_frame;refine ZcK (v:=.pointer (some ⟨S + 2,0,none⟩)) rfl (by decide) (fun _=>rfl) ?_;go_frame;refine ZcK (v:=.pointer (some ⟨S + 2,5,none⟩)) rfl (by decide) (fun _=>by kernel_rfl) ?_;go_frame;refine ZjL (v:=.map (some (S + 1))) rfl (by decide) (by kernel_rfl) (fun w hw=>Zab (ty:=217) rfl rfl (hw.get (A:=sesC (S + 2) (fresh n f (S + 2) (S + 1)).cells) sR) (by kernel_rfl) rfl) ?_;go_frame;refine ZcK (v:=.int .u64 r) rfl (by decide) (fun _=>rfl) ?_;go_frame;refine Zge (v:=.agg #[.int .i64 c.e,.int .u64 c.n,.bool c.g]) rfl (by decide) (fun w hw=>Zag (ty:=107) (n:=3) rfl rfl (hw.get (A:=Part.cells bA [.int .i64 c.e,.int .u64 c.n,.bool c.g] 107) sR) (by kernel_rfl) (by kernel_rfl) rfl rfl) (fun w hw=>Zag (ty:=107) (n:=3) rfl rfl (hw.get (A:=Part.cells bA [.int .i64 c.e,.int .u64 c.n,.bool c.g] 107) sR) (by kernel_rfl) (by kernel_rfl) rfl rfl) ?_;go_frame;refine Zf9 ?_;intro w2 hw2;replace hA:=Zgf hw2;clear hF hw2 hS;refine Zao rfl rfl rfl (by(try simp only[Act.eval,eV])<;>exact rfl) (by(try simp only[Act.eval,eV])<;>exact rfl) hA (k:=23) (es:=saids []) sR lawU Tryz.underlying217 hu nofun ?_;intro w1 hB;clear hA;have hA:=hB;clear hB
 go_wp2_with fail
 go_end0
 refine⟨S + 2,S + 1,rfl,?_⟩
 have e1:saids []++[(Value.int .u64 r,Value.agg #[.int .i64 c.e,.int .u64 c.n,.bool c.g])]=saids [(r,c)]:=by simp[saids,saidE,Ans.val]
 have e2:ents (ss++[fresh n f (S + 2) (S + 1)])=ents (ss++{fresh n f (S + 2) (S + 1) with told:=[(r,c)]}::[]):=by simp[ents,ent,Ses.key,Ses.ptr]
 rw[e1,e2] at hA;exact ZcA (m:=m) (l1:=ss) (l2:=[]) (s:={fresh n f (S + 2) (S + 1) with told:=[(r,c)]}) hA sR sR sZ sZ sR
end Lease
end
section
namespace SortU
open Go.RowKit
open Go.Sort (swp ltInt insInner insOuter)
def rowC (d:Array Int) (r:List Value):List Value:=d.toList.map (Value.int .u64)++r
def atU (d:Array Int) (i:Nat):Int:=d[i]!
def ltU (x y:Int):Bool:=ltInt x y
abbrev blkU (g:Nat) (d:Array Int) (r:List Value):Part:=.cells g (rowC d r) 23
theorem Zau {d:Array Int} {r:List Value} {i:Nat} (h:i < d.size):(rowC d r)[i]? =some (.int .u64 (atU d i)):=by
 unfold rowC atU;rw[List.getElem?_append_left (by simpa using h),List.getElem?_map,Array.getElem?_toList,getElem!_pos d i h,Array.getElem?_eq_getElem h]
 rfl
theorem ZlM (d:Array Int) (r:List Value):(rowC d r).length=d.size + r.length:=by simp[rowC]
theorem Zik {d:Array Int} {r:List Value} {i:Nat} (h:i < d.size) (x:Int):setL (rowC d r) i [.int .u64 x]=rowC (d.setIfInBounds i x) r:=by
 unfold rowC;simp only[setL,Array.toList_setIfInBounds,List.map_set];rw[List.set_append_left _ _ (by simpa using h)]
theorem ZlL {d:Array Int} {r:List Value} {i j:Nat} (hi:i < d.size) (hj:j < d.size):setL (setL (rowC d r) i [.int .u64 (atU d j)]) j [.int .u64 (atU d i)]=rowC (swp d i j) r:=by
 rw[Zik hi,Zik (by simpa using hj)]
 rfl
theorem ZaG {L0 L F:List Part} {w0 w:World} {g:Nat} {d:Array Int} {r:List Value} (h:At L0 w0 L w) (s:Sel (blkU g d r) L F) {i j:Nat} (hi:i < d.size) (hj:j < d.size):
 At L0 w0 (blkU g (swp d i j) r::F) ((w.setCell ⟨g,i,none⟩ (.int .u64 (atU d j))).setCell ⟨g,j,none⟩ (.int .u64 (atU d i))):=by
 have h0:=At.store h s i (.int .u64 (atU d j));have h1:=At.store h0 .here j (.int .u64 (atU d i));rw[show((rowC d r).set i (.int .u64 (atU d j))).set j (.int .u64 (atU d i))=rowC (swp d i j) r from ZlL hi hj] at h1;exact h1
theorem Zai {L0 L F:List Part} {w0 w:World} {g:Nat} {d:Array Int} {r:List Value} (h:At L0 w0 L w) (s:Sel (blkU g d r) L F) {i:Nat} (hi:i < d.size):w.cell? ⟨g,i,none⟩=some (.int .u64 (atU d i)):=((h.get s:Zaa w g (rowC d r) 23).cell i).trans (Zau hi)
theorem Zah {L0 L F:List Part} {w0 w:World} {g:Nat} {d:Array Int} {r:List Value} (h:At L0 w0 L w) (s:Sel (blkU g d r) L F) (i:Nat):w.frozen? ⟨g,i,none⟩=false:=(h.get s:Zaa w g (rowC d r) 23).free i
theorem Zap (d:Array Int) (i j:Nat):(swp d i j).size=d.size:=by simp[swp]
theorem Zky (x:Int) (w:World):Calls Tryz.prog 138 #[.int .u64 x] w fun e w'=>e=.returned (.bool false)∧w'=w:=by
 go_enter Tryz.func138,Tryz.ntmps138
 go_wp2
 go_ret;exact⟨by simp,rfl⟩
theorem Zl7 (x y:Int) (w:World):Calls Tryz.prog 324 #[.int .u64 x,.int .u64 y] w fun e w'=>e=.returned (.bool (ltU x y))∧w'=w:=by
 go_enter Tryz.func324,Tryz.ntmps324
 go_wp2_with (go_at_call 138;refine(Zky _ _).mono ?_;rintro e w' ⟨rfl,rfl⟩)
 go_ret;exact⟨by simp[ltU,ltInt],rfl⟩
theorem ZhJ {L0 L:List Part} {w0 w:World} (h:At L0 w0 L w) (x y:Int) {b:Bool} (hb:ltU x y=b):Calls Tryz.prog 324 #[.int .u64 x,.int .u64 y] w fun e w'=>e=.returned (.bool b)∧At L0 w0 L w':=by
 subst hb
 exact(Zl7 x y w).mono fun _ _ ⟨h1,h2⟩=>⟨h1,by rw[h2];exact h⟩
theorem ZhM {a j:Nat} {d:Array Int} (hj:a < j + 1) (hl:ltU (atU d (j + 1)) (atU d j)=true):insInner ltInt a (j + 1) d=insInner ltInt a j (swp d (j + 1) j):=by
 have hl':ltInt d[j + 1]! d[j]! =true:=hl;rw[insInner];simp[hj,hl']
theorem ZcV {a j:Nat} {d:Array Int} (h:j≤a∨∃k,j=k + 1∧ltU (atU d (k + 1)) (atU d k)=false):insInner ltInt a j d=d:=by
 cases j with
 |zero=>rw[insInner]
 |succ k=>
  rw[insInner]
  rcases h with h|⟨m,hm,h⟩
  · simp[show ¬k + 1 > a by omega]
  have:m=k:=by omega
  subst this;have h':ltInt d[m + 1]! d[m]! =false:=h;simp[h']
theorem ZhL {a b i:Nat} {d:Array Int} (h:i < b):insOuter ltInt a b i d=insOuter ltInt a b (i + 1) (insInner ltInt a i d):=by rw[insOuter,if_pos h]
theorem ZfU {a b i:Nat} {d:Array Int} (h:¬i < b):insOuter ltInt a b i d=d:=by rw[insOuter,if_neg h]
def InsO (w:World) (g:Nat) (d:Array Int) (r:List Value) (a b:Nat) (k:Nat) (u:Value) (wr:World):Prop:=
 ∃(i:Nat) (dk:Array Int),u=.int .i64 i∧a < i∧i + k=b + 1∧dk.size=d.size∧At [blkU g d r] w [blkU g dk r] wr∧insOuter ltInt a b i dk=insOuter ltInt a b (a + 1) d
def InsI (w:World) (g:Nat) (d:Array Int) (r:List Value) (a i:Nat) (dk:Array Int) (k:Nat) (u:Value) (wr:World):Prop:=
 ∃dj:Array Int,u=.int .i64 (a + k:Nat)∧a + k≤i∧dj.size=d.size∧At [blkU g d r] w [blkU g dj r] wr∧insInner ltInt a (a + k) dj=insInner ltInt a i dk
theorem ZfT {w:World} {g cap n:Nat} {d:Array Int} {r:List Value} (h:Sep [blkU g d r] w) (hn:d.size=n) {a b:Nat} (hab:a≤b) (hb:b≤d.size) (hsz:d.size < 4611686018427387904):
 Calls Tryz.prog 318 #[.slice (some ⟨g,0,none⟩) n cap,.int .i64 a,.int .i64 b] w fun e w'=>e=.returned (.tuple #[])∧At [blkU g d r] w [blkU g (Sort.insertionSort ltInt d a b) r] w':=by
 have hA:=At.start h;clear h
 go_enter Tryz.func318,Tryz.ntmps318
 go_wp2_with fail
 go_loopg [6] (b - a) (InsO w g d r a b)
 case atStart=>exact⟨a + 1,d,by simp,by omega,by omega,rfl,hA,rfl⟩
 case round=>
  obtain⟨i,dk,rfl,hai,hik,hsk,hB,hO⟩:=hrel;have hO':=Hd hO;clear hA hO;have hA:=hB;clear hB
  by_cases hi:i < b
  · go_wp2_with fail
    go_loopg [7] (i - a) (InsI w g d r a i dk)
    case atStart=>exact⟨dk,by rw[show a + (i - a)=i by omega],by omega,hsk,hA,by rw[show a + (i - a)=i by omega]⟩
    case round=>
     obtain⟨dj,rfl,hji,hsj,hB,hI⟩:=hrel;have hI':=Hd hI;clear hA hI;have hA:=hB;clear hB
     have out:insInner ltInt a (a + gk) dj=dj→insOuter ltInt a b (i + 1) dj=insOuter ltInt a b (a + 1) d:=fun hs=>by
      rw[←hO'.out,ZhL hi,←hI'.out,hs]
     have out':=Hd out;clear out
     rcases Nat.eq_zero_or_pos gk with h0|hpos
     · subst h0
       obtain⟨hA,hF⟩:=fY hA;have hx:=Hd (out'.out (ZcV (.inl (by omega))))
       go_wp2_with fail
       refine cl2 hA ?_;clear hF hA;intro w1 hA hF;(try simp only[uY] at hA hF)
       go_wp2_with fail
       go_roundg (b - i)
       case measure=>omega
       case rel=>exact⟨i + 1,dj,by simp,by omega,by omega,hsj,hA,hx.out⟩
     obtain⟨m,rfl⟩:∃m,gk=m + 1:=⟨gk - 1,by omega⟩
     obtain⟨j,hj⟩:∃j,a + m=j:=⟨_,rfl⟩
     have ej:a + (m + 1)=j + 1:=by omega
     rw[ej] at hI' hji out' ⊢;have hj':=Hd hj;have e1:=Zau (d:=dj) (r:=r) (i:=j + 1) (by omega);have e2:=Zau (d:=dj) (r:=r) (i:=j) (by omega)
     have haj:a < j + 1:=by omega
     have hg:decide ((a:Int) < (j:Int) + 1)=true:=by simp;omega
     clear hj ej;obtain⟨hA,hF⟩:=fY hA;cases hl:ltU (atU dj (j + 1)) (atU dj j)
     · have hx:=Hd (out'.out (ZcV (.inr ⟨j,rfl,hl⟩)))
       have hl':=Hd hl;clear hl
       go_wp2_with fail
       refine cl0 hA ?_;clear hF hA;intro w1 hA hF;(try simp only[uY] at hA hF)
       go_wp2_with fail
       go_roundg (b - i)
       case measure=>omega
       case rel=>exact⟨i + 1,dj,by simp,by omega,by omega,hsj,hA,hx.out⟩
     have hx:=Hd (ZhM haj hl);have hl':=Hd hl;clear hl
     go_wp2_with fail
     refine cl0 hA ?_;clear hF hA;intro w1 hA hF;(try simp only[uY] at hA hF)
     go_wp2_with fail
     (try clear hF);(have k1:=Zai hA .here (i:=j + 1) (by omega));(have k2:=Zai hA .here (i:=j) (by omega));(have f1:=Zah hA .here (j + 1));(have f2:=Zah hA .here (j));go_region;(have hB:=(ZaG hA .here (i:=j + 1) (j:=j) (by omega) (by omega)).drew);(clear k1 k2 f1 f2 hA);(have hA:=hB);(clear hB);(generalize World.drew (World.setCell _ _ _)=wz at *)
     go_wp2_with fail
     go_roundg m
     case measure=>omega
     case rel=>exact⟨swp dj (j + 1) j,by rw[hj'.out],by have:=hj'.out;omega,by rw[Zap];exact hsj,hA,by rw[hj'.out,←hI'.out,hx.out]⟩
  have hx:=Hd (ZfU (a:=a) (d:=dk) hi)
  go_wp2_with fail
  go_end0
  refine⟨rfl,?_⟩;unfold Sort.insertionSort;rw[←hO'.out,hx.out];exact hA
end SortU
end
section
namespace SortU
open Go.RowKit
open Go.Sort (swp ltInt siftDown heapBuild heapPop reverseLoop)
theorem Zd6 {hi first root:Nat} {d:Array Int} (h:2 * root + 1 ≥ hi):siftDown ltInt hi first root d=d:=by rw[siftDown,dif_pos h]
theorem Zii {hi first root:Nat} {d:Array Int} (h:¬2 * root + 1 ≥ hi) (hn:¬(2 * root + 1 + 1 < hi∧ltU (atU d (first + (2 * root + 1))) (atU d (first + (2 * root + 1) + 1))=true)):
 siftDown ltInt hi first root d=if ltU (atU d (first + root)) (atU d (first + (2 * root + 1)))=true then siftDown ltInt hi first (2 * root + 1) (swp d (first + root) (first + (2 * root + 1))) else d:=by
 have hn':¬(2 * root + 1 + 1 < hi&&ltInt d[first + (2 * root + 1)]! d[first + (2 * root + 1) + 1]!)=true:=by simpa [ltU,atU] using hn
 rw[siftDown,dif_neg h,if_neg hn'];unfold ltU atU
 cases ltInt d[first + root]! d[first + (2 * root + 1)]! <;>simp
theorem Zih {hi first root:Nat} {d:Array Int} (h:¬2 * root + 1 ≥ hi) (hn:2 * root + 1 + 1 < hi∧ltU (atU d (first + (2 * root + 1))) (atU d (first + (2 * root + 1) + 1))=true):
 siftDown ltInt hi first root d=if ltU (atU d (first + root)) (atU d (first + (2 * root + 2)))=true then siftDown ltInt hi first (2 * root + 2) (swp d (first + root) (first + (2 * root + 2))) else d:=by
 have hn':(2 * root + 1 + 1 < hi&&ltInt d[first + (2 * root + 1)]! d[first + (2 * root + 1) + 1]!)=true:=by simpa [ltU,atU] using hn
 rw[siftDown,dif_neg h,if_pos hn',dif_pos (by omega)];unfold ltU atU
 cases ltInt d[first + root]! d[first + (2 * root + 2)]! <;>simp
def Zn6 (w:World) (g:Nat) (d:Array Int) (r:List Value) (hi first lo:Nat) (k:Nat) (u:Value) (wr:World):Prop:=
 ∃(root:Nat) (dk:Array Int),u=.int .i64 root∧hi - root≤k∧root < 4611686018427387904∧dk.size=d.size∧At [blkU g d r] w [blkU g dk r] wr∧siftDown ltInt hi first root dk=siftDown ltInt hi first lo d
theorem Zce {w:World} {g cap n:Nat} {d:Array Int} {r:List Value} (h:Sep [blkU g d r] w) (hn:d.size=n) {lo hi first:Nat} (hb:first + hi≤d.size) (hlo:lo < 4611686018427387904) (hsz:d.size < 4611686018427387904):
 Calls Tryz.prog 335 #[.slice (some ⟨g,0,none⟩) n cap,.int .i64 lo,.int .i64 hi,.int .i64 first] w fun e w'=>e=.returned (.tuple #[])∧At [blkU g d r] w [blkU g (siftDown ltInt hi first lo d) r] w':=by
 have hA:=At.start h;have hF:=hA.facts;clear h
 go_enter Tryz.func335,Tryz.ntmps335
 go_wp2_with fail
 go_loopg [8] (hi - lo) (Zn6 w g d r hi first lo)
 case atStart=>exact⟨lo,d,rfl,Nat.le_refl _,hlo,rfl,hA,rfl⟩
 case round=>
  obtain⟨root,dk,rfl,hk,hroot,hsk,hB,hO⟩:=hrel;have hO':=Hd hO;clear hF hA hO;have hA:=hB;clear hB
  obtain⟨c,hc⟩:∃c,2 * root + 1=c:=⟨_,rfl⟩
  have ec:(2:Int) * (root:Int) + 1=(c:Int):=by omega
  by_cases hch:c < hi
  · obtain⟨p,hp⟩:∃p,first + c=p:=⟨_,rfl⟩
    obtain⟨q,hq⟩:∃q,first + root=q:=⟨_,rfl⟩
    have ep:(first:Int) + (c:Int)=(p:Int):=by omega
    have ep1:(first:Int) + ((c:Int) + 1)=(p:Int) + 1:=by omega
    have eq:(first:Int) + (root:Int)=(q:Int):=by omega
    have e1:=Zau (d:=dk) (r:=r) (i:=p) (by omega);have e3:=Zau (d:=dk) (r:=r) (i:=q) (by omega)
    by_cases h2:c + 1 < hi∧ltU (atU dk p) (atU dk (p + 1))=true
    · have hx:=Zih (hi:=hi) (first:=first) (root:=root) (d:=dk) (by omega) (by rw[hc,hp];exact h2)
      rw[show 2 * root + 2=c + 1 by omega,hq,show first + (c + 1)=p + 1 by omega] at hx;obtain⟨h21,h22⟩:=h2;have h22':=Hd h22;have e2:=Zau (d:=dk) (r:=r) (i:=p + 1) (by omega)
      have hg:decide ((c:Int) + 1 < (hi:Int))=true:=by simp;omega
      have hc':=Hd hc;have hp':=Hd hp;have hq':=Hd hq;clear hc hp hq h22;obtain⟨hA,hF⟩:=fY hA;cases hl:ltU (atU dk q) (atU dk (p + 1))
      all_goals
       rw[hl] at hx;simp only[Bool.false_eq_true,if_false,if_true] at hx;have hx':=Hd hx;have hl':=Hd hl;clear hx hl
      · go_wp2_with fail
        refine cl6 hA ?_;clear hF hA;intro w1 hA hF;(try simp only[uY] at hA hF)
        go_wp2_with fail
        refine cl0 hA ?_;clear hF hA;intro w1 hA hF;(try simp only[uY] at hA hF)
        go_wp2_with fail
        refine bodyPost_ret (results_none rfl _ _ _) rfl ?_;exact⟨rfl,by rw[←hO'.out,hx'.out];exact hA⟩
      go_wp2_with fail
      refine cl6 hA ?_;clear hF hA;intro w1 hA hF;(try simp only[uY] at hA hF)
      go_wp2_with fail
      refine cl0 hA ?_;clear hF hA;intro w1 hA hF;(try simp only[uY] at hA hF);have b1:=hp'.out;have b2:=hq'.out
      go_wp2_with fail
      (try clear hF);(have k1:=Zai hA .here (i:=q) (by omega));(have k2:=Zai hA .here (i:=p + 1) (by omega));(have f1:=Zah hA .here (q));(have f2:=Zah hA .here (p + 1));go_region;(have hB:=(ZaG hA .here (i:=q) (j:=p + 1) (by omega) (by omega)).drew);(clear k1 k2 f1 f2 hA);(have hA:=hB);(clear hB);(generalize World.drew (World.setCell _ _ _)=wz at *)
      go_wp2_with fail
      go_roundg (hi - (c + 1))
      case measure=>have:=hc'.out;omega
      case rel=>exact⟨c + 1,swp dk q (p + 1),by simp,Nat.le_refl _,by omega,by rw[Zap];exact hsk,hA,by rw[←hO'.out,hx'.out]⟩
    have hx:=Zii (hi:=hi) (first:=first) (root:=root) (d:=dk) (by omega) (by rw[hc,hp];exact h2);rw[hc,hq,hp] at hx;have hc':=Hd hc;have hp':=Hd hp;have hq':=Hd hq;clear hc hp hq;obtain⟨hA,hF⟩:=fY hA
    by_cases h3:c + 1 < hi
    · have h4:ltU (atU dk p) (atU dk (p + 1))=false:=by simpa [h3] using h2
      have h4':=Hd h4;have e2:=Zau (d:=dk) (r:=r) (i:=p + 1) (by have:=hp'.out;omega)
      have hg:decide ((c:Int) + 1 < (hi:Int))=true:=by simp;omega
      clear h2 h4;cases hl:ltU (atU dk q) (atU dk p)
      all_goals
       rw[hl] at hx;simp only[Bool.false_eq_true,if_false,if_true] at hx;have hx':=Hd hx;have hl':=Hd hl;clear hx hl
      · go_wp2_with fail
        refine cl7 hA ?_;clear hF hA;intro w1 hA hF;(try simp only[uY] at hA hF)
        go_wp2_with fail
        refine cl0 hA ?_;clear hF hA;intro w1 hA hF;(try simp only[uY] at hA hF)
        go_wp2_with fail
        refine bodyPost_ret (results_none rfl _ _ _) rfl ?_;exact⟨rfl,by rw[←hO'.out,hx'.out];exact hA⟩
      go_wp2_with fail
      refine cl7 hA ?_;clear hF hA;intro w1 hA hF;(try simp only[uY] at hA hF)
      go_wp2_with fail
      refine cl0 hA ?_;clear hF hA;intro w1 hA hF;(try simp only[uY] at hA hF);have b1:=hp'.out;have b2:=hq'.out
      go_wp2_with fail
      (try clear hF);(have k1:=Zai hA .here (i:=q) (by omega));(have k2:=Zai hA .here (i:=p) (by omega));(have f1:=Zah hA .here (q));(have f2:=Zah hA .here (p));go_region;(have hB:=(ZaG hA .here (i:=q) (j:=p) (by omega) (by omega)).drew);(clear k1 k2 f1 f2 hA);(have hA:=hB);(clear hB);(generalize World.drew (World.setCell _ _ _)=wz at *)
      go_wp2_with fail
      go_roundg (hi - c)
      case measure=>have:=hc'.out;omega
      case rel=>exact⟨c,swp dk q p,rfl,Nat.le_refl _,by omega,by rw[Zap];exact hsk,hA,by rw[←hO'.out,hx'.out]⟩
    have hg:decide ((c:Int) + 1 < (hi:Int))=false:=by simp;omega
    clear h2;cases hl:ltU (atU dk q) (atU dk p)
    all_goals
     rw[hl] at hx;simp only[Bool.false_eq_true,if_false,if_true] at hx;have hx':=Hd hx;have hl':=Hd hl;clear hx hl
    · go_wp2_with fail
      refine cl2 hA ?_;clear hF hA;intro w1 hA hF;(try simp only[uY] at hA hF)
      go_wp2_with fail
      refine cl0 hA ?_;clear hF hA;intro w1 hA hF;(try simp only[uY] at hA hF)
      go_wp2_with fail
      refine bodyPost_ret (results_none rfl _ _ _) rfl ?_;exact⟨rfl,by rw[←hO'.out,hx'.out];exact hA⟩
    go_wp2_with fail
    refine cl2 hA ?_;clear hF hA;intro w1 hA hF;(try simp only[uY] at hA hF)
    go_wp2_with fail
    refine cl0 hA ?_;clear hF hA;intro w1 hA hF;(try simp only[uY] at hA hF);have b1:=hp'.out;have b2:=hq'.out
    go_wp2_with fail
    (try clear hF);(have k1:=Zai hA .here (i:=q) (by omega));(have k2:=Zai hA .here (i:=p) (by omega));(have f1:=Zah hA .here (q));(have f2:=Zah hA .here (p));go_region;(have hB:=(ZaG hA .here (i:=q) (j:=p) (by omega) (by omega)).drew);(clear k1 k2 f1 f2 hA);(have hA:=hB);(clear hB);(generalize World.drew (World.setCell _ _ _)=wz at *)
    go_wp2_with fail
    go_roundg (hi - c)
    case measure=>have:=hc'.out;omega
    case rel=>exact⟨c,swp dk q p,rfl,Nat.le_refl _,by omega,by rw[Zap];exact hsk,hA,by rw[←hO'.out,hx'.out]⟩
  have hx:=Hd (Zd6 (hi:=hi) (first:=first) (root:=root) (d:=dk) (by omega));clear hc
  go_wp2_with fail
  go_end0
  exact⟨rfl,by rw[←hO'.out,hx.out];exact hA⟩
theorem ZbX {hi first:Nat}:∀(n root:Nat) (d:Array Int),hi - root≤n→(siftDown ltInt hi first root d).size=d.size:=by
 intro n
 induction n with
 |zero=>
  intro root d h;rw[Zd6 (by omega)]
 |succ n ih=>
  intro root d h
  by_cases h0:2 * root + 1 ≥ hi
  · rw[Zd6 h0]
  by_cases h1:2 * root + 1 + 1 < hi∧ltU (atU d (first + (2 * root + 1))) (atU d (first + (2 * root + 1) + 1))=true
  · rw[Zih h0 h1]
    split
    · rw[ih _ _ (by omega),Zap]
    rfl
  rw[Zii h0 h1]
  split
  · rw[ih _ _ (by omega),Zap]
  rfl
def HeapB (w:World) (g:Nat) (d:Array Int) (r:List Value) (hi a:Nat) (k:Nat) (u:Value) (wr:World):Prop:=
 ∃dk:Array Int,u=.int .i64 ((k:Int) - 1)∧k≤d.size∧dk.size=d.size∧At [blkU g d r] w [blkU g dk r] wr∧heapBuild ltInt hi a k dk=heapBuild ltInt hi a ((hi - 1) / 2 + 1) d
def HeapP (w:World) (g:Nat) (d:Array Int) (r:List Value) (hi a:Nat) (d1:Array Int) (k:Nat) (u:Value) (wr:World):Prop:=
 ∃dk:Array Int,u=.int .i64 ((k:Int) - 1)∧k≤hi∧dk.size=d.size∧At [blkU g d r] w [blkU g dk r] wr∧heapPop ltInt a k dk=heapPop ltInt a hi d1
theorem ZgO {w:World} {g cap n:Nat} {d:Array Int} {r:List Value} (h:Sep [blkU g d r] w) (hn:d.size=n) {a b:Nat} (hab:a < b) (hb:b≤d.size) (hsz:d.size < 4611686018427387904):
 Calls Tryz.prog 319 #[.slice (some ⟨g,0,none⟩) n cap,.int .i64 a,.int .i64 b] w fun e w'=>e=.returned (.tuple #[])∧At [blkU g d r] w [blkU g (Sort.heapSort ltInt d a b) r] w':=by
 have hA:=At.start h;have hF:=hA.facts;clear h
 obtain⟨hi,hhi⟩:∃hi,b - a=hi:=⟨_,rfl⟩
 have ehi:(b:Int) - (a:Int)=(hi:Int):=by omega
 have hsort:=Hd (show Sort.heapSort ltInt d a b=heapPop ltInt a hi (heapBuild ltInt hi a ((hi - 1) / 2 + 1) d) by unfold Sort.heapSort;rw[hhi]);have hhi':=Hd hhi
 have hhb:a + hi≤d.size:=by omega
 have h1:1≤hi:=by omega
 clear hhi;have hdiv:=Hd (show((hi:Int) - 1) / 2=(((hi - 1) / 2 + 1:Nat):Int) - 1 by omega)
 go_enter Tryz.func319,Tryz.ntmps319
 go_wp2_with fail
 go_loopg [9] ((hi - 1) / 2 + 1) (HeapB w g d r hi a)
 case atStart=>exact⟨d,by rw[hdiv.out],by omega,rfl,hA,rfl⟩
 case round=>
  obtain⟨dk,rfl,hk,hsk,hB,hO⟩:=hrel;have hO':=Hd hO;clear hF hA hO;have hA:=hB;clear hB;obtain⟨hA,hF⟩:=fY hA
  rcases Nat.eq_zero_or_pos gk with h0|hpos
  · subst h0
    have e1:=Hd (show dk=heapBuild ltInt hi a ((hi - 1) / 2 + 1) d by rw[←hO'.out];rfl)
    go_wp2_with fail
    go_loopg [10] hi (HeapP w g d r hi a dk)
    case atStart=>exact⟨dk,by first|rfl|simp,Nat.le_refl _,hsk,hA,rfl⟩
    case round=>
     obtain⟨dj,rfl,hk2,hsj,hB,hP⟩:=hrel;have hP':=Hd hP;clear hF hA hP;have hA:=hB;clear hB;obtain⟨hA,hF⟩:=fY hA
     rcases Nat.eq_zero_or_pos gk with h0|hpos
     · subst h0
       go_wp2_with fail
       go_end0
       exact⟨rfl,by rw[hsort.out,←e1.out,←hP'.out];exact hA⟩
     obtain⟨m,rfl⟩:∃m,gk=m + 1:=⟨gk - 1,by omega⟩
     obtain⟨q,hq⟩:∃q,a + m=q:=⟨_,rfl⟩
     have eq:(a:Int) + (m:Int)=(q:Int):=by omega
     have hm:((m + 1:Nat):Int) - 1=(m:Int):=by omega
     rw[hm];clear hm
     by_cases haq:a=q
     · subst haq
       go_wp2_with fail
       (try clear hF);(have k1:=Zai hA .here (i:=a) (by omega));(have k2:=Zai hA .here (i:=a) (by omega));(have f1:=Zah hA .here (a));(have f2:=Zah hA .here (a));go_region;(have hB:=(ZaG hA .here (i:=a) (j:=a) (by omega) (by omega)).drew);(clear k1 k2 f1 f2 hA);(have hA:=hB);(clear hB);(generalize World.drew (World.setCell _ _ _)=wz at *)
       go_wp2_with fail
       refine(Zce (g:=g) (d:=swp dj a a) (r:=r) (hA.sep1 sR) (by rw[Zap];exact hsj.trans hn) (lo:=0) (hi:=m) (first:=a) (by rw[Zap];omega) (by omega) (by rw[Zap];omega)).mono ?_;rintro e w1 ⟨rfl,hT⟩;replace hA:=hA.call1 sR hT;clear hT;obtain⟨hA,hF⟩:=fY hA
       go_wp2_with fail
       go_roundg m
       case measure=>omega
       case rel=>exact⟨siftDown ltInt m a 0 (swp dj a a),by first|rfl|simp,by omega,by rw[ZbX _ _ _ (Nat.le_refl _),Zap];exact hsj,hA,by rw[←hP'.out,heapPop,hq]⟩
     go_wp2_with fail
     (try clear hF);(have k1:=Zai hA .here (i:=a) (by omega));(have k2:=Zai hA .here (i:=q) (by omega));(have f1:=Zah hA .here (a));(have f2:=Zah hA .here (q));go_region;(have hB:=(ZaG hA .here (i:=a) (j:=q) (by omega) (by omega)).drew);(clear k1 k2 f1 f2 hA);(have hA:=hB);(clear hB);(generalize World.drew (World.setCell _ _ _)=wz at *)
     go_wp2_with fail
     refine(Zce (g:=g) (d:=swp dj a q) (r:=r) (hA.sep1 sR) (by rw[Zap];exact hsj.trans hn) (lo:=0) (hi:=m) (first:=a) (by rw[Zap];omega) (by omega) (by rw[Zap];omega)).mono ?_;rintro e w1 ⟨rfl,hT⟩;replace hA:=hA.call1 sR hT;clear hT;obtain⟨hA,hF⟩:=fY hA
     go_wp2_with fail
     go_roundg m
     case measure=>omega
     case rel=>exact⟨siftDown ltInt m a 0 (swp dj a q),by first|rfl|simp,by omega,by rw[ZbX _ _ _ (Nat.le_refl _),Zap];exact hsj,hA,by rw[←hP'.out,heapPop,hq]⟩
  obtain⟨m,rfl⟩:∃m,gk=m + 1:=⟨gk - 1,by omega⟩
  have hm:((m + 1:Nat):Int) - 1=(m:Int):=by omega
  rw[hm];clear hm
  go_wp2_with fail
  refine(Zce (g:=g) (d:=dk) (r:=r) (hA.sep1 sR) (hsk.trans hn) (lo:=m) (hi:=hi) (first:=a) (by omega) (by omega) (by omega)).mono ?_;rintro e w1 ⟨rfl,hT⟩;replace hA:=hA.call1 sR hT;clear hF hT;obtain⟨hA,hF⟩:=fY hA
  go_wp2_with fail
  go_roundg m
  case measure=>omega
  case rel=>exact⟨siftDown ltInt hi a m dk,by first|rfl|simp,by omega,by rw[ZbX _ _ _ (Nat.le_refl _)];exact hsk,hA,by rw[←hO'.out];rfl⟩
def RevRel (w:World) (g:Nat) (d:Array Int) (r:List Value) (a b:Nat) (k:Nat) (u v:Value) (wr:World):Prop:=
 ∃(i j:Nat) (dk:Array Int),u=.int .i64 i∧v=.int .i64 j∧j - i≤k∧j < d.size∧i≤d.size∧dk.size=d.size∧At [blkU g d r] w [blkU g dk r] wr∧reverseLoop i j dk=reverseLoop a (b - 1) d
theorem Zhx {w:World} {g cap n:Nat} {d:Array Int} {r:List Value} (h:Sep [blkU g d r] w) (hn:d.size=n) {a b:Nat} (hab:a < b) (hb:b≤d.size) (hsz:d.size < 4611686018427387904):
 Calls Tryz.prog 322 #[.slice (some ⟨g,0,none⟩) n cap,.int .i64 a,.int .i64 b] w fun e w'=>e=.returned (.tuple #[])∧At [blkU g d r] w [blkU g (Sort.reverseRange d a b) r] w':=by
 have hA:=At.start h;have hF:=hA.facts;clear h
 go_enter Tryz.func322,Tryz.ntmps322
 go_wp2_with fail
 go_loopg [6,7] (b - 1 - a) (RevRel w g d r a b)
 case atStart=>exact⟨a,b - 1,d,rfl,by congr 1;omega,Nat.le_refl _,by omega,by omega,rfl,hA,rfl⟩
 case round=>
  obtain⟨i,j,dk,rfl,rfl,hk,hj,hi,hsk,hB,hO⟩:=hrel;clear hF hA;have hA:=hB;clear hB;obtain⟨hA,hF⟩:=fY hA
  by_cases hij:i < j
  · have e1:=Zau (d:=dk) (r:=r) (i:=i) (by omega)
    have e2:=Zau (d:=dk) (r:=r) (i:=j) (by omega);have hx:=Hd (show reverseLoop i j dk=reverseLoop (i + 1) (j - 1) (swp dk i j) by rw[reverseLoop,if_pos hij]);have hO':=Hd hO;clear hO
    go_wp2_with fail
    (try clear hF);(have k1:=Zai hA .here (i:=i) (by omega));(have k2:=Zai hA .here (i:=j) (by omega));(have f1:=Zah hA .here (i));(have f2:=Zah hA .here (j));go_region;(have hB:=(ZaG hA .here (i:=i) (j:=j) (by omega) (by omega)).drew);(clear k1 k2 f1 f2 hA);(have hA:=hB);(clear hB);(generalize World.drew (World.setCell _ _ _)=wz at *)
    go_wp2_with fail
    go_roundg (j - 1 - (i + 1))
    case measure=>omega
    case rel=>exact⟨i + 1,j - 1,swp dk i j,by simp,by congr 1;omega,Nat.le_refl _,by omega,by omega,by rw[Zap];exact hsk,hA,by rw[←hO'.out,hx.out]⟩
  have hx:=Hd (show reverseLoop i j dk=dk by rw[reverseLoop,if_neg hij]);have hO':=Hd hO;clear hO
  go_wp2_with fail
  go_end0
  refine⟨rfl,?_⟩;unfold Sort.reverseRange;rw[←hO'.out,hx.out];exact hA
end SortU
end
end Go.Proofs.YtkdjkngfnapjcaaGreatDoor
