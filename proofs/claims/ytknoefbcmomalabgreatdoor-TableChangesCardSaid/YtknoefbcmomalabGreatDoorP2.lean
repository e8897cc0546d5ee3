import Derived.Test.YtknoefbcmomalabGreatDoorP1
set_option linter.unusedSimpArgs false
set_option linter.unusedVariables false
set_option maxRecDepth 100000
set_option maxHeartbeats 16000000
namespace Go.Proofs.YtknoefbcmomalabGreatDoor
section
section
open Go.RowKit
open Go.Maps (Keyed)
section
variable {P:Program} {k:TypeId} {w:World} {b:Nat} {es:List (Value × Value)}
theorem Zdi {α:Type} (a:Array α) (i:Nat) (h:i < a.size):(a.eraseIdxIfInBounds i).toList=a.toList.eraseIdx i:=by
 rw[Array.eraseIdxIfInBounds_eq];rw[dif_pos h,Array.toList_eraseIdx]
theorem ZlL {α:Type} (l1 l2:List α) (x:α):(l1++x::l2).eraseIdx l1.length=l1++l2:=by
 rw[List.eraseIdx_append_of_length_le (Nat.le_refl _)];simp
theorem MapAt.erased {l1 l2:List (Value × Value)} {key u:Value} (h:MapAt P k w b (l1++(key,u)::l2)) {ents:Array MapEntry} {clock:Nat} (hb:w.heap[b]? =some (.map ents clock)):
 MapAt P k (ChangeMaps.setBlock w b (.map (ents.eraseIdxIfInBounds l1.length) clock)) b (l1++l2):=by
 obtain⟨ents',clock',hb',he,hbn,hdn,hkeys,hpw⟩:=h;rw[hb] at hb';cases hb'
 have hlt:l1.length < ents.size:=by
  have:=congrArg List.length he
  simp at this
  omega
 have hs:((l1++l2)).Sublist (l1++(key,u)::l2):=List.Sublist.append (List.Sublist.refl _) (List.sublist_cons_self _ _);have hes:(ents.toList.eraseIdx l1.length).Sublist ents.toList:=List.eraseIdx_sublist _ _;refine⟨_,clock,ChangeMaps.heap_setBlock_same hb _,?_,?_,?_,?_,?_⟩
 · rw[Zdi _ _ hlt,List.eraseIdx_eq_take_drop_succ,List.map_append,List.map_take,List.map_drop,he,←List.eraseIdx_eq_take_drop_succ,ZlL]
 · intro e hm;rw[Zdi _ _ hlt] at hm;exact hbn e (hes.subset hm)
 · rw[Zdi _ _ hlt];exact hdn.sublist hes
 · exact fun p hp=>hkeys p (hs.subset hp)
 exact hpw.sublist hs
theorem MapAt.del_there {t e:TypeId} {l1 l2:List (Value × Value)} {key u:Value} (h:MapAt P k w b (l1++(key,u)::l2)) (K:Keyed P k) (ht:P.underlying t=some (.map k e)) {kl:Lit} (hk:keyOf P k key=some kl) (t2 ty:TypeId):
 ∃w',(Builtin.delete_ #[t,t2] ty #[.map (some b),key]).run P w=.ok (.tuple #[]) w'∧MapAt P k w' b (l1++l2)∧Exc (fun q=>q=b) w w'∧∃ents clock,w.heap[b]? =some (.map ents clock)∧w'.heap[b]? =some (.map (ents.eraseIdxIfInBounds l1.length) clock):=by
 have h0:=h;obtain⟨ents,clock,hb,_⟩:=h0;obtain⟨e0,h1,h2,h3,h4⟩:=h.find_at K hk w hb
 exact⟨ChangeMaps.setBlock w b (.map (ents.eraseIdxIfInBounds l1.length) clock),by simp[Builtin.delete_,run_underlying ht,MapKept.run_getObj_map hb,K.check w _ hk,h1,MapKept.run_setObj_map _ hb,Result.andThen,ChangeMaps.setBlock],h.erased hb,
  ⟨rfl,rfl,rfl,by simp[ChangeMaps.setBlock],fun i _ hi=>ChangeMaps.heap_setBlock_other hb _ (fun e=>hi e)⟩,ents,clock,hb,ChangeMaps.heap_setBlock_same hb _⟩
def IterD (P:Program) (k:TypeId) (w:World) (r b:Nat) (es done:List (Value × Value)):Prop:=
 MapAt P k w b es∧r≠b∧∃(ents:Array MapEntry) (clock c0:Nat) (vs:List MapEntry),w.heap[b]? =some (.map ents clock)∧w.heap[r]? =some (.mapIter (some b) clock (vs.map (·.born)).toArray c0)∧clock≤c0∧
  vs.map (fun e=>(e.key,e.val))=done∧(vs≠[]→c0=clock)∧(∀x ∈ vs,∀y ∈ ents.toList,x.key=y.key→x=y)∧(∀x ∈ vs,∀y ∈ ents.toList,x.born=y.born→x=y)
theorem IterD.start {r:Nat} (h:Zat P k w r b es []):IterD P k w r b es []:=by
 obtain⟨hm,hrb,ents,clock,c0,vs,hb,hr,hc,hd,hin,hpw,hc1⟩:=h;have:vs=[]:=by simpa using hd
 subst this;exact⟨hm,hrb,ents,clock,c0,[],hb,hr,hc,rfl,hc1,nofun,nofun⟩
theorem IterD.same {r:Nat} {done:List (Value × Value)} (h:IterD P k w r b es done) {w':World} (e1:w'.heap[b]? =w.heap[b]?) (e2:w'.heap[r]? =w.heap[r]?):IterD P k w' r b es done:=by
 obtain⟨hm,hrb,ents,clock,c0,vs,hb,hr,rest⟩:=h;exact⟨hm.same e1,hrb,ents,clock,c0,vs,e1.trans hb,e2.trans hr,rest⟩
theorem Zod {l:List (Value × Value)} (h:l.Pairwise (fun p q=>p.1≠q.1)) {i j:Nat} {p q:Value × Value} (hi:l[i]? =some p) (hj:l[j]? =some q) (hk:p.1=q.1):i=j:=by
 by_cases hij:i=j
 · exact hij
 exfalso
 obtain⟨hi1,hi2⟩:=List.getElem?_eq_some_iff.1 hi;obtain⟨hj1,hj2⟩:=List.getElem?_eq_some_iff.1 hj;have hp:=List.pairwise_iff_getElem.1 h;rcases Nat.lt_or_gt_of_ne hij with q|q
 · exact hp i j hi1 hj1 q (by rw[hi2,hj2];exact hk)
 exact hp j i hj1 hi1 q (by rw[hi2,hj2];exact hk.symm)
theorem IterD.next {r:Nat} {done:List (Value × Value)} (h:IterD P k w r b es done) (ty:TypeId):
 ((∀p ∈ es,p ∈ done)∧(Instr.next (.pointer (some ⟨r,0,none⟩)) false ty).run P w=.ok (.tuple #[.bool false]) w)∨
 ∃p w',p ∈ es∧(∀q ∈ done,q.1≠p.1)∧(Instr.next (.pointer (some ⟨r,0,none⟩)) false ty).run P w=.ok (.tuple #[.bool true,p.1,p.2]) w'∧IterD P k w' r b es (done++[p])∧Exc (fun q=>q=r) w w':=by
 obtain⟨hm,hrb,ents,clock,c0,vs,hb,hr,hc,hd,hc1,hkey,hbo⟩:=h;have hm0:=hm;obtain⟨ents',clock',hb',he,hbn,hdn,hkeys,hkp⟩:=hm0;rw[hb] at hb';cases hb'
 have hone:∀x ∈ ents.toList,∀y ∈ ents.toList,x.key=y.key→x=y:=by
  intro x hx y hy e;obtain⟨i,hi⟩:=List.mem_iff_getElem?.1 hx;obtain⟨j,hj⟩:=List.mem_iff_getElem?.1 hy;have g1:es[i]? =some (x.key,x.val):=by rw[←he,List.getElem?_map,hi];rfl
  have g2:es[j]? =some (y.key,y.val):=by rw[←he,List.getElem?_map,hj];rfl
  have:=Zod hkp g1 g2 e;subst this;rw[hi] at hj;exact Option.some.inj hj
 have hborn:∀x ∈ ents.toList,∀y ∈ ents.toList,x.born=y.born→x=y:=by
  intro x hx y hy e;obtain⟨i,hi⟩:=List.mem_iff_getElem?.1 hx;obtain⟨j,hj⟩:=List.mem_iff_getElem?.1 hy;by_cases hij:i=j
  · subst hij;rw[hi] at hj;exact Option.some.inj hj
  exfalso
  obtain⟨hi1,hi2⟩:=List.getElem?_eq_some_iff.1 hi;obtain⟨hj1,hj2⟩:=List.getElem?_eq_some_iff.1 hj;have hp:=List.pairwise_iff_getElem.1 hdn;rcases Nat.lt_or_gt_of_ne hij with q|q
  · exact hp i j hi1 hj1 q (by rw[hi2,hj2,e])
  exact hp j i hj1 hi1 q (by rw[hi2,hj2,e])
 rcases run_next_at (P:=P) w ty r b clock c0 (vs.map (·.born)).toArray ents clock hr hb hbn hc with⟨h0,hrun⟩|⟨e,he1,w1,hw1,hrun⟩
 · refine .inl ⟨?_,hrun⟩;intro p hp;rw[←he] at hp;obtain⟨x,hx,rfl⟩:=List.mem_map.1 hp;have h1:leftOf ents (vs.map (·.born)).toArray= #[]:=Array.eq_empty_of_size_eq_zero h0;unfold leftOf at h1;rw[Array.filter_eq_empty_iff] at h1;have h2:=h1 x (by simpa using hx);simp at h2
   obtain⟨y,hy,hyb⟩:=h2;have:=hbo y hy x hx hyb;subst this;rw[←hd];exact List.mem_map.2 ⟨y,hy,rfl⟩
 have he2:e ∈ ents.toList∧∀y ∈ vs,y.born≠e.born:=by
  unfold leftOf at he1;simp at he1
  exact⟨by simpa using he1.1,fun y hy hb=>he1.2 y hy hb⟩
 have hh1:w1.heap=w.heap:=by rcases hw1 with rfl|rfl<;>rfl
 refine .inr ⟨(e.key,e.val),ChangeMaps.setBlock w1 r (.mapIter (some b) clock ((vs.map (·.born)).toArray.push e.born) clock),Zjl he he2.1,?_,hrun,?_,?_⟩
 · intro q hq;rw[←hd] at hq;obtain⟨y,hy,rfl⟩:=List.mem_map.1 hq;intro hk;have:=hkey y hy e he2.1 hk;subst this;exact he2.2 y hy rfl
 · have hr1:w1.heap[r]? =some (.mapIter (some b) clock (vs.map (·.born)).toArray c0):=by rw[hh1];exact hr
   have k1:∀(o:Obj) (i:Nat),i≠r→(ChangeMaps.setBlock w1 r o).heap[i]? =w.heap[i]? :=fun o i hi=>by
    rw[←hh1];simp[ChangeMaps.setBlock,Ne.symm hi]
   have k2:∀(o:Obj),(ChangeMaps.setBlock w1 r o).heap[r]? =some o:=fun o=>by
    have hlt:=ZaR hr1;simp[ChangeMaps.setBlock,hlt]
   refine⟨hm.same (k1 _ b (Ne.symm hrb)),hrb,ents,clock,clock,vs++[e],by rw[k1 _ b (Ne.symm hrb)];exact hb,by rw[k2];simp,Nat.le_refl _,by simp[hd],fun _=>rfl,?_,?_⟩
   · intro x hx y hy hk;rcases List.mem_append.1 hx with hx|hx
     · exact hkey x hx y hy hk
     rw[List.mem_singleton.1 hx] at hk ⊢;exact hone e he2.1 y hy hk
   intro x hx y hy hk;rcases List.mem_append.1 hx with hx|hx
   · exact hbo x hx y hy hk
   rw[List.mem_singleton.1 hx] at hk ⊢;exact hborn e he2.1 y hy hk
 have g:∀(o:Obj),Exc (fun q=>q=r) w (ChangeMaps.setBlock w1 r o):=fun o=>by
  rcases hw1 with rfl|rfl
  · exact⟨rfl,rfl,rfl,by simp[ChangeMaps.setBlock],fun i _ hi=>by simp[ChangeMaps.setBlock,Ne.symm hi]⟩
  exact⟨rfl,rfl,rfl,by simp[ChangeMaps.setBlock],fun i _ hi=>by simp[ChangeMaps.setBlock,Ne.symm hi];rfl⟩
 exact g _
theorem IterD.entry {r:Nat} {done:List (Value × Value)} {p:Value × Value} (h:IterD P k w r b es (done++[p])) (hp:p ∈ es):(Instr.entry (.pointer (some ⟨r,0,none⟩))).run P w=.ok (.tuple #[p.1,p.2]) w:=by
 obtain⟨hm,hrb,ents,clock,c0,vs,hb,hr,hc,hd,hc1,hkey,hbo⟩:=h;obtain⟨ents',clock',hb',he,hbn,hdn,hkeys,hkp⟩:=hm;rw[hb] at hb';cases hb';rcases List.eq_nil_or_concat vs with rfl|⟨vs',e,rfl⟩
 · simp at hd
 have h1:c0=clock:=hc1 (by simp);subst h1;simp at hd
 obtain⟨hd1,hd2⟩:=hd;subst hd2;rw[←he] at hp;obtain⟨y,hy,hye⟩:=List.mem_map.1 hp;have hk0:e.key=y.key:=(congrArg Prod.fst hye).symm;have:=hkey e (by simp) y hy hk0;subst this;exact run_entry_at (P:=P) w r b c0 (vs'.map (·.born)).toArray ents c0 e (by rw[hr];simp) hb hy (List.pairwise_map.2 hdn)
theorem IterD.del {t e:TypeId} {r:Nat} {done l1 l2:List (Value × Value)} {key u:Value} (h:IterD P k w r b (l1++(key,u)::l2) done) (K:Keyed P k) (ht:P.underlying t=some (.map k e)) {kl:Lit} (hk:keyOf P k key=some kl) (t2 ty:TypeId):
 ∃w',(Builtin.delete_ #[t,t2] ty #[.map (some b),key]).run P w=.ok (.tuple #[]) w'∧IterD P k w' r b (l1++l2) done∧Exc (fun q=>q=b) w w':=by
 obtain⟨hm,hrb,ents,clock,c0,vs,hb,hr,hc,hd,hc1,hkey,hbo⟩:=h;obtain⟨w',h1,h2,h3,ents',clock',h4,h5⟩:=hm.del_there K ht hk t2 ty;rw[hb] at h4;cases h4
 have hsub:∀y ∈ (ents.eraseIdxIfInBounds l1.length).toList,y ∈ ents.toList:=by
  intro y hy;by_cases hlt:l1.length < ents.size
  · rw[Zdi _ _ hlt] at hy;exact(List.eraseIdx_sublist _ _).subset hy
  rw[Array.eraseIdxIfInBounds_eq,dif_neg hlt] at hy;exact hy
 exact⟨w',h1,⟨h2,hrb,_,clock,c0,vs,h5,(h3.block r (ZaR hr) hrb).trans hr,hc,hd,hc1,fun x hx y hy=>hkey x hx y (hsub y hy),fun x hx y hy=>hbo x hx y (hsub y hy)⟩,h3⟩
theorem IterD.keys {r:Nat} {done:List (Value × Value)} (h:IterD P k w r b es done):es.Pairwise (fun p q=>p.1≠q.1):=h.1.keys
def Part.iterD (P:Program) (k:TypeId) (r b:Nat) (es done:List (Value × Value)):Part where
 holds w:=IterD P k w r b es done
 foot q:=q=b∨q=r
 lt:=fun _ h q e=>by
  rcases e with e|e
  · subst e;exact h.1.lt
  subst e;obtain⟨_,_,_,_,_,_,_,hr,_⟩:=h;exact ZaR hr
 stay:=fun _ _ h e=>h.same (e b (.inl rfl)) (e r (.inr rfl))
end
section
variable {P:Program} {ops:Array Oper} {rest:List Oper} {o:Oper} {a:Act} {Q:Exit→Act→World→Prop} {L0 L F:List Part} {w0 w:World} {k:TypeId} {b:Nat} {es:List (Value × Value)}
theorem ZcT {t t2:TypeId} {m x:Operand} (hg:o.guard=none) (hop:o.op=.call {callee:=.builtin .delete,args:= #[m,x],argTypes:= #[t,t2]}) (hm:a.eval m=.map (some b)) {key u:Value} {l1 l2:List (Value × Value)} (hx:a.eval x=key)
 (h:At L0 w0 L w) (s:Sel (Part.map P k b (l1++(key,u)::l2)) L F) {e:TypeId} (K:Keyed P k) (ht:P.underlying t=some (.map k e)) {kl:Lit} (hk:keyOf P k key=some kl)
 (hK:∀w',At L0 w0 (Part.map P k b (l1++l2)::F) w'→wpList P ops Q rest (a.put o.dst (.tuple #[])) w'):wpList P ops Q (o::rest) a w:=by
 have hM:MapAt P k w b (l1++(key,u)::l2):=h.get s;obtain⟨w',h1,h2,h3,_⟩:=hM.del_there K ht hk t2 o.type;refine Zal hg ?_ (hK w' (h.turn s _ h2 (fun _ e=>.inl e) h3));simp[execOp,hop,resolve,invoke,builtin,hm,hx,h1,Result.andThen]
theorem ZcZ {t t2:TypeId} {m x:Operand} {r:Nat} {done:List (Value × Value)} (hg:o.guard=none) (hop:o.op=.call {callee:=.builtin .delete,args:= #[m,x],argTypes:= #[t,t2]}) (hm:a.eval m=.map (some b)) {key u:Value} {l1 l2:List (Value × Value)} (hx:a.eval x=key)
 (h:At L0 w0 L w) (s:Sel (Part.iterD P k r b (l1++(key,u)::l2) done) L F) {e:TypeId} (K:Keyed P k) (ht:P.underlying t=some (.map k e)) {kl:Lit} (hk:keyOf P k key=some kl)
 (hK:∀w',At L0 w0 (Part.iterD P k r b (l1++l2) done::F) w'→wpList P ops Q rest (a.put o.dst (.tuple #[])) w'):wpList P ops Q (o::rest) a w:=by
 have hI:IterD P k w r b (l1++(key,u)::l2) done:=h.get s;obtain⟨w',h1,h2,h3⟩:=hI.del K ht hk t2 o.type;refine Zal hg ?_ (hK w' (h.turn s (Part.iterD P k r b (l1++l2) done) h2 (fun _ e=>.inl e) (h3.mono (fun _ _ e=>.inl e))));simp[execOp,hop,resolve,invoke,builtin,hm,hx,h1,Result.andThen]
theorem Zd9 {r:Nat} {done:List (Value × Value)} {it:Operand} (hg:o.guard=none) (hop:o.op=.next it false) (hi:a.eval it=.pointer (some ⟨r,0,none⟩)) (h:At L0 w0 L w) (s:Sel (Part.iterD P k r b es done) L F)
 (hEnd:(∀p ∈ es,p ∈ done)→wpList P ops Q rest (a.put o.dst (.tuple #[.bool false])) w)
 (hK:∀p w',p ∈ es→(∀q ∈ done,q.1≠p.1)→At L0 w0 (Part.iterD P k r b es (done++[p])::F) w'→wpList P ops Q rest (a.put o.dst (.tuple #[.bool true,p.1,p.2])) w'):wpList P ops Q (o::rest) a w:=by
 have hI:IterD P k w r b es done:=h.get s;rcases hI.next o.type with⟨h1,h2⟩|⟨p,w',h1,h2,h3,h4,h5⟩
 · refine Zal hg ?_ (hEnd h1);simp[execOp,hop,hi,h2,Result.andThen]
 refine Zal hg ?_ (hK p w' h1 h2 (h.turn s (Part.iterD P k r b es (done++[p])) h4 (fun q e=>.inl e) (h5.mono (fun _ _ e=>.inr e))));simp[execOp,hop,hi,h3,Result.andThen]
theorem At.rangedD {r:Nat} {done:List (Value × Value)} (h:At L0 w0 L w) (s:Sel (Part.iterD P k r b es done) L F):At L0 w0 (Part.map P k b es::F) w:=by
 have hI:IterD P k w r b es done:=h.get s;exact h.turn s (Part.map P k b es) hI.1 (fun _ e=>.inl (.inl e)) (Exc.refl _ _)
theorem At.rangeD {r:Nat} (h:At L0 w0 L w) (s:Sel (Part.iter P k r b es []) L F):At L0 w0 (Part.iterD P k r b es []::F) w:=by
 have hI:Zat P k w r b es []:=h.get s;exact h.turn s (Part.iterD P k r b es []) (IterD.start hI) (fun _ e=>.inl e) (Exc.refl _ _)
end
end
end
end Go.Proofs.YtknoefbcmomalabGreatDoor
section
namespace Go
section
variable {P:Program} {ops:Array Oper} {md:Region.Mode} {ι:Type} {C:ι→World→Prop}
def Oper.quietF (P:Program) (o:Oper) (a:Act) (C:ι→World→Prop) (next:Act→Prop):Prop:=∃v,(∀i w,C i w→o.quietAt P a (C i) w v)∧next (a.put o.dst v)
def ZbN (P:Program) (ops:Array Oper) (C:ι→World→Prop) (Q:Act→Prop):List Oper→Act→Prop
 |[],a=>Q a
 |o::rest,a=>if Region.wanted o (yielded ops a.tmps) then o.quietF P a C (ZbN P ops C Q rest) else ZbN P ops C Q rest (a.put o.dst undef)
def qOpF (P:Program) (ops:Array Oper) (C:ι→World→Prop) (i:Nat) (K:Act→Prop) (a:Act):Prop:=
 match ops[i]? with
 |none=>K a
 |some o=>if Region.wanted o (yielded ops a.tmps) then o.quietF P a C K else K (a.put o.dst undef)
theorem Oper.quietF_mono {o:Oper} {a:Act} {K K':Act→Prop} (h:∀a,K a→K' a) (hh:o.quietF P a C K):o.quietF P a C K':=
 let ⟨v,h1,h2⟩:=hh
 ⟨v,h1,h _ h2⟩
theorem Zk7 {i:Nat} {a:Act} {K K':Act→Prop} (h:∀a,K a→K' a) (hh:qOpF P ops C i K a):qOpF P ops C i K' a:=by
 unfold qOpF at *
 split
 · exact h _ (by simpa [*] using hh)
 rename_i o ho;simp only[ho] at hh;split
 · rename_i hw;simp only[hw,if_true] at hh;exact Oper.quietF_mono h hh
 rename_i hw;simp only[hw] at hh;exact h _ hh
def Zbx (P:Program) (ops:Array Oper) (C:ι→World→Prop) (o:Oper) (v:Value) (a:Act):Prop:=
 (Region.wanted o (yielded ops a.tmps)=true∧∀i w,C i w→o.quietAt P a (C i) w v)∨
 (Region.wanted o (yielded ops a.tmps)=false∧v=undef)
theorem Zbx.qOp {i:Nat} {o:Oper} {v:Value} {a:Act} (hi:ops[i]? =some o) (hy:Zbx P ops C o v a) {K:Act→Prop} (h:K (a.put o.dst v)):qOpF P ops C i K a:=by
 unfold qOpF;simp only[hi];rcases hy with⟨hw,hv⟩|⟨hw,rfl⟩
 · simp only[hw,if_true];exact⟨v,hv,h⟩
 simp only[hw,Bool.false_eq_true,if_false];exact h
theorem Zbx.of_same {o:Oper} {v:Value} {a a':Act} (hy:Zbx P ops C o v a) (he:execOp a'.eval o=execOp a.eval o)
 (hw:Region.wanted o (yielded ops a'.tmps)=Region.wanted o (yielded ops a.tmps)):Zbx P ops C o v a':=by
 unfold Zbx Oper.quietAt at *
 rw[he,hw];exact hy
theorem Ze4 {i:Nat} {o:Oper} {a:Act} {K:Act→Prop} (hi:ops[i]? =some o) (h:qOpF P ops C i K a):∃v,Zbx P ops C o v a∧K (a.put o.dst v):=by
 unfold qOpF at h;simp only[hi] at h;by_cases hw:Region.wanted o (yielded ops a.tmps)=true
 · simp only[hw,if_true] at h;obtain⟨v,h1,h2⟩:=h;exact⟨v,.inl ⟨hw,h1⟩,h2⟩
 simp only[hw] at h;exact⟨undef,.inr ⟨by simpa using hw,rfl⟩,h⟩
theorem Zm9 {j:Nat} {oi oj:Oper} {v:Value} (hj:ops[j]? =some oj) (hap:oi.apart ops oj=true)
 (hsi:∀cs b,oi.op≠.select cs b) (hsj:∀cs b,oj.op≠.select cs b) {K:Act→Prop} {a:Act}
 (hy:Zbx P ops C oi v a) (h:qOpF P ops C j K (a.put oi.dst v)):
 qOpF P ops C j (fun a'=>Zbx P ops C oi v a'∧K (a'.put oi.dst v)) a:=by
 obtain⟨h1,h2,h3⟩:=Oper.apart_spec hap
 have keep:∀(a:Act),Zbx P ops C oi v a→∀u,Zbx P ops C oi v (a.put oj.dst u):=fun a hy u=>
  hy.of_same (execOp_put oi hsi a oj.dst u h3) (wanted_put oi a oj.dst u h3)
 unfold qOpF at *
 simp only[hj] at *
 rw[wanted_put oj a oi.dst v h1] at h;split
 · rename_i hw;simp only[hw,if_true] at h;obtain⟨u,hu,hn⟩:=h;refine⟨u,fun i w hw'=> ?_,keep a hy u,by rw[←Act.put_comm a v u h2];exact hn⟩;have:=hu i w hw';unfold Oper.quietAt at *
   rwa [execOp_put oj hsj a oi.dst v h1] at this
 rename_i hw;simp only[hw] at h;exact⟨keep a hy _,by rw[←Act.put_comm a v undef h2];exact h⟩
def Zbm (P:Program) (md:Region.Mode) (ops:Array Oper) (C:ι→World→Prop) (n:Nat) (L:Array Bool→Act→Prop):Nat→Array Bool→Act→Prop
 |0,listed,a=>L listed a
 |f + 1,listed,a=>(∃i ∈ Region.ready md ops listed,i < n)∧∀i ∈ Region.ready md ops listed,i≠n→i < n∧qOpF P ops C i (Zbm P md ops C n L f (listed.setIfInBounds i true)) a
def tailX (md:Region.Mode) (ops:Array Oper) (n:Nat):Bool:=
 (List.range ops.size).all fun t=>decide (t≤n) || (List.range (n + 1)).all fun i=>Region.waitsFor md ops t i
theorem ZbX {n:Nat} {listed:Array Bool} (hx:tailX md ops n=true) {i:Nat} (hi:i≤n) (hun:listed.getD i false=false) {t:Nat} (ht:n < t):t ∉ Region.ready md ops listed:=by
 intro hr;obtain⟨_,ot,hot,hall⟩:=mem_ready.1 hr;have htlt:t < ops.size:=(Array.getElem?_eq_some_iff.1 hot).1;have h1:=List.all_eq_true.1 hx t (List.mem_range.2 htlt);simp only[Bool.or_eq_true,decide_eq_true_eq] at h1;rcases h1 with h1|h1
 · omega
 obtain⟨oj,hoj,e,he,hb,hon⟩:=Region.waitsFor_spec (List.all_eq_true.1 h1 i (List.mem_range.2 (by omega)));have:oj=ot:=Option.some.inj (hoj.symm.trans hot);subst this;have:=hall e he hb;rw[hon,hun] at this;cases this
theorem Zg0 {n:Nat} {listed:Array Bool} (hx:tailX md ops (n + 1)=true) (hw:Region.waitsFor md ops (n + 1) n=true) (hun:listed.getD n false=false):∀i ∈ Region.ready md ops listed,i≤n:=fun i hi=>by
 rcases Nat.lt_or_ge n i with q|q
 · exfalso
   by_cases e:i=n + 1
   · subst e;obtain⟨_,ot,hot,hall⟩:=mem_ready.1 hi;obtain⟨oj,hoj,e,he,hb,hon⟩:=Region.waitsFor_spec hw;have:oj=ot:=Option.some.inj (hoj.symm.trans hot);subst this;have:=hall e he hb;rw[hon,hun] at this;cases this
   exact absurd hi (ZbX hx (i:=n) (by omega) hun (by omega))
 exact q
theorem ZfN {n i:Nat} {oi:Oper} {v:Value} {L:Array Bool→Act→Prop} (hi:ops[i]? =some oi) (hsel:∀(j:Nat) (o:Oper) cs b,ops[j]? =some o→o.op≠.select cs b)
 (hfar:∀listed:Array Bool,listed.getD n false=false→∀i ∈ Region.ready md ops listed,i≤n) (hns:n < ops.size) (hin:i < n) (hdone:∀listed a,L listed a→∀j ∈ Region.ready md ops listed,n≤j):
 ∀(f:Nat) (listed:Array Bool) (a:Act),HeadInv md ops n listed→
  (∀j oj,ops[j]? =some oj→j≠i→listed.getD j true=false→(∀e ∈ oj.after,Region.binds md e=true→e.on≠i)→oi.apart ops oj=true)→
  i ∈ Region.ready md ops listed→Zbx P ops C oi v a→
  Zbm P md ops C n L f (listed.setIfInBounds i true) (a.put oi.dst v)→Zbm P md ops C n L (f + 1) listed a:=by
 intro f
 induction f with
 |zero=>
  intro listed a inv _ hr hy H;have hun:=(mem_ready.1 hr).1;refine⟨⟨i,hr,hin⟩,fun j hj hjx=> ?_⟩
  have hjn:j < n:=by
   have:=hfar _ (getD_both (inv.tail n (Nat.le_refl _) hns)) j hj
   omega
  refine⟨hjn,?_⟩
  by_cases hji:j=i
  · subst hji;exact hy.qOp hi H
  have:=hdone _ _ H j (ready_mono hj hji)
  omega
 |succ f ih=>
  intro listed a inv hfree hr hy H;have hun:=(mem_ready.1 hr).1;refine⟨⟨i,hr,hin⟩,fun j hj hjx=> ?_⟩
  have hjn:j < n:=by
   have:=hfar _ (getD_both (inv.tail n (Nat.le_refl _) hns)) j hj
   omega
  refine⟨hjn,?_⟩
  by_cases hji:j=i
  · subst hji;exact hy.qOp hi H
  have h1:=(H.2 j (ready_mono hj hji) hjx).2;obtain⟨hjun,oj,hoj,hall⟩:=mem_ready.1 hj
  have hnot:∀e ∈ oj.after,Region.binds md e=true→e.on≠i:=fun e he hb heq=>by
   have h1:=hall e he hb;rw[heq,getD_both hun] at h1;cases h1
  have h2:=Zm9 hoj (hfree j oj hoj hji hjun hnot) (fun cs b=>hsel i oi cs b hi) (fun cs b=>hsel j oj cs b hoj) hy h1
  have hfree':∀k ok,ops[k]? =some ok→k≠i→(listed.setIfInBounds j true).getD k true=false→
   (∀e ∈ ok.after,Region.binds md e=true→e.on≠i)→oi.apart ops ok=true:=fun k ok hk hki hun hno=>by
   refine hfree k ok hk hki ?_ hno;by_cases hjk:j=k
   · subst hjk;exact hjun
   rw[getD_set_ne true hjk] at hun;exact hun
  refine Zk7 (fun a' h3=>ih (listed.setIfInBounds j true) a' (inv.set hj hjn) hfree' (ready_mono hr (Ne.symm hji)) h3.1 ?_) h2;rw[Array.setIfInBounds_comm _ _ hji];exact h3.2
theorem ZcU {n:Nat} {Lq:Act→Prop} (hsel:Region.noSelect ops=true) (hfar:∀listed:Array Bool,listed.getD n false=false→∀i ∈ Region.ready md ops listed,i≤n) (hn:n < ops.size):
 ∀(l:List Oper) (k:Nat) (listed:Array Bool) (a:Act),(∀j,j < l.length→l[j]? =ops[k + j]?)→k + l.length=n→HeadInv md ops n listed→(∀j,j < k→listed.getD j false=true)→
 headB md ops l.length k listed=true→ZbN P ops C Lq l a→
 Zbm P md ops C n (fun listed' a'=>listed'=ZaS ops.size n∧Lq a') l.length listed a
 |[],k,listed,a,_,hk,inv,hd,_,h=>by
  have:k=n:=by simpa using hk
  subst this;exact⟨ZlG inv.size hd inv.tail,h⟩
 |o::l,k,listed,a,hl,hk,inv,hd,hB,h=>by
  have h0:ops[k]? =some o:=by simpa using(hl 0 (by simp)).symm
  simp only[List.length_cons,headB,Bool.and_eq_true] at hB;obtain⟨⟨hr,hf⟩,hB'⟩:=hB;have hkn:k < n:=by simp only[List.length_cons] at hk;omega
  have hr':k ∈ Region.ready md ops listed:=by simpa using hr
  have hst:qOpF P ops C k (ZbN P ops C Lq l) a:=by unfold qOpF;simp only[h0];exact h
  obtain⟨v,hy,hK⟩:=Ze4 h0 hst;have hks:k < listed.size:=by rw[inv.size];omega
  exact ZfN h0 (Region.noSelect_spec hsel) hfar hn hkn (fun listed' a' hL=>by rw[hL.1];exact Zcv) l.length listed a inv (Region.free_spec h0 hf) hr' hy
   (ZcU hsel hfar hn l (k + 1) _ _ (fun j hj=>by have:=hl (j + 1) (by simp;omega);simpa [Nat.add_assoc,Nat.add_comm 1 j] using this) (by simp only[List.length_cons] at hk;omega) (inv.set hr' hkn)
     (fun j hj=>by
       by_cases hjk:j=k
       · subst hjk;simp[hks]
       rw[getD_set_ne false (Ne.symm hjk)];exact hd j (by omega)) hB' hK)
theorem ZdF {i:Nat} {o:Oper} {a:Act} {K:Act→Prop} {K':Act→World→Prop} {Q':Exit→Act→World→Prop} {w:World} {R:ι} {on:Oper} {p:Value} (ho:ops[i]? =some o) (hap:on.apart ops o=true) (hsel:∀cs b,o.op≠.select cs b)
 (hC:C R w) (h:∀a w',C R w'→K a→K' (a.put on.dst p) w') (hh:qOpF P ops C i K a):wpOp P ops Q' i K' (a.put on.dst p) w:=by
 obtain⟨h1,h2,_⟩:=Oper.apart_spec hap;unfold qOpF at hh;unfold wpOp;simp only[ho] at hh ⊢;rw[wanted_put o a on.dst p h1];split
 · rename_i hw;simp only[hw,if_true] at hh;obtain⟨v,hv,hn⟩:=hh;have h3:=hv R w hC;left
   unfold Oper.quietAt at h3;unfold Oper.wp;rw[execOp_put o hsel a on.dst p h1];generalize (execOp a.eval o).run P w=r at *
   cases r with
   |ok n w'=>
    cases n<;>simp only[Oper.quietUpon] at h3<;>simp only[Oper.upon]
    case value u=>
     obtain⟨e1,e2⟩:=h3;rw[e1,e2,Act.put_comm a p v h2];exact h _ _ hC hn
    case skip=>
     obtain⟨e1,e2⟩:=h3;rw[e1,←e2,Act.put_comm a p v h2];exact h _ _ hC hn
    case enter f args=>
     obtain⟨e1,hc⟩:=h3;rw[e1];refine hc.mono fun e w'' ⟨he,hw''⟩=> ?_;subst he;show K' ((a.put on.dst p).put o.dst v) w'';rw[Act.put_comm a p v h2];exact h _ _ hw'' hn
   |halt x w'=>simp only[Oper.quietUpon] at h3
 rename_i hw;simp only[hw] at hh;rw[Act.put_comm a p undef h2];exact h _ _ hC hh
theorem Zb7 {i:Nat} {a:Act} {K:Act→Prop} {K':Act→World→Prop} {Q':Exit→Act→World→Prop} {w:World} {R:ι} (hC:C R w) (h:∀a w',C R w'→K a→K' a w') (hh:qOpF P ops C i K a):wpOp P ops Q' i K' a w:=
 wpOp_of_qOp (C:=C R) hC h (by
  unfold qOpF at hh;unfold qOp;split
  · rename_i ho;simpa only[ho] using hh
  rename_i o ho;simp only[ho] at hh;split
  · rename_i hw;simp only[hw,if_true] at hh;obtain⟨v,hv,hn⟩:=hh;exact⟨v,fun w hw=>hv R w hw,hn⟩
  rename_i hw;rw[if_neg hw] at hh
  exact hh)
def freeX (md:Region.Mode) (ops:Array Oper) (n:Nat):Bool:=
 match ops[n]?,ops[n + 1]? with
 |some on,some os=>on.after.isEmpty&&on.guard.isNone&&os.guard.isNone&&os.dst.isNone&&os.after.all (fun e=> !Region.binds md e || decide (e.on≤n))&&Region.waitsFor md ops (n + 1) n&&(List.range n).all fun i=> !Region.waitsFor md ops i n&& !Region.waitsFor md ops i (n + 1)&&(match ops[i]? with
  |some o=>on.apart ops o&&(Region.waitsFor md ops (n + 1) i || (match o.dst with|some d=> !(os.looksAt ops).contains d|none=>true))
  |none=>true)
 |_,_=>false
structure FreeX (md:Region.Mode) (ops:Array Oper) (n:Nat) (on os:Oper):Prop where
 hon:ops[n]? =some on
 hos:ops[n + 1]? =some os
 after:on.after= #[]
 guard:on.guard=none
 guards:os.guard=none
 dst:os.dst=none
 waits:Region.waitsFor md ops (n + 1) n=true
 apart:∀i o,i < n→ops[i]? =some o→on.apart ops o=true
 no:∀i o,i < n→ops[i]? =some o→∀e ∈ o.after,Region.binds md e=true→e.on≠n∧e.on≠n + 1
 reads:∀i o,i < n→ops[i]? =some o→Region.waitsFor md ops (n + 1) i=true∨∀d,o.dst=some d→d ∉ os.looksAt ops
 back:∀e ∈ os.after,Region.binds md e=true→e.on≤n
theorem Zj5 {n:Nat} (h:freeX md ops n=true):∃on os,FreeX md ops n on os:=by
 unfold freeX at h;split at h
 · rename_i on os ho hs;simp only[Bool.and_eq_true,List.all_eq_true,Array.isEmpty_iff,Option.isNone_iff_eq_none] at h;obtain⟨⟨⟨⟨⟨⟨h1,h2⟩,h3⟩,h4⟩,h9⟩,h5⟩,h6⟩:=h
   have no:∀i o m,ops[i]? =some o→(!Region.waitsFor md ops i m)=true→∀e ∈ o.after,Region.binds md e=true→e.on≠m:=fun i o m hio hw e he hb heq=>by
    have h3:Region.waitsFor md ops i m=false:=by simpa using hw
    unfold Region.waitsFor at h3;rw[hio] at h3;simp only[Array.any_eq_false'] at h3;exact h3 e he (by simp[hb,heq])
   refine⟨on,os,ho,hs,h1,h2,h3,h4,h5,fun i o hi hio=> ?_,fun i o hi hio e he hb=> ?_,fun i o hi hio=> ?_,fun e he hb=> ?_⟩
   · have h7:=h6 i (List.mem_range.2 hi);rw[hio] at h7;simp only[Bool.and_eq_true] at h7;exact h7.2.1
   · have h7:=h6 i (List.mem_range.2 hi);exact⟨no i o n hio h7.1.1 e he hb,no i o (n + 1) hio h7.1.2 e he hb⟩
   · have h7:=h6 i (List.mem_range.2 hi);rw[hio] at h7;simp only[Bool.and_eq_true,Bool.or_eq_true] at h7;rcases h7.2.2 with h8|h8
     · exact .inl h8
     right
     intro d hd;rw[hd] at h8;simpa using h8
   have:=Array.all_eq_true'.1 h9 e he
   simpa [hb] using this
 cases h
theorem Zc4 {n:Nat} {a1:Act} {d:Tmp} (i0:ι) (hst:∀i o,i < n→ops[i]? =some o→o.dst=none→True):∀(f:Nat) (listed:Array Bool) (a:Act),
 (∀i o,i < n→ops[i]? =some o→listed.getD i false=false→o.dst≠some d)→Zbm P md ops C n (fun listed' a'=>listed'=ZaS ops.size n∧a'=a1) f listed a→a.tmps[d]? =a1.tmps[d]?
 |0,listed,a,_,h=>by rw[h.2]
 |f + 1,listed,a,hd,h=>by
  obtain⟨⟨i,hi,hin⟩,h⟩:=h;obtain⟨hun,o,ho,_⟩:=mem_ready.1 hi;have h1:=(h i hi (by omega)).2;have hne:=hd i o hin ho (getD_both hun)
  have key:∀v,(a.put o.dst v).tmps[d]? =a.tmps[d]? :=fun v=>by
   cases hq:o.dst with
   |none=>rfl
   |some t=>
    have:t≠d:=fun e=>hne (by rw[hq,e])
    simp[Act.put,Array.getElem?_setIfInBounds_ne this]
  have hd':∀j o',j < n→ops[j]? =some o'→(listed.setIfInBounds i true).getD j false=false→o'.dst≠some d:=fun j o' hj hjo hl=>by
   by_cases hij:i=j
   · subst hij;rw[hjo] at ho;cases ho;exact hne
   rw[getD_set_ne false hij] at hl;exact hd j o' hj hjo hl
  unfold qOpF at h1;simp only[ho] at h1;split at h1
  · obtain⟨v,_,h2⟩:=h1;rw[←Zc4 i0 hst f _ _ hd' h2,key]
  rw[←Zc4 i0 hst f _ _ hd' h1,key]
section
variable {n g:Nat} {on os:Oper} {p:Value} {a1:Act} {Q':Exit→Act→World→Prop}
theorem ZhG {R:ι} (hX:FreeX md ops n on os) (hsel:∀(j:Nat) (o:Oper) cs b,ops[j]? =some o→o.op≠.select cs b) (hx:tailX md ops (n + 1)=true)
 (hfin:∀w',C R w'→wpAny P md ops Q' g (((ZaS ops.size n).setIfInBounds n true).setIfInBounds (n + 1) true) (a1.put on.dst p) w'):
 ∀(f:Nat) (listed:Array Bool) (a:Act) (w:World),C R w→Zbm P md ops C n (fun listed' a'=>listed'=ZaS ops.size n∧a'=a1) f listed a→wpAny P md ops Q' (f + g) ((listed.setIfInBounds n true).setIfInBounds (n + 1) true) (a.put on.dst p) w
 |0,listed,a,w,hC,h=>by
  obtain⟨rfl,h⟩:=h;rw[Nat.zero_add,h];exact hfin _ hC
 |f + 1,listed,a,w,hC,h=>by
  rw[show f + 1 + g=(f + g) + 1 by omega];obtain⟨⟨i0,hi0,hi0n⟩,h⟩:=h;have hun:=(mem_ready.1 hi0).1;refine⟨fun h0=> ?_,fun i hi=> ?_⟩
  · have:=ready_mono (i:=n + 1) (ready_mono (i:=n) hi0 (by omega)) (by omega)
    rw[h0] at this;cases this
  obtain⟨hiun,o,ho,hall⟩:=mem_ready.1 hi
  have nots:∀(l:Array Bool) (m:Nat),(l.setIfInBounds m true).getD m true=true:=fun l m=>by
   rcases Nat.lt_or_ge m l.size with q|q
   · simp[q]
   rw[Array.getD_eq_getD_getElem?,Array.getElem?_eq_none (by simpa using q)];rfl
  have hin1:i≠n + 1:=by
   rintro rfl;rw[nots] at hiun;cases hiun
  rw[getD_set_ne true (Ne.symm hin1)] at hiun
  have hin:i≠n:=by
   rintro rfl;rw[nots] at hiun;cases hiun
  rw[getD_set_ne true (Ne.symm hin)] at hiun
  have hlt:i < n:=by
   rcases Nat.lt_or_ge i n with q|q
   · exact q
   refine absurd hi (ZbX hx (i:=i0) (by omega) ?_ (by omega));rw[getD_set_ne false (by omega),getD_set_ne false (by omega)];exact getD_both hun
  have hi':i ∈ Region.ready md ops listed:=by
   rw[mem_ready];refine⟨hiun,o,ho,fun e he hb=> ?_⟩;have:=hall e he hb;obtain⟨q1,q2⟩:=hX.no i o hlt ho e he hb;rwa [getD_set_ne false (Ne.symm q2),getD_set_ne false (Ne.symm q1)] at this
  refine ZdF ho (hX.apart i o hlt ho) (fun cs b=>hsel i o cs b ho) hC (fun a' w' hC' h'=> ?_) (h i hi' hin).2;rw[Array.setIfInBounds_comm _ _ (Ne.symm hin1),Array.setIfInBounds_comm _ _ (Ne.symm hin)];exact ZhG hX hsel hx hfin f _ a' w' hC' h'
theorem Zof {R:ι} (hX:FreeX md ops n on os) (hsel:∀(j:Nat) (o:Oper) cs b,ops[j]? =some o→o.op≠.select cs b) (hx:tailX md ops (n + 1)=true)
 (hst:∀w,C R w→∃(R2:ι) (w':World),(execOp (Act.eval (a1.put on.dst p)) os).run P w=.ok .skip w'∧C R2 w'∧
   ∀w'',C R2 w''→wpAny P md ops Q' g (((ZaS ops.size n).setIfInBounds n true).setIfInBounds (n + 1) true) (a1.put on.dst p) w''):
 ∀(f:Nat) (listed:Array Bool) (a:Act) (w:World),HeadInv md ops n listed→C R w→Zbm P md ops C n (fun listed' a'=>listed'=ZaS ops.size n∧a'=a1) f listed a→wpAny P md ops Q' (f + 1 + g) (listed.setIfInBounds n true) (a.put on.dst p) w:=by
 intro f
 induction f with
 |zero=> ?_
 |succ f ih=> ?_
 all_goals
  intro listed a w inv hC h;have hss:n + 1 < ops.size:=(Array.getElem?_eq_some_iff.1 hX.hos).1;have hnl:n < listed.size:=by rw[inv.size];omega
  have h1un:(listed.setIfInBounds n true).getD (n + 1) false=false:=by
   rw[getD_set_ne false (by omega)];exact getD_both (inv.tail (n + 1) (by omega) hss)
  have store:∀f',Zbm P md ops C n (fun listed' a'=>listed'=ZaS ops.size n∧a'=a1) f' listed a→n + 1 ∈ Region.ready md ops (listed.setIfInBounds n true)→
   wpOp P ops Q' (n + 1) (wpAny P md ops Q' (f' + g) ((listed.setIfInBounds n true).setIfInBounds (n + 1) true)) (a.put on.dst p) w:=fun f' h hr=>by
   obtain⟨R2,w',hrun,hR2,hfin⟩:=hst w hC;obtain⟨_,os',hos',hall⟩:=mem_ready.1 hr;have hoe:os'=os:=Option.some.inj (hos'.symm.trans hX.hos);subst hoe
   have hev:execOp (Act.eval (a.put on.dst p)) os'=execOp (Act.eval (a1.put on.dst p)) os':=execOp_congr os' (fun cs b=>hsel _ _ cs b hos') fun x hxm=>by
    cases x with
    |tmp t=>
     have hlook:t ∈ os'.looksAt ops:=List.mem_append_left _ (List.mem_filterMap.2 ⟨.tmp t,by simpa using hxm,rfl⟩)
     have hk:a.tmps[t]? =a1.tmps[t]? :=Zc4 R (fun _ _ _ _ _=>trivial) f' listed a (fun i o hi ho hl hd=>by
      rcases hX.reads i o hi ho with q|q
      · obtain⟨oj,hoj,e,he,hb,hon⟩:=Region.waitsFor_spec q;have:oj=os':=Option.some.inj (hoj.symm.trans hos');subst this;have:=hall e he hb;rw[hon,getD_set_ne false (by omega),hl] at this;cases this
      exact q t hd hlook) h
     have hps:∀(c:Act),(c.put on.dst p).tmps[t]? =if on.dst=some t∧t < c.tmps.size then some p else c.tmps[t]? :=fun c=>by
      cases hd:on.dst with
      |none=>simp[Act.put]
      |some u=>
       by_cases hu:u=t
       · subst hu;by_cases hz:u < c.tmps.size<;>simp[Act.put,hz]
       simp[Act.put,Array.getElem?_setIfInBounds_ne hu,hu]
     have hsz:t < a.tmps.size↔t < a1.tmps.size:=by
      constructor
      · intro q;rw[Array.getElem?_eq_getElem q] at hk;exact(Array.getElem?_eq_some_iff.1 hk.symm).1
      intro q;rw[Array.getElem?_eq_getElem q] at hk;exact(Array.getElem?_eq_some_iff.1 hk).1
     show(a.put on.dst p).tmps.getD t undef=(a1.put on.dst p).tmps.getD t undef;rw[Array.getD_eq_getD_getElem?,Array.getD_eq_getD_getElem?,hps,hps,hk];simp only[hsz]
    |_=>rfl
   refine Zd7 hos' (by unfold Region.wanted;rw[hX.guards]) (by rw[hev];exact hrun) ?_;rw[hX.dst];exact ZhG hX hsel hx hfin f' listed a w' hR2 h
  have far:∀i,i ∈ Region.ready md ops (listed.setIfInBounds n true)→i≠n∧¬n + 1 < i:=fun i hi=>by
   refine⟨?_,fun q=>absurd hi (ZbX hx (Nat.le_refl _) h1un q)⟩;rintro rfl;have:=(mem_ready.1 hi).1;simp[hnl] at this
 · rw[show 0 + 1 + g=(0 + g) + 1 by omega]
   have hlast:∀i,i ∈ Region.ready md ops (listed.setIfInBounds n true)→i=n + 1:=fun i hi=>by
    have:=far i hi
    rcases Nat.lt_or_ge i n with q|q
    · have hun:=(mem_ready.1 hi).1;rw[getD_set_ne true (by omega),h.1] at hun;simp[ZaS,show i < ops.size by omega,q] at hun
    omega
   have hrs:n + 1 ∈ Region.ready md ops (listed.setIfInBounds n true):=by
    rw[mem_ready];refine⟨by rw[getD_set_ne true (by omega)];exact inv.tail (n + 1) (by omega) hss,os,hX.hos,fun e he hb=> ?_⟩;have:=hX.back e he hb;by_cases q:e.on=n
    · rw[q];simp[hnl]
    rw[getD_set_ne false (Ne.symm q),h.1];simp[ZaS,show e.on < ops.size by omega,show e.on < n by omega]
   refine⟨fun h0=>by rw[h0] at hrs;(cases hrs),fun i hi=> ?_⟩;have e:=hlast i hi;subst e;exact store 0 h hi
 rw[show f + 1 + 1 + g=(f + 1 + g) + 1 by omega];obtain⟨⟨i0,hi0,hi0n⟩,h'⟩:=id h;refine⟨fun h0=> ?_,fun i hi=> ?_⟩
 · have:=ready_mono (i:=n) hi0 (by omega)
   rw[h0] at this;cases this
 have hfar:=far i hi;by_cases hs:i=n + 1
 · subst hs;exact store (f + 1) h hi
 have hlt:i < n:=by omega
 obtain⟨hiun,o,ho,hall⟩:=mem_ready.1 hi;rw[getD_set_ne true (by omega)] at hiun
 have hi':i ∈ Region.ready md ops listed:=by
  rw[mem_ready];refine⟨hiun,o,ho,fun e he hb=> ?_⟩;have:=hall e he hb;rwa [getD_set_ne false (Ne.symm (hX.no i o hlt ho e he hb).1)] at this
 refine ZdF ho (hX.apart i o hlt ho) (fun cs b=>hsel i o cs b ho) hC (fun a' w' hC' hh=> ?_) (h' i hi' (by omega)).2;rw[Array.setIfInBounds_comm _ _ (show n≠i by omega)];exact ih _ a' w' (inv.set hi' hlt) hC' hh
theorem ZiD {R0:ι} (hX:FreeX md ops n on os) (hsel:∀(j:Nat) (o:Oper) cs b,ops[j]? =some o→o.op≠.select cs b) (hx:tailX md ops (n + 1)=true)
 (hal:∀a w,C R0 w→∃(p:Value) (R:ι) (w':World),(execOp (Act.eval a) on).run P w=.ok (.value p) w'∧C R w'∧
   ∀w,C R w→∃(R2:ι) (w':World),(execOp (Act.eval (a1.put on.dst p)) os).run P w=.ok .skip w'∧C R2 w'∧
   ∀w'',C R2 w''→wpAny P md ops Q' g (((ZaS ops.size n).setIfInBounds n true).setIfInBounds (n + 1) true) (a1.put on.dst p) w''):
 ∀(f:Nat) (listed:Array Bool) (a:Act) (w:World),HeadInv md ops n listed→C R0 w→Zbm P md ops C n (fun listed' a'=>listed'=ZaS ops.size n∧a'=a1) f listed a→wpAny P md ops Q' (f + 2 + g) listed a w:=by
 intro f
 induction f with
 |zero=> ?_
 |succ f ih=> ?_
 all_goals
  intro listed a w inv hC h;have hns:n < ops.size:=(Array.getElem?_eq_some_iff.1 hX.hon).1;have hnr:n ∈ Region.ready md ops listed:=mem_ready.2 ⟨inv.tail n (Nat.le_refl _) hns,on,hX.hon,fun e he=>by rw[hX.after] at he;simp at he⟩;have hnun:listed.getD n false=false:=getD_both (inv.tail n (Nat.le_refl _) hns);have far:=Zg0 hx hX.waits hnun
  have alloc:∀f',Zbm P md ops C n (fun listed' a'=>listed'=ZaS ops.size n∧a'=a1) f' listed a→wpOp P ops Q' n (wpAny P md ops Q' (f' + 1 + g) (listed.setIfInBounds n true)) a w:=fun f' h=>by
   obtain⟨p,R,w',hrun,hR,hfin⟩:=hal a w hC;refine Zb6 hX.hon (by unfold Region.wanted;rw[hX.guard]) hrun ?_;exact Zof hX hsel hx hfin f' listed a w' inv hR h
 · rw[show 0 + 2 + g=(0 + 1 + g) + 1 by omega];refine⟨fun h0=>by rw[h0] at hnr;(cases hnr),fun i hi=> ?_⟩;have hle:=far i hi
   by_cases hin:i=n
   · subst hin;exact alloc 0 h
   exact absurd (Zcv i (by rw[←h.1];exact hi)) (by omega)
 rw[show f + 1 + 2 + g=(f + 1 + 1 + g) + 1 by omega];refine⟨fun h0=>by rw[h0] at hnr;(cases hnr),fun i hi=> ?_⟩;have hle:=far i hi
 by_cases hin:i=n
 · subst hin;exact alloc (f + 1) h
 have hlt:i < n:=by omega
 refine Zb7 hC (fun a' w' hC' h'=> ?_) (h.2 i hi hin).2;have:=ih _ a' w' (inv.set hi hlt) hC' h';rwa [show f + 2 + g=f + 1 + 1 + g by omega] at this
end
def freeS (md:Region.Mode) (ops:Array Oper) (n:Nat):Bool:=
 match ops[n]? with
 |some os=>os.guard.isNone&&os.dst.isNone&&os.after.all (fun e=> !Region.binds md e || decide (e.on < n))&&(List.range n).all fun i=> !Region.waitsFor md ops i n&&(match ops[i]? with
  |some o=>Region.waitsFor md ops n i || (match o.dst with|some d=> !(os.looksAt ops).contains d|none=>true)
  |none=>true)
 |none=>false
structure FreeS (md:Region.Mode) (ops:Array Oper) (n:Nat) (os:Oper):Prop where
 hos:ops[n]? =some os
 guards:os.guard=none
 dst:os.dst=none
 no:∀i o,i < n→ops[i]? =some o→∀e ∈ o.after,Region.binds md e=true→e.on≠n
 reads:∀i o,i < n→ops[i]? =some o→Region.waitsFor md ops n i=true∨∀d,o.dst=some d→d ∉ os.looksAt ops
 back:∀e ∈ os.after,Region.binds md e=true→e.on < n
theorem Zj6 {n:Nat} (h:freeS md ops n=true):∃os,FreeS md ops n os:=by
 unfold freeS at h;split at h
 · rename_i os hs;simp only[Bool.and_eq_true,List.all_eq_true,Option.isNone_iff_eq_none] at h;obtain⟨⟨⟨h3,h4⟩,h9⟩,h6⟩:=h;refine⟨os,hs,h3,h4,fun i o hi hio e he hb heq=> ?_,fun i o hi hio=> ?_,fun e he hb=> ?_⟩
   · have h7:=(h6 i (List.mem_range.2 hi)).1;have h3:Region.waitsFor md ops i n=false:=by simpa using h7
     unfold Region.waitsFor at h3;rw[hio] at h3;simp only[Array.any_eq_false'] at h3;exact h3 e he (by simp[hb,heq])
   · have h7:=h6 i (List.mem_range.2 hi);rw[hio] at h7;simp only[Bool.or_eq_true] at h7;rcases h7.2 with h8|h8
     · exact .inl h8
     right
     intro d hd;rw[hd] at h8;simpa using h8
   have:=Array.all_eq_true'.1 h9 e he
   simpa [hb] using this
 cases h
section
variable {n g:Nat} {os:Oper} {a1:Act} {Q':Exit→Act→World→Prop}
theorem ZhF {R:ι} (hX:FreeS md ops n os) (hx:tailX md ops n=true)
 (hfin:∀w',C R w'→wpAny P md ops Q' g ((ZaS ops.size n).setIfInBounds n true) a1 w'):
 ∀(f:Nat) (listed:Array Bool) (a:Act) (w:World),C R w→Zbm P md ops C n (fun listed' a'=>listed'=ZaS ops.size n∧a'=a1) f listed a→wpAny P md ops Q' (f + g) (listed.setIfInBounds n true) a w
 |0,listed,a,w,hC,h=>by
  obtain⟨rfl,h⟩:=h;rw[Nat.zero_add,h];exact hfin _ hC
 |f + 1,listed,a,w,hC,h=>by
  rw[show f + 1 + g=(f + g) + 1 by omega];obtain⟨⟨i0,hi0,hi0n⟩,h⟩:=h;have hun:=(mem_ready.1 hi0).1;refine⟨fun h0=> ?_,fun i hi=> ?_⟩
  · have:=ready_mono (i:=n) hi0 (by omega)
    rw[h0] at this;cases this
  obtain⟨hiun,o,ho,hall⟩:=mem_ready.1 hi
  have hin:i≠n:=by
   rintro rfl;rcases Nat.lt_or_ge i listed.size with q|q
   · simp[q] at hiun
   rw[Array.getD_eq_getD_getElem?,Array.getElem?_eq_none (by simpa using q)] at hiun;cases hiun
  rw[getD_set_ne true (Ne.symm hin)] at hiun
  have hlt:i < n:=by
   rcases Nat.lt_or_ge i n with q|q
   · exact q
   refine absurd hi (ZbX hx (i:=i0) (by omega) ?_ (by omega));rw[getD_set_ne false (by omega)];exact getD_both hun
  have hi':i ∈ Region.ready md ops listed:=by
   rw[mem_ready];refine⟨hiun,o,ho,fun e he hb=> ?_⟩;have:=hall e he hb;rwa [getD_set_ne false (Ne.symm (hX.no i o hlt ho e he hb))] at this
  refine Zb7 hC (fun a' w' hC' h'=> ?_) (h i hi' hin).2;rw[Array.setIfInBounds_comm _ _ (Ne.symm hin)];exact ZhF hX hx hfin f _ a' w' hC' h'
theorem Zoe {R:ι} (hX:FreeS md ops n os) (hsel:∀(j:Nat) (o:Oper) cs b,ops[j]? =some o→o.op≠.select cs b) (hx:tailX md ops n=true)
 (hst:∀w,C R w→∃(R2:ι) (w':World),(execOp (Act.eval a1) os).run P w=.ok .skip w'∧C R2 w'∧
   ∀w'',C R2 w''→wpAny P md ops Q' g ((ZaS ops.size n).setIfInBounds n true) a1 w''):
 ∀(f:Nat) (listed:Array Bool) (a:Act) (w:World),HeadInv md ops n listed→C R w→Zbm P md ops C n (fun listed' a'=>listed'=ZaS ops.size n∧a'=a1) f listed a→wpAny P md ops Q' (f + 1 + g) listed a w:=by
 intro f
 induction f with
 |zero=> ?_
 |succ f ih=> ?_
 all_goals
  intro listed a w inv hC h;have hss:n < ops.size:=(Array.getElem?_eq_some_iff.1 hX.hos).1;have hnun:listed.getD n false=false:=getD_both (inv.tail n (Nat.le_refl _) hss)
  have store:∀f',Zbm P md ops C n (fun listed' a'=>listed'=ZaS ops.size n∧a'=a1) f' listed a→n ∈ Region.ready md ops listed→
   wpOp P ops Q' n (wpAny P md ops Q' (f' + g) (listed.setIfInBounds n true)) a w:=fun f' h hr=>by
   obtain⟨R2,w',hrun,hR2,hfin⟩:=hst w hC;obtain⟨_,os',hos',hall⟩:=mem_ready.1 hr;have hoe:os'=os:=Option.some.inj (hos'.symm.trans hX.hos);subst hoe
   have hev:execOp (Act.eval a) os'=execOp (Act.eval a1) os':=execOp_congr os' (fun cs b=>hsel _ _ cs b hos') fun x hxm=>by
    cases x with
    |tmp t=>
     have hlook:t ∈ os'.looksAt ops:=List.mem_append_left _ (List.mem_filterMap.2 ⟨.tmp t,by simpa using hxm,rfl⟩)
     have hk:a.tmps[t]? =a1.tmps[t]? :=Zc4 R (fun _ _ _ _ _=>trivial) f' listed a (fun i o hi ho hl hd=>by
      rcases hX.reads i o hi ho with q|q
      · obtain⟨oj,hoj,e,he,hb,hon⟩:=Region.waitsFor_spec q;have:oj=os':=Option.some.inj (hoj.symm.trans hos');subst this;have:=hall e he hb;rw[hon,hl] at this;cases this
      exact q t hd hlook) h
     show a.tmps.getD t undef=a1.tmps.getD t undef;rw[Array.getD_eq_getD_getElem?,Array.getD_eq_getD_getElem?,hk]
    |_=>rfl
   refine Zd7 hos' (by unfold Region.wanted;rw[hX.guards]) (by rw[hev];exact hrun) ?_;rw[hX.dst];exact ZhF hX hx hfin f' listed a w' hR2 h
  have far:∀i,i ∈ Region.ready md ops listed→¬n < i:=fun i hi q=>absurd hi (ZbX hx (Nat.le_refl _) hnun q)
 · rw[show 0 + 1 + g=(0 + g) + 1 by omega]
   have hrs:n ∈ Region.ready md ops listed:=by
    rw[mem_ready];refine⟨inv.tail n (Nat.le_refl _) hss,os,hX.hos,fun e he hb=> ?_⟩;have:=hX.back e he hb;rw[h.1];simp[ZaS,show e.on < ops.size by omega,this]
   refine⟨fun h0=>by rw[h0] at hrs;(cases hrs),fun i hi=> ?_⟩;have h1:=far i hi;have h2:=Zcv i (by rw[←h.1];exact hi)
   obtain rfl:i=n:=by omega
   exact store 0 h hi
 rw[show f + 1 + 1 + g=(f + 1 + g) + 1 by omega];obtain⟨⟨i0,hi0,hi0n⟩,h'⟩:=id h;refine⟨fun h0=>by rw[h0] at hi0;(cases hi0),fun i hi=> ?_⟩;have hfar:=far i hi;by_cases hs:i=n
 · subst hs;exact store (f + 1) h hi
 have hlt:i < n:=by omega
 refine Zb7 hC (fun a' w' hC' hh=> ?_) (h' i hi hs).2;exact ih _ a' w' (inv.set hi hlt) hC' hh
end
def dstB (m:Nat):List Oper→Bool
 |[]=>true
 |o::l=>(match o.dst with|some d=>decide (d < m)&&l.all (fun p=>p.dst != some d)|none=>false)&&dstB m l
theorem ZiZ (a:Act) (x:Option Tmp) (v:Value):(a.put x v).tmps.size=a.tmps.size:=by cases x<;>simp[Act.put]
theorem Zch {D:World→Prop} {a1:Act} {d:Tmp}:∀(l:List Oper) (a:Act),l.all (fun p=>p.dst != some d)=true→wpQuiet P ops D (fun a'=>a'=a1) l a→a1.tmps[d]? =a.tmps[d]?
 |[],a,_,h=>by rw[show a=a1 from h]
 |o::l,a,hd,h=>by
  simp only[List.all_cons,Bool.and_eq_true,bne_iff_ne,ne_eq] at hd
  have key:∀v,(a.put o.dst v).tmps[d]? =a.tmps[d]? :=fun v=>by
   cases ho:o.dst with
   |none=>rfl
   |some t=>
    have:t≠d:=fun e=>hd.1 (by rw[ho,e])
    simp[Act.put,Array.getElem?_setIfInBounds_ne this]
  unfold wpQuiet at h;split at h
  · obtain⟨v,_,h⟩:=h;rw[Zch l _ hd.2 h,key]
  rw[Zch l _ hd.2 h,key]
theorem Zb5 {a1:Act} (i0:ι):∀(l:List Oper) (a:Act),(∀i,wpQuiet P ops (C i) (fun a'=>a'=a1) l a)→dstB a.tmps.size l=true→ZbN P ops C (fun a'=>a'=a1) l a
 |[],a,h,_=>h i0
 |o::l,a,h,hd=>by
  unfold dstB at hd;simp only[Bool.and_eq_true] at hd;obtain⟨hd1,hd2⟩:=hd;unfold ZbN;unfold wpQuiet at h;split
  · rename_i hw;simp only[hw,if_true] at h
    cases ho:o.dst with
    |none=>rw[ho] at hd1;cases hd1
    |some d=>
     rw[ho] at hd1;simp only[Bool.and_eq_true,decide_eq_true_eq] at hd1
     have hv:∀i v,wpQuiet P ops (C i) (fun a'=>a'=a1) l (a.put o.dst v)→a1.tmps[d]? =some v:=fun i v hq=>by
      rw[Zch l _ hd1.2 hq,ho];simp[Act.put,hd1.1]
     obtain⟨v0,_,hr0⟩:=h i0;have e0:=hv i0 v0 hr0
     have hall:∀i,(∀w,C i w→o.quietAt P a (C i) w v0)∧wpQuiet P ops (C i) (fun a'=>a'=a1) l (a.put o.dst v0):=fun i=>by
      obtain⟨v,hq,hr⟩:=h i;have e:=hv i v hr;rw[e0] at e;cases e;exact⟨hq,hr⟩
     refine⟨v0,fun i=>(hall i).1,Zb5 i0 l _ (fun i=>(hall i).2) (by rw[ZiZ];exact hd2)⟩
  rename_i hw;simp only[hw] at h;exact Zb5 i0 l _ h (by rw[ZiZ];exact hd2)
end
end Go
namespace Go.Proofs.YtknoefbcmomalabGreatDoor
section
variable {P:Program} {L0 L:List Part} {w0:World}
abbrev ZjB (L0:List Part) (w0:World) (L:List Part):Type:={R:Part // ∃w,At L0 w0 (R::L) w}
theorem ZmK (vs us:List Value) (h:us.length=vs.length):setL vs 0 us=us:=by
 apply List.ext_getElem?;intro j;by_cases hj:j < us.length
 · have:=ZkR us vs 0 j (by omega) hj
   rwa [Nat.zero_add] at this
 rw[List.getElem?_eq_none (by rw[Zb9];omega),List.getElem?_eq_none (by omega)]
theorem Zau {id:Nat} {Q:Exit→Act→World→Prop} {a a1:Act} {w:World} {l:List Oper} (n:Nat) (d:Tmp) (E:TypeId) (y:Operand) (z:Value) (vs us:List Value) (hm:P.follows .mixedOrders=true)
 (hB:(Region.noSelect l.toArray&&tailX .any l.toArray (n + 1)&&freeX .any l.toArray n&&headB .any l.toArray n 0 (Array.replicate l.toArray.size false)&&dstB a.tmps.size (l.take n)&&Region.seqB .any l.toArray (l.length - (n + 2)) (n + 2) (((ZaS l.toArray.size n).setIfInBounds n true).setIfInBounds (n + 1) true))=true)
 (ho:(l[n]?).map (fun o=>(o.dst,o.op))=some (some d,.alloc E)) (hs:(l[n + 1]?).map (fun o=>o.op)=some (.store E (.tmp d) y)) (hyd:(match y with|.tmp t=>t != d|_=>true)=true) (hz:(P.info? E).map (·.zero)=some (some z)) (hv:z.cells=vs.toArray)
 (hA:At L0 w0 L w)
 (h1:∀(R:Part) (wR:World),At L0 w0 (R::L) wR→wpQuiet P l.toArray (Cl L0 w0 (R::L)) (fun a'=>a'=a1) (l.take n) a)
 (hd:d < a1.tmps.size) {v:Value} (hy:a1.eval y=v) (hu:v.cells=us.toArray) (hsz:(P.info? E).map (·.size)=some us.length) (hus:us.all (·.oneCell')=true) (hl:us.length=vs.length)
 (h2:∀b w',At L0 w0 (Part.cells b us E::L) w'→w0.heap.size≤b→wpList P l.toArray Q (l.drop (n + 2)) (a1.put (some d) (.pointer (some ⟨b,0,none⟩))) w'):(Code.region id l.toArray true).wp P Q a w:=by
 simp only[Bool.and_eq_true] at hB;obtain⟨⟨⟨⟨⟨hsel,hx⟩,hfx⟩,hhead⟩,hdst⟩,hseq⟩:=hB;obtain⟨on,os,hX⟩:=Zj5 hfx;have hss:n + 1 < l.length:=by simpa using(Array.getElem?_eq_some_iff.1 hX.hos).1
 have hon':l[n]? =some on:=by simpa using hX.hon
 have hos':l[n + 1]? =some os:=by simpa using hX.hos
 rw[hon'] at ho;rw[hos'] at hs;simp only[Option.map_some,Option.some.injEq,Prod.mk.injEq] at ho hs;obtain⟨hod,hop⟩:=ho;have htl:(l.take n).length=n:=by simp;omega
 have hA0:At L0 w0 (Part.fact True::L) w.drew:=hA.drew.new (Ext.refl _) (Part.fact True) trivial (fun _ e=>e.elim);let C:ZjB L0 w0 L→World→Prop:=fun R w=>At L0 w0 (R.1::L) w
 let R0:ZjB L0 w0 L:=⟨Part.fact True,w.drew,hA0⟩
 have inv0:HeadInv .any l.toArray n (Array.replicate l.toArray.size false):=
  ⟨by simp,fun j oj _ hl=>(by rw[getD_replicate_false] at hl;cases hl),fun t _ ht=>getD_in (by simpa using ht) (getD_replicate_false _ _)⟩
 have hq:ZbN P l.toArray C (fun a'=>a'=a1) (l.take n) a:=Zb5 R0 _ _ (fun R=>by
  obtain⟨R,wR,hR⟩:=R
  exact h1 R wR hR) hdst
 have H:=ZcU (C:=C) (md:=.any) hsel (fun _ hun=>Zg0 hx hX.waits hun) (by simp;omega) (l.take n) 0 _ a (fun j hj=>by
  have hj':j < n:=by rw[htl] at hj;exact hj
  simp[hj']) (by simpa using htl) inv0 (fun j hj=>by omega) (by rw[htl];exact hhead) hq
 refine wp_region_any hm ?_;have hdl:(l.drop (n + 2)).length=l.length - (n + 2):=by simp
 have key:=ZiD (C:=C) (Q':=Q) (R0:=R0) (g:=l.length - (n + 2)) hX (Region.noSelect_spec hsel) hx (fun a w hC=>by
  have hC':At L0 w0 L w:=At.sub hC (List.sublist_cons_self _ _);have hnew:=hC'.alloc vs E;refine⟨.pointer (some ⟨w.heap.size,0,none⟩),⟨Part.cells w.heap.size vs E,_,hnew⟩,_,?_,hnew,fun w1 hw1=> ?_⟩
  · cases hq:P.info? E with
    |none=>simp[hq] at hz
    |some i=>
     have hi:i.zero=some z:=by simpa [hq] using hz
     simp[execOp,hop,Instr.alloc,zeroValue,typeInfo,hq,hi,newVar,newRow,hv,Result.andThen]
  have hb:Zaa w1 w.heap.size vs E:=At.get (A:=Part.cells w.heap.size vs E) hw1 .here;have hsto:=At.stores hw1 (b:=w.heap.size) (c:=vs) (T:=E) .here 0 us;have hset:setL vs 0 us=us:=ZmK vs us hl;rw[hset] at hsto;have hvs:v.cells.size=us.length:=by rw[hu];simp
  have hrun:=ZaZ (P:=P) w1 w.heap.size 0 E v (hb.there 0 _ (by omega)) (by rw[hvs];exact hsz) (by
   rw[hu,Array.all_eq_true_iff_forall_mem];intro u hu'
   exact List.all_eq_true.1 hus u (by simpa using hu'))
  rw[show v.cells.toList=us from by rw[hu]] at hrun
  have ed:(a1.put on.dst (.pointer (some ⟨w.heap.size,0,none⟩))).eval (.tmp d)=.pointer (some ⟨w.heap.size,0,none⟩):=by
   rw[hod];simp[Act.put,Act.eval,hd]
  have ey:(a1.put on.dst (.pointer (some ⟨w.heap.size,0,none⟩))).eval y=v:=by
   rw[←hy];refine Act.eval_put fun t ht e=> ?_;rw[hod] at ht;cases ht;subst e;simp at hyd
  refine⟨⟨Part.cells w.heap.size us E,_,hsto⟩,_,?_,hsto,fun w'' hw''=> ?_⟩
  · simp[execOp,hs,ed,ey,hrun,Result.andThen]
  have:=wpAny_of_seq (P:=P) (ops:=l.toArray) (md:=.any) (Q':=Q) (l.drop (n + 2)) (n + 2) (((ZaS l.toArray.size n).setIfInBounds n true).setIfInBounds (n + 1) true) (a1.put on.dst (.pointer (some ⟨w.heap.size,0,none⟩))) w'' (fun j=>by simp[List.getElem?_drop]) (by rw[hdl];exact hseq) (by
   rw[hod]
   exact h2 _ _ hw'' hC'.size)
  rwa [hdl] at this) _ _ _ _ inv0 hA0 H
 rw[htl,show n + 2 + (l.length - (n + 2))=l.toArray.size by simp;omega] at key;exact key
theorem Zcg {id:Nat} {Q:Exit→Act→World→Prop} {a a1:Act} {w:World} {l:List Oper} (n:Nat) (T:TypeId) (x y:Operand) (hm:P.follows .mixedOrders=true)
 (hB:(Region.noSelect l.toArray&&tailX .any l.toArray n&&freeS .any l.toArray n&&headB .any l.toArray n 0 (Array.replicate l.toArray.size false)&&dstB a.tmps.size (l.take n)&&Region.seqB .any l.toArray (l.length - (n + 1)) (n + 1) ((ZaS l.toArray.size n).setIfInBounds n true))=true)
 (hs:(l[n]?).map (fun o=>o.op)=some (.store T x y)) {b j:Nat} {c:List Value} {E:TypeId} {F:List Part}
 (hA0:At L0 w0 L w) (s:Sel (Part.cells b c E) L F)
 (h1:∀(R:Part) (wR:World),At L0 w0 (R::F) wR→wpQuiet P l.toArray (Cl L0 w0 (R::F)) (fun a'=>a'=a1) (l.take n) a)
 (hx:a1.eval x=.pointer (some ⟨b,j,none⟩)) {v:Value} {us:List Value} (hy:a1.eval y=v) (hu:v.cells=us.toArray) (hsz:(P.info? T).map (·.size)=some us.length) (hus:us.all (·.oneCell')=true) (hl:j + us.length≤c.length)
 (h2:∀w',At L0 w0 (Part.cells b (setL c j us) E::F) w'→wpList P l.toArray Q (l.drop (n + 1)) a1 w'):(Code.region id l.toArray true).wp P Q a w:=by
 simp only[Bool.and_eq_true] at hB;obtain⟨⟨⟨⟨⟨hsel,htx⟩,hfx⟩,hhead⟩,hdst⟩,hseq⟩:=hB;obtain⟨os,hX⟩:=Zj6 hfx;have hss:n < l.length:=by simpa using(Array.getElem?_eq_some_iff.1 hX.hos).1
 have hos':l[n]? =some os:=by simpa using hX.hos
 rw[hos'] at hs;simp only[Option.map_some,Option.some.injEq] at hs;have htl:(l.take n).length=n:=by simp;omega
 have hA:At L0 w0 (Part.cells b c E::F) w.drew:=(hA0.take s).drew;let C:ZjB L0 w0 F→World→Prop:=fun R w=>At L0 w0 (R.1::F) w
 let R0:ZjB L0 w0 F:=⟨Part.cells b c E,w.drew,hA⟩
 have inv0:HeadInv .any l.toArray n (Array.replicate l.toArray.size false):=
  ⟨by simp,fun j oj _ hl=>(by rw[getD_replicate_false] at hl;cases hl),fun t _ ht=>getD_in (by simpa using ht) (getD_replicate_false _ _)⟩
 have hq:ZbN P l.toArray C (fun a'=>a'=a1) (l.take n) a:=Zb5 R0 _ _ (fun R=>by
  obtain⟨R,wR,hR⟩:=R
  exact h1 R wR hR) hdst
 have H:=ZcU (C:=C) (md:=.any) hsel (fun listed hun i hi=>by
  rcases Nat.lt_or_ge n i with q|q
  · exact absurd hi (ZbX htx (Nat.le_refl _) hun q)
  · exact q) (by simpa using hss) (l.take n) 0 _ a (fun j hj=>by
  have hj':j < n:=by rw[htl] at hj;exact hj
  simp[hj']) (by simpa using htl) inv0 (fun j hj=>by omega) (by rw[htl];exact hhead) hq
 refine wp_region_any hm ?_;have hdl:(l.drop (n + 1)).length=l.length - (n + 1):=by simp
 have key:=Zoe (C:=C) (Q':=Q) (R:=R0) (g:=l.length - (n + 1)) (a1:=a1) hX (Region.noSelect_spec hsel) htx (fun w1 hw1=>by
  have hb:Zaa w1 b c E:=At.get (A:=Part.cells b c E) hw1 .here;have hsto:=At.stores hw1 (b:=b) (c:=c) (T:=E) .here j us;have hvs:v.cells.size=us.length:=by rw[hu];simp
  have hrun:=ZaZ (P:=P) w1 b j T v (hb.there j _ (by omega)) (by rw[hvs];exact hsz) (by
   rw[hu,Array.all_eq_true_iff_forall_mem];intro u hu'
   exact List.all_eq_true.1 hus u (by simpa using hu'))
  rw[show v.cells.toList=us from by rw[hu]] at hrun;refine⟨⟨Part.cells b (setL c j us) E,_,hsto⟩,_,?_,hsto,fun w'' hw''=> ?_⟩
  · simp[execOp,hs,hx,hy,hrun,Result.andThen]
  have:=wpAny_of_seq (P:=P) (ops:=l.toArray) (md:=.any) (Q':=Q) (l.drop (n + 1)) (n + 1) ((ZaS l.toArray.size n).setIfInBounds n true) a1 w'' (fun j=>by simp[List.getElem?_drop]) (by rw[hdl];exact hseq) (h2 _ hw'')
  rwa [hdl] at this) _ _ _ _ inv0 hA H
 rw[htl,show n + 1 + (l.length - (n + 1))=l.toArray.size by simp;omega] at key;exact key
end
section
open Go.Maps (Keyed)
variable {P:Program} {k:TypeId} {b:Nat} {es:List (Value × Value)} {o:Oper} {a:Act} {L0 L F:List Part} {w0:World} {K:Act→Prop}
theorem ZbR {t:TypeId} {m x:Operand} (hop:o.op=.lookup t m x true) (hm:a.eval m=.map (some b)) {key:Value} (hx:a.eval x=key)
 (s:Sel (Part.map P k b es) L F) {e:TypeId} (Kd:Keyed P k) (ht:P.underlying t=some (.map k e)) {kl:Lit} (hk:keyOf P k key=some kl) (hn:∀p ∈ es,p.1≠key) {z:Value} (hz:∀w,(zeroValue e).run P w=.ok z w)
 (hK:K (a.put o.dst (.tuple #[z,.bool false]))):o.quiet P a (Cl L0 w0 L) K:=by
 refine Zc9 _ (fun w' hw=> ?_) hK;have hM:MapAt P k w' b es:=hw.get s;simp[execOp,hop,hm,hx,hM.look_none Kd ht hk hn (hz w') true,Result.andThen]
theorem ZbQ {t:TypeId} {m x:Operand} (hop:o.op=.lookup t m x true) (hm:a.eval m=.map (some b)) {key:Value} (hx:a.eval x=key)
 (s:Sel (Part.map P k b es) L F) {e:TypeId} (Kd:Keyed P k) (ht:P.underlying t=some (.map k e)) {kl:Lit} (hk:keyOf P k key=some kl) {v:Value} (hn:(key,v) ∈ es)
 (hK:K (a.put o.dst (.tuple #[v,.bool true]))):o.quiet P a (Cl L0 w0 L) K:=by
 refine Zc9 _ (fun w' hw=> ?_) hK;have hM:MapAt P k w' b es:=hw.get s;simp[execOp,hop,hm,hx,hM.look_some Kd ht hk hn true,Result.andThen]
end
end Go.Proofs.YtknoefbcmomalabGreatDoor
end
namespace Go.Proofs.YtknoefbcmomalabGreatDoor
section
namespace Mark
open Go.RowKit Go.Shelf
open Go.Maps (Keyed)
attribute [local go_sem] Oper.semAt_some
def seenOf (w:World) (r:Nat):Nat:=match w.heap[r]? with|some (.mapIter _ _ seen _)=>seen.size|_=>0
theorem seenOf_eq {P:Program} {k:TypeId} {w:World} {r b:Nat} {es done:List (Value × Value)} (h:Zat P k w r b es done):seenOf w r=done.length:=by
 obtain⟨_,_,ents,clock,c0,vs,hb,hr,hc,hd,_⟩:=h;unfold seenOf;rw[hr,←hd];simp
theorem iter_walk {P:Program} {k:TypeId} {w:World} {r b:Nat} {es done:List (Value × Value)} (h:Zat P k w r b es done):∃o:Obj,w.heap[r]? =some o∧o.isWalk=true:=by
 obtain⟨_,_,ents,clock,c0,vs,hb,hr,_⟩:=h;exact⟨_,hr,rfl⟩
theorem iter_keeps {P:Program} {k:TypeId} {w w':World} {r b:Nat} {es done:List (Value × Value)} (h:Zat P k w r b es done) (hk:KeepsWalks w w'):Zat P k w' r b es done:=by
 have h0:=h;obtain⟨_,_,ents,clock,c0,vs,hb,hr,_⟩:=h0;exact h.same ((hk.same b _ hb rfl).trans hb.symm) ((hk.same r _ hr rfl).trans hr.symm)
theorem grown_of_exc {w w':World} {r:Nat} (h:Exc (fun q=>q=r) w w'):w.grownBy w' (some r):=⟨h.os,h.tape,h.output,h.size,fun k hk hn=>h.block k hk (fun e=>hn (by rw[e]))⟩
theorem grown_of_ext {w w':World} (h:Ext w w'):w.grownBy w' none:=⟨Below.os h,Below.tape h,Below.output h,Below.size h,fun k hk _=>Below.block h k hk⟩
def Box (W:World) (B:Nat) (t:TypeId) (c:Array Value):Prop:=W.heap[B]? =some (.cells c t (0,0))
theorem Box.own {β:Type} (B:Nat) (t:TypeId) (c:Array Value):Own (fun(_:β) W=>Box W B t c):=fun s X Y row hs hg hrow=>
 (hg.block B (ZaR hs) (fun e=>by obtain⟨o,ho,hc⟩:=hrow B e.symm;rw[show X.heap[B]? =_ from hs] at ho;cases ho;cases hc)).trans hs
theorem two_new (W:World) (x y:Value) (t:TypeId):∀(j:Nat) (u:Value),[x,y][j]? =some u→(W.alloc (.cells #[x,y] t)).cell? ((⟨W.heap.size,0,none⟩:Addr).add j)=some u:=by
 intro j u h
 match j,h with
 |0,h=>simp at h;subst h;simp[Addr.add]
 |1,h=>simp at h;subst h;simp[Addr.add]
 |j + 2,h=>simp at h
end Mark
end
section
section
def resW {α:Type}:Result α→World
 |.ok _ w=>w
 |.halt _ w=>w
theorem ZeY {α:Type}:∀(x:Ask α) (w:World),w.drawn≤(w.ask x).2.drawn
 |.done a,w=>Nat.le_refl _
 |.ask what range k,w=>by
  unfold World.ask;simp only[];split
  · exact ZeY _ _
  exact Nat.le_trans (Nat.le_succ _) (ZeY _ {w with drawn:=w.drawn + 1})
theorem ZgO (w:World) (c:Sys):w.drawn≤(w.sys c).2.drawn:=by
 unfold World.sys;have h:=ZeY (Kernel.perform c w.os) w;split
 · exact Nat.le_refl _
 rename_i he;rw[he] at h;exact h
theorem Zei {p:Program} {w:World} {at_:Addr} {u:TypeId} {k:Addr} {v:Value} {atomic:Bool} {r:World × List Addr} (h:w.viewStore p at_ u k v atomic=.ok r):r.1.drawn=w.drawn:=by
 unfold World.viewStore at h;simp only[bind,Except.bind,pure,Except.pure,throw,throwThe,MonadExceptOf.throw] at h
 repeat' first
  |(cases h;done)
  |(cases h;rfl)
  |(simp at h;done)
  |split at h
theorem Zfc {p:Program} {w:World} {a:Addr} {v:Value} {atomic:Bool} {r:World × List Addr} (h:w.farStore p a v atomic=.ok r):r.1.drawn=w.drawn:=by
 unfold World.farStore at h;split at h
 · split at h
   · rename_i hv;cases h;exact Zei hv
   exact nomatch h
 exact nomatch h
theorem ZgV {α:Type} (p:Program) (x:Sem α):∀w:World,w.drawn≤(resW (x.run p w)).drawn:=by
 induction x with
 |pure a=>exact fun w=>Nat.le_refl _
 |load m a k ih=>
  intro w;simp only[Sem.run];split
  · exact ih _ _
  split
  · exact ih _ _
  exact Nat.le_refl _
 |store m a v k ih=>
  intro w;cases v
  all_goals
   simp only[Sem.run];try exact Nat.le_refl _
  all_goals
   split
   · split
     · exact Nat.le_refl _
     exact ih (w.setCell a _)
   split
   · rename_i hf;exact Nat.le_trans (Nat.le_of_eq (Zfc hf).symm) (ih _)
   exact Nat.le_refl _
 |new o k ih=>intro w;exact ih _ {w with heap:=w.heap.push o}
 |shape r k ih=>intro w;exact ih _ _
 |freeze a n k ih=>
  intro w;refine Nat.le_trans (Nat.le_of_eq ?_) (ih (w.freeze a n));unfold World.freeze;split<;>rfl
 |frozen a k ih=>intro w;exact ih _ _
 |getObj r k ih=>
  intro w;simp only[Sem.run];split
  · exact Nat.le_refl _
  · exact ih _ _
  exact Nat.le_refl _
 |setObj r o k ih=>
  intro w;simp only[Sem.run];split
  · exact Nat.le_refl _
  · exact ih {w with heap:=w.heap.setIfInBounds r o}
  exact Nat.le_refl _
 |choose q k ih=>
  intro w;simp only[Sem.run];split
  · exact ih _ _
  exact Nat.le_trans (Nat.le_succ _) (ih _ {w with drawn:=w.drawn + 1})
 |sys c k ih=>intro w;exact Nat.le_trans (ZgO w c) (ih _ _)
 |program k ih=>intro w;exact ih _ _
 |mark m k ih=>intro w;exact ih _
 |halt h=>exact fun w=>Nat.le_refl _
theorem ZaM {α:Type} {p:Program} {x:Sem α} {w w':World} {a:α} (h:x.run p w=.ok a w'):w.drawn≤w'.drawn:=by
 have:=ZgV p x w;rw[h] at this;exact this
theorem Zaz {α:Type} {p:Program} {x:Sem α} {w w':World} {a:Halt} (h:x.run p w=.halt a w'):w.drawn≤w'.drawn:=by
 have:=ZgV p x w;rw[h] at this;exact this
theorem ZoU {α:Type} {p:Program} {x:Sem α} {w w':World} {a:α} {es es':Array Event} (h:x.runT p w es=(.ok a w',es')):w.drawn≤w'.drawn:=
 ZaM (p:=p) (x:=x) (by rw[←Sem.runT_fst p x w es,h])
theorem Zev {α:Type} {p:Program} {x:Sem α} {w w':World} {a:Halt} {es es':Array Event} (h:x.runT p w es=(.halt a w',es')):w.drawn≤w'.drawn:=
 Zaz (p:=p) (x:=x) (by rw[←Sem.runT_fst p x w es,h])
def gw:GStep→World
 |.go _ w _=>w
 |.comm _ _ _ _ w _=>w
 |.spawn _ _ w _=>w
 |.count _ w _=>w
 |.timer _ _ w _=>w
 |.alone _ _ w _=>w
 |.newcoro _ _ _ w _=>w
 |.coroswitch _ _ _ w _=>w
 |.collect _ w _=>w
 |.watch _ w _=>w
 |.ended _ w _=>w
theorem Zbr (es:Array Event) (s:GStep):gw (GStep.after es s)=gw s:=by cases s<;>rfl
theorem ZeE {c:Prop} [Decidable c] {a b:GStep} {n:Nat} (h1:n≤(gw a).drawn) (h2:n≤(gw b).drawn):n≤(gw (if c then a else b)).drawn:=by split<;>assumption
theorem Zgs (w:World) (fd:Nat) (text:ByteArray) (o:Outcome):w.drawn≤(gw (endWith w fd text o)).drawn:=by
 unfold endWith;have h:=ZgO w (.write fd text);simp only[];split
 · rename_i he;rw[he] at h;split<;>exact h
 · rename_i he;rw[he] at h;exact h
 rename_i he;rw[he] at h;exact h
theorem Zip (fr:Frame) (a:List ByteArray) (m:String) (wh:Bool) (w:World):gw (dieOf fr a m wh w)=w:=rfl
theorem Zbb (fr:Frame) (m:String) (w:World):gw (endThrow fr m w)=w:=rfl
theorem Zb1 (p:Program) (fr:Frame) (v:Value) (w:World):gw (endPrinting p fr v w)=w:=by
 unfold endPrinting;simp only[];split
 · exact Zbb _ _ _
 rfl
theorem ZcO (p:Program) (fr:Frame) (cs:List Frame) (d:Option Dying) (m:String) (w:World):w.drawn≤(gw (endFatal p fr cs d m w)).drawn:=by
 unfold endFatal;simp only[];split
 · rename_i h;rw[Zip];exact ZaM h
 · rename_i h;exact Zaz h
 rename_i h;exact Zaz h
theorem ZfH (p:Program) (fr:Frame) (d:Dying) (f:Fatal) (w:World):w.drawn≤(gw (writeOn p fr d f w)).drawn:=by
 unfold writeOn;simp only[];split
 · exact Nat.le_refl _
 split
 · rename_i h;exact ZoU h
 · rename_i h;exact Zev h
 · rename_i h;exact Zev h
 rename_i h;exact Zev h
theorem ZlU (p:Program) (fr:Frame) (d:Dying) (w:World):w.drawn≤(gw (die p fr d w)).drawn:=by
 unfold die;split
 · exact ZfH _ _ _ _ _
 split
 · split
   · exact Nat.le_refl _
   exact Zgs _ _ _ _
 simp only[];split
 · exact Nat.le_refl _
 · split
   · rename_i h;exact ZaM h
   rename_i h;exact Zaz h
 · rw[Zbr];simp only[Sem.runT_fst];split
   all_goals first
    |exact Nat.le_refl _
    |(rename_i h;exact ZaM h)
    |(rename_i h;exact Zaz h)
    |(rename_i h;rw[Zb1];exact Zaz h)
 exact Nat.le_refl _
theorem Zbc (p:Program) (main:Bool) (fr:Frame) (cs:List Frame) (d:Option Dying) (v:Value) (w:World):gw (doReturn p main fr cs d v w)=w:=by
 unfold doReturn
 repeat' first
  |rfl
  |split
  |simp only[]
theorem Zdk (p:Program) (fr:Frame) (cs:List Frame) (dy:Option Dying) (d:Deferred) (w:World):w.drawn≤(gw (callDeferred p fr cs dy d w)).drawn:=by
 unfold callDeferred;refine ZeE (Nat.le_refl _) ?_;simp only[];rw[Zbr];simp only[Sem.runT_fst];split
 all_goals first
  |(rename_i h;exact ZaM h)
  |(rename_i h;exact Zaz h)
  |(rename_i h;exact Nat.le_trans (Zaz h) (ZcO _ _ _ _ _ _))
  |(rename_i h;rw[Zbb];exact Zaz h)
  |(rename_i h;split<;>exact ZaM h)
theorem ZgG (p:Program) (main:Bool) (fr:Frame) (cs:List Frame) (dy:Option Dying) (w:World):w.drawn≤(gw (unwind p main fr cs dy w)).drawn:=by
 unfold unwind;split
 · simp only[];rw[Zbr];simp only[Sem.runT_fst];split
   · rename_i h;exact ZaM h
   rename_i h;exact Zaz h
 · exact Zdk _ _ _ _ _ _
 split
 · exact Nat.le_refl _
 · split
   · exact Nat.le_refl _
   split
   · exact Nat.le_refl _
   split
   · split
     · exact Nat.le_refl _
     split;all_goals(rename_i h;first|exact ZaM h|exact Zaz h)
   split
   · rw[Zb1];exact Nat.le_refl _
   exact Nat.le_refl _
 split
 · rw[Zbc];exact Nat.le_refl _
 simp only[];rw[Zbr];simp only[Sem.runT_fst];split
 · rename_i h;rw[Zbc];exact ZaM h
 · rename_i h;exact Zaz h
 rename_i h;exact Zaz h
theorem Zio (p:Program) (fr:Frame) (cs:List Frame) (dy:Option Dying) (g:Nat) (w:World):w.drawn≤(gw (early p fr cs dy g w)).drawn:=by
 have key:∀w1:World,w.drawn≤w1.drawn→w.drawn≤(gw (match w1.heap[g]? with
  |some (.pending c elem)=>GStep.go {frame:=fr,callers:=cs,status:=.running,dying:=dy} {w1 with heap:=w1.heap.setIfInBounds g (.cells c elem)}
  |_=>.ended (.stuck "early: the variable does not wait" (fr.pos p)) w1)).drawn:=by
  intro w1 h;split<;>exact h
 unfold early;simp only[];split
 · exact key w (Nat.le_refl _)
 split
 · exact Nat.le_refl _
 split
 · exact key w (Nat.le_refl _)
 split
 · exact key w (Nat.le_refl _)
 split
 · exact Nat.le_refl _
 · exact Nat.le_refl _
 · exact Nat.le_refl _
 · exact key w (Nat.le_refl _)
 split
 · exact Nat.le_refl _
 split
 · exact key w (Nat.le_refl _)
 split
 · rename_i h;exact key _ (ZaM h)
 · rename_i h;exact ZaM h
 rename_i h;exact Zaz h
theorem ZbM (p:Program) (listen:Bool) (fr:Frame) (cs:List Frame) (dy:Option Dying) (x:Sem Next) (w:World):w.drawn≤(gw (stepG.apply p listen fr cs dy x w)).drawn:=by
 unfold stepG.apply;simp only[];rw[Zbr]
 have hr:∀r es,(if listen=true then x.runT p w #[] else(x.run p w,#[]))=(r,es)→x.run p w=r:=by
  intro r es h;split at h
  · rw[←Sem.runT_fst p x w #[],h]
  exact congrArg Prod.fst h
 generalize hq:(if listen=true then x.runT p w #[] else(x.run p w,#[]))=q at *
 obtain⟨r,es⟩:=q;have h0:=hr r es rfl;clear hr hq;simp only[];split
 all_goals first
  |(subst_vars;exact ZaM ‹_›)
  |(exact ZaM h0)
  |(exact Zaz h0)
  |(exact Nat.le_trans (Zaz h0) (ZcO _ _ _ _ _ _))
  |(exact Nat.le_trans (Zaz h0) (Zio _ _ _ _ _ _))
  |(rw[Zbb];exact Zaz h0)
  |(refine ZeE ?_ (ZaM h0);rw[Zbb];exact ZaM h0)
  |(split<;>first|exact ZaM h0|(rw[Zbb];exact ZaM h0))
theorem ZjT (p:Program) (listen:Bool) (fr:Frame) (cs:List Frame) (dy:Option Dying) (w:World):w.drawn≤(gw (stepG.oper p listen fr cs dy w)).drawn:=by
 unfold stepG.oper;split
 · exact Nat.le_refl _
 split
 · exact ZbM _ _ _ _ _ _ _
 exact ZbM _ _ _ _ _ _ _
theorem Zj9 (p:Program) (main listen:Bool) (fr:Frame) (cs:List Frame) (dy:Option Dying) (w:World):w.drawn≤(gw (stepG.exec p main listen fr cs dy w)).drawn:=by
 unfold stepG.exec;simp only[];split
 all_goals first
  |exact Nat.le_refl _
  |exact ZbM _ _ _ _ _ _ _
  |(split;exact ZeE (Nat.le_refl _) (Nat.le_refl _);(rw[Zbr];simp only[Sem.runT_fst];split;(rename_i h;rw[Zbc];exact ZaM h);(rename_i h;exact Zaz h)))
  |(split<;>exact Nat.le_refl _)
  |(generalize exitTo _ _=o;cases o;(simp only[Option.elim_none];(split;exact ZeE (Nat.le_refl _) (Nat.le_refl _);(rw[Zbr];simp only[Sem.runT_fst];split;(rename_i h;rw[Zbc];exact ZaM h);(rename_i h;exact Zaz h))));exact Nat.le_refl _)
  |(generalize gotoIn _ _=o;cases o;(simp only[Option.elim_none];(split;exact ZeE (Nat.le_refl _) (Nat.le_refl _);(rw[Zbr];simp only[Sem.runT_fst];split;(rename_i h;rw[Zbc];exact ZaM h);(rename_i h;exact Zaz h))));exact Nat.le_refl _)
  |(generalize Extern.next _=o;cases o;exact Nat.le_refl _;exact ZbM _ _ _ _ _ _ _)
  |(refine ZeE (ZjT _ _ _ _ _ _) (Nat.le_refl _))
  |(refine ZeE (Nat.le_refl _) ?_;split;(rename_i h;exact ZaM h);(rename_i h;exact Zaz h))
  |(rw[Zbr];simp only[Sem.runT_fst];split;(rename_i h;exact Nat.le_trans (ZaM h) (ZbM _ _ _ _ _ _ _));(rename_i h;exact Zaz h))
  |(rw[Zbr];simp only[Sem.runT_fst];split;(rename_i h;exact ZaM h);(rename_i h;exact Zaz h);(rename_i h;exact Zaz h))
theorem ZhR (p:Program) (main:Bool) (g:Goroutine) (w:World) (listen:Bool):w.drawn≤(gw (stepG p main g w listen)).drawn:=by
 unfold stepG;simp only[];split
 · exact ZlU _ _ _ _
 · exact Zj9 _ _ _ _ _ _ _
 exact ZgG _ _ _ _ _ _
theorem ZdC (p:Program) (rest:Rest) (gs:Array Goroutine) (i:Nat) (g:Goroutine) (cases:Array CommCase) (blocking:Bool)
 (shape:CommShape) (w:World) (m':Machine) (h:(communicate p rest gs i g cases blocking shape w).1=.next m'):w.drawn≤m'.world.drawn:=by
 have wa:∀w1,waitingAt rest cases w=some w1→w1.drawn=w.drawn:=by
  intro w1 hw;unfold waitingAt at hw;split at hw
  · split at hw
    · cases hw;rfl
    cases hw
  cases hw;rfl
 unfold communicate at h;simp only[] at h;split at h
 · simp at h
 split at h
 · split at h
   · split at h
     · simp only[Stepped.next.injEq] at h;subst h;exact Nat.le_of_eq (wa _ ‹_›).symm
     simp at h
   simp only[Stepped.next.injEq] at h;subst h;exact Nat.le_refl _
 generalize hq:Sem.run p _ w=q at h
 cases q with
 |halt a w1=>simp at h
 |ok a w1=>
  obtain⟨k,c,way⟩:=a;have h1:=ZaM hq;clear hq;simp only[] at h
  repeat' first
   |(simp at h;done)
   |(simp only[Stepped.next.injEq] at h;subst h;exact h1)
   |(simp only[Stepped.next.injEq] at h;subst h;exact Nat.le_trans h1 (ZaM ‹_›))
   |(simp only[Stepped.next.injEq] at h;subst h;exact Nat.le_trans h1 (Zaz ‹_›))
   |(generalize hq:Sem.run p (choose _) _=q at h;cases q;(have h2:=Nat.le_trans h1 (ZaM hq);clear hq;simp only[Stepped.next.injEq] at h;subst h;exact h2);(simp at h;done))
   |split at h
theorem Zfo (p:Program) (gs:Array Goroutine) (rest:Rest) (w:World) (m':Machine) (h:look p gs rest w=.next m'):w.drawn≤m'.world.drawn:=by
 unfold look at h;simp only[] at h;split at h
 · split at h
   · simp at h
   split at h
   · simp at h
   generalize hq:Sem.run p _ w=q at h
   cases q with
   |halt a w1=>
    clear hq;cases a<;>simp at h
   |ok a w1=>
    obtain⟨f,c⟩:=a;have h1:=ZaM hq;clear hq;simp only[Stepped.next.injEq] at h;subst h;exact h1
 simp at h
theorem ZfV (m m':Machine) (op:TimerOp) (v:Value) (h:timerOp m op=.ok (v,m')):m'.world.drawn=m.world.drawn:=by
 have op_:∀var m1,timerOp.opened m var=some m1→m1.world.drawn=m.world.drawn:=by
  intro var m1 ho;unfold timerOp.opened at ho;split at ho
  · split at ho
    · cases ho;rfl
    cases ho
  cases ho;rfl
 have rt:∀(m1:Machine) k t a b,(retime m1 k t a b).2.world.drawn=m1.world.drawn:=by
  intro m1 k t a b;unfold retime;simp only[];split
  · unfold drain;split<;>rfl
  rfl
 have nm:∀(m1:Machine) var f (r:Value × Machine),(∀k t,(f k t).2.world.drawn=m1.world.drawn)→timerOp.named m1 var f=.ok r→r.2.world.drawn=m1.world.drawn:=by
  intro m1 var f r hf hr;unfold timerOp.named at hr;split at hr
  · cases hr;exact hf _ _
  cases hr
 unfold timerOp at h
 repeat' first
  |(simp at h;done)
  |(simp only[Except.ok.injEq,Prod.mk.injEq] at h;obtain⟨_,rfl⟩:=h;rfl)
  |(exact nm _ _ _ (v,m') (fun _ _=>rt _ _ _ _ _) h)
  |(rename_i ho;exact nm _ _ _ (v,m') (fun _ _=>(rt _ _ _ _ _).trans (op_ _ _ ho)) h)
  |split at h
theorem ZjN (p:Program) (m m':Machine) (i:Nat) (b:Bool) (h:(runT p m i b).1=.next m'):m.world.drawn≤m'.world.drawn:=by
 simp only[runT] at h;have hs:=ZhR p (i==0) (m.gs.swapAt! i {(default:Goroutine) with status:=.finished}).1 m.world b;revert hs h
 generalize m.gs.swapAt! _ _=gg;generalize stepG p _ gg.1 m.world b=s;intro h hs;cases s<;>simp only[gw] at h hs
 all_goals first
  |(simp at h;done)
  |(exact Nat.le_trans hs (ZdC _ _ _ _ _ _ _ _ _ _ h))
  |(exact Nat.le_trans hs (Zfo _ _ _ _ _ h))
  |(simp only[Stepped.next.injEq] at h;subst h;exact hs)
  |(repeat' first
     |(simp at h;done)
     |(simp only[Stepped.next.injEq] at h;subst h;exact hs)
     |(simp only[Stepped.next.injEq] at h;subst h;exact Nat.le_trans hs (Nat.le_of_eq (ZfV _ _ _ _ ‹_›).symm))
     |(rename_i he;unfold endThrow dieOf at he;simp only[GStep.go.injEq] at he;obtain⟨_,rfl,_⟩:=he;simp only[Stepped.next.injEq] at h;subst h;exact hs)
     |split at h)
theorem ZhV (p:Program) (m m':Machine) (k:Nat) (h:serve p m k=.next m'):m'.world.drawn=m.world.drawn:=by
 unfold serve at h;simp only[] at h
 repeat' first
  |(simp at h;done)
  |(simp only[Stepped.next.injEq] at h;subst h;rfl)
  |split at h
def mvW:Move→Option World
 |.goroutine m _=>some m.world
 |.machine (.next m) _=>some m.world
 |.machine (.ended _ _) _=>none
theorem Zce (p:Program) (m:Machine) (w':World) (h:mvW (askOn p m)=some w'):m.world.drawn≤w'.drawn:=by
 unfold askOn at h;simp only[] at h;generalize hq:Sem.run p _ m.world=q at h
 cases q with
 |halt a w1=>simp[mvW] at h
 |ok k w1=>
  have h1:m.world.drawn≤w1.drawn:=ZaM hq;clear hq
  have pick:∀(m1:Machine) (rs:List Nat) (w2:World),m.world.drawn≤m1.world.drawn→mvW (match(choose (.sched rs.length)).run p m1.world with
   |.halt _ w=>Move.machine (.ended (.stuck "sched" "") w)
   |.ok k world=>
    if rs.length≤1 then .goroutine {m1 with world} (rs.getD k 0) else
    match(choose (.extern "sched.slice" 65536)).run p world with
    |.halt _ w=>.machine (.ended (.stuck "sched.slice" "") w)
    |.ok n world=>.goroutine {m1 with world,rest:={m1.rest with slice:=if n=0 then none else some (rs.getD k 0,n)}} (rs.getD k 0))=some w2→m.world.drawn≤w2.drawn:=by
   intro m1 rs w2 h0 hm;generalize hr:Sem.run p (choose (.sched rs.length)) m1.world=r at hm
   cases r with
   |halt a w3=>simp[mvW] at hm
   |ok k w3=>
    have h2:=ZaM hr;simp only[] at hm;split at hm
    · simp only[mvW,Option.some.injEq] at hm;subst hm;exact Nat.le_trans h0 h2
    generalize hs:Sem.run p (choose (.extern "sched.slice" 65536)) w3=r at hm
    cases r with
    |halt a w4=>simp[mvW] at hm
    |ok n w4=>
     have h3:=ZaM hs;simp only[mvW,Option.some.injEq] at hm;subst hm;exact Nat.le_trans h0 (Nat.le_trans h2 h3)
  dsimp only at h
  split at h
  · generalize hs:serve p _ _=s at h
    cases s with
    |next m2=>
     simp only[mvW,Option.some.injEq] at h;subst h;rw[ZhV _ _ _ _ hs];exact h1
    |ended o w2=>simp[mvW] at h
  split at h
  · split at h
    · simp only[mvW,Option.some.injEq] at h;subst h;exact h1
    split at h
    · simp only[mvW,Option.some.injEq] at h;subst h;exact h1
    split at h<;>simp[mvW] at h
  split at h
  · exact pick {m with world:=w1} (runnable m.gs m.world.os.mono) _ h1 h
  generalize hs:Sem.run p (choose (.extern "clock.wait" _)) w1=s at h
  cases s with
  |halt a w2=>simp[mvW] at h
  |ok k w2=>
   have h2:=ZaM hs;rcases k with _|_|k
   · exact pick {m with world:=w2} _ _ (Nat.le_trans h1 h2) h
   · simp only[mvW,Option.some.injEq] at h;subst h;exact Nat.le_trans h1 h2
   exact pick (Machine.advanceTo {m with world:=w2} _) _ _ (Nat.le_trans h1 h2) h
theorem ZfE (p:Program) (m:Machine) (w':World) (h:mvW (ask p m)=some w'):m.world.drawn≤w'.drawn:=by
 unfold ask at h;split at h
 · generalize hs:Sem.run p (choose (.extern "collector.look" 2)) m.world=s at h
   cases s with
   |halt a w2=>simp[mvW] at h
   |ok k w2=>
    have h2:=ZaM hs;rcases k with _|_|k
    · exact Nat.le_trans h2 (Zce p {m with world:=w2} w' h)
    · simp only[] at h;generalize hl:look p m.gs m.rest w2=l at h
      cases l with
      |next m2=>exact Nat.le_trans h2 (Nat.le_trans (Zfo _ _ _ _ _ hl) (Zce p m2 w' h))
      |ended o w3=>simp[mvW] at h
    exact Nat.le_trans h2 (Zce p {m with world:=w2} w' h)
 exact Zce p m w' h
theorem Zfn (p:Program) (m:Machine) (w':World) (h:mvW (move p m)=some w'):m.world.drawn≤w'.drawn:=by
 unfold move at h;split at h
 · split at h
   · simp only[mvW,Option.some.injEq] at h;subst h;exact Nat.le_refl _
   simp[mvW] at h
 split at h
 · split at h
   · simp only[mvW,Option.some.injEq] at h;subst h;exact Nat.le_refl _
   exact ZfE p {m with rest:={m.rest with slice:=none}} w' h
 exact ZfE p m w' h
theorem ZjH (p:Program) (m m':Machine) (h:step p m=.next m'):m.world.drawn≤m'.world.drawn:=by
 unfold step stepT at h;split at h
 · rename_i m1 i hm;exact Nat.le_trans (Zfn p m m1.world (by rw[hm];rfl)) (ZjN _ _ _ _ _ h)
 rename_i s ops hm;simp only[] at h;subst h;exact Zfn p m m'.world (by rw[hm];rfl)
theorem Zel {p:Program} {m m':Machine} (h:Steps p m m'):m.world.drawn≤m'.world.drawn:=by
 obtain⟨n,hn⟩:=h
 induction n generalizing m with
 |zero=>simp[runN] at hn;rw[hn];exact Nat.le_refl _
 |succ n ih=>
  rw[runN] at hn;split at hn
  · rename_i m1 h1;exact Nat.le_trans (ZjH p m m1 h1) (ih hn)
  rename_i hno;exact(hno _ hn).elim
theorem Ziz {p:Program} {f:FuncId} {args:Array Value} {w:World} {R:Ending→World→Prop} (h:Calls p f args w R) (ho:∀w',¬R .outgrown w'):Calls p f args w fun e w'=>R e w'∧w.drawn≤w'.drawn:=by
 intro cs;obtain⟨e,w',fr,r,c,x⟩:=h cs;refine⟨e,w',fr,⟨r,?_⟩,c,x⟩
 cases e with
 |returned v=>exact Zel c
 |panicked ch=>exact Zel c
 |outgrown=>exact absurd r (ho w')
end
end
section
section
open Go.RowKit
theorem ZiV:∀(vs p q r:List Value),q.length=vs.length→setL (p++(q++r)) p.length vs=p++(vs++r)
 |[],p,q,r,h=>by
  have:q=[]:=List.eq_nil_of_length_eq_zero (by simpa using h);subst this
  rfl
 |v::vs,p,[],r,h=>by simp at h
 |v::vs,p,y::q,r,h=>by
  rw[setL]
  have e:(p++(y::q++r)).set p.length v=(p++[v])++(q++r):=by
   rw[List.set_append_right _ _ (Nat.le_refl _)];simp
  have:=ZiV vs (p++[v]) q r (by simpa using h);rw[List.length_append] at this;rw[e];simp only[List.length_cons,List.length_nil,Nat.zero_add] at this;rw[this]
  simp
theorem ZnM {α:Type} (enc:α→List Value) (size:Nat) (hs:∀x,(enc x).length=size) (l:List α) (i:Nat) (hi:i < l.length) (x:α):setL (l.flatMap enc) (i * size) (enc x)=(l.set i x).flatMap enc:=by
 have e1:l=l.take i++l[i]::l.drop (i + 1):=by rw[←List.drop_eq_getElem_cons hi,List.take_append_drop]
 have hl:(l.take i).length=i:=by rw[List.length_take];omega
 have e2:l.set i x=l.take i++x::l.drop (i + 1):=by
  rw[List.set_eq_take_append_cons_drop,if_pos hi]
 have e3:l.flatMap enc=(l.take i).flatMap enc++(enc l[i]++(l.drop (i + 1)).flatMap enc):=by
  have:=congrArg (fun m=>m.flatMap enc) e1;simp only[List.flatMap_append,List.flatMap_cons] at this;exact this
 have hf:((l.take i).flatMap enc).length=i * size:=by rw[Zay enc size hs,hl]
 rw[e2,e3,←hf,ZiV _ _ _ _ (by rw[hs,hs])];simp
theorem ZgN:∀(vs c:List Value) (o m:Nat),(setL c o vs).take m=setL (c.take m) o vs
 |[],_,_,_=>rfl
 |v::vs,c,o,m=>by rw[setL,setL,ZgN vs,List.take_set]
theorem Zc3:∀(vs c:List Value) (o m:Nat),m≤o→(setL c o vs).take m=c.take m
 |[],_,_,_,_=>rfl
 |v::vs,c,o,m,h=>by rw[setL,Zc3 vs _ _ _ (by omega),List.take_set_of_le h]
theorem ZgD {α:Type} {enc:α→List Value} {size:Nat} (hs:∀x,(enc x).length=size) {c:List Value} {l:List α} (ht:c.take (l.length * size)=l.flatMap enc) {i:Nat} (hi:i < l.length) (x:α):
 (setL c (i * size) (enc x)).take ((l.set i x).length * size)=(l.set i x).flatMap enc:=by
 rw[List.length_set,ZgN,ht,ZnM enc size hs l i hi]
section
variable {P:Program} {ops:Array Oper} {rest:List Oper} {o:Oper} {a:Act} {Q:Exit→Act→World→Prop} {L0 L F:List Part} {w0 w:World} {e:TypeId}
theorem Ze9 (w:World) (t e ty:TypeId) (z:Value) (ht:P.underlying t=some (.slice e)) (hv:∀w,(zeroValue e).run P w=.ok z w) (m:Nat) (hm:0 < m) (h1:∀v ∈ (Builtin.zeroCells z.cells m).toList,v.oneCell'=true) (b o c:Nat)
 (hc:∀j,j < m * z.cells.size→(w.cell? ⟨b,o + j,none⟩).isSome=true) (hf:∀j,j < m * z.cells.size→w.frozen? ⟨b,o + j,none⟩=false):
 (Builtin.clear_ #[t] ty #[.slice (some ⟨b,o,none⟩) m c]).run P w=.ok (.tuple #[]) (w.setCells b o (Builtin.zeroCells z.cells m).toList):=by
 have hl:(Builtin.zeroCells z.cells m).toList.length=m * z.cells.size:=by simp[Builtin.zeroCells]
 have hst:=run_storeCells_cells (P:=P) b o (Builtin.zeroCells z.cells m).toList 0 w (by intro j hj;first|(simp;done)|simpa using hc j (by omega)) (by intro j hj;first|(simp;done)|simpa using hf j (by omega)) h1;simp only[Nat.add_zero] at hst
 obtain⟨m,rfl⟩:∃m',m=m' + 1:=⟨m - 1,by omega⟩
 simp[Builtin.clear_,run_underlying ht,hv,hst]
theorem Zkq (z:Value) (h:∀u ∈ z.cells.toList,u.oneCell'=true) (h0:0 < z.cells.size) (m:Nat):∀v ∈ (Builtin.zeroCells z.cells m).toList,v.oneCell'=true:=by
 intro v hv;simp only[Builtin.zeroCells,Array.toList_map,List.mem_map] at hv;obtain⟨j,_,rfl⟩:=hv;have hj:j % z.cells.size < z.cells.size:=Nat.mod_lt _ h0;rw[getElem!_pos z.cells (j % z.cells.size) hj];exact h _ (by rw[Array.mem_toList_iff];exact Array.getElem_mem hj)
theorem Zea {t:TypeId} {x:Operand} {z:Value} {b off m cp:Nat} {c:List Value} {T:TypeId} (hg:o.guard=none) (hop:o.op=.call {callee:=.builtin .clear,args:= #[x],argTypes:= #[t]}) (ht:P.underlying t=some (.slice e)) (hv:∀w,(zeroValue e).run P w=.ok z w)
 (h1:∀u ∈ z.cells.toList,u.oneCell'=true) (h0:0 < z.cells.size) (hx:a.eval x=.slice (some ⟨b,off,none⟩) m cp) (hm:0 < m) (h:At L0 w0 L w) (s:Sel (Part.cells b c T) L F) (hl:off + m * z.cells.size≤c.length)
 (hK:∀c' w',c'.length=c.length→c'.take off=c.take off→At L0 w0 (Part.cells b c' T::F) w'→wpList P ops Q rest (a.put o.dst (.tuple #[])) w'):wpList P ops Q (o::rest) a w:=by
 have hb:Zaa w b c T:=h.get s;have hrun:=Ze9 (P:=P) w t e o.type z ht hv m hm (Zkq z h1 h0 m) b off cp (fun j hj=>by rw[hb.cell,List.getElem?_eq_getElem (by omega)];rfl) (fun j hj=>hb.free _);refine Zal hg ?_ (hK _ _ (Zb9 _ _ _) (Zc3 _ _ _ _ (Nat.le_refl _)) (h.stores s off (Builtin.zeroCells z.cells m).toList));simp[execOp,hop,resolve,invoke,builtin,hx,hrun,Result.andThen]
end
end
end
section
section
open Go.RowKit
section
variable {P:Program} {ops:Array Oper} {rest:List Oper} {o:Oper} {a:Act} {Q:Exit→Act→World→Prop} {L0 L F:List Part} {w0 w:World}
theorem Zai {ty:TypeId} {x:Operand} (hg:o.guard=none) (hop:o.op=.load ty x) {b j:Nat} (hx:a.eval x=.pointer (some ⟨b,j,none⟩)) {vs:List Value} (hr:∀(k:Nat) u,vs[k]? =some u→w.cell? ⟨b,j + k,none⟩=some u)
 (hu:(P.underlying ty).map (·.isRow)=some true) (hi:(P.info? ty).map (·.size)=some vs.length)
 (hK:wpList P ops Q rest (a.put o.dst (.agg vs.toArray)) w):wpList P ops Q (o::rest) a w:=by
 obtain⟨d,hu,hd⟩:=Option.map_eq_some_iff.1 hu;refine Zal hg ?_ hK;simp[execOp,hop,hx,run_loadAt_mid w b j ty vs d (fun k v hk=>hr k v hk) hu hd hi,Result.andThen]
end
end
end
section
section
open Go.RowKit
section
variable {P:Program} {ops:Array Oper} {rest:List Oper} {o:Oper} {a:Act} {Q:Exit→Act→World→Prop} {L0 L F:List Part} {w0 w:World}
end
end
end
section
namespace Lease
open Go.RowKit
structure Ans where
 e:Int
 n:Int
 g:Bool
def Ans.val (a:Ans):Value:=.agg #[.int .i64 a.e,.int .u64 a.n,.bool a.g]
structure Ses where
 num:Int
 foot:ByteArray
 op:Bool
 dead:Bool
 dl:Int
 ttl:Int
 told:List (Int × Ans)
 blk:Nat
 tm:Nat
def Ses.is (s:Ses) (n:Int) (f:ByteArray):Bool:=decide (s.num=n∧s.foot=f)
def keyV (n:Int) (f:ByteArray):Value:=.agg #[.int .u64 n,.string f]
def Ses.key (s:Ses):Value:=keyV s.num s.foot
def Ses.ptr (s:Ses):Value:=.pointer (some ⟨s.blk,0,none⟩)
def Ses.cells (s:Ses):List Value:=[.bool s.op,.bool s.dead,.int .i64 s.dl,.int .i64 s.ttl,.int .i64 0,.map (some s.tm)]
def ent (s:Ses):Value × Value:=(s.key,s.ptr)
def saidE (p:Int × Ans):Value × Value:=(.int .u64 p.1,p.2.val)
def ents (ss:List Ses):List (Value × Value):=ss.map ent
def saids (l:List (Int × Ans)):List (Value × Value):=l.map saidE
def sesL (s:Ses):List Part:=[Part.cells s.blk s.cells 151,Part.map Tryz.prog 22 s.tm (saids s.told)]
def sesP (s:Ses):Part:=Part.all (sesL s)
def headP (p m:Nat):Part:=Part.cells p [.map (some m)] 121
def mapP (m:Nat) (ss:List Ses):Part:=Part.map Tryz.prog 39 m (ents ss)
def restP (ss:List Ses):Part:=Part.all (ss.map sesP)
def BookP (p m:Nat) (ss:List Ses):Part:=Part.all [headP p m,mapP m ss,restP ss]
abbrev headC (p m:Nat):Part:=Part.cells p [.map (some m)] 121
abbrev mapC (m:Nat) (es:List (Value × Value)):Part:=Part.map Tryz.prog 39 m es
abbrev toldC (m:Nat) (es:List (Value × Value)):Part:=Part.map Tryz.prog 22 m es
abbrev sesC (b:Nat) (c:List Value):Part:=Part.cells b c 151
theorem eqv0 (p m:Nat) (ss:List Ses) (F:List Part):Eqv (BookP p m ss::F) (headC p m::mapC m (ents ss)::restP ss::F):=Eqv.all [headC p m,mapC m (ents ss),restP ss] F
theorem eqvR (l1 l2:List Ses) (s:Ses) (F:List Part):Eqv (restP (l1++s::l2)::F) (sesC s.blk s.cells::toldC s.tm (saids s.told)::restP (l1++l2)::F):=by
 refine(Eqv.all _ F).trans ?_
 have p1:((l1++s::l2).map sesP++F).Perm (sesP s::((l1++l2).map sesP++F)):=by
  simp only[List.map_append,List.map_cons,List.append_assoc,List.cons_append];exact List.perm_middle
 refine(Eqv.perm p1).trans ((Eqv.all (sesL s) _).trans ?_);exact(Eqv.all ((l1++l2).map sesP) F).symm.prepend (sesL s)
theorem eqvR' {ss l1 l2:List Ses} {s:Ses} (e:ss=l1++s::l2) (F:List Part):Eqv (restP ss::F) (sesC s.blk s.cells::toldC s.tm (saids s.told)::restP (l1++l2)::F):=by rw[e];exact eqvR l1 l2 s F
theorem out' {L0 L F:List Part} {w0 w:World} {ss l1 l2:List Ses} {s:Ses} (e:ss=l1++s::l2) (h:At L0 w0 L w) (q:Sel (restP ss) L F):At L0 w0 (sesC s.blk s.cells::toldC s.tm (saids s.told)::restP (l1++l2)::F) w:=(h.take q).to (eqvR' e F)
theorem in' {L0 L F G H:List Part} {w0 w:World} {ss l1 l2:List Ses} {s:Ses} (e:ss=l1++s::l2) (h:At L0 w0 L w) (q1:Sel (sesC s.blk s.cells) L F) (q2:Sel (toldC s.tm (saids s.told)) F G) (q3:Sel (restP (l1++l2)) G H):At L0 w0 (restP ss::H) w:=
 (h.perm (q1.perm.trans ((q2.perm.trans (q3.perm.cons _)).cons _))).to (eqvR' e H).symm
theorem eqv1 (p m:Nat) (l1 l2:List Ses) (s:Ses) (F:List Part):Eqv (BookP p m (l1++s::l2)::F) (sesC s.blk s.cells::toldC s.tm (saids s.told)::restP (l1++l2)::headC p m::mapC m (ents (l1++s::l2))::F):=
 (eqv0 p m _ F).trans ((Eqv.perm ((List.Perm.cons _ (List.Perm.swap _ _ _)).trans (List.Perm.swap _ _ _))).trans (eqvR l1 l2 s _))
theorem begin0 {w:World} {p m:Nat} {ss:List Ses} (h:Sep [BookP p m ss] w):At [BookP p m ss] w [headC p m,mapC m (ents ss),restP ss] w:=(At.start h).to (eqv0 p m ss [])
theorem Zjv {w:World} {p m:Nat} {l1 l2:List Ses} {s:Ses} (h:Sep [BookP p m (l1++s::l2)] w):
 At [BookP p m (l1++s::l2)] w [sesC s.blk s.cells,toldC s.tm (saids s.told),restP (l1++l2),headC p m,mapC m (ents (l1++s::l2))] w:=
 (At.start h).to (eqv1 p m l1 l2 s [])
theorem open1 {L0 L F:List Part} {w0 w:World} {p m:Nat} {l1 l2:List Ses} {s:Ses} (h:At L0 w0 L w) (q:Sel (BookP p m (l1++s::l2)) L F):
 At L0 w0 (sesC s.blk s.cells::toldC s.tm (saids s.told)::restP (l1++l2)::headC p m::mapC m (ents (l1++s::l2))::F) w:=(h.take q).to (eqv1 p m l1 l2 s F)
theorem fold0 {L0 L F G H:List Part} {w0 w:World} {p m:Nat} {ss:List Ses} (h:At L0 w0 L w) (s1:Sel (headC p m) L F) (s2:Sel (mapC m (ents ss)) F G) (s3:Sel (restP ss) G H):At L0 w0 (BookP p m ss::H) w:=
 (h.perm (s1.perm.trans ((s2.perm.trans (s3.perm.cons _)).cons _))).to (eqv0 p m ss H).symm
theorem perm1 {L F G H I J:List Part} {A B C D E:Part} (s1:Sel A L F) (s2:Sel B F G) (s3:Sel C G H) (s4:Sel D H I) (s5:Sel E I J):L.Perm (C::D::E::A::B::J):=
 (s1.perm.trans ((s2.perm.trans ((s3.perm.trans ((s4.perm.trans (s5.perm.cons D)).cons C)).cons B)).cons A)).trans (List.perm_append_comm (l₁:=[A,B]) (l₂:=[C,D,E]) |>.append_right J)
theorem fold1 {L0 L F G H I J:List Part} {w0 w:World} {p m:Nat} {l1 l2:List Ses} {s:Ses} (h:At L0 w0 L w) (s1:Sel (headC p m) L F) (s2:Sel (mapC m (ents (l1++s::l2))) F G)
 (s3:Sel (sesC s.blk s.cells) G H) (s4:Sel (toldC s.tm (saids s.told)) H I) (s5:Sel (restP (l1++l2)) I J):At L0 w0 (BookP p m (l1++s::l2)::J) w:=
 (h.perm (perm1 s1 s2 s3 s4 s5)).to (eqv1 p m l1 l2 s J).symm
theorem ZnL {L0 L F G H I J:List Part} {w0 w:World} {p m:Nat} {ss:List Ses} (s:Ses) (h:At L0 w0 L w) (s1:Sel (headC p m) L F) (s2:Sel (mapC m (ents ss++[(s.key,s.ptr)])) F G)
 (s3:Sel (sesC s.blk s.cells) G H) (s4:Sel (toldC s.tm (saids s.told)) H I) (s5:Sel (restP ss) I J):At L0 w0 (BookP p m (ss++[s])::J) w:=by
 have e:ents ss++[(s.key,s.ptr)]=ents (ss++s::[]):=by simp[ents,ent]
 rw[e] at s2;exact fold1 (l1:=ss) (l2:=[]) h s1 s2 s3 s4 (by rw[List.append_nil];exact s5)
theorem close0 {L0 L F G H:List Part} {w0 w:World} {p m:Nat} {ss:List Ses} (h:At L0 w0 L w) (s1:Sel (headC p m) L F) (s2:Sel (mapC m (ents ss)) F G) (s3:Sel (restP ss) G H):At L0 w0 [BookP p m ss] w:=(fold0 h s1 s2 s3).only1 .here
theorem ZcP {L0 L F G H I J:List Part} {w0 w:World} {p m:Nat} {l1 l2:List Ses} {s:Ses} (h:At L0 w0 L w) (s1:Sel (headC p m) L F) (s2:Sel (mapC m (ents (l1++s::l2))) F G)
 (s3:Sel (sesC s.blk s.cells) G H) (s4:Sel (toldC s.tm (saids s.told)) H I) (s5:Sel (restP (l1++l2)) I J):At L0 w0 [BookP p m (l1++s::l2)] w:=(fold1 h s1 s2 s3 s4 s5).only1 .here
theorem ZhE {L0 L F G H I J:List Part} {w0 w:World} {p m:Nat} {ss:List Ses} (s:Ses) (h:At L0 w0 L w) (s1:Sel (headC p m) L F) (s2:Sel (mapC m (ents ss++[(s.key,s.ptr)])) F G)
 (s3:Sel (sesC s.blk s.cells) G H) (s4:Sel (toldC s.tm (saids s.told)) H I) (s5:Sel (restP ss) I J):At L0 w0 [BookP p m (ss++[s])] w:=(ZnL s h s1 s2 s3 s4 s5).only1 .here
theorem opened {L0 L F G H I J:List Part} {w0 w:World} {p m:Nat} {l1 l2:List Ses} {s:Ses} {f:FuncId} {args:Array Value} {v:Value} (h:At L0 w0 L w) (s1:Sel (headC p m) L F) (s2:Sel (mapC m (ents (l1++s::l2))) F G)
 (s3:Sel (sesC s.blk s.cells) G H) (s4:Sel (toldC s.tm (saids s.told)) H I) (s5:Sel (restP (l1++l2)) I J)
 (hc:Sep [BookP p m (l1++s::l2)] w→Calls Tryz.prog f args w fun e w'=>e=.returned v∧At [BookP p m (l1++s::l2)] w [BookP p m (l1++s::l2)] w'):
 Calls Tryz.prog f args w fun e w'=>e=.returned v∧At L0 w0 L w':=
 At.through h ((Eqv.perm (perm1 s1 s2 s3 s4 s5)).trans (eqv1 p m l1 l2 s J).symm) hc
def find (ss:List Ses) (n:Int) (f:ByteArray):Option Ses:=ss.find? (·.is n f)
theorem find_split {ss:List Ses} {n:Int} {f:ByteArray} {s:Ses} (h:find ss n f=some s):∃l1 l2,ss=l1++s::l2∧s.num=n∧s.foot=f∧∀x ∈ l1,x.is n f=false:=by
 obtain⟨h1,l1,l2,h2,h3⟩:=List.find?_eq_some_iff_append.1 h;have h4:s.num=n∧s.foot=f:=by simpa [Ses.is] using h1
 exact⟨l1,l2,h2,h4.1,h4.2,fun x hx=>by simpa using h3 x hx⟩
theorem find_none {ss:List Ses} {n:Int} {f:ByteArray} (h:find ss n f=none):∀p ∈ ents ss,p.1≠keyV n f:=by
 intro p hp;obtain⟨s,hs,rfl⟩:=List.mem_map.1 hp;have h1:¬s.is n f=true:=List.find?_eq_none.1 h s hs;intro e;apply h1;simp[ent,Ses.key,keyV] at e;simp[Ses.is,e]
theorem find_mem {ss:List Ses} {n:Int} {f:ByteArray} {s:Ses} (h:find ss n f=some s):(keyV n f,s.ptr) ∈ ents ss:=by
 obtain⟨l1,l2,rfl,rfl,rfl,_⟩:=find_split h;simp[ents,ent,Ses.key]
def said (told:List (Int × Ans)) (r:Int):Option Ans:=(told.find? (·.1=r)).map (·.2)
theorem said_none {told:List (Int × Ans)} {r:Int} (h:said told r=none):∀p ∈ saids told,p.1≠.int .u64 r:=by
 intro p hp;obtain⟨s,hs,rfl⟩:=List.mem_map.1 hp;unfold said at h;simp at h
 intro e;simp[saidE] at e;exact h s.1 s.2 hs e
theorem ZmO {told:List (Int × Ans)} {r:Int} {a:Ans} (h:said told r=some a):(.int .u64 r,a.val) ∈ saids told:=by
 unfold said at h;simp only[Option.map_eq_some_iff] at h;obtain⟨q,h1,h2⟩:=h;have h3:=List.find?_some h1;have h4:=List.mem_of_find?_eq_some h1;refine List.mem_map.2 ⟨q,h4,?_⟩;simp at h3
 simp[saidE,h3,h2]
end Lease
end
section
namespace Lease
open Go.RowKit
open Go.Maps (Keyed)
theorem laidOut:laidOutB Tryz.prog=true:=by kernel_rfl
theorem wideS:(match Tryz.prog.underlying 39 with|some (.array _ _)|some (.struct _)=>true|_=>false)=true:=by kernel_rfl
theorem rowS:(39:TypeId) < Tryz.prog.types.size:=of_decide_eq_true (by kernel_rfl)
theorem lawS:Keyed Tryz.prog 39:=Keyed.of_law (deep_law_laid laidOut (m:=2) (by omega) rowS (by kernel_rfl) wideS)
theorem lawU:Keyed Tryz.prog 22:=Go.Maps.int_keyed Tryz.underlying22
theorem Zny:Tryz.prog.keyType 39=true:=by kernel_rfl
theorem cellsS:Tryz.prog.cellsOf 39=2:=by kernel_rfl
theorem cellsU:Tryz.prog.cellsOf 22=1:=by kernel_rfl
theorem cellsStr:Tryz.prog.cellsOf 9=1:=by kernel_rfl
theorem Zpo (c0 c1:Value):(Value.agg #[c0,c1]).formed Tryz.prog 39=true:=by simp[Value.formed,Tryz.underlying39,cellsS]
def big64:Int:=18446744073709551616
theorem keyS {n:Int} {f:ByteArray} (h0:0≤n) (h1:n < big64) (hf:f.size≤maxLen):∃l,keyOf Tryz.prog 39 (keyV n f)=some l:=by
 have hw:(Lit.int .u64 n).wf=true:=by simp[Lit.wf,IntKind.min,IntKind.max,IntKind.signed,IntKind.bits];unfold big64 at h1;omega
 obtain⟨d,hd⟩:∃d,Tryz.prog.types.size=d + 1:=Nat.exists_eq_succ_of_ne_zero (Nat.ne_of_gt (Nat.lt_of_le_of_lt (Nat.zero_le _) rowS))
 have hl:Tryz.prog.keyLits (Tryz.prog.types.size + 1) 39 [.int .u64 n,.string f]=some [.int .u64 n,.string f.data.toList]:=by
  rw[hd];simp[Program.keyLits,Tryz.underlying39,Tryz.underlying22,Tryz.underlying9,cellsS,cellsU,cellsStr,hw,hf]
 exact⟨.string (keyBytes [.int .u64 n,.string f.data.toList]),by
  unfold keyOf;rw[Tryz.underlying39];simp only[Zny,keyV,Zpo,Bool.and_self,if_true];rw[show(Value.agg #[.int .u64 n,.string f]).cells.toList=[.int .u64 n,.string f] from rfl,hl]
  rfl⟩
theorem keyU {n:Int} (h0:0≤n) (h1:n < big64):∃l,keyOf Tryz.prog 22 (.int .u64 n)=some l:=
 ⟨_,Go.Maps.keyOf_int_mk Tryz.underlying22 (by simp[Lit.wf,IntKind.min,IntKind.max,IntKind.signed,IntKind.bits];unfold big64 at h1;omega)⟩
end Lease
end
section
namespace Lease
open Go.RowKit
open Go.Maps (Keyed)
def ZdP (o:Option Ses):Value:=
 match o with
 |none=>.agg #[.bool false,.bool false,.int .i64 0,.int .i64 0,.int .i64 0]
 |some s=>.agg #[.bool s.op,.bool s.dead,.int .i64 s.dl,.int .i64 s.ttl,.int .i64 s.told.length]
theorem Zhi {w:World} {p m:Nat} {ss:List Ses} (h:Sep [BookP p m ss] w) {n:Int} {f:ByteArray} (h0:0≤n) (h1:n < big64) (hf:f.size≤maxLen) (hn:find ss n f=none):
 Calls Tryz.prog 73 #[.pointer (some ⟨p,0,none⟩),keyV n f] w fun e w'=>e=.returned (ZdP none)∧At [BookP p m ss] w [BookP p m ss] w':=by
 obtain⟨kl,hk⟩:=keyS h0 h1 hf;have hmiss:=Hd (find_none hn);have hA:=begin0 h;have hF:=hA.facts;clear h;unfold keyV at *
 go_enter Tryz.func73,Tryz.ntmps73
 go_wp2_with (first|((with_reducible refine gbx ?_);refine wCy hA ?_;clear hF hA;intro b1 w1 hA hb1 hF)|((with_reducible refine gal ?_);refine g8 hA ?_;clear hF hA;intro b1 w1 hA hb1 hF))
 have hl:∀q,(Instr.lookup 119 (.map (some m)) (.agg #[.int .u64 n,.string f]) true).run Tryz.prog (w1.drewN q)=.ok (.tuple #[.pointer none,.bool false]) (w1.drewN q):=fun q=>
  MapAt.look_none (w:=w1.drewN q) ((hA.drewN q).get (A:=Part.map Tryz.prog 39 m (ents ss)) sR) lawS Tryz.underlying119 hk hmiss.out (by kernel_rfl) true
 go_quiet (fail)
 have hA:=hA.drewN nq;generalize World.drewN _ nq=w1 at *;clear hF;obtain⟨hA,hF⟩:=fY hA
 go_wp2_with ((with_reducible refine gst ?_);refine wTy hA ?_;clear hF hA;intro w1 hA hF)
 refine bodyPost_ret (v:=ZdP none) (by simp[ZdP,results,Tryz.results73,go_sem,hF]) rfl ⟨rfl,?_⟩;exact close0 (m:=m) (ss:=ss) hA sR sR sR
theorem Zhh {w:World} {p m:Nat} {ss:List Ses} (h:Sep [BookP p m ss] w) {n:Int} {f:ByteArray} (h0:0≤n) (h1:n < big64) (hf:f.size≤maxLen) {s:Ses} (hn:find ss n f=some s):
 Calls Tryz.prog 73 #[.pointer (some ⟨p,0,none⟩),keyV n f] w fun e w'=>e=.returned (ZdP (some s))∧At [BookP p m ss] w [BookP p m ss] w':=by
 obtain⟨kl,hk⟩:=keyS h0 h1 hf;have hmem:=Hd (find_mem hn);obtain⟨l1,l2,rfl,_,_,_⟩:=find_split hn;have hA:=Zjv h;simp only[Ses.cells] at hA;obtain⟨hA,hF⟩:=fY hA;clear h hn;unfold keyV at *
 go_enter Tryz.func73,Tryz.ntmps73
 go_wp2_with (first|((with_reducible refine gbx ?_);refine wCy hA ?_;clear hF hA;intro b1 w1 hA hb1 hF)|((with_reducible refine gal ?_);refine g8 hA ?_;clear hF hA;intro b1 w1 hA hb1 hF))
 have hl:∀q,(Instr.lookup 119 (.map (some m)) (.agg #[.int .u64 n,.string f]) true).run Tryz.prog (w1.drewN q)=.ok (.tuple #[s.ptr,.bool true]) (w1.drewN q):=fun q=>
  MapAt.look_some (w:=w1.drewN q) ((hA.drewN q).get (A:=Part.map Tryz.prog 39 m (ents (l1++s::l2))) sR) lawS Tryz.underlying119 hk hmem.out true
 unfold Ses.ptr at hl;go_quiet (fail)
 have hA:=hA.drewN nq;generalize World.drewN _ nq=w1 at *;clear hF;obtain⟨hA,hF⟩:=fY hA
 go_wp2_with (first|((with_reducible refine gst ?_);refine wTy hA ?_;clear hF hA;intro w1 hA hF)|((with_reducible refine gal ?_);refine g8 hA ?_;clear hF hA;intro b1 w1 hA hb1 hF)|(refine Zbl rfl rfl rfl hA sR Tryz.underlying149 ?_))
 refine bodyPost_ret (v:=ZdP (some s)) (by simp[ZdP,saids,results,Tryz.results73,go_sem,hF]) rfl ⟨rfl,?_⟩;exact ZcP (m:=m) (s:=s) hA sR sR sZ sR sR
end Lease
end
end Go.Proofs.YtknoefbcmomalabGreatDoor
