/- MapD, LockF, LockP, joined. -/
import Derived.Test.YtkdjkngfnapjcaaGreatDoorP2
import Derived.Test.YtkdjkngfnapjcaaGreatDoorP4
set_option linter.unusedSimpArgs false
set_option linter.unusedVariables false
set_option maxRecDepth 100000
set_option maxHeartbeats 16000000
namespace Go.Proofs.YtkdjkngfnapjcaaGreatDoor
section
section
open Go.RowKit
open Go.Maps (Keyed)
section
variable {P:Program} {k:TypeId} {w:World} {b:Nat} {es:List (Value × Value)}
theorem Zdb {α:Type} (a:Array α) (i:Nat) (h:i < a.size):(a.eraseIdxIfInBounds i).toList=a.toList.eraseIdx i:=by
 rw[Array.eraseIdxIfInBounds_eq];rw[dif_pos h,Array.toList_eraseIdx]
theorem Zk2 {α:Type} (l1 l2:List α) (x:α):(l1++x::l2).eraseIdx l1.length=l1++l2:=by
 rw[List.eraseIdx_append_of_length_le (Nat.le_refl _)]
 simp
theorem MapAt.erased {l1 l2:List (Value × Value)} {key u:Value} (h:MapAt P k w b (l1++(key,u)::l2)) {ents:Array MapEntry} {clock:Nat} (hb:w.heap[b]? =some (.map ents clock)):
 MapAt P k (ChangeMaps.setBlock w b (.map (ents.eraseIdxIfInBounds l1.length) clock)) b (l1++l2):=by
 obtain⟨ents',clock',hb',he,hbn,hdn,hkeys,hpw⟩:=h;rw[hb] at hb';cases hb'
 have hlt:l1.length < ents.size:=by
  have:=congrArg List.length he
  simp at this
  omega
 have hs:((l1++l2)).Sublist (l1++(key,u)::l2):=List.Sublist.append (List.Sublist.refl _) (List.sublist_cons_self _ _);have hes:(ents.toList.eraseIdx l1.length).Sublist ents.toList:=List.eraseIdx_sublist _ _;refine⟨_,clock,ChangeMaps.heap_setBlock_same hb _,?_,?_,?_,?_,?_⟩
 · rw[Zdb _ _ hlt,List.eraseIdx_eq_take_drop_succ,List.map_append,List.map_take,List.map_drop,he,←List.eraseIdx_eq_take_drop_succ,Zk2]
 · intro e hm
   rw[Zdb _ _ hlt] at hm;exact hbn e (hes.subset hm)
 · rw[Zdb _ _ hlt]
   exact hdn.sublist hes
 · exact fun p hp=>hkeys p (hs.subset hp)
 exact hpw.sublist hs
theorem MapAt.del_there {t e:TypeId} {l1 l2:List (Value × Value)} {key u:Value} (h:MapAt P k w b (l1++(key,u)::l2)) (K:Keyed P k) (ht:P.underlying t=some (.map k e)) {kl:Lit} (hk:keyOf P k key=some kl) (t2 ty:TypeId):
 ∃w',(Builtin.delete_ #[t,t2] ty #[.map (some b),key]).run P w=.ok (.tuple #[]) w'∧MapAt P k w' b (l1++l2)∧Exc (fun q=>q=b) w w'∧∃ents clock,w.heap[b]? =some (.map ents clock)∧w'.heap[b]? =some (.map (ents.eraseIdxIfInBounds l1.length) clock):=by
 have h0:=h;obtain⟨ents,clock,hb,_⟩:=h0;obtain⟨e0,h1,h2,h3,h4⟩:=h.find_at K hk w hb
 exact⟨ChangeMaps.setBlock w b (.map (ents.eraseIdxIfInBounds l1.length) clock),by simp[Builtin.delete_,run_underlying ht,MapKept.run_getObj_map hb,K.check w _ hk,h1,MapKept.run_setObj_map _ hb,Result.andThen,ChangeMaps.setBlock],h.erased hb,
  ⟨rfl,rfl,rfl,by simp[ChangeMaps.setBlock],fun i _ hi=>ChangeMaps.heap_setBlock_other hb _ (fun e=>hi e)⟩,ents,clock,hb,ChangeMaps.heap_setBlock_same hb _⟩
def IterD (P:Program) (k:TypeId) (w:World) (r b:Nat) (es done:List (Value × Value)):Prop:=
 MapAt P k w b es∧r≠b∧∃(ents:Array MapEntry) (clock c0:Nat) (vs:List MapEntry),w.heap[b]? =some (.map ents clock)∧w.heap[r]? =some (.mapIter (some b) clock (vs.map (·.born)).toArray c0)∧clock≤c0∧
  vs.map (fun e=>(e.key,e.val))=done∧(vs≠[]→c0=clock)∧(∀x ∈ vs,∀y ∈ ents.toList,x.key=y.key→x=y)∧(∀x ∈ vs,∀y ∈ ents.toList,x.born=y.born→x=y)
theorem IterD.start {r:Nat} (h:Zas P k w r b es []):IterD P k w r b es []:=by
 obtain⟨hm,hrb,ents,clock,c0,vs,hb,hr,hc,hd,hin,hpw,hc1⟩:=h
 have:vs=[]:=by simpa using hd
 subst this;exact⟨hm,hrb,ents,clock,c0,[],hb,hr,hc,rfl,hc1,nofun,nofun⟩
theorem IterD.same {r:Nat} {done:List (Value × Value)} (h:IterD P k w r b es done) {w':World} (e1:w'.heap[b]? =w.heap[b]?) (e2:w'.heap[r]? =w.heap[r]?):IterD P k w' r b es done:=by
 obtain⟨hm,hrb,ents,clock,c0,vs,hb,hr,rest⟩:=h;exact⟨hm.same e1,hrb,ents,clock,c0,vs,e1.trans hb,e2.trans hr,rest⟩
theorem Znj {l:List (Value × Value)} (h:l.Pairwise (fun p q=>p.1≠q.1)) {i j:Nat} {p q:Value × Value} (hi:l[i]? =some p) (hj:l[j]? =some q) (hk:p.1=q.1):i=j:=by
 by_cases hij:i=j
 · exact hij
 exfalso
 obtain⟨hi1,hi2⟩:=List.getElem?_eq_some_iff.1 hi;obtain⟨hj1,hj2⟩:=List.getElem?_eq_some_iff.1 hj;have hp:=List.pairwise_iff_getElem.1 h
 rcases Nat.lt_or_gt_of_ne hij with q|q
 · exact hp i j hi1 hj1 q (by rw[hi2,hj2];exact hk)
 exact hp j i hj1 hi1 q (by rw[hi2,hj2];exact hk.symm)
theorem IterD.next {r:Nat} {done:List (Value × Value)} (h:IterD P k w r b es done) (ty:TypeId):
 ((∀p ∈ es,p ∈ done)∧(Instr.next (.pointer (some ⟨r,0,none⟩)) false ty).run P w=.ok (.tuple #[.bool false]) w)∨
 ∃p w',p ∈ es∧(∀q ∈ done,q.1≠p.1)∧(Instr.next (.pointer (some ⟨r,0,none⟩)) false ty).run P w=.ok (.tuple #[.bool true,p.1,p.2]) w'∧IterD P k w' r b es (done++[p])∧Exc (fun q=>q=r) w w':=by
 obtain⟨hm,hrb,ents,clock,c0,vs,hb,hr,hc,hd,hc1,hkey,hbo⟩:=h;have hm0:=hm;obtain⟨ents',clock',hb',he,hbn,hdn,hkeys,hkp⟩:=hm0;rw[hb] at hb';cases hb'
 have hone:∀x ∈ ents.toList,∀y ∈ ents.toList,x.key=y.key→x=y:=by
  intro x hx y hy e;obtain⟨i,hi⟩:=List.mem_iff_getElem?.1 hx;obtain⟨j,hj⟩:=List.mem_iff_getElem?.1 hy
  have g1:es[i]? =some (x.key,x.val):=by rw[←he,List.getElem?_map,hi];rfl
  have g2:es[j]? =some (y.key,y.val):=by rw[←he,List.getElem?_map,hj];rfl
  have:=Znj hkp g1 g2 e;subst this;rw[hi] at hj;exact Option.some.inj hj
 have hborn:∀x ∈ ents.toList,∀y ∈ ents.toList,x.born=y.born→x=y:=by
  intro x hx y hy e;obtain⟨i,hi⟩:=List.mem_iff_getElem?.1 hx;obtain⟨j,hj⟩:=List.mem_iff_getElem?.1 hy
  by_cases hij:i=j
  · subst hij;rw[hi] at hj;exact Option.some.inj hj
  exfalso
  obtain⟨hi1,hi2⟩:=List.getElem?_eq_some_iff.1 hi;obtain⟨hj1,hj2⟩:=List.getElem?_eq_some_iff.1 hj;have hp:=List.pairwise_iff_getElem.1 hdn
  rcases Nat.lt_or_gt_of_ne hij with q|q
  · exact hp i j hi1 hj1 q (by rw[hi2,hj2,e])
  exact hp j i hj1 hi1 q (by rw[hi2,hj2,e])
 rcases run_next_at (P:=P) w ty r b clock c0 (vs.map (·.born)).toArray ents clock hr hb hbn hc with⟨h0,hrun⟩|⟨e,he1,w1,hw1,hrun⟩
 · refine .inl ⟨?_,hrun⟩
   intro p hp;rw[←he] at hp;obtain⟨x,hx,rfl⟩:=List.mem_map.1 hp;have h1:leftOf ents (vs.map (·.born)).toArray= #[]:=Array.eq_empty_of_size_eq_zero h0;unfold leftOf at h1;rw[Array.filter_eq_empty_iff] at h1;have h2:=h1 x (by simpa using hx)
   simp at h2
   obtain⟨y,hy,hyb⟩:=h2;have:=hbo y hy x hx hyb;subst this;rw[←hd];exact List.mem_map.2 ⟨y,hy,rfl⟩
 have he2:e ∈ ents.toList∧∀y ∈ vs,y.born≠e.born:=by
  unfold leftOf at he1
  simp at he1
  exact⟨by simpa using he1.1,fun y hy hb=>he1.2 y hy hb⟩
 have hh1:w1.heap=w.heap:=by rcases hw1 with rfl|rfl<;>rfl
 refine .inr ⟨(e.key,e.val),ChangeMaps.setBlock w1 r (.mapIter (some b) clock ((vs.map (·.born)).toArray.push e.born) clock),ZiU he he2.1,?_,hrun,?_,?_⟩
 · intro q hq
   rw[←hd] at hq;obtain⟨y,hy,rfl⟩:=List.mem_map.1 hq;intro hk;have:=hkey y hy e he2.1 hk;subst this;exact he2.2 y hy rfl
 · have hr1:w1.heap[r]? =some (.mapIter (some b) clock (vs.map (·.born)).toArray c0):=by rw[hh1];exact hr
   have k1:∀(o:Obj) (i:Nat),i≠r→(ChangeMaps.setBlock w1 r o).heap[i]? =w.heap[i]? :=fun o i hi=>by
    rw[←hh1];simp[ChangeMaps.setBlock,Ne.symm hi]
   have k2:∀(o:Obj),(ChangeMaps.setBlock w1 r o).heap[r]? =some o:=fun o=>by
    have hlt:=ZaQ hr1;simp[ChangeMaps.setBlock,hlt]
   refine⟨hm.same (k1 _ b (Ne.symm hrb)),hrb,ents,clock,clock,vs++[e],by rw[k1 _ b (Ne.symm hrb)];exact hb,by rw[k2];simp,Nat.le_refl _,by simp[hd],fun _=>rfl,?_,?_⟩
   · intro x hx y hy hk
     rcases List.mem_append.1 hx with hx|hx
     · exact hkey x hx y hy hk
     rw[List.mem_singleton.1 hx] at hk ⊢;exact hone e he2.1 y hy hk
   intro x hx y hy hk
   rcases List.mem_append.1 hx with hx|hx
   · exact hbo x hx y hy hk
   rw[List.mem_singleton.1 hx] at hk ⊢;exact hborn e he2.1 y hy hk
 have g:∀(o:Obj),Exc (fun q=>q=r) w (ChangeMaps.setBlock w1 r o):=fun o=>by
  rcases hw1 with rfl|rfl
  · exact⟨rfl,rfl,rfl,by simp[ChangeMaps.setBlock],fun i _ hi=>by simp[ChangeMaps.setBlock,Ne.symm hi]⟩
  exact⟨rfl,rfl,rfl,by simp[ChangeMaps.setBlock],fun i _ hi=>by simp[ChangeMaps.setBlock,Ne.symm hi];rfl⟩
 exact g _
theorem IterD.entry {r:Nat} {done:List (Value × Value)} {p:Value × Value} (h:IterD P k w r b es (done++[p])) (hp:p ∈ es):(Instr.entry (.pointer (some ⟨r,0,none⟩))).run P w=.ok (.tuple #[p.1,p.2]) w:=by
 obtain⟨hm,hrb,ents,clock,c0,vs,hb,hr,hc,hd,hc1,hkey,hbo⟩:=h;obtain⟨ents',clock',hb',he,hbn,hdn,hkeys,hkp⟩:=hm;rw[hb] at hb';cases hb'
 rcases List.eq_nil_or_concat vs with rfl|⟨vs',e,rfl⟩
 · simp at hd
 have h1:c0=clock:=hc1 (by simp);subst h1
 simp at hd
 obtain⟨hd1,hd2⟩:=hd;subst hd2;rw[←he] at hp;obtain⟨y,hy,hye⟩:=List.mem_map.1 hp;have hk0:e.key=y.key:=(congrArg Prod.fst hye).symm;have:=hkey e (by simp) y hy hk0;subst this;exact run_entry_at (P:=P) w r b c0 (vs'.map (·.born)).toArray ents c0 e (by rw[hr];simp) hb hy (List.pairwise_map.2 hdn)
theorem IterD.del {t e:TypeId} {r:Nat} {done l1 l2:List (Value × Value)} {key u:Value} (h:IterD P k w r b (l1++(key,u)::l2) done) (K:Keyed P k) (ht:P.underlying t=some (.map k e)) {kl:Lit} (hk:keyOf P k key=some kl) (t2 ty:TypeId):
 ∃w',(Builtin.delete_ #[t,t2] ty #[.map (some b),key]).run P w=.ok (.tuple #[]) w'∧IterD P k w' r b (l1++l2) done∧Exc (fun q=>q=b) w w':=by
 obtain⟨hm,hrb,ents,clock,c0,vs,hb,hr,hc,hd,hc1,hkey,hbo⟩:=h;obtain⟨w',h1,h2,h3,ents',clock',h4,h5⟩:=hm.del_there K ht hk t2 ty;rw[hb] at h4;cases h4
 have hsub:∀y ∈ (ents.eraseIdxIfInBounds l1.length).toList,y ∈ ents.toList:=by
  intro y hy
  by_cases hlt:l1.length < ents.size
  · rw[Zdb _ _ hlt] at hy
    exact(List.eraseIdx_sublist _ _).subset hy
  rw[Array.eraseIdxIfInBounds_eq,dif_neg hlt] at hy;exact hy
 exact⟨w',h1,⟨h2,hrb,_,clock,c0,vs,h5,(h3.block r (ZaQ hr) hrb).trans hr,hc,hd,hc1,fun x hx y hy=>hkey x hx y (hsub y hy),fun x hx y hy=>hbo x hx y (hsub y hy)⟩,h3⟩
theorem IterD.keys {r:Nat} {done:List (Value × Value)} (h:IterD P k w r b es done):es.Pairwise (fun p q=>p.1≠q.1):=h.1.keys
def Part.iterD (P:Program) (k:TypeId) (r b:Nat) (es done:List (Value × Value)):Part where
 holds w:=IterD P k w r b es done
 foot q:=q=b∨q=r
 lt:=fun _ h q e=>by
  rcases e with e|e
  · subst e;exact h.1.lt
  subst e;obtain⟨_,_,_,_,_,_,_,hr,_⟩:=h;exact ZaQ hr
 stay:=fun _ _ h e=>h.same (e b (.inl rfl)) (e r (.inr rfl))
end
section
variable {P:Program} {ops:Array Oper} {rest:List Oper} {o:Oper} {a:Act} {Q:Exit→Act→World→Prop} {L0 L F:List Part} {w0 w:World} {k:TypeId} {b:Nat} {es:List (Value × Value)}
theorem ZcO {t t2:TypeId} {m x:Operand} (hg:o.guard=none) (hop:o.op=.call {callee:=.builtin .delete,args:= #[m,x],argTypes:= #[t,t2]}) (hm:a.eval m=.map (some b)) {key u:Value} {l1 l2:List (Value × Value)} (hx:a.eval x=key)
 (h:At L0 w0 L w) (s:Sel (Part.map P k b (l1++(key,u)::l2)) L F) {e:TypeId} (K:Keyed P k) (ht:P.underlying t=some (.map k e)) {kl:Lit} (hk:keyOf P k key=some kl)
 (hK:∀w',At L0 w0 (Part.map P k b (l1++l2)::F) w'→wpList P ops Q rest (a.put o.dst (.tuple #[])) w'):wpList P ops Q (o::rest) a w:=by
 have hM:MapAt P k w b (l1++(key,u)::l2):=h.get s;obtain⟨w',h1,h2,h3,_⟩:=hM.del_there K ht hk t2 o.type;refine Zak hg ?_ (hK w' (h.turn s _ h2 (fun _ e=>.inl e) h3));simp[execOp,hop,resolve,invoke,builtin,hm,hx,h1,Result.andThen]
theorem ZcS {t t2:TypeId} {m x:Operand} {r:Nat} {done:List (Value × Value)} (hg:o.guard=none) (hop:o.op=.call {callee:=.builtin .delete,args:= #[m,x],argTypes:= #[t,t2]}) (hm:a.eval m=.map (some b)) {key u:Value} {l1 l2:List (Value × Value)} (hx:a.eval x=key)
 (h:At L0 w0 L w) (s:Sel (Part.iterD P k r b (l1++(key,u)::l2) done) L F) {e:TypeId} (K:Keyed P k) (ht:P.underlying t=some (.map k e)) {kl:Lit} (hk:keyOf P k key=some kl)
 (hK:∀w',At L0 w0 (Part.iterD P k r b (l1++l2) done::F) w'→wpList P ops Q rest (a.put o.dst (.tuple #[])) w'):wpList P ops Q (o::rest) a w:=by
 have hI:IterD P k w r b (l1++(key,u)::l2) done:=h.get s;obtain⟨w',h1,h2,h3⟩:=hI.del K ht hk t2 o.type;refine Zak hg ?_ (hK w' (h.turn s (Part.iterD P k r b (l1++l2) done) h2 (fun _ e=>.inl e) (h3.mono (fun _ _ e=>.inl e))));simp[execOp,hop,resolve,invoke,builtin,hm,hx,h1,Result.andThen]
theorem Zd4 {r:Nat} {done:List (Value × Value)} {it:Operand} (hg:o.guard=none) (hop:o.op=.next it false) (hi:a.eval it=.pointer (some ⟨r,0,none⟩)) (h:At L0 w0 L w) (s:Sel (Part.iterD P k r b es done) L F)
 (hEnd:(∀p ∈ es,p ∈ done)→wpList P ops Q rest (a.put o.dst (.tuple #[.bool false])) w)
 (hK:∀p w',p ∈ es→(∀q ∈ done,q.1≠p.1)→At L0 w0 (Part.iterD P k r b es (done++[p])::F) w'→wpList P ops Q rest (a.put o.dst (.tuple #[.bool true,p.1,p.2])) w'):wpList P ops Q (o::rest) a w:=by
 have hI:IterD P k w r b es done:=h.get s
 rcases hI.next o.type with⟨h1,h2⟩|⟨p,w',h1,h2,h3,h4,h5⟩
 · refine Zak hg ?_ (hEnd h1)
   simp[execOp,hop,hi,h2,Result.andThen]
 refine Zak hg ?_ (hK p w' h1 h2 (h.turn s (Part.iterD P k r b es (done++[p])) h4 (fun q e=>.inl e) (h5.mono (fun _ _ e=>.inr e))));simp[execOp,hop,hi,h3,Result.andThen]
theorem At.rangedD {r:Nat} {done:List (Value × Value)} (h:At L0 w0 L w) (s:Sel (Part.iterD P k r b es done) L F):At L0 w0 (Part.map P k b es::F) w:=by
 have hI:IterD P k w r b es done:=h.get s;exact h.turn s (Part.map P k b es) hI.1 (fun _ e=>.inl (.inl e)) (Exc.refl _ _)
theorem At.rangeD {r:Nat} (h:At L0 w0 L w) (s:Sel (Part.iter P k r b es []) L F):At L0 w0 (Part.iterD P k r b es []::F) w:=by
 have hI:Zas P k w r b es []:=h.get s;exact h.turn s (Part.iterD P k r b es []) (IterD.start hI) (fun _ e=>.inl e) (Exc.refl _ _)
end
end
end
section
namespace Lock
open Go.RowKit
open Go.Maps (Keyed)
open Path (bl Zad overB)
attribute [-go_sem] run_eql_struct run_neq_struct run_eqGuard_agg
attribute [local go_sem] ZnB eqlS
abbrev boxS (b:Nat) (n:Int) (f:ByteArray):Part:=.cells b [.int .u64 n,.string f] 25
def Ent.of (e:Ent) (n:Int) (f:ByteArray):Bool:=decide (e.num=n∧e.foot=f)
def heldN (l:List Ent) (n:Int) (f:ByteArray):Nat:=(l.filter (·.of n f)).length
theorem Zfg (l:List Ent) (e:Ent) (n:Int) (f:ByteArray):heldN (l++[e]) n f=heldN l n f + if e.of n f then 1 else 0:=by
 unfold heldN;rw[List.filter_append]
 cases h:e.of n f<;>simp[List.filter_cons,h]
theorem Zjy {l r:List Ent} (h:l.Perm r) (n:Int) (f:ByteArray):heldN l n f=heldN r n f:=(h.filter _).length_eq
theorem ZdY (l:List Ent) (n:Int) (f:ByteArray):heldN l n f≤l.length:=List.length_filter_le _ _
theorem ZkR {w:World} {bS:Nat} {n k:Int} {f p g:ByteArray} (h:Sep [boxS bS n f] w) {c:Bool} (hc:decide (k=n∧g=f)=c):
 Calls Tryz.prog 313 #[.agg #[.string p,.int .u64 k,.string g],.pointer (some ⟨bS,0,none⟩)] w fun e w'=>e=.returned (.bool c)∧At [boxS bS n f] w [boxS bS n f] w':=by
 have hA:=At.start h;obtain⟨hA,hF⟩:=fY hA;clear h;have hc':=Hd hc;clear hc
 go_enter Tryz.func313,Tryz.ntmps313
 go_wp2_with ((with_reducible refine gbx ?_);refine wCy hA ?_;clear hF hA;intro b1 w1 hA hb1 hF)
 go_ret;exact⟨by rw[←hc'.out,Bool.decide_and];rfl,hA.only1 sR⟩
def CtRel (L0:List Part) (m r bS:Nat) (n:Int) (f:ByteArray) (es:List Ent) (w:World) (k:Nat) (v:Value) (wr:World):Prop:=
 ∃ds:List Ent,At L0 w [Part.iter Tryz.prog 203 r m (ents es) (ents ds),boxS bS n f] wr∧(∀s ∈ ds,s ∈ es)∧v=.int .i64 (heldN ds n f)∧ds.length + k=es.length
theorem count_any {w:World} {m bS:Nat} {n:Int} {f:ByteArray} {es:List Ent} (h:Sep [mapC m (ents es),boxS bS n f] w) (hl:es.length≤1000000000):
 Calls Tryz.prog 312 #[.map (some m),.func (.func 313) #[] #[.pointer (some ⟨bS,0,none⟩)]] w fun e w'=>e=.returned (.int .i64 (heldN es n f))∧At [mapC m (ents es),boxS bS n f] w [mapC m (ents es),boxS bS n f] w':=by
 have hA:=At.start h;obtain⟨hA,hF⟩:=fY hA;clear h
 go_enter Tryz.func312,Tryz.ntmps312
 go_wp2_with (refine ZaV rfl rfl rfl hA sR Tryz.underlying201 ?_;intro r w1 hB hr;clear hF hA;have hA:=hB;clear hB;obtain⟨hA,hF⟩:=fY hA)
 try go_frame
 go_loopg [5] es.length (CtRel [mapC m (ents es),boxS bS n f] m r bS n f es w)
 case atStart=>exact⟨[],hA,nofun,by simp[heldN],by simp⟩
 case round=>
  obtain⟨ds,hA2,hds,rfl,hk⟩:=hrel;clear hF hA;have hA:=hA2;clear hA2;obtain⟨hA,hF⟩:=fY hA
  go_step
  go_step
  refine Za9 rfl rfl rfl hA sR (fun hp=> ?_) (fun q w1 hq hd hB=> ?_)
  · have hc:=Hd (Zjy (ents_perm hp) n f)
    have hM:=At.ranged hA sR;clear hp
    go_wp2_with fail
    go_ret;exact⟨by rw[hc.out];rfl,hM.only2 sR sR⟩
  obtain⟨s,hs,rfl⟩:=List.mem_map.1 hq
  have hI:Zas Tryz.prog 203 w1 r m (ents es) (ents ds++[ent s]):=hB.get (A:=Part.iter _ _ r m (ents es) (ents ds++[ent s])) sR;have hen:=hI.entry
  have hlen:(ds++[s]).length≤es.length:=by have:=hI.len;simpa [ents] using this
  have hsub:∀x ∈ ds++[s],x ∈ es:=fun x hx=>by
   rcases List.mem_append.1 hx with hx|hx
   · exact hds x hx
   have:x=s:=by simpa using hx
   rw[this];exact hs
  rw[ents_snoc] at hB;clear hF hA;have hA:=hB;have hk':=Hd hk;have hsub':=Hd hsub;have hsn:=Hd (Zfg ds s n f);have hcl:=ZdY ds n f;simp only[List.length_append,List.length_cons,List.length_nil,Nat.zero_add] at hlen;clear hI hB hk hsub hds hq hd hs;obtain⟨hA,hF⟩:=fY hA;simp only[ent,Ent.key,Ent.val,keyV] at hen
  obtain⟨c,hc⟩:∃c,s.of n f=c:=⟨_,rfl⟩
  have hc':=Hd hc
  go_wp2_with (first|((with_reducible refine gst ?_);refine wTy hA ?_;clear hF hA;intro w1 hA hF)|((with_reducible refine gal ?_);refine wGy 203 [.string .empty,.int .u64 0,.string .empty] hA ?_;clear hF hA;intro b1 w1 hA hb1 hF))
  refine(ZkR (hA.sep1 (A:=boxS bS n f) sR) hc).mono ?_;clear hc;rintro e w2 ⟨rfl,hT⟩;replace hA:=hA.call1 (A:=boxS bS n f) sR hT;clear hF hT;obtain⟨hA,hF⟩:=fY hA;cases c
  all_goals
   go_wp2_with fail
   go_roundg (gk - 1)
   case measure=>have:=hk'.out;omega
   case rel=>exact⟨ds++[s],hA.only2 sR sR,hsub'.out,by rw[hsn.out,hc'.out];simp,by have:=hk'.out;simp;omega⟩
theorem ZmQ {w:World} {b:Bk} (h:Sep [BookP b] w) (n:Int) (f:ByteArray) (hl:b.es.length≤1000000000):
 Calls Tryz.prog 290 #[.pointer (some ⟨b.p,0,none⟩),.agg #[.int .u64 n,.string f]] w fun e w'=>e=.returned (.int .i64 (heldN b.es n f))∧At [BookP b] w [BookP b] w':=by
 have hA:=begin0 h;obtain⟨hA,hF⟩:=fY hA;clear h
 go_enter Tryz.func290,Tryz.ntmps290
 go_wp2_with ((with_reducible refine gbx ?_);refine wCy (E:=25) hA ?_;clear hF hA;intro bS w1 hA hbS hF)
 refine(count_any (hA.sep2 (A:=mapC b.m (ents b.es)) (B:=boxS bS n f) sR sR) hl).mono ?_;rintro e w2 ⟨rfl,hT⟩;replace hA:=hA.call2 (A:=mapC b.m (ents b.es)) (B:=boxS bS n f) sR sR hT;clear hF hT;obtain⟨hA,hF⟩:=fY hA
 go_wp2_with fail
 go_ret;exact⟨rfl,close0 b hA sR sR sR⟩
end Lock
end
section
namespace Lock
open Path (bl Zad overB)
def putC:List (ByteArray × Int)→ByteArray→Int→List (ByteArray × Int)
 |[],p,n=>[(p,n)]
 |c::cs,p,n=>if c.1=p then(p,n)::cs else c::putC cs p n
theorem Zc2:∀{cs:List (ByteArray × Int)} {p:ByteArray} {n:Int},ctr cs p=none→putC cs p n=cs++[(p,n)]
 |[],p,n,_=>rfl
 |c::cs,p,n,h=>by
  unfold ctr at h
  by_cases hc:c.1=p
  · simp[List.find?_cons,hc] at h
  have h2:ctr cs p=none:=by unfold ctr;simpa [List.find?_cons,hc] using h
  simp[putC,hc,Zc2 h2]
theorem ZdV {l2:List (ByteArray × Int)} {p:ByteArray} {u n:Int}:∀{l1:List (ByteArray × Int)},(∀c ∈ l1,c.1≠p)→putC (l1++(p,u)::l2) p n=l1++(p,n)::l2
 |[],_=>by simp[putC]
 |c::l1,h=>by
  have:=ZdV (l1:=l1) (n:=n) (u:=u) (l2:=l2) (fun x hx=>h x (by simp[hx]));simp[putC,h c (by simp),this]
theorem ZeG {cs:List (ByteArray × Int)} {p:ByteArray} {u:Int} (h:ctr cs p=some u):∃l1 l2,cs=l1++(p,u)::l2∧∀c ∈ l1,c.1≠p:=by
 unfold ctr at h;simp only[Option.map_eq_some_iff] at h;obtain⟨q,h1,rfl⟩:=h;obtain⟨h1,l1,l2,h2,h3⟩:=List.find?_eq_some_iff_append.1 h1
 have h4:q.1=p:=by simpa using h1
 subst h4;exact⟨l1,l2,h2,fun c hc=>by simpa using h3 c hc⟩
theorem Zow (cs:List (ByteArray × Int)) (p q:ByteArray) (n:Int):ctr (putC cs p n) q=if p=q then some n else ctr cs q:=by
 induction cs with
 |nil=>by_cases h:p=q<;>simp[putC,ctr,h]
 |cons c cs ih=>
  unfold ctr at ih ⊢
  by_cases hc:c.1=p
  · by_cases h:p=q
    · simp[putC,hc,List.find?_cons,h]
    have h2:¬c.1=q:=fun e=>h (hc.symm.trans e)
    simp[putC,hc,List.find?_cons,h]
  by_cases h2:c.1=q
  · have h:¬p=q:=fun e=>hc (h2.trans e.symm)
    have hq:¬q=p:=fun e=>h e.symm
    simp[putC,hc,List.find?_cons,h,hq,h2]
  simp[putC,hc,List.find?_cons,h2,ih]
theorem Zmp (cs:List (ByteArray × Int)) (p:ByteArray) (n:Int):(putC cs p n).length≤cs.length + 1:=by
 induction cs with
 |nil=>simp[putC]
 |cons c cs ih=>unfold putC;split<;>simp<;>omega
theorem ZdW {cs:List (ByteArray × Int)} {p:ByteArray} {n:Int} {c:ByteArray × Int} (h:c ∈ putC cs p n):c=(p,n)∨c ∈ cs:=by
 induction cs with
 |nil=>simp[putC] at h;exact .inl h
 |cons d cs ih=>
  unfold putC at h
  split at h
  · rcases List.mem_cons.1 h with h|h
    · exact .inl h
    exact .inr (by simp[h])
  rcases List.mem_cons.1 h with h|h
  · exact .inr (by simp[h])
  rcases ih h with q|q
  · exact .inl q
  exact .inr (by simp[q])
structure S3 where
 first:Int
 es:List Ent
 cs:List (ByteArray × Int)
def lastN:Int:=9223372036854775807
def S3.may (s:S3) (p:ByteArray) (n:Int) (f:ByteArray) (mode:Int):Int:=
 if Zbg p mode=false then 10 else if(find s.es p n f).isSome=true then 15 else if 64≤heldN s.es n f then 14 else if lastN≤counter s.first s.cs p then 53 else 0
def S3.newE (s:S3) (p:ByteArray) (n:Int) (f:ByteArray) (mode:Int):Ent:=⟨p,n,f,mode,counter s.first s.cs p + 1,maxS s.es p + 1⟩
def S3.added (s:S3) (p:ByteArray) (n:Int) (f:ByteArray) (mode:Int):S3:=⟨s.first,s.es++[s.newE p n f mode],putC s.cs p (counter s.first s.cs p + 1)⟩
def S3.add (s:S3) (p:ByteArray) (n:Int) (f:ByteArray) (mode:Int):S3:=if s.may p n f mode=0 then s.added p n f mode else s
def S3.addE (s:S3) (p:ByteArray) (n:Int) (f:ByteArray) (mode:Int):Ent:=if s.may p n f mode=0 then s.newE p n f mode else nullE
def S3.remove (s:S3) (p:ByteArray) (n:Int) (f:ByteArray):S3:=⟨s.first,s.es.filter (fun e=> !e.is p n f),s.cs⟩
def S3.dropAll (s:S3) (n:Int) (f:ByteArray):S3:=⟨s.first,s.es.filter (fun e=> !e.of n f),s.cs⟩
structure Op where
 kind:Int
 mode:Int
 path:ByteArray
 num:Int
 foot:ByteArray
def S3.step (s:S3) (o:Op):S3:=
 if o.kind=1 then s.add o.path o.num o.foot o.mode else if o.kind=2 then s.remove o.path o.num o.foot else if o.kind=3 then s.dropAll o.num o.foot else s
structure Op.ok (o:Op):Prop where
 path:o.path.size≤100
 num0:0≤o.num
 num1:o.num < big64
 foot:o.foot.size≤maxLen
structure Inv (s:S3) (k:Nat):Prop where
 len:s.es.length≤k
 clen:s.cs.length≤k
 keys:s.es.Pairwise (fun a b=>¬(a.path=b.path∧a.num=b.num∧a.foot=b.foot))
 ckeys:s.cs.Pairwise (fun a b=>a.1≠b.1)
 right:∀e ∈ s.es,Zad (bl e.path)=true
 mode:∀e ∈ s.es,e.mode=1∨e.mode=2
 path:∀e ∈ s.es,e.path.size≤100
 num0:∀e ∈ s.es,0≤e.num
 num1:∀e ∈ s.es,e.num < big64
 foot:∀e ∈ s.es,e.foot.size≤maxLen
 stamp0:∀e ∈ s.es,1≤e.stamp
 stamp1:∀e ∈ s.es,e.stamp≤k
 n0:∀e ∈ s.es,0≤e.n
 n1:∀e ∈ s.es,e.n≤lastN
 order:s.es.Pairwise (fun a b=>overB (bl a.path) (bl b.path)=true→a.stamp < b.stamp)
 nums:s.es.Pairwise (fun a b=>a.path=b.path→a.n < b.n)
 ctrs:∀e ∈ s.es,e.n≤counter s.first s.cs e.path
 first0:0≤s.first
 first1:s.first < big64
 cpath:∀c ∈ s.cs,c.1.size≤100
 c0:∀c ∈ s.cs,s.first < c.2
 c1:∀c ∈ s.cs,c.2≤lastN
 cright:∀c ∈ s.cs,Zad (bl c.1)=true
theorem Zoh {first:Int} (h0:0≤first) (h1:first < big64):Inv ⟨first,[],[]⟩ 0 where
 len:=by simp
 clen:=by simp
 keys:=.nil
 ckeys:=.nil
 right:=nofun
 mode:=nofun
 path:=nofun
 num0:=nofun
 num1:=nofun
 foot:=nofun
 stamp0:=nofun
 stamp1:=nofun
 n0:=nofun
 n1:=nofun
 order:=.nil
 nums:=.nil
 ctrs:=nofun
 first0:=h0
 first1:=h1
 cpath:=nofun
 c0:=nofun
 c1:=nofun
 cright:=nofun
theorem Inv.mono {s:S3} {k j:Nat} (h:Inv s k) (hj:k≤j):Inv s j:=
 {h with len:=by have:=h.len;omega,clen:=by have:=h.clen;omega,stamp1:=fun e he=>by have:=h.stamp1 e he;omega}
theorem Inv.sub {s:S3} {k:Nat} (h:Inv s k) {l:List Ent} (hl:l.Sublist s.es):Inv ⟨s.first,l,s.cs⟩ k:=
 {len:=Nat.le_trans hl.length_le h.len,clen:=h.clen,keys:=h.keys.sublist hl,ckeys:=h.ckeys,right:=fun e he=>h.right e (hl.subset he),mode:=fun e he=>h.mode e (hl.subset he),
  path:=fun e he=>h.path e (hl.subset he),num0:=fun e he=>h.num0 e (hl.subset he),num1:=fun e he=>h.num1 e (hl.subset he),foot:=fun e he=>h.foot e (hl.subset he),
  stamp0:=fun e he=>h.stamp0 e (hl.subset he),stamp1:=fun e he=>h.stamp1 e (hl.subset he),n0:=fun e he=>h.n0 e (hl.subset he),n1:=fun e he=>h.n1 e (hl.subset he),
  order:=h.order.sublist hl,nums:=h.nums.sublist hl,ctrs:=fun e he=>h.ctrs e (hl.subset he),first0:=h.first0,first1:=h.first1,cpath:=h.cpath,c0:=h.c0,c1:=h.c1,cright:=h.cright}
theorem Zc9 {es:List Ent} {p:ByteArray} {n:Int} {f:ByteArray}:find es p n f=none↔∀e ∈ es,¬(e.path=p∧e.num=n∧e.foot=f):=by
 unfold find;rw[List.find?_eq_none];simp[Ent.is]
theorem ZkF {l:List Ent} {p:ByteArray} {e:Ent} (he:e ∈ l) (h:overB (bl e.path) (bl p)=true):e.stamp≤maxS l p:=by
 have key:∀(l:List Ent) (m:Int),m≤l.foldl (fun m e=>if overB (bl e.path) (bl p) then max m e.stamp else m) m:=by
  intro l
  induction l with
  |nil=>intro m;exact Int.le_refl _
  |cons x l ih=>
   intro m;rw[List.foldl_cons];refine Int.le_trans ?_ (ih _)
   split<;>omega
 obtain⟨l1,l2,rfl⟩:=List.append_of_mem he;unfold maxS;rw[List.foldl_append,List.foldl_cons,if_pos h];exact Int.le_trans (by omega) (key l2 _)
theorem Zet {s:S3} {p:ByteArray} {n:Int} {f:ByteArray} {mode:Int} (h:s.may p n f mode=0):Zbg p mode=true∧find s.es p n f=none∧heldN s.es n f < 64∧counter s.first s.cs p < lastN:=by
 unfold S3.may at h
 split at h
 · omega
 rename_i h1
 split at h
 · omega
 rename_i h2
 split at h
 · omega
 rename_i h3
 split at h
 · omega
 rename_i h4
 exact⟨by simpa using h1,by simpa using h2,by omega,by omega⟩
theorem ZdF {p:ByteArray} {mode:Int} (h:Zbg p mode=true):Zad (bl p)=true∧(mode=1∨mode=2):=by
 unfold Zbg at h
 simpa using h
theorem ZcC {s:S3} {k:Nat} (h:Inv s k) (p:ByteArray):s.first≤counter s.first s.cs p:=by
 unfold counter
 cases hc:ctr s.cs p with
 |none=>simp
 |some u=>
  obtain⟨l1,l2,e,_⟩:=ZeG hc;have:=h.c0 (p,u) (by rw[e];simp)
  simp at this ⊢;omega
theorem ZkN {s:S3} {k:Nat} (h:Inv s k) {p:ByteArray} {n:Int} {f:ByteArray} {mode:Int} (hm:s.may p n f mode=0) (hp:p.size≤100) (h0:0≤n) (h1:n < big64) (hf:f.size≤maxLen):Inv (s.added p n f mode) (k + 1):=by
 obtain⟨hr,hn,hh,hc⟩:=Zet hm;obtain⟨hr,hmo⟩:=ZdF hr;rw[Zc9] at hn;have hms:=Zdn (l:=s.es) (p:=p) (B:=k) (by omega) h.stamp1;have hcg:=ZcC h p;have hf0:=h.first0
 have mem:∀{P:Ent→Prop},(∀e ∈ s.es,P e)→P (s.newE p n f mode)→∀e ∈ s.es++[s.newE p n f mode],P e:=fun h1 h2 e he=>by
  rcases List.mem_append.1 he with he|he
  · exact h1 e he
  rw[List.mem_singleton.1 he];exact h2
 have pw:∀{R:Ent→Ent→Prop},s.es.Pairwise R→(∀e ∈ s.es,R e (s.newE p n f mode))→(s.es++[s.newE p n f mode]).Pairwise R:=fun h1 h2=>
  List.pairwise_append.2 ⟨h1,List.pairwise_singleton _ _,fun a ha b hb=>by rw[List.mem_singleton.1 hb];exact h2 a ha⟩
 have cc:∀q,counter s.first (putC s.cs p (counter s.first s.cs p + 1)) q=if p=q then counter s.first s.cs p + 1 else counter s.first s.cs q:=fun q=>by
  unfold counter;rw[Zow]
  split<;>simp
 have ck:(putC s.cs p (counter s.first s.cs p + 1)).Pairwise (fun a b=>a.1≠b.1):=by
  cases hq:ctr s.cs p with
  |none=>
   rw[Zc2 hq];refine List.pairwise_append.2 ⟨h.ckeys,List.pairwise_singleton _ _,fun a ha b hb=> ?_⟩;rw[List.mem_singleton.1 hb];intro e;have:=Zgl hq (ctrE a) (List.mem_map.2 ⟨a,ha,rfl⟩);exact this (by simp[ctrE,e])
  |some u=>
   obtain⟨l1,l2,e,hl⟩:=ZeG hq;have hk:=h.ckeys;rw[e] at hk ⊢;rw[ZdV hl];rw[List.pairwise_append] at hk ⊢;refine⟨hk.1,?_,fun a ha b hb=> ?_⟩
   · have:=List.pairwise_cons.1 hk.2.1
     exact List.pairwise_cons.2 ⟨this.1,this.2⟩
   rcases List.mem_cons.1 hb with rfl|hb
   · exact hl a ha
   exact hk.2.2 a ha b (by simp[hb])
 constructor
 case len=>simp[S3.added];exact h.len
 case clen=>exact Nat.le_trans (Zmp _ _ _) (by have:=h.clen;omega)
 case keys=>exact pw h.keys (fun e he=>hn e he)
 case ckeys=>exact ck
 case right=>exact mem h.right hr
 case mode=>exact mem h.mode hmo
 case path=>exact mem h.path hp
 case num0=>exact mem h.num0 h0
 case num1=>exact mem h.num1 h1
 case foot=>exact mem h.foot hf
 case stamp0=>exact mem h.stamp0 (by simp only[S3.newE];omega)
 case stamp1=>exact mem (fun e he=>by have:=h.stamp1 e he;omega) (by simp only[S3.newE];omega)
 case n0=>exact mem h.n0 (by simp only[S3.newE];omega)
 case n1=>exact mem h.n1 (by simp only[S3.newE];omega)
 case order=>exact pw h.order (fun e he ho=>by have:e.stamp≤maxS s.es p:=ZkF he ho;simp only[S3.newE];omega)
 case nums=>exact pw h.nums (fun e he ho=>by have:=h.ctrs e he;simp only[S3.newE] at ho ⊢;rw[ho] at this;omega)
 case ctrs=>
  refine mem (fun e he=> ?_) ?_
  · have:=h.ctrs e he
    simp only[S3.added];rw[cc]
    split
    · rename_i hq;subst hq;omega
    exact this
  simp only[S3.added,S3.newE];rw[cc,if_pos rfl];exact Int.le_refl _
 case first0=>exact h.first0
 case first1=>exact h.first1
 case cpath=>
  intro c hc
  rcases ZdW hc with rfl|hc
  · exact hp
  exact h.cpath c hc
 case c0=>
  intro c hc
  rcases ZdW hc with rfl|hc
  · simp only[S3.added];omega
  exact h.c0 c hc
 case c1=>
  intro c hc
  rcases ZdW hc with rfl|hc
  · simp only;omega
  exact h.c1 c hc
 case cright=>
  intro c hc
  rcases ZdW hc with rfl|hc
  · exact hr
  exact h.cright c hc
theorem Zgb {s:S3} {k:Nat} (h:Inv s k) {o:Op} (ho:o.ok):Inv (s.step o) (k + 1):=by
 unfold S3.step
 split
 · unfold S3.add
   split
   · rename_i hm
     exact ZkN h hm ho.path ho.num0 ho.num1 ho.foot
   exact h.mono (by omega)
 split
 · exact(h.sub List.filter_sublist).mono (by omega)
 split
 · exact(h.sub List.filter_sublist).mono (by omega)
 exact h.mono (by omega)
def ZbX (l:List Ent) (k:Nat):Bool:=match l[k]? with
 |some e=>(l.take k).all (fun x=> !wayB x e)
 |none=>false
theorem ZfA {a b:Ent} (h:wayB a b=true):overB (bl a.path) (bl b.path)=true:=by
 unfold wayB at h
 simp at h
 exact h.2
theorem Zca {l:List Ent} (ho:l.Pairwise (fun a b=>overB (bl a.path) (bl b.path)=true→a.stamp < b.stamp)) {k:Nat} {e:Ent} (hk:l[k]? =some e):Za1 l e=ZbX l k:=by
 obtain⟨hk1,hk2⟩:=List.getElem?_eq_some_iff.1 hk;unfold ZbX;rw[hk]
 have hl:l=l.take k++e::l.drop (k + 1):=by
  rw[←hk2,List.getElem_cons_drop hk1,List.take_append_drop]
 have ho':=ho;rw[hl,List.pairwise_append] at ho';have h3:=List.pairwise_cons.1 ho'.2.1;show Za1 l e=(l.take k).all (fun x=> !wayB x e)
 conv=>lhs;rw[hl]
 unfold Za1;rw[List.all_append,List.all_cons]
 have e1:(l.take k).all (fun x=> !(decide (x.stamp < e.stamp)&&wayB x e))=(l.take k).all (fun x=> !wayB x e):=by
  rw[Bool.eq_iff_iff,List.all_eq_true,List.all_eq_true]
  refine forall_congr' fun x=>forall_congr' fun hx=> ?_
  cases hw:wayB x e with
  |false=>simp
  |true=>simp[ho'.2.2 x hx e (by simp) (ZfA hw)]
 have e2:(l.drop (k + 1)).all (fun x=> !(decide (x.stamp < e.stamp)&&wayB x e))=true:=by
  rw[List.all_eq_true];intro x hx
  cases hw:wayB x e with
  |false=>simp
  |true=>
   have:=h3.1 x hx (by rw[Path.Zkw];exact ZfA hw)
   simp;omega
 rw[e1,e2]
 simp
def ZaH (l:List Ent) (p:ByteArray) (mode:Int):Bool:=l.all (fun x=> !wayB x ⟨p,0,.empty,mode,0,0⟩)&&Zbg p mode
theorem Zia (l:List Ent) (p:ByteArray) (mode:Int):Za1 l ⟨p,0,.empty,mode,0,maxS l p + 1⟩=l.all (fun x=> !wayB x ⟨p,0,.empty,mode,0,0⟩):=by
 unfold Za1;rw[Bool.eq_iff_iff,List.all_eq_true,List.all_eq_true]
 refine forall_congr' fun x=>forall_congr' fun hx=> ?_
 have e:wayB x ⟨p,0,.empty,mode,0,maxS l p + 1⟩=wayB x ⟨p,0,.empty,mode,0,0⟩:=rfl;rw[e]
 cases hw:wayB x ⟨p,0,.empty,mode,0,0⟩ with
 |false=>simp
 |true=>
  have h:x.stamp≤maxS l p:=ZkF hx (ZfA hw)
  have:x.stamp < maxS l p + 1:=by omega
  simp[this]
def ZiG (l:List Ent) (p:ByteArray) (n:Int) (f:ByteArray):Option Nat:=l.findIdx? (·.is p n f)
def Zbc (l:List Ent) (p:ByteArray) (n:Int):Bool:=match l.findIdx? (fun e=>decide (e.path=p∧e.n=n)) with
 |some k=>ZbX l k
 |none=>false
theorem ZmB {l:List Ent} (h:l.Pairwise (fun a b=>a.path=b.path→a.n < b.n)) {i j:Nat} {a b:Ent} (hi:l[i]? =some a) (hj:l[j]? =some b) (hp:a.path=b.path) (hn:a.n=b.n):i=j:=by
 obtain⟨hi1,hi2⟩:=List.getElem?_eq_some_iff.1 hi;obtain⟨hj1,hj2⟩:=List.getElem?_eq_some_iff.1 hj;have hp':=List.pairwise_iff_getElem.1 h
 rcases Nat.lt_trichotomy i j with q|q|q
 · have:=hp' i j hi1 hj1 q (by rw[hi2,hj2,hp])
   rw[hi2,hj2] at this;omega
 · exact q
 have:=hp' j i hj1 hi1 q (by rw[hi2,hj2,hp])
 rw[hi2,hj2] at this;omega
theorem ZjJ {l:List Ent} {p:ByteArray} {n:Int} (h:∀e ∈ l,¬(e.path=p∧e.n=n)):Zbc l p n=false:=by
 unfold Zbc;rw[List.findIdx?_eq_none_iff.2 (by simpa using h)]
theorem Zfn {l:List Ent} (h:l.Pairwise (fun a b=>a.path=b.path→a.n < b.n)) {k:Nat} {e:Ent} (hk:l[k]? =some e):Zbc l e.path e.n=ZbX l k:=by
 unfold Zbc
 cases hf:l.findIdx? (fun x=>decide (x.path=e.path∧x.n=e.n)) with
 |none=>
  have:=List.findIdx?_eq_none_iff.1 hf e (List.mem_of_getElem? hk)
  simp at this
 |some j=>
  obtain⟨hj,h2,_⟩:=List.findIdx?_eq_some_iff_getElem.1 hf
  simp at h2
  rw[ZmB h (List.getElem?_eq_getElem hj) hk h2.1 h2.2]
end Lock
end
end Go.Proofs.YtkdjkngfnapjcaaGreatDoor
