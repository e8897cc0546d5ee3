import Derived.Test.YtbeckijoabapkaaGreatDoorP5
import Derived.Lib.QuietBelow
set_option linter.unusedSimpArgs false
set_option linter.unusedVariables false
set_option maxRecDepth 100000
set_option maxHeartbeats 16000000
namespace Go.Proofs.YtbeckijoabapkaaGreatDoor
section
namespace Lease
open Go.RowKit
def Zbx (ss:List Ses) (n:Int) (f:ByteArray) (g:Ses→Ses) (ss':List Ses):Prop:=
 (∃l1 s l2,find ss n f=some s∧ss=l1++s::l2∧ss'=l1++g s::l2)∨(find ss n f=none∧∃b t,ss'=ss++[g (fresh n f b t)])
def ZhB (w:World) (p m:Nat) (ss:List Ses) (n:Int) (f:ByteArray) (g:Ses→Ses) (ret:Value) (code:Int) (e:Ending) (w':World):Prop:=
 ∃ss',e=.returned ret∧At [BookP p m ss] w [BookP p m ss'] w'∧(code≠0∧ss'=ss∨code=0∧Zbx ss n f g ss')
section
variable {w:World} {p m:Nat} {ss:List Ses} {n:Int} {f:ByteArray}
theorem Zlz (h:Sep [BookP p m ss] w) (h0:0≤n) (h1:n < big64) (hf:f.size≤maxLen) (hl:ss.length≤1000000) (ttl time:Int):
 Calls Tryz.prog 63 #[.pointer (some ⟨p,0,none⟩),.agg #[.int .u64 n,.string f],.int .i64 ttl,.int .i64 time] w (ZhB w p m ss n f (fun s=>s.opened ttl time) (.int .i64 (openE (look ss n f) (cnt ss f))) (openE (look ss n f) (cnt ss f))):=by
 by_cases he:openE (look ss n f) (cnt ss f)=0
 · rw[he]
   have hd:(look ss n f).dead=false:=by
    cases q:(look ss n f).dead
    · rfl
    simp[openE,q] at he
   have ho:(look ss n f).op=false:=by
    cases q:(look ss n f).op
    · rfl
    simp[openE,hd,q] at he
   have hc:cnt ss f < 32:=by
    rcases Nat.lt_or_ge (cnt ss f) 32 with q|q
    · exact q
    simp[openE,hd,ho,q] at he
   cases hn:find ss n f with
   |none=>
    refine(Zmr h h0 h1 hf (by omega) ttl time hn hc).mono ?_;rintro e w' ⟨b,t,rfl,hT⟩;exact⟨_,rfl,hT,.inr ⟨rfl,.inr ⟨hn,b,t,rfl⟩⟩⟩
   |some s=>
    have hk:look ss n f=s:=by unfold look;rw[hn];rfl
    rw[hk] at hd ho;obtain⟨l1,l2,rfl,_,_,_⟩:=find_split hn;refine(Zmq h h0 h1 hf (by omega) ttl time hn hc hd ho).mono ?_;rintro e w' ⟨rfl,hT⟩;exact⟨_,rfl,hT,.inr ⟨rfl,.inl ⟨l1,s,l2,hn,rfl,rfl⟩⟩⟩
 refine(Zog h h0 h1 hf (by omega) ttl time he).mono ?_;rintro e w' ⟨rfl,hT⟩;exact⟨_,rfl,hT,.inl ⟨he,rfl⟩⟩
theorem ZdN {b:Bool} (φ:Ses→Bool) (h0:φ (fresh n f 0 0)≠b) (h:φ (look ss n f)=b):∃s l1 l2,find ss n f=some s∧ss=l1++s::l2∧φ s=b∧look ss n f=s:=by
 cases hn:find ss n f with
 |none=>
  unfold look at h;rw[hn] at h;exact absurd h h0
 |some s=>
  obtain⟨l1,l2,e,_,_,_⟩:=find_split hn;have hk:look ss n f=s:=by unfold look;rw[hn];rfl
  exact⟨s,l1,l2,rfl,e,by rw[←hk];exact h,hk⟩
theorem ZlA (h:Sep [BookP p m ss] w) (h0:0≤n) (h1:n < big64) (hf:f.size≤maxLen) (time:Int):
 Calls Tryz.prog 64 #[.pointer (some ⟨p,0,none⟩),.agg #[.int .u64 n,.string f],.int .i64 time] w (ZhB w p m ss n f (fun s=>s.kept time) (.int .i64 (if(look ss n f).op then 0 else 50)) (if(look ss n f).op then 0 else 50)):=by
 cases ho:(look ss n f).op
 · refine(Zoq h h0 h1 hf time ho).mono ?_;rintro e w' ⟨rfl,hT⟩;exact⟨_,rfl,hT,.inl ⟨by simp,rfl⟩⟩
 obtain⟨s,l1,l2,hn,rfl,hs,_⟩:=ZdN (fun s=>s.op) (by simp[fresh]) ho;refine(ZmE h h0 h1 hf time hn hs).mono ?_;rintro e w' ⟨rfl,hT⟩;exact⟨_,rfl,hT,.inr ⟨rfl,.inl ⟨l1,s,l2,hn,rfl,rfl⟩⟩⟩
theorem Zne (h:Sep [BookP p m ss] w) (h0:0≤n) (h1:n < big64) (hf:f.size≤maxLen):
 Calls Tryz.prog 62 #[.pointer (some ⟨p,0,none⟩),.agg #[.int .u64 n,.string f]] w (ZhB w p m ss n f Ses.ended (.int .i64 (if(look ss n f).op then 0 else 50)) (if(look ss n f).op then 0 else 50)):=by
 cases ho:(look ss n f).op
 · refine(ZnH h h0 h1 hf ho).mono ?_;rintro e w' ⟨rfl,hT⟩;exact⟨_,rfl,hT,.inl ⟨by simp,rfl⟩⟩
 obtain⟨s,l1,l2,hn,rfl,hs,_⟩:=ZdN (fun s=>s.op) (by simp[fresh]) ho;refine(Zlk h h0 h1 hf hn hs).mono ?_;rintro e w' ⟨rfl,hT⟩;exact⟨_,rfl,hT,.inr ⟨rfl,.inl ⟨l1,s,l2,hn,rfl,rfl⟩⟩⟩
def expB (s:Ses) (time:Int):Int:=if s.op then(if time < s.dl then 54 else 0) else 50
theorem Zie (h:Sep [BookP p m ss] w) (h0:0≤n) (h1:n < big64) (hf:f.size≤maxLen) (time:Int):
 Calls Tryz.prog 37 #[.pointer (some ⟨p,0,none⟩),.agg #[.int .u64 n,.string f],.int .i64 time] w (ZhB w p m ss n f Ses.ended (.int .i64 (expB (look ss n f) time)) (expB (look ss n f) time)):=by
 cases ho:(look ss n f).op
 · refine(Zlg h h0 h1 hf time ho).mono ?_;rintro e w' ⟨rfl,hT⟩;have he:expB (look ss n f) time=50:=by simp[expB,ho]
   rw[he];exact⟨_,rfl,hT,.inl ⟨by simp,rfl⟩⟩
 by_cases ht:time < (look ss n f).dl
 · refine(Zhl h h0 h1 hf time ho ht).mono ?_;rintro e w' ⟨rfl,hT⟩;have he:expB (look ss n f) time=54:=by simp[expB,ho,ht]
   rw[he];exact⟨_,rfl,hT,.inl ⟨by simp,rfl⟩⟩
 have he:expB (look ss n f) time=0:=by simp[expB,ho,ht]
 rw[he];obtain⟨s,l1,l2,hn,rfl,hs,hk⟩:=ZdN (fun s=>s.op) (by simp[fresh]) ho;rw[hk] at ht;refine(ZjG h h0 h1 hf time hn hs (by omega)).mono ?_;rintro e w' ⟨rfl,hT⟩;exact⟨_,rfl,hT,.inr ⟨rfl,.inl ⟨l1,s,l2,hn,rfl,rfl⟩⟩⟩
def Ses.tell (s:Ses) (r:Int) (c:Ans):Ses:={s with told:=s.told++[(r,c)]}
def tellE (s:Ses) (r:Int):Int:=if(said s.told r).isSome then 1 else if 256≤s.told.length then 1 else 0
theorem Zly (h:Sep [BookP p m ss] w) (h0:0≤n) (h1:n < big64) (hf:f.size≤maxLen) {r:Int} (r0:0≤r) (r1:r < big64) (c:Ans):
 Calls Tryz.prog 42 #[.pointer (some ⟨p,0,none⟩),.agg #[.int .u64 n,.string f],.int .u64 r,.agg #[.int .i64 c.e,.int .u64 c.n,.bool c.g]] w (ZhB w p m ss n f (fun s=>s.tell r c) (.tuple #[]) (tellE (look ss n f) r)):=by
 cases hn:find ss n f with
 |none=>
  have hk:look ss n f=fresh n f 0 0:=by unfold look;rw[hn];rfl
  refine(Zgz h h0 h1 hf hn r0 r1 c).mono ?_;rintro e w' ⟨b,t,rfl,hT⟩;exact⟨_,rfl,hT,.inr ⟨by rw[hk];simp[tellE,fresh,said],.inr ⟨hn,b,t,rfl⟩⟩⟩
 |some s=>
  have hk:look ss n f=s:=by unfold look;rw[hn];rfl
  rw[hk]
  cases hs:said s.told r with
  |some a=>
   refine(Zl0 h h0 h1 hf hn r0 r1 hs c).mono ?_;rintro e w' ⟨rfl,hT⟩;exact⟨_,rfl,hT,.inl ⟨by simp[tellE,hs],rfl⟩⟩
  |none=>
   by_cases hl:s.told.length < 256
   · obtain⟨l1,l2,rfl,_,_,_⟩:=find_split hn;refine(Zl1 h h0 h1 hf hn r0 r1 hs hl c).mono ?_;rintro e w' ⟨rfl,hT⟩;exact⟨_,rfl,hT,.inr ⟨by simp[tellE,hs,Nat.not_le.2 hl],.inl ⟨l1,s,l2,hn,rfl,rfl⟩⟩⟩
   refine(Zj1 h h0 h1 hf hn r0 r1 hs hl c).mono ?_;rintro e w' ⟨rfl,hT⟩;exact⟨_,rfl,hT,.inl ⟨by simp[tellE,hs,Nat.le_of_not_lt hl],rfl⟩⟩
end
end Lease
end
section
section
open Go.RowKit
open Go.Maps (Keyed)
section
variable {P:Program} {k:TypeId} {w:World} {b:Nat} {es:List (Value × Value)}
theorem ZdB {α:Type} (a:Array α) (i:Nat) (h:i < a.size):(a.eraseIdxIfInBounds i).toList=a.toList.eraseIdx i:=by
 rw[Array.eraseIdxIfInBounds_eq];rw[dif_pos h,Array.toList_eraseIdx]
theorem Zli {α:Type} (l1 l2:List α) (x:α):(l1++x::l2).eraseIdx l1.length=l1++l2:=by
 rw[List.eraseIdx_append_of_length_le (Nat.le_refl _)];simp
theorem MapAt.erased {l1 l2:List (Value × Value)} {key u:Value} (h:MapAt P k w b (l1++(key,u)::l2)) {ents:Array MapEntry} {clock:Nat} (hb:w.heap[b]? =some (.map ents clock)):
 MapAt P k (ChangeMaps.setBlock w b (.map (ents.eraseIdxIfInBounds l1.length) clock)) b (l1++l2):=by
 obtain⟨ents',clock',hb',he,hbn,hdn,hkeys,hpw⟩:=h;rw[hb] at hb';cases hb'
 have hlt:l1.length < ents.size:=by
  have:=congrArg List.length he
  simp at this
  omega
 have hs:((l1++l2)).Sublist (l1++(key,u)::l2):=List.Sublist.append (List.Sublist.refl _) (List.sublist_cons_self _ _);have hes:(ents.toList.eraseIdx l1.length).Sublist ents.toList:=List.eraseIdx_sublist _ _;refine⟨_,clock,ChangeMaps.heap_setBlock_same hb _,?_,?_,?_,?_,?_⟩
 · rw[ZdB _ _ hlt,List.eraseIdx_eq_take_drop_succ,List.map_append,List.map_take,List.map_drop,he,←List.eraseIdx_eq_take_drop_succ,Zli]
 · intro e hm;rw[ZdB _ _ hlt] at hm;exact hbn e (hes.subset hm)
 · rw[ZdB _ _ hlt];exact hdn.sublist hes
 · exact fun p hp=>hkeys p (hs.subset hp)
 exact hpw.sublist hs
theorem MapAt.del_there {t e:TypeId} {l1 l2:List (Value × Value)} {key u:Value} (h:MapAt P k w b (l1++(key,u)::l2)) (K:Keyed P k) (ht:P.underlying t=some (.map k e)) {kl:Lit} (hk:keyOf P k key=some kl) (t2 ty:TypeId):
 ∃w',(Builtin.delete_ #[t,t2] ty #[.map (some b),key]).run P w=.ok (.tuple #[]) w'∧MapAt P k w' b (l1++l2)∧Exc (fun q=>q=b) w w'∧∃ents clock,w.heap[b]? =some (.map ents clock)∧w'.heap[b]? =some (.map (ents.eraseIdxIfInBounds l1.length) clock):=by
 have h0:=h;obtain⟨ents,clock,hb,_⟩:=h0;obtain⟨e0,h1,h2,h3,h4⟩:=h.find_at K hk w hb
 exact⟨ChangeMaps.setBlock w b (.map (ents.eraseIdxIfInBounds l1.length) clock),by simp[Builtin.delete_,run_underlying ht,MapKept.run_getObj_map hb,K.check w _ hk,h1,MapKept.run_setObj_map _ hb,Result.andThen,ChangeMaps.setBlock],h.erased hb,
  ⟨rfl,rfl,rfl,by simp[ChangeMaps.setBlock],fun i _ hi=>ChangeMaps.heap_setBlock_other hb _ (fun e=>hi e)⟩,ents,clock,hb,ChangeMaps.heap_setBlock_same hb _⟩
theorem MapAt.del_none {t e:TypeId} {key:Value} (h:MapAt P k w b es) (K:Keyed P k) (ht:P.underlying t=some (.map k e)) {kl:Lit} (hk:keyOf P k key=some kl) (hn:∀p ∈ es,p.1≠key) (t2 ty:TypeId):
 ∃w',(Builtin.delete_ #[t,t2] ty #[.map (some b),key]).run P w=.ok (.tuple #[]) w'∧MapAt P k w' b es∧Exc (fun q=>q=b) w w':=by
 have h0:=h;obtain⟨ents,clock,hb,hrest⟩:=h0;obtain⟨ents',clock',hb',hf⟩:=h.find K hk w;rw[hb] at hb';cases hb';rcases hf with⟨h1,_⟩|⟨j,v,h1,h2⟩
 · exact⟨ChangeMaps.setBlock w b (.map ents clock),by simp[Builtin.delete_,run_underlying ht,MapKept.run_getObj_map hb,K.check w _ hk,h1,MapKept.run_setObj_map _ hb,Result.andThen,ChangeMaps.setBlock],⟨ents,clock,ChangeMaps.heap_setBlock_same hb _,hrest⟩,
    ⟨rfl,rfl,rfl,by simp[ChangeMaps.setBlock],fun i _ hi=>ChangeMaps.heap_setBlock_other hb _ (fun e=>hi e)⟩⟩
 exact absurd rfl (hn _ h2)
def IterD (P:Program) (k:TypeId) (w:World) (r b:Nat) (es done:List (Value × Value)):Prop:=
 MapAt P k w b es∧r≠b∧∃(ents:Array MapEntry) (clock c0:Nat) (vs:List MapEntry),w.heap[b]? =some (.map ents clock)∧w.heap[r]? =some (.mapIter (some b) clock (vs.map (·.born)).toArray c0)∧clock≤c0∧
  vs.map (fun e=>(e.key,e.val))=done∧(vs≠[]→c0=clock)∧(∀x ∈ vs,∀y ∈ ents.toList,x.key=y.key→x=y)∧(∀x ∈ vs,∀y ∈ ents.toList,x.born=y.born→x=y)
theorem IterD.start {r:Nat} (h:ZaU P k w r b es []):IterD P k w r b es []:=by
 obtain⟨hm,hrb,ents,clock,c0,vs,hb,hr,hc,hd,hin,hpw,hc1⟩:=h;have:vs=[]:=by simpa using hd
 subst this;exact⟨hm,hrb,ents,clock,c0,[],hb,hr,hc,rfl,hc1,nofun,nofun⟩
theorem IterD.same {r:Nat} {done:List (Value × Value)} (h:IterD P k w r b es done) {w':World} (e1:w'.heap[b]? =w.heap[b]?) (e2:w'.heap[r]? =w.heap[r]?):IterD P k w' r b es done:=by
 obtain⟨hm,hrb,ents,clock,c0,vs,hb,hr,rest⟩:=h;exact⟨hm.same e1,hrb,ents,clock,c0,vs,e1.trans hb,e2.trans hr,rest⟩
theorem Zni {l:List (Value × Value)} (h:l.Pairwise (fun p q=>p.1≠q.1)) {i j:Nat} {p q:Value × Value} (hi:l[i]? =some p) (hj:l[j]? =some q) (hk:p.1=q.1):i=j:=by
 by_cases hij:i=j
 · exact hij
 exfalso
 obtain⟨hi1,hi2⟩:=List.getElem?_eq_some_iff.1 hi;obtain⟨hj1,hj2⟩:=List.getElem?_eq_some_iff.1 hj;have hp:=List.pairwise_iff_getElem.1 h;rcases Nat.lt_or_gt_of_ne hij with q|q
 · exact hp i j hi1 hj1 q (by rw[hi2,hj2];exact hk)
 exact hp j i hj1 hi1 q (by rw[hi2,hj2];exact hk.symm)
theorem IterD.next {r:Nat} {done:List (Value × Value)} (h:IterD P k w r b es done) (ty:TypeId):
 ((∀p ∈ es,p ∈ done)∧(Instr.next (.pointer (some ⟨r,0,none⟩)) false ty).run P w=.ok (.tuple #[.bool false]) w)∨
 ∃p w',p ∈ es∧(∀q ∈ done,q.1≠p.1)∧(Instr.next (.pointer (some ⟨r,0,none⟩)) false ty).run P w=.ok (.tuple #[.bool true,p.1,p.2]) w'∧IterD P k w' r b es (done++[p])∧Exc (fun q=>q=r) w w':=by
 obtain⟨hm,hrb,ents,clock,c0,vs,hb,hr,hc,hd,hc1,hkey,hbo⟩:=h;have hm0:=hm;obtain⟨ents',clock',hb',he,hbn,hdn,hkeys,hkp⟩:=hm0;rw[hb] at hb';cases hb'
 have hone:∀x ∈ ents.toList,∀y ∈ ents.toList,x.key=y.key→x=y:=by
  intro x hx y hy e;obtain⟨i,hi⟩:=List.mem_iff_getElem?.1 hx;obtain⟨j,hj⟩:=List.mem_iff_getElem?.1 hy;have g1:es[i]? =some (x.key,x.val):=by rw[←he,List.getElem?_map,hi];rfl
  have g2:es[j]? =some (y.key,y.val):=by rw[←he,List.getElem?_map,hj];rfl
  have:=Zni hkp g1 g2 e;subst this;rw[hi] at hj;exact Option.some.inj hj
 have hborn:∀x ∈ ents.toList,∀y ∈ ents.toList,x.born=y.born→x=y:=by
  intro x hx y hy e;obtain⟨i,hi⟩:=List.mem_iff_getElem?.1 hx;obtain⟨j,hj⟩:=List.mem_iff_getElem?.1 hy;by_cases hij:i=j
  · subst hij;rw[hi] at hj;exact Option.some.inj hj
  exfalso
  obtain⟨hi1,hi2⟩:=List.getElem?_eq_some_iff.1 hi;obtain⟨hj1,hj2⟩:=List.getElem?_eq_some_iff.1 hj;have hp:=List.pairwise_iff_getElem.1 hdn;rcases Nat.lt_or_gt_of_ne hij with q|q
  · exact hp i j hi1 hj1 q (by rw[hi2,hj2,e])
  exact hp j i hj1 hi1 q (by rw[hi2,hj2,e])
 rcases run_next_at (P:=P) w ty r b clock c0 (vs.map (·.born)).toArray ents clock hr hb hbn hc with⟨h0,hrun⟩|⟨e,he1,w1,hw1,hrun⟩
 · refine .inl ⟨?_,hrun⟩;intro p hp;rw[←he] at hp;obtain⟨x,hx,rfl⟩:=List.mem_map.1 hp;have h1:leftOf ents (vs.map (·.born)).toArray= #[]:=Array.eq_empty_of_size_eq_zero h0;unfold leftOf at h1;rw[Array.filter_eq_empty_iff] at h1;have h2:=h1 x (by simpa using hx);simp at h2
   obtain⟨y,hy,hyb⟩:=h2;have:=hbo y hy x hx hyb;subst this;rw[←hd];exact List.mem_map.2 ⟨y,hy,rfl⟩
 have he2:e ∈ ents.toList∧∀y ∈ vs,y.born≠e.born:=by
  unfold leftOf at he1;simp at he1
  exact⟨by simpa using he1.1,fun y hy hb=>he1.2 y hy hb⟩
 have hh1:w1.heap=w.heap:=by rcases hw1 with rfl|rfl<;>rfl
 refine .inr ⟨(e.key,e.val),ChangeMaps.setBlock w1 r (.mapIter (some b) clock ((vs.map (·.born)).toArray.push e.born) clock),ZiX he he2.1,?_,hrun,?_,?_⟩
 · intro q hq;rw[←hd] at hq;obtain⟨y,hy,rfl⟩:=List.mem_map.1 hq;intro hk;have:=hkey y hy e he2.1 hk;subst this;exact he2.2 y hy rfl
 · have hr1:w1.heap[r]? =some (.mapIter (some b) clock (vs.map (·.born)).toArray c0):=by rw[hh1];exact hr
   have k1:∀(o:Obj) (i:Nat),i≠r→(ChangeMaps.setBlock w1 r o).heap[i]? =w.heap[i]? :=fun o i hi=>by
    rw[←hh1];simp[ChangeMaps.setBlock,Ne.symm hi]
   have k2:∀(o:Obj),(ChangeMaps.setBlock w1 r o).heap[r]? =some o:=fun o=>by
    have hlt:=Za0 hr1;simp[ChangeMaps.setBlock,hlt]
   refine⟨hm.same (k1 _ b (Ne.symm hrb)),hrb,ents,clock,clock,vs++[e],by rw[k1 _ b (Ne.symm hrb)];exact hb,by rw[k2];simp,Nat.le_refl _,by simp[hd],fun _=>rfl,?_,?_⟩
   · intro x hx y hy hk;rcases List.mem_append.1 hx with hx|hx
     · exact hkey x hx y hy hk
     rw[List.mem_singleton.1 hx] at hk ⊢;exact hone e he2.1 y hy hk
   intro x hx y hy hk;rcases List.mem_append.1 hx with hx|hx
   · exact hbo x hx y hy hk
   rw[List.mem_singleton.1 hx] at hk ⊢;exact hborn e he2.1 y hy hk
 have g:∀(o:Obj),Exc (fun q=>q=r) w (ChangeMaps.setBlock w1 r o):=fun o=>by
  rcases hw1 with rfl|rfl
  · exact⟨rfl,rfl,rfl,by simp[ChangeMaps.setBlock],fun i _ hi=>by simp[ChangeMaps.setBlock,Ne.symm hi]⟩
  exact⟨rfl,rfl,rfl,by simp[ChangeMaps.setBlock],fun i _ hi=>by simp[ChangeMaps.setBlock,Ne.symm hi];rfl⟩
 exact g _
theorem IterD.entry {r:Nat} {done:List (Value × Value)} {p:Value × Value} (h:IterD P k w r b es (done++[p])) (hp:p ∈ es):(Instr.entry (.pointer (some ⟨r,0,none⟩))).run P w=.ok (.tuple #[p.1,p.2]) w:=by
 obtain⟨hm,hrb,ents,clock,c0,vs,hb,hr,hc,hd,hc1,hkey,hbo⟩:=h;obtain⟨ents',clock',hb',he,hbn,hdn,hkeys,hkp⟩:=hm;rw[hb] at hb';cases hb';rcases List.eq_nil_or_concat vs with rfl|⟨vs',e,rfl⟩
 · simp at hd
 have h1:c0=clock:=hc1 (by simp);subst h1;simp at hd
 obtain⟨hd1,hd2⟩:=hd;subst hd2;rw[←he] at hp;obtain⟨y,hy,hye⟩:=List.mem_map.1 hp;have hk0:e.key=y.key:=(congrArg Prod.fst hye).symm;have:=hkey e (by simp) y hy hk0;subst this;exact run_entry_at (P:=P) w r b c0 (vs'.map (·.born)).toArray ents c0 e (by rw[hr];simp) hb hy (List.pairwise_map.2 hdn)
theorem IterD.del {t e:TypeId} {r:Nat} {done l1 l2:List (Value × Value)} {key u:Value} (h:IterD P k w r b (l1++(key,u)::l2) done) (K:Keyed P k) (ht:P.underlying t=some (.map k e)) {kl:Lit} (hk:keyOf P k key=some kl) (t2 ty:TypeId):
 ∃w',(Builtin.delete_ #[t,t2] ty #[.map (some b),key]).run P w=.ok (.tuple #[]) w'∧IterD P k w' r b (l1++l2) done∧Exc (fun q=>q=b) w w':=by
 obtain⟨hm,hrb,ents,clock,c0,vs,hb,hr,hc,hd,hc1,hkey,hbo⟩:=h;obtain⟨w',h1,h2,h3,ents',clock',h4,h5⟩:=hm.del_there K ht hk t2 ty;rw[hb] at h4;cases h4
 have hsub:∀y ∈ (ents.eraseIdxIfInBounds l1.length).toList,y ∈ ents.toList:=by
  intro y hy;by_cases hlt:l1.length < ents.size
  · rw[ZdB _ _ hlt] at hy;exact(List.eraseIdx_sublist _ _).subset hy
  rw[Array.eraseIdxIfInBounds_eq,dif_neg hlt] at hy;exact hy
 exact⟨w',h1,⟨h2,hrb,_,clock,c0,vs,h5,(h3.block r (Za0 hr) hrb).trans hr,hc,hd,hc1,fun x hx y hy=>hkey x hx y (hsub y hy),fun x hx y hy=>hbo x hx y (hsub y hy)⟩,h3⟩
theorem IterD.keys {r:Nat} {done:List (Value × Value)} (h:IterD P k w r b es done):es.Pairwise (fun p q=>p.1≠q.1):=h.1.keys
def Part.iterD (P:Program) (k:TypeId) (r b:Nat) (es done:List (Value × Value)):Part where
 holds w:=IterD P k w r b es done
 foot q:=q=b∨q=r
 lt:=fun _ h q e=>by
  rcases e with e|e
  · subst e;exact h.1.lt
  subst e;obtain⟨_,_,_,_,_,_,_,hr,_⟩:=h;exact Za0 hr
 stay:=fun _ _ h e=>h.same (e b (.inl rfl)) (e r (.inr rfl))
end
section
variable {P:Program} {ops:Array Oper} {rest:List Oper} {o:Oper} {a:Act} {Q:Exit→Act→World→Prop} {L0 L F:List Part} {w0 w:World} {k:TypeId} {b:Nat} {es:List (Value × Value)}
theorem ZbB {t t2:TypeId} {m x:Operand} (hg:o.guard=none) (hop:o.op=.call {callee:=.builtin .delete,args:= #[m,x],argTypes:= #[t,t2]}) (hm:a.eval m=.map (some b)) {key u:Value} {l1 l2:List (Value × Value)} (hx:a.eval x=key)
 (h:At L0 w0 L w) (s:Sel (Part.map P k b (l1++(key,u)::l2)) L F) {e:TypeId} (K:Keyed P k) (ht:P.underlying t=some (.map k e)) {kl:Lit} (hk:keyOf P k key=some kl)
 (hK:∀w',At L0 w0 (Part.map P k b (l1++l2)::F) w'→wpList P ops Q rest (a.put o.dst (.tuple #[])) w'):wpList P ops Q (o::rest) a w:=by
 have hM:MapAt P k w b (l1++(key,u)::l2):=h.get s;obtain⟨w',h1,h2,h3,_⟩:=hM.del_there K ht hk t2 o.type;refine Zah hg ?_ (hK w' (h.turn s _ h2 (fun _ e=>.inl e) h3));simp[execOp,hop,resolve,invoke,builtin,hm,hx,h1,Result.andThen]
theorem Zc5 {t t2:TypeId} {m x:Operand} (hg:o.guard=none) (hop:o.op=.call {callee:=.builtin .delete,args:= #[m,x],argTypes:= #[t,t2]}) (hm:a.eval m=.map (some b)) {key:Value} (hx:a.eval x=key)
 (h:At L0 w0 L w) (s:Sel (Part.map P k b es) L F) {e:TypeId} (K:Keyed P k) (ht:P.underlying t=some (.map k e)) {kl:Lit} (hk:keyOf P k key=some kl) (hn:∀p ∈ es,p.1≠key)
 (hK:∀w',At L0 w0 (Part.map P k b es::F) w'→wpList P ops Q rest (a.put o.dst (.tuple #[])) w'):wpList P ops Q (o::rest) a w:=by
 have hM:MapAt P k w b es:=h.get s;obtain⟨w',h1,h2,h3⟩:=hM.del_none K ht hk hn t2 o.type;refine Zah hg ?_ (hK w' (h.turn s _ h2 (fun _ e=>.inl e) h3));simp[execOp,hop,resolve,invoke,builtin,hm,hx,h1,Result.andThen]
theorem Zc6 {t t2:TypeId} {m x:Operand} {r:Nat} {done:List (Value × Value)} (hg:o.guard=none) (hop:o.op=.call {callee:=.builtin .delete,args:= #[m,x],argTypes:= #[t,t2]}) (hm:a.eval m=.map (some b)) {key u:Value} {l1 l2:List (Value × Value)} (hx:a.eval x=key)
 (h:At L0 w0 L w) (s:Sel (Part.iterD P k r b (l1++(key,u)::l2) done) L F) {e:TypeId} (K:Keyed P k) (ht:P.underlying t=some (.map k e)) {kl:Lit} (hk:keyOf P k key=some kl)
 (hK:∀w',At L0 w0 (Part.iterD P k r b (l1++l2) done::F) w'→wpList P ops Q rest (a.put o.dst (.tuple #[])) w'):wpList P ops Q (o::rest) a w:=by
 have hI:IterD P k w r b (l1++(key,u)::l2) done:=h.get s;obtain⟨w',h1,h2,h3⟩:=hI.del K ht hk t2 o.type;refine Zah hg ?_ (hK w' (h.turn s (Part.iterD P k r b (l1++l2) done) h2 (fun _ e=>.inl e) (h3.mono (fun _ _ e=>.inl e))));simp[execOp,hop,resolve,invoke,builtin,hm,hx,h1,Result.andThen]
theorem Zed {r:Nat} {done:List (Value × Value)} {it:Operand} (hg:o.guard=none) (hop:o.op=.next it false) (hi:a.eval it=.pointer (some ⟨r,0,none⟩)) (h:At L0 w0 L w) (s:Sel (Part.iterD P k r b es done) L F)
 (hEnd:(∀p ∈ es,p ∈ done)→wpList P ops Q rest (a.put o.dst (.tuple #[.bool false])) w)
 (hK:∀p w',p ∈ es→(∀q ∈ done,q.1≠p.1)→At L0 w0 (Part.iterD P k r b es (done++[p])::F) w'→wpList P ops Q rest (a.put o.dst (.tuple #[.bool true,p.1,p.2])) w'):wpList P ops Q (o::rest) a w:=by
 have hI:IterD P k w r b es done:=h.get s;rcases hI.next o.type with⟨h1,h2⟩|⟨p,w',h1,h2,h3,h4,h5⟩
 · refine Zah hg ?_ (hEnd h1);simp[execOp,hop,hi,h2,Result.andThen]
 refine Zah hg ?_ (hK p w' h1 h2 (h.turn s (Part.iterD P k r b es (done++[p])) h4 (fun q e=>.inl e) (h5.mono (fun _ _ e=>.inr e))));simp[execOp,hop,hi,h3,Result.andThen]
theorem At.rangedD {r:Nat} {done:List (Value × Value)} (h:At L0 w0 L w) (s:Sel (Part.iterD P k r b es done) L F):At L0 w0 (Part.map P k b es::F) w:=by
 have hI:IterD P k w r b es done:=h.get s;exact h.turn s (Part.map P k b es) hI.1 (fun _ e=>.inl (.inl e)) (Exc.refl _ _)
theorem At.rangeD {r:Nat} (h:At L0 w0 L w) (s:Sel (Part.iter P k r b es []) L F):At L0 w0 (Part.iterD P k r b es []::F) w:=by
 have hI:ZaU P k w r b es []:=h.get s;exact h.turn s (Part.iterD P k r b es []) (IterD.start hI) (fun _ e=>.inl e) (Exc.refl _ _)
end
end
end
section
namespace Mark
open Go.RowKit Go.Shelf
open Go.Maps (Keyed)
attribute [local go_sem] Oper.semAt_some
def idV (p:Int × Int):Value:=.agg #[.int .i64 p.1,.int .i64 p.2]
def idL (p:Int × Int):List Value:=[.int .i64 p.1,.int .i64 p.2]
def unV:Value→Int × Int
 |.agg #[.int _ a,.int _ b]=>(a,b)
 |_=>(0,0)
theorem ZjX (p:Int × Int):unV (idV p)=p:=rfl
theorem idV_inj {p q:Int × Int} (h:idV p=idV q):p=q:=by rw[←ZjX p,h,ZjX]
end Mark
end
section
section
def resW {α:Type}:Result α→World
 |.ok _ w=>w
 |.halt _ w=>w
theorem Ze4 {α:Type}:∀(x:Ask α) (w:World),w.drawn≤(w.ask x).2.drawn
 |.done a,w=>Nat.le_refl _
 |.ask what range k,w=>by
  unfold World.ask;simp only[];split
  · exact Ze4 _ _
  exact Nat.le_trans (Nat.le_succ _) (Ze4 _ {w with drawn:=w.drawn + 1})
theorem ZgA (w:World) (c:Sys):w.drawn≤(w.sys c).2.drawn:=by
 unfold World.sys;have h:=Ze4 (Kernel.perform c w.os) w;split
 · exact Nat.le_refl _
 rename_i he;rw[he] at h;exact h
theorem Zeo {p:Program} {w:World} {at_:Addr} {u:TypeId} {k:Addr} {v:Value} {atomic:Bool} {r:World × List Addr} (h:w.viewStore p at_ u k v atomic=.ok r):r.1.drawn=w.drawn:=by
 unfold World.viewStore at h;simp only[bind,Except.bind,pure,Except.pure,throw,throwThe,MonadExceptOf.throw] at h
 repeat' first
  |(cases h;done)
  |(cases h;rfl)
  |(simp at h;done)
  |split at h
theorem Zfd {p:Program} {w:World} {a:Addr} {v:Value} {atomic:Bool} {r:World × List Addr} (h:w.farStore p a v atomic=.ok r):r.1.drawn=w.drawn:=by
 unfold World.farStore at h;split at h
 · split at h
   · rename_i hv;cases h;exact Zeo hv
   exact nomatch h
 exact nomatch h
theorem ZgL {α:Type} (p:Program) (x:Sem α):∀w:World,w.drawn≤(resW (x.run p w)).drawn:=by
 induction x with
 |pure a=>exact fun w=>Nat.le_refl _
 |load m a k ih=>
  intro w;simp only[Sem.run];split
  · exact ih _ _
  split
  · exact ih _ _
  exact Nat.le_refl _
 |store m a v k ih=>
  intro w;cases v
  all_goals
   simp only[Sem.run];try exact Nat.le_refl _
  all_goals
   split
   · split
     · exact Nat.le_refl _
     exact ih (w.setCell a _)
   split
   · rename_i hf;exact Nat.le_trans (Nat.le_of_eq (Zfd hf).symm) (ih _)
   exact Nat.le_refl _
 |new o k ih=>intro w;exact ih _ {w with heap:=w.heap.push o}
 |shape r k ih=>intro w;exact ih _ _
 |freeze a n k ih=>
  intro w;refine Nat.le_trans (Nat.le_of_eq ?_) (ih (w.freeze a n));unfold World.freeze;split<;>rfl
 |frozen a k ih=>intro w;exact ih _ _
 |getObj r k ih=>
  intro w;simp only[Sem.run];split
  · exact Nat.le_refl _
  · exact ih _ _
  exact Nat.le_refl _
 |setObj r o k ih=>
  intro w;simp only[Sem.run];split
  · exact Nat.le_refl _
  · exact ih {w with heap:=w.heap.setIfInBounds r o}
  exact Nat.le_refl _
 |choose q k ih=>
  intro w;simp only[Sem.run];split
  · exact ih _ _
  exact Nat.le_trans (Nat.le_succ _) (ih _ {w with drawn:=w.drawn + 1})
 |sys c k ih=>intro w;exact Nat.le_trans (ZgA w c) (ih _ _)
 |program k ih=>intro w;exact ih _ _
 |mark m k ih=>intro w;exact ih _
 |halt h=>exact fun w=>Nat.le_refl _
theorem ZaK {α:Type} {p:Program} {x:Sem α} {w w':World} {a:α} (h:x.run p w=.ok a w'):w.drawn≤w'.drawn:=by
 have:=ZgL p x w;rw[h] at this;exact this
theorem Zaw {α:Type} {p:Program} {x:Sem α} {w w':World} {a:Halt} (h:x.run p w=.halt a w'):w.drawn≤w'.drawn:=by
 have:=ZgL p x w;rw[h] at this;exact this
theorem Zn2 {α:Type} {p:Program} {x:Sem α} {w w':World} {a:α} {es es':Array Event} (h:x.runT p w es=(.ok a w',es')):w.drawn≤w'.drawn:=
 ZaK (p:=p) (x:=x) (by rw[←Sem.runT_fst p x w es,h])
theorem ZeE {α:Type} {p:Program} {x:Sem α} {w w':World} {a:Halt} {es es':Array Event} (h:x.runT p w es=(.halt a w',es')):w.drawn≤w'.drawn:=
 Zaw (p:=p) (x:=x) (by rw[←Sem.runT_fst p x w es,h])
def gw:GStep→World
 |.go _ w _=>w
 |.comm _ _ _ _ w _=>w
 |.spawn _ _ w _=>w
 |.count _ w _=>w
 |.timer _ _ w _=>w
 |.alone _ _ w _=>w
 |.newcoro _ _ _ w _=>w
 |.coroswitch _ _ _ w _=>w
 |.collect _ w _=>w
 |.watch _ w _=>w
 |.ended _ w _=>w
theorem Zbp (es:Array Event) (s:GStep):gw (GStep.after es s)=gw s:=by cases s<;>rfl
theorem ZeP {c:Prop} [Decidable c] {a b:GStep} {n:Nat} (h1:n≤(gw a).drawn) (h2:n≤(gw b).drawn):n≤(gw (if c then a else b)).drawn:=by split<;>assumption
theorem Zgl (w:World) (fd:Nat) (text:ByteArray) (o:Outcome):w.drawn≤(gw (endWith w fd text o)).drawn:=by
 unfold endWith;have h:=ZgA w (.write fd text);simp only[];split
 · rename_i he;rw[he] at h;split<;>exact h
 · rename_i he;rw[he] at h;exact h
 rename_i he;rw[he] at h;exact h
theorem Zh3 (fr:Frame) (a:List ByteArray) (m:String) (wh:Bool) (w:World):gw (dieOf fr a m wh w)=w:=rfl
theorem Zbb (fr:Frame) (m:String) (w:World):gw (endThrow fr m w)=w:=rfl
theorem ZbX (p:Program) (fr:Frame) (v:Value) (w:World):gw (endPrinting p fr v w)=w:=by
 unfold endPrinting;simp only[];split
 · exact Zbb _ _ _
 rfl
theorem ZcQ (p:Program) (fr:Frame) (cs:List Frame) (d:Option Dying) (m:String) (w:World):w.drawn≤(gw (endFatal p fr cs d m w)).drawn:=by
 unfold endFatal;simp only[];split
 · rename_i h;rw[Zh3];exact ZaK h
 · rename_i h;exact Zaw h
 rename_i h;exact Zaw h
theorem ZfS (p:Program) (fr:Frame) (d:Dying) (f:Fatal) (w:World):w.drawn≤(gw (writeOn p fr d f w)).drawn:=by
 unfold writeOn;simp only[];split
 · exact Nat.le_refl _
 split
 · rename_i h;exact Zn2 h
 · rename_i h;exact ZeE h
 · rename_i h;exact ZeE h
 rename_i h;exact ZeE h
theorem Zln (p:Program) (fr:Frame) (d:Dying) (w:World):w.drawn≤(gw (die p fr d w)).drawn:=by
 unfold die;split
 · exact ZfS _ _ _ _ _
 split
 · split
   · exact Nat.le_refl _
   exact Zgl _ _ _ _
 simp only[];split
 · exact Nat.le_refl _
 · split
   · rename_i h;exact ZaK h
   rename_i h;exact Zaw h
 · rw[Zbp];simp only[Sem.runT_fst];split
   all_goals first
    |exact Nat.le_refl _
    |(rename_i h;exact ZaK h)
    |(rename_i h;exact Zaw h)
    |(rename_i h;rw[ZbX];exact Zaw h)
 exact Nat.le_refl _
theorem Zbc (p:Program) (main:Bool) (fr:Frame) (cs:List Frame) (d:Option Dying) (v:Value) (w:World):gw (doReturn p main fr cs d v w)=w:=by
 unfold doReturn
 repeat' first
  |rfl
  |split
  |simp only[]
theorem ZdF (p:Program) (fr:Frame) (cs:List Frame) (dy:Option Dying) (d:Deferred) (w:World):w.drawn≤(gw (callDeferred p fr cs dy d w)).drawn:=by
 unfold callDeferred;refine ZeP (Nat.le_refl _) ?_;simp only[];rw[Zbp];simp only[Sem.runT_fst];split
 all_goals first
  |(rename_i h;exact ZaK h)
  |(rename_i h;exact Zaw h)
  |(rename_i h;exact Nat.le_trans (Zaw h) (ZcQ _ _ _ _ _ _))
  |(rename_i h;rw[Zbb];exact Zaw h)
  |(rename_i h;split<;>exact ZaK h)
theorem Zgu (p:Program) (main:Bool) (fr:Frame) (cs:List Frame) (dy:Option Dying) (w:World):w.drawn≤(gw (unwind p main fr cs dy w)).drawn:=by
 unfold unwind;split
 · simp only[];rw[Zbp];simp only[Sem.runT_fst];split
   · rename_i h;exact ZaK h
   rename_i h;exact Zaw h
 · exact ZdF _ _ _ _ _ _
 split
 · exact Nat.le_refl _
 · split
   · exact Nat.le_refl _
   split
   · exact Nat.le_refl _
   split
   · split
     · exact Nat.le_refl _
     split;all_goals(rename_i h;first|exact ZaK h|exact Zaw h)
   split
   · rw[ZbX];exact Nat.le_refl _
   exact Nat.le_refl _
 split
 · rw[Zbc];exact Nat.le_refl _
 simp only[];rw[Zbp];simp only[Sem.runT_fst];split
 · rename_i h;rw[Zbc];exact ZaK h
 · rename_i h;exact Zaw h
 rename_i h;exact Zaw h
theorem Zh2 (p:Program) (fr:Frame) (cs:List Frame) (dy:Option Dying) (g:Nat) (w:World):w.drawn≤(gw (early p fr cs dy g w)).drawn:=by
 have key:∀w1:World,w.drawn≤w1.drawn→w.drawn≤(gw (match w1.heap[g]? with
  |some (.pending c elem)=>GStep.go {frame:=fr,callers:=cs,status:=.running,dying:=dy} {w1 with heap:=w1.heap.setIfInBounds g (.cells c elem)}
  |_=>.ended (.stuck "early: the variable does not wait" (fr.pos p)) w1)).drawn:=by
  intro w1 h;split<;>exact h
 unfold early;simp only[];split
 · exact key w (Nat.le_refl _)
 split
 · exact Nat.le_refl _
 split
 · exact key w (Nat.le_refl _)
 split
 · exact key w (Nat.le_refl _)
 split
 · exact Nat.le_refl _
 · exact Nat.le_refl _
 · exact Nat.le_refl _
 · exact key w (Nat.le_refl _)
 split
 · exact Nat.le_refl _
 split
 · exact key w (Nat.le_refl _)
 split
 · rename_i h;exact key _ (ZaK h)
 · rename_i h;exact ZaK h
 rename_i h;exact Zaw h
theorem ZbG (p:Program) (listen:Bool) (fr:Frame) (cs:List Frame) (dy:Option Dying) (x:Sem Next) (w:World):w.drawn≤(gw (stepG.apply p listen fr cs dy x w)).drawn:=by
 unfold stepG.apply;simp only[];rw[Zbp]
 have hr:∀r es,(if listen=true then x.runT p w #[] else(x.run p w,#[]))=(r,es)→x.run p w=r:=by
  intro r es h;split at h
  · rw[←Sem.runT_fst p x w #[],h]
  exact congrArg Prod.fst h
 generalize hq:(if listen=true then x.runT p w #[] else(x.run p w,#[]))=q at *
 obtain⟨r,es⟩:=q;have h0:=hr r es rfl;clear hr hq;simp only[];split
 all_goals first
  |(subst_vars;exact ZaK ‹_›)
  |(exact ZaK h0)
  |(exact Zaw h0)
  |(exact Nat.le_trans (Zaw h0) (ZcQ _ _ _ _ _ _))
  |(exact Nat.le_trans (Zaw h0) (Zh2 _ _ _ _ _ _))
  |(rw[Zbb];exact Zaw h0)
  |(refine ZeP ?_ (ZaK h0);rw[Zbb];exact ZaK h0)
  |(split<;>first|exact ZaK h0|(rw[Zbb];exact ZaK h0))
theorem Zjq (p:Program) (listen:Bool) (fr:Frame) (cs:List Frame) (dy:Option Dying) (w:World):w.drawn≤(gw (stepG.oper p listen fr cs dy w)).drawn:=by
 unfold stepG.oper;split
 · exact Nat.le_refl _
 split
 · exact ZbG _ _ _ _ _ _ _
 exact ZbG _ _ _ _ _ _ _
theorem ZjH (p:Program) (main listen:Bool) (fr:Frame) (cs:List Frame) (dy:Option Dying) (w:World):w.drawn≤(gw (stepG.exec p main listen fr cs dy w)).drawn:=by
 unfold stepG.exec;simp only[];split
 all_goals first
  |exact Nat.le_refl _
  |exact ZbG _ _ _ _ _ _ _
  |(split;exact ZeP (Nat.le_refl _) (Nat.le_refl _);(rw[Zbp];simp only[Sem.runT_fst];split;(rename_i h;rw[Zbc];exact ZaK h);(rename_i h;exact Zaw h)))
  |(split<;>exact Nat.le_refl _)
  |(generalize exitTo _ _=o;cases o;(simp only[Option.elim_none];(split;exact ZeP (Nat.le_refl _) (Nat.le_refl _);(rw[Zbp];simp only[Sem.runT_fst];split;(rename_i h;rw[Zbc];exact ZaK h);(rename_i h;exact Zaw h))));exact Nat.le_refl _)
  |(generalize gotoIn _ _=o;cases o;(simp only[Option.elim_none];(split;exact ZeP (Nat.le_refl _) (Nat.le_refl _);(rw[Zbp];simp only[Sem.runT_fst];split;(rename_i h;rw[Zbc];exact ZaK h);(rename_i h;exact Zaw h))));exact Nat.le_refl _)
  |(generalize Extern.next _=o;cases o;exact Nat.le_refl _;exact ZbG _ _ _ _ _ _ _)
  |(refine ZeP (Zjq _ _ _ _ _ _) (Nat.le_refl _))
  |(refine ZeP (Nat.le_refl _) ?_;split;(rename_i h;exact ZaK h);(rename_i h;exact Zaw h))
  |(rw[Zbp];simp only[Sem.runT_fst];split;(rename_i h;exact Nat.le_trans (ZaK h) (ZbG _ _ _ _ _ _ _));(rename_i h;exact Zaw h))
  |(rw[Zbp];simp only[Sem.runT_fst];split;(rename_i h;exact ZaK h);(rename_i h;exact Zaw h);(rename_i h;exact Zaw h))
theorem ZhJ (p:Program) (main:Bool) (g:Goroutine) (w:World) (listen:Bool):w.drawn≤(gw (stepG p main g w listen)).drawn:=by
 unfold stepG;simp only[];split
 · exact Zln _ _ _ _
 · exact ZjH _ _ _ _ _ _ _
 exact Zgu _ _ _ _ _ _
theorem ZdT (p:Program) (rest:Rest) (gs:Array Goroutine) (i:Nat) (g:Goroutine) (cases:Array CommCase) (blocking:Bool)
 (shape:CommShape) (w:World) (m':Machine) (h:(communicate p rest gs i g cases blocking shape w).1=.next m'):w.drawn≤m'.world.drawn:=by
 have wa:∀w1,waitingAt rest cases w=some w1→w1.drawn=w.drawn:=by
  intro w1 hw;unfold waitingAt at hw;split at hw
  · split at hw
    · cases hw;rfl
    cases hw
  cases hw;rfl
 unfold communicate at h;simp only[] at h;split at h
 · simp at h
 split at h
 · split at h
   · split at h
     · simp only[Stepped.next.injEq] at h;subst h;exact Nat.le_of_eq (wa _ ‹_›).symm
     simp at h
   simp only[Stepped.next.injEq] at h;subst h;exact Nat.le_refl _
 generalize hq:Sem.run p _ w=q at h
 cases q with
 |halt a w1=>simp at h
 |ok a w1=>
  obtain⟨k,c,way⟩:=a;have h1:=ZaK hq;clear hq;simp only[] at h
  repeat' first
   |(simp at h;done)
   |(simp only[Stepped.next.injEq] at h;subst h;exact h1)
   |(simp only[Stepped.next.injEq] at h;subst h;exact Nat.le_trans h1 (ZaK ‹_›))
   |(simp only[Stepped.next.injEq] at h;subst h;exact Nat.le_trans h1 (Zaw ‹_›))
   |(generalize hq:Sem.run p (choose _) _=q at h;cases q;(have h2:=Nat.le_trans h1 (ZaK hq);clear hq;simp only[Stepped.next.injEq] at h;subst h;exact h2);(simp at h;done))
   |split at h
theorem Zfq (p:Program) (gs:Array Goroutine) (rest:Rest) (w:World) (m':Machine) (h:look p gs rest w=.next m'):w.drawn≤m'.world.drawn:=by
 unfold look at h;simp only[] at h;split at h
 · split at h
   · simp at h
   split at h
   · simp at h
   generalize hq:Sem.run p _ w=q at h
   cases q with
   |halt a w1=>
    clear hq;cases a<;>simp at h
   |ok a w1=>
    obtain⟨f,c⟩:=a;have h1:=ZaK hq;clear hq;simp only[Stepped.next.injEq] at h;subst h;exact h1
 simp at h
theorem Zf2 (m m':Machine) (op:TimerOp) (v:Value) (h:timerOp m op=.ok (v,m')):m'.world.drawn=m.world.drawn:=by
 have op_:∀var m1,timerOp.opened m var=some m1→m1.world.drawn=m.world.drawn:=by
  intro var m1 ho;unfold timerOp.opened at ho;split at ho
  · split at ho
    · cases ho;rfl
    cases ho
  cases ho;rfl
 have rt:∀(m1:Machine) k t a b,(retime m1 k t a b).2.world.drawn=m1.world.drawn:=by
  intro m1 k t a b;unfold retime;simp only[];split
  · unfold drain;split<;>rfl
  rfl
 have nm:∀(m1:Machine) var f (r:Value × Machine),(∀k t,(f k t).2.world.drawn=m1.world.drawn)→timerOp.named m1 var f=.ok r→r.2.world.drawn=m1.world.drawn:=by
  intro m1 var f r hf hr;unfold timerOp.named at hr;split at hr
  · cases hr;exact hf _ _
  cases hr
 unfold timerOp at h
 repeat' first
  |(simp at h;done)
  |(simp only[Except.ok.injEq,Prod.mk.injEq] at h;obtain⟨_,rfl⟩:=h;rfl)
  |(exact nm _ _ _ (v,m') (fun _ _=>rt _ _ _ _ _) h)
  |(rename_i ho;exact nm _ _ _ (v,m') (fun _ _=>(rt _ _ _ _ _).trans (op_ _ _ ho)) h)
  |split at h
theorem Zjd (p:Program) (m m':Machine) (i:Nat) (b:Bool) (h:(runT p m i b).1=.next m'):m.world.drawn≤m'.world.drawn:=by
 simp only[runT] at h;have hs:=ZhJ p (i==0) (m.gs.swapAt! i {(default:Goroutine) with status:=.finished}).1 m.world b;revert hs h
 generalize m.gs.swapAt! _ _=gg;generalize stepG p _ gg.1 m.world b=s;intro h hs;cases s<;>simp only[gw] at h hs
 all_goals first
  |(simp at h;done)
  |(exact Nat.le_trans hs (ZdT _ _ _ _ _ _ _ _ _ _ h))
  |(exact Nat.le_trans hs (Zfq _ _ _ _ _ h))
  |(simp only[Stepped.next.injEq] at h;subst h;exact hs)
  |(repeat' first
     |(simp at h;done)
     |(simp only[Stepped.next.injEq] at h;subst h;exact hs)
     |(simp only[Stepped.next.injEq] at h;subst h;exact Nat.le_trans hs (Nat.le_of_eq (Zf2 _ _ _ _ ‹_›).symm))
     |(rename_i he;unfold endThrow dieOf at he;simp only[GStep.go.injEq] at he;obtain⟨_,rfl,_⟩:=he;simp only[Stepped.next.injEq] at h;subst h;exact hs)
     |split at h)
theorem ZhM (p:Program) (m m':Machine) (k:Nat) (h:serve p m k=.next m'):m'.world.drawn=m.world.drawn:=by
 unfold serve at h;simp only[] at h
 repeat' first
  |(simp at h;done)
  |(simp only[Stepped.next.injEq] at h;subst h;rfl)
  |split at h
def mvW:Move→Option World
 |.goroutine m _=>some m.world
 |.machine (.next m) _=>some m.world
 |.machine (.ended _ _) _=>none
theorem Zca (p:Program) (m:Machine) (w':World) (h:mvW (askOn p m)=some w'):m.world.drawn≤w'.drawn:=by
 unfold askOn at h;simp only[] at h;generalize hq:Sem.run p _ m.world=q at h
 cases q with
 |halt a w1=>simp[mvW] at h
 |ok k w1=>
  have h1:m.world.drawn≤w1.drawn:=ZaK hq;clear hq
  have pick:∀(m1:Machine) (rs:List Nat) (w2:World),m.world.drawn≤m1.world.drawn→mvW (match(choose (.sched rs.length)).run p m1.world with
   |.halt _ w=>Move.machine (.ended (.stuck "sched" "") w)
   |.ok k world=>
    if rs.length≤1 then .goroutine {m1 with world} (rs.getD k 0) else
    match(choose (.extern "sched.slice" 65536)).run p world with
    |.halt _ w=>.machine (.ended (.stuck "sched.slice" "") w)
    |.ok n world=>.goroutine {m1 with world,rest:={m1.rest with slice:=if n=0 then none else some (rs.getD k 0,n)}} (rs.getD k 0))=some w2→m.world.drawn≤w2.drawn:=by
   intro m1 rs w2 h0 hm;generalize hr:Sem.run p (choose (.sched rs.length)) m1.world=r at hm
   cases r with
   |halt a w3=>simp[mvW] at hm
   |ok k w3=>
    have h2:=ZaK hr;simp only[] at hm;split at hm
    · simp only[mvW,Option.some.injEq] at hm;subst hm;exact Nat.le_trans h0 h2
    generalize hs:Sem.run p (choose (.extern "sched.slice" 65536)) w3=r at hm
    cases r with
    |halt a w4=>simp[mvW] at hm
    |ok n w4=>
     have h3:=ZaK hs;simp only[mvW,Option.some.injEq] at hm;subst hm;exact Nat.le_trans h0 (Nat.le_trans h2 h3)
  dsimp only at h
  split at h
  · generalize hs:serve p _ _=s at h
    cases s with
    |next m2=>
     simp only[mvW,Option.some.injEq] at h;subst h;rw[ZhM _ _ _ _ hs];exact h1
    |ended o w2=>simp[mvW] at h
  split at h
  · split at h
    · simp only[mvW,Option.some.injEq] at h;subst h;exact h1
    split at h
    · simp only[mvW,Option.some.injEq] at h;subst h;exact h1
    split at h<;>simp[mvW] at h
  split at h
  · exact pick {m with world:=w1} (runnable m.gs m.world.os.mono) _ h1 h
  generalize hs:Sem.run p (choose (.extern "clock.wait" _)) w1=s at h
  cases s with
  |halt a w2=>simp[mvW] at h
  |ok k w2=>
   have h2:=ZaK hs;rcases k with _|_|k
   · exact pick {m with world:=w2} _ _ (Nat.le_trans h1 h2) h
   · simp only[mvW,Option.some.injEq] at h;subst h;exact Nat.le_trans h1 h2
   exact pick (Machine.advanceTo {m with world:=w2} _) _ _ (Nat.le_trans h1 h2) h
theorem ZfP (p:Program) (m:Machine) (w':World) (h:mvW (ask p m)=some w'):m.world.drawn≤w'.drawn:=by
 unfold ask at h;split at h
 · generalize hs:Sem.run p (choose (.extern "collector.look" 2)) m.world=s at h
   cases s with
   |halt a w2=>simp[mvW] at h
   |ok k w2=>
    have h2:=ZaK hs;rcases k with _|_|k
    · exact Nat.le_trans h2 (Zca p {m with world:=w2} w' h)
    · simp only[] at h;generalize hl:look p m.gs m.rest w2=l at h
      cases l with
      |next m2=>exact Nat.le_trans h2 (Nat.le_trans (Zfq _ _ _ _ _ hl) (Zca p m2 w' h))
      |ended o w3=>simp[mvW] at h
    exact Nat.le_trans h2 (Zca p {m with world:=w2} w' h)
 exact Zca p m w' h
theorem Zfo (p:Program) (m:Machine) (w':World) (h:mvW (move p m)=some w'):m.world.drawn≤w'.drawn:=by
 unfold move at h;split at h
 · split at h
   · simp only[mvW,Option.some.injEq] at h;subst h;exact Nat.le_refl _
   simp[mvW] at h
 split at h
 · split at h
   · simp only[mvW,Option.some.injEq] at h;subst h;exact Nat.le_refl _
   exact ZfP p {m with rest:={m.rest with slice:=none}} w' h
 exact ZfP p m w' h
theorem Zjb (p:Program) (m m':Machine) (h:step p m=.next m'):m.world.drawn≤m'.world.drawn:=by
 unfold step stepT at h;split at h
 · rename_i m1 i hm;exact Nat.le_trans (Zfo p m m1.world (by rw[hm];rfl)) (Zjd _ _ _ _ _ h)
 rename_i s ops hm;simp only[] at h;subst h;exact Zfo p m m'.world (by rw[hm];rfl)
theorem Zet {p:Program} {m m':Machine} (h:Steps p m m'):m.world.drawn≤m'.world.drawn:=by
 obtain⟨n,hn⟩:=h
 induction n generalizing m with
 |zero=>simp[runN] at hn;rw[hn];exact Nat.le_refl _
 |succ n ih=>
  rw[runN] at hn;split at hn
  · rename_i m1 h1;exact Nat.le_trans (Zjb p m m1 h1) (ih hn)
  rename_i hno;exact(hno _ hn).elim
theorem Zid {p:Program} {f:FuncId} {args:Array Value} {w:World} {R:Ending→World→Prop} (h:Calls p f args w R) (ho:∀w',¬R .outgrown w'):Calls p f args w fun e w'=>R e w'∧w.drawn≤w'.drawn:=by
 intro cs;obtain⟨e,w',fr,r,c,x⟩:=h cs;refine⟨e,w',fr,⟨r,?_⟩,c,x⟩
 cases e with
 |returned v=>exact Zet c
 |panicked ch=>exact Zet c
 |outgrown=>exact absurd r (ho w')
end
end
section
section
open Go.RowKit
open Go.Sort (grow heap_grow_old)
theorem Zlf {w w':World} (h:Ext w w') (hd:w.drawn≤w'.drawn):∃q os',w'=grow (w.drewN q) os':=by
 obtain⟨p,hp⟩:=regrown_of_below h;refine⟨p.d - w.drawn,p.os,?_⟩;have e:w'.drawn=p.d:=by rw[hp];rfl
 rw[hp];congr 1
 unfold World.drewN redrawn;congr 1
 omega
theorem Zic {P:Program} {f:FuncId} {args:Array Value} {w:World} {v:Value} (h:Calls P f args w fun e w'=>e=.returned v∧Ext w w'):Calls P f args w fun e w'=>e=.returned v∧∃q os',w'=grow (w.drewN q) os':=
 (Zid h (fun w' hr=>by cases hr.1)).mono fun e w' ⟨⟨he,hx⟩,hd⟩=>⟨he,Zlf hx hd⟩
theorem ZmN (w:World) (q:Nat) (os:Array Obj):Ext w (grow (w.drewN q) os):=
 ⟨rfl,rfl,rfl,by simp,fun k hk=>by rw[heap_grow_old _ _ (by simpa using hk)];rfl⟩
section
variable {P:Program} {o:Oper} {a:Act} {L0 L F:List Part} {w0 W:World} {K:Act→Prop}
theorem Zcc {ty:TypeId} {x:Operand} (hop:o.op=.load ty x) {b j:Nat} (hx:a.eval x=.pointer (some ⟨b,j,none⟩)) (s:Sel (Part.old W) L F) (hu:(P.underlying ty).map (·.isRow)=some false) {v:Value} (hv:W.cell? ⟨b,j,none⟩=some v)
 (hk:K (a.put o.dst v)):o.quiet P a (Cl L0 w0 L) K:=ZbJ v (fun w' hw=>by
 have ho:(Part.old W).holds w':=hw.get s
 have hb:b < W.heap.size:=by
  rcases Nat.lt_or_ge b W.heap.size with q|q
  · exact q
  simp[World.cell?,Array.getElem?_eq_none q] at hv
 have hc:w'.cell? ⟨b,j,none⟩=some v:=by
  rw[←hv];simp[World.cell?,ho b hb]
 obtain⟨d,hu,hd⟩:=Option.map_eq_some_iff.1 hu
 have hagg:(isAgg ty).run P w'=.ok false w':=by
  unfold isAgg;rw[Sem.run_bind,run_underlying hu w'];cases d<;>simp_all
 simp[execOp,hop,hx,Instr.loadAt,Instr.sureAddr,loadVar,Sem.run_bind,hagg,Result.andThen,run_load,hc]) hk
theorem Zcb {k:TypeId} {b:Nat} {es:List (Value × Value)} {t e:TypeId} {m x:Operand} (hop:o.op=.lookup t m x false) (hm:a.eval m=.map (some b)) {key v:Value} (hx:a.eval x=key) (s:Sel (Part.old W) L F) (hM:MapAt P k W b es) (Kd:Go.Maps.Keyed P k) (ht:P.underlying t=some (.map k e)) {kl:Lit} (hk:keyOf P k key=some kl) (hn:(key,v) ∈ es)
 (hK:K (a.put o.dst v)):o.quiet P a (Cl L0 w0 L) K:=ZbJ v (fun w' hw=>by
 have ho:(Part.old W).holds w':=hw.get s;have hM':MapAt P k w' b es:=hM.same (ho b hM.lt)
 simp[execOp,hop,hm,hx,hM'.look_some Kd ht hk hn false,Result.andThen]) hK
end
end
end
section
namespace Tar
theorem Zhf {α:Type} {p q:α→Bool} (h:∀x,p x=true→q x=false):∀l:List α,(l.filter fun x=>q x || p x).Perm (l.filter p++l.filter q)
 |[]=>.refl _
 |x::l=>by
  have ih:=Zhf h l;by_cases hp:p x=true
  · have hq:=h x hp;simp only[List.filter_cons,hp,hq,Bool.false_or,if_true,List.cons_append];exact ih.cons x
  have hp:p x=false:=by simpa using hp
  cases hq:q x with
  |false=>simpa [List.filter_cons,hp,hq] using ih
  |true=>
   simp only[List.filter_cons,hp,hq,Bool.true_or,if_true];exact(ih.cons x).trans List.perm_middle.symm
section
variable {nx:Nat→List Nat} {n:Nat} {kn:Nat→Nat} {found:Nat} {sq:Nat→Int}
structure OrdS (nx:Nat→List Nat) (n:Nat) (kn:Nat→Nat) (sq:Nat→Int) (gone pre:List Nat) (fuel:Nat):Prop where
 whole:pre++ordP nx n kn sq fuel gone=ordP nx n kn sq n []
 sum:gone.length + fuel=n
 less:gone.length≤pre.length
 perm:pre.Perm ((List.range n).filter fun i=>decide (kn i ∈ gone))
 shut:Shut nx n kn gone
theorem OrdS.start:OrdS nx n kn sq [] [] n:=⟨rfl,by simp,Nat.le_refl _,by simp,nofun⟩
theorem OrdS.le {gone pre:List Nat} {fuel:Nat} (h:OrdS nx n kn sq gone pre fuel):pre.length≤n:=by
 rw[h.perm.length_eq];exact Nat.le_trans (List.length_filter_le _ _) (by simp)
theorem OrdS.sub {gone pre:List Nat} {fuel:Nat} (h:OrdS nx n kn sq gone pre fuel):∀i ∈ pre,i < n:=fun i hi=>by
 have:=h.perm.mem_iff.1 hi
 simp at this
 exact this.1
theorem OrdS.done {gone pre:List Nat} {fuel:Nat} (h:OrdS nx n kn sq gone pre fuel) (hl:n≤pre.length):pre=ordP nx n kn sq n []:=by
 have hall:∀i,i < n→kn i ∈ gone:=fun i hi=>by
  have h1:((List.range n).filter fun i=>decide (kn i ∈ gone))=List.range n:=by
   refine List.Sublist.eq_of_length List.filter_sublist ?_;have:=h.perm.length_eq;have h2:=List.length_filter_le (fun i=>decide (kn i ∈ gone)) (List.range n);rw[List.length_range] at h2 ⊢;omega
  have h2:i ∈ (List.range n).filter fun i=>decide (kn i ∈ gone):=by rw[h1];exact List.mem_range.2 hi
  simpa using(List.mem_filter.1 h2).2
 rw[←h.whole];suffices e:ordP nx n kn sq fuel gone=[] by rw[e,List.append_nil]
 cases fuel with
 |zero=>rfl
 |succ f=>
  unfold ordP
  have:(List.range n).find? (freeP nx n kn gone)=none:=by
   rw[List.find?_eq_none];intro x hx hf;exact(Zbk.1 hf).1 (hall x (List.mem_range.1 hx))
  rw[this]
theorem OrdS.more (hk:Kn nx n kn found) {gone pre:List Nat} {fuel:Nat} (h:OrdS nx n kn sq gone pre fuel) (hl:pre.length < n):∃k,k < n∧freeP nx n kn gone k=true:=by
 suffices H:∃i,i < n∧kn i ∉ gone by
  obtain⟨i,hi,hg⟩:=H;exact Zk9 hk h.shut hi hg
 refine Classical.byContradiction fun q=> ?_
 have h1:((List.range n).filter fun i=>decide (kn i ∈ gone))=List.range n:=List.filter_eq_self.2 fun i hi=>by
  refine decide_eq_true (Classical.byContradiction fun q2=>q ⟨i,List.mem_range.1 hi,q2⟩)
 have:=h.perm.length_eq;rw[h1,List.length_range] at this
 omega
theorem OrdS.step (hk:Kn nx n kn found) {gone pre:List Nat} {fuel i:Nat} (h:OrdS nx n kn sq gone pre fuel) (hl:pre.length < n) (hf:(List.range n).find? (freeP nx n kn gone)=some i):
 0 < fuel∧OrdS nx n kn sq (kn i::gone) (pre++sortS sq (knotL n kn (kn i))) (fuel - 1):=by
 have hi:i < n:=List.mem_range.1 (List.mem_of_find?_eq_some hf);have hfr:=List.find?_some hf;have hfi:=Zbk.1 hfr;have h0:0 < fuel:=by have:=h.sum;have:=h.less;omega
 obtain⟨f,rfl⟩:∃f,fuel=f + 1:=⟨fuel - 1,by omega⟩
 have hs:=Zcy (sq:=sq) (ZeQ n kn (kn i));have hne:0 < (knotL n kn (kn i)).length:=List.length_pos_of_mem (Zdp.2 ⟨hi,rfl⟩);refine⟨h0,?_,?_,?_,?_,ZeA hk h.shut hfr⟩
 · rw[←h.whole];show _=pre++ordP nx n kn sq (f + 1) gone;rw[ordP,hf,List.append_assoc];rfl
 · have:=h.sum
   simp only[List.length_cons];omega
 · have:=h.less
   rw[List.length_append,hs.2.length_eq,List.length_cons];omega
 refine((h.perm.append hs.2).trans (Zhf (p:=fun i=>decide (kn i ∈ gone)) (q:=fun x=>kn x==kn i) (fun x hx=> ?_) (List.range n)).symm).trans (.of_eq ?_)
 · have hx:kn x ∈ gone:=by simpa using hx
   cases hq:kn x==kn i with
   |false=>rfl
   |true=>rw[beq_iff_eq.1 hq] at hx;exact absurd hx hfi.1
 refine List.filter_congr fun x _=> ?_;rw[Bool.eq_iff_iff];simp
theorem Zmz {k:Nat}:(knotL n kn k).length≤n:=Nat.le_trans (List.length_filter_le _ _) (by simp)
end
noncomputable def tR (nx:Nat→List Nat) (i k:Nat):Bool:=@decide (R nx i k) (Classical.propDecidable _)
theorem tR_iff {nx:Nat→List Nat} {i k:Nat}:tR nx i k=true↔R nx i k:=by unfold tR;exact @decide_eq_true_iff _ (Classical.propDecidable _)
noncomputable def ordR (nx:Nat→List Nat) (n:Nat) (sq:Nat→Int):List Nat:=ordD n (tR nx) sq n fun _=>false
theorem ZkA {nx:Nat→List Nat} {n:Nat} {kn:Nat→Nat} {found:Nat} (hk:Kn nx n kn found) (sq:Nat→Int):ordP nx n kn sq n []=ordR nx n sq:=
 ZiC hk (fun i k _ _=>tR_iff) sq n [] _ nofun fun k _=>by simp
theorem Zkz {nx:Nat→List Nat} {n:Nat} {kn:Nat→Nat} {found:Nat} (hk:Kn nx n kn found) (sq:Nat→Int):(ordR nx n sq).Perm (List.range n):=by
 rw[←ZkA hk];suffices H:∀(fuel:Nat) (gone pre:List Nat),OrdS nx n kn sq gone pre fuel→(ordP nx n kn sq n []).Perm (List.range n) from H n [] [] OrdS.start
 intro fuel
 induction fuel with
 |zero=>
  intro gone pre h;have h1:n≤pre.length:=by have:=h.sum;have:=h.less;omega
  rw[←h.done h1];have h2:=h.perm
  have h3:((List.range n).filter fun i=>decide (kn i ∈ gone))=List.range n:=by
   refine List.Sublist.eq_of_length List.filter_sublist ?_;have:=h2.length_eq;have h4:=List.length_filter_le (fun i=>decide (kn i ∈ gone)) (List.range n);rw[List.length_range] at h4 ⊢;omega
  rwa [h3] at h2
 |succ f ih=>
  intro gone pre h;by_cases hl:pre.length < n
  · obtain⟨k,hkn,hkf⟩:=h.more hk hl
    cases hq:(List.range n).find? (freeP nx n kn gone) with
    |none=>exact absurd hkf (List.find?_eq_none.1 hq k (List.mem_range.2 hkn))
    |some i=>exact ih _ _ (h.step hk hl hq).2
  have h1:n≤pre.length:=by omega
  rw[←h.done h1];have h2:=h.perm
  have h3:((List.range n).filter fun i=>decide (kn i ∈ gone))=List.range n:=by
   refine List.Sublist.eq_of_length List.filter_sublist ?_;have:=h2.length_eq;have h4:=List.length_filter_le (fun i=>decide (kn i ∈ gone)) (List.range n);rw[List.length_range] at h4 ⊢;omega
  rwa [h3] at h2
theorem ZiL {nx:Nat→List Nat} {n:Nat} (hn:∀x,x < n→∀y ∈ nx x,y < n):∀(k:Nat) (s:TS),M nx n s≤k→Inv nx n s→∃s',Inv nx n s'∧s'.wk=[]∧∀x,s.num x≠0→s'.num x≠0
 |0,s,hk,hi=>by
  by_cases hw:s.wk=[]
  · exact⟨s,hi,hw,fun _ q=>q⟩
  have:=(Zen hn hi hw).less
  omega
 |k + 1,s,hk,hi=>by
  by_cases hw:s.wk=[]
  · exact⟨s,hi,hw,fun _ q=>q⟩
  have h:=Zen hn hi hw;obtain⟨s',h1,h2,h3⟩:=ZiL hn k (step nx s) (by have:=h.less;omega) h.inv;exact⟨s',h1,h2,fun x q=>h3 x (h.seen x q)⟩
theorem ZkW {nx:Nat→List Nat} {n:Nat} (hn:∀x,x < n→∀y ∈ nx x,y < n):∀i,i≤n→∃s,Inv nx n s∧s.wk=[]∧∀x,x < i→s.num x≠0
 |0,_=>⟨TS.start,Zg6 nx n,rfl,nofun⟩
 |i + 1,hi=>by
  obtain⟨s,h1,h2,h3⟩:=ZkW hn i (by omega);by_cases hz:s.num i=0
  · obtain⟨s',g1,g2,g3⟩:=ZiL hn _ (enter s i) (Nat.le_refl _) (ZeR h1 (by omega) hz (fun u b w' e=>by rw[h2] at e;cases e));refine⟨s',g1,g2,fun x hx=>g3 x ?_⟩;show up s.num i (s.count + 1) x≠0
    by_cases e:x=i
    · subst e;rw[ZaD];omega
    rw[Zak _ _ e];exact h3 x (by omega)
  exact⟨s,h1,h2,fun x hx=>if e:x=i then by rw[e];exact hz else h3 x (by omega)⟩
theorem Zg5 {nx:Nat→List Nat} {n:Nat} (hn:∀x,x < n→∀y ∈ nx x,y < n):∃kn found,Kn nx n kn found:=by
 obtain⟨s,h1,h2,h3⟩:=ZkW hn n (Nat.le_refl _);exact⟨_,_,ZiM hn h1 h2 h3⟩
end Tar
end
end Go.Proofs.YtbeckijoabapkaaGreatDoor
