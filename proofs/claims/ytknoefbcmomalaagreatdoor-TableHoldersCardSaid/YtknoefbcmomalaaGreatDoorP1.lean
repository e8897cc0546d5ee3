import Derived.Test.YtknoefbcmomalaaGreatDoorP0
import Derived.DeepKeys4
import Derived.Deep.MidRow
import Derived.BigQuiet
import Derived.Deep.Cut
set_option linter.unusedSimpArgs false
set_option linter.unusedVariables false
set_option maxRecDepth 100000
set_option maxHeartbeats 16000000
namespace Go.Proofs.YtknoefbcmomalaaGreatDoor
section
section
open Go.RowKit
open Go.Maps (Keyed)
def MapAt (P:Program) (k:TypeId) (w:World) (b:Nat) (es:List (Value × Value)):Prop:=
 ∃(ents:Array MapEntry) (clock:Nat),w.heap[b]? =some (.map ents clock)∧ents.toList.map (fun e=>(e.key,e.val))=es∧(∀e ∈ ents.toList,e.born < clock)∧ents.toList.Pairwise (fun e f=>e.born≠f.born)∧
  (∀p ∈ es,∃l,keyOf P k p.1=some l)∧es.Pairwise (fun p q=>p.1≠q.1)
section
variable {P:Program} {k:TypeId} {w:World} {b:Nat} {es:List (Value × Value)}
theorem MapAt.lt (h:MapAt P k w b es):b < w.heap.size:=by
 obtain⟨ents,clock,hb,_⟩:=h;rcases Nat.lt_or_ge b w.heap.size with q|q
 · exact q
 rw[Array.getElem?_eq_none q] at hb;cases hb
theorem MapAt.same (h:MapAt P k w b es) {w':World} (e:w'.heap[b]? =w.heap[b]?):MapAt P k w' b es:=by
 obtain⟨ents,clock,hb,r⟩:=h;exact⟨ents,clock,e.trans hb,r⟩
theorem MapAt.ext (h:MapAt P k w b es) {w':World} (e:Ext w w'):MapAt P k w' b es:=h.same (Below.block e b h.lt)
theorem MapAt.exc (h:MapAt P k w b es) {S:Nat→Prop} {w':World} (e:Exc S w w') (hs:¬S b):MapAt P k w' b es:=h.same (e.block b h.lt hs)
theorem MapAt.made (P:Program) (k:TypeId) (w:World):MapAt P k (w.alloc (.map #[] 0)) w.heap.size []:=
 ⟨#[],0,heap_alloc_new w _,rfl,nofun,List.Pairwise.nil,nofun,List.Pairwise.nil⟩
theorem MapAt.find (h:MapAt P k w b es) (K:Keyed P k) {key:Value} {kl:Lit} (hk:keyOf P k key=some kl) (w0:World):
 ∃(ents:Array MapEntry) (clock:Nat),w.heap[b]? =some (.map ents clock)∧
  (((Instr.findKey k key ents.toList).run P w0=.ok none w0∧∀p ∈ es,p.1≠key)∨∃j v,(Instr.findKey k key ents.toList).run P w0=.ok (some (j,v)) w0∧(key,v) ∈ es):=by
 obtain⟨ents,clock,hb,he,_,_,hkeys,_⟩:=h;refine⟨ents,clock,hb,?_⟩;have hall:∀e ∈ ents.toList,∃l,keyOf P k e.key=some l:=fun e hm=>hkeys (e.key,e.val) (by rw[←he];exact List.mem_map.2 ⟨e,hm,rfl⟩);rcases K.find w0 hk ents.toList hall with⟨h1,h2⟩|⟨j,e,h1,h2,h3⟩
 · refine .inl ⟨h1,fun p hp=> ?_⟩;rw[←he] at hp;obtain⟨e,hm,rfl⟩:=List.mem_map.1 hp;exact h2 e hm
 refine .inr ⟨j,e.val,h1,?_⟩;rw[←he];exact List.mem_map.2 ⟨e,List.mem_of_getElem? h2,by rw[h3]⟩
theorem ZnS {es:List (Value × Value)} (h:es.Pairwise (fun p q=>p.1≠q.1)) {key u v:Value} (h1:(key,u) ∈ es) (h2:(key,v) ∈ es):u=v:=by
 induction es with
 |nil=>cases h1
 |cons p r ih=>
  obtain⟨hp,hr⟩:=List.pairwise_cons.1 h;rcases List.mem_cons.1 h1 with e1|e1
  · rcases List.mem_cons.1 h2 with e2|e2
    · rw[←e1] at e2;cases e2;rfl
    exact absurd (by rw[←e1]) (hp _ e2)
  rcases List.mem_cons.1 h2 with e2|e2
  · exact absurd (by rw[←e2]) (hp _ e1)
  exact ih hr e1 e2
theorem MapAt.once (h:MapAt P k w b es) {key u v:Value} (h1:(key,u) ∈ es) (h2:(key,v) ∈ es):u=v:=by
 obtain⟨_,_,_,_,_,_,_,hp⟩:=h;exact ZnS hp h1 h2
theorem MapAt.look_none {t e:TypeId} (h:MapAt P k w b es) (K:Keyed P k) (ht:P.underlying t=some (.map k e)) {key:Value} {kl:Lit} (hk:keyOf P k key=some kl) (hn:∀p ∈ es,p.1≠key) {z:Value} (hz:(zeroValue e).run P w=.ok z w) (ok:Bool):
 (Instr.lookup t (.map (some b)) key ok).run P w=.ok (if ok then .tuple #[z,.bool false] else z) w:=by
 obtain⟨ents,clock,hb,hf⟩:=h.find K hk w;rcases hf with⟨h1,_⟩|⟨j,v,h1,h2⟩
 · simp[Instr.lookup,run_underlying ht,MapKept.run_getObj_map hb,K.check w _ hk,h1,hz,Result.andThen]
 exact absurd rfl (hn _ h2)
theorem MapAt.look_some {t e:TypeId} (h:MapAt P k w b es) (K:Keyed P k) (ht:P.underlying t=some (.map k e)) {key v:Value} {kl:Lit} (hk:keyOf P k key=some kl) (hn:(key,v) ∈ es) (ok:Bool):
 (Instr.lookup t (.map (some b)) key ok).run P w=.ok (if ok then .tuple #[v,.bool true] else v) w:=by
 obtain⟨ents,clock,hb,hf⟩:=h.find K hk w;rcases hf with⟨_,h2⟩|⟨j,u,h1,h2⟩
 · exact absurd rfl (h2 _ hn)
 have e:=h.once hn h2;subst e;simp[Instr.lookup,run_underlying ht,MapKept.run_getObj_map hb,K.check w _ hk,h1,Result.andThen]
theorem MapAt.put_new {t e:TypeId} (h:MapAt P k w b es) (K:Keyed P k) (ht:P.underlying t=some (.map k e)) {key:Value} {kl:Lit} (hk:keyOf P k key=some kl) (hn:∀p ∈ es,p.1≠key) (val:Value):
 ∃w',(Instr.mapUpdate t (.map (some b)) key val).run P w=.ok () w'∧MapAt P k w' b (es++[(key,val)])∧Exc (fun q=>q=b) w w':=by
 have h0:=h;obtain⟨ents,clock,hb,he,hbn,hdn,hkeys,hpw⟩:=h0;obtain⟨ents',clock',hb',hf⟩:=h.find K hk w;rw[hb] at hb';cases hb';rcases hf with⟨h1,_⟩|⟨j,v,h1,h2⟩
 · refine⟨ChangeMaps.setBlock w b (.map (ents.push ⟨key,val,clock⟩) (clock + 1)),by simp[Instr.mapUpdate,run_underlying ht,MapKept.run_getObj_map hb,K.check w _ hk,h1,MapKept.run_setObj_map _ hb,Result.andThen,ChangeMaps.setBlock],?_,?_⟩
   · refine⟨ents.push ⟨key,val,clock⟩,clock + 1,ChangeMaps.heap_setBlock_same hb _,?_,?_,?_,?_,?_⟩
     · simp[he]
     · intro e hm;simp only[Array.toList_push,List.mem_append,List.mem_singleton] at hm;rcases hm with hm|hm
       · have:=hbn e hm;omega
       subst hm;simp
     · simp only[Array.toList_push];refine List.pairwise_append.2 ⟨hdn,List.pairwise_singleton _ _,fun e hm f hf=> ?_⟩;have hfe:f=⟨key,val,clock⟩:=by simpa using hf
       subst hfe;have:=hbn e hm;simp only;omega
     · intro p hp;rcases List.mem_append.1 hp with hp|hp
       · exact hkeys p hp
       have:p=(key,val):=by simpa using hp
       subst this;exact⟨kl,hk⟩
     refine List.pairwise_append.2 ⟨hpw,List.pairwise_singleton _ _,fun p hp q hq=> ?_⟩;have:q=(key,val):=by simpa using hq
     subst this;exact hn p hp
   exact⟨rfl,rfl,rfl,by simp[ChangeMaps.setBlock],fun i _ hi=>ChangeMaps.heap_setBlock_other hb _ (fun e=>hi e)⟩
 exact absurd rfl (hn _ h2)
theorem Zl2 {l1 l2:List (Value × Value)} {key u:Value} (hp:(l1++(key,u)::l2).Pairwise (fun p q=>p.1≠q.1)) {j:Nat} {v:Value} (hj:(l1++(key,u)::l2)[j]? =some (key,v)):j=l1.length:=by
 obtain⟨h1,h2,h3⟩:=List.pairwise_append.1 hp;rcases Nat.lt_trichotomy j l1.length with h|h|h
 · rw[List.getElem?_append_left h] at hj;exact absurd rfl (h3 (key,v) (List.mem_of_getElem? hj) (key,u) (by simp))
 · exact h
 rw[List.getElem?_append_right (by omega),show j - l1.length=(j - l1.length - 1) + 1 by omega,List.getElem?_cons_succ] at hj;exact absurd rfl ((List.pairwise_cons.1 h2).1 (key,v) (List.mem_of_getElem? hj))
theorem MapAt.find_at {l1 l2:List (Value × Value)} {key u:Value} (h:MapAt P k w b (l1++(key,u)::l2)) (K:Keyed P k) {kl:Lit} (hk:keyOf P k key=some kl) (w0:World) {ents:Array MapEntry} {clock:Nat} (hb:w.heap[b]? =some (.map ents clock)):
 ∃e,(Instr.findKey k key ents.toList).run P w0=.ok (some (l1.length,u)) w0∧ents[l1.length]? =some e∧e.key=key∧e.val=u:=by
 obtain⟨ents',clock',hb',he,_,_,hkeys,hpw⟩:=h;rw[hb] at hb';cases hb';have hall:∀e ∈ ents.toList,∃l,keyOf P k e.key=some l:=fun e hm=>hkeys (e.key,e.val) (by rw[←he];exact List.mem_map.2 ⟨e,hm,rfl⟩);rcases K.find w0 hk ents.toList hall with⟨_,h2⟩|⟨j,e,h1,h2,h3⟩
 · have:(key,u) ∈ ents.toList.map (fun e=>(e.key,e.val)):=by rw[he];simp
   obtain⟨e,hm,hq⟩:=List.mem_map.1 this;exact absurd (congrArg Prod.fst hq) (h2 e hm)
 have hj:(l1++(key,u)::l2)[j]? =some (key,e.val):=by rw[←he,List.getElem?_map,h2];simp[h3]
 have e1:=Zl2 hpw hj;subst e1;have hv:e.val=u:=by simpa using hj.symm
 rw[hv] at h1;exact⟨e,h1,by simpa using h2,h3,hv⟩
theorem MapAt.put_there {t e:TypeId} {l1 l2:List (Value × Value)} {key u:Value} (h:MapAt P k w b (l1++(key,u)::l2)) (K:Keyed P k) (ht:P.underlying t=some (.map k e)) {kl:Lit} (hk:keyOf P k key=some kl) (val:Value):
 ∃w',(Instr.mapUpdate t (.map (some b)) key val).run P w=.ok () w'∧MapAt P k w' b (l1++(key,val)::l2)∧Exc (fun q=>q=b) w w':=by
 have h0:=h;obtain⟨ents,clock,hb,he,hbn,hdn,hkeys,hpw⟩:=h0;obtain⟨e0,h1,h2,h3,h4⟩:=h.find_at K hk w hb;have hlt:l1.length < ents.size:=(Array.getElem?_eq_some_iff.1 h2).1;have hge:ents[l1.length]=e0:=(Array.getElem?_eq_some_iff.1 h2).2
 have hmod:(ents.modify l1.length fun e=>{e with key:=key,val:=val}).toList=ents.toList.set l1.length {e0 with key:=key,val:=val}:=by
  apply List.ext_getElem?;intro i;rw[Array.getElem?_toList,Array.getElem?_modify,List.getElem?_set];split
  · rename_i hi;subst hi;simp[hlt,hge]
  simp
 refine⟨ChangeMaps.setBlock w b (.map (ents.modify l1.length fun e=>{e with key:=key,val:=val}) clock),?_,?_,?_⟩
 · simp[Instr.mapUpdate,run_underlying ht,MapKept.run_getObj_map hb,K.check w _ hk,h1,h2,h3,K.stays w hk,MapKept.run_setObj_map _ hb,Result.andThen,ChangeMaps.setBlock]
 · refine⟨_,clock,ChangeMaps.heap_setBlock_same hb _,?_,?_,?_,?_,?_⟩
   · rw[hmod,List.map_set,he];simp
   · intro e hm;rw[hmod] at hm;rcases List.mem_or_eq_of_mem_set hm with hm|hm
     · exact hbn e hm
     subst hm;exact hbn e0 (by rw[Array.mem_toList_iff];exact Array.mem_of_getElem? h2)
   · have e1:(ents.modify l1.length fun e=>{e with key:=key,val:=val}).toList.map (·.born)=ents.toList.map (·.born):=by
      rw[hmod,List.map_set];apply List.ext_getElem?;intro i;rw[List.getElem?_set];split
      · rename_i hi;subst hi;simp[hlt,hge]
      rfl
     have q1:(ents.toList.map (·.born)).Pairwise (· ≠ ·):=List.pairwise_map.2 hdn;rw[←e1] at q1;exact List.pairwise_map.1 q1
   · intro p hp;rcases List.mem_append.1 hp with hp|hp
     · exact hkeys p (by simp[hp])
     rcases List.mem_cons.1 hp with rfl|hp
     · exact⟨kl,hk⟩
     exact hkeys p (by simp[hp])
   have q1:((l1++(key,u)::l2).map (·.1)).Pairwise (· ≠ ·):=List.pairwise_map.2 hpw;have q2:(l1++(key,val)::l2).map (·.1)=(l1++(key,u)::l2).map (·.1):=by simp
   rw[←q2] at q1;exact List.pairwise_map.1 q1
 exact⟨rfl,rfl,rfl,by simp[ChangeMaps.setBlock],fun i _ hi=>ChangeMaps.heap_setBlock_other hb _ (fun e=>hi e)⟩
def Part.map (P:Program) (k:TypeId) (b:Nat) (es:List (Value × Value)):Part where
 holds w:=MapAt P k w b es
 foot q:=q=b
 lt:=fun _ h _ e=>by subst e;exact h.lt
 stay:=fun _ _ h e=>h.same (e b rfl)
theorem ZgG (w:World):(Part.map P k b es).facts w=True:=rfl
theorem MapAt.len (h:MapAt P k w b es):∃ents clock,w.heap[b]? =some (.map ents clock)∧ents.size=es.length:=by
 obtain⟨ents,clock,hb,he,_⟩:=h;exact⟨ents,clock,hb,by rw[←he];simp⟩
def Zax (P:Program) (k:TypeId) (w:World) (r b:Nat) (es done:List (Value × Value)):Prop:=
 MapAt P k w b es∧r≠b∧∃(ents:Array MapEntry) (clock c0:Nat) (vs:List MapEntry),w.heap[b]? =some (.map ents clock)∧w.heap[r]? =some (.mapIter (some b) clock (vs.map (·.born)).toArray c0)∧clock≤c0∧
  vs.map (fun e=>(e.key,e.val))=done∧(∀e ∈ vs,e ∈ ents.toList)∧vs.Pairwise (fun e f=>e.born≠f.born)∧(vs≠[]→c0=clock)
theorem Zax.start (h:MapAt P k w b es) {t e:TypeId} (ht:P.underlying t=some (.map k e)):
 ∃w',(Instr.range t (.map (some b))).run P w=.ok (.pointer (some ⟨w.heap.size,0,none⟩)) w'∧Ext w w'∧Zax P k w' w.heap.size b es []:=by
 have h0:=h;obtain⟨ents,clock,hb,_⟩:=h0;refine⟨w.alloc (.mapIter (some b) clock #[] clock),by simp[Instr.range,run_underlying ht,MapKept.run_getObj_map hb,Result.andThen],(Ext.refl w).alloc _,h.ext ((Ext.refl w).alloc _),?_,ents,clock,clock,[],?_,heap_alloc_new w _,Nat.le_refl _,rfl,nofun,List.Pairwise.nil,fun q=>absurd rfl q⟩
 · have:=h.lt;omega
 rw[Below.heap_alloc _ _ _ h.lt];exact hb
theorem Zim {ents:Array MapEntry} {es:List (Value × Value)} (he:ents.toList.map (fun e=>(e.key,e.val))=es) {e:MapEntry} (hm:e ∈ ents.toList):(e.key,e.val) ∈ es:=by
 rw[←he];exact List.mem_map.2 ⟨e,hm,rfl⟩
theorem Zax.next {r:Nat} {done:List (Value × Value)} (h:Zax P k w r b es done) (ty:TypeId):
 (es.Perm done∧(Instr.next (.pointer (some ⟨r,0,none⟩)) false ty).run P w=.ok (.tuple #[.bool false]) w)∨
 ∃p w',p ∈ es∧(∀q ∈ done,q.1≠p.1)∧(Instr.next (.pointer (some ⟨r,0,none⟩)) false ty).run P w=.ok (.tuple #[.bool true,p.1,p.2]) w'∧Zax P k w' r b es (done++[p])∧Exc (fun q=>q=r) w w':=by
 obtain⟨hm,hrb,ents,clock,c0,vs,hb,hr,hc,hd,hin,hpw,hc1⟩:=h;have hm0:=hm;obtain⟨ents',clock',hb',he,hbn,hdn,hkeys,hkp⟩:=hm0;rw[hb] at hb';cases hb'
 have hborn:∀x ∈ ents.toList,∀y ∈ ents.toList,x.born=y.born→x=y:=by
  intro x hx y hy e;obtain⟨i,hi⟩:=List.mem_iff_getElem?.1 hx;obtain⟨j,hj⟩:=List.mem_iff_getElem?.1 hy;by_cases hij:i=j
  · subst hij;rw[hi] at hj;exact Option.some.inj hj
  exfalso
  obtain⟨hi1,hi2⟩:=List.getElem?_eq_some_iff.1 hi;obtain⟨hj1,hj2⟩:=List.getElem?_eq_some_iff.1 hj;have hp:=List.pairwise_iff_getElem.1 hdn;rcases Nat.lt_or_gt_of_ne hij with q|q
  · exact hp i j hi1 hj1 q (by rw[hi2,hj2,e])
  exact hp j i hj1 hi1 q (by rw[hi2,hj2,e])
 rcases run_next_at (P:=P) w ty r b clock c0 (vs.map (·.born)).toArray ents clock hr hb hbn hc with⟨h0,hrun⟩|⟨e,he1,w1,hw1,hrun⟩
 · refine .inl ⟨?_,hrun⟩
   have hall:∀x ∈ ents.toList,x ∈ vs:=by
    intro x hx;have h1:leftOf ents (vs.map (·.born)).toArray= #[]:=Array.eq_empty_of_size_eq_zero h0;unfold leftOf at h1;rw[Array.filter_eq_empty_iff] at h1;have h2:=h1 x (by simpa using hx);simp at h2
    obtain⟨y,hy,hyb⟩:=h2;rw[←hborn y (hin y hy) x hx hyb];exact hy
   have np:∀(l:List MapEntry),l.Pairwise (fun e f=>e.born≠f.born)→l.Nodup:=fun l hl=>hl.imp (fun h e=>h (by rw[e]));have hp:ents.toList.Perm vs:=(List.perm_ext_iff_of_nodup (np _ hdn) (np _ hpw)).2 (fun x=>⟨hall x,hin x⟩);rw[←he,←hd];exact hp.map _
 refine .inr ⟨(e.key,e.val),ChangeMaps.setBlock w1 r (.mapIter (some b) clock ((vs.map (·.born)).toArray.push e.born) clock),?_,?_,hrun,?_,?_⟩
 all_goals
  have he2:e ∈ ents.toList∧∀y ∈ vs,y.born≠e.born:=by
   unfold leftOf at he1;simp at he1
   exact⟨by simpa using he1.1,fun y hy hb=>he1.2 y hy hb⟩
  have hh1:w1.heap=w.heap:=by rcases hw1 with rfl|rfl<;>rfl
 · exact Zim he he2.1
 · intro q hq;rw[←hd] at hq;obtain⟨y,hy,rfl⟩:=List.mem_map.1 hq;intro hk;obtain⟨i,hi⟩:=List.mem_iff_getElem?.1 (hin y hy);obtain⟨j,hj⟩:=List.mem_iff_getElem?.1 he2.1
   have hij:i≠j:=by
    intro q;subst q;rw[hi] at hj;cases hj;exact he2.2 e hy rfl
   have hp:=List.pairwise_iff_getElem.1 hkp;have g1:es[i]? =some (y.key,y.val):=by rw[←he,List.getElem?_map,hi];rfl
   have g2:es[j]? =some (e.key,e.val):=by rw[←he,List.getElem?_map,hj];rfl
   obtain⟨hi1,hi2⟩:=List.getElem?_eq_some_iff.1 g1;obtain⟨hj1,hj2⟩:=List.getElem?_eq_some_iff.1 g2;rcases Nat.lt_or_gt_of_ne hij with q|q
   · exact hp i j hi1 hj1 q (by rw[hi2,hj2];exact hk)
   exact hp j i hj1 hi1 q (by rw[hi2,hj2];exact hk.symm)
 · have hr1:w1.heap[r]? =some (.mapIter (some b) clock (vs.map (·.born)).toArray c0):=by rw[hh1];exact hr
   have k1:∀(o:Obj) (i:Nat),i≠r→(ChangeMaps.setBlock w1 r o).heap[i]? =w.heap[i]? :=fun o i hi=>by
    rw[←hh1];simp[ChangeMaps.setBlock,Ne.symm hi]
   have k2:∀(o:Obj),(ChangeMaps.setBlock w1 r o).heap[r]? =some o:=fun o=>by
    have hlt:=ZaJ hr1;simp[ChangeMaps.setBlock,hlt]
   refine⟨hm.same (k1 _ b (Ne.symm hrb)),hrb,ents,clock,clock,vs++[e],by rw[k1 _ b (Ne.symm hrb)];exact hb,by rw[k2];simp,Nat.le_refl _,by simp[hd],?_,?_,fun _=>rfl⟩
   · intro x hx;rcases List.mem_append.1 hx with hx|hx
     · exact hin x hx
     have:x=e:=by simpa using hx
     subst this;exact he2.1
   refine List.pairwise_append.2 ⟨hpw,List.pairwise_singleton _ _,fun x hx y hy=> ?_⟩;have:y=e:=by simpa using hy
   subst this;exact he2.2 x hx
 have g:∀(o:Obj),Exc (fun q=>q=r) w (ChangeMaps.setBlock w1 r o):=fun o=>by
  rcases hw1 with rfl|rfl
  · exact⟨rfl,rfl,rfl,by simp[ChangeMaps.setBlock],fun i _ hi=>by simp[ChangeMaps.setBlock,Ne.symm hi]⟩
  exact⟨rfl,rfl,rfl,by simp[ChangeMaps.setBlock],fun i _ hi=>by simp[ChangeMaps.setBlock,Ne.symm hi];rfl⟩
 exact g _
theorem Zax.entry {r:Nat} {done:List (Value × Value)} {p:Value × Value} (h:Zax P k w r b es (done++[p])):(Instr.entry (.pointer (some ⟨r,0,none⟩))).run P w=.ok (.tuple #[p.1,p.2]) w:=by
 obtain⟨hm,hrb,ents,clock,c0,vs,hb,hr,hc,hd,hin,hpw,hc1⟩:=h;obtain⟨ents',clock',hb',he,hbn,hdn,hkeys,hkp⟩:=hm;rw[hb] at hb';cases hb';rcases List.eq_nil_or_concat vs with rfl|⟨vs',e,rfl⟩
 · simp at hd
 have h1:c0=clock:=hc1 (by simp);subst h1;simp at hd
 obtain⟨hd1,hd2⟩:=hd;subst hd2;have:=run_entry_at (P:=P) w r b c0 (vs'.map (·.born)).toArray ents c0 e (by rw[hr];simp) hb (hin e (by simp)) (List.pairwise_map.2 hdn);exact this
theorem Zax.len {r:Nat} {done:List (Value × Value)} (h:Zax P k w r b es done):done.length≤es.length:=by
 obtain⟨hm,hrb,ents,clock,c0,vs,hb,hr,hc,hd,hin,hpw,hc1⟩:=h;obtain⟨ents',clock',hb',he,hbn,hdn,hkeys,hkp⟩:=hm;rw[hb] at hb';cases hb';have h1:(vs.map (·.born)).Nodup:=List.pairwise_map.2 hpw
 have h2:=h1.length_le_of_subset (l₂:=ents.toList.map (·.born)) (fun x hx=>by
  obtain⟨e,he,rfl⟩:=List.mem_map.1 hx
  exact List.mem_map.2 ⟨e,hin e he,rfl⟩)
 rw[←hd,←he];simpa using h2
theorem Zax.keys {r:Nat} {done:List (Value × Value)} (h:Zax P k w r b es done):es.Pairwise (fun p q=>p.1≠q.1):=by
 obtain⟨⟨_,_,_,_,_,_,_,hkp⟩,_⟩:=h;exact hkp
theorem MapAt.keys (h:MapAt P k w b es):es.Pairwise (fun p q=>p.1≠q.1):=by
 obtain⟨_,_,_,_,_,_,_,hkp⟩:=h;exact hkp
theorem Zax.same {r:Nat} {done:List (Value × Value)} (h:Zax P k w r b es done) {w':World} (e1:w'.heap[b]? =w.heap[b]?) (e2:w'.heap[r]? =w.heap[r]?):Zax P k w' r b es done:=by
 obtain⟨hm,hrb,ents,clock,c0,vs,hb,hr,rest⟩:=h;exact⟨hm.same e1,hrb,ents,clock,c0,vs,e1.trans hb,e2.trans hr,rest⟩
def Part.iter (P:Program) (k:TypeId) (r b:Nat) (es done:List (Value × Value)):Part where
 holds w:=Zax P k w r b es done
 foot q:=q=b∨q=r
 lt:=fun _ h q e=>by
  rcases e with e|e
  · subst e;exact h.1.lt
  subst e;obtain⟨_,_,_,_,_,_,_,hr,_⟩:=h;exact ZaJ hr
 stay:=fun _ _ h e=>h.same (e b (.inl rfl)) (e r (.inr rfl))
theorem ZeV {r:Nat} {done:List (Value × Value)} (w:World):(Part.iter P k r b es done).facts w=True:=rfl
end
theorem fA:(∀(w:World),Facts [] w=True)∧(∀(A:Part) (L:List Part) (w:World),Facts (A::L) w=(A.facts w∧Facts L w))∧
 (∀(b:Nat) (c:List Value) (T:TypeId) (w:World),(Part.cells b c T).facts w=((∀j,w.cell? ⟨b,j,none⟩=c[j]?)∧(∀j,w.frozen? ⟨b,j,none⟩=false)∧b < w.heap.size))∧
 (∀(W w:World),(Part.old W).facts w=True)∧(∀(p:Prop) (w:World),(Part.fact p).facts w=True)∧(∀(b:Nat) (o:Obj) (w:World),(Part.obj b o).facts w=True)∧
 (∀(P:Program) (k:TypeId) (b:Nat) (es:List (Value × Value)) (w:World),(Part.map P k b es).facts w=True)∧(∀(P:Program) (k:TypeId) (r b:Nat) (es done:List (Value × Value)) (w:World),(Part.iter P k r b es done).facts w=True):=
 ⟨fun _=>rfl,fun _ _ _=>rfl,fun _ _ _ _=>rfl,fun _ _=>rfl,fun _ _=>rfl,fun _ _ _=>rfl,fun _ _ _ _ _=>rfl,fun _ _ _ _ _ _ _=>rfl⟩
end
end
end Go.Proofs.YtknoefbcmomalaaGreatDoor
section
namespace Go.Proofs.YtknoefbcmomalaaGreatDoor
open Go.RowKit
section
variable {P:Program} {ops:Array Oper} {rest:List Oper} {o:Oper} {a:Act} {Q:Exit→Act→World→Prop} {L0 L F:List Part} {w0 w:World}
theorem Zal (hg:o.guard=none) {v:Value} {w':World} (hrun:(execOp a.eval o).run P w=.ok (.value v) w') (hK:wpList P ops Q rest (a.put o.dst v) w'):wpList P ops Q (o::rest) a w:=
 wpList_plain hg fun _ hK'=>by unfold Oper.wp;rw[hrun];exact hK' _ _ hK
theorem ZcD (hg:o.guard=none) {w':World} (hrun:(execOp a.eval o).run P w=.ok .skip w') (hK:wpList P ops Q rest (a.put o.dst undef) w'):wpList P ops Q (o::rest) a w:=
 wpList_plain hg fun _ hK'=>by unfold Oper.wp;rw[hrun];exact hK' _ _ hK
theorem ZaT (w:World) (b j:Nat) (ty:TypeId) (v:Value) (ht:w.there b j v.cells.size) (hi:(P.info? ty).map (·.size)=some v.cells.size) (h1:v.cells.all (·.oneCell')=true):
 (Instr.storeAt ty (.pointer (some ⟨b,j,none⟩)) v).run P w=.ok () (w.setCells b j v.cells.toList):=by
 have:=run_storeCells_cells (P:=P) b j v.cells.toList 0 w (fun k hk=>by simpa using(ht k (by simpa using hk)).1) (fun k hk=>by simpa using(ht k (by simpa using hk)).2)
  (fun u hu=>(Array.all_eq_true_iff_forall_mem.1 h1) u (by simpa using hu))
 cases hq:P.info? ty with
 |none=>simp[hq] at hi
 |some i=>
  have hs:v.cells.size=i.size:=by simp[hq] at hi;omega
  simp only[Nat.add_zero] at this;simp[Instr.storeAt,Instr.sureAddr,storeVar,sizeOf,typeInfo,hq,hs,this]
theorem Zaa.there {b:Nat} {c:List Value} {T:TypeId} (h:Zaa w b c T) (j n:Nat) (hj:j + n≤c.length):w.there b j n:=fun k hk=>
 ⟨by rw[h.cell,List.getElem?_eq_getElem (by omega)];rfl,h.free _⟩
theorem Zam {ty:TypeId} {x y:Operand} (hg:o.guard=none) (hop:o.op=.store ty x y) {b j:Nat} (hx:a.eval x=.pointer (some ⟨b,j,none⟩)) {v:Value} (hy:a.eval y=v) {vs:List Value} (hv:v.cells=vs.toArray)
 (h:At L0 w0 L w) {c:List Value} {T:TypeId} (s:Sel (Part.cells b c T) L F) (hi:(P.info? ty).map (·.size)=some vs.length) (h1:vs.all (·.oneCell')=true) (hj:j + vs.length≤c.length)
 (hK:∀w',At L0 w0 (Part.cells b (setL c j vs) T::F) w'→wpList P ops Q rest (a.put o.dst undef) w'):wpList P ops Q (o::rest) a w:=by
 have hb:Zaa w b c T:=h.get s;have hs:v.cells.size=vs.length:=by rw[hv];simp
 have h1':v.cells.all (·.oneCell')=true:=by
  rw[hv,Array.all_eq_true_iff_forall_mem];intro u hu;exact List.all_eq_true.1 h1 u (by simpa using hu)
 have hrun:=ZaT (P:=P) w b j ty v (hb.there j _ (by omega)) (by rw[hs];exact hi) h1';rw[show v.cells.toList=vs from by rw[hv]] at hrun;refine ZcD hg ?_ (hK _ (h.stores s j vs));simp[execOp,hop,hx,hy,hrun,Result.andThen]
theorem ZaU {E:TypeId} {x:Operand} (hg:o.guard=none) (hop:o.op=.box E x) {v:Value} (hx:a.eval x=v) {vs:List Value} (hv:v.cells=vs.toArray) (h:At L0 w0 L w)
 (hK:∀b w',At L0 w0 (Part.cells b vs E::L) w'→w0.heap.size≤b→wpList P ops Q rest (a.put o.dst (.pointer (some ⟨b,0,none⟩))) w'):wpList P ops Q (o::rest) a w:=by
 refine Zal hg ?_ (hK _ _ (h.alloc vs E) h.size);simp[execOp,hop,hx,Instr.box,newVar,newRow,hv,Result.andThen]
theorem ZdM {E:TypeId} (hg:o.guard=none) (hop:o.op=.alloc E) {z:Value} (hz:(P.info? E).map (·.zero)=some (some z)) {vs:List Value} (hv:z.cells=vs.toArray) (h:At L0 w0 L w)
 (hK:∀b w',At L0 w0 (Part.cells b vs E::L) w'→w0.heap.size≤b→wpList P ops Q rest (a.put o.dst (.pointer (some ⟨b,0,none⟩))) w'):wpList P ops Q (o::rest) a w:=by
 refine Zal hg ?_ (hK _ _ (h.alloc vs E) h.size)
 cases hq:P.info? E with
 |none=>simp[hq] at hz
 |some i=>
  have hi:i.zero=some z:=by simpa [hq] using hz
  simp[execOp,hop,Instr.alloc,zeroValue,typeInfo,hq,hi,newVar,newRow,hv,Result.andThen]
def Cl (L0:List Part) (w0:World) (L:List Part) (w:World):Prop:=At L0 w0 L w
theorem Cl.drew (h:At L0 w0 L w):Cl L0 w0 L w.drew:=At.drew h
theorem Cl.none (h:At L0 w0 L w) (p:Prop):(∀w',Cl L0 w0 L w'→p)=p:=propext ⟨fun q=>q w h,fun q _ _=>q⟩
theorem Cl.none2 (h:At L0 w0 L w) (p:Prop):(∀w',Cl L0 w0 L w'→w'=w'∧p)=p:=propext ⟨fun q=>(q w h).2,fun q _ _=>⟨rfl,q⟩⟩
theorem Zb3 {K:Act→Prop} (v:Value) (hrun:∀w',At L0 w0 L w'→(execOp a.eval o).run P w'=.ok (.value v) w') (hk:K (a.put o.dst v)):o.quiet P a (Cl L0 w0 L) K:=
 ⟨v,fun w hw=>by unfold Oper.quietAt;rw[hrun w hw];exact⟨rfl,rfl⟩,hk⟩
theorem Zae {ty:TypeId} {x:Operand} (hop:o.op=.load ty x) {b j:Nat} (hx:a.eval x=.pointer (some ⟨b,j,none⟩)) {c:List Value} {T:TypeId} (hb:Zaa w b c T) (hu:(P.underlying ty).map (·.isRow)=some false) {v:Value} (hv:c[j]? =some v):
 (execOp a.eval o).run P w=.ok (.value v) w:=by
 obtain⟨d,hu,hd⟩:=Option.map_eq_some_iff.1 hu
 have hagg:(isAgg ty).run P w=.ok false w:=by
  unfold isAgg;rw[Sem.run_bind,run_underlying hu w];cases d<;>simp_all
 have hc:w.cell? ⟨b,j,none⟩=some v:=by rw[hb.cell,hv]
 simp[execOp,hop,hx,Instr.loadAt,Instr.sureAddr,loadVar,Sem.run_bind,hagg,Result.andThen,run_load,hc]
theorem Zah {ty:TypeId} {x:Operand} (hop:o.op=.load ty x) {b j:Nat} (hx:a.eval x=.pointer (some ⟨b,j,none⟩)) {c:List Value} {T:TypeId} (hb:Zaa w b c T) (hu:(P.underlying ty).map (·.isRow)=some true) {n:Nat} (hi:(P.info? ty).map (·.size)=some n) {vs:List Value} (hv:(c.drop j).take n=vs) (hl:vs.length=n):(execOp a.eval o).run P w=.ok (.value (.agg vs.toArray)) w:=by
 obtain⟨d,hu,hd⟩:=Option.map_eq_some_iff.1 hu;subst hl
 have hr:w.rangeAt b j vs:=fun k v hk=>by
  have hlt:=(List.getElem?_eq_some_iff.1 hk).1;rw[←hv,List.getElem?_take,if_pos hlt,List.getElem?_drop] at hk;rw[hb.cell,hk]
 simp[execOp,hop,hx,run_loadAt_mid w b j ty vs d hr hu hd hi,Result.andThen]
theorem Zfy {K:Act→Prop} {ty:TypeId} {x:Operand} (hop:o.op=.load ty x) {b j:Nat} (hx:a.eval x=.pointer (some ⟨b,j,none⟩)) {c:List Value} {T:TypeId} (s:Sel (Part.cells b c T) L F) (hu:(P.underlying ty).map (·.isRow)=some false) {v:Value} (hv:c[j]? =some v)
 (hk:K (a.put o.dst v)):o.quiet P a (Cl L0 w0 L) K:=Zb3 v (fun _ hw=>Zae hop hx (hw.get s) hu hv) hk
theorem Zex {K:Act→Prop} {ty:TypeId} {x:Operand} (hop:o.op=.load ty x) {b j:Nat} (hx:a.eval x=.pointer (some ⟨b,j,none⟩)) {c:List Value} {T:TypeId} (s:Sel (Part.cells b c T) L F) (hu:(P.underlying ty).map (·.isRow)=some true) {n:Nat} (hi:(P.info? ty).map (·.size)=some n) {vs:List Value} (hv:(c.drop j).take n=vs) (hl:vs.length=n) (hk:K (a.put o.dst (.agg vs.toArray))):o.quiet P a (Cl L0 w0 L) K:=Zb3 _ (fun _ hw=>Zah hop hx (hw.get s) hu hi hv hl) hk
theorem Cl.out (h:Cl L0 w0 L w):At L0 w0 L w:=h
theorem wS {ty:TypeId} {x y:Operand} {b j:Nat} {v:Value} {vs c:List Value} {T:TypeId} (h:At L0 w0 L w)
 (hK:∀w',At L0 w0 (Part.cells b (setL c j vs) T::F) w'→wpList P ops Q rest (a.put o.dst undef) w')
 (hg:o.guard=none:=by exact rfl) (hop:o.op=.store ty x y:=by exact rfl) (hx:a.eval x=.pointer (some ⟨b,j,none⟩):=by exact rfl) (hy:a.eval y=v:=by(try simp only[Act.eval,Go.Proofs.YtknoefbcmomalaaGreatDoor.eV])<;>exact rfl)
 (hv:v.cells=vs.toArray:=by exact rfl) (s:Sel (Part.cells b c T) L F:=by with_reducible repeat(first|exact Go.Proofs.YtknoefbcmomalaaGreatDoor.Sel.here|apply Go.Proofs.YtknoefbcmomalaaGreatDoor.Sel.there)) (hi:(P.info? ty).map (·.size)=some vs.length:=by kernel_rfl)
 (h1:vs.all (·.oneCell')=true:=by exact rfl) (hj:j + vs.length≤c.length:=by first|decide|(simp;done)|omega):wpList P ops Q (o::rest) a w:=
 Zam hg hop hx hy hv h s hi h1 hj hK
theorem wB {E:TypeId} {x:Operand} {v:Value} {vs:List Value} (h:At L0 w0 L w)
 (hK:∀b w',At L0 w0 (Part.cells b vs E::L) w'→w0.heap.size≤b→wpList P ops Q rest (a.put o.dst (.pointer (some ⟨b,0,none⟩))) w')
 (hg:o.guard=none:=by exact rfl) (hop:o.op=.box E x:=by exact rfl) (hx:a.eval x=v:=by(try simp only[Act.eval,Go.Proofs.YtknoefbcmomalaaGreatDoor.eV])<;>exact rfl) (hv:v.cells=vs.toArray:=by exact rfl):wpList P ops Q (o::rest) a w:=
 ZaU hg hop hx hv h hK
theorem wX (E:TypeId) (v:Value) (vs:List Value) {x:Operand} (h:At L0 w0 L w)
 (hK:∀b w',At L0 w0 (Part.cells b vs E::L) w'→w0.heap.size≤b→wpList P ops Q rest (a.put o.dst (.pointer (some ⟨b,0,none⟩))) w')
 (hg:o.guard=none:=by exact rfl) (hop:o.op=.box E x:=by exact rfl) (hx:a.eval x=v:=by first|(simp[Act.eval,Act.put];done)|exact rfl) (hv:v.cells=vs.toArray:=by first|exact rfl|kernel_rfl):wpList P ops Q (o::rest) a w:=
 ZaU hg hop hx hv h hK
theorem gst {d t p af g x y z} (h:wpList P ops Q ({dst:=d,op:=.store x y z,type:=t,pos:=p,after:=af,guard:=g}::rest) a w):wpList P ops Q ({dst:=d,op:=.store x y z,type:=t,pos:=p,after:=af,guard:=g}::rest) a w:=h
theorem gbx {d t p af g x y} (h:wpList P ops Q ({dst:=d,op:=.box x y,type:=t,pos:=p,after:=af,guard:=g}::rest) a w):wpList P ops Q ({dst:=d,op:=.box x y,type:=t,pos:=p,after:=af,guard:=g}::rest) a w:=h
theorem gal {d t p af g x} (h:wpList P ops Q ({dst:=d,op:=.alloc x,type:=t,pos:=p,after:=af,guard:=g}::rest) a w):wpList P ops Q ({dst:=d,op:=.alloc x,type:=t,pos:=p,after:=af,guard:=g}::rest) a w:=h
end
end Go.Proofs.YtknoefbcmomalaaGreatDoor
namespace Go
open _root_.Go.Proofs.YtknoefbcmomalaaGreatDoor
open Go.RowKit
theorem uY:type_of% @uA∧type_of% fA∧(∀p:Prop,(p∧True)=p)∧(∀p:Prop,(True∧p)=p):=⟨@uA,fA,and_true,true_and⟩
theorem wG {P:Program} {ops:Array Oper} {rest:List Oper} {o:Oper} {a:Act} {Q:Exit→Act→World→Prop} {L0 L:List Part} {w0 w:World} (E:TypeId) (vs:List Value) (h:At L0 w0 L w) (hK:∀b w',At L0 w0 (Part.cells b vs E::L) w'→w0.heap.size≤b→Facts (Part.cells b vs E::L) w'→wpList P ops Q rest (a.put o.dst (.pointer (some ⟨b,0,none⟩))) w') (hg:o.guard=none:=by exact rfl) (hop:o.op=.alloc E:=by exact rfl) (hz:(P.info? E).map (·.zero)=some (some (.agg vs.toArray)):=by kernel_rfl):wpList P ops Q (o::rest) a w:=ZdM hg hop hz rfl h fun b w' hA hb=>hK b w' hA hb hA.facts
theorem wH {P:Program} {ops:Array Oper} {rest:List Oper} {o:Oper} {a:Act} {Q:Exit→Act→World→Prop} {L0 L:List Part} {w0 w:World} (E:TypeId) (vs:List Value) {x:Operand} (h:At L0 w0 L w) (hK:∀b w',At L0 w0 (Part.cells b vs E::L) w'→w0.heap.size≤b→Facts (Part.cells b vs E::L) w'→wpList P ops Q rest (a.put o.dst (.pointer (some ⟨b,0,none⟩))) w') (hg:o.guard=none:=by exact rfl) (hop:o.op=.box E x:=by exact rfl) (hx:a.eval x=.agg vs.toArray:=by first|(simp[Act.eval,Act.put];done)|exact rfl):wpList P ops Q (o::rest) a w:=ZaU hg hop hx rfl h fun b w' hA hb=>hK b w' hA hb hA.facts
theorem cA {P:Program} {id:Nat} {Q:Exit→Act→World→Prop} {a:Act} {w:World} {l:List Oper} {L0 L:List Part} {w0:World} (hA:At L0 w0 L w) (h:wpQuiet P l.toArray (Cl L0 w0 L) (fun a'=>∀w',Cl L0 w0 L w'→Q .normal a' w') l a) (hm:P.follows .mixedOrders=true:=by kernel_rfl) (hB:Region.lexB .any l.toArray=true:=by kernel_rfl):(Code.region id l.toArray true).wp P Q a w:=Zas (Cl L0 w0 L) hm hB (Cl.drew hA) h
theorem wT {P:Program} {ops:Array Oper} {rest:List Oper} {o:Oper} {a:Act} {Q:Exit→Act→World→Prop} {L0 L F:List Part} {w0 w:World} {ty:TypeId} {x y:Operand} {b j:Nat} {v:Value} {vs c:List Value} {T:TypeId} (h:At L0 w0 L w) (hK:∀w',At L0 w0 (Part.cells b (setL c j vs) T::F) w'→Facts (Part.cells b (setL c j vs) T::F) w'→wpList P ops Q rest (a.put o.dst undef) w') (hg:o.guard=none:=by exact rfl) (hop:o.op=.store ty x y:=by exact rfl) (hx:a.eval x=.pointer (some ⟨b,j,none⟩):=by exact rfl) (hy:a.eval y=v:=by(try simp only[Act.eval,eV])<;>exact rfl) (hv:v.cells=vs.toArray:=by exact rfl) (s:Sel (Part.cells b c T) L F:=by with_reducible repeat(first|exact Sel.here|apply Sel.there)) (hi:(P.info? ty).map (·.size)=some vs.length:=by kernel_rfl) (h1:vs.all (·.oneCell')=true:=by exact rfl) (hj:j + vs.length≤c.length:=by first|decide|(simp;done)|omega):wpList P ops Q (o::rest) a w:=wS h (fun w' hA=>hK w' hA hA.facts) hg hop hx hy hv s hi h1 hj
theorem wC {P:Program} {ops:Array Oper} {rest:List Oper} {o:Oper} {a:Act} {Q:Exit→Act→World→Prop} {L0 L:List Part} {w0 w:World} {E:TypeId} {x:Operand} {v:Value} {vs:List Value} (h:At L0 w0 L w) (hK:∀b w',At L0 w0 (Part.cells b vs E::L) w'→w0.heap.size≤b→Facts (Part.cells b vs E::L) w'→wpList P ops Q rest (a.put o.dst (.pointer (some ⟨b,0,none⟩))) w') (hg:o.guard=none:=by exact rfl) (hop:o.op=.box E x:=by exact rfl) (hx:a.eval x=v:=by(try simp only[Act.eval,eV])<;>exact rfl) (hv:v.cells=vs.toArray:=by exact rfl):wpList P ops Q (o::rest) a w:=wB h (fun b w' hA hb=>hK b w' hA hb hA.facts) hg hop hx hv
theorem qL {P:Program} {o:Oper} {a:Act} {L0 L F:List Part} {w0:World} {K:Act→Prop} {ty:TypeId} {x:Operand} {b j:Nat} {c:List Value} {T:TypeId} {v:Value} (hk:K (a.put o.dst v)) (hop:o.op=.load ty x:=by exact rfl) (hx:a.eval x=.pointer (some ⟨b,j,none⟩):=by exact rfl) (s:Sel (Part.cells b c T) L F:=by with_reducible repeat(first|exact Sel.here|apply Sel.there)) (hu:(P.underlying ty).map (·.isRow)=some false:=by kernel_rfl) (hv:c[j]? =some v:=by first|assumption|exact rfl):o.quiet P a (Cl L0 w0 L) K:=Zfy hop hx s hu hv hk
theorem qM {P:Program} {o:Oper} {a:Act} {L0 L F:List Part} {w0:World} {K:Act→Prop} (ty:TypeId) (n:Nat) {x:Operand} {b j:Nat} {c:List Value} {T:TypeId} {vs:List Value} (hk:K (a.put o.dst (.agg vs.toArray))) (hop:o.op=.load ty x:=by exact rfl) (hx:a.eval x=.pointer (some ⟨b,j,none⟩):=by exact rfl) (s:Sel (Part.cells b c T) L F:=by with_reducible repeat(first|exact Sel.here|apply Sel.there)) (hu:(P.underlying ty).map (·.isRow)=some true:=by kernel_rfl) (hi:(P.info? ty).map (·.size)=some n:=by kernel_rfl) (hv:(c.drop j).take n=vs:=by first|assumption|((try simp only[List.drop_succ_cons,List.drop_zero,List.take_succ_cons,List.take_zero])<;>exact rfl)) (hl:vs.length=n:=by exact rfl):o.quiet P a (Cl L0 w0 L) K:=Zex hop hx s hu hi hv hl hk
end Go
namespace Go
open _root_.Go.Proofs.YtknoefbcmomalaaGreatDoor
open Go.RowKit
theorem Zat {P:Program} {ops:Array Oper} {C:World→Prop} {Q Q':Act→Prop} (h:∀a,Q a→Q' a):∀(l:List Oper) (a:Act),wpQuiet P ops C Q l a→wpQuiet P ops C Q' l a
 |[],a,hq=>h a hq
 |o::l,a,hq=>by
  unfold wpQuiet at hq ⊢;split
  · rename_i hw;rw[if_pos hw] at hq;exact Oper.quiet_mono (fun a=>Zat h l a) hq
  rename_i hw;rw[if_neg hw] at hq;exact Zat h l _ hq
theorem cl0 {P:Program} {id:Nat} {Q:Exit→Act→World→Prop} {a a1:Act} {w:World} {l:List Oper} {L0 L:List Part} {w0:World} (hA:At L0 w0 L w) (hK:∀w',At L0 w0 L w'→Facts L w'→Q .normal a1 w') (h:wpQuiet P l.toArray (Cl L0 w0 L) (fun a'=>a'=a1) l a:=by have hn1:=Cl.none hA;have hn2:=Cl.none2 hA;(repeat(first|go_big_quiet_skip|(go_big_quiet_want;(first|(refine qL ?_;go_frame;go_big_quiet_on)|(go_big_quiet_op;(first|go_big_quiet_on))))));refine wpQuiet_nil ?_;exact rfl) (hm:P.follows .mixedOrders=true:=by kernel_rfl) (hB:Region.lexB .any l.toArray=true:=by kernel_rfl):(Code.region id l.toArray true).wp P Q a w:=Zas (Cl L0 w0 L) hm hB (Cl.drew hA) (Zat (fun a' e w' hw=>e ▸ hK w' hw.out hw.out.facts) l a h)
theorem cl1 {P:Program} {id:Nat} {Q:Exit→Act→World→Prop} {a a1:Act} {w:World} {l:List Oper} {L0 L:List Part} {w0:World} (hA:At L0 w0 L w) (hK:∀w',At L0 w0 L w'→Facts L w'→Q .normal a1 w') (h:wpQuiet P l.toArray (Cl L0 w0 L) (fun a'=>a'=a1) l a:=by have hn1:=Cl.none hA;have hn2:=Cl.none2 hA;(repeat(first|go_big_quiet_skip|(go_big_quiet_want;(first|(refine qM 43 8 ?_;go_frame;go_big_quiet_on)|(refine qM 151 6 ?_;go_frame;go_big_quiet_on)|(refine qL ?_;go_frame;go_big_quiet_on)|(go_big_quiet_op;(first|go_big_quiet_on|((apply Exists.intro);(refine⟨fun w1 hw=> ?_,?_⟩);(focus((have hw:=Cl.out hw);(fail)));(go_big_quiet_on))))))));refine wpQuiet_nil ?_;exact rfl) (hm:P.follows .mixedOrders=true:=by kernel_rfl) (hB:Region.lexB .any l.toArray=true:=by kernel_rfl):(Code.region id l.toArray true).wp P Q a w:=Zas (Cl L0 w0 L) hm hB (Cl.drew hA) (Zat (fun a' e w' hw=>e ▸ hK w' hw.out hw.out.facts) l a h)
theorem cl2 {P:Program} {id:Nat} {Q:Exit→Act→World→Prop} {a a1:Act} {w:World} {l:List Oper} {L0 L:List Part} {w0:World} (hA:At L0 w0 L w) (hK:∀w',At L0 w0 L w'→Facts L w'→Q .normal a1 w') (h:wpQuiet P l.toArray (Cl L0 w0 L) (fun a'=>a'=a1) l a:=by have hn1:=Cl.none hA;have hn2:=Cl.none2 hA;(repeat(first|go_big_quiet_skip|(go_big_quiet_want;(first|(refine qM 43 8 ?_;go_frame;go_big_quiet_on)|(refine qM 151 6 ?_;go_frame;go_big_quiet_on)|(refine qL ?_;go_frame;go_big_quiet_on)|(go_big_quiet_op;(first|go_big_quiet_on|((apply Exists.intro);(refine⟨fun w1 hw=> ?_,?_⟩);(focus((have hw:=Cl.out hw);(exact through0 hw (hbr _))));(go_big_quiet_on))))))));refine wpQuiet_nil ?_;exact rfl) (hm:P.follows .mixedOrders=true:=by kernel_rfl) (hB:Region.lexB .any l.toArray=true:=by kernel_rfl):(Code.region id l.toArray true).wp P Q a w:=Zas (Cl L0 w0 L) hm hB (Cl.drew hA) (Zat (fun a' e w' hw=>e ▸ hK w' hw.out hw.out.facts) l a h)
theorem cl3 {P:Program} {id:Nat} {Q:Exit→Act→World→Prop} {a a1:Act} {w:World} {l:List Oper} {L0 L:List Part} {w0:World} (hA:At L0 w0 L w) (hK:∀w',At L0 w0 L w'→Facts L w'→Q .normal a1 w') (h:wpQuiet P l.toArray (Cl L0 w0 L) (fun a'=>a'=a1) l a:=by have hn1:=Cl.none hA;have hn2:=Cl.none2 hA;(repeat(first|go_big_quiet_skip|(go_big_quiet_want;(first|(refine qM 43 8 ?_;go_frame;go_big_quiet_on)|(refine qM 151 6 ?_;go_frame;go_big_quiet_on)|(refine qL ?_;go_frame;go_big_quiet_on)|(go_big_quiet_op;(first|go_big_quiet_on|((apply Exists.intro);(refine⟨fun w1 hw=> ?_,?_⟩);(focus((have hw:=Cl.out hw);(exact through0 hw (hmo _))));(go_big_quiet_on))))))));refine wpQuiet_nil ?_;exact rfl) (hm:P.follows .mixedOrders=true:=by kernel_rfl) (hB:Region.lexB .any l.toArray=true:=by kernel_rfl):(Code.region id l.toArray true).wp P Q a w:=Zas (Cl L0 w0 L) hm hB (Cl.drew hA) (Zat (fun a' e w' hw=>e ▸ hK w' hw.out hw.out.facts) l a h)
theorem cl4 {P:Program} {id:Nat} {Q:Exit→Act→World→Prop} {a a1:Act} {w:World} {l:List Oper} {L0 L:List Part} {w0:World} (hA:At L0 w0 L w) (hK:∀w',At L0 w0 L w'→Facts L w'→Q .normal a1 w') (h:wpQuiet P l.toArray (Cl L0 w0 L) (fun a'=>a'=a1) l a:=by have hn1:=Cl.none hA;have hn2:=Cl.none2 hA;(repeat(first|go_big_quiet_skip|(go_big_quiet_want;(first|(refine qM 55 6 ?_;go_frame;go_big_quiet_on)|(refine qL ?_;go_frame;go_big_quiet_on)|(go_big_quiet_op;(first|go_big_quiet_on|((apply Exists.intro);(refine⟨fun w1 hw=> ?_,?_⟩);(focus((have hw:=Cl.out hw);(fail)));(go_big_quiet_on))))))));refine wpQuiet_nil ?_;exact rfl) (hm:P.follows .mixedOrders=true:=by kernel_rfl) (hB:Region.lexB .any l.toArray=true:=by kernel_rfl):(Code.region id l.toArray true).wp P Q a w:=Zas (Cl L0 w0 L) hm hB (Cl.drew hA) (Zat (fun a' e w' hw=>e ▸ hK w' hw.out hw.out.facts) l a h)
theorem cl5 {P:Program} {id:Nat} {Q:Exit→Act→World→Prop} {a a1:Act} {w:World} {l:List Oper} {L0 L:List Part} {w0:World} (hA:At L0 w0 L w) (hK:∀w',At L0 w0 L w'→Facts L w'→Q .normal a1 w') (h:wpQuiet P l.toArray (Cl L0 w0 L) (fun a'=>a'=a1) l a:=by have hn1:=Cl.none hA;have hn2:=Cl.none2 hA;(repeat(first|go_big_quiet_skip|(go_big_quiet_want;(first|(refine qL ?_;go_frame;go_big_quiet_on)|(go_big_quiet_op;(first|go_big_quiet_on|((apply Exists.intro);(refine⟨fun w1 hw=> ?_,?_⟩);(focus((have hw:=Cl.out hw);(exact ZkY hw _)));(go_big_quiet_on))))))));refine wpQuiet_nil ?_;exact rfl) (hm:P.follows .mixedOrders=true:=by kernel_rfl) (hB:Region.lexB .any l.toArray=true:=by kernel_rfl):(Code.region id l.toArray true).wp P Q a w:=Zas (Cl L0 w0 L) hm hB (Cl.drew hA) (Zat (fun a' e w' hw=>e ▸ hK w' hw.out hw.out.facts) l a h)
theorem cl6 {P:Program} {id:Nat} {Q:Exit→Act→World→Prop} {a a1:Act} {w:World} {l:List Oper} {L0 L:List Part} {w0:World} (hA:At L0 w0 L w) (hK:∀w',At L0 w0 L w'→Facts L w'→Q .normal a1 w') (h:wpQuiet P l.toArray (Cl L0 w0 L) (fun a'=>a'=a1) l a:=by have hn1:=Cl.none hA;have hn2:=Cl.none2 hA;(repeat(first|go_big_quiet_skip|(go_big_quiet_want;(first|(refine qM 25 2 ?_;go_frame;go_big_quiet_on)|(refine qL ?_;go_frame;go_big_quiet_on)|(go_big_quiet_op;(first|go_big_quiet_on|((apply Exists.intro);(refine⟨fun w1 hw=> ?_,?_⟩);(focus((have hw:=Cl.out hw);(exact Lock.through1 hw (A:=Lease.BookP p m ss) sZ (hin'.out _))));(go_big_quiet_on))))))));refine wpQuiet_nil ?_;exact rfl) (hm:P.follows .mixedOrders=true:=by kernel_rfl) (hB:Region.lexB .any l.toArray=true:=by kernel_rfl):(Code.region id l.toArray true).wp P Q a w:=Zas (Cl L0 w0 L) hm hB (Cl.drew hA) (Zat (fun a' e w' hw=>e ▸ hK w' hw.out hw.out.facts) l a h)
theorem cl7 {P:Program} {id:Nat} {Q:Exit→Act→World→Prop} {a a1:Act} {w:World} {l:List Oper} {L0 L:List Part} {w0:World} (hA:At L0 w0 L w) (hK:∀w',At L0 w0 L w'→Facts L w'→Q .normal a1 w') (h:wpQuiet P l.toArray (Cl L0 w0 L) (fun a'=>a'=a1) l a:=by have hn1:=Cl.none hA;have hn2:=Cl.none2 hA;(repeat(first|go_big_quiet_skip|(go_big_quiet_want;(first|(refine qM 55 6 ?_;go_frame;go_big_quiet_on)|(refine qL ?_;go_frame;go_big_quiet_on)|(go_big_quiet_op;(first|go_big_quiet_on|((apply Exists.intro);(refine⟨fun w1 hw=> ?_,?_⟩);(focus((have hw:=Cl.out hw);(exact Lock.through1 hw (A:=Lock.BookP b) sZ (hgr'.out _))));(go_big_quiet_on))))))));refine wpQuiet_nil ?_;exact rfl) (hm:P.follows .mixedOrders=true:=by kernel_rfl) (hB:Region.lexB .any l.toArray=true:=by kernel_rfl):(Code.region id l.toArray true).wp P Q a w:=Zas (Cl L0 w0 L) hm hB (Cl.drew hA) (Zat (fun a' e w' hw=>e ▸ hK w' hw.out hw.out.facts) l a h)
theorem cl8 {P:Program} {id:Nat} {Q:Exit→Act→World→Prop} {a a1:Act} {w:World} {l:List Oper} {L0 L:List Part} {w0:World} (hA:At L0 w0 L w) (hK:∀w',At L0 w0 L w'→Facts L w'→Q .normal a1 w') (h:wpQuiet P l.toArray (Cl L0 w0 L) (fun a'=>a'=a1) l a:=by have hn1:=Cl.none hA;have hn2:=Cl.none2 hA;(repeat(first|go_big_quiet_skip|(go_big_quiet_want;(first|(refine qM 55 6 ?_;go_frame;go_big_quiet_on)|((first|((with_reducible show Oper.quiet _ {dst:=some 26,op:=Op.load _ _,type:=_,pos:=_,after:=_,guard:=_} _ _ _);refine quiet_held_at (b:=g) (j:=j * 6) (vs:=Ent.cells x) rfl rfl (fun w' hw k u hk=>hv0.out w' (hw.get (A:=rowL (.slice (some ⟨g,0,none⟩) N cap) L) sZ) k u hk) (by kernel_rfl) (by kernel_rfl) ?_)|((with_reducible show Oper.quiet _ {dst:=some 31,op:=Op.load _ _,type:=_,pos:=_,after:=_,guard:=_} _ _ _);refine quiet_held_at (b:=g) (j:=p * 6) (vs:=Ent.cells y) rfl rfl (fun w' hw k u hk=>hv1.out w' (hw.get (A:=rowL (.slice (some ⟨g,0,none⟩) N cap) L) sZ) k u hk) (by kernel_rfl) (by kernel_rfl) ?_));go_frame;go_big_quiet_on)|(refine qL ?_;go_frame;go_big_quiet_on)|(go_big_quiet_op;(first|go_big_quiet_on|((apply Exists.intro);(refine⟨fun w1 hw=> ?_,?_⟩);(focus((have hw:=Cl.out hw);(exact Lock.through0 hw (hcm'.out _))));(go_big_quiet_on))))))));refine wpQuiet_nil ?_;exact rfl) (hm:P.follows .mixedOrders=true:=by kernel_rfl) (hB:Region.lexB .any l.toArray=true:=by kernel_rfl):(Code.region id l.toArray true).wp P Q a w:=Zas (Cl L0 w0 L) hm hB (Cl.drew hA) (Zat (fun a' e w' hw=>e ▸ hK w' hw.out hw.out.facts) l a h)
theorem cl9 {P:Program} {id:Nat} {Q:Exit→Act→World→Prop} {a a1:Act} {w:World} {l:List Oper} {L0 L:List Part} {w0:World} (hA:At L0 w0 L w) (hK:∀w',At L0 w0 L w'→Facts L w'→Q .normal a1 w') (h:wpQuiet P l.toArray (Cl L0 w0 L) (fun a'=>a'=a1) l a:=by have hn1:=Cl.none hA;have hn2:=Cl.none2 hA;(repeat(first|go_big_quiet_skip|(go_big_quiet_want;(first|(refine qM 55 6 ?_;go_frame;go_big_quiet_on)|((first|((with_reducible show Oper.quiet _ {dst:=some 44,op:=Op.load _ _,type:=_,pos:=_,after:=_,guard:=_} _ _ _);refine quiet_held_at (b:=g) (j:=h * 6) (vs:=Ent.cells y) rfl rfl (fun w' hw k u hk=>hvh.out w' (hw.get (A:=rowL (.slice (some ⟨g,0,none⟩) N cap) L) sZ) k u hk) (by kernel_rfl) (by kernel_rfl) ?_)|((with_reducible show Oper.quiet _ {dst:=some 48,op:=Op.load _ _,type:=_,pos:=_,after:=_,guard:=_} _ _ _);refine quiet_held_at (b:=g) (j:=a * 6) (vs:=Ent.cells x) rfl rfl (fun w' hw k u hk=>hva.out w' (hw.get (A:=rowL (.slice (some ⟨g,0,none⟩) N cap) L) sZ) k u hk) (by kernel_rfl) (by kernel_rfl) ?_));go_frame;go_big_quiet_on)|(refine qL ?_;go_frame;go_big_quiet_on)|(go_big_quiet_op;(first|go_big_quiet_on|((apply Exists.intro);(refine⟨fun w1 hw=> ?_,?_⟩);(focus((have hw:=Cl.out hw);(exact Lock.through0 hw (hcm'.out _))));(go_big_quiet_on))))))));refine wpQuiet_nil ?_;exact rfl) (hm:P.follows .mixedOrders=true:=by kernel_rfl) (hB:Region.lexB .any l.toArray=true:=by kernel_rfl):(Code.region id l.toArray true).wp P Q a w:=Zas (Cl L0 w0 L) hm hB (Cl.drew hA) (Zat (fun a' e w' hw=>e ▸ hK w' hw.out hw.out.facts) l a h)
theorem cl10 {P:Program} {id:Nat} {Q:Exit→Act→World→Prop} {a a1:Act} {w:World} {l:List Oper} {L0 L:List Part} {w0:World} (hA:At L0 w0 L w) (hK:∀w',At L0 w0 L w'→Facts L w'→Q .normal a1 w') (h:wpQuiet P l.toArray (Cl L0 w0 L) (fun a'=>a'=a1) l a:=by have hn1:=Cl.none hA;have hn2:=Cl.none2 hA;(repeat(first|go_big_quiet_skip|(go_big_quiet_want;(first|(refine qM 55 6 ?_;go_frame;go_big_quiet_on)|((first|((with_reducible show Oper.quiet _ {dst:=some 96,op:=Op.load _ _,type:=_,pos:=_,after:=_,guard:=_} _ _ _);refine quiet_held_at (b:=g) (j:=m * 6) (vs:=Ent.cells x) rfl rfl (fun w' hw k u hk=>hva.out w' (hw.get (A:=rowL (.slice (some ⟨g,0,none⟩) N cap) L) sZ) k u hk) (by kernel_rfl) (by kernel_rfl) ?_)|((with_reducible show Oper.quiet _ {dst:=some 100,op:=Op.load _ _,type:=_,pos:=_,after:=_,guard:=_} _ _ _);refine quiet_held_at (b:=g) (j:=h * 6) (vs:=Ent.cells y) rfl rfl (fun w' hw k u hk=>hvh.out w' (hw.get (A:=rowL (.slice (some ⟨g,0,none⟩) N cap) L) sZ) k u hk) (by kernel_rfl) (by kernel_rfl) ?_));go_frame;go_big_quiet_on)|(refine qL ?_;go_frame;go_big_quiet_on)|(go_big_quiet_op;(first|go_big_quiet_on|((apply Exists.intro);(refine⟨fun w1 hw=> ?_,?_⟩);(focus((have hw:=Cl.out hw);(exact Lock.through0 hw (hcm'.out _))));(go_big_quiet_on))))))));refine wpQuiet_nil ?_;exact rfl) (hm:P.follows .mixedOrders=true:=by kernel_rfl) (hB:Region.lexB .any l.toArray=true:=by kernel_rfl):(Code.region id l.toArray true).wp P Q a w:=Zas (Cl L0 w0 L) hm hB (Cl.drew hA) (Zat (fun a' e w' hw=>e ▸ hK w' hw.out hw.out.facts) l a h)
theorem cl11 {P:Program} {id:Nat} {Q:Exit→Act→World→Prop} {a a1:Act} {w:World} {l:List Oper} {L0 L:List Part} {w0:World} (hA:At L0 w0 L w) (hK:∀w',At L0 w0 L w'→Facts L w'→Q .normal a1 w') (h:wpQuiet P l.toArray (Cl L0 w0 L) (fun a'=>a'=a1) l a:=by have hn1:=Cl.none hA;have hn2:=Cl.none2 hA;(repeat(first|go_big_quiet_skip|(go_big_quiet_want;(first|(refine qM 55 6 ?_;go_frame;go_big_quiet_on)|((first|((with_reducible show Oper.quiet _ {dst:=some 164,op:=Op.load _ _,type:=_,pos:=_,after:=_,guard:=_} _ _ _);refine quiet_held_at (b:=g) (j:=e1 * 6) (vs:=Ent.cells z) rfl rfl (fun w' hw k u hk=>hvz.out w' (hw.get (A:=rowL (.slice (some ⟨g,0,none⟩) N cap) L) sZ) k u hk) (by kernel_rfl) (by kernel_rfl) ?_)|((with_reducible show Oper.quiet _ {dst:=some 168,op:=Op.load _ _,type:=_,pos:=_,after:=_,guard:=_} _ _ _);refine quiet_held_at (b:=g) (j:=h * 6) (vs:=Ent.cells y) rfl rfl (fun w' hw k u hk=>hvh.out w' (hw.get (A:=rowL (.slice (some ⟨g,0,none⟩) N cap) L) sZ) k u hk) (by kernel_rfl) (by kernel_rfl) ?_));go_frame;go_big_quiet_on)|(refine qL ?_;go_frame;go_big_quiet_on)|(go_big_quiet_op;(first|go_big_quiet_on|((apply Exists.intro);(refine⟨fun w1 hw=> ?_,?_⟩);(focus((have hw:=Cl.out hw);(exact Lock.through0 hw (hcm'.out _))));(go_big_quiet_on))))))));refine wpQuiet_nil ?_;exact rfl) (hm:P.follows .mixedOrders=true:=by kernel_rfl) (hB:Region.lexB .any l.toArray=true:=by kernel_rfl):(Code.region id l.toArray true).wp P Q a w:=Zas (Cl L0 w0 L) hm hB (Cl.drew hA) (Zat (fun a' e w' hw=>e ▸ hK w' hw.out hw.out.facts) l a h)
end Go
section
namespace Go
open _root_.Go.Proofs.YtknoefbcmomalaaGreatDoor
open Go.RowKit
theorem Hd {p:Prop} (h:p):RowKit.Hid p:=h
theorem fY {L0 L:List Part} {w0 w:World} {X Y:Prop} (h:At L0 w0 L w) (s:At L0 w0 L w→Facts L w→X∧Y:=by intro hA hF;(try simp only[uY] at hA hF);exact⟨hA,hF⟩):X∧Y:=s h h.facts
theorem wCy {X Y:Nat→World→Prop} {P:Program} {ops:Array Oper} {rest:List Oper} {o:Oper} {a:Act} {Q:Exit→Act→World→Prop} {L0 L:List Part} {w0 w:World} {E:TypeId} {x:Operand} {v:Value} {vs:List Value} (h:At L0 w0 L w) (hK:∀b w',X b w'→w0.heap.size≤b→Y b w'→wpList P ops Q rest (a.put o.dst (.pointer (some ⟨b,0,none⟩))) w') (hg:o.guard=none:=by exact rfl) (hop:o.op=.box E x:=by exact rfl) (hx:a.eval x=v:=by(try simp only[Act.eval,eV])<;>exact rfl) (hv:v.cells=vs.toArray:=by exact rfl) (sq:∀b w',At L0 w0 (Part.cells b vs E::L) w'→Facts (Part.cells b vs E::L) w'→X b w'∧Y b w':=by intro b w' hA hF;(try simp only[uY] at hA hF);exact⟨hA,hF⟩):wpList P ops Q (o::rest) a w:=wC h (fun b w' p q r=>(sq b w' p r).elim fun x y=>hK b w' x q y) hg hop hx hv
theorem wGy {X Y:Nat→World→Prop} {P:Program} {ops:Array Oper} {rest:List Oper} {o:Oper} {a:Act} {Q:Exit→Act→World→Prop} {L0 L:List Part} {w0 w:World} (E:TypeId) (vs:List Value) (h:At L0 w0 L w) (hK:∀b w',X b w'→w0.heap.size≤b→Y b w'→wpList P ops Q rest (a.put o.dst (.pointer (some ⟨b,0,none⟩))) w') (hg:o.guard=none:=by exact rfl) (hop:o.op=.alloc E:=by exact rfl) (hz:(P.info? E).map (·.zero)=some (some (.agg vs.toArray)):=by kernel_rfl) (sq:∀b w',At L0 w0 (Part.cells b vs E::L) w'→Facts (Part.cells b vs E::L) w'→X b w'∧Y b w':=by intro b w' hA hF;(try simp only[uY] at hA hF);exact⟨hA,hF⟩):wpList P ops Q (o::rest) a w:=wG E vs h (fun b w' p q r=>(sq b w' p r).elim fun x y=>hK b w' x q y) hg hop hz
theorem wHy {X Y:Nat→World→Prop} {P:Program} {ops:Array Oper} {rest:List Oper} {o:Oper} {a:Act} {Q:Exit→Act→World→Prop} {L0 L:List Part} {w0 w:World} (E:TypeId) (vs:List Value) {x:Operand} (h:At L0 w0 L w) (hK:∀b w',X b w'→w0.heap.size≤b→Y b w'→wpList P ops Q rest (a.put o.dst (.pointer (some ⟨b,0,none⟩))) w') (hg:o.guard=none:=by exact rfl) (hop:o.op=.box E x:=by exact rfl) (hx:a.eval x=.agg vs.toArray:=by first|(simp[Act.eval,Act.put];done)|exact rfl) (sq:∀b w',At L0 w0 (Part.cells b vs E::L) w'→Facts (Part.cells b vs E::L) w'→X b w'∧Y b w':=by intro b w' hA hF;(try simp only[uY] at hA hF);exact⟨hA,hF⟩):wpList P ops Q (o::rest) a w:=wH E vs h (fun b w' p q r=>(sq b w' p r).elim fun x y=>hK b w' x q y) hg hop hx
theorem wTy {X Y:World→Prop} {P:Program} {ops:Array Oper} {rest:List Oper} {o:Oper} {a:Act} {Q:Exit→Act→World→Prop} {L0 L F:List Part} {w0 w:World} {ty:TypeId} {x y:Operand} {b j:Nat} {v:Value} {vs c:List Value} {T:TypeId} (h:At L0 w0 L w) (hK:∀w',X w'→Y w'→wpList P ops Q rest (a.put o.dst undef) w') (hg:o.guard=none:=by exact rfl) (hop:o.op=.store ty x y:=by exact rfl) (hx:a.eval x=.pointer (some ⟨b,j,none⟩):=by exact rfl) (hy:a.eval y=v:=by(try simp only[Act.eval,eV])<;>exact rfl) (hv:v.cells=vs.toArray:=by exact rfl) (s:Sel (Part.cells b c T) L F:=by with_reducible repeat(first|exact Sel.here|apply Sel.there)) (hi:(P.info? ty).map (·.size)=some vs.length:=by kernel_rfl) (h1:vs.all (·.oneCell')=true:=by exact rfl) (hj:j + vs.length≤c.length:=by first|decide|(simp;done)|omega) (sq:∀w',At L0 w0 (Part.cells b (setL c j vs) T::F) w'→Facts (Part.cells b (setL c j vs) T::F) w'→X w'∧Y w':=by intro w' hA hF;(try simp only[uY] at hA hF);exact⟨hA,hF⟩):wpList P ops Q (o::rest) a w:=wT h (fun w' p r=>(sq w' p r).elim fun x y=>hK w' x y) hg hop hx hy hv s hi h1 hj
theorem g1 {X Y P ops rest o a Q L0 L w0 w}:type_of%(@wGy X Y P ops rest o a Q L0 L w0 w 65 [.int .i64 0,.int .u64 0,.bool false]):=@wGy _ _ _ _ _ _ _ _ _ _ _ _ _ _
theorem g2 {X Y P ops rest o a Q L0 L w0 w}:type_of%(@wGy X Y P ops rest o a Q L0 L w0 w 151 [.bool false,.bool false,.bool false,.bool false,.bool false,.bool false]):=@wGy _ _ _ _ _ _ _ _ _ _ _ _ _ _
theorem g5 {X Y P ops rest o a Q L0 L w0 w}:type_of%(@wGy X Y P ops rest o a Q L0 L w0 w 43 [.int .i64 0,.int .u64 0,.string .empty,.int .u64 0,.string .empty,.int .i64 0,.int .u64 0,.int .i64 0]):=@wGy _ _ _ _ _ _ _ _ _ _ _ _ _ _
theorem g6 {X Y P ops rest o a Q L0 L w0 w}:type_of%(@wGy X Y P ops rest o a Q L0 L w0 w 55 [.string .empty,.int .u64 0,.string .empty,.int .i64 0,.int .u64 0,.int .i64 0]):=@wGy _ _ _ _ _ _ _ _ _ _ _ _ _ _
theorem g7 {X Y P ops rest o a Q L0 L w0 w}:type_of%(@wGy X Y P ops rest o a Q L0 L w0 w 34 [.slice none 0 0]):=@wGy _ _ _ _ _ _ _ _ _ _ _ _ _ _
theorem g8 {X Y P ops rest o a Q L0 L w0 w}:type_of%(@wGy X Y P ops rest o a Q L0 L w0 w 137 [.bool false,.bool false,.int .i64 0,.int .i64 0,.int .i64 0]):=@wGy _ _ _ _ _ _ _ _ _ _ _ _ _ _
theorem g13 {X Y P ops rest o a Q L0 L w0 w}:type_of%(@wGy X Y P ops rest o a Q L0 L w0 w 45 [.int .u64 0,.int .i64 0,.int .u64 0,.bool false]):=@wGy _ _ _ _ _ _ _ _ _ _ _ _ _ _
theorem g14 {X Y P ops rest o a Q L0 L w0 w}:type_of%(@wGy X Y P ops rest o a Q L0 L w0 w 122 [.bool false,.bool false,.bool false,.bool false,.bool false,.bool false,.bool false,.bool false,.bool false,.bool false,.bool false,.bool false,.bool false,.bool false,.bool false,.bool false,.bool false,.bool false,.bool false,.bool false,.bool false,.bool false,.bool false,.bool false,.bool false,.bool false,.bool false,.bool false,.bool false,.bool false,.bool false,.bool false,.bool false,.bool false,.bool false,.bool false,.bool false,.bool false,.bool false,.bool false,.bool false,.bool false,.bool false,.bool false,.bool false,.bool false,.bool false,.bool false,.bool false,.bool false,.bool false,.bool false,.bool false,.bool false]):=@wGy _ _ _ _ _ _ _ _ _ _ _ _ _ _
end Go
end
namespace Go
theorem galD {P:Program} {ops:Array Oper} {Q:Exit→Act→World→Prop} {rest:List Oper} {a:Act} {w:World} (n:Nat) {t p af g x} (h:wpList P ops Q ({dst:=some n,op:=.alloc x,type:=t,pos:=p,after:=af,guard:=g}::rest) a w):wpList P ops Q ({dst:=some n,op:=.alloc x,type:=t,pos:=p,after:=af,guard:=g}::rest) a w:=h
end Go
namespace Go
theorem gbxD {P:Program} {ops:Array Oper} {Q:Exit→Act→World→Prop} {rest:List Oper} {a:Act} {w:World} (n:Nat) {t p af g x y} (h:wpList P ops Q ({dst:=some n,op:=.box x y,type:=t,pos:=p,after:=af,guard:=g}::rest) a w):wpList P ops Q ({dst:=some n,op:=.box x y,type:=t,pos:=p,after:=af,guard:=g}::rest) a w:=h
end Go
end
