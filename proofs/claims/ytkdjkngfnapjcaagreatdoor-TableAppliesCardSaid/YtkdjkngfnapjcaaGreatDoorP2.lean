/- Row2, Row4, MapW, joined. -/
import Derived.Test.YtkdjkngfnapjcaaGreatDoorP1
set_option linter.unusedSimpArgs false
set_option linter.unusedVariables false
set_option maxRecDepth 100000
set_option maxHeartbeats 16000000
namespace Go.Proofs.YtkdjkngfnapjcaaGreatDoor
section
section
open Go.RowKit
section
variable {P:Program} {ops:Array Oper} {rest:List Oper} {o:Oper} {a:Act} {Q:Exit→Act→World→Prop} {w:World} {e:TypeId} {size n:Nat} {v:Value} {xs:List Value}
theorem ZiI {base:Nat} (h:w.ownsRow base e size v n xs):∃ax cap,v=.slice ax n cap∧n≤cap∧cap≤maxLen∧xs.length=n * size∧(ax=none∧n=0∧cap=0∨∃g,ax=some ⟨g,0,none⟩∧∀j u,xs[j]? =some u→w.cell? ⟨g,j,none⟩=some u):=by
 rcases h.2 with⟨rfl,rfl⟩|⟨g,cap,cur,rfl,hb,hh,hc,hm,hs,ht⟩
 · exact⟨none,0,rfl,Nat.le_refl _,Nat.zero_le _,h.1,.inl ⟨rfl,rfl,rfl⟩⟩
 refine⟨_,cap,rfl,hc,hm,h.1,.inr ⟨g,rfl,fun j u hj=> ?_⟩⟩
 have:=h.cells (g:=g) rfl j u hj;rw[Addr.add_lit,Nat.zero_add] at this;exact this
theorem ZgE {t:TypeId} {i:TypeInfo} (ht:P.underlying t=some (.slice e)) (hi:P.info? e=some i) (hsize:i.size=size) (hr:w.ownsRow 0 e size v n xs) (k:Nat) (hk:k≤n):
 ∃xv,(Instr.sliceAt t v none (some (.int .i64 k)) none).run P w=.ok xv w∧Reads w xv k (xs.take (k * size)):=by
 obtain⟨ax,cap,rfl,hc,hm,hl,hx⟩:=ZiI hr
 have hz:∀w,(sizeOf e).run P w=.ok size w:=fun w=>by simp[sizeOf,typeInfo,hi,hsize]
 refine⟨.slice (if cap=0 then ax else ax.map (·.add (0 * size))) k cap,?_,?_⟩
 · simp[Instr.sliceAt,Instr.slice,run_underlying ht,Instr.sliceBounds,run_sliceBound,hz,Result.andThen,show(k:Int)≤cap by omega]
 rcases hx with⟨rfl,rfl,rfl⟩|⟨g,rfl,hcell⟩
 · have:xs=[]:=List.eq_nil_of_length_eq_zero (by simpa using hl)
   subst this;exact⟨_,_,rfl,fun _=>by omega,fun j u hj=>by simp at hj⟩
 refine⟨_,_,rfl,?_,fun j u hj=>⟨g,0,?_,?_⟩⟩
 · intro h;split at h<;>simp at h
 · split<;>simp[Addr.add]
 rw[Nat.zero_add];rw[List.getElem?_take] at hj
 split at hj
 · exact hcell j u hj
 exact nomatch hj
theorem ZeV {t:TypeId} {i:TypeInfo} (ht:P.underlying t=some (.slice e)) (hi:P.info? e=some i) (hsize:i.size=size) (hr:w.ownsRow 0 e size v n xs) (k:Nat) (hk:k≤n):
 ∃xv,(Instr.sliceAt t v (some (.int .i64 k)) none none).run P w=.ok xv w∧Reads w xv (n - k) (xs.drop (k * size)):=by
 obtain⟨ax,cap,rfl,hc,hm,hl,hx⟩:=ZiI hr
 have hz:∀w,(sizeOf e).run P w=.ok size w:=fun w=>by simp[sizeOf,typeInfo,hi,hsize]
 refine⟨.slice (if cap=k then ax else ax.map (·.add (k * size))) (n - k) (cap - k),?_,?_⟩
 · simp[Instr.sliceAt,Instr.slice,run_underlying ht,Instr.sliceBounds,run_sliceBound,hz,Result.andThen,show(k:Int)≤n by omega]
 rcases hx with⟨rfl,rfl,rfl⟩|⟨g,rfl,hcell⟩
 · have:xs=[]:=List.eq_nil_of_length_eq_zero (by simpa using hl)
   subst this;exact⟨_,_,rfl,fun _=>by omega,fun j u hj=>by simp at hj⟩
 refine⟨_,_,rfl,?_,fun j u hj=>⟨g,if cap=k then 0 else k * size,?_,?_⟩⟩
 · intro h;split at h<;>simp at h
 · split
   · rfl
   rw[Option.map_some,Addr.add_lit,Nat.zero_add]
 have hjl:=(List.getElem?_eq_some_iff.1 hj).1;rw[List.length_drop,hl] at hjl
 have hne:cap≠k:=by
  intro h
  have:n=k:=by omega
  subst this
  omega
 rw[if_neg hne];rw[List.getElem?_drop] at hj;exact hcell _ u hj
theorem ZaU {t:TypeId} {i:TypeInfo} {x hi':Operand} {k:Nat} (hg:o.guard=none) (hop:o.op=.slice t x none (some hi') none) (ht:P.underlying t=some (.slice e)) (hi:P.info? e=some i) (hsize:i.size=size) (hx:a.eval x=v) (hh:a.eval hi'=.int .i64 k)
 (hr:w.ownsRow 0 e size v n xs) (hk:k≤n) (hK:∀xv,Reads w xv k (xs.take (k * size))→wpList P ops Q rest (a.put o.dst xv) w):wpList P ops Q (o::rest) a w:=by
 obtain⟨xv,h1,h2⟩:=ZgE (P:=P) ht hi hsize hr k hk;refine Zak hg ?_ (hK xv h2);simp[execOp,hop,hx,hh,h1,Result.andThen]
theorem ZaM {t:TypeId} {i:TypeInfo} {x lo:Operand} {k:Nat} (hg:o.guard=none) (hop:o.op=.slice t x (some lo) none none) (ht:P.underlying t=some (.slice e)) (hi:P.info? e=some i) (hsize:i.size=size) (hx:a.eval x=v) (hh:a.eval lo=.int .i64 k)
 (hr:w.ownsRow 0 e size v n xs) (hk:k≤n) (hK:∀xv,Reads w xv (n - k) (xs.drop (k * size))→wpList P ops Q rest (a.put o.dst xv) w):wpList P ops Q (o::rest) a w:=by
 obtain⟨xv,h1,h2⟩:=ZeV (P:=P) ht hi hsize hr k hk;refine Zak hg ?_ (hK xv h2);simp[execOp,hop,hx,hh,h1,Result.andThen]
end
end
end
section
section
open Go.RowKit
section
variable {α:Type} {enc:α→List Value} {size:Nat}
theorem Zbh (hs:∀x,(enc x).length=size):∀(l:List α) (k:Nat),(l.flatMap enc).take (k * size)=(l.take k).flatMap enc
 |[],k=>by simp
 |x::l,0=>by simp
 |x::l,k + 1=>by
  rw[List.take_succ_cons,List.flatMap_cons,List.flatMap_cons,←Zbh hs l k,List.take_append,List.take_of_length_le (by rw[hs,Nat.add_mul];omega),hs,show(k + 1) * size - size=k * size by rw[Nat.add_mul];omega]
theorem ZbG (hs:∀x,(enc x).length=size):∀(l:List α) (k:Nat),(l.flatMap enc).drop (k * size)=(l.drop k).flatMap enc
 |[],k=>by simp
 |x::l,0=>by simp
 |x::l,k + 1=>by
  rw[List.drop_succ_cons,List.flatMap_cons,←ZbG hs l k,List.drop_append,List.drop_eq_nil_of_le (by rw[hs,Nat.add_mul];omega),hs,show(k + 1) * size - size=k * size by rw[Nat.add_mul];omega,List.nil_append]
theorem ZaK (h:∀x,∀u ∈ enc x,u.oneCell'=true) (l:List α):∀u ∈ l.flatMap enc,u.oneCell'=true:=by
 intro u hu;obtain⟨x,_,hx⟩:=List.mem_flatMap.1 hu;exact h x u hx
theorem Zl3 (E:TypeId) (v:Value) (l1 l2:List α):Part.row E size v (l1.length + l2.length) (l1.flatMap enc++l2.flatMap enc)=Part.row E size v (l1++l2).length ((l1++l2).flatMap enc):=by simp
theorem Zep (E:TypeId) (v:Value) (l:List α) (x:α):Part.row E size v (l.length + 1) (l.flatMap enc++enc x)=Part.row E size v (l++[x]).length ((l++[x]).flatMap enc):=by simp
end
inductive Picks:List Part→List Part→Prop
 |nil {L:List Part}:Picks L []
 |cons {A:Part} {L F K:List Part}:Sel A L F→Picks F K→Picks L (A::K)
theorem Picks.perm {L K:List Part} (p:Picks L K):∃F,L.Perm (K++F):=by
 induction p with
 |nil=>exact⟨_,.refl _⟩
 |cons s _ ih=>
  obtain⟨F,hF⟩:=ih;exact⟨F,s.perm.trans (hF.cons _)⟩
theorem At.pick {L0 L K:List Part} {w0 w:World} (h:At L0 w0 L w) (p:Picks L K):At L0 w0 K w:=by
 obtain⟨F,hF⟩:=p.perm;exact(h.perm hF).sub (List.sublist_append_left _ _)
theorem At.seps {L0 L K:List Part} {w0 w:World} (h:At L0 w0 L w) (p:Picks L K):Sep K w:=(h.pick p).sep
theorem Sep.pick {L K:List Part} {w:World} (h:Sep L w) (p:Picks L K):Sep K w:=(At.start h).seps p
theorem At.row_hid {L0 L F:List Part} {w0 w:World} {e:TypeId} {size n:Nat} {v:Value} {xs:List Value} (h:At L0 w0 L w) (s:Sel (Part.row e size v n xs) L F):∃ax k cap,v=.slice ax k cap∧Hid (k=n):=by
 obtain⟨ax,cap,rfl,_,_,_⟩:=h.row_form s;exact⟨ax,n,cap,rfl,Hd rfl⟩
section
variable {α:Type} {p:α→Bool}
theorem Zfz:∀{l:List α} {i:Nat},i≤l.length→(∀x ∈ l.take i,p x=true)→(∀h:i < l.length,p l[i]=false)→l.takeWhile p=l.take i∧l.dropWhile p=l.drop i
 |[],i,_,_,_=>by simp
 |y::l,0,_,_,h2=>by
  have:=h2 (by simp)
  simp at this
  simp[this]
 |y::l,i + 1,hi,h1,h2=>by
  have hy:=h1 y (by simp);have:=Zfz (l:=l) (i:=i) (by simpa using hi) (fun x hx=>h1 x (by simp[hx])) (fun h=>h2 (by simp;exact h));simp[hy,this]
end
end
section
theorem pZ {L K:List Part} (h:Picks L K:=by repeat(first|exact Picks.nil|refine Picks.cons (by repeat(first|exact Sel.here|apply Sel.there)) ?_)):Picks L K:=h
end
section
theorem pR {L K:List Part} (h:Picks L K:=by with_reducible repeat(first|exact Picks.nil|refine Picks.cons sR ?_)):Picks L K:=h
end
end
section
section
open Go.RowKit
open Go.Maps (Keyed)
section
variable {P:Program} {k:TypeId} {w:World} {b:Nat} {es:List (Value × Value)}
theorem MapAt.run_len (h:MapAt P k w b es) {t e:TypeId} (ht:P.underlying t=some (.map k e)) (ty:TypeId):(Builtin.len_ #[t] ty #[.map (some b)]).run P w=.ok (.int .i64 es.length) w:=by
 obtain⟨ents,clock,hb,hl⟩:=h.len;simp[Builtin.len_,run_underlying ht,MapKept.run_getObj_map hb,Result.andThen,goInt,hl]
variable {ops:Array Oper} {rest:List Oper} {o:Oper} {a:Act} {Q:Exit→Act→World→Prop} {L0 L F:List Part} {w0:World}
theorem Zbi {t:TypeId} {m:Operand} (hg:o.guard=none) (hop:o.op=Op.call {callee:=Callee.builtin Builtin.len,args:= #[m],argTypes:= #[t]}) (hm:a.eval m=.map (some b))
 (h:At L0 w0 L w) (s:Sel (Part.map P k b es) L F) {e:TypeId} (ht:P.underlying t=some (.map k e))
 (hK:wpList P ops Q rest (a.put o.dst (.int .i64 es.length)) w):wpList P ops Q (o::rest) a w:=by
 have hM:MapAt P k w b es:=h.get s;refine Zak hg ?_ hK;simp[execOp,hop,resolve,invoke,builtin,hm,hM.run_len ht o.type,Result.andThen]
theorem Zbz {t:TypeId} {m x:Operand} (hg:o.guard=none) (hop:o.op=.lookup t m x true) (hm:a.eval m=.map (some b)) {key:Value} (hx:a.eval x=key)
 (h:At L0 w0 L w) (s:Sel (Part.map P k b es) L F) {e:TypeId} (K:Keyed P k) (ht:P.underlying t=some (.map k e)) {kl:Lit} (hk:keyOf P k key=some kl) (hn:∀p ∈ es,p.1≠key) {z:Value} (hz:∀w,(zeroValue e).run P w=.ok z w)
 (hK:wpList P ops Q rest (a.put o.dst (.tuple #[z,.bool false])) w):wpList P ops Q (o::rest) a w:=by
 have hM:MapAt P k w b es:=h.get s;refine Zak hg ?_ hK;simp[execOp,hop,hm,hx,hM.look_none K ht hk hn (hz w) true,Result.andThen]
theorem Zby {t:TypeId} {m x:Operand} (hg:o.guard=none) (hop:o.op=.lookup t m x true) (hm:a.eval m=.map (some b)) {key:Value} (hx:a.eval x=key)
 (h:At L0 w0 L w) (s:Sel (Part.map P k b es) L F) {e:TypeId} (K:Keyed P k) (ht:P.underlying t=some (.map k e)) {kl:Lit} (hk:keyOf P k key=some kl) {v:Value} (hn:(key,v) ∈ es)
 (hK:wpList P ops Q rest (a.put o.dst (.tuple #[v,.bool true])) w):wpList P ops Q (o::rest) a w:=by
 have hM:MapAt P k w b es:=h.get s;refine Zak hg ?_ hK;simp[execOp,hop,hm,hx,hM.look_some K ht hk hn true,Result.andThen]
theorem ZaN {t:TypeId} {m x y:Operand} (hg:o.guard=none) (hop:o.op=.mapUpdate t m x y) (hm:a.eval m=.map (some b)) {key val:Value} (hx:a.eval x=key) (hy:a.eval y=val)
 (h:At L0 w0 L w) (s:Sel (Part.map P k b es) L F) {e:TypeId} (K:Keyed P k) (ht:P.underlying t=some (.map k e)) {kl:Lit} (hk:keyOf P k key=some kl) (hn:∀p ∈ es,p.1≠key)
 (hK:∀w',At L0 w0 (Part.map P k b (es++[(key,val)])::F) w'→wpList P ops Q rest (a.put o.dst undef) w'):wpList P ops Q (o::rest) a w:=by
 have hM:MapAt P k w b es:=h.get s;obtain⟨w',h1,h2,h3⟩:=hM.put_new K ht hk hn val;refine ZcM hg ?_ (hK w' (h.turn s _ h2 (fun _ e=>.inl e) h3));simp[execOp,hop,hm,hx,hy,h1,Result.andThen]
theorem ZcN {t:TypeId} {m x y:Operand} (hg:o.guard=none) (hop:o.op=.mapUpdate t m x y) (hm:a.eval m=.map (some b)) {key val u:Value} {l1 l2:List (Value × Value)} (hx:a.eval x=key) (hy:a.eval y=val)
 (h:At L0 w0 L w) (s:Sel (Part.map P k b (l1++(key,u)::l2)) L F) {e:TypeId} (K:Keyed P k) (ht:P.underlying t=some (.map k e)) {kl:Lit} (hk:keyOf P k key=some kl)
 (hK:∀w',At L0 w0 (Part.map P k b (l1++(key,val)::l2)::F) w'→wpList P ops Q rest (a.put o.dst undef) w'):wpList P ops Q (o::rest) a w:=by
 have hM:MapAt P k w b (l1++(key,u)::l2):=h.get s;obtain⟨w',h1,h2,h3⟩:=hM.put_there K ht hk val;refine ZcM hg ?_ (hK w' (h.turn s _ h2 (fun _ e=>.inl e) h3));simp[execOp,hop,hm,hx,hy,h1,Result.andThen]
theorem Za6 {t:TypeId} (P:Program) (k:TypeId) (hg:o.guard=none) (hop:o.op=.makeMap t none) (h:At L0 w0 L w)
 (hK:∀b w',At L0 w0 (Part.map P k b []::L) w'→w0.heap.size≤b→wpList P ops Q rest (a.put o.dst (.map (some b))) w'):wpList P ops Q (o::rest) a w:=by
 refine Zak hg ?_ (hK _ _ (h.new ((Ext.refl w).alloc (.map #[] 0)) _ (MapAt.made P k w) (fun _ e=>by cases e;exact Nat.le_refl _)) h.size);simp[execOp,hop,run_makeMap,Result.andThen]
theorem ZaV {t:TypeId} {m:Operand} (hg:o.guard=none) (hop:o.op=.range t m) (hm:a.eval m=.map (some b)) (h:At L0 w0 L w) (s:Sel (Part.map P k b es) L F) {e:TypeId} (ht:P.underlying t=some (.map k e))
 (hK:∀r w',At L0 w0 (Part.iter P k r b es []::F) w'→w0.heap.size≤r→wpList P ops Q rest (a.put o.dst (.pointer (some ⟨r,0,none⟩))) w'):wpList P ops Q (o::rest) a w:=by
 have hM:MapAt P k w b es:=h.get s
 obtain⟨w',h1,h2,h3⟩:=hM |> fun q=>Zas.start q ht
 refine Zak hg ?_ (hK _ w' (h.turn s (Part.iter P k w.heap.size b es []) h3 (fun q e=> ?_) (h2.exc _)) h.size)
 · simp[execOp,hop,hm,h1,Result.andThen]
 rcases e with e|e
 · exact .inl e
 exact .inr (by omega)
theorem Za9 {r:Nat} {done:List (Value × Value)} {it:Operand} (hg:o.guard=none) (hop:o.op=.next it false) (hi:a.eval it=.pointer (some ⟨r,0,none⟩)) (h:At L0 w0 L w) (s:Sel (Part.iter P k r b es done) L F)
 (hEnd:es.Perm done→wpList P ops Q rest (a.put o.dst (.tuple #[.bool false])) w)
 (hK:∀p w',p ∈ es→(∀q ∈ done,q.1≠p.1)→At L0 w0 (Part.iter P k r b es (done++[p])::F) w'→wpList P ops Q rest (a.put o.dst (.tuple #[.bool true,p.1,p.2])) w'):wpList P ops Q (o::rest) a w:=by
 have hI:Zas P k w r b es done:=h.get s
 rcases hI.next o.type with⟨h1,h2⟩|⟨p,w',h1,h2,h3,h4,h5⟩
 · refine Zak hg ?_ (hEnd h1)
   simp[execOp,hop,hi,h2,Result.andThen]
 refine Zak hg ?_ (hK p w' h1 h2 (h.turn s (Part.iter P k r b es (done++[p])) h4 (fun q e=>.inl e) (h5.mono (fun _ _ e=>.inr e))));simp[execOp,hop,hi,h3,Result.andThen]
theorem At.ranged {r:Nat} {done:List (Value × Value)} (h:At L0 w0 L w) (s:Sel (Part.iter P k r b es done) L F):At L0 w0 (Part.map P k b es::F) w:=by
 have hI:Zas P k w r b es done:=h.get s;exact h.turn s (Part.map P k b es) hI.1 (fun _ e=>.inl (.inl e)) (Exc.refl _ _)
end
end
end
end Go.Proofs.YtkdjkngfnapjcaaGreatDoor
