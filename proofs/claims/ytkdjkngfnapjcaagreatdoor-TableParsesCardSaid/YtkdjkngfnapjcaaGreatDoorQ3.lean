/- RegA, MapW, RegE, joined. -/
import Derived.Test.YtkdjkngfnapjcaaGreatDoorQ0
import Derived.Test.YtkdjkngfnapjcaaGreatDoorQ1
import Derived.OrdersHeld
set_option linter.unusedSimpArgs false
set_option linter.unusedVariables false
set_option maxRecDepth 100000
set_option maxHeartbeats 16000000
section
namespace Go
section
variable {P:Program} {ops:Array Oper} {md:Region.Mode} {C:World→Prop}
def Za3 (m n:Nat):Array Bool:=((List.range m).map fun j=>decide (j < n)).toArray
theorem ZkF {n:Nat} {listed:Array Bool} (hsz:listed.size=ops.size) (h1:∀j,j < n→listed.getD j false=true) (h2:∀t,n≤t→t < ops.size→listed.getD t true=false):listed=Za3 ops.size n:=by
 apply Array.ext
 · simp[Za3,hsz]
 intro i hi hi2
 have e1:(Za3 ops.size n)[i]=decide (i < n):=by simp[Za3]
 rw[e1]
 by_cases h:i < n
 · have:=h1 i h
   simp[hi] at this;simp[this,h]
 have:=h2 i (by omega) (by omega)
 simp[hi] at this;simp[this,h]
def headB (md:Region.Mode) (ops:Array Oper):Nat→Nat→Array Bool→Bool
 |0,_,_=>true
 |f + 1,k,listed=>((Region.ready md ops listed).contains k&&Region.free md ops listed k)&&headB md ops f (k + 1) (listed.setIfInBounds k true)
theorem Zdu {n:Nat}:∀j ∈ Region.ready md ops (Za3 ops.size n),n≤j:=fun j hj=>by
 obtain⟨hun,oj,hoj,_⟩:=mem_ready.1 hj;have hjs:j < ops.size:=(Array.getElem?_eq_some_iff.1 hoj).1
 rcases Nat.lt_or_ge j n with h|h
 · simp[Za3,hjs,h] at hun
 exact h
theorem Zcl {Q:Exit→Act→World→Prop} {i:Nat} {o:Oper} {K:Act→World→Prop} {a:Act} {w:World} (ho:ops[i]? =some o) (hw:Region.wanted o (yielded ops a.tmps)=true) {v:Value} {w':World} (hrun:(execOp a.eval o).run P w=.ok (.value v) w') (hK:K (a.put o.dst v) w'):wpOp P ops Q i K a w:=by
 unfold wpOp;simp only[ho,hw,if_true]
 left
 unfold Oper.wp;rw[hrun];exact hK
theorem Zga {Q:Exit→Act→World→Prop} {i:Nat} {o:Oper} {K:Act→World→Prop} {a:Act} {w:World} (ho:ops[i]? =some o) (hw:Region.wanted o (yielded ops a.tmps)=true) {w':World} (hrun:(execOp a.eval o).run P w=.ok .skip w') (hK:K (a.put o.dst undef) w'):wpOp P ops Q i K a w:=by
 unfold wpOp;simp only[ho,hw,if_true]
 left
 unfold Oper.wp;rw[hrun];exact hK
theorem ZjH {Q:Exit→Act→World→Prop} {i:Nat} {o:Oper} {K:Act→World→Prop} {a:Act} {w:World} (ho:ops[i]? =some o) (hw:Region.wanted o (yielded ops a.tmps)=true) {fn:FuncId} {args:Array Value} (hrun:(execOp a.eval o).run P w=.ok (.enter fn args) w) {R:Ending→World→Prop} (hc:Calls P fn args w R) (hK:∀e w',R e w'→∃v,e=.returned v∧K (a.put o.dst v) w'):wpOp P ops Q i K a w:=by
 unfold wpOp;simp only[ho,hw,if_true]
 left
 unfold Oper.wp;rw[hrun]
 exact hc.mono fun e w' h=>by
  obtain⟨v,rfl,h2⟩:=hK e w' h;exact h2
end
end Go
end
namespace Go.Proofs.YtkdjkngfnapjcaaGreatDoor
section
section
open Go.RowKit
open Go.Maps (Keyed)
section
variable {P:Program} {k:TypeId} {w:World} {b:Nat} {es:List (Value × Value)}
theorem MapAt.run_len (h:MapAt P k w b es) {t e:TypeId} (ht:P.underlying t=some (.map k e)) (ty:TypeId):(Builtin.len_ #[t] ty #[.map (some b)]).run P w=.ok (.int .i64 es.length) w:=by
 obtain⟨ents,clock,hb,hl⟩:=h.len;simp[Builtin.len_,run_underlying ht,MapKept.run_getObj_map hb,Result.andThen,goInt,hl]
variable {ops:Array Oper} {rest:List Oper} {o:Oper} {a:Act} {Q:Exit→Act→World→Prop} {L0 L F:List Part} {w0:World}
theorem Za9 {t:TypeId} {m:Operand} (hg:o.guard=none) (hop:o.op=Op.call {callee:=Callee.builtin Builtin.len,args:= #[m],argTypes:= #[t]}) (hm:a.eval m=.map (some b))
 (h:At L0 w0 L w) (s:Sel (Part.map P k b es) L F) {e:TypeId} (ht:P.underlying t=some (.map k e))
 (hK:wpList P ops Q rest (a.put o.dst (.int .i64 es.length)) w):wpList P ops Q (o::rest) a w:=by
 have hM:MapAt P k w b es:=h.get s;refine Zak hg ?_ hK;simp[execOp,hop,resolve,invoke,builtin,hm,hM.run_len ht o.type,Result.andThen]
theorem Zbz {t:TypeId} {m x:Operand} (hg:o.guard=none) (hop:o.op=.lookup t m x true) (hm:a.eval m=.map (some b)) {key:Value} (hx:a.eval x=key)
 (h:At L0 w0 L w) (s:Sel (Part.map P k b es) L F) {e:TypeId} (K:Keyed P k) (ht:P.underlying t=some (.map k e)) {kl:Lit} (hk:keyOf P k key=some kl) (hn:∀p ∈ es,p.1≠key) {z:Value} (hz:∀w,(zeroValue e).run P w=.ok z w)
 (hK:wpList P ops Q rest (a.put o.dst (.tuple #[z,.bool false])) w):wpList P ops Q (o::rest) a w:=by
 have hM:MapAt P k w b es:=h.get s;refine Zak hg ?_ hK;simp[execOp,hop,hm,hx,hM.look_none K ht hk hn (hz w) true,Result.andThen]
theorem Zby {t:TypeId} {m x:Operand} (hg:o.guard=none) (hop:o.op=.lookup t m x true) (hm:a.eval m=.map (some b)) {key:Value} (hx:a.eval x=key)
 (h:At L0 w0 L w) (s:Sel (Part.map P k b es) L F) {e:TypeId} (K:Keyed P k) (ht:P.underlying t=some (.map k e)) {kl:Lit} (hk:keyOf P k key=some kl) {v:Value} (hn:(key,v) ∈ es)
 (hK:wpList P ops Q rest (a.put o.dst (.tuple #[v,.bool true])) w):wpList P ops Q (o::rest) a w:=by
 have hM:MapAt P k w b es:=h.get s;refine Zak hg ?_ hK;simp[execOp,hop,hm,hx,hM.look_some K ht hk hn true,Result.andThen]
theorem Zao {t:TypeId} {m x y:Operand} (hg:o.guard=none) (hop:o.op=.mapUpdate t m x y) (hm:a.eval m=.map (some b)) {key val:Value} (hx:a.eval x=key) (hy:a.eval y=val)
 (h:At L0 w0 L w) (s:Sel (Part.map P k b es) L F) {e:TypeId} (K:Keyed P k) (ht:P.underlying t=some (.map k e)) {kl:Lit} (hk:keyOf P k key=some kl) (hn:∀p ∈ es,p.1≠key)
 (hK:∀w',At L0 w0 (Part.map P k b (es++[(key,val)])::F) w'→wpList P ops Q rest (a.put o.dst undef) w'):wpList P ops Q (o::rest) a w:=by
 have hM:MapAt P k w b es:=h.get s;obtain⟨w',h1,h2,h3⟩:=hM.put_new K ht hk hn val;refine ZcC hg ?_ (hK w' (h.turn s _ h2 (fun _ e=>.inl e) h3));simp[execOp,hop,hm,hx,hy,h1,Result.andThen]
theorem Zbx {t:TypeId} {m x y:Operand} (hg:o.guard=none) (hop:o.op=.mapUpdate t m x y) (hm:a.eval m=.map (some b)) {key val u:Value} {l1 l2:List (Value × Value)} (hx:a.eval x=key) (hy:a.eval y=val)
 (h:At L0 w0 L w) (s:Sel (Part.map P k b (l1++(key,u)::l2)) L F) {e:TypeId} (K:Keyed P k) (ht:P.underlying t=some (.map k e)) {kl:Lit} (hk:keyOf P k key=some kl)
 (hK:∀w',At L0 w0 (Part.map P k b (l1++(key,val)::l2)::F) w'→wpList P ops Q rest (a.put o.dst undef) w'):wpList P ops Q (o::rest) a w:=by
 have hM:MapAt P k w b (l1++(key,u)::l2):=h.get s;obtain⟨w',h1,h2,h3⟩:=hM.put_there K ht hk val;refine ZcC hg ?_ (hK w' (h.turn s _ h2 (fun _ e=>.inl e) h3));simp[execOp,hop,hm,hx,hy,h1,Result.andThen]
theorem ZaJ {t:TypeId} (P:Program) (k:TypeId) (hg:o.guard=none) (hop:o.op=.makeMap t none) (h:At L0 w0 L w)
 (hK:∀b w',At L0 w0 (Part.map P k b []::L) w'→w0.heap.size≤b→wpList P ops Q rest (a.put o.dst (.map (some b))) w'):wpList P ops Q (o::rest) a w:=by
 refine Zak hg ?_ (hK _ _ (h.new ((Ext.refl w).alloc (.map #[] 0)) _ (MapAt.made P k w) (fun _ e=>by cases e;exact Nat.le_refl _)) h.size);simp[execOp,hop,run_makeMap,Result.andThen]
theorem ZaI {t:TypeId} {m:Operand} (hg:o.guard=none) (hop:o.op=.range t m) (hm:a.eval m=.map (some b)) (h:At L0 w0 L w) (s:Sel (Part.map P k b es) L F) {e:TypeId} (ht:P.underlying t=some (.map k e))
 (hK:∀r w',At L0 w0 (Part.iter P k r b es []::F) w'→w0.heap.size≤r→wpList P ops Q rest (a.put o.dst (.pointer (some ⟨r,0,none⟩))) w'):wpList P ops Q (o::rest) a w:=by
 have hM:MapAt P k w b es:=h.get s
 obtain⟨w',h1,h2,h3⟩:=hM |> fun q=>Zam.start q ht
 refine Zak hg ?_ (hK _ w' (h.turn s (Part.iter P k w.heap.size b es []) h3 (fun q e=> ?_) (h2.exc _)) h.size)
 · simp[execOp,hop,hm,h1,Result.andThen]
 rcases e with e|e
 · exact .inl e
 exact .inr (by omega)
theorem ZaV {r:Nat} {done:List (Value × Value)} {it:Operand} (hg:o.guard=none) (hop:o.op=.next it false) (hi:a.eval it=.pointer (some ⟨r,0,none⟩)) (h:At L0 w0 L w) (s:Sel (Part.iter P k r b es done) L F)
 (hEnd:es.Perm done→wpList P ops Q rest (a.put o.dst (.tuple #[.bool false])) w)
 (hK:∀p w',p ∈ es→(∀q ∈ done,q.1≠p.1)→At L0 w0 (Part.iter P k r b es (done++[p])::F) w'→wpList P ops Q rest (a.put o.dst (.tuple #[.bool true,p.1,p.2])) w'):wpList P ops Q (o::rest) a w:=by
 have hI:Zam P k w r b es done:=h.get s
 rcases hI.next o.type with⟨h1,h2⟩|⟨p,w',h1,h2,h3,h4,h5⟩
 · refine Zak hg ?_ (hEnd h1)
   simp[execOp,hop,hi,h2,Result.andThen]
 refine Zak hg ?_ (hK p w' h1 h2 (h.turn s (Part.iter P k r b es (done++[p])) h4 (fun q e=>.inl e) (h5.mono (fun _ _ e=>.inr e))));simp[execOp,hop,hi,h3,Result.andThen]
theorem At.ranged {r:Nat} {done:List (Value × Value)} (h:At L0 w0 L w) (s:Sel (Part.iter P k r b es done) L F):At L0 w0 (Part.map P k b es::F) w:=by
 have hI:Zam P k w r b es done:=h.get s;exact h.turn s (Part.map P k b es) hI.1 (fun _ e=>.inl (.inl e)) (Exc.refl _ _)
end
end
end
end Go.Proofs.YtkdjkngfnapjcaaGreatDoor
section
namespace Go
open _root_.Go.Proofs.YtkdjkngfnapjcaaGreatDoor
open Go.RowKit
section
variable {P:Program} {ops:Array Oper} {Q:Exit→Act→World→Prop} {md:Region.Mode} {S:World→Prop} {L0 L F:List Part} {w0 w:World}
theorem Zac {i fuel:Nat} {listed:Array Bool} {a:Act} (hr:Region.ready md ops listed=[i]) (h:wpOp P ops Q i (fun a' w'=>S w'∧wpAnyH P md ops Q S fuel (listed.setIfInBounds i true) a' w') a w):wpAnyH P md ops Q S (fuel + 1) listed a w:=
 wpAnyH_all hr (by simp) (fun k hk=>by rw[List.mem_singleton.1 hk];exact h)
theorem ZbM {i j fuel:Nat} {listed:Array Bool} {a:Act} (hr:Region.ready md ops listed=[i,j]) (h1:wpOp P ops Q i (fun a' w'=>S w'∧wpAnyH P md ops Q S fuel (listed.setIfInBounds i true) a' w') a w)
 (h2:wpOp P ops Q j (fun a' w'=>S w'∧wpAnyH P md ops Q S fuel (listed.setIfInBounds j true) a' w') a w):wpAnyH P md ops Q S (fuel + 1) listed a w:=
 wpAnyH_all hr (by simp) (fun k hk=>by
  rcases List.mem_cons.1 hk with rfl|hk
  · exact h1
  rw[List.mem_singleton.1 hk];exact h2)
theorem Zdp {i:Nat} {oi:Oper} {v:Value} {d:Option Tmp} {fuel:Nat} {listed:Array Bool} {a:Act} (hi:ops[i]? =some oi) (hd:oi.dst=d)
 (hs:Region.noSelect ops=true) (hf:Region.free md ops listed i=true) (hr:(Region.ready md ops listed).contains i=true)
 (hQ:∀c a w,Q (.panic c) (a.put oi.dst v) w→Q (.panic c) a w) (hw:Region.wanted oi (yielded ops a.tmps)=true) (hrun:∀w,S w→(execOp a.eval oi).run P w=.ok (.value v) w) (hS:S w)
 (h:wpAnyH P md ops Q S fuel (listed.setIfInBounds i true) (a.put d v) w):wpAnyH P md ops Q S (fuel + 1) listed a w:=by
 subst hd;exact wpAnyH_take hi hs hf hr hQ (.inl ⟨hw,hrun⟩) hS h
theorem ZbZ {k:Nat} {d:Option Tmp} {o:Oper} {a:Act} {K:Act→World→Prop} {e:TypeId} {size n:Nat} {v:Value} {xs:List Value} {i:TypeInfo} {z:Value} {bytes:Nat} (hok:ops[k]? =some o) (hd:o.dst=d) (hw:Region.wanted o (yielded ops a.tmps)=true) (hg:o.guard=none) (s' x:Operand) (t:TypeId) (ho:o.op=.call {callee:=.builtin .append,args:= #[s',x],argTypes:= #[t,t]})
 (ht:P.underlying t=some (.slice e)) (hi:P.info? e=some i) (hz:i.zero=some z) (hsize:i.size=size) (hby:i.bytes=bytes) (hzs:z.cells.size=size) (hsz:0 < size)
 (h:At L0 w0 L w) (s:Sel (Part.row e size v n xs) L F) (hs:a.eval s'=v) {xv:Value} {m:Nat} {news:List Value} (hxv:a.eval x=xv) (hl:news.length=m * size) (hx:Reads w xv m news) (h1:∀u ∈ news,u.oneCell'=true)
 (h63:n + m≤maxLen) (hbytes:(n + m) * bytes≤140737488355328)
 (hK:∀v' w',At L0 w0 (Part.row e size v' (n + m) (xs++news)::F) w'→K (a.put d v') w'):wpOp P ops Q k K a w:=by
 subst hd
 have hst:=Zd2 w (K:=K) (Q:=Q) (E:=True) (ops:=ops) (a:=a) (o:=o) hg s' x t ho 0 e i z size bytes ht hi hz hsize hby hzs hsz v n xs hs (h.get s) xv m news hxv hl hx h1 h63 hbytes (Nat.zero_le _) (fun v' w' h2 h3 h4=>
  hK v' w' (h.turn s _ h2 (fun b hb=>by
   rcases h4 with h4|h4
   · exact .inl (show v.ownBlock=some b from by rw[←h4];exact hb)
   right
   have hb':v'.ownBlock=some b:=hb;rw[h4] at hb';cases hb'
   exact Nat.le_refl _) (Zbk h3)))
 rw[if_pos hw] at hst;unfold wpOp;simp only[hok,hw,if_true];exact .inl hst
theorem Zan {i:Nat} {d:Option Tmp} {o:Oper} {a:Act} {K:Act→World→Prop} (ho:ops[i]? =some o) (hd:o.dst=d) (hw:Region.wanted o (yielded ops a.tmps)=true) {fn:FuncId} {args:Array Value} (hrun:(execOp a.eval o).run P w=.ok (.enter fn args) w)
 {R:Value→World→Prop} (hc:Calls P fn args w fun e w'=>∃u,e=.returned u∧R u w') (hK:∀u w',R u w'→K (a.put d u) w'):wpOp P ops Q i K a w:=by
 subst hd;exact ZjH ho hw hrun hc (fun e w' ⟨u,he,hr⟩=>⟨u,he,hK u w' hr⟩)
theorem ZbS {i:Nat} {o:Oper} {a:Act} {K:Act→World→Prop} (ho:ops[i]? =some o) (hd:o.dst=none) (hw:Region.wanted o (yielded ops a.tmps)=true) {ty:TypeId} {x y:Operand} (hop:o.op=.store ty x y) {b j:Nat} (hx:a.eval x=.pointer (some ⟨b,j,none⟩)) {v:Value} (hy:a.eval y=v) {vs:List Value} (hv:v.cells=vs.toArray)
 (h:At L0 w0 L w) {c:List Value} {T:TypeId} (s:Sel (Part.cells b c T) L F) (hi:(P.info? ty).map (·.size)=some vs.length) (h1:vs.all (·.oneCell')=true) (hj:j + vs.length≤c.length)
 (hK:∀w',At L0 w0 (Part.cells b (setL c j vs) T::F) w'→K (a.put none undef) w'):wpOp P ops Q i K a w:=by
 have hb:Zaa w b c T:=h.get s
 have hs:v.cells.size=vs.length:=by rw[hv];simp
 have h1':v.cells.all (·.oneCell')=true:=by
  rw[hv,Array.all_eq_true_iff_forall_mem];intro u hu;exact List.all_eq_true.1 h1 u (by simpa using hu)
 have hrun:=ZaU (P:=P) w b j ty v (hb.there j _ (by omega)) (by rw[hs];exact hi) h1';rw[show v.cells.toList=vs from by rw[hv]] at hrun;refine Zga ho hw (w':=_) ?_ (by rw[hd];exact hK _ (h.stores s j vs));simp[execOp,hop,hx,hy,hrun,Result.andThen]
end
end Go
end
section
namespace Go
open _root_.Go.Proofs.YtkdjkngfnapjcaaGreatDoor
open Go.RowKit
theorem tZ {P:Program} {ops:Array Oper} {Q:Exit→Act→World→Prop} {md:Region.Mode} {S:World→Prop} {w:World} {fuel:Nat} {listed:Array Bool} {a:Act} {oi:Oper} (i d:Nat) (v:Value) (hi:ops[i]? =some oi:=by exact rfl) (hd:oi.dst=some d:=by exact rfl) (hs:Region.noSelect ops=true:=by kernel_rfl) (hf:Region.free md ops listed i=true:=by kernel_rfl) (hr:(Region.ready md ops listed).contains i=true:=by kernel_rfl) (hQ:∀c a w,Q (.panic c) (a.put oi.dst v) w→Q (.panic c) a w:=by exact fun _ _ _ h=>h) (hw:Region.wanted oi (yielded ops a.tmps)=true:=by exact rfl) (r:∀w,S w→(execOp a.eval oi).run P w=.ok (.value v) w) (s:S w) (h:wpAnyH P md ops Q S fuel (listed.setIfInBounds i true) (a.put (some d) v) w):wpAnyH P md ops Q S (fuel + 1) listed a w:=Zdp hi hd hs hf hr hQ hw r s h
theorem tP {P:Program} {ops:Array Oper} {Q:Exit→Act→World→Prop} {md:Region.Mode} {S:World→Prop} {w:World} {fuel:Nat} {listed:Array Bool} {a:Act} {oi:Oper} (i d:Nat) (v:Value) (hi:ops[i]? =some oi:=by exact rfl) (hd:oi.dst=some d:=by exact rfl) (hs:Region.noSelect ops=true:=by kernel_rfl) (hf:Region.free md ops listed i=true:=by kernel_rfl) (hr:(Region.ready md ops listed).contains i=true:=by kernel_rfl) (hQ:∀c a w,Q (.panic c) (a.put oi.dst v) w→Q (.panic c) a w:=by exact fun _ _ _ h=>h) (hw:Region.wanted oi (yielded ops a.tmps)=true:=by exact rfl) (r:∀w,S w→(execOp a.eval oi).run P w=.ok (.value v) w:=by intro _ _;first|(simp[execOp,go_sem,Act.eval,Act.put];done)|kernel_rfl) (s:S w) (h:wpAnyH P md ops Q S fuel (listed.setIfInBounds i true) (a.put (some d) v) w):wpAnyH P md ops Q S (fuel + 1) listed a w:=Zdp hi hd hs hf hr hQ hw r s h
end Go
end
section
namespace Go
open _root_.Go.Proofs.YtkdjkngfnapjcaaGreatDoor
open Go.RowKit
theorem cY {P:Program} {ops:Array Oper} {Q:Exit→Act→World→Prop} {w:World} {o:Oper} {a:Act} {K:Act→World→Prop} {args:Array Value} (i d:Nat) (fn:FuncId) (R:Value→World→Prop) (hc:Calls P fn args w fun e w'=>∃u,e=.returned u∧R u w') (hK:∀u w',R u w'→K (a.put (some d) u) w') (ho:ops[i]? =some o:=by exact rfl) (hd:o.dst=some d:=by exact rfl) (hw:Region.wanted o (yielded ops a.tmps)=true:=by kernel_rfl) (hrun:(execOp a.eval o).run P w=.ok (.enter fn args) w:=by simp[execOp,go_sem,Act.eval,Act.put]):wpOp P ops Q i K a w:=Zan ho hd hw hrun hc hK
theorem stZ {P:Program} {ops:Array Oper} {Q:Exit→Act→World→Prop} {L0 L F:List Part} {w0 w:World} {o:Oper} {a:Act} {K:Act→World→Prop} {ty:TypeId} {x y:Operand} {v:Value} {c:List Value} {T:TypeId} (i b j:Nat) (vs:List Value) (h:At L0 w0 L w) (hK:∀w',At L0 w0 (Part.cells b (setL c j vs) T::F) w'→K (a.put none undef) w') (ho:ops[i]? =some o:=by exact rfl) (hd:o.dst=none:=by exact rfl) (hw:Region.wanted o (yielded ops a.tmps)=true:=by kernel_rfl) (hop:o.op=.store ty x y:=by exact rfl) (hx:a.eval x=.pointer (some ⟨b,j,none⟩):=by exact rfl) (hy:a.eval y=v:=by exact rfl) (hv:v.cells=vs.toArray:=by exact rfl) (s:Sel (Part.cells b c T) L F:=by repeat(first|exact Sel.here|apply Sel.there)) (hi:(P.info? ty).map (·.size)=some vs.length:=by kernel_rfl) (h1:vs.all (·.oneCell')=true:=by exact rfl) (hj:j + vs.length≤c.length:=by simp):wpOp P ops Q i K a w:=ZbS ho hd hw hop hx hy hv h s hi h1 hj hK
end Go
end
