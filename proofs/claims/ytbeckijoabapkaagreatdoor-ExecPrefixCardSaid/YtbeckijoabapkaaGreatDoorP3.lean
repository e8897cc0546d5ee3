import Derived.Test.YtbeckijoabapkaaGreatDoorP2
import Derived.Lib.Join
import Derived.Lib.Small
import Derived.Lib.IndexLaws
import Derived.RangeFuncNested
import Derived.RangeFuncBound
import Derived.Shelf.Abstract
import Derived.OwnWalkIn
import Derived.TacticsInMore
import Derived.LoopNIn
import Derived.LoopIn
set_option linter.unusedSimpArgs false
set_option linter.unusedVariables false
set_option maxRecDepth 100000
set_option maxHeartbeats 16000000
section
namespace Go
open _root_.Go.Proofs.YtbeckijoabapkaaGreatDoor
open Go.RowKit
section
variable {P:Program} {ops:Array Oper} {Q:Exit→Act→World→Prop} {md:Region.Mode} {S:World→Prop} {L0 L F:List Part} {w0 w:World}
theorem Zab {i fuel:Nat} {listed:Array Bool} {a:Act} (hr:Region.ready md ops listed=[i]) (h:wpOp P ops Q i (fun a' w'=>S w'∧wpAnyH P md ops Q S fuel (listed.setIfInBounds i true) a' w') a w):wpAnyH P md ops Q S (fuel + 1) listed a w:=
 wpAnyH_all hr (by simp) (fun k hk=>by rw[List.mem_singleton.1 hk];exact h)
theorem ZaF {i j fuel:Nat} {listed:Array Bool} {a:Act} (hr:Region.ready md ops listed=[i,j]) (h1:wpOp P ops Q i (fun a' w'=>S w'∧wpAnyH P md ops Q S fuel (listed.setIfInBounds i true) a' w') a w)
 (h2:wpOp P ops Q j (fun a' w'=>S w'∧wpAnyH P md ops Q S fuel (listed.setIfInBounds j true) a' w') a w):wpAnyH P md ops Q S (fuel + 1) listed a w:=
 wpAnyH_all hr (by simp) (fun k hk=>by
  rcases List.mem_cons.1 hk with rfl|hk
  · exact h1
  rw[List.mem_singleton.1 hk];exact h2)
theorem ZdV {i:Nat} {oi:Oper} {v:Value} {d:Option Tmp} {fuel:Nat} {listed:Array Bool} {a:Act} (hi:ops[i]? =some oi) (hd:oi.dst=d)
 (hs:Region.noSelect ops=true) (hf:Region.free md ops listed i=true) (hr:(Region.ready md ops listed).contains i=true)
 (hQ:∀c a w,Q (.panic c) (a.put oi.dst v) w→Q (.panic c) a w) (hw:Region.wanted oi (yielded ops a.tmps)=true) (hrun:∀w,S w→(execOp a.eval oi).run P w=.ok (.value v) w) (hS:S w)
 (h:wpAnyH P md ops Q S fuel (listed.setIfInBounds i true) (a.put d v) w):wpAnyH P md ops Q S (fuel + 1) listed a w:=by
 subst hd;exact wpAnyH_take hi hs hf hr hQ (.inl ⟨hw,hrun⟩) hS h
theorem Zgc {i:Nat} {d:Option Tmp} {o:Oper} {a:Act} {K:Act→World→Prop} {t:TypeId} {x:Operand} {e:TypeId} (ho:ops[i]? =some o) (hd:o.dst=d) (hw:Region.wanted o (yielded ops a.tmps)=true) (hop:o.op=.buildSlice t 1 #[(0,x)]) {xv:Value} (hx:a.eval x=xv) {vs:List Value}
 (hrun:∀w,(Instr.buildSlice t 1 #[(0,xv)]).run P w=.ok (.slice (some ⟨w.heap.size,0,none⟩) 1 1) (w.alloc (.cells vs.toArray e))) (h:At L0 w0 L w)
 (hK:∀b w',At L0 w0 (Part.cells b vs e::L) w'→K (a.put d (.slice (some ⟨b,0,none⟩) 1 1)) w'):wpOp P ops Q i K a w:=by
 subst hd;exact Zc4 ho hw (v:=.slice (some ⟨w.heap.size,0,none⟩) 1 1) (w':=w.alloc (.cells vs.toArray e)) (by simp[execOp,hop,hx,hrun,Result.andThen]) (hK _ _ (h.alloc vs e))
theorem Zb3 {k:Nat} {d:Option Tmp} {o:Oper} {a:Act} {K:Act→World→Prop} {e:TypeId} {size n:Nat} {v:Value} {xs:List Value} {i:TypeInfo} {z:Value} {bytes:Nat} (hok:ops[k]? =some o) (hd:o.dst=d) (hw:Region.wanted o (yielded ops a.tmps)=true) (hg:o.guard=none) (s' x:Operand) (t:TypeId) (ho:o.op=.call {callee:=.builtin .append,args:= #[s',x],argTypes:= #[t,t]})
 (ht:P.underlying t=some (.slice e)) (hi:P.info? e=some i) (hz:i.zero=some z) (hsize:i.size=size) (hby:i.bytes=bytes) (hzs:z.cells.size=size) (hsz:0 < size)
 (h:At L0 w0 L w) (s:Sel (Part.row e size v n xs) L F) (hs:a.eval s'=v) {xv:Value} {m:Nat} {news:List Value} (hxv:a.eval x=xv) (hl:news.length=m * size) (hx:Reads w xv m news) (h1:∀u ∈ news,u.oneCell'=true)
 (h63:n + m≤maxLen) (hbytes:(n + m) * bytes≤140737488355328)
 (hK:∀v' w',At L0 w0 (Part.row e size v' (n + m) (xs++news)::F) w'→K (a.put d v') w'):wpOp P ops Q k K a w:=by
 subst hd
 have hst:=Zeu w (K:=K) (Q:=Q) (E:=True) (ops:=ops) (a:=a) (o:=o) hg s' x t ho 0 e i z size bytes ht hi hz hsize hby hzs hsz v n xs hs (h.get s) xv m news hxv hl hx h1 h63 hbytes (Nat.zero_le _) (fun v' w' h2 h3 h4=>
  hK v' w' (h.turn s _ h2 (fun b hb=>by
   rcases h4 with h4|h4
   · exact .inl (show v.ownBlock=some b from by rw[←h4];exact hb)
   right
   have hb':v'.ownBlock=some b:=hb;rw[h4] at hb';cases hb'
   exact Nat.le_refl _) (Zbt h3)))
 rw[if_pos hw] at hst;unfold wpOp;simp only[hok,hw,if_true];exact .inl hst
theorem Zbq {i:Nat} {d:Option Tmp} {o:Oper} {a:Act} {K:Act→World→Prop} (ho:ops[i]? =some o) (hd:o.dst=d) (hw:Region.wanted o (yielded ops a.tmps)=true) {fn:FuncId} {args:Array Value} (hrun:(execOp a.eval o).run P w=.ok (.enter fn args) w)
 {R:Value→World→Prop} (hc:Calls P fn args w fun e w'=>∃u,e=.returned u∧R u w') (hK:∀u w',R u w'→K (a.put d u) w'):wpOp P ops Q i K a w:=by
 subst hd;exact ZjS ho hw hrun hc (fun e w' ⟨u,he,hr⟩=>⟨u,he,hK u w' hr⟩)
theorem Zaf {i:Nat} {o:Oper} {a:Act} {K:Act→World→Prop} (ho:ops[i]? =some o) (hd:o.dst=none) (hw:Region.wanted o (yielded ops a.tmps)=true) {ty:TypeId} {x y:Operand} (hop:o.op=.store ty x y) {b j:Nat} (hx:a.eval x=.pointer (some ⟨b,j,none⟩)) {v:Value} (hy:a.eval y=v) {vs:List Value} (hv:v.cells=vs.toArray)
 (h:At L0 w0 L w) {c:List Value} {T:TypeId} (s:Sel (Part.cells b c T) L F) (hi:(P.info? ty).map (·.size)=some vs.length) (h1:vs.all (·.oneCell')=true) (hj:j + vs.length≤c.length)
 (hK:∀w',At L0 w0 (Part.cells b (setL c j vs) T::F) w'→K (a.put none undef) w'):wpOp P ops Q i K a w:=by
 have hb:Zaa w b c T:=h.get s;have hs:v.cells.size=vs.length:=by rw[hv];simp
 have h1':v.cells.all (·.oneCell')=true:=by
  rw[hv,Array.all_eq_true_iff_forall_mem];intro u hu;exact List.all_eq_true.1 h1 u (by simpa using hu)
 have hrun:=Za5 (P:=P) w b j ty v (hb.there j _ (by omega)) (by rw[hs];exact hi) h1';rw[show v.cells.toList=vs from by rw[hv]] at hrun;refine Zgr ho hw (w':=_) ?_ (by rw[hd];exact hK _ (h.stores s j vs));simp[execOp,hop,hx,hy,hrun,Result.andThen]
end
end Go
end
section
namespace Go
open _root_.Go.Proofs.YtbeckijoabapkaaGreatDoor
open Go.RowKit
theorem tZ {P:Program} {ops:Array Oper} {Q:Exit→Act→World→Prop} {md:Region.Mode} {S:World→Prop} {w:World} {fuel:Nat} {listed:Array Bool} {a:Act} {oi:Oper} (i d:Nat) (v:Value) (hi:ops[i]? =some oi:=by exact rfl) (hd:oi.dst=some d:=by exact rfl) (hs:Region.noSelect ops=true:=by kernel_rfl) (hf:Region.free md ops listed i=true:=by kernel_rfl) (hr:(Region.ready md ops listed).contains i=true:=by kernel_rfl) (hQ:∀c a w,Q (.panic c) (a.put oi.dst v) w→Q (.panic c) a w:=by exact fun _ _ _ h=>h) (hw:Region.wanted oi (yielded ops a.tmps)=true:=by exact rfl) (r:∀w,S w→(execOp a.eval oi).run P w=.ok (.value v) w) (s:S w) (h:wpAnyH P md ops Q S fuel (listed.setIfInBounds i true) (a.put (some d) v) w):wpAnyH P md ops Q S (fuel + 1) listed a w:=ZdV hi hd hs hf hr hQ hw r s h
theorem tP {P:Program} {ops:Array Oper} {Q:Exit→Act→World→Prop} {md:Region.Mode} {S:World→Prop} {w:World} {fuel:Nat} {listed:Array Bool} {a:Act} {oi:Oper} (i d:Nat) (v:Value) (hi:ops[i]? =some oi:=by exact rfl) (hd:oi.dst=some d:=by exact rfl) (hs:Region.noSelect ops=true:=by kernel_rfl) (hf:Region.free md ops listed i=true:=by kernel_rfl) (hr:(Region.ready md ops listed).contains i=true:=by kernel_rfl) (hQ:∀c a w,Q (.panic c) (a.put oi.dst v) w→Q (.panic c) a w:=by exact fun _ _ _ h=>h) (hw:Region.wanted oi (yielded ops a.tmps)=true:=by exact rfl) (r:∀w,S w→(execOp a.eval oi).run P w=.ok (.value v) w:=by intro _ _;first|(simp[execOp,go_sem,Act.eval,Act.put];done)|kernel_rfl) (s:S w) (h:wpAnyH P md ops Q S fuel (listed.setIfInBounds i true) (a.put (some d) v) w):wpAnyH P md ops Q S (fuel + 1) listed a w:=ZdV hi hd hs hf hr hQ hw r s h
end Go
end
section
namespace Go
open _root_.Go.Proofs.YtbeckijoabapkaaGreatDoor
open Go.RowKit
theorem cY {P:Program} {ops:Array Oper} {Q:Exit→Act→World→Prop} {w:World} {o:Oper} {a:Act} {K:Act→World→Prop} {args:Array Value} (i d:Nat) (fn:FuncId) (R:Value→World→Prop) (hc:Calls P fn args w fun e w'=>∃u,e=.returned u∧R u w') (hK:∀u w',R u w'→K (a.put (some d) u) w') (ho:ops[i]? =some o:=by exact rfl) (hd:o.dst=some d:=by exact rfl) (hw:Region.wanted o (yielded ops a.tmps)=true:=by kernel_rfl) (hrun:(execOp a.eval o).run P w=.ok (.enter fn args) w:=by simp[execOp,go_sem,Act.eval,Act.put]):wpOp P ops Q i K a w:=Zbq ho hd hw hrun hc hK
theorem stZ {P:Program} {ops:Array Oper} {Q:Exit→Act→World→Prop} {L0 L F:List Part} {w0 w:World} {o:Oper} {a:Act} {K:Act→World→Prop} {ty:TypeId} {x y:Operand} {v:Value} {c:List Value} {T:TypeId} (i b j:Nat) (vs:List Value) (h:At L0 w0 L w) (hK:∀w',At L0 w0 (Part.cells b (setL c j vs) T::F) w'→K (a.put none undef) w') (ho:ops[i]? =some o:=by exact rfl) (hd:o.dst=none:=by exact rfl) (hw:Region.wanted o (yielded ops a.tmps)=true:=by kernel_rfl) (hop:o.op=.store ty x y:=by exact rfl) (hx:a.eval x=.pointer (some ⟨b,j,none⟩):=by exact rfl) (hy:a.eval y=v:=by exact rfl) (hv:v.cells=vs.toArray:=by exact rfl) (s:Sel (Part.cells b c T) L F:=by repeat(first|exact Sel.here|apply Sel.there)) (hi:(P.info? ty).map (·.size)=some vs.length:=by kernel_rfl) (h1:vs.all (·.oneCell')=true:=by exact rfl) (hj:j + vs.length≤c.length:=by simp):wpOp P ops Q i K a w:=Zaf ho hd hw hop hx hy hv h s hi h1 hj hK
end Go
end
section
namespace Go
open _root_.Go.Proofs.YtbeckijoabapkaaGreatDoor
open Go.RowKit
section
variable {P:Program} {ops:Array Oper} {Q:Exit→Act→World→Prop} {md:Region.Mode} {S:World→Prop} {L0 L F:List Part} {w0 w:World}
theorem ZaS {i:Nat} {d:Option Tmp} {o:Oper} {a:Act} {K:Act→World→Prop} {E:TypeId} (ho:ops[i]? =some o) (hd:o.dst=d) (hw:Region.wanted o (yielded ops a.tmps)=true) (hop:o.op=.alloc E) {z:Value} (hz:(P.info? E).map (·.zero)=some (some z)) {vs:List Value} (hv:z.cells=vs.toArray) (h:At L0 w0 L w)
 (hK:∀b w',At L0 w0 (Part.cells b vs E::L) w'→K (a.put d (.pointer (some ⟨b,0,none⟩))) w'):wpOp P ops Q i K a w:=by
 subst hd;refine Zc4 ho hw (v:=.pointer (some ⟨w.heap.size,0,none⟩)) (w':=w.alloc (.cells vs.toArray E)) ?_ (hK _ _ (h.alloc vs E))
 cases hq:P.info? E with
 |none=>simp[hq] at hz
 |some i=>
  have hi:i.zero=some z:=by simpa [hq] using hz
  simp[execOp,hop,Instr.alloc,zeroValue,typeInfo,hq,hi,newVar,newRow,hv,Result.andThen]
end
end Go
section
namespace Go
open _root_.Go.Proofs.YtbeckijoabapkaaGreatDoor
open Go.RowKit
theorem aZ {P:Program} {ops:Array Oper} {Q:Exit→Act→World→Prop} {L0 L:List Part} {w0 w:World} {o:Oper} {a:Act} {K:Act→World→Prop} (i d:Nat) (E:TypeId) (vs:List Value) (h:At L0 w0 L w) (hK:∀b w',At L0 w0 (Part.cells b vs E::L) w'→K (a.put (some d) (.pointer (some ⟨b,0,none⟩))) w') (ho:ops[i]? =some o:=by exact rfl) (hd:o.dst=some d:=by exact rfl) (hw:Region.wanted o (yielded ops a.tmps)=true:=by kernel_rfl) (hop:o.op=.alloc E:=by exact rfl) (hz:(P.info? E).map (·.zero)=some (some (.agg vs.toArray)):=by kernel_rfl):wpOp P ops Q i K a w:=ZaS ho hd hw hop hz rfl h hK
end Go
end
end
namespace Go.Proofs.YtbeckijoabapkaaGreatDoor
section
section
open Go.RowKit
section
variable {P:Program} {ops:Array Oper} {rest:List Oper} {o:Oper} {a:Act} {Q:Exit→Act→World→Prop} {L0 L F:List Part} {w0 w:World}
theorem Zad {ty:TypeId} {x:Operand} (hg:o.guard=none) (hop:o.op=.load ty x) {b j:Nat} (hx:a.eval x=.pointer (some ⟨b,j,none⟩)) {vs:List Value} (hr:∀(k:Nat) u,vs[k]? =some u→w.cell? ⟨b,j + k,none⟩=some u)
 (hu:(P.underlying ty).map (·.isRow)=some true) (hi:(P.info? ty).map (·.size)=some vs.length)
 (hK:wpList P ops Q rest (a.put o.dst (.agg vs.toArray)) w):wpList P ops Q (o::rest) a w:=by
 obtain⟨d,hu,hd⟩:=Option.map_eq_some_iff.1 hu;refine Zah hg ?_ hK;simp[execOp,hop,hx,run_loadAt_mid w b j ty vs d (fun k v hk=>hr k v hk) hu hd hi,Result.andThen]
end
end
end
section
section
open Go.RowKit
section
variable {P:Program} {ops:Array Oper} {rest:List Oper} {o:Oper} {a:Act} {Q:Exit→Act→World→Prop} {w:World} {e:TypeId} {size n:Nat} {v:Value} {xs:List Value}
end
end
end
section
section
open Go.RowKit
theorem Ziv:∀(vs p q r:List Value),q.length=vs.length→setL (p++(q++r)) p.length vs=p++(vs++r)
 |[],p,q,r,h=>by
  have:q=[]:=List.eq_nil_of_length_eq_zero (by simpa using h);subst this
  rfl
 |v::vs,p,[],r,h=>by simp at h
 |v::vs,p,y::q,r,h=>by
  rw[setL]
  have e:(p++(y::q++r)).set p.length v=(p++[v])++(q++r):=by
   rw[List.set_append_right _ _ (Nat.le_refl _)];simp
  have:=Ziv vs (p++[v]) q r (by simpa using h);rw[List.length_append] at this;rw[e];simp only[List.length_cons,List.length_nil,Nat.zero_add] at this;rw[this]
  simp
theorem ZmS {α:Type} (enc:α→List Value) (size:Nat) (hs:∀x,(enc x).length=size) (l:List α) (i:Nat) (hi:i < l.length) (x:α):setL (l.flatMap enc) (i * size) (enc x)=(l.set i x).flatMap enc:=by
 have e1:l=l.take i++l[i]::l.drop (i + 1):=by rw[←List.drop_eq_getElem_cons hi,List.take_append_drop]
 have hl:(l.take i).length=i:=by rw[List.length_take];omega
 have e2:l.set i x=l.take i++x::l.drop (i + 1):=by
  rw[List.set_eq_take_append_cons_drop,if_pos hi]
 have e3:l.flatMap enc=(l.take i).flatMap enc++(enc l[i]++(l.drop (i + 1)).flatMap enc):=by
  have:=congrArg (fun m=>m.flatMap enc) e1;simp only[List.flatMap_append,List.flatMap_cons] at this;exact this
 have hf:((l.take i).flatMap enc).length=i * size:=by rw[Zbl enc size hs,hl]
 rw[e2,e3,←hf,Ziv _ _ _ _ (by rw[hs,hs])];simp
theorem Zer:∀(vs c:List Value) (o m:Nat),(setL c o vs).take m=setL (c.take m) o vs
 |[],_,_,_=>rfl
 |v::vs,c,o,m=>by rw[setL,setL,Zer vs,List.take_set]
theorem Zdc:∀(vs c:List Value) (o m:Nat),m≤o→(setL c o vs).take m=c.take m
 |[],_,_,_,_=>rfl
 |v::vs,c,o,m,h=>by rw[setL,Zdc vs _ _ _ (by omega),List.take_set_of_le h]
theorem Zgp {α:Type} {enc:α→List Value} {size:Nat} (hs:∀x,(enc x).length=size) {c:List Value} {l:List α} (ht:c.take (l.length * size)=l.flatMap enc) {i:Nat} (hi:i < l.length) (x:α):
 (setL c (i * size) (enc x)).take ((l.set i x).length * size)=(l.set i x).flatMap enc:=by
 rw[List.length_set,Zer,ht,ZmS enc size hs l i hi]
section
variable {P:Program} {ops:Array Oper} {rest:List Oper} {o:Oper} {a:Act} {Q:Exit→Act→World→Prop} {L0 L F:List Part} {w0 w:World} {e:TypeId}
theorem Zfa (w:World) (t e ty:TypeId) (z:Value) (ht:P.underlying t=some (.slice e)) (hv:∀w,(zeroValue e).run P w=.ok z w) (m:Nat) (hm:0 < m) (h1:∀v ∈ (Builtin.zeroCells z.cells m).toList,v.oneCell'=true) (b o c:Nat)
 (hc:∀j,j < m * z.cells.size→(w.cell? ⟨b,o + j,none⟩).isSome=true) (hf:∀j,j < m * z.cells.size→w.frozen? ⟨b,o + j,none⟩=false):
 (Builtin.clear_ #[t] ty #[.slice (some ⟨b,o,none⟩) m c]).run P w=.ok (.tuple #[]) (w.setCells b o (Builtin.zeroCells z.cells m).toList):=by
 have hl:(Builtin.zeroCells z.cells m).toList.length=m * z.cells.size:=by simp[Builtin.zeroCells]
 have hst:=run_storeCells_cells (P:=P) b o (Builtin.zeroCells z.cells m).toList 0 w (by intro j hj;first|(simp;done)|simpa using hc j (by omega)) (by intro j hj;first|(simp;done)|simpa using hf j (by omega)) h1;simp only[Nat.add_zero] at hst
 obtain⟨m,rfl⟩:∃m',m=m' + 1:=⟨m - 1,by omega⟩
 simp[Builtin.clear_,run_underlying ht,hv,hst]
theorem ZjP (z:Value) (h:∀u ∈ z.cells.toList,u.oneCell'=true) (h0:0 < z.cells.size) (m:Nat):∀v ∈ (Builtin.zeroCells z.cells m).toList,v.oneCell'=true:=by
 intro v hv;simp only[Builtin.zeroCells,Array.toList_map,List.mem_map] at hv;obtain⟨j,_,rfl⟩:=hv;have hj:j % z.cells.size < z.cells.size:=Nat.mod_lt _ h0;rw[getElem!_pos z.cells (j % z.cells.size) hj];exact h _ (by rw[Array.mem_toList_iff];exact Array.getElem_mem hj)
theorem Zcf {t:TypeId} {x:Operand} {z:Value} {b off m cp:Nat} {c:List Value} {T:TypeId} (hg:o.guard=none) (hop:o.op=.call {callee:=.builtin .clear,args:= #[x],argTypes:= #[t]}) (ht:P.underlying t=some (.slice e)) (hv:∀w,(zeroValue e).run P w=.ok z w)
 (h1:∀u ∈ z.cells.toList,u.oneCell'=true) (h0:0 < z.cells.size) (hx:a.eval x=.slice (some ⟨b,off,none⟩) m cp) (hm:0 < m) (h:At L0 w0 L w) (s:Sel (Part.cells b c T) L F) (hl:off + m * z.cells.size≤c.length)
 (hK:∀c' w',c'.length=c.length→c'.take off=c.take off→At L0 w0 (Part.cells b c' T::F) w'→wpList P ops Q rest (a.put o.dst (.tuple #[])) w'):wpList P ops Q (o::rest) a w:=by
 have hb:Zaa w b c T:=h.get s;have hrun:=Zfa (P:=P) w t e o.type z ht hv m hm (ZjP z h1 h0 m) b off cp (fun j hj=>by rw[hb.cell,List.getElem?_eq_getElem (by omega)];rfl) (fun j hj=>hb.free _);refine Zah hg ?_ (hK _ _ (Zan _ _ _) (Zdc _ _ _ _ (Nat.le_refl _)) (h.stores s off (Builtin.zeroCells z.cells m).toList));simp[execOp,hop,resolve,invoke,builtin,hx,hrun,Result.andThen]
end
end
end
end Go.Proofs.YtbeckijoabapkaaGreatDoor
section
namespace Go
open _root_.Go.Proofs.YtbeckijoabapkaaGreatDoor
open Go.RowKit
section
variable {P:Program} {ops:Array Oper} {rest:List Oper} {o:Oper} {a:Act} {Q:Exit→Act→World→Prop} {L0 L F:List Part} {w0 w:World}
theorem ZbO {t:TypeId} {e:TypeId} (size:Nat) (hg:o.guard=none) (hop:o.op=.buildSlice t 0 #[])
 (hrun:∀w,(Instr.buildSlice t 0 #[]).run P w=.ok (.slice (some ⟨w.heap.size,0,none⟩) 0 0) (w.alloc (.cells #[] e))) (h:At L0 w0 L w)
 (hK:∀b w',At L0 w0 (Part.row e size (.slice (some ⟨b,0,none⟩) 0 0) 0 []::L) w'→wpList P ops Q rest (a.put o.dst (.slice (some ⟨b,0,none⟩) 0 0)) w'):wpList P ops Q (o::rest) a w:=by
 refine Zah hg (v:=.slice (some ⟨w.heap.size,0,none⟩) 0 0) (w':=w.alloc (.cells #[] e)) (by simp[execOp,hop,hrun,Result.andThen]) (hK _ _ ?_);refine h.new ((Ext.refl w).alloc _) _ ⟨by simp,.inr ⟨w.heap.size,0,#[],rfl,Nat.zero_le _,heap_alloc_new w _,Nat.le_refl _,Nat.zero_le _,by simp,by simp⟩⟩ (fun b hb=> ?_);have hb2:(Value.slice (some ⟨w.heap.size,0,none⟩) 0 0).ownBlock=some b:=hb;cases hb2;exact Nat.le_refl _
end
end Go
namespace Go.Proofs.YtbeckijoabapkaaGreatDoor
open Go.RowKit
theorem through1 {L0 L F:List Part} {w0 w:World} {A:Part} {P:Program} {f:FuncId} {args:Array Value} {v:Value} (s:Sel A L F) (h:At L0 w0 L w) (hc:∀w1,Sep [A] w1→Calls P f args w1 fun e w'=>e=.returned v∧At [A] w1 [A] w'):
 Calls P f args w fun e w'=>e=.returned v∧At L0 w0 L w':=h.through (Eqv.perm s.perm) (hc w)
end Go.Proofs.YtbeckijoabapkaaGreatDoor
end
namespace Go.Proofs.YtbeckijoabapkaaGreatDoor
section
namespace Path
open Go.Lib (compareBytes)
abbrev Bs:=List UInt8
def letB (c:UInt8):Bool:=(decide (97≤c.toNat)&&decide (c.toNat≤122)) || (decide (48≤c.toNat)&&decide (c.toNat≤57)) || decide (c.toNat=45) || decide (c.toNat=95)
def partB (p:Bs):Bool:= !p.isEmpty&&p.all letB
def Zam:Bs→List Bs
 |[]=>[[]]
 |c::r=>if c=47 then[]::Zam r else((c::(Zam r).headD [])::(Zam r).tail)
def joinS (l:List Bs):Bs:=Lib.join l [47]
def Zag (s:Bs):Bool:=(Zam s).all partB&&decide ((Zam s).length≤8)&&decide (s.length≤64)
def stepW (acc:List Bs) (p:Bs):Option (List Bs):=
 if p=[]∨p=[46] then some acc else if p=[46,46] then(if acc=[] then none else some acc.dropLast) else if p.all letB=true then some (acc++[p]) else none
def walkL:List Bs→List Bs→Option (List Bs)
 |acc,[]=>some acc
 |acc,p::ps=>match stepW acc p with
  |none=>none
  |some a=>walkL a ps
def normL (s:Bs):Bs × Int:=match walkL [] (Zam s) with
 |none=>([],30)
 |some l=>if l=[] then([],13) else if 8 < l.length then([],31) else if 64 < (joinS l).length then([],11) else(joinS l,0)
def ZaB (p q:Bs):Bool:=Zag p&&Zag q&&(decide (p=q) || (p++[47]).isPrefixOf q)
def overB (p q:Bs):Bool:=ZaB p q || ZaB q p
theorem ZaW (c:UInt8) (r:Bs):Zam (c::r)=if c=47 then[]::Zam r else((c::(Zam r).headD [])::(Zam r).tail):=rfl
theorem ZbS (s:Bs):Zam s≠[]:=by
 cases s with
 |nil=>simp[Zam]
 |cons c r=>rw[ZaW];split<;>simp
theorem Zdr (p:Bs) (l:List Bs) (h:l≠[]):joinS (p::l)=p++47::joinS l:=by
 cases l with
 |nil=>exact absurd rfl h
 |cons q r=>simp[joinS,Lib.join,List.intercalate,List.intersperse]
theorem join_one (p:Bs):joinS [p]=p:=by simp[joinS,Lib.join_one]
theorem Zb6:∀s:Bs,joinS (Zam s)=s
 |[]=>by simp[Zam,join_one]
 |c::r=>by
  have ih:=Zb6 r;rw[ZaW];split
  · rename_i h;subst h;rw[Zdr _ _ (ZbS r),ih];rfl
  cases h:Zam r with
  |nil=>exact absurd h (ZbS r)
  |cons p ps=>
   rw[h] at ih;simp only[List.headD_cons,List.tail_cons]
   cases ps with
   |nil=>rw[join_one] at ih ⊢;rw[ih]
   |cons q qs=>
    rw[Zdr _ _ (by simp)] at ih ⊢;rw[List.cons_append,ih]
theorem ZbQ:∀p:Bs,(∀c ∈ p,c≠47)→Zam p=[p]
 |[],_=>rfl
 |c::r,h=>by
  have ih:=ZbQ r (fun x hx=>h x (by simp[hx]));rw[ZaW];rw[if_neg (h c (by simp)),ih];rfl
theorem ZdJ:∀(p r:Bs),(∀c ∈ p,c≠47)→Zam (p++47::r)=p::Zam r
 |[],r,_=>by simp[Zam]
 |c::p,r,h=>by
  have ih:=ZdJ p r (fun x hx=>h x (by simp[hx]));rw[List.cons_append];rw[ZaW];rw[if_neg (h c (by simp)),ih];rfl
theorem Zck:∀(p r:Bs),Zam (p++47::r)=Zam p++Zam r
 |[],r=>by simp[Zam]
 |c::p,r=>by
  have ih:=Zck p r;rw[List.cons_append,ZaW,ZaW];by_cases h:c=47
  · rw[if_pos h,if_pos h,ih];rfl
  rw[if_neg h,if_neg h,ih]
  cases hs:Zam p with
  |nil=>exact absurd hs (ZbS p)
  |cons a b=>rfl
theorem ZcU:∀(l:List Bs),l≠[]→(∀p ∈ l,∀c ∈ p,c≠47)→Zam (joinS l)=l
 |[],h,_=>absurd rfl h
 |[p],_,h=>by rw[join_one];exact ZbQ p (h p (by simp))
 |p::q::r,_,h=>by
  rw[Zdr _ _ (by simp),ZdJ _ _ (h p (by simp)),ZcU (q::r) (by simp) (fun x hx=>h x (by simp[hx]))]
theorem ZhY {c:UInt8} (h:letB c=true):c≠47:=by
 intro e;subst e;simp[letB] at h
theorem Zev:∀(s:Bs),∀p ∈ Zam s,∀c ∈ p,c≠47
 |[],p,hp,c,hc=>by simp[Zam] at hp;subst hp;simp at hc
 |d::r,p,hp,c,hc=>by
  have ih:=Zev r;rw[ZaW] at hp;split at hp
  · rcases List.mem_cons.1 hp with rfl|hp
    · simp at hc
    exact ih p hp c hc
  rename_i hd
  cases hs:Zam r with
  |nil=>exact absurd hs (ZbS r)
  |cons a b=>
   rw[hs] at hp ih;simp only[List.headD_cons,List.tail_cons] at hp;rcases List.mem_cons.1 hp with rfl|hp
   · rcases List.mem_cons.1 hc with rfl|hc
     · exact hd
     exact ih a (by simp) c hc
   exact ih p (by simp[hp]) c hc
theorem Zfh {s t:Bs} (h:Zam s=Zam t):s=t:=by rw[←Zb6 s,h,Zb6]
theorem Zdj {p:Bs}:partB p=true↔p≠[]∧p.all letB=true:=by
 unfold partB;cases p<;>simp
theorem ZgC {acc:List Bs} {p:Bs} (h:partB p=true):stepW acc p=some (acc++[p]):=by
 obtain⟨h1,h2⟩:=Zdj.1 h;unfold stepW;rw[if_neg,if_neg,if_pos h2]
 · intro e;subst e;simp[letB] at h2
 rintro(e|e)
 · exact h1 e
 subst e;simp[letB] at h2
theorem Zfe:∀(l acc:List Bs),(∀p ∈ l,partB p=true)→walkL acc l=some (acc++l)
 |[],acc,_=>by simp[walkL]
 |p::r,acc,h=>by
  rw[walkL,ZgC (h p (by simp))];simp only;rw[Zfe r _ (fun x hx=>h x (by simp[hx]))];simp
theorem Zja {acc a:List Bs} {p:Bs} (h:stepW acc p=some a) (hacc:∀q ∈ acc,partB q=true):∀q ∈ a,partB q=true:=by
 unfold stepW at h;split at h
 · cases h;exact hacc
 split at h
 · split at h
   · cases h
   cases h;exact fun q hq=>hacc q (List.dropLast_subset _ hq)
 split at h
 · cases h;rename_i h1 h2 h3;intro q hq;rcases List.mem_append.1 hq with hq|hq
   · exact hacc q hq
   rw[List.mem_singleton.1 hq,Zdj];exact⟨fun e=>h1 (.inl e),h3⟩
 cases h
theorem Zff:∀{l acc a:List Bs},walkL acc l=some a→(∀q ∈ acc,partB q=true)→∀q ∈ a,partB q=true
 |[],acc,a,h,hacc=>by simp[walkL] at h;subst h;exact hacc
 |p::r,acc,a,h,hacc=>by
  rw[walkL] at h
  cases hs:stepW acc p with
  |none=>simp[hs] at h
  |some b=>simp only[hs] at h;exact Zff h (Zja hs hacc)
theorem Zku {p:Bs} (h:partB p=true):∀c ∈ p,c≠47:=fun c hc=>ZhY (List.all_eq_true.1 (Zdj.1 h).2 c hc)
theorem Zjf (s:Bs):((normL s).2=0∧(normL s).1=s)↔Zag s=true:=by
 constructor
 · rintro⟨h1,h2⟩
   unfold normL at h1 h2
   cases hw:walkL [] (Zam s) with
   |none=>simp[hw] at h1
   |some l=>
    simp only[hw] at h1 h2;by_cases e1:l=[]
    · simp[e1] at h1
    rw[if_neg e1] at h1 h2;by_cases e2:8 < l.length
    · simp[e2] at h1
    rw[if_neg e2] at h1 h2;by_cases e3:64 < (joinS l).length
    · simp[e3] at h1
    rw[if_neg e3] at h1 h2;simp only at h2;have hp:=Zff hw (by simp);have hs:Zam s=l:=by rw[←h2];exact ZcU l e1 (fun p hp'=>Zku (hp p hp'))
    unfold Zag;rw[hs];simp only[Bool.and_eq_true,decide_eq_true_eq,List.all_eq_true];rw[h2] at e3;exact⟨⟨hp,by omega⟩,by omega⟩
 intro h;unfold Zag at h;simp only[Bool.and_eq_true,decide_eq_true_eq,List.all_eq_true] at h;obtain⟨⟨h1,h2⟩,h3⟩:=h;have hw:=Zfe (Zam s) [] h1;unfold normL;rw[hw];simp only[List.nil_append];rw[if_neg (ZbS s),if_neg (by omega),Zb6,if_neg (by omega)];exact⟨rfl,rfl⟩
theorem ZlG (p q:Bs):Zam p <+:Zam q↔p=q∨(p++[47]) <+:q:=by
 constructor
 · rintro⟨r,hr⟩
   cases r with
   |nil=>exact .inl (Zfh (by simpa using hr))
   |cons a b=>
    right
    have e:q=p++47::joinS (a::b):=by
     apply Zfh;rw[Zck,←hr,ZcU (a::b) (by simp) (fun x hx=>Zev q x (by rw[←hr];exact List.mem_append_right _ hx))]
    rw[e];exact⟨joinS (a::b),by simp⟩
 rintro(rfl|⟨t,rfl⟩)
 · exact List.prefix_refl _
 rw[show p++[47]++t=p++47::t by simp,Zck];exact List.prefix_append _ _
theorem Zcv {p q:Bs}:ZaB p q=(Zag p&&Zag q&&decide (Zam p <+:Zam q)):=by
 unfold ZaB;congr 1
 rw[Bool.eq_iff_iff];simp only[Bool.or_eq_true,decide_eq_true_eq,List.isPrefixOf_iff_prefix];exact(ZlG p q).symm
theorem Zkx (p q:Bs):overB p q=overB q p:=by unfold overB;exact Bool.or_comm _ _
theorem Zjm {p q:Bs} (h:overB p q=true):Zag p=true∧Zag q=true:=by
 unfold overB ZaB at h;cases hp:Zag p<;>cases hq:Zag q<;>simp_all
theorem Zdl {p:Bs} (h:Zag p=true):overB p p=true:=by simp[overB,ZaB,h]
end Path
end
section
section
open Go.RowKit
section
variable {α:Type} {enc:α→List Value} {size:Nat}
theorem Zhe (hs:∀x,(enc x).length=size):∀(l:List α) (k:Nat),(l.flatMap enc).take (k * size)=(l.take k).flatMap enc
 |[],k=>by simp
 |x::l,0=>by simp
 |x::l,k + 1=>by
  rw[List.take_succ_cons,List.flatMap_cons,List.flatMap_cons,←Zhe hs l k,List.take_append,List.take_of_length_le (by rw[hs,Nat.add_mul];omega),hs,show(k + 1) * size - size=k * size by rw[Nat.add_mul];omega]
theorem ZmT (h:∀x,∀u ∈ enc x,u.oneCell'=true) (l:List α):∀u ∈ l.flatMap enc,u.oneCell'=true:=by
 intro u hu;obtain⟨x,_,hx⟩:=List.mem_flatMap.1 hu;exact h x u hx
end
inductive Picks:List Part→List Part→Prop
 |nil {L:List Part}:Picks L []
 |cons {A:Part} {L F K:List Part}:Sel A L F→Picks F K→Picks L (A::K)
theorem Picks.perm {L K:List Part} (p:Picks L K):∃F,L.Perm (K++F):=by
 induction p with
 |nil=>exact⟨_,.refl _⟩
 |cons s _ ih=>
  obtain⟨F,hF⟩:=ih;exact⟨F,s.perm.trans (hF.cons _)⟩
theorem At.pick {L0 L K:List Part} {w0 w:World} (h:At L0 w0 L w) (p:Picks L K):At L0 w0 K w:=by
 obtain⟨F,hF⟩:=p.perm;exact(h.perm hF).sub (List.sublist_append_left _ _)
theorem At.seps {L0 L K:List Part} {w0 w:World} (h:At L0 w0 L w) (p:Picks L K):Sep K w:=(h.pick p).sep
theorem Sep.pick {L K:List Part} {w:World} (h:Sep L w) (p:Picks L K):Sep K w:=(At.start h).seps p
theorem At.row_hid {L0 L F:List Part} {w0 w:World} {e:TypeId} {size n:Nat} {v:Value} {xs:List Value} (h:At L0 w0 L w) (s:Sel (Part.row e size v n xs) L F):∃ax k cap,v=.slice ax k cap∧Hid (k=n):=by
 obtain⟨ax,cap,rfl,_,_,_⟩:=h.row_form s;exact⟨ax,n,cap,rfl,Hd rfl⟩
section
variable {α:Type} {p:α→Bool}
end
end
section
theorem pZ {L K:List Part} (h:Picks L K:=by repeat(first|exact Picks.nil|refine Picks.cons (by repeat(first|exact Sel.here|apply Sel.there)) ?_)):Picks L K:=h
end
section
theorem pR {L K:List Part} (h:Picks L K:=by with_reducible repeat(first|exact Picks.nil|refine Picks.cons sR ?_)):Picks L K:=h
end
end
section
namespace Path
open Go.RowKit
def letR (r:Int):Bool:=(decide (97≤r)&&decide (r≤122)) || (decide (48≤r)&&decide (r≤57)) || decide (r=45) || decide (r=95)
theorem ZkT (c:UInt8):letR (c.toNat:Int)=letB c:=by
 unfold letR letB;rw[Bool.eq_iff_iff];simp only[Bool.or_eq_true,Bool.and_eq_true,decide_eq_true_eq];omega
theorem ZkS {r:Int} (h:128≤r):letR r=false:=by
 unfold letR;have h1:¬r≤122:=by omega
 have h2:¬r≤57:=by omega
 have h3:¬r=45:=by omega
 have h4:¬r=95:=by omega
 simp[h1,h2,h3,h4]
theorem Zfr (r:Int) (w:World):Calls Tryz.prog 126 #[.int .i32 r] w fun e w'=>e=.returned (.bool (letR r))∧w=w':=by
 have key:∀(b1 b2 b3 b4 b5 b6:Bool),decide (97≤r)=b1→decide (r≤122)=b2→decide (48≤r)=b3→decide (r≤57)=b4→decide (r=45)=b5→decide (r=95)=b6→
  Calls Tryz.prog 126 #[.int .i32 r] w fun e w'=>e=.returned (.bool ((b1&&b2) || (b3&&b4) || b5 || b6))∧w=w':=by
  intro b1 b2 b3 b4 b5 b6 h1 h2 h3 h4 h5 h6;have h5':(r==45)=b5:=by rw[←h5];rfl
  have h6':(r==95)=b6:=by rw[←h6];rfl
  clear h5 h6;cases b1<;>cases b2<;>cases b3<;>cases b4<;>cases b5<;>cases b6
  all_goals first
   |(exfalso;simp at h1 h2 h3 h4 h5' h6';omega)
   |(go_enter Tryz.func126,Tryz.ntmps126
     go_wp2
     go_ret
     exact⟨rfl,rfl⟩)
 exact key _ _ _ _ _ _ rfl rfl rfl rfl rfl rfl
section
variable {P:Program} {ops:Array Oper} {rest:List Oper} {o:Oper} {a:Act} {Q:Exit→Act→World→Prop} {L0 L F:List Part} {w0 w:World}
theorem Zd3 {t:TypeId} {x:Operand} {s:ByteArray} (hg:o.guard=none) (hop:o.op=.range t x) (hx:a.eval x=.string s) (ht:P.underlying t=some .string) (h:At L0 w0 L w)
 (hK:∀r w',At L0 w0 (Part.obj r (.stringIter s 0)::L) w'→w0.heap.size≤r→wpList P ops Q rest (a.put o.dst (.pointer (some ⟨r,0,none⟩))) w'):wpList P ops Q (o::rest) a w:=by
 refine Zah hg ?_ (hK _ _ (h.allocObj (.stringIter s 0)) h.size);simp[execOp,hop,hx,run_range_string w t s ht,World.iter,Result.andThen]
theorem Zeb {r pos:Nat} {s:ByteArray} {it:Operand} (hg:o.guard=none) (hop:o.op=.next it true) (hi:a.eval it=.pointer (some ⟨r,0,none⟩)) (h:At L0 w0 L w) (sl:Sel (Part.obj r (.stringIter s pos)) L F)
 (hEnd:¬pos < s.size→wpList P ops Q rest (a.put o.dst (.tuple #[.bool false])) w)
 (hK:∀w',pos < s.size→At L0 w0 (Part.obj r (.stringIter s (pos + (Utf8.decode s pos).2))::F) w'→wpList P ops Q rest (a.put o.dst (.tuple #[.bool true,.int .i64 pos,.int .i32 (Utf8.decode s pos).1])) w'):wpList P ops Q (o::rest) a w:=by
 have hI:w.heap[r]? =some (.stringIter s pos):=h.get sl;by_cases hp:pos < s.size
 · have h1:=Lib.run_next_any_at (P:=P) w r s pos o.type hI hp;refine Zah hg ?_ (hK _ hp (h.turn sl (Part.obj r (.stringIter s (pos + (Utf8.decode s pos).2))) (Lib.iterAt_heap w r s pos _ hI) (fun _ e=>.inl e) ?_))
   · simp[execOp,hop,hi,h1,Result.andThen]
   exact⟨rfl,rfl,rfl,by rw[Lib.iterAt_size];exact Nat.le_refl _,fun i _ hn=>Lib.iterAt_other w r i s _ hn⟩
 have h1:=Lib.run_next_end_at (P:=P) w r s pos o.type hI hp;refine Zah hg ?_ (hEnd hp);simp[execOp,hop,hi,h1,Result.andThen]
end
theorem Znk {s:ByteArray} {pos:Nat} (h:¬pos < s.size) (ha:(s.data.toList.take pos).all letB=true):s.data.toList.all letB=true:=by
 rwa [List.take_of_length_le (by simpa using Nat.le_of_not_lt h)] at ha
theorem Znl {s:ByteArray} {pos:Nat} (h:pos < s.size) (ha:(s.data.toList.take pos).all letB=true) (hc:letB s[pos]=true):(s.data.toList.take (pos + 1)).all letB=true:=by
 rw[List.take_succ_eq_append_getElem (by simpa using h),List.all_append,ha];simpa using(show letB (s.data[pos]'(by simpa using h))=true from hc)
theorem all_no {s:ByteArray} {pos:Nat} (h:pos < s.size) (hc:letB s[pos]=false):partB s.data.toList=false:=by
 unfold partB;rw[Bool.and_eq_false_iff];right
 cases q:s.data.toList.all letB
 · rfl
 have:=List.all_eq_true.1 q s[pos] (by show s.data[pos]'(by simpa using h) ∈ s.data.toList;exact Array.mem_toList_iff.2 (Array.getElem_mem _))
 rw[hc] at this;cases this
theorem Zjw {c:UInt8} (h:letB c=true):c.toNat < 128:=by
 unfold letB at h;simp only[Bool.or_eq_true,Bool.and_eq_true,decide_eq_true_eq] at h;omega
theorem ZoM {s:ByteArray} {pos:Nat} (h:pos < s.size) (hc:letB s[pos]=true):Utf8.decode s pos=(s[pos].toNat,1):=decode_ascii s pos h (Zjw hc)
theorem dec_no {s:ByteArray} {pos:Nat} (h:pos < s.size) (hc:letB s[pos]=false):letR ((Utf8.decode s pos).1:Int)=false:=by
 by_cases ha:s[pos].toNat < 128
 · rw[decode_ascii s pos h ha];simp only;rw[ZkT,hc]
 have:=(decode_high s pos h (by omega)).1
 exact ZkS (by omega)
def Zo0 (w:World) (r:Nat) (s:ByteArray) (k:Nat) (wr:World):Prop:=
 ∃pos:Nat,At [] w [Part.obj r (.stringIter s pos)] wr∧pos + k=s.size∧(s.data.toList.take pos).all letB=true
theorem ZiA (s:ByteArray) (w:World):Calls Tryz.prog 105 #[.string s] w fun e w'=>e=.returned (.bool (partB s.data.toList))∧Ext w w':=by
 have hA:=At.start (w0:=w) (L0:=[]) trivial;have hF:=hA.facts;go_enter Tryz.func105,Tryz.ntmps105
 go_wp2_with (refine Zd3 rfl rfl rfl Tryz.underlying9 hA ?_;intro r w1 hB hr;replace hA:=hB;clear hF hB;obtain⟨hA,hF⟩:=fY hA)
 (try go_frame);go_loopg [] s.size (Zo0 w r s)
 case atStart=>exact⟨0,hA,by simp,by simp⟩
 case round=>
  obtain⟨pos,hB,hk,hal⟩:=hrel;clear hF hA;have hA:=hB;clear hB;go_step
  go_step
  refine Zeb rfl rfl rfl hA sR (fun hp=> ?_) (fun w1 hp hB=> ?_)
  · have hall:=Znk hp hal;have e:partB s.data.toList= !s.data.toList.isEmpty:=by unfold partB;rw[hall,Bool.and_true]
    have e':=Hd e;clear e hall hal;go_wp2_with fail;go_ret;exact⟨by rw[e'.out,←Lib.toList_data];rfl,hA.toExt⟩
  cases hc:letB s[pos]
  · have hd:=dec_no hp hc;have hno:=Hd (all_no hp hc);clear hc hal hk;generalize Utf8.decode s pos=d at *
    obtain⟨d1,d2⟩:=d;simp only at hd;clear hA;have hA:=hB;clear hB;obtain⟨hA,hF⟩:=fY hA
    go_wp2_with (refine(Zfr _ _).mono ?_;rintro e _ ⟨rfl,rfl⟩)
    go_ret;exact⟨by rw[hno.out];rfl,hA.toExt⟩
  have hd:=ZoM hp hc;have hal':=Hd (Znl hp hal hc);have hy:letR (s[pos].toNat:Int)=true:=by rw[ZkT,hc]
  rw[hd] at hB;rw[hd];clear hd hal;generalize s[pos]=c at *
  clear hA;have hA:=hB;clear hB;obtain⟨hA,hF⟩:=fY hA
  go_wp2_with (refine(Zfr _ _).mono ?_;rintro e _ ⟨rfl,rfl⟩)
  go_roundg (gk - 1);case measure=>omega
  case rel=>exact⟨pos + 1,hA,by omega,hal'.out⟩
end Path
end
section
section
open Go.RowKit
def Zij {β:Type} (Bs:Nat) (J:β→World→Prop):Prop:=
 ∀s W W' row,J s W→W.grownBy W' row→(∀r,row=some r→r=Bs∧∃o:Obj,W'.heap[r]? =some o∧o.isCells=true)→J s W'
def OwnB {β:Type} (Bs B:Nat) (I:β→World→Prop):Prop:=
 ∀s W W' row,I s W→W.grownBy W' row→(∀r,row=some r→(r=Bs∧∃o:Obj,W'.heap[r]? =some o∧o.isCells=true)∨(B≤r∧∃o:Obj,W.heap[r]? =some o∧o.isCells=false))→I s W'
section
variable {β:Type} {Bs B:Nat} {I:β→World→Prop} {s:β} {W:World}
theorem OwnB.abides (h:OwnB Bs B I):Zij Bs I:=fun s W W' row hs hg hr=>h s W W' row hs hg (fun r e=>.inl (hr r e))
theorem OwnB.put (h:OwnB Bs B I) {l:Nat} {o:Obj} (o':Obj) (hs:I s W) (hB:B≤l) (hl:W.heap[l]? =some o) (ho:o.isCells=false):I s (W.putObj l o'):=
 h s W _ (some l) hs (grownBy_putObj' W l o') (fun r e=>by cases e;exact .inr ⟨hB,o,hl,ho⟩)
theorem OwnB.alloc (h:OwnB Bs B I) (o:Obj) (hs:I s W):I s (W.alloc o):=h s W _ none hs (World.grownBy_alloc W o none) (fun r e=>by cases e)
end
def SeqB {α:Type} (F:Fence) (n:Nat) (P:Program) (g:Nat) (lb:Array Value) (encs:α→Array Value) (Bs:Nat) (Kp:World→World→Prop) (S Sp:List α→Prop) (N:Nat) (w:World):Prop:=
 ∀(l:Nat) (J Jx:List α→World→Prop) (W:World),Below w.heap.size w W→Zij Bs J→
  (∀pre x W1,J pre W1→pre.length < N→YieldAt F (n - 1) P l (encs x) W1 fun e W'=>
    (e=.returned (.bool true)∧J (pre++[x]) W'∧Kp W1 W')∨(e=.returned (.bool false)∧Jx (pre++[x]) W'))→
  J [] W→
  CallsIn F n P g (#[.func (.yield l) #[] #[]]++lb) W fun e W'=>(∃v,e=.returned v)∧((∃xs,S xs∧J xs W')∨(∃pre,Sp pre∧Jx pre W'))
theorem ZdY {Bs:Nat} {W W':World} {row:Option Nat} (hg:W.grownBy W' row) (hr:∀r,row=some r→r=Bs∧∃o:Obj,W'.heap[r]? =some o∧o.isCells=true) {k:Nat} {o:Obj} (hk:W.heap[k]? =some o) (hne:k≠Bs):W'.heap[k]? =some o:=
 (hg.block k (Array.getElem?_eq_some_iff.1 hk).1 (fun e=>hne (hr k e.symm).1)).trans hk
variable {F:Fence} {n:Nat} {P:Program}
theorem Zd4 {α:Type} {g:Operand} {ps:Array Tmp} {assign body:Code} {Q:Exit→Act→World→Prop} {a:Act} {w:World}
 (hro:F.round=none) (h1:1≤n) {gf:Nat} {lb:Array Value} (hg:a.eval g=.func (.func gf) #[] lb) (hFg:F.fn gf) (eg:∀args w,(callFunc gf args).run P w=.ok (.enter gf args) w)
 {encs:α→Array Value} {Bs:Nat} {Kp:World→World→Prop} {S Sp:List α→Prop} {N:Nat} (hseq:SeqB F (n - 1) P gf lb encs Bs Kp S Sp N w) (hBs:Bs < w.heap.size)
 (hKt:∀{A B C:World},Kp A B→Kp B C→Kp A C) (hKb:∀(W:World) (l:Nat) (o':Obj),w.heap.size≤l→Kp W (W.putObj l o')) (hps:∀x,(encs x).size=ps.size)
 (I:List α→World→Prop) (Ix:Code→List α→World→Prop) (hI:OwnB Bs w.heap.size I) (hIx:∀c,OwnB Bs w.heap.size (Ix c)) (h0:I [] w) (a₁:α→Act)
 (hassign:∀(l:Nat) (x:α) (W:World) (K:Act→World→Prop),K (a₁ x) W→
   assign.wpIn (F.inRound l) (n - 1 - 1) P (Exit.then K (fun _ _ _=>False)) {tmps:=(ps.zip (encs x)).foldl (fun t (p,v)=>t.setIfInBounds p v) a.tmps,defers:=[]} W)
 (hbody:∀(l:Nat) (pre:List α) (x:α) (W:World),I pre W→pre.length < N→body.wpIn (F.inRound l) (n - 1 - 1) P (ownPostG w.heap.size Kp I Ix (pre++[x]) W) (a₁ x) W)
 (hdone:∀(D:Nat) (xs:List α) (W:World),w.heap.size≤D→S xs→I xs W→W.heap[D]? =some (.deferred (some []))→Q .normal {a with defers:={target:=.collected D,args:= #[]}::a.defers} W)
 (hstop:∀(D:Nat) (c:Code) (pre:List α) (W:World),w.heap.size≤D→Sp pre→Ix c pre W→W.heap[D]? =some (.deferred (some []))→c.wpIn F n P Q {a with defers:={target:=.collected D,args:= #[]}::a.defers} W):
 (Code.rangeFunc g ps assign body).wpIn F n P Q a w:=by
 refine wpIn_rangeFunc ?_;intro fn hfn;rw[hro]
 obtain⟨K0,hK0⟩:∃k,k=w.heap.size:=⟨_,rfl⟩
 obtain⟨rc,hrc⟩:∃rc:LoopState→Option Code→Loop,rc=fun st pe=>{state:=st,pending:=pe,fn,tmps:=a.tmps,params:=ps,assign,body,defers:=K0}:=⟨_,rfl⟩
 obtain⟨W1,hW1⟩:∃W1,(w.alloc (.deferred (some []))).alloc (.loop (rc .ready none))=W1:=⟨_,rfl⟩
 have hR:W1.heap[K0 + 1]? =some (.loop (rc .ready none)):=by
  have:=World.alloc_heap_new (w.alloc (.deferred (some []))) (.loop (rc .ready none));rw[←hW1,hK0]
  rwa [World.size_alloc] at this
 have hD:W1.heap[K0]? =some (.deferred (some [])):=by
  rw[←hW1,hK0];exact(Below.heap_alloc _ _ _ (by simp)).trans (World.alloc_heap_new w _)
 have hI1:I [] W1:=by rw[←hW1];exact hI.alloc _ (hI.alloc _ h0)
 have hb1:Below w.heap.size w W1:=by
  rw[←hW1];exact((Below.refl _ w).alloc (Nat.le_refl _) _).alloc (by simp) _
 have hl0:(Instr.enterLoop fn a.tmps ps assign body none).run P w=.ok (K0 + 1,[{target:=.collected K0,args:= #[]}]) W1:=by
  rw[←hW1,hrc,hK0];exact run_enterLoop_outer _ _ _ _ _
 refine⟨K0 + 1,[{target:=.collected K0,args:= #[]}],W1,{target:=.fn (.func gf) lb,args:= #[.func (.yield (K0 + 1)) #[] #[]]},W1,gf,#[.func (.yield (K0 + 1)) #[] #[]]++lb,W1,hl0,?_,?_,?_,fun _=>h1,?_⟩
 · simp only[resolve,hg];simp[go_sem]
 · intro f' hf';simp[Target.leads] at hf';subst hf';exact hFg
 · simp[invoke,go_sem,eg]
 have ne0:K0≠Bs:=by omega
 have ne1:K0 + 1≠Bs:=by omega
 refine(hseq (K0 + 1)
  (fun pre W=>I pre W∧W.heap[K0 + 1]? =some (.loop (rc .ready none))∧W.heap[K0]? =some (.deferred (some [])))
  (fun pre W=>∃c,Ix c pre W∧W.heap[K0 + 1]? =some (.loop (rc .done (some c)))∧W.heap[K0]? =some (.deferred (some [])))
  W1 hb1 (fun s A B row hs hg' hr=>⟨hI.abides s A B row hs.1 hg' hr,ZdY hg' hr hs.2.1 ne1,ZdY hg' hr hs.2.2 ne0⟩) ?_ ⟨hI1,hR,hD⟩).mono ?_
 · rintro pre x W ⟨hi,hl,hk⟩ hlen;have hlt:K0 + 1 < W.heap.size:=(Array.getElem?_eq_some_iff.1 hl).1;have hy:=run_yield (P:=P) (args:=encs x) hl (by rw[hrc];exact hps x);rw[hrc] at hy;refine⟨fn,_,assign,body,hy,roundIn_of_wpIn hfn (hassign _ x W _ ?_)⟩;clear hy;refine⟨_,run_beginRound hl (by rw[hrc]),?_⟩;have hl2:(W.putObj (K0 + 1) (.loop {rc .ready none with state:=.busy})).heap[K0 + 1]? =some (.loop {rc .ready none with state:=.busy}):=World.putObj_heap_same hlt;have hk2:(W.putObj (K0 + 1) (.loop {rc .ready none with state:=.busy})).heap[K0]? =some (.deferred (some [])):=(World.putObj_heap_other (by omega)).trans hk;have hw2:Kp W (W.putObj (K0 + 1) (.loop {rc .ready none with state:=.busy})):=hKb _ _ _ (by omega);refine wpIn_mono (hbody _ pre x _ (hI.put _ hi (by omega) hl rfl) hlen) ?_
   have fin:∀(jump:Option Code) (W3:World),KeepsFrom w.heap.size (W.putObj (K0 + 1) (.loop {rc .ready none with state:=.busy})) W3→
    (Instr.endRound (K0 + 1) jump).run P W3=.ok (.bool jump.isNone) (W3.putObj (K0 + 1) (.loop (rc (if jump.isNone then .ready else .done) jump)))∧
    W3.heap[K0 + 1]? =some (.loop {rc .ready none with state:=.busy})∧
    (W3.putObj (K0 + 1) (.loop (rc (if jump.isNone then .ready else .done) jump))).heap[K0 + 1]? =some (.loop (rc (if jump.isNone then .ready else .done) jump))∧
    (W3.putObj (K0 + 1) (.loop (rc (if jump.isNone then .ready else .done) jump))).heap[K0]? =some (.deferred (some [])):=fun jump W3 hk3=>by
    have hl3:=hk3.same _ _ (by omega) hl2 rfl;have he:=run_endRound (P:=P) jump hl3;rw[hrc] at he ⊢;exact⟨he,by rw[hrc] at hl3;exact hl3,World.putObj_heap_same (Array.getElem?_eq_some_iff.1 hl3).1,(World.putObj_heap_other (by omega)).trans (hk3.same _ _ (by omega) hk2 rfl)⟩
   rintro e a3 W3 hp
   cases e with
   |normal=>
    obtain⟨hk3,hkp3,hi3⟩:=hp;obtain⟨hr,hl3,hl4,hk4⟩:=fin none W3 hk3;exact⟨_,_,hr,.inl ⟨rfl,⟨hI.put _ hi3 (by omega) hl3 rfl,hl4,hk4⟩,hKt (hKt hw2 hkp3) (hKb _ _ _ (by omega))⟩⟩
   |ret=>
    obtain⟨hk3,hi3⟩:=hp;obtain⟨hr,hl3,hl4,hk4⟩:=fin (some .ret) W3 hk3;exact⟨_,_,hr,.inr ⟨rfl,.ret,(hIx _).put _ hi3 (by omega) hl3 rfl,hl4,hk4⟩⟩
   |exit id=>
    obtain⟨hk3,hi3⟩:=hp;obtain⟨hr,hl3,hl4,hk4⟩:=fin (some (.exit id)) W3 hk3;exact⟨_,_,hr,.inr ⟨rfl,.exit id,(hIx _).put _ hi3 (by omega) hl3 rfl,hl4,hk4⟩⟩
   |goto t=>
    obtain⟨hk3,hi3⟩:=hp;obtain⟨hr,hl3,hl4,hk4⟩:=fin (some (.goto t)) W3 hk3;exact⟨_,_,hr,.inr ⟨rfl,.goto t,(hIx _).put _ hi3 (by omega) hl3 rfl,hl4,hk4⟩⟩
   |panic ch=>exact hp.elim
   |outgrown=>exact hp.elim
 rintro e W2 ⟨⟨v,rfl⟩,(⟨xs,hS,hi,hl,hk⟩|⟨pre,hSp,c,hi,hl,hk⟩)⟩
 · have he:=run_endLoop (P:=P) hl (by rw[hrc];simp);rw[hrc] at he;exact⟨none,_,he,hdone _ xs _ (by omega) hS (hI.put _ hi (by omega) hl rfl) ((World.putObj_heap_other (by omega)).trans hk)⟩
 have he:=run_endLoop (P:=P) hl (by rw[hrc];simp);rw[hrc] at he;exact⟨some c,_,he,hstop _ c pre _ (by omega) hSp ((hIx c).put _ hi (by omega) hl rfl) ((World.putObj_heap_other (by omega)).trans hk)⟩
end
end
section
section
open Go.RowKit
section
variable {F:Fence} {n:Nat} {P:Program} {ops:Array Oper} {rest:List Oper} {o:Oper} {a:Act} {Q:Exit→Act→World→Prop} {L0 L G:List Part} {w0 w:World}
theorem Zcg (hfn:∀f,F.fn f) (hg:o.guard=none) (hd:∀c,o.op≠.defer c) {v:Value} {w':World} (hrun:(execOp a.eval o).run P w=.ok (.value v) w') (hK:wpListIn F n P ops Q rest (a.put o.dst v) w'):wpListIn F n P ops Q (o::rest) a w:=
 wpListIn_plain hg fun K hK'=>⟨fun f _=>hfn f,by rw[Oper.semAt_eq _ _ _ hd,hrun,Oper.uponIn_value];exact hK' _ _ hK⟩
theorem ZfU (hfn:∀f,F.fn f) (hg:o.guard=none) (hd:∀c,o.op≠.defer c) {w':World} (hrun:(execOp a.eval o).run P w=.ok .skip w') (hK:wpListIn F n P ops Q rest (a.put o.dst undef) w'):wpListIn F n P ops Q (o::rest) a w:=
 wpListIn_plain hg fun K hK'=>⟨fun f _=>hfn f,by rw[Oper.semAt_eq _ _ _ hd,hrun,Oper.uponIn_skip];exact hK' _ _ hK⟩
theorem ZaR {ty:TypeId} {x y:Operand} (hfn:∀f,F.fn f) (hg:o.guard=none) (hop:o.op=.store ty x y) {b j:Nat} (hx:a.eval x=.pointer (some ⟨b,j,none⟩)) {v:Value} (hy:a.eval y=v) {vs:List Value} (hv:v.cells=vs.toArray)
 (h:At L0 w0 L w) {c:List Value} {T:TypeId} (s:Sel (Part.cells b c T) L G) (hi:(P.info? ty).map (·.size)=some vs.length) (h1:vs.all (·.oneCell')=true) (hj:j + vs.length≤c.length)
 (hK:∀w',At L0 w0 (Part.cells b (setL c j vs) T::G) w'→wpListIn F n P ops Q rest (a.put o.dst undef) w'):wpListIn F n P ops Q (o::rest) a w:=by
 have hb:Zaa w b c T:=h.get s;have hs:v.cells.size=vs.length:=by rw[hv];simp
 have h1':v.cells.all (·.oneCell')=true:=by
  rw[hv,Array.all_eq_true_iff_forall_mem];intro u hu;exact List.all_eq_true.1 h1 u (by simpa using hu)
 have hrun:=Za5 (P:=P) w b j ty v (hb.there j _ (by omega)) (by rw[hs];exact hi) h1';rw[show v.cells.toList=vs from by rw[hv]] at hrun;refine ZfU hfn hg (by rw[hop];nofun) ?_ (hK _ (h.stores s j vs));simp[execOp,hop,hx,hy,hrun,Result.andThen]
theorem Zeg {t e:TypeId} {x:Operand} (hfn:∀f,F.fn f) (hg:o.guard=none) (hop:o.op=.buildSlice t 1 #[(0,x)]) {xv:Value} (hx:a.eval x=xv) {vs:List Value}
 (hrun:∀w,(Instr.buildSlice t 1 #[(0,xv)]).run P w=.ok (.slice (some ⟨w.heap.size,0,none⟩) 1 1) (w.alloc (.cells vs.toArray e)))
 (h:At L0 w0 L w)
 (hK:∀b w',At L0 w0 (Part.cells b vs e::L) w'→w0.heap.size≤b→wpListIn F n P ops Q rest (a.put o.dst (.slice (some ⟨b,0,none⟩) 1 1)) w'):wpListIn F n P ops Q (o::rest) a w:=by
 refine Zcg hfn hg (by rw[hop];nofun) ?_ (hK _ _ (h.alloc vs e) h.size);simp[execOp,hop,hx,hrun,Result.andThen]
theorem Zc9 {e:TypeId} {size m0:Nat} {v:Value} {xs:List Value} {i:TypeInfo} {z:Value} {bytes:Nat} (hfn:∀f,F.fn f) (hg:o.guard=none) (s' x:Operand) (t:TypeId) (ho:o.op=.call {callee:=.builtin .append,args:= #[s',x],argTypes:= #[t,t]})
 (ht:P.underlying t=some (.slice e)) (hi:P.info? e=some i) (hz:i.zero=some z) (hsize:i.size=size) (hby:i.bytes=bytes) (hzs:z.cells.size=size) (hsz:0 < size)
 (h:At L0 w0 L w) (s:Sel (Part.row e size v m0 xs) L G) (hs:a.eval s'=v) {xv:Value} {m:Nat} {news:List Value} (hxv:a.eval x=xv) (hl:news.length=m * size) (hx:Reads w xv m news) (h1:∀u ∈ news,u.oneCell'=true)
 (h63:m0 + m≤maxLen) (hbytes:(m0 + m) * bytes≤140737488355328)
 (hK:∀v' w',At L0 w0 (Part.row e size v' (m0 + m) (xs++news)::G) w'→wpListIn F n P ops Q rest (a.put o.dst v') w'):wpListIn F n P ops Q (o::rest) a w:=by
 obtain⟨v',w',hr,h2,h3,h4⟩:=ZcL (P:=P) w 0 t o.type e i z size bytes ht hi hz hsize hby hzs hsz v m0 xs (h.get s) xv m news hl hx h1 h63 hbytes (Nat.zero_le _);refine Zcg hfn hg (by rw[ho];nofun) (v:=v') (w':=w') ?_ (hK v' w' (h.turn s _ h2 (fun b hb=> ?_) (Zbt h3)))
 · simp[execOp,ho,resolve,invoke,builtin,hs,hxv,hr,Result.andThen]
 rcases h4 with h4|h4
 · exact .inl (show v.ownBlock=some b from by rw[←h4];exact hb)
 right
 have hb':v'.ownBlock=some b:=hb;rw[h4] at hb';cases hb';exact Nat.le_refl _
end
theorem ZhN {P:Program} {w:World} {t e:TypeId} {i:TypeInfo} {size n:Nat} {v:Value} {xs:List Value} (ht:P.underlying t=some (.slice e)) (hi:P.info? e=some i) (hsize:i.size=size) (hr:w.ownsRow 0 e size v n xs) (k:Nat) (hk:k≤n):
 ∃v',(Instr.sliceAt t v none (some (.int .i64 k)) none).run P w=.ok v' w∧w.ownsRow 0 e size v' k (xs.take (k * size))∧v'.ownBlock=v.ownBlock:=by
 have hz:∀w,(sizeOf e).run P w=.ok size w:=fun w=>by simp[sizeOf,typeInfo,hi,hsize]
 rcases hr.2 with⟨rfl,rfl⟩|⟨g,cap,cur,rfl,hg,hh,hc,hm,hs,htk⟩
 · obtain rfl:k=0:=by omega
   refine⟨.slice none 0 0,?_,⟨by simp,.inl ⟨rfl,rfl⟩⟩,rfl⟩;simp[Instr.sliceAt,Instr.slice,run_underlying ht,Instr.sliceBounds,run_sliceBound,hz,Result.andThen]
 refine⟨.slice (some ⟨g,0,none⟩) k cap,?_,⟨?_,.inr ⟨g,cap,cur,rfl,hg,hh,by omega,hm,hs,?_⟩⟩,rfl⟩
 · by_cases h0:cap=0
   · subst h0;obtain rfl:k=0:=by omega
     simp[Instr.sliceAt,Instr.slice,run_underlying ht,Instr.sliceBounds,run_sliceBound,hz,Result.andThen]
   simp[Instr.sliceAt,Instr.slice,run_underlying ht,Instr.sliceBounds,run_sliceBound,hz,Result.andThen,show(k:Int)≤cap by omega,h0,Addr.add]
 · rw[List.length_take,hr.1];have:k * size≤n * size:=Nat.mul_le_mul_right _ hk
   omega
 rw[←htk,List.take_take];have:k * size≤n * size:=Nat.mul_le_mul_right _ hk;rw[Nat.min_eq_left this]
theorem Zeh {F:Fence} {n:Nat} {P:Program} {ops:Array Oper} {rest:List Oper} {o:Oper} {a:Act} {Q:Exit→Act→World→Prop} {L0 L G:List Part} {w0 w:World} {t e:TypeId} {i:TypeInfo} {size m0 k:Nat} {v:Value} {xs:List Value} {x hi':Operand}
 (hfn:∀f,F.fn f) (hg:o.guard=none) (hop:o.op=.slice t x none (some hi') none) (ht:P.underlying t=some (.slice e)) (hi:P.info? e=some i) (hsize:i.size=size) (hx:a.eval x=v) (hh:a.eval hi'=.int .i64 k)
 (h:At L0 w0 L w) (s:Sel (Part.row e size v m0 xs) L G) (hk:k≤m0) (hK:∀v',At L0 w0 (Part.row e size v' k (xs.take (k * size))::G) w→wpListIn F n P ops Q rest (a.put o.dst v') w):wpListIn F n P ops Q (o::rest) a w:=by
 obtain⟨v',hr,h1,h2⟩:=ZhN (P:=P) ht hi hsize (h.get s:w.ownsRow 0 e size v m0 xs) k hk;refine Zcg hfn hg (by rw[hop];nofun) ?_ (hK v' (h.turn s (Part.row e size v' k (xs.take (k * size))) h1 (fun b hb=>.inl (by simpa [Part.row,h2] using hb)) (Exc.refl _ _)));simp[execOp,hop,hx,hh,hr,Result.andThen]
def Part.hole (b:Nat):Part where
 holds w:=∃o:Obj,w.heap[b]? =some o∧o.isCells=true
 foot k:=k=b
 lt:=fun w ⟨o,h,_⟩ _ e=>by subst e;exact Za0 h
 stay:=fun _ _ ⟨o,h,ho⟩ e=>⟨o,(e b rfl).trans h,ho⟩
def Part.Cl (A:Part):Prop:=∀w,A.holds w→∀b,A.foot b→∃o:Obj,w.heap[b]? =some o∧o.isCells=true
theorem Part.cl_cells (b:Nat) (c:List Value) (T:TypeId):(Part.cells b c T).Cl:=fun w h k e=>by subst e;exact⟨_,h,rfl⟩
theorem Part.cl_hole (b:Nat):(Part.hole b).Cl:=fun w h k e=>by subst e;exact h
theorem Part.cl_row (e:TypeId) (size:Nat) (v:Value) (n:Nat) (xs:List Value):(Part.row e size v n xs).Cl:=fun w h k hk=>by
 rcases h.2 with⟨rfl,_⟩|⟨g,cap,cur,rfl,_,hh,_⟩
 · exact nomatch hk
 cases hk;exact⟨_,hh,rfl⟩
theorem At.grown {L0 L:List Part} {w0 W W':World} {row:Option Nat} (h:At L0 w0 L W) (hg:W.grownBy W' row) (hr:∀r,row=some r→w0.heap.size≤r∧¬footL L r):At L0 w0 L W':=
 ⟨h.sep.same (fun b ⟨A,hA,hb⟩=>hg.block b (h.sep.lt hA hb) (fun e=>(hr b e.symm).2 ⟨A,hA,hb⟩)),h.foot,
   h.exc.trans' (T:=fun k=>row=some k) (Zbt hg) (fun b _ hb=>.inr (hr b hb).1)⟩
theorem At.ownB {L0 L G:List Part} {w0 W W':World} {row:Option Nat} {Bs B:Nat} (h:At L0 w0 L W) (s:Sel (Part.hole Bs) L G) (hc:∀A ∈ L,A.Cl) (hB:w0.heap.size≤B) (hg:W.grownBy W' row)
 (hr:∀r,row=some r→(r=Bs∧∃o:Obj,W'.heap[r]? =some o∧o.isCells=true)∨(B≤r∧∃o:Obj,W.heap[r]? =some o∧o.isCells=false)):At L0 w0 (Part.hole Bs::G) W':=by
 cases row with
 |none=>exact(h.grown hg (fun r e=>by cases e)).take s
 |some r=>
  rcases hr r rfl with⟨rfl,ho⟩|⟨h1,o,ho,hoc⟩
  · exact h.turn s (Part.hole r) ho (fun _ e=>.inl e) ((Zbt hg).mono (fun b _ e=>by cases e;rfl))
  refine(h.grown hg (fun q e=> ?_)).take s;cases e;refine⟨by omega,fun⟨A,hA,hb⟩=> ?_⟩;obtain⟨o',ho',hoc'⟩:=hc A hA W (h.sep.get hA) r hb;rw[ho] at ho';cases ho';rw[hoc] at hoc';cases hoc'
theorem At.keepsFrom {L0 L:List Part} {W W':World} (h:At L0 W L W') (hs:Sep L0 W) (hc:∀A ∈ L0,A.Cl) (B:Nat):KeepsFrom B W W':=
 ⟨h.size,fun k o _ hk ho=>(h.exc.block k (Za0 hk) (fun⟨A,hA,hb⟩=>by
   obtain⟨o',ho',hoc'⟩:=hc A hA W (hs.get hA) k hb;rw[hk] at ho';cases ho';rw[ho] at hoc'
   cases hoc')).trans hk⟩
end
end
end Go.Proofs.YtbeckijoabapkaaGreatDoor
