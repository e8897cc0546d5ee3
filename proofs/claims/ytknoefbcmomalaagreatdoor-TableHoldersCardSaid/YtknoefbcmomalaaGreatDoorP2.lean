import Derived.Test.YtknoefbcmomalaaGreatDoorP1
import Derived.Test.YtknoefbcmomalaaGreatDoorChecked
import Derived.RangeFuncNested
import Derived.RangeFuncBound
import Derived.Shelf.Abstract
import Derived.OwnWalkIn
import Derived.TacticsInMore
import Derived.LoopNIn
import Derived.LoopIn
set_option linter.unusedSimpArgs false
set_option linter.unusedVariables false
set_option maxRecDepth 100000
set_option maxHeartbeats 16000000
section
namespace Go.Proofs.YtknoefbcmomalaaGreatDoor
open Go.RowKit
def Part.row (e:TypeId) (size:Nat) (v:Value) (n:Nat) (xs:List Value):Part where
 holds w:=w.ownsRow 0 e size v n xs
 foot b:=v.ownBlock=some b
 lt:=fun w h b hb=>by
  rcases h.2 with⟨rfl,_⟩|⟨g,cap,cur,rfl,_,hh,_⟩
  · exact nomatch hb
  cases hb;exact ZaJ hh
 stay:=fun w w' h q=>by
  rcases h.2 with h2|⟨g,cap,cur,hv,hg,hh,r⟩
  · exact⟨h.1,.inl h2⟩
  exact⟨h.1,.inr ⟨g,cap,cur,hv,hg,(q g (by rw[hv];rfl)).trans hh,r⟩⟩
theorem Zc3 (e:TypeId) (size:Nat) (v:Value) (n:Nat) (xs:List Value) (w:World):(Part.row e size v n xs).facts w=True:=rfl
theorem ZbV {w w':World} {row:Option Nat} (h:w.grownBy w' row):Exc (fun k=>row=some k) w w':=by
 obtain⟨h1,h2,h3,h4,h5⟩:=h;exact⟨h1,h2,h3,h4,fun k hk hn=>h5 k hk (fun e=>hn e.symm)⟩
section
variable {P:Program} {ops:Array Oper} {rest:List Oper} {o:Oper} {a:Act} {Q:Exit→Act→World→Prop} {L0 L F:List Part} {w0 w:World} {e:TypeId} {size n:Nat} {v:Value} {xs:List Value}
theorem At.row_form (h:At L0 w0 L w) (s:Sel (Part.row e size v n xs) L F):∃ax cap,v=.slice ax n cap∧(ax=none→n=0)∧n≤cap∧xs.length=n * size:=by
 have hr:w.ownsRow 0 e size v n xs:=h.get s;rcases hr.2 with⟨rfl,rfl⟩|⟨g,cap,cur,rfl,_,_,hc,_⟩
 · exact⟨none,0,rfl,fun _=>rfl,Nat.le_refl _,hr.1⟩
 exact⟨_,cap,rfl,nofun,hc,hr.1⟩
theorem At.row_open {ax:Option Addr} {cap:Nat} (h:At L0 w0 L w) (s:Sel (Part.row e size (.slice ax n cap) n xs) L F) (hn:0 < n):
 ∃g c,ax=some ⟨g,0,none⟩∧n≤cap∧cap≤maxLen∧c.length=cap * size∧c.take (n * size)=xs∧At L0 w0 (Part.cells g c e::F) w:=by
 have hr:w.ownsRow 0 e size (.slice ax n cap) n xs:=h.get s;rcases hr.2 with⟨hv,rfl⟩|⟨g,cap',cur,hv,_,hh,hc,hm,hs,ht⟩
 · omega
 cases hv;exact⟨g,cur.toList,rfl,hc,hm,by simpa using hs,ht,h.turn s (Part.cells g cur.toList e) (show Zaa w g _ e from(by unfold Zaa;simpa using hh)) (fun b hb=>.inl (by cases hb;rfl)) (Exc.refl _ _)⟩
theorem At.row_shut {g cap:Nat} {c:List Value} (h:At L0 w0 L w) (s:Sel (Part.cells g c e) L F) (hl:c.length=cap * size) (hn:n≤cap) (hm:cap≤maxLen) (ht:c.take (n * size)=xs):
 At L0 w0 (Part.row e size (.slice (some ⟨g,0,none⟩) n cap) n xs::F) w:=by
 subst ht;exact h.turn s (Part.row e size (.slice (some ⟨g,0,none⟩) n cap) n (c.take (n * size))) (own_of (h.get s:Zaa w g c e) hl hn hm) (fun b hb=>.inl (by simp[Part.row,Value.ownBlock] at hb;exact hb.symm)) (Exc.refl _ _)
theorem At.row_nil (h:At L0 w0 L w) (e:TypeId) (size:Nat):At L0 w0 (Part.row e size (.slice none 0 0) 0 []::L) w:=
 h.new (Ext.refl w) _ ⟨by simp,.inl ⟨rfl,rfl⟩⟩ (fun b hb=>nomatch hb)
theorem At.row_new {w':World} (h:At L0 w0 L w) (hx:Ext w w') (ho:w'.ownsRow w.heap.size e size v n xs):At L0 w0 (Part.row e size v n xs::L) w':=
 h.new hx _ (Zl3 ho (Nat.zero_le _)) (fun b hb=>own_ge ho b hb)
theorem At.row_reads (h:At L0 w0 L w) (s:Sel (Part.row e size v n xs) L F):Reads w v n xs:=ZbF (h.get s:w.ownsRow 0 e size v n xs)
theorem At.cells_reads {b:Nat} {c:List Value} {T:TypeId} (h:At L0 w0 L w) (s:Sel (Part.cells b c T) L F) (m cap:Nat):Reads w (.slice (some ⟨b,0,none⟩) m cap) m c:=
 ⟨_,_,rfl,nofun,fun j u hj=>⟨b,0,rfl,by rw[Nat.zero_add];exact((h.get s:Zaa w b c T).cell j).trans hj⟩⟩
theorem Zbs {α:Type} (enc:α→List Value) (size:Nat) (hs:∀x,(enc x).length=size):∀(l:List α) (k:Nat) (x:α),l[k]? =some x→∀j,j < size→(l.flatMap enc)[k * size + j]? =(enc x)[j]?
 |y::l,0,x,hx,j,hj=>by
  simp at hx;subst hx
  rw[List.flatMap_cons,Nat.zero_mul,Nat.zero_add,List.getElem?_append_left (by rw[hs];exact hj)]
 |y::l,k + 1,x,hx,j,hj=>by
  rw[List.flatMap_cons,List.getElem?_append_right (by rw[hs,Nat.add_mul];omega),hs,show(k + 1) * size + j - size=k * size + j by rw[Nat.add_mul];omega];exact Zbs enc size hs l k x (by simpa using hx) j hj
 |[],k,x,hx,j,hj=>by simp at hx
theorem ZaB {α:Type} (enc:α→List Value) (size:Nat) (hs:∀x,(enc x).length=size):∀(l:List α),(l.flatMap enc).length=l.length * size
 |[]=>by simp
 |x::l=>by rw[List.flatMap_cons,List.length_append,ZaB enc size hs l,hs,List.length_cons,Nat.add_mul];omega
theorem Zag {α:Type} {enc:α→List Value} {size:Nat} (hs:∀x,(enc x).length=size) {c:List Value} {l:List α} (ht:c.take (l.length * size)=l.flatMap enc) {k:Nat} {x:α} (hx:l[k]? =some x) (j:Nat) (hj:j < size):c[k * size + j]? =(enc x)[j]? :=by
 rw[←Zbs enc size hs l k x hx j hj,←ht,List.getElem?_take_of_lt];have:=(List.getElem?_eq_some_iff.1 hx).1
 calc k * size + j < k * size + size:=by omega
  _=(k + 1) * size:=by rw[Nat.add_mul];omega
  _≤_:=Nat.mul_le_mul_right _ this
theorem Zac {i:TypeInfo} {z:Value} {bytes:Nat} (hg:o.guard=none) (s' x:Operand) (t:TypeId) (ho:o.op=.call {callee:=.builtin .append,args:= #[s',x],argTypes:= #[t,t]})
 (ht:P.underlying t=some (.slice e)) (hi:P.info? e=some i) (hz:i.zero=some z) (hsize:i.size=size) (hby:i.bytes=bytes) (hzs:z.cells.size=size) (hsz:0 < size)
 (h:At L0 w0 L w) (s:Sel (Part.row e size v n xs) L F) (hs:a.eval s'=v) {xv:Value} {m:Nat} {news:List Value} (hxv:a.eval x=xv) (hl:news.length=m * size) (hx:Reads w xv m news) (h1:∀u ∈ news,u.oneCell'=true)
 (h63:n + m≤maxLen) (hbytes:(n + m) * bytes≤140737488355328)
 (hK:∀v' w',At L0 w0 (Part.row e size v' (n + m) (xs++news)::F) w'→wpList P ops Q rest (a.put o.dst v') w'):wpList P ops Q (o::rest) a w:=
 Zda w hg s' x t ho 0 e i z size bytes ht hi hz hsize hby hzs hsz v n xs hs (h.get s) xv m news hxv hl hx h1 h63 hbytes (Nat.zero_le _) fun v' w' h2 h3 h4=>
  hK v' w' (h.turn s _ h2 (fun b hb=>by
   rcases h4 with h4|h4
   · exact .inl (show v.ownBlock=some b from by rw[←h4];exact hb)
   right
   have hb':v'.ownBlock=some b:=hb;rw[h4] at hb';cases hb'
   exact Nat.le_refl _) (ZbV h3))
theorem Zap {t:TypeId} {x:Operand} (hg:o.guard=none) (hop:o.op=.buildSlice t 1 #[(0,x)]) {xv:Value} (hx:a.eval x=xv) {vs:List Value}
 (hrun:∀w,(Instr.buildSlice t 1 #[(0,xv)]).run P w=.ok (.slice (some ⟨w.heap.size,0,none⟩) 1 1) (w.alloc (.cells vs.toArray e)))
 (h:At L0 w0 L w)
 (hK:∀b w',At L0 w0 (Part.cells b vs e::L) w'→w0.heap.size≤b→wpList P ops Q rest (a.put o.dst (.slice (some ⟨b,0,none⟩) 1 1)) w'):wpList P ops Q (o::rest) a w:=by
 refine Zal hg ?_ (hK _ _ (h.alloc vs e) h.size);simp[execOp,hop,hx,hrun,Result.andThen]
end
end Go.Proofs.YtknoefbcmomalaaGreatDoor
end
section
namespace Go.Proofs.YtknoefbcmomalaaGreatDoor
open Go
theorem uZ:type_of% @uA∧type_of% fA∧type_of% @Zc3∧(∀p:Prop,(p∧True)=p)∧(∀p:Prop,(True∧p)=p):=⟨@uA,fA,@Zc3,and_true,true_and⟩
end Go.Proofs.YtknoefbcmomalaaGreatDoor
section
namespace Go
open _root_.Go.Proofs.YtknoefbcmomalaaGreatDoor
open Go.RowKit
theorem fZ {L0 L:List Part} {w0 w:World} {X Y:Prop} (h:At L0 w0 L w) (s:At L0 w0 L w→Facts L w→X∧Y:=by intro hA hF;(try simp only[uZ] at hA hF);exact⟨hA,hF⟩):X∧Y:=s h h.facts
theorem wCz {X Y:Nat→World→Prop} {P:Program} {ops:Array Oper} {rest:List Oper} {o:Oper} {a:Act} {Q:Exit→Act→World→Prop} {L0 L:List Part} {w0 w:World} {E:TypeId} {x:Operand} {v:Value} {vs:List Value} (h:At L0 w0 L w) (hK:∀b w',X b w'→w0.heap.size≤b→Y b w'→wpList P ops Q rest (a.put o.dst (.pointer (some ⟨b,0,none⟩))) w') (hg:o.guard=none:=by exact rfl) (hop:o.op=.box E x:=by exact rfl) (hx:a.eval x=v:=by(try simp only[Act.eval,eV])<;>exact rfl) (hv:v.cells=vs.toArray:=by exact rfl) (sq:∀b w',At L0 w0 (Part.cells b vs E::L) w'→Facts (Part.cells b vs E::L) w'→X b w'∧Y b w':=by intro b w' hA hF;(try simp only[uZ] at hA hF);exact⟨hA,hF⟩):wpList P ops Q (o::rest) a w:=wC h (fun b w' p q r=>(sq b w' p r).elim fun x y=>hK b w' x q y) hg hop hx hv
theorem wGz {X Y:Nat→World→Prop} {P:Program} {ops:Array Oper} {rest:List Oper} {o:Oper} {a:Act} {Q:Exit→Act→World→Prop} {L0 L:List Part} {w0 w:World} (E:TypeId) (vs:List Value) (h:At L0 w0 L w) (hK:∀b w',X b w'→w0.heap.size≤b→Y b w'→wpList P ops Q rest (a.put o.dst (.pointer (some ⟨b,0,none⟩))) w') (hg:o.guard=none:=by exact rfl) (hop:o.op=.alloc E:=by exact rfl) (hz:(P.info? E).map (·.zero)=some (some (.agg vs.toArray)):=by kernel_rfl) (sq:∀b w',At L0 w0 (Part.cells b vs E::L) w'→Facts (Part.cells b vs E::L) w'→X b w'∧Y b w':=by intro b w' hA hF;(try simp only[uZ] at hA hF);exact⟨hA,hF⟩):wpList P ops Q (o::rest) a w:=wG E vs h (fun b w' p q r=>(sq b w' p r).elim fun x y=>hK b w' x q y) hg hop hz
theorem wHz {X Y:Nat→World→Prop} {P:Program} {ops:Array Oper} {rest:List Oper} {o:Oper} {a:Act} {Q:Exit→Act→World→Prop} {L0 L:List Part} {w0 w:World} (E:TypeId) (vs:List Value) {x:Operand} (h:At L0 w0 L w) (hK:∀b w',X b w'→w0.heap.size≤b→Y b w'→wpList P ops Q rest (a.put o.dst (.pointer (some ⟨b,0,none⟩))) w') (hg:o.guard=none:=by exact rfl) (hop:o.op=.box E x:=by exact rfl) (hx:a.eval x=.agg vs.toArray:=by first|(simp[Act.eval,Act.put];done)|exact rfl) (sq:∀b w',At L0 w0 (Part.cells b vs E::L) w'→Facts (Part.cells b vs E::L) w'→X b w'∧Y b w':=by intro b w' hA hF;(try simp only[uZ] at hA hF);exact⟨hA,hF⟩):wpList P ops Q (o::rest) a w:=wH E vs h (fun b w' p q r=>(sq b w' p r).elim fun x y=>hK b w' x q y) hg hop hx
theorem wTz {X Y:World→Prop} {P:Program} {ops:Array Oper} {rest:List Oper} {o:Oper} {a:Act} {Q:Exit→Act→World→Prop} {L0 L F:List Part} {w0 w:World} {ty:TypeId} {x y:Operand} {b j:Nat} {v:Value} {vs c:List Value} {T:TypeId} (h:At L0 w0 L w) (hK:∀w',X w'→Y w'→wpList P ops Q rest (a.put o.dst undef) w') (hg:o.guard=none:=by exact rfl) (hop:o.op=.store ty x y:=by exact rfl) (hx:a.eval x=.pointer (some ⟨b,j,none⟩):=by exact rfl) (hy:a.eval y=v:=by(try simp only[Act.eval,eV])<;>exact rfl) (hv:v.cells=vs.toArray:=by exact rfl) (s:Sel (Part.cells b c T) L F:=by with_reducible repeat(first|exact Sel.here|apply Sel.there)) (hi:(P.info? ty).map (·.size)=some vs.length:=by kernel_rfl) (h1:vs.all (·.oneCell')=true:=by exact rfl) (hj:j + vs.length≤c.length:=by first|decide|(simp;done)|omega) (sq:∀w',At L0 w0 (Part.cells b (setL c j vs) T::F) w'→Facts (Part.cells b (setL c j vs) T::F) w'→X w'∧Y w':=by intro w' hA hF;(try simp only[uZ] at hA hF);exact⟨hA,hF⟩):wpList P ops Q (o::rest) a w:=wT h (fun w' p r=>(sq w' p r).elim fun x y=>hK w' x y) hg hop hx hy hv s hi h1 hj
theorem g0 {X Y P ops rest o a Q L0 L w0 w}:type_of%(@wGz X Y P ops rest o a Q L0 L w0 w 45 [.int .u64 0,.int .i64 0,.int .u64 0,.bool false]):=@wGz _ _ _ _ _ _ _ _ _ _ _ _ _ _
theorem g3 {X Y P ops rest o a Q L0 L w0 w}:type_of%(@wGz X Y P ops rest o a Q L0 L w0 w 82 [.string .empty,.int .u64 0,.string .empty,.int .i64 0,.int .u64 0,.int .i64 0]):=@wGz _ _ _ _ _ _ _ _ _ _ _ _ _ _
theorem g4 {X Y P ops rest o a Q L0 L w0 w}:type_of%(@wGz X Y P ops rest o a Q L0 L w0 w 40 [.slice none 0 0,.int .u64 0,.slice none 0 0,.slice none 0 0]):=@wGz _ _ _ _ _ _ _ _ _ _ _ _ _ _
theorem g9 {X Y P ops rest o a Q L0 L w0 w}:type_of%(@wGz X Y P ops rest o a Q L0 L w0 w 73 [.int .u64 0,.string .empty,.bool false,.bool false,.int .i64 0,.int .i64 0,.slice none 0 0]):=@wGz _ _ _ _ _ _ _ _ _ _ _ _ _ _
theorem g10 {X Y P ops rest o a Q L0 L w0 w}:type_of%(@wGz X Y P ops rest o a Q L0 L w0 w 38 [.int .u64 0,.slice none 0 0,.slice none 0 0]):=@wGz _ _ _ _ _ _ _ _ _ _ _ _ _ _
theorem g11 {X Y P ops rest o a Q L0 L w0 w}:type_of%(@wGz X Y P ops rest o a Q L0 L w0 w 55 [.string .empty,.int .u64 0,.string .empty,.int .i64 0,.int .u64 0,.int .i64 0]):=@wGz _ _ _ _ _ _ _ _ _ _ _ _ _ _
theorem g12 {X Y P ops rest o a Q L0 L w0 w}:type_of%(@wGz X Y P ops rest o a Q L0 L w0 w 43 [.int .i64 0,.int .u64 0,.string .empty,.int .u64 0,.string .empty,.int .i64 0,.int .u64 0,.int .i64 0]):=@wGz _ _ _ _ _ _ _ _ _ _ _ _ _ _
end Go
end
end
namespace Go.Proofs.YtknoefbcmomalaaGreatDoor
section
section
open Go.RowKit
section
variable {P:Program} {ops:Array Oper} {rest:List Oper} {o:Oper} {a:Act} {Q:Exit→Act→World→Prop} {w:World} {e:TypeId} {size n:Nat} {v:Value} {xs:List Value}
theorem Zia {base:Nat} (h:w.ownsRow base e size v n xs):∃ax cap,v=.slice ax n cap∧n≤cap∧cap≤maxLen∧xs.length=n * size∧(ax=none∧n=0∧cap=0∨∃g,ax=some ⟨g,0,none⟩∧∀j u,xs[j]? =some u→w.cell? ⟨g,j,none⟩=some u):=by
 rcases h.2 with⟨rfl,rfl⟩|⟨g,cap,cur,rfl,hb,hh,hc,hm,hs,ht⟩
 · exact⟨none,0,rfl,Nat.le_refl _,Nat.zero_le _,h.1,.inl ⟨rfl,rfl,rfl⟩⟩
 refine⟨_,cap,rfl,hc,hm,h.1,.inr ⟨g,rfl,fun j u hj=> ?_⟩⟩
 have:=h.cells (g:=g) rfl j u hj;rw[Addr.add_lit,Nat.zero_add] at this;exact this
theorem Zge {t:TypeId} {i:TypeInfo} (ht:P.underlying t=some (.slice e)) (hi:P.info? e=some i) (hsize:i.size=size) (hr:w.ownsRow 0 e size v n xs) (k:Nat) (hk:k≤n):
 ∃xv,(Instr.sliceAt t v none (some (.int .i64 k)) none).run P w=.ok xv w∧Reads w xv k (xs.take (k * size)):=by
 obtain⟨ax,cap,rfl,hc,hm,hl,hx⟩:=Zia hr;have hz:∀w,(sizeOf e).run P w=.ok size w:=fun w=>by simp[sizeOf,typeInfo,hi,hsize]
 refine⟨.slice (if cap=0 then ax else ax.map (·.add (0 * size))) k cap,?_,?_⟩
 · simp[Instr.sliceAt,Instr.slice,run_underlying ht,Instr.sliceBounds,run_sliceBound,hz,Result.andThen,show(k:Int)≤cap by omega]
 rcases hx with⟨rfl,rfl,rfl⟩|⟨g,rfl,hcell⟩
 · have:xs=[]:=List.eq_nil_of_length_eq_zero (by simpa using hl)
   subst this;exact⟨_,_,rfl,fun _=>by omega,fun j u hj=>by simp at hj⟩
 refine⟨_,_,rfl,?_,fun j u hj=>⟨g,0,?_,?_⟩⟩
 · intro h;split at h<;>simp at h
 · split<;>simp[Addr.add]
 rw[Nat.zero_add];rw[List.getElem?_take] at hj;split at hj
 · exact hcell j u hj
 exact nomatch hj
theorem Zev {t:TypeId} {i:TypeInfo} (ht:P.underlying t=some (.slice e)) (hi:P.info? e=some i) (hsize:i.size=size) (hr:w.ownsRow 0 e size v n xs) (k:Nat) (hk:k≤n):
 ∃xv,(Instr.sliceAt t v (some (.int .i64 k)) none none).run P w=.ok xv w∧Reads w xv (n - k) (xs.drop (k * size)):=by
 obtain⟨ax,cap,rfl,hc,hm,hl,hx⟩:=Zia hr;have hz:∀w,(sizeOf e).run P w=.ok size w:=fun w=>by simp[sizeOf,typeInfo,hi,hsize]
 refine⟨.slice (if cap=k then ax else ax.map (·.add (k * size))) (n - k) (cap - k),?_,?_⟩
 · simp[Instr.sliceAt,Instr.slice,run_underlying ht,Instr.sliceBounds,run_sliceBound,hz,Result.andThen,show(k:Int)≤n by omega]
 rcases hx with⟨rfl,rfl,rfl⟩|⟨g,rfl,hcell⟩
 · have:xs=[]:=List.eq_nil_of_length_eq_zero (by simpa using hl)
   subst this;exact⟨_,_,rfl,fun _=>by omega,fun j u hj=>by simp at hj⟩
 refine⟨_,_,rfl,?_,fun j u hj=>⟨g,if cap=k then 0 else k * size,?_,?_⟩⟩
 · intro h;split at h<;>simp at h
 · split
   · rfl
   rw[Option.map_some,Addr.add_lit,Nat.zero_add]
 have hjl:=(List.getElem?_eq_some_iff.1 hj).1;rw[List.length_drop,hl] at hjl
 have hne:cap≠k:=by
  intro h;have:n=k:=by omega
  subst this;omega
 rw[if_neg hne];rw[List.getElem?_drop] at hj;exact hcell _ u hj
theorem ZaP {t:TypeId} {i:TypeInfo} {x hi':Operand} {k:Nat} (hg:o.guard=none) (hop:o.op=.slice t x none (some hi') none) (ht:P.underlying t=some (.slice e)) (hi:P.info? e=some i) (hsize:i.size=size) (hx:a.eval x=v) (hh:a.eval hi'=.int .i64 k)
 (hr:w.ownsRow 0 e size v n xs) (hk:k≤n) (hK:∀xv,Reads w xv k (xs.take (k * size))→wpList P ops Q rest (a.put o.dst xv) w):wpList P ops Q (o::rest) a w:=by
 obtain⟨xv,h1,h2⟩:=Zge (P:=P) ht hi hsize hr k hk;refine Zal hg ?_ (hK xv h2);simp[execOp,hop,hx,hh,h1,Result.andThen]
theorem ZaH {t:TypeId} {i:TypeInfo} {x lo:Operand} {k:Nat} (hg:o.guard=none) (hop:o.op=.slice t x (some lo) none none) (ht:P.underlying t=some (.slice e)) (hi:P.info? e=some i) (hsize:i.size=size) (hx:a.eval x=v) (hh:a.eval lo=.int .i64 k)
 (hr:w.ownsRow 0 e size v n xs) (hk:k≤n) (hK:∀xv,Reads w xv (n - k) (xs.drop (k * size))→wpList P ops Q rest (a.put o.dst xv) w):wpList P ops Q (o::rest) a w:=by
 obtain⟨xv,h1,h2⟩:=Zev (P:=P) ht hi hsize hr k hk;refine Zal hg ?_ (hK xv h2);simp[execOp,hop,hx,hh,h1,Result.andThen]
end
end
end
section
section
open Go.RowKit
section
variable {α:Type} {enc:α→List Value} {size:Nat}
theorem Zbl (hs:∀x,(enc x).length=size):∀(l:List α) (k:Nat),(l.flatMap enc).take (k * size)=(l.take k).flatMap enc
 |[],k=>by simp
 |x::l,0=>by simp
 |x::l,k + 1=>by
  rw[List.take_succ_cons,List.flatMap_cons,List.flatMap_cons,←Zbl hs l k,List.take_append,List.take_of_length_le (by rw[hs,Nat.add_mul];omega),hs,show(k + 1) * size - size=k * size by rw[Nat.add_mul];omega]
theorem ZbI (hs:∀x,(enc x).length=size):∀(l:List α) (k:Nat),(l.flatMap enc).drop (k * size)=(l.drop k).flatMap enc
 |[],k=>by simp
 |x::l,0=>by simp
 |x::l,k + 1=>by
  rw[List.drop_succ_cons,List.flatMap_cons,←ZbI hs l k,List.drop_append,List.drop_eq_nil_of_le (by rw[hs,Nat.add_mul];omega),hs,show(k + 1) * size - size=k * size by rw[Nat.add_mul];omega,List.nil_append]
theorem ZaO (h:∀x,∀u ∈ enc x,u.oneCell'=true) (l:List α):∀u ∈ l.flatMap enc,u.oneCell'=true:=by
 intro u hu;obtain⟨x,_,hx⟩:=List.mem_flatMap.1 hu;exact h x u hx
theorem Zgg (E:TypeId) (v:Value) (l:List α) (x:α):Part.row E size v (l.length + 1) (l.flatMap enc++enc x)=Part.row E size v (l++[x]).length ((l++[x]).flatMap enc):=by simp
end
inductive Picks:List Part→List Part→Prop
 |nil {L:List Part}:Picks L []
 |cons {A:Part} {L F K:List Part}:Sel A L F→Picks F K→Picks L (A::K)
theorem Picks.perm {L K:List Part} (p:Picks L K):∃F,L.Perm (K++F):=by
 induction p with
 |nil=>exact⟨_,.refl _⟩
 |cons s _ ih=>
  obtain⟨F,hF⟩:=ih;exact⟨F,s.perm.trans (hF.cons _)⟩
theorem At.pick {L0 L K:List Part} {w0 w:World} (h:At L0 w0 L w) (p:Picks L K):At L0 w0 K w:=by
 obtain⟨F,hF⟩:=p.perm;exact(h.perm hF).sub (List.sublist_append_left _ _)
theorem At.seps {L0 L K:List Part} {w0 w:World} (h:At L0 w0 L w) (p:Picks L K):Sep K w:=(h.pick p).sep
theorem Sep.pick {L K:List Part} {w:World} (h:Sep L w) (p:Picks L K):Sep K w:=(At.start h).seps p
theorem At.row_hid {L0 L F:List Part} {w0 w:World} {e:TypeId} {size n:Nat} {v:Value} {xs:List Value} (h:At L0 w0 L w) (s:Sel (Part.row e size v n xs) L F):∃ax k cap,v=.slice ax k cap∧Hid (k=n):=by
 obtain⟨ax,cap,rfl,_,_,_⟩:=h.row_form s;exact⟨ax,n,cap,rfl,Hd rfl⟩
section
variable {α:Type} {p:α→Bool}
theorem Zfc:∀{l:List α} {i:Nat},i≤l.length→(∀x ∈ l.take i,p x=true)→(∀h:i < l.length,p l[i]=false)→l.takeWhile p=l.take i∧l.dropWhile p=l.drop i
 |[],i,_,_,_=>by simp
 |y::l,0,_,_,h2=>by
  have:=h2 (by simp)
  simp at this
  simp[this]
 |y::l,i + 1,hi,h1,h2=>by
  have hy:=h1 y (by simp);have:=Zfc (l:=l) (i:=i) (by simpa using hi) (fun x hx=>h1 x (by simp[hx])) (fun h=>h2 (by simp;exact h));simp[hy,this]
end
end
section
theorem pZ {L K:List Part} (h:Picks L K:=by repeat(first|exact Picks.nil|refine Picks.cons (by repeat(first|exact Sel.here|apply Sel.there)) ?_)):Picks L K:=h
end
section
theorem pR {L K:List Part} (h:Picks L K:=by with_reducible repeat(first|exact Picks.nil|refine Picks.cons sR ?_)):Picks L K:=h
end
end
section
section
open Go.RowKit
open Go.Maps (Keyed)
section
variable {P:Program} {k:TypeId} {w:World} {b:Nat} {es:List (Value × Value)}
theorem MapAt.run_len (h:MapAt P k w b es) {t e:TypeId} (ht:P.underlying t=some (.map k e)) (ty:TypeId):(Builtin.len_ #[t] ty #[.map (some b)]).run P w=.ok (.int .i64 es.length) w:=by
 obtain⟨ents,clock,hb,hl⟩:=h.len;simp[Builtin.len_,run_underlying ht,MapKept.run_getObj_map hb,Result.andThen,goInt,hl]
variable {ops:Array Oper} {rest:List Oper} {o:Oper} {a:Act} {Q:Exit→Act→World→Prop} {L0 L F:List Part} {w0:World}
theorem Za2 {t:TypeId} {m:Operand} (hg:o.guard=none) (hop:o.op=Op.call {callee:=Callee.builtin Builtin.len,args:= #[m],argTypes:= #[t]}) (hm:a.eval m=.map (some b))
 (h:At L0 w0 L w) (s:Sel (Part.map P k b es) L F) {e:TypeId} (ht:P.underlying t=some (.map k e))
 (hK:wpList P ops Q rest (a.put o.dst (.int .i64 es.length)) w):wpList P ops Q (o::rest) a w:=by
 have hM:MapAt P k w b es:=h.get s;refine Zal hg ?_ hK;simp[execOp,hop,resolve,invoke,builtin,hm,hM.run_len ht o.type,Result.andThen]
theorem ZbA {t:TypeId} {m x:Operand} (hg:o.guard=none) (hop:o.op=.lookup t m x true) (hm:a.eval m=.map (some b)) {key:Value} (hx:a.eval x=key)
 (h:At L0 w0 L w) (s:Sel (Part.map P k b es) L F) {e:TypeId} (K:Keyed P k) (ht:P.underlying t=some (.map k e)) {kl:Lit} (hk:keyOf P k key=some kl) (hn:∀p ∈ es,p.1≠key) {z:Value} (hz:∀w,(zeroValue e).run P w=.ok z w)
 (hK:wpList P ops Q rest (a.put o.dst (.tuple #[z,.bool false])) w):wpList P ops Q (o::rest) a w:=by
 have hM:MapAt P k w b es:=h.get s;refine Zal hg ?_ hK;simp[execOp,hop,hm,hx,hM.look_none K ht hk hn (hz w) true,Result.andThen]
theorem Zba {t:TypeId} {m x:Operand} (hg:o.guard=none) (hop:o.op=.lookup t m x true) (hm:a.eval m=.map (some b)) {key:Value} (hx:a.eval x=key)
 (h:At L0 w0 L w) (s:Sel (Part.map P k b es) L F) {e:TypeId} (K:Keyed P k) (ht:P.underlying t=some (.map k e)) {kl:Lit} (hk:keyOf P k key=some kl) {v:Value} (hn:(key,v) ∈ es)
 (hK:wpList P ops Q rest (a.put o.dst (.tuple #[v,.bool true])) w):wpList P ops Q (o::rest) a w:=by
 have hM:MapAt P k w b es:=h.get s;refine Zal hg ?_ hK;simp[execOp,hop,hm,hx,hM.look_some K ht hk hn true,Result.andThen]
theorem Zbv {t:TypeId} {m x:Operand} (hg:o.guard=none) (hop:o.op=.lookup t m x false) (hm:a.eval m=.map (some b)) {key:Value} (hx:a.eval x=key)
 (h:At L0 w0 L w) (s:Sel (Part.map P k b es) L F) {e:TypeId} (K:Keyed P k) (ht:P.underlying t=some (.map k e)) {kl:Lit} (hk:keyOf P k key=some kl) {v:Value} (hn:(key,v) ∈ es)
 (hK:wpList P ops Q rest (a.put o.dst v) w):wpList P ops Q (o::rest) a w:=by
 have hM:MapAt P k w b es:=h.get s;refine Zal hg ?_ hK;simp[execOp,hop,hm,hx,hM.look_some K ht hk hn false,Result.andThen]
theorem Zaz {t:TypeId} {m x y:Operand} (hg:o.guard=none) (hop:o.op=.mapUpdate t m x y) (hm:a.eval m=.map (some b)) {key val:Value} (hx:a.eval x=key) (hy:a.eval y=val)
 (h:At L0 w0 L w) (s:Sel (Part.map P k b es) L F) {e:TypeId} (K:Keyed P k) (ht:P.underlying t=some (.map k e)) {kl:Lit} (hk:keyOf P k key=some kl) (hn:∀p ∈ es,p.1≠key)
 (hK:∀w',At L0 w0 (Part.map P k b (es++[(key,val)])::F) w'→wpList P ops Q rest (a.put o.dst undef) w'):wpList P ops Q (o::rest) a w:=by
 have hM:MapAt P k w b es:=h.get s;obtain⟨w',h1,h2,h3⟩:=hM.put_new K ht hk hn val;refine ZcD hg ?_ (hK w' (h.turn s _ h2 (fun _ e=>.inl e) h3));simp[execOp,hop,hm,hx,hy,h1,Result.andThen]
theorem Za9 {t:TypeId} {m x y:Operand} (hg:o.guard=none) (hop:o.op=.mapUpdate t m x y) (hm:a.eval m=.map (some b)) {key val u:Value} {l1 l2:List (Value × Value)} (hx:a.eval x=key) (hy:a.eval y=val)
 (h:At L0 w0 L w) (s:Sel (Part.map P k b (l1++(key,u)::l2)) L F) {e:TypeId} (K:Keyed P k) (ht:P.underlying t=some (.map k e)) {kl:Lit} (hk:keyOf P k key=some kl)
 (hK:∀w',At L0 w0 (Part.map P k b (l1++(key,val)::l2)::F) w'→wpList P ops Q rest (a.put o.dst undef) w'):wpList P ops Q (o::rest) a w:=by
 have hM:MapAt P k w b (l1++(key,u)::l2):=h.get s;obtain⟨w',h1,h2,h3⟩:=hM.put_there K ht hk val;refine ZcD hg ?_ (hK w' (h.turn s _ h2 (fun _ e=>.inl e) h3));simp[execOp,hop,hm,hx,hy,h1,Result.andThen]
theorem ZaR {t:TypeId} (P:Program) (k:TypeId) (hg:o.guard=none) (hop:o.op=.makeMap t none) (h:At L0 w0 L w)
 (hK:∀b w',At L0 w0 (Part.map P k b []::L) w'→w0.heap.size≤b→wpList P ops Q rest (a.put o.dst (.map (some b))) w'):wpList P ops Q (o::rest) a w:=by
 refine Zal hg ?_ (hK _ _ (h.new ((Ext.refl w).alloc (.map #[] 0)) _ (MapAt.made P k w) (fun _ e=>by cases e;exact Nat.le_refl _)) h.size);simp[execOp,hop,run_makeMap,Result.andThen]
theorem ZaQ {t:TypeId} {m:Operand} (hg:o.guard=none) (hop:o.op=.range t m) (hm:a.eval m=.map (some b)) (h:At L0 w0 L w) (s:Sel (Part.map P k b es) L F) {e:TypeId} (ht:P.underlying t=some (.map k e))
 (hK:∀r w',At L0 w0 (Part.iter P k r b es []::F) w'→w0.heap.size≤r→wpList P ops Q rest (a.put o.dst (.pointer (some ⟨r,0,none⟩))) w'):wpList P ops Q (o::rest) a w:=by
 have hM:MapAt P k w b es:=h.get s;obtain⟨w',h1,h2,h3⟩:=hM |> fun q=>Zax.start q ht;refine Zal hg ?_ (hK _ w' (h.turn s (Part.iter P k w.heap.size b es []) h3 (fun q e=> ?_) (h2.exc _)) h.size)
 · simp[execOp,hop,hm,h1,Result.andThen]
 rcases e with e|e
 · exact .inl e
 exact .inr (by omega)
theorem Za3 {r:Nat} {done:List (Value × Value)} {it:Operand} (hg:o.guard=none) (hop:o.op=.next it false) (hi:a.eval it=.pointer (some ⟨r,0,none⟩)) (h:At L0 w0 L w) (s:Sel (Part.iter P k r b es done) L F)
 (hEnd:es.Perm done→wpList P ops Q rest (a.put o.dst (.tuple #[.bool false])) w)
 (hK:∀p w',p ∈ es→(∀q ∈ done,q.1≠p.1)→At L0 w0 (Part.iter P k r b es (done++[p])::F) w'→wpList P ops Q rest (a.put o.dst (.tuple #[.bool true,p.1,p.2])) w'):wpList P ops Q (o::rest) a w:=by
 have hI:Zax P k w r b es done:=h.get s;rcases hI.next o.type with⟨h1,h2⟩|⟨p,w',h1,h2,h3,h4,h5⟩
 · refine Zal hg ?_ (hEnd h1);simp[execOp,hop,hi,h2,Result.andThen]
 refine Zal hg ?_ (hK p w' h1 h2 (h.turn s (Part.iter P k r b es (done++[p])) h4 (fun q e=>.inl e) (h5.mono (fun _ _ e=>.inr e))));simp[execOp,hop,hi,h3,Result.andThen]
theorem At.ranged {r:Nat} {done:List (Value × Value)} (h:At L0 w0 L w) (s:Sel (Part.iter P k r b es done) L F):At L0 w0 (Part.map P k b es::F) w:=by
 have hI:Zax P k w r b es done:=h.get s;exact h.turn s (Part.map P k b es) hI.1 (fun _ e=>.inl (.inl e)) (Exc.refl _ _)
end
end
end
section
namespace Path
open Go.RowKit
def letR (r:Int):Bool:=(decide (97≤r)&&decide (r≤122)) || (decide (48≤r)&&decide (r≤57)) || decide (r=45) || decide (r=95)
theorem Zhu (c:UInt8):letR (c.toNat:Int)=letB c:=by
 unfold letR letB;rw[Bool.eq_iff_iff];simp only[Bool.or_eq_true,Bool.and_eq_true,decide_eq_true_eq];omega
theorem Zkl {r:Int} (h:128≤r):letR r=false:=by
 unfold letR;have h1:¬r≤122:=by omega
 have h2:¬r≤57:=by omega
 have h3:¬r=45:=by omega
 have h4:¬r=95:=by omega
 simp[h1,h2,h3,h4]
theorem ZeM (r:Int) (w:World):Calls Tryz.prog 193 #[.int .i32 r] w fun e w'=>e=.returned (.bool (letR r))∧w=w':=by
 have key:∀(b1 b2 b3 b4 b5 b6:Bool),decide (97≤r)=b1→decide (r≤122)=b2→decide (48≤r)=b3→decide (r≤57)=b4→decide (r=45)=b5→decide (r=95)=b6→
  Calls Tryz.prog 193 #[.int .i32 r] w fun e w'=>e=.returned (.bool ((b1&&b2) || (b3&&b4) || b5 || b6))∧w=w':=by
  intro b1 b2 b3 b4 b5 b6 h1 h2 h3 h4 h5 h6;have h5':(r==45)=b5:=by rw[←h5];rfl
  have h6':(r==95)=b6:=by rw[←h6];rfl
  clear h5 h6;cases b1<;>cases b2<;>cases b3<;>cases b4<;>cases b5<;>cases b6
  all_goals first
   |(exfalso;simp at h1 h2 h3 h4 h5' h6';omega)
   |(go_enter Tryz.func193,Tryz.ntmps193
     go_wp2
     go_ret
     exact⟨rfl,rfl⟩)
 exact key _ _ _ _ _ _ rfl rfl rfl rfl rfl rfl
section
variable {P:Program} {ops:Array Oper} {rest:List Oper} {o:Oper} {a:Act} {Q:Exit→Act→World→Prop} {L0 L F:List Part} {w0 w:World}
theorem Zdx {t:TypeId} {x:Operand} {s:ByteArray} (hg:o.guard=none) (hop:o.op=.range t x) (hx:a.eval x=.string s) (ht:P.underlying t=some .string) (h:At L0 w0 L w)
 (hK:∀r w',At L0 w0 (Part.obj r (.stringIter s 0)::L) w'→w0.heap.size≤r→wpList P ops Q rest (a.put o.dst (.pointer (some ⟨r,0,none⟩))) w'):wpList P ops Q (o::rest) a w:=by
 refine Zal hg ?_ (hK _ _ (h.allocObj (.stringIter s 0)) h.size);simp[execOp,hop,hx,run_range_string w t s ht,World.iter,Result.andThen]
theorem ZdJ {r pos:Nat} {s:ByteArray} {it:Operand} (hg:o.guard=none) (hop:o.op=.next it true) (hi:a.eval it=.pointer (some ⟨r,0,none⟩)) (h:At L0 w0 L w) (sl:Sel (Part.obj r (.stringIter s pos)) L F)
 (hEnd:¬pos < s.size→wpList P ops Q rest (a.put o.dst (.tuple #[.bool false])) w)
 (hK:∀w',pos < s.size→At L0 w0 (Part.obj r (.stringIter s (pos + (Utf8.decode s pos).2))::F) w'→wpList P ops Q rest (a.put o.dst (.tuple #[.bool true,.int .i64 pos,.int .i32 (Utf8.decode s pos).1])) w'):wpList P ops Q (o::rest) a w:=by
 have hI:w.heap[r]? =some (.stringIter s pos):=h.get sl;by_cases hp:pos < s.size
 · have h1:=Lib.run_next_any_at (P:=P) w r s pos o.type hI hp;refine Zal hg ?_ (hK _ hp (h.turn sl (Part.obj r (.stringIter s (pos + (Utf8.decode s pos).2))) (Lib.iterAt_heap w r s pos _ hI) (fun _ e=>.inl e) ?_))
   · simp[execOp,hop,hi,h1,Result.andThen]
   exact⟨rfl,rfl,rfl,by rw[Lib.iterAt_size];exact Nat.le_refl _,fun i _ hn=>Lib.iterAt_other w r i s _ hn⟩
 have h1:=Lib.run_next_end_at (P:=P) w r s pos o.type hI hp;refine Zal hg ?_ (hEnd hp);simp[execOp,hop,hi,h1,Result.andThen]
end
theorem ZiD {s:ByteArray} {pos:Nat} (h:¬pos < s.size) (ha:(s.data.toList.take pos).all letB=true):s.data.toList.all letB=true:=by
 rwa [List.take_of_length_le (by simpa using Nat.le_of_not_lt h)] at ha
theorem ZiE {s:ByteArray} {pos:Nat} (h:pos < s.size) (ha:(s.data.toList.take pos).all letB=true) (hc:letB s[pos]=true):(s.data.toList.take (pos + 1)).all letB=true:=by
 rw[List.take_succ_eq_append_getElem (by simpa using h),List.all_append,ha];simpa using(show letB (s.data[pos]'(by simpa using h))=true from hc)
theorem Znm {s:ByteArray} {pos:Nat} (h:pos < s.size) (hc:letB s[pos]=false):partB s.data.toList=false:=by
 unfold partB;rw[Bool.and_eq_false_iff];right
 cases q:s.data.toList.all letB
 · rfl
 have:=List.all_eq_true.1 q s[pos] (by show s.data[pos]'(by simpa using h) ∈ s.data.toList;exact Array.mem_toList_iff.2 (Array.getElem_mem _))
 rw[hc] at this;cases this
theorem ZiZ {c:UInt8} (h:letB c=true):c.toNat < 128:=by
 unfold letB at h;simp only[Bool.or_eq_true,Bool.and_eq_true,decide_eq_true_eq] at h;omega
theorem Zoh {s:ByteArray} {pos:Nat} (h:pos < s.size) (hc:letB s[pos]=true):Utf8.decode s pos=(s[pos].toNat,1):=decode_ascii s pos h (ZiZ hc)
theorem dec_no {s:ByteArray} {pos:Nat} (h:pos < s.size) (hc:letB s[pos]=false):letR ((Utf8.decode s pos).1:Int)=false:=by
 by_cases ha:s[pos].toNat < 128
 · rw[decode_ascii s pos h ha];simp only;rw[Zhu,hc]
 have:=(decode_high s pos h (by omega)).1
 exact Zkl (by omega)
def Zow (w:World) (r:Nat) (s:ByteArray) (k:Nat) (wr:World):Prop:=
 ∃pos:Nat,At [] w [Part.obj r (.stringIter s pos)] wr∧pos + k=s.size∧(s.data.toList.take pos).all letB=true
theorem Zh9 (s:ByteArray) (w:World):Calls Tryz.prog 171 #[.string s] w fun e w'=>e=.returned (.bool (partB s.data.toList))∧Ext w w':=by
 have hA:=At.start (w0:=w) (L0:=[]) trivial;have hF:=hA.facts;go_enter Tryz.func171,Tryz.ntmps171
 go_wp2_with (refine Zdx rfl rfl rfl Tryz.underlying9 hA ?_;intro r w1 hB hr;replace hA:=hB;clear hF hB;obtain⟨hA,hF⟩:=fY hA)
 (try go_frame);go_loopg [] s.size (Zow w r s)
 case atStart=>exact⟨0,hA,by simp,by simp⟩
 case round=>
  obtain⟨pos,hB,hk,hal⟩:=hrel;clear hF hA;have hA:=hB;clear hB;go_step
  go_step
  refine ZdJ rfl rfl rfl hA sR (fun hp=> ?_) (fun w1 hp hB=> ?_)
  · have hall:=ZiD hp hal;have e:partB s.data.toList= !s.data.toList.isEmpty:=by unfold partB;rw[hall,Bool.and_true]
    have e':=Hd e;clear e hall hal;go_wp2_with fail;go_ret;exact⟨by rw[e'.out,←Lib.toList_data];rfl,hA.toExt⟩
  cases hc:letB s[pos]
  · have hd:=dec_no hp hc;have hno:=Hd (Znm hp hc);clear hc hal hk;generalize Utf8.decode s pos=d at *
    obtain⟨d1,d2⟩:=d;simp only at hd;clear hA;have hA:=hB;clear hB;obtain⟨hA,hF⟩:=fY hA
    go_wp2_with (refine(ZeM _ _).mono ?_;rintro e _ ⟨rfl,rfl⟩)
    go_ret;exact⟨by rw[hno.out];rfl,hA.toExt⟩
  have hd:=Zoh hp hc;have hal':=Hd (ZiE hp hal hc);have hy:letR (s[pos].toNat:Int)=true:=by rw[Zhu,hc]
  rw[hd] at hB;rw[hd];clear hd hal;generalize s[pos]=c at *
  clear hA;have hA:=hB;clear hB;obtain⟨hA,hF⟩:=fY hA
  go_wp2_with (refine(ZeM _ _).mono ?_;rintro e _ ⟨rfl,rfl⟩)
  go_roundg (gk - 1);case measure=>omega
  case rel=>exact⟨pos + 1,hA,by omega,hal'.out⟩
end Path
end
section
section
open Go.RowKit
def ZhO {β:Type} (Bs:Nat) (J:β→World→Prop):Prop:=
 ∀s W W' row,J s W→W.grownBy W' row→(∀r,row=some r→r=Bs∧∃o:Obj,W'.heap[r]? =some o∧o.isCells=true)→J s W'
def OwnB {β:Type} (Bs B:Nat) (I:β→World→Prop):Prop:=
 ∀s W W' row,I s W→W.grownBy W' row→(∀r,row=some r→(r=Bs∧∃o:Obj,W'.heap[r]? =some o∧o.isCells=true)∨(B≤r∧∃o:Obj,W.heap[r]? =some o∧o.isCells=false))→I s W'
section
variable {β:Type} {Bs B:Nat} {I:β→World→Prop} {s:β} {W:World}
theorem OwnB.abides (h:OwnB Bs B I):ZhO Bs I:=fun s W W' row hs hg hr=>h s W W' row hs hg (fun r e=>.inl (hr r e))
theorem OwnB.put (h:OwnB Bs B I) {l:Nat} {o:Obj} (o':Obj) (hs:I s W) (hB:B≤l) (hl:W.heap[l]? =some o) (ho:o.isCells=false):I s (W.putObj l o'):=
 h s W _ (some l) hs (grownBy_putObj' W l o') (fun r e=>by cases e;exact .inr ⟨hB,o,hl,ho⟩)
theorem OwnB.alloc (h:OwnB Bs B I) (o:Obj) (hs:I s W):I s (W.alloc o):=h s W _ none hs (World.grownBy_alloc W o none) (fun r e=>by cases e)
end
def SeqB {α:Type} (F:Fence) (n:Nat) (P:Program) (g:Nat) (lb:Array Value) (encs:α→Array Value) (Bs:Nat) (Kp:World→World→Prop) (S Sp:List α→Prop) (N:Nat) (w:World):Prop:=
 ∀(l:Nat) (J Jx:List α→World→Prop) (W:World),Below w.heap.size w W→ZhO Bs J→
  (∀pre x W1,J pre W1→pre.length < N→YieldAt F (n - 1) P l (encs x) W1 fun e W'=>
    (e=.returned (.bool true)∧J (pre++[x]) W'∧Kp W1 W')∨(e=.returned (.bool false)∧Jx (pre++[x]) W'))→
  J [] W→
  CallsIn F n P g (#[.func (.yield l) #[] #[]]++lb) W fun e W'=>(∃v,e=.returned v)∧((∃xs,S xs∧J xs W')∨(∃pre,Sp pre∧Jx pre W'))
theorem Zdv {Bs:Nat} {W W':World} {row:Option Nat} (hg:W.grownBy W' row) (hr:∀r,row=some r→r=Bs∧∃o:Obj,W'.heap[r]? =some o∧o.isCells=true) {k:Nat} {o:Obj} (hk:W.heap[k]? =some o) (hne:k≠Bs):W'.heap[k]? =some o:=
 (hg.block k (Array.getElem?_eq_some_iff.1 hk).1 (fun e=>hne (hr k e.symm).1)).trans hk
variable {F:Fence} {n:Nat} {P:Program}
theorem Zdy {α:Type} {g:Operand} {ps:Array Tmp} {assign body:Code} {Q:Exit→Act→World→Prop} {a:Act} {w:World}
 (hro:F.round=none) (h1:1≤n) {gf:Nat} {lb:Array Value} (hg:a.eval g=.func (.func gf) #[] lb) (hFg:F.fn gf) (eg:∀args w,(callFunc gf args).run P w=.ok (.enter gf args) w)
 {encs:α→Array Value} {Bs:Nat} {Kp:World→World→Prop} {S Sp:List α→Prop} {N:Nat} (hseq:SeqB F (n - 1) P gf lb encs Bs Kp S Sp N w) (hBs:Bs < w.heap.size)
 (hKt:∀{A B C:World},Kp A B→Kp B C→Kp A C) (hKb:∀(W:World) (l:Nat) (o':Obj),w.heap.size≤l→Kp W (W.putObj l o')) (hps:∀x,(encs x).size=ps.size)
 (I:List α→World→Prop) (Ix:Code→List α→World→Prop) (hI:OwnB Bs w.heap.size I) (hIx:∀c,OwnB Bs w.heap.size (Ix c)) (h0:I [] w) (a₁:α→Act)
 (hassign:∀(l:Nat) (x:α) (W:World) (K:Act→World→Prop),K (a₁ x) W→
   assign.wpIn (F.inRound l) (n - 1 - 1) P (Exit.then K (fun _ _ _=>False)) {tmps:=(ps.zip (encs x)).foldl (fun t (p,v)=>t.setIfInBounds p v) a.tmps,defers:=[]} W)
 (hbody:∀(l:Nat) (pre:List α) (x:α) (W:World),I pre W→pre.length < N→body.wpIn (F.inRound l) (n - 1 - 1) P (ownPostG w.heap.size Kp I Ix (pre++[x]) W) (a₁ x) W)
 (hdone:∀(D:Nat) (xs:List α) (W:World),w.heap.size≤D→S xs→I xs W→W.heap[D]? =some (.deferred (some []))→Q .normal {a with defers:={target:=.collected D,args:= #[]}::a.defers} W)
 (hstop:∀(D:Nat) (c:Code) (pre:List α) (W:World),w.heap.size≤D→Sp pre→Ix c pre W→W.heap[D]? =some (.deferred (some []))→c.wpIn F n P Q {a with defers:={target:=.collected D,args:= #[]}::a.defers} W):
 (Code.rangeFunc g ps assign body).wpIn F n P Q a w:=by
 refine wpIn_rangeFunc ?_;intro fn hfn;rw[hro]
 obtain⟨K0,hK0⟩:∃k,k=w.heap.size:=⟨_,rfl⟩
 obtain⟨rc,hrc⟩:∃rc:LoopState→Option Code→Loop,rc=fun st pe=>{state:=st,pending:=pe,fn,tmps:=a.tmps,params:=ps,assign,body,defers:=K0}:=⟨_,rfl⟩
 obtain⟨W1,hW1⟩:∃W1,(w.alloc (.deferred (some []))).alloc (.loop (rc .ready none))=W1:=⟨_,rfl⟩
 have hR:W1.heap[K0 + 1]? =some (.loop (rc .ready none)):=by
  have:=World.alloc_heap_new (w.alloc (.deferred (some []))) (.loop (rc .ready none));rw[←hW1,hK0]
  rwa [World.size_alloc] at this
 have hD:W1.heap[K0]? =some (.deferred (some [])):=by
  rw[←hW1,hK0];exact(Below.heap_alloc _ _ _ (by simp)).trans (World.alloc_heap_new w _)
 have hI1:I [] W1:=by rw[←hW1];exact hI.alloc _ (hI.alloc _ h0)
 have hb1:Below w.heap.size w W1:=by
  rw[←hW1];exact((Below.refl _ w).alloc (Nat.le_refl _) _).alloc (by simp) _
 have hl0:(Instr.enterLoop fn a.tmps ps assign body none).run P w=.ok (K0 + 1,[{target:=.collected K0,args:= #[]}]) W1:=by
  rw[←hW1,hrc,hK0];exact run_enterLoop_outer _ _ _ _ _
 refine⟨K0 + 1,[{target:=.collected K0,args:= #[]}],W1,{target:=.fn (.func gf) lb,args:= #[.func (.yield (K0 + 1)) #[] #[]]},W1,gf,#[.func (.yield (K0 + 1)) #[] #[]]++lb,W1,hl0,?_,?_,?_,fun _=>h1,?_⟩
 · simp only[resolve,hg];simp[go_sem]
 · intro f' hf';simp[Target.leads] at hf';subst hf';exact hFg
 · simp[invoke,go_sem,eg]
 have ne0:K0≠Bs:=by omega
 have ne1:K0 + 1≠Bs:=by omega
 refine(hseq (K0 + 1)
  (fun pre W=>I pre W∧W.heap[K0 + 1]? =some (.loop (rc .ready none))∧W.heap[K0]? =some (.deferred (some [])))
  (fun pre W=>∃c,Ix c pre W∧W.heap[K0 + 1]? =some (.loop (rc .done (some c)))∧W.heap[K0]? =some (.deferred (some [])))
  W1 hb1 (fun s A B row hs hg' hr=>⟨hI.abides s A B row hs.1 hg' hr,Zdv hg' hr hs.2.1 ne1,Zdv hg' hr hs.2.2 ne0⟩) ?_ ⟨hI1,hR,hD⟩).mono ?_
 · rintro pre x W ⟨hi,hl,hk⟩ hlen;have hlt:K0 + 1 < W.heap.size:=(Array.getElem?_eq_some_iff.1 hl).1;have hy:=run_yield (P:=P) (args:=encs x) hl (by rw[hrc];exact hps x);rw[hrc] at hy;refine⟨fn,_,assign,body,hy,roundIn_of_wpIn hfn (hassign _ x W _ ?_)⟩;clear hy;refine⟨_,run_beginRound hl (by rw[hrc]),?_⟩;have hl2:(W.putObj (K0 + 1) (.loop {rc .ready none with state:=.busy})).heap[K0 + 1]? =some (.loop {rc .ready none with state:=.busy}):=World.putObj_heap_same hlt;have hk2:(W.putObj (K0 + 1) (.loop {rc .ready none with state:=.busy})).heap[K0]? =some (.deferred (some [])):=(World.putObj_heap_other (by omega)).trans hk;have hw2:Kp W (W.putObj (K0 + 1) (.loop {rc .ready none with state:=.busy})):=hKb _ _ _ (by omega);refine wpIn_mono (hbody _ pre x _ (hI.put _ hi (by omega) hl rfl) hlen) ?_
   have fin:∀(jump:Option Code) (W3:World),KeepsFrom w.heap.size (W.putObj (K0 + 1) (.loop {rc .ready none with state:=.busy})) W3→
    (Instr.endRound (K0 + 1) jump).run P W3=.ok (.bool jump.isNone) (W3.putObj (K0 + 1) (.loop (rc (if jump.isNone then .ready else .done) jump)))∧
    W3.heap[K0 + 1]? =some (.loop {rc .ready none with state:=.busy})∧
    (W3.putObj (K0 + 1) (.loop (rc (if jump.isNone then .ready else .done) jump))).heap[K0 + 1]? =some (.loop (rc (if jump.isNone then .ready else .done) jump))∧
    (W3.putObj (K0 + 1) (.loop (rc (if jump.isNone then .ready else .done) jump))).heap[K0]? =some (.deferred (some [])):=fun jump W3 hk3=>by
    have hl3:=hk3.same _ _ (by omega) hl2 rfl;have he:=run_endRound (P:=P) jump hl3;rw[hrc] at he ⊢;exact⟨he,by rw[hrc] at hl3;exact hl3,World.putObj_heap_same (Array.getElem?_eq_some_iff.1 hl3).1,(World.putObj_heap_other (by omega)).trans (hk3.same _ _ (by omega) hk2 rfl)⟩
   rintro e a3 W3 hp
   cases e with
   |normal=>
    obtain⟨hk3,hkp3,hi3⟩:=hp;obtain⟨hr,hl3,hl4,hk4⟩:=fin none W3 hk3;exact⟨_,_,hr,.inl ⟨rfl,⟨hI.put _ hi3 (by omega) hl3 rfl,hl4,hk4⟩,hKt (hKt hw2 hkp3) (hKb _ _ _ (by omega))⟩⟩
   |ret=>
    obtain⟨hk3,hi3⟩:=hp;obtain⟨hr,hl3,hl4,hk4⟩:=fin (some .ret) W3 hk3;exact⟨_,_,hr,.inr ⟨rfl,.ret,(hIx _).put _ hi3 (by omega) hl3 rfl,hl4,hk4⟩⟩
   |exit id=>
    obtain⟨hk3,hi3⟩:=hp;obtain⟨hr,hl3,hl4,hk4⟩:=fin (some (.exit id)) W3 hk3;exact⟨_,_,hr,.inr ⟨rfl,.exit id,(hIx _).put _ hi3 (by omega) hl3 rfl,hl4,hk4⟩⟩
   |goto t=>
    obtain⟨hk3,hi3⟩:=hp;obtain⟨hr,hl3,hl4,hk4⟩:=fin (some (.goto t)) W3 hk3;exact⟨_,_,hr,.inr ⟨rfl,.goto t,(hIx _).put _ hi3 (by omega) hl3 rfl,hl4,hk4⟩⟩
   |panic ch=>exact hp.elim
   |outgrown=>exact hp.elim
 rintro e W2 ⟨⟨v,rfl⟩,(⟨xs,hS,hi,hl,hk⟩|⟨pre,hSp,c,hi,hl,hk⟩)⟩
 · have he:=run_endLoop (P:=P) hl (by rw[hrc];simp);rw[hrc] at he;exact⟨none,_,he,hdone _ xs _ (by omega) hS (hI.put _ hi (by omega) hl rfl) ((World.putObj_heap_other (by omega)).trans hk)⟩
 have he:=run_endLoop (P:=P) hl (by rw[hrc];simp);rw[hrc] at he;exact⟨some c,_,he,hstop _ c pre _ (by omega) hSp ((hIx c).put _ hi (by omega) hl rfl) ((World.putObj_heap_other (by omega)).trans hk)⟩
end
end
section
section
open Go.RowKit
section
variable {F:Fence} {n:Nat} {P:Program} {ops:Array Oper} {rest:List Oper} {o:Oper} {a:Act} {Q:Exit→Act→World→Prop} {L0 L G:List Part} {w0 w:World}
theorem Zb9 (hfn:∀f,F.fn f) (hg:o.guard=none) (hd:∀c,o.op≠.defer c) {v:Value} {w':World} (hrun:(execOp a.eval o).run P w=.ok (.value v) w') (hK:wpListIn F n P ops Q rest (a.put o.dst v) w'):wpListIn F n P ops Q (o::rest) a w:=
 wpListIn_plain hg fun K hK'=>⟨fun f _=>hfn f,by rw[Oper.semAt_eq _ _ _ hd,hrun,Oper.uponIn_value];exact hK' _ _ hK⟩
theorem Ze8 (hfn:∀f,F.fn f) (hg:o.guard=none) (hd:∀c,o.op≠.defer c) {w':World} (hrun:(execOp a.eval o).run P w=.ok .skip w') (hK:wpListIn F n P ops Q rest (a.put o.dst undef) w'):wpListIn F n P ops Q (o::rest) a w:=
 wpListIn_plain hg fun K hK'=>⟨fun f _=>hfn f,by rw[Oper.semAt_eq _ _ _ hd,hrun,Oper.uponIn_skip];exact hK' _ _ hK⟩
theorem ZaS {ty:TypeId} {x y:Operand} (hfn:∀f,F.fn f) (hg:o.guard=none) (hop:o.op=.store ty x y) {b j:Nat} (hx:a.eval x=.pointer (some ⟨b,j,none⟩)) {v:Value} (hy:a.eval y=v) {vs:List Value} (hv:v.cells=vs.toArray)
 (h:At L0 w0 L w) {c:List Value} {T:TypeId} (s:Sel (Part.cells b c T) L G) (hi:(P.info? ty).map (·.size)=some vs.length) (h1:vs.all (·.oneCell')=true) (hj:j + vs.length≤c.length)
 (hK:∀w',At L0 w0 (Part.cells b (setL c j vs) T::G) w'→wpListIn F n P ops Q rest (a.put o.dst undef) w'):wpListIn F n P ops Q (o::rest) a w:=by
 have hb:Zaa w b c T:=h.get s;have hs:v.cells.size=vs.length:=by rw[hv];simp
 have h1':v.cells.all (·.oneCell')=true:=by
  rw[hv,Array.all_eq_true_iff_forall_mem];intro u hu;exact List.all_eq_true.1 h1 u (by simpa using hu)
 have hrun:=ZaT (P:=P) w b j ty v (hb.there j _ (by omega)) (by rw[hs];exact hi) h1';rw[show v.cells.toList=vs from by rw[hv]] at hrun;refine Ze8 hfn hg (by rw[hop];nofun) ?_ (hK _ (h.stores s j vs));simp[execOp,hop,hx,hy,hrun,Result.andThen]
theorem ZdN {t e:TypeId} {x:Operand} (hfn:∀f,F.fn f) (hg:o.guard=none) (hop:o.op=.buildSlice t 1 #[(0,x)]) {xv:Value} (hx:a.eval x=xv) {vs:List Value}
 (hrun:∀w,(Instr.buildSlice t 1 #[(0,xv)]).run P w=.ok (.slice (some ⟨w.heap.size,0,none⟩) 1 1) (w.alloc (.cells vs.toArray e)))
 (h:At L0 w0 L w)
 (hK:∀b w',At L0 w0 (Part.cells b vs e::L) w'→w0.heap.size≤b→wpListIn F n P ops Q rest (a.put o.dst (.slice (some ⟨b,0,none⟩) 1 1)) w'):wpListIn F n P ops Q (o::rest) a w:=by
 refine Zb9 hfn hg (by rw[hop];nofun) ?_ (hK _ _ (h.alloc vs e) h.size);simp[execOp,hop,hx,hrun,Result.andThen]
theorem ZcO {e:TypeId} {size m0:Nat} {v:Value} {xs:List Value} {i:TypeInfo} {z:Value} {bytes:Nat} (hfn:∀f,F.fn f) (hg:o.guard=none) (s' x:Operand) (t:TypeId) (ho:o.op=.call {callee:=.builtin .append,args:= #[s',x],argTypes:= #[t,t]})
 (ht:P.underlying t=some (.slice e)) (hi:P.info? e=some i) (hz:i.zero=some z) (hsize:i.size=size) (hby:i.bytes=bytes) (hzs:z.cells.size=size) (hsz:0 < size)
 (h:At L0 w0 L w) (s:Sel (Part.row e size v m0 xs) L G) (hs:a.eval s'=v) {xv:Value} {m:Nat} {news:List Value} (hxv:a.eval x=xv) (hl:news.length=m * size) (hx:Reads w xv m news) (h1:∀u ∈ news,u.oneCell'=true)
 (h63:m0 + m≤maxLen) (hbytes:(m0 + m) * bytes≤140737488355328)
 (hK:∀v' w',At L0 w0 (Part.row e size v' (m0 + m) (xs++news)::G) w'→wpListIn F n P ops Q rest (a.put o.dst v') w'):wpListIn F n P ops Q (o::rest) a w:=by
 obtain⟨v',w',hr,h2,h3,h4⟩:=Zcz (P:=P) w 0 t o.type e i z size bytes ht hi hz hsize hby hzs hsz v m0 xs (h.get s) xv m news hl hx h1 h63 hbytes (Nat.zero_le _);refine Zb9 hfn hg (by rw[ho];nofun) (v:=v') (w':=w') ?_ (hK v' w' (h.turn s _ h2 (fun b hb=> ?_) (ZbV h3)))
 · simp[execOp,ho,resolve,invoke,builtin,hs,hxv,hr,Result.andThen]
 rcases h4 with h4|h4
 · exact .inl (show v.ownBlock=some b from by rw[←h4];exact hb)
 right
 have hb':v'.ownBlock=some b:=hb;rw[h4] at hb';cases hb';exact Nat.le_refl _
end
theorem ZdZ {P:Program} {w:World} {t e:TypeId} {i:TypeInfo} {size n:Nat} {v:Value} {xs:List Value} (ht:P.underlying t=some (.slice e)) (hi:P.info? e=some i) (hsize:i.size=size) (hr:w.ownsRow 0 e size v n xs) (k:Nat) (hk:k≤n):
 ∃v',(Instr.sliceAt t v none (some (.int .i64 k)) none).run P w=.ok v' w∧w.ownsRow 0 e size v' k (xs.take (k * size))∧v'.ownBlock=v.ownBlock:=by
 have hz:∀w,(sizeOf e).run P w=.ok size w:=fun w=>by simp[sizeOf,typeInfo,hi,hsize]
 rcases hr.2 with⟨rfl,rfl⟩|⟨g,cap,cur,rfl,hg,hh,hc,hm,hs,htk⟩
 · obtain rfl:k=0:=by omega
   refine⟨.slice none 0 0,?_,⟨by simp,.inl ⟨rfl,rfl⟩⟩,rfl⟩;simp[Instr.sliceAt,Instr.slice,run_underlying ht,Instr.sliceBounds,run_sliceBound,hz,Result.andThen]
 refine⟨.slice (some ⟨g,0,none⟩) k cap,?_,⟨?_,.inr ⟨g,cap,cur,rfl,hg,hh,by omega,hm,hs,?_⟩⟩,rfl⟩
 · by_cases h0:cap=0
   · subst h0;obtain rfl:k=0:=by omega
     simp[Instr.sliceAt,Instr.slice,run_underlying ht,Instr.sliceBounds,run_sliceBound,hz,Result.andThen]
   simp[Instr.sliceAt,Instr.slice,run_underlying ht,Instr.sliceBounds,run_sliceBound,hz,Result.andThen,show(k:Int)≤cap by omega,h0,Addr.add]
 · rw[List.length_take,hr.1];have:k * size≤n * size:=Nat.mul_le_mul_right _ hk
   omega
 rw[←htk,List.take_take];have:k * size≤n * size:=Nat.mul_le_mul_right _ hk;rw[Nat.min_eq_left this]
theorem ZdO {F:Fence} {n:Nat} {P:Program} {ops:Array Oper} {rest:List Oper} {o:Oper} {a:Act} {Q:Exit→Act→World→Prop} {L0 L G:List Part} {w0 w:World} {t e:TypeId} {i:TypeInfo} {size m0 k:Nat} {v:Value} {xs:List Value} {x hi':Operand}
 (hfn:∀f,F.fn f) (hg:o.guard=none) (hop:o.op=.slice t x none (some hi') none) (ht:P.underlying t=some (.slice e)) (hi:P.info? e=some i) (hsize:i.size=size) (hx:a.eval x=v) (hh:a.eval hi'=.int .i64 k)
 (h:At L0 w0 L w) (s:Sel (Part.row e size v m0 xs) L G) (hk:k≤m0) (hK:∀v',At L0 w0 (Part.row e size v' k (xs.take (k * size))::G) w→wpListIn F n P ops Q rest (a.put o.dst v') w):wpListIn F n P ops Q (o::rest) a w:=by
 obtain⟨v',hr,h1,h2⟩:=ZdZ (P:=P) ht hi hsize (h.get s:w.ownsRow 0 e size v m0 xs) k hk;refine Zb9 hfn hg (by rw[hop];nofun) ?_ (hK v' (h.turn s (Part.row e size v' k (xs.take (k * size))) h1 (fun b hb=>.inl (by simpa [Part.row,h2] using hb)) (Exc.refl _ _)));simp[execOp,hop,hx,hh,hr,Result.andThen]
def Part.hole (b:Nat):Part where
 holds w:=∃o:Obj,w.heap[b]? =some o∧o.isCells=true
 foot k:=k=b
 lt:=fun w ⟨o,h,_⟩ _ e=>by subst e;exact ZaJ h
 stay:=fun _ _ ⟨o,h,ho⟩ e=>⟨o,(e b rfl).trans h,ho⟩
def Part.Cl (A:Part):Prop:=∀w,A.holds w→∀b,A.foot b→∃o:Obj,w.heap[b]? =some o∧o.isCells=true
theorem Part.cl_cells (b:Nat) (c:List Value) (T:TypeId):(Part.cells b c T).Cl:=fun w h k e=>by subst e;exact⟨_,h,rfl⟩
theorem Part.cl_hole (b:Nat):(Part.hole b).Cl:=fun w h k e=>by subst e;exact h
theorem Part.cl_row (e:TypeId) (size:Nat) (v:Value) (n:Nat) (xs:List Value):(Part.row e size v n xs).Cl:=fun w h k hk=>by
 rcases h.2 with⟨rfl,_⟩|⟨g,cap,cur,rfl,_,hh,_⟩
 · exact nomatch hk
 cases hk;exact⟨_,hh,rfl⟩
theorem At.grown {L0 L:List Part} {w0 W W':World} {row:Option Nat} (h:At L0 w0 L W) (hg:W.grownBy W' row) (hr:∀r,row=some r→w0.heap.size≤r∧¬footL L r):At L0 w0 L W':=
 ⟨h.sep.same (fun b ⟨A,hA,hb⟩=>hg.block b (h.sep.lt hA hb) (fun e=>(hr b e.symm).2 ⟨A,hA,hb⟩)),h.foot,
   h.exc.trans' (T:=fun k=>row=some k) (ZbV hg) (fun b _ hb=>.inr (hr b hb).1)⟩
theorem At.ownB {L0 L G:List Part} {w0 W W':World} {row:Option Nat} {Bs B:Nat} (h:At L0 w0 L W) (s:Sel (Part.hole Bs) L G) (hc:∀A ∈ L,A.Cl) (hB:w0.heap.size≤B) (hg:W.grownBy W' row)
 (hr:∀r,row=some r→(r=Bs∧∃o:Obj,W'.heap[r]? =some o∧o.isCells=true)∨(B≤r∧∃o:Obj,W.heap[r]? =some o∧o.isCells=false)):At L0 w0 (Part.hole Bs::G) W':=by
 cases row with
 |none=>exact(h.grown hg (fun r e=>by cases e)).take s
 |some r=>
  rcases hr r rfl with⟨rfl,ho⟩|⟨h1,o,ho,hoc⟩
  · exact h.turn s (Part.hole r) ho (fun _ e=>.inl e) ((ZbV hg).mono (fun b _ e=>by cases e;rfl))
  refine(h.grown hg (fun q e=> ?_)).take s;cases e;refine⟨by omega,fun⟨A,hA,hb⟩=> ?_⟩;obtain⟨o',ho',hoc'⟩:=hc A hA W (h.sep.get hA) r hb;rw[ho] at ho';cases ho';rw[hoc] at hoc';cases hoc'
theorem At.keepsFrom {L0 L:List Part} {W W':World} (h:At L0 W L W') (hs:Sep L0 W) (hc:∀A ∈ L0,A.Cl) (B:Nat):KeepsFrom B W W':=
 ⟨h.size,fun k o _ hk ho=>(h.exc.block k (ZaJ hk) (fun⟨A,hA,hb⟩=>by
   obtain⟨o',ho',hoc'⟩:=hc A hA W (hs.get hA) k hb;rw[hk] at ho';cases ho';rw[ho] at hoc'
   cases hoc')).trans hk⟩
end
end
end Go.Proofs.YtknoefbcmomalaaGreatDoor
section
namespace Go
section
variable {P:Program} {ops:Array Oper} {md:Region.Mode} {C:World→Prop}
def ZaK (m n:Nat):Array Bool:=((List.range m).map fun j=>decide (j < n)).toArray
theorem ZkH {n:Nat} {listed:Array Bool} (hsz:listed.size=ops.size) (h1:∀j,j < n→listed.getD j false=true) (h2:∀t,n≤t→t < ops.size→listed.getD t true=false):listed=ZaK ops.size n:=by
 apply Array.ext
 · simp[ZaK,hsz]
 intro i hi hi2;have e1:(ZaK ops.size n)[i]=decide (i < n):=by simp[ZaK]
 rw[e1];by_cases h:i < n
 · have:=h1 i h
   simp[hi] at this;simp[this,h]
 have:=h2 i (by omega) (by omega)
 simp[hi] at this;simp[this,h]
def headB (md:Region.Mode) (ops:Array Oper):Nat→Nat→Array Bool→Bool
 |0,_,_=>true
 |f + 1,k,listed=>((Region.ready md ops listed).contains k&&Region.free md ops listed k)&&headB md ops f (k + 1) (listed.setIfInBounds k true)
theorem Zch {n:Nat}:∀j ∈ Region.ready md ops (ZaK ops.size n),n≤j:=fun j hj=>by
 obtain⟨hun,oj,hoj,_⟩:=mem_ready.1 hj;have hjs:j < ops.size:=(Array.getElem?_eq_some_iff.1 hoj).1;rcases Nat.lt_or_ge j n with h|h
 · simp[ZaK,hjs,h] at hun
 exact h
theorem Ze5 {Q:Exit→Act→World→Prop} {i:Nat} {o:Oper} {K:Act→World→Prop} {a:Act} {w:World} (ho:ops[i]? =some o) (hw:Region.wanted o (yielded ops a.tmps)=true) {v:Value} {w':World} (hrun:(execOp a.eval o).run P w=.ok (.value v) w') (hK:K (a.put o.dst v) w'):wpOp P ops Q i K a w:=by
 unfold wpOp;simp only[ho,hw,if_true];left
 unfold Oper.wp;rw[hrun];exact hK
theorem ZdI {Q:Exit→Act→World→Prop} {i:Nat} {o:Oper} {K:Act→World→Prop} {a:Act} {w:World} (ho:ops[i]? =some o) (hw:Region.wanted o (yielded ops a.tmps)=true) {w':World} (hrun:(execOp a.eval o).run P w=.ok .skip w') (hK:K (a.put o.dst undef) w'):wpOp P ops Q i K a w:=by
 unfold wpOp;simp only[ho,hw,if_true];left
 unfold Oper.wp;rw[hrun];exact hK
theorem Zjq {Q:Exit→Act→World→Prop} {i:Nat} {o:Oper} {K:Act→World→Prop} {a:Act} {w:World} (ho:ops[i]? =some o) (hw:Region.wanted o (yielded ops a.tmps)=true) {fn:FuncId} {args:Array Value} (hrun:(execOp a.eval o).run P w=.ok (.enter fn args) w) {R:Ending→World→Prop} (hc:Calls P fn args w R) (hK:∀e w',R e w'→∃v,e=.returned v∧K (a.put o.dst v) w'):wpOp P ops Q i K a w:=by
 unfold wpOp;simp only[ho,hw,if_true];left
 unfold Oper.wp;rw[hrun]
 exact hc.mono fun e w' h=>by
  obtain⟨v,rfl,h2⟩:=hK e w' h;exact h2
end
end Go
end
