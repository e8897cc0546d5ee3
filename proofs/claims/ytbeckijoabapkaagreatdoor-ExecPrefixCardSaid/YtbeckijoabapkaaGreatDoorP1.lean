import Derived.Test.YtbeckijoabapkaaGreatDoorP0
import Derived.Deep.MidRow
import Derived.BigQuiet
import Derived.Deep.Cut
set_option linter.unusedSimpArgs false
set_option linter.unusedVariables false
set_option maxRecDepth 100000
set_option maxHeartbeats 16000000
section
namespace Go.Proofs.YtbeckijoabapkaaGreatDoor
open Go.RowKit
section
variable {P:Program} {ops:Array Oper} {rest:List Oper} {o:Oper} {a:Act} {Q:Exit→Act→World→Prop} {L0 L F:List Part} {w0 w:World}
theorem Zah (hg:o.guard=none) {v:Value} {w':World} (hrun:(execOp a.eval o).run P w=.ok (.value v) w') (hK:wpList P ops Q rest (a.put o.dst v) w'):wpList P ops Q (o::rest) a w:=
 wpList_plain hg fun _ hK'=>by unfold Oper.wp;rw[hrun];exact hK' _ _ hK
theorem Zb0 (hg:o.guard=none) {w':World} (hrun:(execOp a.eval o).run P w=.ok .skip w') (hK:wpList P ops Q rest (a.put o.dst undef) w'):wpList P ops Q (o::rest) a w:=
 wpList_plain hg fun _ hK'=>by unfold Oper.wp;rw[hrun];exact hK' _ _ hK
theorem Za5 (w:World) (b j:Nat) (ty:TypeId) (v:Value) (ht:w.there b j v.cells.size) (hi:(P.info? ty).map (·.size)=some v.cells.size) (h1:v.cells.all (·.oneCell')=true):
 (Instr.storeAt ty (.pointer (some ⟨b,j,none⟩)) v).run P w=.ok () (w.setCells b j v.cells.toList):=by
 have:=run_storeCells_cells (P:=P) b j v.cells.toList 0 w (fun k hk=>by simpa using(ht k (by simpa using hk)).1) (fun k hk=>by simpa using(ht k (by simpa using hk)).2)
  (fun u hu=>(Array.all_eq_true_iff_forall_mem.1 h1) u (by simpa using hu))
 cases hq:P.info? ty with
 |none=>simp[hq] at hi
 |some i=>
  have hs:v.cells.size=i.size:=by simp[hq] at hi;omega
  simp only[Nat.add_zero] at this;simp[Instr.storeAt,Instr.sureAddr,storeVar,sizeOf,typeInfo,hq,hs,this]
theorem Zaa.there {b:Nat} {c:List Value} {T:TypeId} (h:Zaa w b c T) (j n:Nat) (hj:j + n≤c.length):w.there b j n:=fun k hk=>
 ⟨by rw[h.cell,List.getElem?_eq_getElem (by omega)];rfl,h.free _⟩
theorem Zax {ty:TypeId} {x y:Operand} (hg:o.guard=none) (hop:o.op=.store ty x y) {b j:Nat} (hx:a.eval x=.pointer (some ⟨b,j,none⟩)) {v:Value} (hy:a.eval y=v) {vs:List Value} (hv:v.cells=vs.toArray)
 (h:At L0 w0 L w) {c:List Value} {T:TypeId} (s:Sel (Part.cells b c T) L F) (hi:(P.info? ty).map (·.size)=some vs.length) (h1:vs.all (·.oneCell')=true) (hj:j + vs.length≤c.length)
 (hK:∀w',At L0 w0 (Part.cells b (setL c j vs) T::F) w'→wpList P ops Q rest (a.put o.dst undef) w'):wpList P ops Q (o::rest) a w:=by
 have hb:Zaa w b c T:=h.get s;have hs:v.cells.size=vs.length:=by rw[hv];simp
 have h1':v.cells.all (·.oneCell')=true:=by
  rw[hv,Array.all_eq_true_iff_forall_mem];intro u hu;exact List.all_eq_true.1 h1 u (by simpa using hu)
 have hrun:=Za5 (P:=P) w b j ty v (hb.there j _ (by omega)) (by rw[hs];exact hi) h1';rw[show v.cells.toList=vs from by rw[hv]] at hrun;refine Zb0 hg ?_ (hK _ (h.stores s j vs));simp[execOp,hop,hx,hy,hrun,Result.andThen]
theorem Zc8 {E:TypeId} {x:Operand} (hg:o.guard=none) (hop:o.op=.box E x) {v:Value} (hx:a.eval x=v) {vs:List Value} (hv:v.cells=vs.toArray) (h:At L0 w0 L w)
 (hK:∀b w',At L0 w0 (Part.cells b vs E::L) w'→w0.heap.size≤b→wpList P ops Q rest (a.put o.dst (.pointer (some ⟨b,0,none⟩))) w'):wpList P ops Q (o::rest) a w:=by
 refine Zah hg ?_ (hK _ _ (h.alloc vs E) h.size);simp[execOp,hop,hx,Instr.box,newVar,newRow,hv,Result.andThen]
theorem Zef {E:TypeId} (hg:o.guard=none) (hop:o.op=.alloc E) {z:Value} (hz:(P.info? E).map (·.zero)=some (some z)) {vs:List Value} (hv:z.cells=vs.toArray) (h:At L0 w0 L w)
 (hK:∀b w',At L0 w0 (Part.cells b vs E::L) w'→w0.heap.size≤b→wpList P ops Q rest (a.put o.dst (.pointer (some ⟨b,0,none⟩))) w'):wpList P ops Q (o::rest) a w:=by
 refine Zah hg ?_ (hK _ _ (h.alloc vs E) h.size)
 cases hq:P.info? E with
 |none=>simp[hq] at hz
 |some i=>
  have hi:i.zero=some z:=by simpa [hq] using hz
  simp[execOp,hop,Instr.alloc,zeroValue,typeInfo,hq,hi,newVar,newRow,hv,Result.andThen]
def Cl (L0:List Part) (w0:World) (L:List Part) (w:World):Prop:=At L0 w0 L w
theorem Cl.drew (h:At L0 w0 L w):Cl L0 w0 L w.drew:=At.drew h
theorem Cl.none (h:At L0 w0 L w) (p:Prop):(∀w',Cl L0 w0 L w'→p)=p:=propext ⟨fun q=>q w h,fun q _ _=>q⟩
theorem Cl.none2 (h:At L0 w0 L w) (p:Prop):(∀w',Cl L0 w0 L w'→w'=w'∧p)=p:=propext ⟨fun q=>(q w h).2,fun q _ _=>⟨rfl,q⟩⟩
theorem ZbJ {K:Act→Prop} (v:Value) (hrun:∀w',At L0 w0 L w'→(execOp a.eval o).run P w'=.ok (.value v) w') (hk:K (a.put o.dst v)):o.quiet P a (Cl L0 w0 L) K:=
 ⟨v,fun w hw=>by unfold Oper.quietAt;rw[hrun w hw];exact⟨rfl,rfl⟩,hk⟩
theorem Zac {ty:TypeId} {x:Operand} (hop:o.op=.load ty x) {b j:Nat} (hx:a.eval x=.pointer (some ⟨b,j,none⟩)) {c:List Value} {T:TypeId} (hb:Zaa w b c T) (hu:(P.underlying ty).map (·.isRow)=some false) {v:Value} (hv:c[j]? =some v):
 (execOp a.eval o).run P w=.ok (.value v) w:=by
 obtain⟨d,hu,hd⟩:=Option.map_eq_some_iff.1 hu
 have hagg:(isAgg ty).run P w=.ok false w:=by
  unfold isAgg;rw[Sem.run_bind,run_underlying hu w];cases d<;>simp_all
 have hc:w.cell? ⟨b,j,none⟩=some v:=by rw[hb.cell,hv]
 simp[execOp,hop,hx,Instr.loadAt,Instr.sureAddr,loadVar,Sem.run_bind,hagg,Result.andThen,run_load,hc]
theorem Zae {ty:TypeId} {x:Operand} (hop:o.op=.load ty x) {b j:Nat} (hx:a.eval x=.pointer (some ⟨b,j,none⟩)) {c:List Value} {T:TypeId} (hb:Zaa w b c T) (hu:(P.underlying ty).map (·.isRow)=some true) {n:Nat} (hi:(P.info? ty).map (·.size)=some n) {vs:List Value} (hv:(c.drop j).take n=vs) (hl:vs.length=n):(execOp a.eval o).run P w=.ok (.value (.agg vs.toArray)) w:=by
 obtain⟨d,hu,hd⟩:=Option.map_eq_some_iff.1 hu;subst hl
 have hr:w.rangeAt b j vs:=fun k v hk=>by
  have hlt:=(List.getElem?_eq_some_iff.1 hk).1;rw[←hv,List.getElem?_take,if_pos hlt,List.getElem?_drop] at hk;rw[hb.cell,hk]
 simp[execOp,hop,hx,run_loadAt_mid w b j ty vs d hr hu hd hi,Result.andThen]
theorem Zf8 {K:Act→Prop} {ty:TypeId} {x:Operand} (hop:o.op=.load ty x) {b j:Nat} (hx:a.eval x=.pointer (some ⟨b,j,none⟩)) {c:List Value} {T:TypeId} (s:Sel (Part.cells b c T) L F) (hu:(P.underlying ty).map (·.isRow)=some false) {v:Value} (hv:c[j]? =some v)
 (hk:K (a.put o.dst v)):o.quiet P a (Cl L0 w0 L) K:=ZbJ v (fun _ hw=>Zac hop hx (hw.get s) hu hv) hk
theorem Zfb {K:Act→Prop} {ty:TypeId} {x:Operand} (hop:o.op=.load ty x) {b j:Nat} (hx:a.eval x=.pointer (some ⟨b,j,none⟩)) {c:List Value} {T:TypeId} (s:Sel (Part.cells b c T) L F) (hu:(P.underlying ty).map (·.isRow)=some true) {n:Nat} (hi:(P.info? ty).map (·.size)=some n) {vs:List Value} (hv:(c.drop j).take n=vs) (hl:vs.length=n) (hk:K (a.put o.dst (.agg vs.toArray))):o.quiet P a (Cl L0 w0 L) K:=ZbJ _ (fun _ hw=>Zae hop hx (hw.get s) hu hi hv hl) hk
theorem Cl.out (h:Cl L0 w0 L w):At L0 w0 L w:=h
theorem wS {ty:TypeId} {x y:Operand} {b j:Nat} {v:Value} {vs c:List Value} {T:TypeId} (h:At L0 w0 L w)
 (hK:∀w',At L0 w0 (Part.cells b (setL c j vs) T::F) w'→wpList P ops Q rest (a.put o.dst undef) w')
 (hg:o.guard=none:=by exact rfl) (hop:o.op=.store ty x y:=by exact rfl) (hx:a.eval x=.pointer (some ⟨b,j,none⟩):=by exact rfl) (hy:a.eval y=v:=by(try simp only[Act.eval,Go.Proofs.YtbeckijoabapkaaGreatDoor.eV])<;>exact rfl)
 (hv:v.cells=vs.toArray:=by exact rfl) (s:Sel (Part.cells b c T) L F:=by with_reducible repeat(first|exact Go.Proofs.YtbeckijoabapkaaGreatDoor.Sel.here|apply Go.Proofs.YtbeckijoabapkaaGreatDoor.Sel.there)) (hi:(P.info? ty).map (·.size)=some vs.length:=by kernel_rfl)
 (h1:vs.all (·.oneCell')=true:=by exact rfl) (hj:j + vs.length≤c.length:=by first|decide|(simp;done)|omega):wpList P ops Q (o::rest) a w:=
 Zax hg hop hx hy hv h s hi h1 hj hK
theorem wB {E:TypeId} {x:Operand} {v:Value} {vs:List Value} (h:At L0 w0 L w)
 (hK:∀b w',At L0 w0 (Part.cells b vs E::L) w'→w0.heap.size≤b→wpList P ops Q rest (a.put o.dst (.pointer (some ⟨b,0,none⟩))) w')
 (hg:o.guard=none:=by exact rfl) (hop:o.op=.box E x:=by exact rfl) (hx:a.eval x=v:=by(try simp only[Act.eval,Go.Proofs.YtbeckijoabapkaaGreatDoor.eV])<;>exact rfl) (hv:v.cells=vs.toArray:=by exact rfl):wpList P ops Q (o::rest) a w:=
 Zc8 hg hop hx hv h hK
theorem gst {d t p af g x y z} (h:wpList P ops Q ({dst:=d,op:=.store x y z,type:=t,pos:=p,after:=af,guard:=g}::rest) a w):wpList P ops Q ({dst:=d,op:=.store x y z,type:=t,pos:=p,after:=af,guard:=g}::rest) a w:=h
theorem gbx {d t p af g x y} (h:wpList P ops Q ({dst:=d,op:=.box x y,type:=t,pos:=p,after:=af,guard:=g}::rest) a w):wpList P ops Q ({dst:=d,op:=.box x y,type:=t,pos:=p,after:=af,guard:=g}::rest) a w:=h
theorem gal {d t p af g x} (h:wpList P ops Q ({dst:=d,op:=.alloc x,type:=t,pos:=p,after:=af,guard:=g}::rest) a w):wpList P ops Q ({dst:=d,op:=.alloc x,type:=t,pos:=p,after:=af,guard:=g}::rest) a w:=h
end
end Go.Proofs.YtbeckijoabapkaaGreatDoor
namespace Go
open _root_.Go.Proofs.YtbeckijoabapkaaGreatDoor
open Go.RowKit
theorem uY:type_of% @uA∧type_of% fA∧(∀p:Prop,(p∧True)=p)∧(∀p:Prop,(True∧p)=p):=⟨@uA,fA,and_true,true_and⟩
theorem wG {P:Program} {ops:Array Oper} {rest:List Oper} {o:Oper} {a:Act} {Q:Exit→Act→World→Prop} {L0 L:List Part} {w0 w:World} (E:TypeId) (vs:List Value) (h:At L0 w0 L w) (hK:∀b w',At L0 w0 (Part.cells b vs E::L) w'→w0.heap.size≤b→Facts (Part.cells b vs E::L) w'→wpList P ops Q rest (a.put o.dst (.pointer (some ⟨b,0,none⟩))) w') (hg:o.guard=none:=by exact rfl) (hop:o.op=.alloc E:=by exact rfl) (hz:(P.info? E).map (·.zero)=some (some (.agg vs.toArray)):=by kernel_rfl):wpList P ops Q (o::rest) a w:=Zef hg hop hz rfl h fun b w' hA hb=>hK b w' hA hb hA.facts
theorem wH {P:Program} {ops:Array Oper} {rest:List Oper} {o:Oper} {a:Act} {Q:Exit→Act→World→Prop} {L0 L:List Part} {w0 w:World} (E:TypeId) (vs:List Value) {x:Operand} (h:At L0 w0 L w) (hK:∀b w',At L0 w0 (Part.cells b vs E::L) w'→w0.heap.size≤b→Facts (Part.cells b vs E::L) w'→wpList P ops Q rest (a.put o.dst (.pointer (some ⟨b,0,none⟩))) w') (hg:o.guard=none:=by exact rfl) (hop:o.op=.box E x:=by exact rfl) (hx:a.eval x=.agg vs.toArray:=by first|(simp[Act.eval,Act.put];done)|exact rfl):wpList P ops Q (o::rest) a w:=Zc8 hg hop hx rfl h fun b w' hA hb=>hK b w' hA hb hA.facts
theorem cA {P:Program} {id:Nat} {Q:Exit→Act→World→Prop} {a:Act} {w:World} {l:List Oper} {L0 L:List Part} {w0:World} (hA:At L0 w0 L w) (h:wpQuiet P l.toArray (Cl L0 w0 L) (fun a'=>∀w',Cl L0 w0 L w'→Q .normal a' w') l a) (hm:P.follows .mixedOrders=true:=by kernel_rfl) (hB:Region.lexB .any l.toArray=true:=by kernel_rfl):(Code.region id l.toArray true).wp P Q a w:=ZaI (Cl L0 w0 L) hm hB (Cl.drew hA) h
theorem wT {P:Program} {ops:Array Oper} {rest:List Oper} {o:Oper} {a:Act} {Q:Exit→Act→World→Prop} {L0 L F:List Part} {w0 w:World} {ty:TypeId} {x y:Operand} {b j:Nat} {v:Value} {vs c:List Value} {T:TypeId} (h:At L0 w0 L w) (hK:∀w',At L0 w0 (Part.cells b (setL c j vs) T::F) w'→Facts (Part.cells b (setL c j vs) T::F) w'→wpList P ops Q rest (a.put o.dst undef) w') (hg:o.guard=none:=by exact rfl) (hop:o.op=.store ty x y:=by exact rfl) (hx:a.eval x=.pointer (some ⟨b,j,none⟩):=by exact rfl) (hy:a.eval y=v:=by(try simp only[Act.eval,eV])<;>exact rfl) (hv:v.cells=vs.toArray:=by exact rfl) (s:Sel (Part.cells b c T) L F:=by with_reducible repeat(first|exact Sel.here|apply Sel.there)) (hi:(P.info? ty).map (·.size)=some vs.length:=by kernel_rfl) (h1:vs.all (·.oneCell')=true:=by exact rfl) (hj:j + vs.length≤c.length:=by first|decide|(simp;done)|omega):wpList P ops Q (o::rest) a w:=wS h (fun w' hA=>hK w' hA hA.facts) hg hop hx hy hv s hi h1 hj
theorem wC {P:Program} {ops:Array Oper} {rest:List Oper} {o:Oper} {a:Act} {Q:Exit→Act→World→Prop} {L0 L:List Part} {w0 w:World} {E:TypeId} {x:Operand} {v:Value} {vs:List Value} (h:At L0 w0 L w) (hK:∀b w',At L0 w0 (Part.cells b vs E::L) w'→w0.heap.size≤b→Facts (Part.cells b vs E::L) w'→wpList P ops Q rest (a.put o.dst (.pointer (some ⟨b,0,none⟩))) w') (hg:o.guard=none:=by exact rfl) (hop:o.op=.box E x:=by exact rfl) (hx:a.eval x=v:=by(try simp only[Act.eval,eV])<;>exact rfl) (hv:v.cells=vs.toArray:=by exact rfl):wpList P ops Q (o::rest) a w:=wB h (fun b w' hA hb=>hK b w' hA hb hA.facts) hg hop hx hv
theorem qL {P:Program} {o:Oper} {a:Act} {L0 L F:List Part} {w0:World} {K:Act→Prop} {ty:TypeId} {x:Operand} {b j:Nat} {c:List Value} {T:TypeId} {v:Value} (hk:K (a.put o.dst v)) (hop:o.op=.load ty x:=by exact rfl) (hx:a.eval x=.pointer (some ⟨b,j,none⟩):=by exact rfl) (s:Sel (Part.cells b c T) L F:=by with_reducible repeat(first|exact Sel.here|apply Sel.there)) (hu:(P.underlying ty).map (·.isRow)=some false:=by kernel_rfl) (hv:c[j]? =some v:=by first|assumption|exact rfl):o.quiet P a (Cl L0 w0 L) K:=Zf8 hop hx s hu hv hk
theorem qM {P:Program} {o:Oper} {a:Act} {L0 L F:List Part} {w0:World} {K:Act→Prop} (ty:TypeId) (n:Nat) {x:Operand} {b j:Nat} {c:List Value} {T:TypeId} {vs:List Value} (hk:K (a.put o.dst (.agg vs.toArray))) (hop:o.op=.load ty x:=by exact rfl) (hx:a.eval x=.pointer (some ⟨b,j,none⟩):=by exact rfl) (s:Sel (Part.cells b c T) L F:=by with_reducible repeat(first|exact Sel.here|apply Sel.there)) (hu:(P.underlying ty).map (·.isRow)=some true:=by kernel_rfl) (hi:(P.info? ty).map (·.size)=some n:=by kernel_rfl) (hv:(c.drop j).take n=vs:=by first|assumption|((try simp only[List.drop_succ_cons,List.drop_zero,List.take_succ_cons,List.take_zero])<;>exact rfl)) (hl:vs.length=n:=by exact rfl):o.quiet P a (Cl L0 w0 L) K:=Zfb hop hx s hu hi hv hl hk
end Go
namespace Go
open _root_.Go.Proofs.YtbeckijoabapkaaGreatDoor
open Go.RowKit
theorem ZaJ {P:Program} {ops:Array Oper} {C:World→Prop} {Q Q':Act→Prop} (h:∀a,Q a→Q' a):∀(l:List Oper) (a:Act),wpQuiet P ops C Q l a→wpQuiet P ops C Q' l a
 |[],a,hq=>h a hq
 |o::l,a,hq=>by
  unfold wpQuiet at hq ⊢;split
  · rename_i hw;rw[if_pos hw] at hq;exact Oper.quiet_mono (fun a=>ZaJ h l a) hq
  rename_i hw;rw[if_neg hw] at hq;exact ZaJ h l _ hq
theorem cl0 {P:Program} {id:Nat} {Q:Exit→Act→World→Prop} {a a1:Act} {w:World} {l:List Oper} {L0 L:List Part} {w0:World} (hA:At L0 w0 L w) (hK:∀w',At L0 w0 L w'→Facts L w'→Q .normal a1 w') (h:wpQuiet P l.toArray (Cl L0 w0 L) (fun a'=>a'=a1) l a:=by have hn1:=Cl.none hA;have hn2:=Cl.none2 hA;(repeat(first|go_big_quiet_skip|(go_big_quiet_want;(first|(refine qL ?_;go_frame;go_big_quiet_on)|(go_big_quiet_op;(first|go_big_quiet_on|((apply Exists.intro);(refine⟨fun w1 hw=> ?_,?_⟩);(focus((have hw:=Cl.out hw);(fail)));(go_big_quiet_on))))))));refine wpQuiet_nil ?_;exact rfl) (hm:P.follows .mixedOrders=true:=by kernel_rfl) (hB:Region.lexB .any l.toArray=true:=by kernel_rfl):(Code.region id l.toArray true).wp P Q a w:=ZaI (Cl L0 w0 L) hm hB (Cl.drew hA) (ZaJ (fun a' e w' hw=>e ▸ hK w' hw.out hw.out.facts) l a h)
theorem cl1 {P:Program} {id:Nat} {Q:Exit→Act→World→Prop} {a a1:Act} {w:World} {l:List Oper} {L0 L:List Part} {w0:World} (hA:At L0 w0 L w) (hK:∀w',At L0 w0 L w'→Facts L w'→Q .normal a1 w') (h:wpQuiet P l.toArray (Cl L0 w0 L) (fun a'=>a'=a1) l a:=by have hn1:=Cl.none hA;have hn2:=Cl.none2 hA;(repeat(first|go_big_quiet_skip|(go_big_quiet_want;(first|(refine qM 33 2 ?_;go_frame;go_big_quiet_on)|(refine qL ?_;go_frame;go_big_quiet_on)|(go_big_quiet_op;(first|go_big_quiet_on|((apply Exists.intro);(refine⟨fun w1 hw=> ?_,?_⟩);(focus((have hw:=Cl.out hw);(exact thro hw (hri _))));(go_big_quiet_on))))))));refine wpQuiet_nil ?_;exact rfl) (hm:P.follows .mixedOrders=true:=by kernel_rfl) (hB:Region.lexB .any l.toArray=true:=by kernel_rfl):(Code.region id l.toArray true).wp P Q a w:=ZaI (Cl L0 w0 L) hm hB (Cl.drew hA) (ZaJ (fun a' e w' hw=>e ▸ hK w' hw.out hw.out.facts) l a h)
theorem cl2 {P:Program} {id:Nat} {Q:Exit→Act→World→Prop} {a a1:Act} {w:World} {l:List Oper} {L0 L:List Part} {w0:World} (hA:At L0 w0 L w) (hK:∀w',At L0 w0 L w'→Facts L w'→Q .normal a1 w') (h:wpQuiet P l.toArray (Cl L0 w0 L) (fun a'=>a'=a1) l a:=by have hn1:=Cl.none hA;have hn2:=Cl.none2 hA;(repeat(first|go_big_quiet_skip|(go_big_quiet_want;(first|(refine qM 37 8 ?_;go_frame;go_big_quiet_on)|(refine qM 101 6 ?_;go_frame;go_big_quiet_on)|(refine qL ?_;go_frame;go_big_quiet_on)|(go_big_quiet_op;(first|go_big_quiet_on|((apply Exists.intro);(refine⟨fun w1 hw=> ?_,?_⟩);(focus((have hw:=Cl.out hw);(fail)));(go_big_quiet_on))))))));refine wpQuiet_nil ?_;exact rfl) (hm:P.follows .mixedOrders=true:=by kernel_rfl) (hB:Region.lexB .any l.toArray=true:=by kernel_rfl):(Code.region id l.toArray true).wp P Q a w:=ZaI (Cl L0 w0 L) hm hB (Cl.drew hA) (ZaJ (fun a' e w' hw=>e ▸ hK w' hw.out hw.out.facts) l a h)
theorem cl3 {P:Program} {id:Nat} {Q:Exit→Act→World→Prop} {a a1:Act} {w:World} {l:List Oper} {L0 L:List Part} {w0:World} (hA:At L0 w0 L w) (hK:∀w',At L0 w0 L w'→Facts L w'→Q .normal a1 w') (h:wpQuiet P l.toArray (Cl L0 w0 L) (fun a'=>a'=a1) l a:=by have hn1:=Cl.none hA;have hn2:=Cl.none2 hA;(repeat(first|go_big_quiet_skip|(go_big_quiet_want;(first|(refine qM 37 8 ?_;go_frame;go_big_quiet_on)|(refine qM 101 6 ?_;go_frame;go_big_quiet_on)|(refine qL ?_;go_frame;go_big_quiet_on)|(go_big_quiet_op;(first|go_big_quiet_on|((apply Exists.intro);(refine⟨fun w1 hw=> ?_,?_⟩);(focus((have hw:=Cl.out hw);(exact through0 hw (hbr _))));(go_big_quiet_on))))))));refine wpQuiet_nil ?_;exact rfl) (hm:P.follows .mixedOrders=true:=by kernel_rfl) (hB:Region.lexB .any l.toArray=true:=by kernel_rfl):(Code.region id l.toArray true).wp P Q a w:=ZaI (Cl L0 w0 L) hm hB (Cl.drew hA) (ZaJ (fun a' e w' hw=>e ▸ hK w' hw.out hw.out.facts) l a h)
theorem cl4 {P:Program} {id:Nat} {Q:Exit→Act→World→Prop} {a a1:Act} {w:World} {l:List Oper} {L0 L:List Part} {w0:World} (hA:At L0 w0 L w) (hK:∀w',At L0 w0 L w'→Facts L w'→Q .normal a1 w') (h:wpQuiet P l.toArray (Cl L0 w0 L) (fun a'=>a'=a1) l a:=by have hn1:=Cl.none hA;have hn2:=Cl.none2 hA;(repeat(first|go_big_quiet_skip|(go_big_quiet_want;(first|(refine qM 37 8 ?_;go_frame;go_big_quiet_on)|(refine qM 101 6 ?_;go_frame;go_big_quiet_on)|(refine qL ?_;go_frame;go_big_quiet_on)|(go_big_quiet_op;(first|go_big_quiet_on|((apply Exists.intro);(refine⟨fun w1 hw=> ?_,?_⟩);(focus((have hw:=Cl.out hw);(exact through0 hw (hmo _))));(go_big_quiet_on))))))));refine wpQuiet_nil ?_;exact rfl) (hm:P.follows .mixedOrders=true:=by kernel_rfl) (hB:Region.lexB .any l.toArray=true:=by kernel_rfl):(Code.region id l.toArray true).wp P Q a w:=ZaI (Cl L0 w0 L) hm hB (Cl.drew hA) (ZaJ (fun a' e w' hw=>e ▸ hK w' hw.out hw.out.facts) l a h)
theorem cl5 {P:Program} {id:Nat} {Q:Exit→Act→World→Prop} {a a1:Act} {w:World} {l:List Oper} {L0 L:List Part} {w0:World} (hA:At L0 w0 L w) (hK:∀w',At L0 w0 L w'→Facts L w'→Q .normal a1 w') (h:wpQuiet P l.toArray (Cl L0 w0 L) (fun a'=>a'=a1) l a:=by have hn1:=Cl.none hA;have hn2:=Cl.none2 hA;(repeat(first|go_big_quiet_skip|(go_big_quiet_want;(first|(refine qM 33 2 ?_;go_frame;go_big_quiet_on)|(refine qL ?_;go_frame;go_big_quiet_on)|(go_big_quiet_op;(first|go_big_quiet_on))))));refine wpQuiet_nil ?_;exact rfl) (hm:P.follows .mixedOrders=true:=by kernel_rfl) (hB:Region.lexB .any l.toArray=true:=by kernel_rfl):(Code.region id l.toArray true).wp P Q a w:=ZaI (Cl L0 w0 L) hm hB (Cl.drew hA) (ZaJ (fun a' e w' hw=>e ▸ hK w' hw.out hw.out.facts) l a h)
theorem cl6 {P:Program} {id:Nat} {Q:Exit→Act→World→Prop} {a a1:Act} {w:World} {l:List Oper} {L0 L:List Part} {w0:World} (hA:At L0 w0 L w) (hK:∀w',At L0 w0 L w'→Facts L w'→Q .normal a1 w') (h:wpQuiet P l.toArray (Cl L0 w0 L) (fun a'=>a'=a1) l a:=by have hn1:=Cl.none hA;have hn2:=Cl.none2 hA;(repeat(first|go_big_quiet_skip|(go_big_quiet_want;(first|(refine qM 33 2 ?_;go_frame;go_big_quiet_on)|(refine qL ?_;go_frame;go_big_quiet_on)|(go_big_quiet_op;(first|go_big_quiet_on|((apply Exists.intro);(refine⟨fun w1 hw=> ?_,?_⟩);(focus((have hw:=Cl.out hw);(fail)));(go_big_quiet_on))))))));refine wpQuiet_nil ?_;exact rfl) (hm:P.follows .mixedOrders=true:=by kernel_rfl) (hB:Region.lexB .any l.toArray=true:=by kernel_rfl):(Code.region id l.toArray true).wp P Q a w:=ZaI (Cl L0 w0 L) hm hB (Cl.drew hA) (ZaJ (fun a' e w' hw=>e ▸ hK w' hw.out hw.out.facts) l a h)
theorem cl7 {P:Program} {id:Nat} {Q:Exit→Act→World→Prop} {a a1:Act} {w:World} {l:List Oper} {L0 L:List Part} {w0:World} (hA:At L0 w0 L w) (hK:∀w',At L0 w0 L w'→Facts L w'→Q .normal a1 w') (h:wpQuiet P l.toArray (Cl L0 w0 L) (fun a'=>a'=a1) l a:=by have hn1:=Cl.none hA;have hn2:=Cl.none2 hA;(repeat(first|go_big_quiet_skip|(go_big_quiet_want;(first|(refine qM 33 2 ?_;go_frame;go_big_quiet_on)|(refine qM 51 8 ?_;go_frame;go_big_quiet_on)|(refine qL ?_;go_frame;go_big_quiet_on)|(go_big_quiet_op;(first|go_big_quiet_on|((apply Exists.intro);(refine⟨fun w1 hw=> ?_,?_⟩);(focus((have hw:=Cl.out hw);(first|exact thro hw (hri _)|exact thro hw (har _)|exact thro hw (how _))));(go_big_quiet_on))))))));refine wpQuiet_nil ?_;exact rfl) (hm:P.follows .mixedOrders=true:=by kernel_rfl) (hB:Region.lexB .any l.toArray=true:=by kernel_rfl):(Code.region id l.toArray true).wp P Q a w:=ZaI (Cl L0 w0 L) hm hB (Cl.drew hA) (ZaJ (fun a' e w' hw=>e ▸ hK w' hw.out hw.out.facts) l a h)
end Go
section
namespace Go
open _root_.Go.Proofs.YtbeckijoabapkaaGreatDoor
open Go.RowKit
theorem Hd {p:Prop} (h:p):RowKit.Hid p:=h
theorem fY {L0 L:List Part} {w0 w:World} {X Y:Prop} (h:At L0 w0 L w) (s:At L0 w0 L w→Facts L w→X∧Y:=by intro hA hF;(try simp only[uY] at hA hF);exact⟨hA,hF⟩):X∧Y:=s h h.facts
theorem wCy {X Y:Nat→World→Prop} {P:Program} {ops:Array Oper} {rest:List Oper} {o:Oper} {a:Act} {Q:Exit→Act→World→Prop} {L0 L:List Part} {w0 w:World} {E:TypeId} {x:Operand} {v:Value} {vs:List Value} (h:At L0 w0 L w) (hK:∀b w',X b w'→w0.heap.size≤b→Y b w'→wpList P ops Q rest (a.put o.dst (.pointer (some ⟨b,0,none⟩))) w') (hg:o.guard=none:=by exact rfl) (hop:o.op=.box E x:=by exact rfl) (hx:a.eval x=v:=by(try simp only[Act.eval,eV])<;>exact rfl) (hv:v.cells=vs.toArray:=by exact rfl) (sq:∀b w',At L0 w0 (Part.cells b vs E::L) w'→Facts (Part.cells b vs E::L) w'→X b w'∧Y b w':=by intro b w' hA hF;(try simp only[uY] at hA hF);exact⟨hA,hF⟩):wpList P ops Q (o::rest) a w:=wC h (fun b w' p q r=>(sq b w' p r).elim fun x y=>hK b w' x q y) hg hop hx hv
theorem wGy {X Y:Nat→World→Prop} {P:Program} {ops:Array Oper} {rest:List Oper} {o:Oper} {a:Act} {Q:Exit→Act→World→Prop} {L0 L:List Part} {w0 w:World} (E:TypeId) (vs:List Value) (h:At L0 w0 L w) (hK:∀b w',X b w'→w0.heap.size≤b→Y b w'→wpList P ops Q rest (a.put o.dst (.pointer (some ⟨b,0,none⟩))) w') (hg:o.guard=none:=by exact rfl) (hop:o.op=.alloc E:=by exact rfl) (hz:(P.info? E).map (·.zero)=some (some (.agg vs.toArray)):=by kernel_rfl) (sq:∀b w',At L0 w0 (Part.cells b vs E::L) w'→Facts (Part.cells b vs E::L) w'→X b w'∧Y b w':=by intro b w' hA hF;(try simp only[uY] at hA hF);exact⟨hA,hF⟩):wpList P ops Q (o::rest) a w:=wG E vs h (fun b w' p q r=>(sq b w' p r).elim fun x y=>hK b w' x q y) hg hop hz
theorem wHy {X Y:Nat→World→Prop} {P:Program} {ops:Array Oper} {rest:List Oper} {o:Oper} {a:Act} {Q:Exit→Act→World→Prop} {L0 L:List Part} {w0 w:World} (E:TypeId) (vs:List Value) {x:Operand} (h:At L0 w0 L w) (hK:∀b w',X b w'→w0.heap.size≤b→Y b w'→wpList P ops Q rest (a.put o.dst (.pointer (some ⟨b,0,none⟩))) w') (hg:o.guard=none:=by exact rfl) (hop:o.op=.box E x:=by exact rfl) (hx:a.eval x=.agg vs.toArray:=by first|(simp[Act.eval,Act.put];done)|exact rfl) (sq:∀b w',At L0 w0 (Part.cells b vs E::L) w'→Facts (Part.cells b vs E::L) w'→X b w'∧Y b w':=by intro b w' hA hF;(try simp only[uY] at hA hF);exact⟨hA,hF⟩):wpList P ops Q (o::rest) a w:=wH E vs h (fun b w' p q r=>(sq b w' p r).elim fun x y=>hK b w' x q y) hg hop hx
theorem wTy {X Y:World→Prop} {P:Program} {ops:Array Oper} {rest:List Oper} {o:Oper} {a:Act} {Q:Exit→Act→World→Prop} {L0 L F:List Part} {w0 w:World} {ty:TypeId} {x y:Operand} {b j:Nat} {v:Value} {vs c:List Value} {T:TypeId} (h:At L0 w0 L w) (hK:∀w',X w'→Y w'→wpList P ops Q rest (a.put o.dst undef) w') (hg:o.guard=none:=by exact rfl) (hop:o.op=.store ty x y:=by exact rfl) (hx:a.eval x=.pointer (some ⟨b,j,none⟩):=by exact rfl) (hy:a.eval y=v:=by(try simp only[Act.eval,eV])<;>exact rfl) (hv:v.cells=vs.toArray:=by exact rfl) (s:Sel (Part.cells b c T) L F:=by with_reducible repeat(first|exact Sel.here|apply Sel.there)) (hi:(P.info? ty).map (·.size)=some vs.length:=by kernel_rfl) (h1:vs.all (·.oneCell')=true:=by exact rfl) (hj:j + vs.length≤c.length:=by first|decide|(simp;done)|omega) (sq:∀w',At L0 w0 (Part.cells b (setL c j vs) T::F) w'→Facts (Part.cells b (setL c j vs) T::F) w'→X w'∧Y w':=by intro w' hA hF;(try simp only[uY] at hA hF);exact⟨hA,hF⟩):wpList P ops Q (o::rest) a w:=wT h (fun w' p r=>(sq w' p r).elim fun x y=>hK w' x y) hg hop hx hy hv s hi h1 hj
theorem g0 {X Y P ops rest o a Q L0 L w0 w}:type_of%(@wGy X Y P ops rest o a Q L0 L w0 w 101 [.bool false,.bool false,.bool false,.bool false,.bool false,.bool false]):=@wGy _ _ _ _ _ _ _ _ _ _ _ _ _ _
theorem g1 {X Y P ops rest o a Q L0 L w0 w}:type_of%(@wGy X Y P ops rest o a Q L0 L w0 w 40 [.int .i64 0,.int .u64 0,.bool false]):=@wGy _ _ _ _ _ _ _ _ _ _ _ _ _ _
theorem g2 {X Y P ops rest o a Q L0 L w0 w}:type_of%(@wGy X Y P ops rest o a Q L0 L w0 w 37 [.int .i64 0,.int .u64 0,.string .empty,.int .u64 0,.string .empty,.int .i64 0,.int .u64 0,.int .i64 0]):=@wGy _ _ _ _ _ _ _ _ _ _ _ _ _ _
theorem g4 {X Y P ops rest o a Q L0 L w0 w}:type_of%(@wGy X Y P ops rest o a Q L0 L w0 w 137 [.bool false,.bool false,.int .i64 0,.int .i64 0,.int .i64 0]):=@wGy _ _ _ _ _ _ _ _ _ _ _ _ _ _
theorem g5 {X Y P ops rest o a Q L0 L w0 w}:type_of%(@wGy X Y P ops rest o a Q L0 L w0 w 165 [.string .empty,.int .u64 0,.string .empty,.int .i64 0,.int .u64 0,.int .i64 0]):=@wGy _ _ _ _ _ _ _ _ _ _ _ _ _ _
theorem g6 {X Y P ops rest o a Q L0 L w0 w}:type_of%(@wGy X Y P ops rest o a Q L0 L w0 w 75 [.string .empty,.int .u64 0]):=@wGy _ _ _ _ _ _ _ _ _ _ _ _ _ _
theorem g7 {X Y P ops rest o a Q L0 L w0 w}:type_of%(@wGy X Y P ops rest o a Q L0 L w0 w 51 [.int .i64 0,.int .i64 0,.int .i64 0,.int .i64 0,.int .i64 0,.int .i64 0,.int .i64 0,.int .i64 0]):=@wGy _ _ _ _ _ _ _ _ _ _ _ _ _ _
end Go
end
namespace Go
theorem galD {P:Program} {ops:Array Oper} {Q:Exit→Act→World→Prop} {rest:List Oper} {a:Act} {w:World} (n:Nat) {t p af g x} (h:wpList P ops Q ({dst:=some n,op:=.alloc x,type:=t,pos:=p,after:=af,guard:=g}::rest) a w):wpList P ops Q ({dst:=some n,op:=.alloc x,type:=t,pos:=p,after:=af,guard:=g}::rest) a w:=h
end Go
namespace Go
theorem gbxD {P:Program} {ops:Array Oper} {Q:Exit→Act→World→Prop} {rest:List Oper} {a:Act} {w:World} (n:Nat) {t p af g x y} (h:wpList P ops Q ({dst:=some n,op:=.box x y,type:=t,pos:=p,after:=af,guard:=g}::rest) a w):wpList P ops Q ({dst:=some n,op:=.box x y,type:=t,pos:=p,after:=af,guard:=g}::rest) a w:=h
end Go
end
namespace Go.Proofs.YtbeckijoabapkaaGreatDoor
section
section
open Go.RowKit
open Go.Maps (Keyed)
section
variable {P:Program} {k:TypeId} {w:World} {b:Nat} {es:List (Value × Value)}
theorem MapAt.run_len (h:MapAt P k w b es) {t e:TypeId} (ht:P.underlying t=some (.map k e)) (ty:TypeId):(Builtin.len_ #[t] ty #[.map (some b)]).run P w=.ok (.int .i64 es.length) w:=by
 obtain⟨ents,clock,hb,hl⟩:=h.len;simp[Builtin.len_,run_underlying ht,MapKept.run_getObj_map hb,Result.andThen,goInt,hl]
variable {ops:Array Oper} {rest:List Oper} {o:Oper} {a:Act} {Q:Exit→Act→World→Prop} {L0 L F:List Part} {w0:World}
theorem Zbm {t:TypeId} {m:Operand} (hg:o.guard=none) (hop:o.op=Op.call {callee:=Callee.builtin Builtin.len,args:= #[m],argTypes:= #[t]}) (hm:a.eval m=.map (some b))
 (h:At L0 w0 L w) (s:Sel (Part.map P k b es) L F) {e:TypeId} (ht:P.underlying t=some (.map k e))
 (hK:wpList P ops Q rest (a.put o.dst (.int .i64 es.length)) w):wpList P ops Q (o::rest) a w:=by
 have hM:MapAt P k w b es:=h.get s;refine Zah hg ?_ hK;simp[execOp,hop,resolve,invoke,builtin,hm,hM.run_len ht o.type,Result.andThen]
theorem Zbf {t:TypeId} {m x:Operand} (hg:o.guard=none) (hop:o.op=.lookup t m x true) (hm:a.eval m=.map (some b)) {key:Value} (hx:a.eval x=key)
 (h:At L0 w0 L w) (s:Sel (Part.map P k b es) L F) {e:TypeId} (K:Keyed P k) (ht:P.underlying t=some (.map k e)) {kl:Lit} (hk:keyOf P k key=some kl) (hn:∀p ∈ es,p.1≠key) {z:Value} (hz:∀w,(zeroValue e).run P w=.ok z w)
 (hK:wpList P ops Q rest (a.put o.dst (.tuple #[z,.bool false])) w):wpList P ops Q (o::rest) a w:=by
 have hM:MapAt P k w b es:=h.get s;refine Zah hg ?_ hK;simp[execOp,hop,hm,hx,hM.look_none K ht hk hn (hz w) true,Result.andThen]
theorem Zbe {t:TypeId} {m x:Operand} (hg:o.guard=none) (hop:o.op=.lookup t m x true) (hm:a.eval m=.map (some b)) {key:Value} (hx:a.eval x=key)
 (h:At L0 w0 L w) (s:Sel (Part.map P k b es) L F) {e:TypeId} (K:Keyed P k) (ht:P.underlying t=some (.map k e)) {kl:Lit} (hk:keyOf P k key=some kl) {v:Value} (hn:(key,v) ∈ es)
 (hK:wpList P ops Q rest (a.put o.dst (.tuple #[v,.bool true])) w):wpList P ops Q (o::rest) a w:=by
 have hM:MapAt P k w b es:=h.get s;refine Zah hg ?_ hK;simp[execOp,hop,hm,hx,hM.look_some K ht hk hn true,Result.andThen]
theorem ZcF {t:TypeId} {m x:Operand} (hg:o.guard=none) (hop:o.op=.lookup t m x false) (hm:a.eval m=.map (some b)) {key:Value} (hx:a.eval x=key)
 (h:At L0 w0 L w) (s:Sel (Part.map P k b es) L F) {e:TypeId} (K:Keyed P k) (ht:P.underlying t=some (.map k e)) {kl:Lit} (hk:keyOf P k key=some kl) (hn:∀p ∈ es,p.1≠key) {z:Value} (hz:∀w,(zeroValue e).run P w=.ok z w)
 (hK:wpList P ops Q rest (a.put o.dst z) w):wpList P ops Q (o::rest) a w:=by
 have hM:MapAt P k w b es:=h.get s;refine Zah hg ?_ hK;simp[execOp,hop,hm,hx,hM.look_none K ht hk hn (hz w) false,Result.andThen]
theorem ZcE {t:TypeId} {m x:Operand} (hg:o.guard=none) (hop:o.op=.lookup t m x false) (hm:a.eval m=.map (some b)) {key:Value} (hx:a.eval x=key)
 (h:At L0 w0 L w) (s:Sel (Part.map P k b es) L F) {e:TypeId} (K:Keyed P k) (ht:P.underlying t=some (.map k e)) {kl:Lit} (hk:keyOf P k key=some kl) {v:Value} (hn:(key,v) ∈ es)
 (hK:wpList P ops Q rest (a.put o.dst v) w):wpList P ops Q (o::rest) a w:=by
 have hM:MapAt P k w b es:=h.get s;refine Zah hg ?_ hK;simp[execOp,hop,hm,hx,hM.look_some K ht hk hn false,Result.andThen]
theorem Zao {t:TypeId} {m x y:Operand} (hg:o.guard=none) (hop:o.op=.mapUpdate t m x y) (hm:a.eval m=.map (some b)) {key val:Value} (hx:a.eval x=key) (hy:a.eval y=val)
 (h:At L0 w0 L w) (s:Sel (Part.map P k b es) L F) {e:TypeId} (K:Keyed P k) (ht:P.underlying t=some (.map k e)) {kl:Lit} (hk:keyOf P k key=some kl) (hn:∀p ∈ es,p.1≠key)
 (hK:∀w',At L0 w0 (Part.map P k b (es++[(key,val)])::F) w'→wpList P ops Q rest (a.put o.dst undef) w'):wpList P ops Q (o::rest) a w:=by
 have hM:MapAt P k w b es:=h.get s;obtain⟨w',h1,h2,h3⟩:=hM.put_new K ht hk hn val;refine Zb0 hg ?_ (hK w' (h.turn s _ h2 (fun _ e=>.inl e) h3));simp[execOp,hop,hm,hx,hy,h1,Result.andThen]
theorem ZaV {t:TypeId} {m x y:Operand} (hg:o.guard=none) (hop:o.op=.mapUpdate t m x y) (hm:a.eval m=.map (some b)) {key val u:Value} {l1 l2:List (Value × Value)} (hx:a.eval x=key) (hy:a.eval y=val)
 (h:At L0 w0 L w) (s:Sel (Part.map P k b (l1++(key,u)::l2)) L F) {e:TypeId} (K:Keyed P k) (ht:P.underlying t=some (.map k e)) {kl:Lit} (hk:keyOf P k key=some kl)
 (hK:∀w',At L0 w0 (Part.map P k b (l1++(key,val)::l2)::F) w'→wpList P ops Q rest (a.put o.dst undef) w'):wpList P ops Q (o::rest) a w:=by
 have hM:MapAt P k w b (l1++(key,u)::l2):=h.get s;obtain⟨w',h1,h2,h3⟩:=hM.put_there K ht hk val;refine Zb0 hg ?_ (hK w' (h.turn s _ h2 (fun _ e=>.inl e) h3));simp[execOp,hop,hm,hx,hy,h1,Result.andThen]
theorem Zav {t:TypeId} (P:Program) (k:TypeId) (hg:o.guard=none) (hop:o.op=.makeMap t none) (h:At L0 w0 L w)
 (hK:∀b w',At L0 w0 (Part.map P k b []::L) w'→w0.heap.size≤b→wpList P ops Q rest (a.put o.dst (.map (some b))) w'):wpList P ops Q (o::rest) a w:=by
 refine Zah hg ?_ (hK _ _ (h.new ((Ext.refl w).alloc (.map #[] 0)) _ (MapAt.made P k w) (fun _ e=>by cases e;exact Nat.le_refl _)) h.size);simp[execOp,hop,run_makeMap,Result.andThen]
theorem ZaQ {t:TypeId} {m:Operand} (hg:o.guard=none) (hop:o.op=.range t m) (hm:a.eval m=.map (some b)) (h:At L0 w0 L w) (s:Sel (Part.map P k b es) L F) {e:TypeId} (ht:P.underlying t=some (.map k e))
 (hK:∀r w',At L0 w0 (Part.iter P k r b es []::F) w'→w0.heap.size≤r→wpList P ops Q rest (a.put o.dst (.pointer (some ⟨r,0,none⟩))) w'):wpList P ops Q (o::rest) a w:=by
 have hM:MapAt P k w b es:=h.get s;obtain⟨w',h1,h2,h3⟩:=hM |> fun q=>ZaU.start q ht;refine Zah hg ?_ (hK _ w' (h.turn s (Part.iter P k w.heap.size b es []) h3 (fun q e=> ?_) (h2.exc _)) h.size)
 · simp[execOp,hop,hm,h1,Result.andThen]
 rcases e with e|e
 · exact .inl e
 exact .inr (by omega)
theorem Za9 {r:Nat} {done:List (Value × Value)} {it:Operand} (hg:o.guard=none) (hop:o.op=.next it false) (hi:a.eval it=.pointer (some ⟨r,0,none⟩)) (h:At L0 w0 L w) (s:Sel (Part.iter P k r b es done) L F)
 (hEnd:es.Perm done→wpList P ops Q rest (a.put o.dst (.tuple #[.bool false])) w)
 (hK:∀p w',p ∈ es→(∀q ∈ done,q.1≠p.1)→At L0 w0 (Part.iter P k r b es (done++[p])::F) w'→wpList P ops Q rest (a.put o.dst (.tuple #[.bool true,p.1,p.2])) w'):wpList P ops Q (o::rest) a w:=by
 have hI:ZaU P k w r b es done:=h.get s;rcases hI.next o.type with⟨h1,h2⟩|⟨p,w',h1,h2,h3,h4,h5⟩
 · refine Zah hg ?_ (hEnd h1);simp[execOp,hop,hi,h2,Result.andThen]
 refine Zah hg ?_ (hK p w' h1 h2 (h.turn s (Part.iter P k r b es (done++[p])) h4 (fun q e=>.inl e) (h5.mono (fun _ _ e=>.inr e))));simp[execOp,hop,hi,h3,Result.andThen]
theorem At.ranged {r:Nat} {done:List (Value × Value)} (h:At L0 w0 L w) (s:Sel (Part.iter P k r b es done) L F):At L0 w0 (Part.map P k b es::F) w:=by
 have hI:ZaU P k w r b es done:=h.get s;exact h.turn s (Part.map P k b es) hI.1 (fun _ e=>.inl (.inl e)) (Exc.refl _ _)
end
end
end
end Go.Proofs.YtbeckijoabapkaaGreatDoor
