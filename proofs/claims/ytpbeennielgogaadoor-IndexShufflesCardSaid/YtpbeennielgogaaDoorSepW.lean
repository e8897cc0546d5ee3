/- The walk's rules over parts: a store, a new variable, a box, behind which the world is a letter. No program in sight. -/
import Derived.Test.YtpbeennielgogaaDoorSep
import Derived.Test.YtpbeennielgogaaDoorReg
import Derived.Deep.MidRow
import Derived.KernelRfl
import Derived.Maps.RangeWalk
namespace Go.Proofs.YtpbeennielgogaaDoor
open Go.RowKit
set_option linter.unusedVariables false
set_option linter.unusedSimpArgs false

section
variable {P : Program} {ops : Array Oper} {rest : List Oper} {o : Oper} {a : Act} {Q : Exit → Act → World → Prop} {L0 L F : List Part} {w0 w : World}

theorem wpList_val (hg : o.guard = none) {v : Value} {w' : World} (hrun : (execOp a.eval o).run P w = .ok (.value v) w') (hK : wpList P ops Q rest (a.put o.dst v) w') : wpList P ops Q (o :: rest) a w :=
  wpList_plain hg fun _ hK' => by unfold Oper.wp; rw [hrun]; exact hK' _ _ hK
theorem wpList_unit (hg : o.guard = none) {w' : World} (hrun : (execOp a.eval o).run P w = .ok .skip w') (hK : wpList P ops Q rest (a.put o.dst undef) w') : wpList P ops Q (o :: rest) a w :=
  wpList_plain hg fun _ hK' => by unfold Oper.wp; rw [hrun]; exact hK' _ _ hK

theorem run_storeAt_cells (w : World) (b j : Nat) (ty : TypeId) (v : Value) (ht : w.there b j v.cells.size) (hi : (P.info? ty).map (·.size) = some v.cells.size) (h1 : v.cells.all (·.oneCell') = true) :
    (Instr.storeAt ty (.pointer (some ⟨b, j, none⟩)) v).run P w = .ok () (w.setCells b j v.cells.toList) := by
  have := run_storeCells_cells (P := P) b j v.cells.toList 0 w (fun k hk => by simpa using (ht k (by simpa using hk)).1) (fun k hk => by simpa using (ht k (by simpa using hk)).2)
    (fun u hu => (Array.all_eq_true_iff_forall_mem.1 h1) u (by simpa using hu))
  cases hq : P.info? ty with
  | none => simp [hq] at hi
  | some i =>
    have hs : v.cells.size = i.size := by simp [hq] at hi; omega
    simp only [Nat.add_zero] at this
    simp [Instr.storeAt, Instr.sureAddr, storeVar, sizeOf, typeInfo, hq, hs, this]

theorem BlockIs.there {b : Nat} {c : List Value} {T : TypeId} (h : BlockIs w b c T) (j n : Nat) (hj : j + n ≤ c.length) : w.there b j n := fun k hk =>
  ⟨by rw [h.cell, List.getElem?_eq_getElem (by omega)]; rfl, h.free _⟩

/-- a store -/
theorem wpList_store_at {ty : TypeId} {x y : Operand} (hg : o.guard = none) (hop : o.op = .store ty x y) {b j : Nat} (hx : a.eval x = .pointer (some ⟨b, j, none⟩)) {v : Value} (hy : a.eval y = v) {vs : List Value} (hv : v.cells = vs.toArray)
    (h : At L0 w0 L w) {c : List Value} {T : TypeId} (s : Sel (Part.cells b c T) L F) (hi : (P.info? ty).map (·.size) = some vs.length) (h1 : vs.all (·.oneCell') = true) (hj : j + vs.length ≤ c.length)
    (hK : ∀ w', At L0 w0 (Part.cells b (setL c j vs) T :: F) w' → wpList P ops Q rest (a.put o.dst undef) w') : wpList P ops Q (o :: rest) a w := by
  have hb : BlockIs w b c T := h.get s
  have hs : v.cells.size = vs.length := by rw [hv]; simp
  have h1' : v.cells.all (·.oneCell') = true := by
    rw [hv, Array.all_eq_true_iff_forall_mem]
    intro u hu
    exact List.all_eq_true.1 h1 u (by simpa using hu)
  have hrun := run_storeAt_cells (P := P) w b j ty v (hb.there j _ (by omega)) (by rw [hs]; exact hi) h1'
  rw [show v.cells.toList = vs from by rw [hv]] at hrun
  refine wpList_unit hg ?_ (hK _ (h.stores s j vs))
  simp [execOp, hop, hx, hy, hrun, Result.andThen]

/-- a box -/
theorem wpList_box_at {E : TypeId} {x : Operand} (hg : o.guard = none) (hop : o.op = .box E x) {v : Value} (hx : a.eval x = v) {vs : List Value} (hv : v.cells = vs.toArray) (h : At L0 w0 L w)
    (hK : ∀ b w', At L0 w0 (Part.cells b vs E :: L) w' → w0.heap.size ≤ b → wpList P ops Q rest (a.put o.dst (.pointer (some ⟨b, 0, none⟩))) w') : wpList P ops Q (o :: rest) a w := by
  refine wpList_val hg ?_ (hK _ _ (h.alloc vs E) h.size)
  simp [execOp, hop, hx, Instr.box, newVar, newRow, hv, Result.andThen]

/-- a new variable -/
theorem wpList_alloc_at {E : TypeId} (hg : o.guard = none) (hop : o.op = .alloc E) {z : Value} (hz : (P.info? E).map (·.zero) = some (some z)) {vs : List Value} (hv : z.cells = vs.toArray) (h : At L0 w0 L w)
    (hK : ∀ b w', At L0 w0 (Part.cells b vs E :: L) w' → w0.heap.size ≤ b → wpList P ops Q rest (a.put o.dst (.pointer (some ⟨b, 0, none⟩))) w') : wpList P ops Q (o :: rest) a w := by
  refine wpList_val hg ?_ (hK _ _ (h.alloc vs E) h.size)
  cases hq : P.info? E with
  | none => simp [hq] at hz
  | some i =>
    have hi : i.zero = some z := by simpa [hq] using hz
    simp [execOp, hop, Instr.alloc, zeroValue, typeInfo, hq, hi, newVar, newRow, hv, Result.andThen]

/-! ### Quiet in the class of the worlds in which the same parts stand -/
/-- the class -/
def Cl (L0 : List Part) (w0 : World) (L : List Part) (w : World) : Prop := At L0 w0 L w
theorem Cl.drew (h : At L0 w0 L w) : Cl L0 w0 L w.drew := At.drew h
theorem Cl.none (h : At L0 w0 L w) (p : Prop) : (∀ w', Cl L0 w0 L w' → p) = p := propext ⟨fun q => q w h, fun q _ _ => q⟩
theorem Cl.none2 (h : At L0 w0 L w) (p : Prop) : (∀ w', Cl L0 w0 L w' → w' = w' ∧ p) = p := propext ⟨fun q => (q w h).2, fun q _ _ => ⟨rfl, q⟩⟩
theorem quiet_at {K : Act → Prop} (v : Value) (hrun : ∀ w', At L0 w0 L w' → (execOp a.eval o).run P w' = .ok (.value v) w') (hk : K (a.put o.dst v)) : o.quiet P a (Cl L0 w0 L) K :=
  ⟨v, fun w hw => by unfold Oper.quietAt; rw [hrun w hw]; exact ⟨rfl, rfl⟩, hk⟩
theorem run_load_one {ty : TypeId} {x : Operand} (hop : o.op = .load ty x) {b j : Nat} (hx : a.eval x = .pointer (some ⟨b, j, none⟩)) {c : List Value} {T : TypeId} (hb : BlockIs w b c T) (hu : (P.underlying ty).map (·.isRow) = some false) {v : Value} (hv : c[j]? = some v) :
    (execOp a.eval o).run P w = .ok (.value v) w := by
  obtain ⟨d, hu, hd⟩ := Option.map_eq_some_iff.1 hu
  have hagg : (isAgg ty).run P w = .ok false w := by
    unfold isAgg
    rw [Sem.run_bind, run_underlying hu w]
    cases d <;> simp_all
  have hc : w.cell? ⟨b, j, none⟩ = some v := by rw [hb.cell, hv]
  simp [execOp, hop, hx, Instr.loadAt, Instr.sureAddr, loadVar, Sem.run_bind, hagg, Result.andThen, run_load, hc]
theorem run_load_row {ty : TypeId} {x : Operand} (hop : o.op = .load ty x) {b j : Nat} (hx : a.eval x = .pointer (some ⟨b, j, none⟩)) {c : List Value} {T : TypeId} (hb : BlockIs w b c T) (hu : (P.underlying ty).map (·.isRow) = some true) {n : Nat} (hi : (P.info? ty).map (·.size) = some n) {vs : List Value} (hv : (c.drop j).take n = vs) (hl : vs.length = n) : (execOp a.eval o).run P w = .ok (.value (.agg vs.toArray)) w := by
  obtain ⟨d, hu, hd⟩ := Option.map_eq_some_iff.1 hu
  subst hl
  have hr : w.rangeAt b j vs := fun k v hk => by
    have hlt := (List.getElem?_eq_some_iff.1 hk).1
    rw [← hv, List.getElem?_take, if_pos hlt, List.getElem?_drop] at hk
    rw [hb.cell, hk]
  simp [execOp, hop, hx, run_loadAt_mid w b j ty vs d hr hu hd hi, Result.andThen]
theorem quiet_load_at {K : Act → Prop} {ty : TypeId} {x : Operand} (hop : o.op = .load ty x) {b j : Nat} (hx : a.eval x = .pointer (some ⟨b, j, none⟩)) {c : List Value} {T : TypeId} (s : Sel (Part.cells b c T) L F) (hu : (P.underlying ty).map (·.isRow) = some false) {v : Value} (hv : c[j]? = some v)
    (hk : K (a.put o.dst v)) : o.quiet P a (Cl L0 w0 L) K := quiet_at v (fun _ hw => run_load_one hop hx (hw.get s) hu hv) hk
theorem quiet_loads_at {K : Act → Prop} {ty : TypeId} {x : Operand} (hop : o.op = .load ty x) {b j : Nat} (hx : a.eval x = .pointer (some ⟨b, j, none⟩)) {c : List Value} {T : TypeId} (s : Sel (Part.cells b c T) L F) (hu : (P.underlying ty).map (·.isRow) = some true) {n : Nat} (hi : (P.info? ty).map (·.size) = some n) {vs : List Value} (hv : (c.drop j).take n = vs) (hl : vs.length = n) (hk : K (a.put o.dst (.agg vs.toArray))) : o.quiet P a (Cl L0 w0 L) K := quiet_at _ (fun _ hw => run_load_row hop hx (hw.get s) hu hi hv hl) hk
/-- the worlds of the class, once the region is left -/
theorem Cl.out (h : Cl L0 w0 L w) : At L0 w0 L w := h
/-! ### The same rules in few words -/
theorem wS {ty : TypeId} {x y : Operand} {b j : Nat} {v : Value} {vs c : List Value} {T : TypeId} (h : At L0 w0 L w)
    (hK : ∀ w', At L0 w0 (Part.cells b (setL c j vs) T :: F) w' → wpList P ops Q rest (a.put o.dst undef) w')
    (hg : o.guard = none := by exact rfl) (hop : o.op = .store ty x y := by exact rfl) (hx : a.eval x = .pointer (some ⟨b, j, none⟩) := by exact rfl) (hy : a.eval y = v := by (try simp only [Act.eval, Go.Proofs.YtpbeennielgogaaDoor.eV]) <;> exact rfl)
    (hv : v.cells = vs.toArray := by exact rfl) (s : Sel (Part.cells b c T) L F := by with_reducible repeat (first | exact Go.Proofs.YtpbeennielgogaaDoor.Sel.here | apply Go.Proofs.YtpbeennielgogaaDoor.Sel.there)) (hi : (P.info? ty).map (·.size) = some vs.length := by kernel_rfl)
    (h1 : vs.all (·.oneCell') = true := by exact rfl) (hj : j + vs.length ≤ c.length := by first | decide | (simp; done) | omega) : wpList P ops Q (o :: rest) a w :=
  wpList_store_at hg hop hx hy hv h s hi h1 hj hK
theorem wB {E : TypeId} {x : Operand} {v : Value} {vs : List Value} (h : At L0 w0 L w)
    (hK : ∀ b w', At L0 w0 (Part.cells b vs E :: L) w' → w0.heap.size ≤ b → wpList P ops Q rest (a.put o.dst (.pointer (some ⟨b, 0, none⟩))) w')
    (hg : o.guard = none := by exact rfl) (hop : o.op = .box E x := by exact rfl) (hx : a.eval x = v := by (try simp only [Act.eval, Go.Proofs.YtpbeennielgogaaDoor.eV]) <;> exact rfl) (hv : v.cells = vs.toArray := by exact rfl) : wpList P ops Q (o :: rest) a w :=
  wpList_box_at hg hop hx hv h hK
theorem wX (E : TypeId) (v : Value) (vs : List Value) {x : Operand} (h : At L0 w0 L w)
    (hK : ∀ b w', At L0 w0 (Part.cells b vs E :: L) w' → w0.heap.size ≤ b → wpList P ops Q rest (a.put o.dst (.pointer (some ⟨b, 0, none⟩))) w')
    (hg : o.guard = none := by exact rfl) (hop : o.op = .box E x := by exact rfl) (hx : a.eval x = v := by first | (simp [Act.eval, Act.put]; done) | exact rfl) (hv : v.cells = vs.toArray := by first | exact rfl | kernel_rfl) : wpList P ops Q (o :: rest) a w :=
  wpList_box_at hg hop hx hv h hK
theorem wA (E : TypeId) (z : Value) (vs : List Value) (h : At L0 w0 L w)
    (hK : ∀ b w', At L0 w0 (Part.cells b vs E :: L) w' → w0.heap.size ≤ b → wpList P ops Q rest (a.put o.dst (.pointer (some ⟨b, 0, none⟩))) w')
    (hg : o.guard = none := by exact rfl) (hop : o.op = .alloc E := by exact rfl) (hz : (P.info? E).map (·.zero) = some (some z) := by kernel_rfl) (hv : z.cells = vs.toArray := by exact rfl) : wpList P ops Q (o :: rest) a w :=
  wpList_alloc_at hg hop hz hv h hK
theorem gst {d t p af g x y z} (h : wpList P ops Q ({ dst := d, op := .store x y z, type := t, pos := p, after := af, guard := g } :: rest) a w) : wpList P ops Q ({ dst := d, op := .store x y z, type := t, pos := p, after := af, guard := g } :: rest) a w := h
theorem gbx {d t p af g x y} (h : wpList P ops Q ({ dst := d, op := .box x y, type := t, pos := p, after := af, guard := g } :: rest) a w) : wpList P ops Q ({ dst := d, op := .box x y, type := t, pos := p, after := af, guard := g } :: rest) a w := h
theorem gal {d t p af g x} (h : wpList P ops Q ({ dst := d, op := .alloc x, type := t, pos := p, after := af, guard := g } :: rest) a w) : wpList P ops Q ({ dst := d, op := .alloc x, type := t, pos := p, after := af, guard := g } :: rest) a w := h
end
end Go.Proofs.YtpbeennielgogaaDoor
