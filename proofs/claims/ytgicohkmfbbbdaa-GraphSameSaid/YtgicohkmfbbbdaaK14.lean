/- GraT, joined. -/
import Derived.Test.YtgicohkmfbbbdaaK13
section
namespace Go
open _root_.Go.Proofs.Ytgicohkmfbbbdaa
open Go.RowKit
section
variable {P : Program} {ops : Array Oper} {Q : Exit → Act → World → Prop} {L0 L F : List Part} {w0 w : World}
/-- a cell loaded -/
theorem opLoad1_at {i : Nat} {d : Option Tmp} {o : Oper} {a : Act} {K : Act → World → Prop} (ho : ops[i]? = some o) (hd : o.dst = d) (hw : Region.wanted o (yielded ops a.tmps) = true) {ty : TypeId} {x : Operand} (hop : o.op = .load ty x) {b j : Nat} (hx : a.eval x = .pointer (some ⟨b, j, none⟩)) {c : List Value} {T : TypeId} (h : At L0 w0 L w) (s : Sel (Part.cells b c T) L F)
    (hu : (P.underlying ty).map (·.isRow) = some false) {v : Value} (hv : c[j]? = some v) (hK : K (a.put d v) w) : wpOp P ops Q i K a w := by
  subst hd
  have hr := run_load_one (P := P) (o := o) (a := a) hop hx (h.get s) hu hv
  exact wpOp_val ho hw (v := v) (w' := w) hr hK
end
end Go
namespace Go.Proofs.Ytgicohkmfbbbdaa.Gr
open Go.RowKit
open Tar (TS up up_same up_other)
set_option linter.unusedSimpArgs false
set_option linter.unusedVariables false

/-- the nodes, as they are now -/
def ndL (N : List Nd) (s : TS) : List Nd := N.mapIdx fun i d => ⟨d.id, d.na, d.nc, d.nx, s.low i, s.num i, s.on i, s.knot i⟩
theorem ndL_len (N : List Nd) (s : TS) : (ndL N s).length = N.length := List.length_mapIdx
theorem ndL_get {N : List Nd} {i : Nat} {d : Nd} (h : N[i]? = some d) (s : TS) : (ndL N s)[i]? = some ⟨d.id, d.na, d.nc, d.nx, s.low i, s.num i, s.on i, s.knot i⟩ := by
  unfold ndL
  rw [List.getElem?_mapIdx, h]
  rfl
theorem ndL_set {N : List Nd} {i : Nat} {d : Nd} (h : N[i]? = some d) {s s' : TS} (hs : ∀ j, j ≠ i → s'.low j = s.low j ∧ s'.num j = s.num j ∧ s'.on j = s.on j ∧ s'.knot j = s.knot j) :
    (ndL N s).set i ⟨d.id, d.na, d.nc, d.nx, s'.low i, s'.num i, s'.on i, s'.knot i⟩ = ndL N s' := by
  apply List.ext_getElem?
  intro j
  by_cases hj : j = i
  · subst hj
    have hl := (List.getElem?_eq_some_iff.1 h).1
    rw [List.getElem?_set_self (by rw [ndL_len]; exact hl), ndL_get h]
  · rw [List.getElem?_set_ne (fun e => hj e.symm)]
    unfold ndL
    rw [List.getElem?_mapIdx, List.getElem?_mapIdx]
    obtain ⟨h1, h2, h3, h4⟩ := hs j hj
    rw [h1, h2, h3, h4]
theorem restX_nd (N : List Nd) (s : TS) : restX (ndL N s) = restX N := by
  refine restX_congr ?_
  apply List.ext_getElem?
  intro j
  unfold ndL
  rw [List.getElem?_map, List.getElem?_map, List.getElem?_mapIdx]
  cases N[j]? <;> rfl
theorem ndL_start {N : List Nd} (h : ∀ d ∈ N, d.low = 0 ∧ d.num = 0 ∧ d.on = false ∧ d.knot = 0) : ndL N TS.start = N := by
  apply List.ext_getElem?
  intro j
  unfold ndL
  rw [List.getElem?_mapIdx]
  cases hq : N[j]? with
  | none => rfl
  | some d =>
    obtain ⟨h1, h2, h3, h4⟩ := h d (List.mem_of_getElem? hq)
    obtain ⟨id, na, nc, nx, low, num, on, knot⟩ := d
    simp only at h1 h2 h3 h4
    subst h1 h2 h3 h4
    rfl
/-- what a node leads to -/
def nxF (N : List Nd) (i : Nat) : List Nat := match N[i]? with
  | some d => d.nx
  | none => []
theorem nxF_get {N : List Nd} {i : Nat} {d : Nd} (h : N[i]? = some d) : nxF N i = d.nx := by unfold nxF; rw [h]
def frL (p : Nat × Nat) : List Value := [.int .i64 p.1, .int .i64 p.2]
theorem frL_len (p : Nat × Nat) : (frL p).length = 2 := rfl
theorem frL_one (p : Nat × Nat) : ∀ u ∈ frL p, u.oneCell' = true := by
  intro u hu
  simp only [frL, List.mem_cons, List.not_mem_nil, or_false] at hu
  rcases hu with rfl | rfl <;> rfl
def flatF (l : List (Nat × Nat)) : List Value := l.flatMap frL
theorem flatF_len (l : List (Nat × Nat)) : (flatF l).length = l.length * 2 := flat_len _ _ frL_len _
abbrev rowF (v : Value) (l : List (Nat × Nat)) : Part := Part.row 131 2 v l.length (flatF l)
theorem rowF_snoc (v : Value) (l : List (Nat × Nat)) (x : Nat × Nat) : Part.row 131 2 v (l.length + 1) (flatF l ++ frL x) = rowF v (l ++ [x]) := by
  unfold rowF
  rw [List.length_append]
  simp [flatF]
theorem infoF : (Try.prog.info? 131).map (fun i => (i.zero, i.size, i.bytes)) = some (some (.agg #[.int .i64 0, .int .i64 0]), 2, 16) := by kernel_rfl
def wkV (p : Nat × Nat) : Nat × Nat := p
abbrev kHead (kp : Nat) (ax : Option Addr) (cap : Nat) (sv wv : Value) (N : List Nd) (s : TS) : Part := Part.cells kp [.slice ax N.length cap, sv, wv, .int .i64 s.count, .int .i64 s.found] 93
abbrev kRow (ax : Option Addr) (cap : Nat) (N : List Nd) (s : TS) : Part := Part.row 100 7 (.slice ax N.length cap) N.length (flatN (ndL N s))
abbrev kL (kp : Nat) (ax : Option Addr) (cap : Nat) (sv wv : Value) (N : List Nd) (s : TS) : List Part :=
  [kHead kp ax cap sv wv N s, kRow ax cap N s, restX N, rowX sv s.stk.reverse, rowF wv s.wk.reverse]
def KnP (kp : Nat) (ax : Option Addr) (cap : Nat) (sv wv : Value) (N : List Nd) (s : TS) : Part := Part.all (kL kp ax cap sv wv N s)
theorem kn_eqv (kp : Nat) (ax : Option Addr) (cap : Nat) (sv wv : Value) (N : List Nd) (s : TS) (F : List Part) : Eqv (KnP kp ax cap sv wv N s :: F) (kL kp ax cap sv wv N s ++ F) := Eqv.all _ F
theorem kn_begin {w : World} {kp : Nat} {ax : Option Addr} {cap : Nat} {sv wv : Value} {N : List Nd} {s : TS} (h : Sep [KnP kp ax cap sv wv N s] w) : At [KnP kp ax cap sv wv N s] w (kL kp ax cap sv wv N s) w := (At.start h).to (kn_eqv kp ax cap sv wv N s [])
theorem kn_end {L0 : List Part} {w0 w : World} {kp : Nat} {ax : Option Addr} {cap : Nat} {sv wv : Value} {N : List Nd} {s : TS} (h : At L0 w0 (kL kp ax cap sv wv N s) w) : At L0 w0 [KnP kp ax cap sv wv N s] w := h.to (kn_eqv kp ax cap sv wv N s []).symm
def KnPost (kp : Nat) (ax : Option Addr) (cap : Nat) (sv wv : Value) (N : List Nd) (s s' : TS) (w : World) (e : Ending) (w' : World) : Prop :=
  ∃ sv' wv', e = .returned (.tuple #[]) ∧ At [KnP kp ax cap sv wv N s] w [KnP kp ax cap sv' wv' N s'] w'
/-- bounds -/
structure Sm (N : List Nd) (s : TS) : Prop where
  n : N.length ≤ 1000
  c : s.count ≤ 100000
  f : s.found ≤ 100000
  st : s.stk.length ≤ 100000
  wk : s.wk.length ≤ 100000
end Go.Proofs.Ytgicohkmfbbbdaa.Gr
end
