/- GraS, GraB, GraN, joined. -/
import Derived.Test.YtgicohkmfbbbdaaK2
import Derived.Test.YtgicohkmfbbbdaaK8
import Derived.Test.YtgicohkmfbbbdaaK5
import Derived.Deep.LoopGhost
section
namespace Go.Proofs.Ytgicohkmfbbbdaa.Gr
open _root_.Go.Proofs.Ytgicohkmfbbbdaa.Mark (holdsK_of own_sorted grownBy_sortedK cmpID swoID totID cmpLays sortID sort_len sort_perm ltID cmpID_lt)
open Go.RowKit Go.Shelf Go.Sort
set_option linter.unusedSimpArgs false
set_option linter.unusedVariables false

theorem idL_mark (x : I2) : Mark.idL x = idL x := rfl
theorem flat_mark (l : List I2) : l.flatMap Mark.idL = flatI l := rfl
set_option maxRecDepth 100000 in
theorem sort_row {w : World} {v : Value} {l : List I2} (h : Sep [rowI2 v l] w) (hmax : l.length ≤ 100000000) :
    Calls Try.prog 41 #[v, .func (.func 26) #[] #[]] w fun e w' => e = .returned (.tuple #[]) ∧ At [rowI2 v l] w [rowI2 v (sortID l)] w' := by
  have hA := At.start h
  have hrow : w.ownsRow 0 38 2 v l.length (l.flatMap Mark.idL) := hA.get (A := rowI2 v l) .here
  rcases hrow.2 with ⟨hv, hz⟩ | ⟨gb, cap, cur, hv, hbase, hgb, r1, r2, r3, r4⟩
  · have hss : l = [] := List.eq_nil_of_length_eq_zero hz
    subst hss
    subst hv
    exact (AnyF.slices_SortFunc_none Try.sort41 none 0 _ w).mono fun e w' ⟨h1, h2⟩ => ⟨h1, by subst h2; simpa [sortID] using hA⟩
  · subst hv
    have hH : HoldsK Mark.idL 2 w gb 0 l.toArray := holdsK_of Mark.idL 2 Mark.idL_len hgb r4
    have hgl : gb < w.heap.size := (Array.getElem?_eq_some_iff.1 hgb).1
    have hsz : l.toArray.size < 4611686018427387904 := by simp; omega
    refine (AnyQ.slices_SortFunc_total Try.sort41 2 Try.isAgg38 Try.sizeOf38 Mark.idL Mark.idL_len Mark.idL_one cmpID swoID 26 #[] gb 0 cap l.toArray w (enters_of Try.func26 (by kernel_rfl) rfl) (cmpLays _ _ _ _) hH hgl hsz totID).mono ?_
    rintro e w' ⟨rfl, nn, os, hw⟩
    refine ⟨rfl, ?_⟩
    have hw2 : w' = sortWorldK Mark.idL 2 w gb 0 nn (sortID l).toArray os := hw
    subst hw2
    have ho := own_sorted Mark.idL 2 Mark.idL_len (os := os) (n := nn) (sort_len l) hbase hgb r1 r2 r3
    refine hA.turn .here (rowI2 (.slice (some ⟨gb, 0, none⟩) l.length cap) (sortID l)) ?_ (fun b hb => .inl hb) (exc_grown (grownBy_sortedK _))
    show World.ownsRow _ 0 _ 2 _ (sortID l).length _
    rw [sort_len]
    exact ho
theorem sort_pair (l : List I2) : (sortID l).Pairwise (fun a b => ¬ ltID b a) := by
  have tr : ∀ a b c : I2, (!ltOf cmpID b a) = true → (!ltOf cmpID c b) = true → (!ltOf cmpID c a) = true := by
    intro a b c h1 h2
    rw [cmpID_lt] at *
    simp only [Bool.not_eq_true', decide_eq_false_iff_not] at *
    unfold ltID at *
    omega
  have tot : ∀ a b : I2, ((!ltOf cmpID b a) || !ltOf cmpID a b) = true := by
    intro a b
    rw [cmpID_lt, cmpID_lt]
    simp only [Bool.or_eq_true, Bool.not_eq_true', decide_eq_false_iff_not]
    unfold ltID
    omega
  refine (List.pairwise_mergeSort tr tot l).imp fun {a b} h => ?_
  rw [cmpID_lt] at h
  simpa using h
theorem sort_mem {l : List I2} {x : I2} : x ∈ sortID l ↔ x ∈ l := (List.mergeSort_perm l _).mem_iff
theorem lt_tri (a b : I2) : ltID a b ∨ a = b ∨ ltID b a := by
  obtain ⟨p, q⟩ := a
  obtain ⟨r, s⟩ := b
  unfold ltID
  simp only [Prod.mk.injEq]
  omega
theorem lt_irr {a : I2} : ¬ ltID a a := by unfold ltID; omega
theorem lt_tr {a b c : I2} (h : ltID a b) (k : ltID b c) : ltID a c := by unfold ltID at *; omega
theorem sort_strict {l : List I2} (h : l.Nodup) : (sortID l).Pairwise ltID := by
  have h1 := sort_pair l
  have h2 : (sortID l).Nodup := (List.mergeSort_perm l _).nodup_iff.2 h
  refine (h1.and h2).imp fun {a b} ⟨p, q⟩ => ?_
  rcases lt_tri a b with r | r | r
  · exact r
  · exact absurd r q
  · exact absurd r p
/-- strictly rising, and the same in it: the same -/
theorem strict_eq {l m : List I2} (hl : l.Pairwise ltID) (hm : m.Pairwise ltID) (h : ∀ x, x ∈ l ↔ x ∈ m) : l = m := by
  have nd : ∀ {k : List I2}, k.Pairwise ltID → k.Nodup := fun {k} hk => List.Pairwise.imp (S := fun a b => a ≠ b) (fun {a b} q e => by subst e; exact lt_irr q) hk
  refine List.Perm.eq_of_pairwise (le := ltID) (fun a b _ _ p q => absurd (lt_tr p q) lt_irr) hl hm ((List.perm_ext_iff_of_nodup (nd hl) (nd hm)).2 h)
/-- nothing twice, and all of it there: no longer -/
theorem nodup_le {α : Type} [DecidableEq α] : ∀ {l m : List α}, l.Nodup → (∀ x ∈ l, x ∈ m) → l.length ≤ m.length
  | [], _, _, _ => Nat.zero_le _
  | x :: l, m, h, hs => by
    have h1 := List.nodup_cons.1 h
    have hx : x ∈ m := hs x (by simp)
    have := nodup_le (m := m.erase x) h1.2 fun y hy => (List.mem_erase_of_ne (fun e => h1.1 (by rw [← e]; exact hy))).2 (hs y (by simp [hy]))
    have h2 := List.length_erase_of_mem hx
    have h3 := List.length_pos_of_mem hx
    simp only [List.length_cons]
    omega
end Go.Proofs.Ytgicohkmfbbbdaa.Gr
end

section
namespace Go.Proofs.Ytgicohkmfbbbdaa.Gr
open _root_.Go.Proofs.Ytgicohkmfbbbdaa.Mark (ltID)
open Go.RowKit
open Attr (A8 rightI)
set_option linter.unusedSimpArgs false
set_option linter.unusedVariables false

/-- the deps may be -/
def Deps (es : List (I2 × A8)) : Prop := ∀ x a, getA es x = some a → ∀ q, q < 7 → 0 ≤ a.dep q ∧ a.dep q ≤ 1024
inductive RI (es : List (I2 × A8)) (f : F7) (a : I2) : I2 → Prop
  | refl : RI es f a a
  | step {x y : I2} (t : RI es f a x) (h : y ∈ leadsG es f x) : RI es f a y
theorem leads_mem {f : F7} {a : A8} {y : I2} (h : y ∈ leads f a) : ∃ q : Nat, q < 7 ∧ f.at q < a.dep q ∧ y = ((q : Int), a.dep q - 1) := by
  unfold leads leadsU at h
  obtain ⟨q, hq, rfl⟩ := List.mem_map.1 h
  have := List.mem_filter.1 hq
  exact ⟨q, List.mem_range.1 this.1, of_decide_eq_true this.2, rfl⟩
theorem leadsG_mem {es : List (I2 × A8)} {f : F7} {x y : I2} (h : y ∈ leadsG es f x) : ∃ a, getA es x = some a ∧ y ∈ leads f a := by
  unfold leadsG at h
  split at h
  · rename_i a ha
    exact ⟨a, ha, h⟩
  · cases h
theorem leadsG_ok {es : List (I2 × A8)} (hd : Deps es) {f : F7} {x y : I2} (h : y ∈ leadsG es f x) : okD y := by
  obtain ⟨a, ha, hy⟩ := leadsG_mem h
  obtain ⟨q, hq, _, rfl⟩ := leads_mem hy
  have := hd x a ha q hq
  unfold okD okI
  simp only
  omega
theorem RI.ok {es : List (I2 × A8)} (hd : Deps es) {f : F7} {a x : I2} (h : RI es f a x) (ha : okD a) : okD x := by
  cases h with
  | refl => exact ha
  | step _ h => exact leadsG_ok hd h
theorem sum7 (f : F7) : ∀ es : List (I2 × A8), (es.flatMap fun e => leads f e.2).length ≤ 7 * es.length
  | [] => by simp
  | e :: es => by
    have := sum7 f es
    have h2 := leads_len f e.2
    rw [List.flatMap_cons, List.length_append, List.length_cons]
    omega
theorem reach_len {es : List (I2 × A8)} {f : F7} {a : I2} {l : List I2} (hn : l.Nodup) (hr : ∀ x ∈ l, RI es f a x) : l.length ≤ 1 + 7 * es.length := by
  have h1 : l.length ≤ (a :: es.flatMap fun e => leads f e.2).length := nodup_le hn fun x hx => by
    cases hr x hx with
    | refl => simp
    | step _ h =>
      obtain ⟨b, hb, hy⟩ := leadsG_mem h
      refine List.mem_cons_of_mem _ (List.mem_flatMap.2 ⟨_, getA_mem hb, hy⟩)
  have := sum7 f es
  rw [List.length_cons] at h1
  omega
/-- a list of what is to be gone through, up to place i -/
structure Bfs (es : List (I2 × A8)) (f : F7) (a : I2) (todo : List I2) (i : Nat) : Prop where
  nd : todo.Nodup
  head : a ∈ todo
  reach : ∀ x ∈ todo, RI es f a x
  cl : ∀ j, j < i → ∀ x, todo[j]? = some x → ∀ y ∈ leadsG es f x, y ∈ todo
theorem bfs_start (es : List (I2 × A8)) (f : F7) (a : I2) : Bfs es f a [a] 0 := ⟨by simp, by simp, fun x hx => by rw [List.mem_singleton.1 hx]; exact .refl, nofun⟩
theorem bfs_new {es : List (I2 × A8)} {f : F7} {a : I2} {todo : List I2} {i : Nat} (h : Bfs es f a todo i) (hi : i ≤ todo.length) {x y : I2} (hx : x ∈ todo) (hy : y ∈ leadsG es f x) (hn : y ∉ todo) : Bfs es f a (todo ++ [y]) i := by
  refine ⟨?_, by simp [h.head], fun z hz => ?_, fun j hj z hz w hw => ?_⟩
  · rw [List.nodup_append]
    refine ⟨h.nd, by simp, fun p hp q hq => ?_⟩
    rw [List.mem_singleton.1 hq]
    intro e
    exact hn (e ▸ hp)
  · rcases List.mem_append.1 hz with q | q
    · exact h.reach z q
    · rw [List.mem_singleton.1 q]
      exact .step (h.reach x hx) hy
  · rw [List.getElem?_append_left (by omega)] at hz
    exact List.mem_append_left _ (h.cl j hj z hz w hw)
theorem bfs_next {es : List (I2 × A8)} {f : F7} {a : I2} {todo : List I2} {i : Nat} (h : Bfs es f a todo i) {x : I2} (hx : todo[i]? = some x) (hall : ∀ y ∈ leadsG es f x, y ∈ todo) : Bfs es f a todo (i + 1) :=
  ⟨h.nd, h.head, h.reach, fun j hj z hz w hw => by
    by_cases e : j = i
    · subst e
      rw [hx] at hz
      cases hz
      exact hall w hw
    · exact h.cl j (by omega) z hz w hw⟩
theorem bfs_all {es : List (I2 × A8)} {f : F7} {a : I2} {todo : List I2} {i : Nat} (h : Bfs es f a todo i) (hi : todo.length ≤ i) (x : I2) : x ∈ todo ↔ RI es f a x := by
  refine ⟨h.reach x, fun r => ?_⟩
  induction r with
  | refl => exact h.head
  | step _ hy ih =>
    obtain ⟨j, hj, e⟩ := List.mem_iff_getElem.1 ih
    exact h.cl j (by omega) _ (by rw [List.getElem?_eq_getElem hj, e]) _ hy
/-- what an instance needs; none: it isn't ready -/
def NeedsIs (es : List (I2 × A8)) (f : F7) (a : I2) : Option (List I2) → Prop
  | some l => behind f a = false ∧ l.Pairwise ltID ∧ (∀ x, x ∈ l ↔ RI es f a x) ∧ ∀ x ∈ l, (getA es x).isSome = true
  | none => behind f a = true ∨ ∃ x, RI es f a x ∧ getA es x = none
theorem needs_one {es : List (I2 × A8)} {f : F7} {a : I2} {r s : Option (List I2)} (h : NeedsIs es f a r) (k : NeedsIs es f a s) : r = s := by
  cases r with
  | none =>
    cases s with
    | none => rfl
    | some m =>
      rcases h with q | ⟨x, hx, hg⟩
      · rw [k.1] at q; cases q
      · have := k.2.2.2 x ((k.2.2.1 x).2 hx)
        rw [hg] at this
        cases this
  | some l =>
    cases s with
    | none =>
      rcases k with q | ⟨x, hx, hg⟩
      · rw [h.1] at q; cases q
      · have := h.2.2.2 x ((h.2.2.1 x).2 hx)
        rw [hg] at this
        cases this
    | some m => rw [strict_eq h.2.1 k.2.1 fun x => by rw [h.2.2.1, k.2.2.1]]
/-- what is missing -/
def MissIs (es : List (I2 × A8)) (f : F7) (a : I2) (l : List I2) : Prop := l.Pairwise ltID ∧ ∀ x, x ∈ l ↔ RI es f a x ∧ getA es x = none
-- what was seen
def seenE (l : List I2) : List (Value × Value) := l.map fun x => (idV x, .int .i64 1)
theorem idV_inj {x y : I2} (h : idV x = idV y) : x = y := by
  obtain ⟨a, b⟩ := x
  obtain ⟨c, d⟩ := y
  simp [idV] at h
  simp [h]
theorem seen_no {l : List I2} {x : I2} (h : x ∉ l) : ∀ p ∈ seenE l, p.1 ≠ idV x := by
  intro p hp e
  obtain ⟨y, hy, rfl⟩ := List.mem_map.1 hp
  exact h (by rw [← idV_inj e]; exact hy)
theorem seen_yes {l : List I2} {x : I2} (h : x ∈ l) : (idV x, Value.int .i64 1) ∈ seenE l := List.mem_map.2 ⟨x, h, rfl⟩
theorem seen_snoc (l : List I2) (x : I2) : seenE l ++ [(idV x, .int .i64 1)] = seenE (l ++ [x]) := by simp [seenE]
/-- an element of a row that is read -/
theorem row_elem {w : World} {ax : Option Addr} {n cap i : Nat} {l : List I2} {x : I2} (h : Reads w (.slice ax n cap) n (flatI l)) (hx : l[i]? = some x) :
    ∃ b off, ax = some ⟨b, off, none⟩ ∧ ∀ (k : Nat) u, (idL x)[k]? = some u → w.cell? ⟨b, off + i * 2 + k, none⟩ = some u := by
  obtain ⟨ax', c, hv, _, hr⟩ := h
  cases hv
  have hat := flat_at idL 2 idL_len l i x hx
  obtain ⟨b, off, rfl, _⟩ := hr (i * 2 + 0) _ (by rw [show flatI l = l.flatMap idL from rfl, hat 0 (by omega)]; rfl)
  refine ⟨b, off, rfl, fun k u hk => ?_⟩
  have hk2 : k < 2 := by have := (List.getElem?_eq_some_iff.1 hk).1; rwa [idL_len] at this
  obtain ⟨b', off', he, hc⟩ := hr (i * 2 + k) u (by rw [show flatI l = l.flatMap idL from rfl, hat k hk2]; exact hk)
  cases he
  rw [Nat.add_assoc]
  exact hc
theorem elem2 {c : List Value} {l : List I2} {q : Nat} {x : I2} (hct : c.take (l.length * 2) = flatI l) (hx : l[q]? = some x) : (c.drop (q * 2)).take 2 = idL x := by
  apply List.ext_getElem?
  intro j
  by_cases hj : j < 2
  · rw [List.getElem?_take, if_pos hj, List.getElem?_drop, cells_at idL_len hct hx j hj]
  · rw [List.getElem?_eq_none (by simp; omega), List.getElem?_eq_none (by rw [idL_len]; omega)]
section
variable {P : Program} {ops : Array Oper} {rest : List Oper} {o : Oper} {a : Act} {Q : Exit → Act → World → Prop} {L0 L F : List Part} {w0 w : World} {k : TypeId} {b : Nat} {es : List (Value × Value)}
/-- a new entry, in a map that is laid -/
theorem wpList_insert_new_at {t : TypeId} {m x y : Operand} (hg : o.guard = none) (hop : o.op = .insert t m x y) (hm : a.eval m = .map (some b)) {key val : Value} (hx : a.eval x = key) (hy : a.eval y = val)
    (h : At L0 w0 L w) (s : Sel (Part.map P k b es) L F) {e : TypeId} (K : Go.Maps.Keyed P k) (ht : P.underlying t = some (.map k e)) {kl : Lit} (hk : keyOf P k key = some kl) (hn : ∀ p ∈ es, p.1 ≠ key)
    (hK : ∀ w', At L0 w0 (Part.map P k b (es ++ [(key, val)]) :: F) w' → wpList P ops Q rest (a.put o.dst undef) w') : wpList P ops Q (o :: rest) a w := by
  have hM : MapAt P k w b es := h.get s
  obtain ⟨w', h1, h2, h3⟩ := hM.put_new K ht hk hn val
  refine wpList_unit hg ?_ (hK w' (h.turn s _ h2 (fun _ e => .inl e) h3))
  simp [execOp, hop, hm, hx, hy, h1, Result.andThen]
end
end Go.Proofs.Ytgicohkmfbbbdaa.Gr
end

section
namespace Go.Proofs.Ytgicohkmfbbbdaa.Gr
open _root_.Go.Proofs.Ytgicohkmfbbbdaa.Mark (sortID ltID)
open Go.RowKit
open Go.Maps (Keyed)
open Attr (A8 rightI thro)
set_option linter.unusedSimpArgs false
set_option linter.unusedVariables false
attribute [-go_sem] run_eql_struct run_neq_struct run_eqGuard_agg

section
variable {P : Program} {ops : Array Oper} {rest : List Oper} {a : Act} {Q : Exit → Act → World → Prop} {w : World}
theorem gmu {d t p af g x y z u} (h : wpList P ops Q ({ dst := d, op := .mapUpdate u x y z, type := t, pos := p, after := af, guard := g } :: rest) a w) : wpList P ops Q ({ dst := d, op := .mapUpdate u x y z, type := t, pos := p, after := af, guard := g } :: rest) a w := h
theorem gin {d t p af g x y z u} (h : wpList P ops Q ({ dst := d, op := .insert u x y z, type := t, pos := p, after := af, guard := g } :: rest) a w) : wpList P ops Q ({ dst := d, op := .insert u x y z, type := t, pos := p, after := af, guard := g } :: rest) a w := h
theorem gmm {d t p af g x u} (h : wpList P ops Q ({ dst := d, op := .makeMap u x, type := t, pos := p, after := af, guard := g } :: rest) a w) : wpList P ops Q ({ dst := d, op := .makeMap u x, type := t, pos := p, after := af, guard := g } :: rest) a w := h
theorem glk {d t p af g x y u b} (h : wpList P ops Q ({ dst := d, op := .lookup u x y b, type := t, pos := p, after := af, guard := g } :: rest) a w) : wpList P ops Q ({ dst := d, op := .lookup u x y b, type := t, pos := p, after := af, guard := g } :: rest) a w := h
end
def RelNeeds (w : World) (p m ms bF bI : Nat) (es : List (I2 × A8)) (f : F7) (r0 t0 : Int) (k : Nat) (u v : Value) (wr : World) : Prop :=
  ∃ (i : Nat) (todo : List I2), u = .int .i64 i ∧ i + k = 2 + 7 * es.length ∧ Bfs es f (r0, t0) todo i ∧ (∀ k, k < i → ∀ z, todo[k]? = some z → (getA es z).isSome = true) ∧ At [GrP p m es] w [rowI2 v todo, mapC ms (seenE todo), GrP p m es, Part.cells bF f.cells 24, Part.cells bI [.int .i64 r0, .int .i64 t0] 38] wr
def RelINeeds (w : World) (p m ms bF bI : Nat) (es : List (I2 × A8)) (f : F7) (r0 t0 : Int) (i : Nat) (x : I2) (vl : Value) (ls : List I2) (k : Nat) (u v : Value) (wr : World) : Prop :=
  ∃ (j : Nat) (todo : List I2), u = .int .i64 j ∧ j + k = ls.length ∧ Bfs es f (r0, t0) todo i ∧ (∀ k, k < i → ∀ z, todo[k]? = some z → (getA es z).isSome = true) ∧ i < todo.length ∧ todo[i]? = some x ∧ (∀ z ∈ ls.take j, z ∈ todo) ∧ At [GrP p m es] w [rowI2 v todo, rowI2 vl ls, mapC ms (seenE todo), GrP p m es, Part.cells bF f.cells 24, Part.cells bI [.int .i64 r0, .int .i64 t0] 38] wr
def NeedsPost (p m : Nat) (es : List (I2 × A8)) (f : F7) (x : I2) (w : World) (e : Ending) (w' : World) : Prop :=
  (∃ l v, e = .returned (.tuple #[v, .bool true]) ∧ NeedsIs es f x (some l) ∧ At [GrP p m es] w [rowI2 v l, GrP p m es] w') ∨
  (e = .returned (.tuple #[.slice none 0 0, .bool false]) ∧ NeedsIs es f x none ∧ At [GrP p m es] w [GrP p m es] w')
set_option maxRecDepth 100000 in
set_option maxHeartbeats 4000000 in
theorem needs_any {w : World} {p m : Nat} {es : List (I2 × A8)} (h : Sep [GrP p m es] w) (f : F7) (x : I2) (hx : okD x) (hd : Deps es) (hn : es.length ≤ 1000) :
    Calls Try.prog 17 #[.pointer (some ⟨p, 0, none⟩), f.val, idV x] w (NeedsPost p m es f x w) := by
  obtain ⟨i0, hi0, hz0, hz1, hz2⟩ := info_parts infoI
  have hm : Try.prog.follows .mixedOrders = true := by kernel_rfl
  have hA := At.start h
  have hF := hA.facts
  obtain ⟨kl0, hk0⟩ := keyI hx
  have hd0 := Lib.hid hd
  have hok0 := Lib.hid hx
  clear h hx hd
  obtain ⟨r0, t0⟩ := x
  have hfh := fun w => fhas_any f (r0, t0) w
  obtain ⟨bh, hbh⟩ : ∃ z, behind f (r0, t0) = z := ⟨_, rfl⟩
  have hbh' := Lib.hid hbh
  rw [hbh] at hfh
  clear hbh
  simp only [F7.val, idV] at *
  (try simp only [uA] at hA); have hF := hA.facts; (try simp only [fZ] at hF)
  go_enter Try.func17, Try.ntmps17
  go_wp2_with (first | ((with_reducible refine gbx ?_); refine wX 38 (.agg #[.int .i64 r0, .int .i64 t0]) [.int .i64 r0, .int .i64 t0] hA ?_; clear hF hA; intro bI w1 hA hbI; (try simp only [uA] at hA); have hF := hA.facts; (try simp only [fZ] at hF)) | ((with_reducible refine gbx ?_); refine wX 24 (.agg #[.int .i64 f.f0, .int .i64 f.f1, .int .i64 f.f2, .int .i64 f.f3, .int .i64 f.f4, .int .i64 f.f5, .int .i64 f.f6]) [.int .i64 f.f0, .int .i64 f.f1, .int .i64 f.f2, .int .i64 f.f3, .int .i64 f.f4, .int .i64 f.f5, .int .i64 f.f6] hA ?_; clear hF hA; intro bF w1 hA hbF; (try simp only [uA] at hA); have hF := hA.facts; (try simp only [fZ] at hF)) | ((with_reducible refine gst ?_); refine wS hA ?_; clear hF hA; intro w1 hA; (try simp only [uA] at hA); have hF := hA.facts; (try simp only [fZ] at hF)) | ((with_reducible refine gbx ?_); refine wB hA ?_; clear hF hA; intro b1 w1 hA hb1; (try simp only [uA] at hA); have hF := hA.facts; (try simp only [fZ] at hF)))
  refine (hfh _).mono ?_
  rintro e w1 ⟨rfl, hx⟩
  have hB := hA.ext hx
  clear hF hA hx hfh; have hA := hB; clear hB
  (try simp only [uA] at hA); have hF := hA.facts; (try simp only [fZ] at hF)
  cases bh
  · skip
    go_wp2_with (first | ((with_reducible refine gmm ?_); refine wpList_makeMap_at Try.prog 38 rfl rfl hA ?_; intro ms w1 hB hms; clear hF hA; have hA := hB; clear hB; (try simp only [uA] at hA); have hF := hA.facts; (try simp only [fZ] at hF)) | (with_reducible refine gin ?_); refine wpList_insert_new_at (b := ms) (key := .agg #[.int .i64 r0, .int .i64 t0]) (val := .int .i64 1) (es := []) rfl rfl (by (try simp only [Act.eval, eV]) <;> exact rfl) (by (try simp only [Act.eval, eV]) <;> exact rfl) (by (try simp only [Act.eval, eV]) <;> exact rfl) hA sR lawI Try.underlying85 hk0 nofun ?_; intro w1 hB; clear hF hA; have hA := hB; clear hB; (try simp only [uA] at hA); have hF := hA.facts; (try simp only [fZ] at hF) | ((with_reducible show wpList _ _ _ ({ dst := _, op := Op.buildSlice _ _ _, type := _, pos := _, after := _, guard := _ } :: _) _ _); refine wpList_one_at (e := 38) (vs := idL (r0, t0)) rfl rfl (by (try simp only [Act.eval, eV]) <;> exact rfl) (fun _ => by kernel_rfl) hA ?_; intro b20 w1 hB hb20; clear hF hA; have hA := hB; clear hB; (try simp only [uA] at hA); have hF := hA.facts; (try simp only [fZ] at hF)) | ((with_reducible refine gst ?_); refine wS hA ?_; clear hF hA; intro w1 hA; (try simp only [uA] at hA); have hF := hA.facts; (try simp only [fZ] at hF)) | ((with_reducible refine gbx ?_); refine wB hA ?_; clear hF hA; intro b1 w1 hA hb1; (try simp only [uA] at hA); have hF := hA.facts; (try simp only [fZ] at hF)))
    have hB := hA.row_shut (n := 1) (cap := 1) (size := 2) (g := b20) (c := idL (r0, t0)) (xs := flatI [(r0, t0)]) sZ rfl (by omega) (by unfold maxLen; omega) rfl
    clear hF hA; have hA := hB; clear hB
    go_loopg [10, 9] (2 + 7 * es.length) (RelNeeds w p m ms bF bI es f r0 t0)
    case atStart => exact ⟨0, [(r0, t0)], rfl, by omega, bfs_start es f (r0, t0), nofun, hA.pick pZ⟩
    case round =>
      obtain ⟨i, todo, rfl, hik, hbf, hkn, hB⟩ := hrel
      have hbf' := Lib.hid hbf
      have hlen := reach_len hbf.nd hbf.reach
      have hkn' := Lib.hid hkn
      clear hkn
      clear hF hA hbf; have hA := hB; clear hB
      obtain ⟨ax, cap, hv9, hax, hcp, _⟩ := hA.row_form .here
      have hax' := Lib.hid hax
      subst hv9
      clear hax
      by_cases hi : i < todo.length
      · skip
        obtain ⟨x, hxi⟩ : ∃ x, todo[i]? = some x := ⟨_, List.getElem?_eq_getElem hi⟩
        have hxi' := Lib.hid hxi
        have hxo := hbf'.out.reach x (List.mem_of_getElem? hxi)
        have hxk := hxo.ok hd0.out hok0.out
        have hxk' := Lib.hid hxk
        have hxr := Lib.hid hxo
        have hha := fun (w1 : World) (q : Sep [GrP p m es] w1) => has_any q x hxk
        have hle := fun (w1 : World) (q : Sep [GrP p m es] w1) => leads_any q f x hxk (fun a ha => hd0.out x a ha)
        have hl7 := leadsG_len es f x
        have hrr := row_elem (hA.row_reads (v := .slice ax todo.length cap) (n := todo.length) (xs := flatI todo) .here) hxi
        clear hxi hxo hxk
        obtain ⟨ls, hls⟩ : ∃ z, leadsG es f x = z := ⟨_, rfl⟩
        have hls' := Lib.hid hls
        rw [hls] at hle hl7
        clear hls
        obtain ⟨kn, hkn⟩ : ∃ z, (getA es x).isSome = z := ⟨_, rfl⟩
        have hkn2 := Lib.hid hkn
        rw [hkn] at hha
        clear hkn
        obtain ⟨r1, t1⟩ := x
        simp only [idV, F7.val] at hha hle
        obtain ⟨bt, offt, hax2, hce⟩ := hrr
        have hr2' := Lib.hid (show ∀ (k : Nat) u, ([.int .i64 r1, .int .i64 t1] : List Value)[k]? = some u → wr.cell? ⟨bt, offt + i * 2 + k, none⟩ = some u from hce)
        clear hce
        subst hax2
        (try simp only [uA] at hA); have hF := hA.facts; (try simp only [fZ] at hF)
        go_wp2_with (first | ((with_reducible show wpList _ _ _ ({ dst := some 31, op := Op.load _ _, type := _, pos := _, after := _, guard := _ } :: _) _ _); refine wpList_loadRow_at (vs := [.int .i64 r1, .int .i64 t1]) rfl rfl (by (try simp only [Act.eval, eV]) <;> exact rfl) hr2'.out (by kernel_rfl) (by kernel_rfl) ?_) | ((with_reducible refine gst ?_); refine wS hA ?_; clear hF hA; intro w1 hA; (try simp only [uA] at hA); have hF := hA.facts; (try simp only [fZ] at hF)) | ((with_reducible refine gbx ?_); refine wB hA ?_; clear hF hA; intro b1 w1 hA hb1; (try simp only [uA] at hA); have hF := hA.facts; (try simp only [fZ] at hF)))
        refine (hha _ (hA.sep1 (A := GrP p m es) sR)).mono ?_
        clear hha hr2'
        rintro e w1 ⟨rfl, hT⟩; have hB := hA.call1 sR hT; clear hF hA hT; have hA := hB; clear hB; (try simp only [uA] at hA); have hF := hA.facts; (try simp only [fZ] at hF)
        cases kn
        · go_wp2_with (first | ((with_reducible refine gst ?_); refine wS hA ?_; clear hF hA; intro w1 hA; (try simp only [uA] at hA); have hF := hA.facts; (try simp only [fZ] at hF)) | ((with_reducible refine gbx ?_); refine wB hA ?_; clear hF hA; intro b1 w1 hA hb1; (try simp only [uA] at hA); have hF := hA.facts; (try simp only [fZ] at hF)))
          refine bodyPost_ret (v := .tuple #[.slice none 0 0, .bool false]) (by simp [results, Try.results17, go_sem]) rfl ?_
          exact .inr ⟨rfl, .inr ⟨_, hxr.out, by simpa using hkn2.out⟩, hA.only1 sR⟩
        · skip
          go_wp2_with (first | ((with_reducible refine gst ?_); refine wS hA ?_; clear hF hA; intro w1 hA; (try simp only [uA] at hA); have hF := hA.facts; (try simp only [fZ] at hF)) | ((with_reducible refine gbx ?_); refine wB hA ?_; clear hF hA; intro b1 w1 hA hb1; (try simp only [uA] at hA); have hF := hA.facts; (try simp only [fZ] at hF)))
          try go_frame
          clear hF
          obtain ⟨g, c, hg1, hc1, hc2, hc3, hc4, hB⟩ := hA.row_open (ax := some ⟨bt, offt, none⟩) (cap := cap) (n := todo.length) (xs := flatI todo) sZ (by omega)
          cases hg1
          clear hA
          have hA := hB.drew
          clear hB
          have helt := elem2 hc4 hxi'.out
          refine wp_region_held (S := fun w' => BlockIs w' bF f.cells 24 ∧ BlockIs w' bt c 38) hm ?_
          change wpAnyH _ _ _ _ _ 9 _ _ (World.drew _)
          generalize World.drew _ = w2 at *
          have hS0 : BlockIs w2 bF f.cells 24 ∧ BlockIs w2 bt c 38 := ⟨hA.get (A := Part.cells bF f.cells 24) sZ, hA.get (A := Part.cells bt c 38) sZ⟩
          refine tZ 0 34 (.pointer (some ⟨p, 0, none⟩)) (r := (fun w' hS => by simp [execOp, go_sem, Act.eval, Act.put])) (s := hS0) (h := ?_)
          go_frame
          refine tZ 1 35 (.agg #[.int .i64 f.f0, .int .i64 f.f1, .int .i64 f.f2, .int .i64 f.f3, .int .i64 f.f4, .int .i64 f.f5, .int .i64 f.f6]) (r := (fun w' hS => run_load_row (ty := 24) (n := 7) rfl (by exact rfl) hS.1 (by kernel_rfl) (by kernel_rfl) rfl rfl)) (s := hS0) (h := ?_)
          go_frame
          refine tZ 2 36 (.slice (some ⟨bt, 0, none⟩) todo.length cap) (r := (fun w' hS => by simp [execOp, go_sem, Act.eval, Act.put])) (s := hS0) (h := ?_)
          go_frame
          refine tZ 3 37 (.int .i64 i) (r := (fun w' hS => by simp [execOp, go_sem, Act.eval, Act.put])) (s := hS0) (h := ?_)
          go_frame
          refine tZ 4 38 (.pointer (some ⟨bt, i * 2, none⟩)) (r := (fun w' hS => by simp [execOp, go_sem, Act.eval, Act.put]; intro h; omega)) (s := hS0) (h := ?_)
          go_frame
          refine tZ 5 39 (.agg #[.int .i64 r1, .int .i64 t1]) (r := (fun w' hS => run_load_row (ty := 38) (n := 2) (b := bt) (j := i * 2) rfl (by exact rfl) hS.2 (by kernel_rfl) (by kernel_rfl) helt rfl)) (s := hS0) (h := ?_)
          go_frame
          refine tZ 8 42 (.int .i64 0) (r := (fun w' hS => by simp [execOp, go_sem, Act.eval, Act.put])) (s := hS0) (h := ?_)
          go_frame
          refine wpAnyH_one (i := 6) (by kernel_rfl) ?_
          refine opCall_at (i := 6) (d := some 40) (R := fun u w' => At [GrP p m es] w2 [rowI2 u ls, GrP p m es] w') rfl rfl (by kernel_rfl) (fn := 20) (args := #[.pointer (some ⟨p, 0, none⟩), .agg #[.int .i64 f.f0, .int .i64 f.f1, .int .i64 f.f2, .int .i64 f.f3, .int .i64 f.f4, .int .i64 f.f5, .int .i64 f.f6], .agg #[.int .i64 r1, .int .i64 t1]]) (by simp [execOp, go_sem, Act.eval, Act.put]) ((hle _ (hA.sep1 (A := GrP p m es) sZ)).mono fun e w' ⟨v, he, hT⟩ => ⟨v, he, hT⟩) ?_
          intro vl w3 hT
          have hB := hA.call1 (A := GrP p m es) sZ hT
          clear hA hT hle; have hA := hB; clear hB
          simp only [List.cons_append, List.nil_append] at hA
          obtain ⟨axl, capl, hvl, haxl, hcpl, _⟩ := hA.row_form .here
          have haxl' := Lib.hid haxl
          subst hvl
          clear haxl
          have hS1 : BlockIs w3 bF f.cells 24 ∧ BlockIs w3 bt c 38 := ⟨hA.get (A := Part.cells bF f.cells 24) sZ, hA.get (A := Part.cells bt c 38) sZ⟩
          refine ⟨hS1, ?_⟩
          try go_frame
          refine tZ 7 41 (.int .i64 ls.length) (r := (fun w' hS => by simp [execOp, go_sem, Act.eval, Act.put])) (s := hS1) (h := ?_)
          go_frame
          refine wpAnyH_done (by kernel_rfl) ?_ _
          try go_frame
          clear hS0 hS1
          have hB := hA.row_shut (n := todo.length) (cap := cap) (size := 2) (g := bt) (c := c) (xs := flatI todo) sZ hc3 hc1 hc2 hc4
          clear hA
          have hA := hB
          clear hB hc1 hc2 hc3 hc4 helt c
          (try simp only [uA] at hA); have hF := hA.facts; (try simp only [fZ] at hF)
          go_wp2_with (first | ((with_reducible refine gst ?_); refine wS hA ?_; clear hF hA; intro w1 hA; (try simp only [uA] at hA); have hF := hA.facts; (try simp only [fZ] at hF)) | ((with_reducible refine gbx ?_); refine wB hA ?_; clear hF hA; intro b1 w1 hA hb1; (try simp only [uA] at hA); have hF := hA.facts; (try simp only [fZ] at hF)))
          have hik' : i + (gk - 1) + 1 = 2 + 7 * es.length ∧ 0 < gk := by omega
          have hikh := Lib.hid hik'
          obtain ⟨G, hG⟩ : ∃ G, G = gk - 1 := ⟨_, rfl⟩
          have hGk : gk = G + 1 := by omega
          subst hGk
          have hikG : i + 1 + G = 2 + 7 * es.length := by omega
          clear hik hik' hikh hG
          try simp only [Nat.zero_add]
          go_loopg [42, 9] ls.length (RelINeeds w p m ms bF bI es f r0 t0 i (r1, t1) (.slice axl ls.length capl) ls)
          case atStart => exact ⟨0, todo, rfl, by simp, hbf'.out, hkn'.out, hi, hxi'.out, nofun, hA.pick pZ⟩
          case round =>
            clear hlen hcp hi hxi' hbf'
            have hax0 := hax'
            clear hax' hax0
            clear hkn'
            obtain ⟨j, todo, rfl, hjk, hbf, hkn, hi, hxi, hsub, hB⟩ := hrel
            have hbf' := Lib.hid hbf
            have hsub' := Lib.hid hsub
            have hxi' := Lib.hid hxi
            have hlen := reach_len hbf.nd hbf.reach
            have hkn' := Lib.hid hkn
            clear hkn
            clear hA hbf hsub hxi; have hA := hB; clear hB
            obtain ⟨ax, cap, hv9, hax, hcp, _⟩ := hA.row_form .here
            have hax' := Lib.hid hax
            subst hv9
            clear hax
            by_cases hj : j < ls.length
            · skip
              obtain ⟨y, hyj⟩ : ∃ y, ls[j]? = some y := ⟨_, List.getElem?_eq_getElem hj⟩
              have hyj' := Lib.hid hyj
              have hyl : y ∈ leadsG es f (r1, t1) := by rw [hls'.out]; exact List.mem_of_getElem? hyj
              have hyl' := Lib.hid hyl
              have hyk := leadsG_ok hd0.out hyl
              obtain ⟨kl1, hk1⟩ := keyI hyk
              have hrr := row_elem (hA.row_reads (v := .slice axl ls.length capl) (n := ls.length) (xs := flatI ls) sZ) hyj
              clear hyj hyl hyk
              have hnx := Lib.hid (show ∀ z ∈ ls.take (j + 1), z ∈ ls.take j ∨ z = y from fun z hz => by rw [List.take_add_one, hyj'.out] at hz; simpa using hz)
              obtain ⟨r2, t2⟩ := y
              obtain ⟨bt2, offt2, hax3, hce⟩ := hrr
              have hr2' := Lib.hid (show ∀ (k : Nat) u, ([.int .i64 r2, .int .i64 t2] : List Value)[k]? = some u → wr.cell? ⟨bt2, offt2 + j * 2 + k, none⟩ = some u from hce)
              clear hce
              subst hax3
              simp only [idV] at hk1
              (try simp only [uA] at hA); have hF := hA.facts; (try simp only [fZ] at hF)
              by_cases hmem : (r2, t2) ∈ todo
              · have hmem' := Lib.hid hmem
                clear hmem
                go_wp2_with (first | ((with_reducible refine gal ?_); refine wA 38 (.agg #[.int .i64 0, .int .i64 0]) [.int .i64 0, .int .i64 0] hA ?_; clear hF hA; intro b12 w1 hA hb12; (try simp only [uA] at hA); have hF := hA.facts; (try simp only [fZ] at hF)) | ((with_reducible show wpList _ _ _ ({ dst := some 45, op := Op.load _ _, type := _, pos := _, after := _, guard := _ } :: _) _ _); refine wpList_loadRow_at (vs := [.int .i64 r2, .int .i64 t2]) rfl rfl (by (try simp only [Act.eval, eV]) <;> exact rfl) hr2'.out (by kernel_rfl) (by kernel_rfl) ?_) | ((with_reducible refine glk ?_); refine wpList_look1_some_at (b := ms) rfl rfl (by (try simp only [Act.eval, eV]) <;> exact rfl) (key := .agg #[.int .i64 r2, .int .i64 t2]) (by (try simp only [Act.eval, eV]) <;> exact rfl) hA (k := 38) (es := seenE todo) (v := .int .i64 1) sR lawI Try.underlying85 hk1 (seen_yes hmem'.out) ?_) | ((with_reducible refine gst ?_); refine wS hA ?_; clear hF hA; intro w1 hA; (try simp only [uA] at hA); have hF := hA.facts; (try simp only [fZ] at hF)) | ((with_reducible refine gbx ?_); refine wB hA ?_; clear hF hA; intro b1 w1 hA hb1; (try simp only [uA] at hA); have hF := hA.facts; (try simp only [fZ] at hF)))
                go_roundg (gk - 1)
                case measure => omega
                case rel => exact ⟨j + 1, todo, by simp, by omega, hbf'.out, hkn'.out, hi, hxi'.out, fun z hz => (hnx.out z hz).elim (hsub'.out z) (fun q => by rw [q]; exact hmem'.out), hA.pick pZ⟩
              · have hni := Lib.hid hmem
                clear hmem
                go_wp2_with (first | ((with_reducible refine gal ?_); refine wA 38 (.agg #[.int .i64 0, .int .i64 0]) [.int .i64 0, .int .i64 0] hA ?_; clear hF hA; intro b12 w1 hA hb12; (try simp only [uA] at hA); have hF := hA.facts; (try simp only [fZ] at hF)) | ((with_reducible show wpList _ _ _ ({ dst := some 45, op := Op.load _ _, type := _, pos := _, after := _, guard := _ } :: _) _ _); refine wpList_loadRow_at (vs := [.int .i64 r2, .int .i64 t2]) rfl rfl (by (try simp only [Act.eval, eV]) <;> exact rfl) hr2'.out (by kernel_rfl) (by kernel_rfl) ?_) | ((with_reducible refine glk ?_); refine wpList_look1_none_at (b := ms) rfl rfl (by (try simp only [Act.eval, eV]) <;> exact rfl) (key := .agg #[.int .i64 r2, .int .i64 t2]) (by (try simp only [Act.eval, eV]) <;> exact rfl) hA (k := 38) (es := seenE todo) (z := .int .i64 0) sR lawI Try.underlying85 hk1 (seen_no hni.out) (fun _ => by kernel_rfl) ?_) | ((with_reducible refine gmu ?_); refine wpList_put_new_at (b := ms) (key := .agg #[.int .i64 r2, .int .i64 t2]) (val := .int .i64 1) (es := seenE todo) rfl rfl (by (try simp only [Act.eval, eV]) <;> exact rfl) (by (try simp only [Act.eval, eV]) <;> exact rfl) (by (try simp only [Act.eval, eV]) <;> exact rfl) hA sR lawI Try.underlying85 hk1 (seen_no hni.out) ?_; intro w1 hB; have hsn := seen_snoc todo (r2, t2); simp only [idV] at hsn; rw [hsn] at hB; clear hsn hF hA; have hA := hB; clear hB; (try simp only [uA] at hA); have hF := hA.facts; (try simp only [fZ] at hF)) | ((with_reducible show wpList _ _ _ ({ dst := _, op := Op.buildSlice _ _ _, type := _, pos := _, after := _, guard := _ } :: _) _ _); refine wpList_one_at (e := 38) (vs := idL (r2, t2)) rfl rfl (by (try simp only [Act.eval, eV]) <;> exact rfl) (fun _ => by kernel_rfl) hA ?_; intro b54 w1 hB hb54; clear hF hA; have hA := hB; clear hB; (try simp only [uA] at hA); have hF := hA.facts; (try simp only [fZ] at hF)) | ((with_reducible show wpList _ _ _ ({ dst := _, op := Op.call { callee := Callee.builtin Builtin.append, args := _, argTypes := _ }, type := _, pos := _, after := _, guard := _ } :: _) _ _); refine wpList_append_at (e := 38) (size := 2) (v := .slice ax todo.length cap) (xs := flatI todo) (n := todo.length) (m := 1) (news := idL (r2, t2)) rfl _ _ 31 rfl Try.underlying31 hi0 hz0 hz1 hz2 rfl (by omega) hA sR (by (try simp only [Act.eval, eV]) <;> exact rfl) (by (try simp only [Act.eval, eV]) <;> exact rfl) rfl (hA.cells_reads sR _ _) (idL_one _) (by unfold maxLen; omega) (by omega) ?_; intro v1 w1 hB; rw [rowI2_snoc] at hB; clear hF hA; have hA := hB; clear hB; (try simp only [uA] at hA); have hF := hA.facts; (try simp only [fZ] at hF)) | ((with_reducible refine gst ?_); refine wS hA ?_; clear hF hA; intro w1 hA; (try simp only [uA] at hA); have hF := hA.facts; (try simp only [fZ] at hF)) | ((with_reducible refine gbx ?_); refine wB hA ?_; clear hF hA; intro b1 w1 hA hb1; (try simp only [uA] at hA); have hF := hA.facts; (try simp only [fZ] at hF)))
                go_roundg (gk - 1)
                case measure => omega
                case rel => exact ⟨j + 1, todo ++ [(r2, t2)], by simp, by omega, bfs_new hbf'.out (by omega) (List.mem_of_getElem? hxi'.out) hyl'.out hni.out, fun k hk z hz => by rw [List.getElem?_append_left (by omega)] at hz; exact hkn'.out k hk z hz, by simp; omega, by rw [List.getElem?_append_left hi]; exact hxi'.out, fun z hz => (hnx.out z hz).elim (fun q => List.mem_append_left _ (hsub'.out z q)) (fun q => by simp [q]), hA.pick pZ⟩
            · have hbn := bfs_next hbf'.out hxi'.out (fun z hz => hsub'.out z (by rw [hls'.out] at hz; rw [List.take_of_length_le (by omega)]; exact hz))
              have hbn' := Lib.hid hbn
              clear hbn
              (try simp only [uA] at hA); have hF := hA.facts; (try simp only [fZ] at hF)
              go_wp2_with (first | ((with_reducible refine gst ?_); refine wS hA ?_; clear hF hA; intro w1 hA; (try simp only [uA] at hA); have hF := hA.facts; (try simp only [fZ] at hF)) | ((with_reducible refine gbx ?_); refine wB hA ?_; clear hF hA; intro b1 w1 hA hb1; (try simp only [uA] at hA); have hF := hA.facts; (try simp only [fZ] at hF)))
              go_roundg G
              case measure => omega
              case rel => exact ⟨i + 1, todo, by simp, by omega, hbn'.out, fun k hk z hz => if e : k < i then hkn'.out k e z hz else (by have e2 : k = i := (by omega); subst e2; rw [hxi'.out] at hz; cases hz; exact hkn2.out), hA.pick pZ⟩
      · have hall := Lib.hid (bfs_all hbf'.out (by omega))
        (try simp only [uA] at hA); have hF := hA.facts; (try simp only [fZ] at hF)
        go_wp2_with (first | ((with_reducible refine gst ?_); refine wS hA ?_; clear hF hA; intro w1 hA; (try simp only [uA] at hA); have hF := hA.facts; (try simp only [fZ] at hF)) | ((with_reducible refine gbx ?_); refine wB hA ?_; clear hF hA; intro b1 w1 hA hb1; (try simp only [uA] at hA); have hF := hA.facts; (try simp only [fZ] at hF)))
        refine (sort_row (hA.sep1 (A := rowI2 (.slice ax todo.length cap) todo) sZ) (by omega)).mono ?_
        rintro e w1 ⟨rfl, hT⟩
        have hB := hA.call1 (A := rowI2 (.slice ax todo.length cap) todo) sZ hT
        clear hF hA hT; have hA := hB; clear hB
        simp only [List.cons_append, List.nil_append] at hA
        (try simp only [uA] at hA); have hF := hA.facts; (try simp only [fZ] at hF)
        go_wp2_with (first | ((with_reducible refine gst ?_); refine wS hA ?_; clear hF hA; intro w1 hA; (try simp only [uA] at hA); have hF := hA.facts; (try simp only [fZ] at hF)) | ((with_reducible refine gbx ?_); refine wB hA ?_; clear hF hA; intro b1 w1 hA hb1; (try simp only [uA] at hA); have hF := hA.facts; (try simp only [fZ] at hF)))
        refine bodyPost_ret (v := .tuple #[.slice ax todo.length cap, .bool true]) (by simp [results, Try.results17, go_sem]) rfl ?_
        exact .inl ⟨sortID todo, _, rfl, ⟨hbh'.out, sort_strict hbf'.out.nd, fun z => sort_mem.trans (hall.out z), fun z hz => by obtain ⟨k, hk, e⟩ := List.mem_iff_getElem.1 (sort_mem.1 hz); exact hkn'.out k (by omega) z (by rw [List.getElem?_eq_getElem hk, e])⟩, hA.only2 sZ sZ⟩
  · go_wp2_with (first | ((with_reducible refine gst ?_); refine wS hA ?_; clear hF hA; intro w1 hA; (try simp only [uA] at hA); have hF := hA.facts; (try simp only [fZ] at hF)) | ((with_reducible refine gbx ?_); refine wB hA ?_; clear hF hA; intro b1 w1 hA hb1; (try simp only [uA] at hA); have hF := hA.facts; (try simp only [fZ] at hF)))
    refine bodyPost_ret (v := .tuple #[.slice none 0 0, .bool false]) (by simp [results, Try.results17, go_sem]) rfl ?_
    exact .inr ⟨rfl, .inl hbh'.out, hA.only1 sR⟩
end Go.Proofs.Ytgicohkmfbbbdaa.Gr
end
