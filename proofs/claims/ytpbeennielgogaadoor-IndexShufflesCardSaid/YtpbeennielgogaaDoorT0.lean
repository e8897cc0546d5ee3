/- IndexU, RegI, Row3, RegJ, IndexV, joined. -/
import Derived.Test.YtpbeennielgogaaDoorIndexG
import Derived.Test.YtpbeennielgogaaDoorRegH
import Derived.Test.YtpbeennielgogaaDoorRow2
import Derived.Test.YtpbeennielgogaaDoorRegG
import Derived.Test.YtpbeennielgogaaDoorIndexT
section
namespace Go.Proofs.YtpbeennielgogaaDoor.Ix
open Path (bl rightB overB)
open Attr (A8 rightI)
open Cmd (Cm keyC footC)
set_option linter.unusedSimpArgs false
set_option linter.unusedVariables false

/-- what a step notes -/
def opN (o : Op12) : Option ((ByteArray × Int) × A8) :=
  if o.kind = 1 then (match keyC o.c with
    | some k => if rightI o.r o.t then some (k, noteA o.r o.t o.q) else none
    | none => none)
  else if o.kind = 2 then (if rightB (bl o.e.foot) && o.e.a.right then some ((o.e.foot, o.e.num), o.e.a) else none)
  else none
theorem step_opN (es : List En) (o : Op12) : stepE es o = match opN o with
    | some (k, v) => mergeE es k.1 k.2 v
    | none => es := by
  unfold stepE opN noteE addE
  by_cases h1 : o.kind = 1
  · simp only [h1, if_true]
    cases hk : keyC o.c with
    | none => rfl
    | some k =>
      obtain ⟨f, n⟩ := k
      simp only []
      by_cases h2 : rightI o.r o.t = true
      · simp only [h2, if_true]
      · simp only [h2, if_false, Bool.false_eq_true]
  · simp only [h1, if_false]
    by_cases h2 : o.kind = 2
    · simp only [h2, if_true]
      by_cases h3 : (rightB (bl o.e.foot) && o.e.a.right) = true
      · simp only [h3, if_true]
      · simp only [h3, if_false, Bool.false_eq_true]
    · simp only [h2, if_false]
/-- what is known of each key -/
def view (es : List En) (k : ByteArray × Int) : Option A8 := (find es k.1 k.2).map (·.a)
def upd (V : ByteArray × Int → Option A8) (k : ByteArray × Int) (v : A8) : ByteArray × Int → Option A8 := fun x => if x = k then some (((V k).getD A8.zero).merge v) else V x
theorem is_iff {e : En} {f : ByteArray} {n : Int} : e.is f n = true ↔ e.foot = f ∧ e.num = n := by simp [En.is]
theorem view_cons (e : En) (es : List En) (k : ByteArray × Int) : view (e :: es) k = if k = (e.foot, e.num) then some e.a else view es k := by
  unfold view find
  rw [List.find?_cons]
  by_cases h : k = (e.foot, e.num)
  · subst h
    have : e.is e.foot e.num = true := is_iff.2 ⟨rfl, rfl⟩
    simp [this]
  · have : e.is k.1 k.2 = false := by
      cases hq : e.is k.1 k.2 with
      | false => rfl
      | true => exact absurd (Prod.ext (is_iff.1 hq).1.symm (is_iff.1 hq).2.symm) h
    simp [this, h]
theorem view_merge (k : ByteArray × Int) (v : A8) : ∀ es : List En, view (mergeE es k.1 k.2 v) = upd (view es) k v
  | [] => by
    funext x
    unfold mergeE
    rw [view_cons]
    unfold upd
    by_cases h : x = k
    · subst h; simp [view, find]
    · have : ¬ x = (k.1, k.2) := h
      simp [this, h]
  | e :: es => by
    funext x
    have ih := congrFun (view_merge k v es) x
    unfold mergeE
    by_cases hq : e.is k.1 k.2 = true
    · have h1 := is_iff.1 hq
      have hk : k = (e.foot, e.num) := Prod.ext h1.1.symm h1.2.symm
      rw [if_pos hq, view_cons]
      unfold upd
      rw [view_cons, view_cons]
      by_cases h : x = k
      · have hx : x = (k.1, k.2) := h
        rw [if_pos hx, if_pos h, if_pos hk]
        rfl
      · have hx : ¬ x = (k.1, k.2) := h
        rw [if_neg hx, if_neg h, if_neg (by rw [← hk]; exact h)]
    · have hk : ¬ k = (e.foot, e.num) := fun q => hq (is_iff.2 (by rw [q]; exact ⟨rfl, rfl⟩))
      rw [if_neg hq, view_cons, ih]
      unfold upd
      rw [view_cons, view_cons, if_neg hk]
      by_cases h : x = k
      · rw [if_pos h, if_pos h, if_neg (by rw [h]; exact hk)]
      · rw [if_neg h, if_neg h]
def stV (V : ByteArray × Int → Option A8) (o : Op12) : ByteArray × Int → Option A8 := match opN o with
  | some (k, v) => upd V k v
  | none => V
theorem view_step (es : List En) (o : Op12) : view (stepE es o) = stV (view es) o := by
  rw [step_opN]
  unfold stV
  cases opN o with
  | none => rfl
  | some x => exact view_merge _ _ _
theorem view_steps : ∀ (os : List Op12) (es : List En), view (os.foldl stepE es) = os.foldl stV (view es)
  | [], _ => rfl
  | o :: os, es => by rw [List.foldl_cons, List.foldl_cons, view_steps os, view_step]
theorem upd_rc (V : ByteArray × Int → Option A8) (k j : ByteArray × Int) (v u : A8) : upd (upd V k v) j u = upd (upd V j u) k v := by
  funext x
  unfold upd
  by_cases h : j = k
  · subst h
    by_cases hx : x = j
    · simp only [hx, if_true, Option.getD_some]
      rw [merge_rc]
    · simp only [hx, if_false]
  · have h' : ¬ k = j := fun q => h q.symm
    by_cases hx : x = j
    · subst hx
      simp only [h, if_true, if_false]
    · by_cases hk : x = k
      · subst hk
        simp only [hx, h', if_true, if_false]
      · simp only [hx, hk, if_false]
theorem stV_rc (V : ByteArray × Int → Option A8) (x y : Op12) : stV (stV V x) y = stV (stV V y) x := by
  unfold stV
  cases opN x with
  | none => rfl
  | some p =>
    cases opN y with
    | none => rfl
    | some q => exact upd_rc _ _ _ _ _
/-- what was noted is noted still -/
def Has (V : ByteArray × Int → Option A8) (o : Op12) : Prop := ∀ k v, opN o = some (k, v) → ∃ a, V k = some a ∧ Le v a
theorem has_self (V : ByteArray × Int → Option A8) (o : Op12) : Has (stV V o) o := fun k v h => by
  unfold stV
  rw [h]
  exact ⟨_, if_pos rfl, le_right _ _⟩
theorem has_step {V : ByteArray × Int → Option A8} {o : Op12} (h : Has V o) (p : Op12) : Has (stV V p) o := fun k v hk => by
  obtain ⟨a, ha, hl⟩ := h k v hk
  unfold stV
  cases opN p with
  | none => exact ⟨a, ha, hl⟩
  | some x =>
    obtain ⟨j, u⟩ := x
    by_cases hq : k = j
    · subst hq
      refine ⟨_, if_pos rfl, ?_⟩
      rw [ha]
      exact hl.trans (le_left _ _)
    · exact ⟨a, by simp only [upd, if_neg hq]; exact ha, hl⟩
theorem has_steps {o : Op12} : ∀ (os : List Op12) {V : ByteArray × Int → Option A8}, Has V o → Has (os.foldl stV V) o
  | [], _, h => h
  | p :: os, _, h => by rw [List.foldl_cons]; exact has_steps os (has_step h p)
theorem has_all {o : Op12} : ∀ {os : List Op12} (V : ByteArray × Int → Option A8), o ∈ os → Has (os.foldl stV V) o
  | p :: os, V, h => by
    rw [List.foldl_cons]
    rcases List.mem_cons.1 h with rfl | h
    · exact has_steps os (has_self _ _)
    · exact has_all _ h
theorem merge_le_eq {a v : A8} (h : Le v a) : a.merge v = a := by
  obtain ⟨h0, h1, h2, h3, h4, h5, h6, h7⟩ := h
  obtain ⟨s, d0, d1, d2, d3, d4, d5, d6⟩ := a
  obtain ⟨u, f0, f1, f2, f3, f4, f5, f6⟩ := v
  simp only [A8.merge, A8.mk.injEq] at *
  omega
theorem has_same {V : ByteArray × Int → Option A8} {o : Op12} (h : Has V o) : stV V o = V := by
  unfold stV
  cases hq : opN o with
  | none => rfl
  | some x =>
    obtain ⟨k, v⟩ := x
    obtain ⟨a, ha, hl⟩ := h k v hq
    funext x
    simp only [upd]
    by_cases hx : x = k
    · subst hx
      rw [if_pos rfl, ha]
      exact congrArg some (merge_le_eq hl)
    · rw [if_neg hx]
theorem again_same {V : ByteArray × Int → Option A8} : ∀ (os : List Op12), (∀ o ∈ os, Has V o) → os.foldl stV V = V
  | [], _ => rfl
  | o :: os, h => by rw [List.foldl_cons, has_same (h o (by simp)), again_same os (fun p hp => h p (by simp [hp]))]

/-! ### Lists with the same view -/
def En.k (e : En) : ByteArray × Int := (e.foot, e.num)
def Kn (es : List En) : Prop := (es.map En.k).Nodup
theorem kn_merge {es : List En} (h : Kn es) (f : ByteArray) (n : Int) (v : A8) : Kn (mergeE es f n v) := by
  cases hq : find es f n with
  | none =>
    rw [merge_none hq]
    unfold Kn
    rw [List.map_append, List.nodup_append]
    refine ⟨h, by simp, fun a ha b hb => ?_⟩
    obtain ⟨e, he, rfl⟩ := List.mem_map.1 ha
    simp only [List.map_cons, List.map_nil, List.mem_singleton] at hb
    subst hb
    intro q
    have h1 := List.find?_eq_none.1 hq e he
    simp only [En.k, Prod.mk.injEq] at q
    exact h1 (is_iff.2 q)
  | some e =>
    obtain ⟨l1, l2, rfl, rfl, rfl, hne⟩ := find_split hq
    rw [merge_mid (is_iff.2 ⟨rfl, rfl⟩) hne]
    unfold Kn at h ⊢
    simpa [En.k] using h
theorem kn_step {es : List En} (h : Kn es) (o : Op12) : Kn (stepE es o) := by
  rw [step_opN]
  cases opN o with
  | none => exact h
  | some x => exact kn_merge h _ _ _
theorem kn_steps : ∀ (os : List Op12) {es : List En}, Kn es → Kn (os.foldl stepE es)
  | [], _, h => h
  | o :: os, _, h => by rw [List.foldl_cons]; exact kn_steps os (kn_step h o)
theorem mem_view : ∀ {es : List En}, Kn es → ∀ e : En, e ∈ es ↔ view es e.k = some e.a
  | [], _, e => by simp [view, find]
  | x :: es, h, e => by
    have h' : x.k ∉ es.map En.k ∧ Kn es := by simpa [Kn] using h
    rw [view_cons, List.mem_cons]
    by_cases hk : e.k = (x.foot, x.num)
    · rw [if_pos hk]
      constructor
      · rintro (rfl | he)
        · rfl
        · exact absurd (List.mem_map.2 ⟨e, he, hk⟩) h'.1
      · intro q
        left
        obtain ⟨f, n, a⟩ := e
        obtain ⟨g, m, b⟩ := x
        simp only [En.k, Prod.mk.injEq] at hk
        simp only [Option.some.injEq] at q
        rw [hk.1, hk.2, q]
    · rw [if_neg hk, ← mem_view h'.2 e]
      constructor
      · rintro (rfl | he)
        · exact absurd rfl hk
        · exact he
      · exact .inr
theorem view_perm {l m : List En} (hl : Kn l) (hm : Kn m) (h : view l = view m) : l.Perm m := by
  have n1 : l.Nodup := List.Pairwise.of_map En.k (fun a b h e => h (congrArg _ e)) hl
  have n2 : m.Nodup := List.Pairwise.of_map En.k (fun a b h e => h (congrArg _ e)) hm
  exact (List.perm_ext_iff_of_nodup n1 n2).2 fun e => by rw [mem_view hl, mem_view hm, h]
/-- in whatever order, and however often -/
theorem shuffled {os m : List Op12} (h : os.Perm m) : (os.foldl stepE []).Perm (m.foldl stepE (m.foldl stepE [])) := by
  have k0 : Kn [] := List.nodup_nil
  refine view_perm (kn_steps _ k0) (kn_steps _ (kn_steps _ k0)) ?_
  rw [view_steps, view_steps, view_steps, foldl_perm stV_rc h]
  exact (again_same m fun o ho => has_all _ ho).symm
theorem ask_perm {l m : List En} (h : l.Perm m) (k : Option (ByteArray × Int)) (r t : Int) : askE l k r t = askE m k r t := by
  unfold askE
  cases k with
  | none => rfl
  | some k => simp only [askF_perm h]
/-- what comes ahead never shrinks -/
theorem own_le {a b : A8} (h : Le a b) (r t : Int) : Le (a.own r t) (b.own r t) := by
  by_cases hr : rightI r t = true
  · rw [own_right hr, own_right hr]
    have q := Attr.rightI_iff.1 hr
    exact le_set h (by omega) t
  · unfold A8.own
    rw [if_neg hr, if_neg hr]
    exact h
theorem own_own (a : A8) (r t : Int) : (a.own r t).own r t = a.own r t := by
  by_cases hr : rightI r t = true
  · rw [own_right hr, own_right hr]
    have q := Attr.rightI_iff.1 hr
    exact set_twice _ (by omega) t
  · unfold A8.own
    rw [if_neg hr, if_neg hr]
theorem ask_own (es : List En) (k : Option (ByteArray × Int)) (r t : Int) : (askE es k r t).own r t = askE es k r t := by
  unfold askE
  exact own_own _ _ _
theorem shrink0 (es : List En) (k : Option (ByteArray × Int)) (r t : Int) : (A8.zero.own r t).merge (askE es k r t) = askE es k r t := by
  refine le_merge ?_
  unfold askE
  refine own_le ?_ r t
  cases k with
  | none => exact Le.refl _
  | some k => exact fold_ge _ _ _ _
theorem shrink1 {es es' : List En} (hg : Grow es es') (hf : FineL es) (k : Option (ByteArray × Int)) (r t : Int) : ((askE es k r t).own r t).merge (askE es' k r t) = askE es' k r t := by
  rw [ask_own]
  refine le_merge ?_
  unfold askE
  refine own_le ?_ r t
  cases k with
  | none => exact Le.refl _
  | some k => exact askF_grow hg hf
/-- neighbours change their places -/
def swapN {α : Type} (l : List α) (k : Nat) : List α := match l[k]?, l[k + 1]? with
  | some x, some y => (l.set k y).set (k + 1) x
  | _, _ => l
theorem swap_perm {α : Type} : ∀ (l : List α) (k : Nat), (swapN l k).Perm l
  | [], k => by simp [swapN]
  | [x], k => by
    cases k with
    | zero => simp [swapN]
    | succ k => simp [swapN]
  | x :: y :: l, 0 => by simpa [swapN] using List.Perm.swap x y l
  | x :: y :: l, k + 1 => by
    have ih := swap_perm (y :: l) k
    have he : swapN (x :: y :: l) (k + 1) = x :: swapN (y :: l) k := by
      unfold swapN
      rw [List.getElem?_cons_succ, List.getElem?_cons_succ]
      split <;> simp_all
    rw [he]
    exact ih.cons x
end Go.Proofs.YtpbeennielgogaaDoor.Ix
end

section
namespace Go.Proofs.YtpbeennielgogaaDoor
open Go.RowKit
set_option linter.unusedVariables false
set_option linter.unusedSimpArgs false
section
variable {P : Program} {ops : Array Oper} {rest : List Oper} {o : Oper} {a : Act} {Q : Exit → Act → World → Prop} {L0 L F : List Part} {w0 w : World}
theorem wpList_loadPart_at {ty : TypeId} {x : Operand} (hg : o.guard = none) (hop : o.op = .load ty x) {b : Nat} (hx : a.eval x = .pointer (some ⟨b, 0, none⟩)) {vs : List Value} {T : TypeId} (h : At L0 w0 L w) (s : Sel (Part.cells b vs T) L F)
    (hu : (P.underlying ty).map (·.isRow) = some true) (hi : (P.info? ty).map (·.size) = some vs.length)
    (hK : wpList P ops Q rest (a.put o.dst (.agg vs.toArray)) w) : wpList P ops Q (o :: rest) a w :=
  wpList_loadRow_at hg hop hx (fun k u hk => by
    have hb : BlockIs w b vs T := h.get s
    rw [Nat.zero_add, hb.cell]; exact hk) hu hi hK
end
end Go.Proofs.YtpbeennielgogaaDoor
end

section
namespace Go.Proofs.YtpbeennielgogaaDoor
open Go.RowKit
set_option linter.unusedVariables false
set_option linter.unnecessarySimpa false
set_option linter.unusedSimpArgs false

theorem setL_mid : ∀ (vs p q r : List Value), q.length = vs.length → setL (p ++ (q ++ r)) p.length vs = p ++ (vs ++ r)
  | [], p, q, r, h => by
    have : q = [] := List.eq_nil_of_length_eq_zero (by simpa using h)
    subst this
    rfl
  | v :: vs, p, [], r, h => by simp at h
  | v :: vs, p, y :: q, r, h => by
    rw [setL]
    have e : (p ++ (y :: q ++ r)).set p.length v = (p ++ [v]) ++ (q ++ r) := by
      rw [List.set_append_right _ _ (Nat.le_refl _)]
      simp
    have := setL_mid vs (p ++ [v]) q r (by simpa using h)
    rw [List.length_append] at this
    rw [e]
    simp only [List.length_cons, List.length_nil, Nat.zero_add] at this
    rw [this]
    simp
theorem flat_set {α : Type} (enc : α → List Value) (size : Nat) (hs : ∀ x, (enc x).length = size) (l : List α) (i : Nat) (hi : i < l.length) (x : α) : setL (l.flatMap enc) (i * size) (enc x) = (l.set i x).flatMap enc := by
  have e1 : l = l.take i ++ l[i] :: l.drop (i + 1) := by rw [← List.drop_eq_getElem_cons hi, List.take_append_drop]
  have hl : (l.take i).length = i := by rw [List.length_take]; omega
  have e2 : l.set i x = l.take i ++ x :: l.drop (i + 1) := by
    rw [List.set_eq_take_append_cons_drop, if_pos hi]
  have e3 : l.flatMap enc = (l.take i).flatMap enc ++ (enc l[i] ++ (l.drop (i + 1)).flatMap enc) := by
    have := congrArg (fun m => m.flatMap enc) e1
    simp only [List.flatMap_append, List.flatMap_cons] at this
    exact this
  have hf : ((l.take i).flatMap enc).length = i * size := by rw [flat_len enc size hs, hl]
  rw [e2, e3, ← hf, setL_mid _ _ _ _ (by rw [hs, hs])]
  simp
theorem take_setL : ∀ (vs c : List Value) (o m : Nat), (setL c o vs).take m = setL (c.take m) o vs
  | [], _, _, _ => rfl
  | v :: vs, c, o, m => by rw [setL, setL, take_setL vs, List.take_set]
theorem take_setL_low : ∀ (vs c : List Value) (o m : Nat), m ≤ o → (setL c o vs).take m = c.take m
  | [], _, _, _, _ => rfl
  | v :: vs, c, o, m, h => by rw [setL, take_setL_low vs _ _ _ (by omega), List.take_set_of_le h]
/-- an element is written -/
theorem write_row {α : Type} {enc : α → List Value} {size : Nat} (hs : ∀ x, (enc x).length = size) {c : List Value} {l : List α} (ht : c.take (l.length * size) = l.flatMap enc) {i : Nat} (hi : i < l.length) (x : α) :
    (setL c (i * size) (enc x)).take ((l.set i x).length * size) = (l.set i x).flatMap enc := by
  rw [List.length_set, take_setL, ht, flat_set enc size hs l i hi]

section
variable {P : Program} {ops : Array Oper} {rest : List Oper} {o : Oper} {a : Act} {Q : Exit → Act → World → Prop} {L0 L F : List Part} {w0 w : World} {e : TypeId}
theorem run_clear_many (w : World) (t e ty : TypeId) (z : Value) (ht : P.underlying t = some (.slice e)) (hv : ∀ w, (zeroValue e).run P w = .ok z w) (m : Nat) (hm : 0 < m) (h1 : ∀ v ∈ (Builtin.zeroCells z.cells m).toList, v.oneCell' = true) (b o c : Nat)
    (hc : ∀ j, j < m * z.cells.size → (w.cell? ⟨b, o + j, none⟩).isSome = true) (hf : ∀ j, j < m * z.cells.size → w.frozen? ⟨b, o + j, none⟩ = false) :
    (Builtin.clear_ #[t] ty #[.slice (some ⟨b, o, none⟩) m c]).run P w = .ok (.tuple #[]) (w.setCells b o (Builtin.zeroCells z.cells m).toList) := by
  have hl : (Builtin.zeroCells z.cells m).toList.length = m * z.cells.size := by simp [Builtin.zeroCells]
  have hst := run_storeCells_cells (P := P) b o (Builtin.zeroCells z.cells m).toList 0 w (by intro j hj; simpa using hc j (by omega)) (by intro j hj; simpa using hf j (by omega)) h1
  simp only [Nat.add_zero] at hst
  obtain ⟨m, rfl⟩ : ∃ m', m = m' + 1 := ⟨m - 1, by omega⟩
  simp [Builtin.clear_, run_underlying ht, hv, hst]
theorem zero_ones (z : Value) (h : ∀ u ∈ z.cells.toList, u.oneCell' = true) (h0 : 0 < z.cells.size) (m : Nat) : ∀ v ∈ (Builtin.zeroCells z.cells m).toList, v.oneCell' = true := by
  intro v hv
  simp only [Builtin.zeroCells, Array.toList_map, List.mem_map] at hv
  obtain ⟨j, _, rfl⟩ := hv
  have hj : j % z.cells.size < z.cells.size := Nat.mod_lt _ h0
  rw [getElem!_pos z.cells (j % z.cells.size) hj]
  exact h _ (by rw [Array.mem_toList_iff]; exact Array.getElem_mem hj)
/-- the end of a row is cleared -/
theorem wpList_clear_at {t : TypeId} {x : Operand} {z : Value} {b off m cp : Nat} {c : List Value} {T : TypeId} (hg : o.guard = none) (hop : o.op = .call { callee := .builtin .clear, args := #[x], argTypes := #[t] }) (ht : P.underlying t = some (.slice e)) (hv : ∀ w, (zeroValue e).run P w = .ok z w)
    (h1 : ∀ u ∈ z.cells.toList, u.oneCell' = true) (h0 : 0 < z.cells.size) (hx : a.eval x = .slice (some ⟨b, off, none⟩) m cp) (hm : 0 < m) (h : At L0 w0 L w) (s : Sel (Part.cells b c T) L F) (hl : off + m * z.cells.size ≤ c.length)
    (hK : ∀ c' w', c'.length = c.length → c'.take off = c.take off → At L0 w0 (Part.cells b c' T :: F) w' → wpList P ops Q rest (a.put o.dst (.tuple #[])) w') : wpList P ops Q (o :: rest) a w := by
  have hb : BlockIs w b c T := h.get s
  have hrun := run_clear_many (P := P) w t e o.type z ht hv m hm (zero_ones z h1 h0 m) b off cp (fun j hj => by rw [hb.cell, List.getElem?_eq_getElem (by omega)]; rfl) (fun j hj => hb.free _)
  refine wpList_val hg ?_ (hK _ _ (setL_length _ _ _) (take_setL_low _ _ _ _ (Nat.le_refl _)) (h.stores s off (Builtin.zeroCells z.cells m).toList))
  simp [execOp, hop, resolve, invoke, builtin, hx, hrun, Result.andThen]
end
end Go.Proofs.YtpbeennielgogaaDoor
end

section
namespace Go
open _root_.Go.Proofs.YtpbeennielgogaaDoor
open Go.RowKit
set_option linter.unusedVariables false
set_option linter.unusedSimpArgs false

section
variable {P : Program} {ops : Array Oper} {rest : List Oper} {o : Oper} {a : Act} {Q : Exit → Act → World → Prop} {L0 L F : List Part} {w0 w : World}
/-- a row of no element is laid -/
theorem wpList_zero_at {t : TypeId} {e : TypeId} (size : Nat) (hg : o.guard = none) (hop : o.op = .buildSlice t 0 #[])
    (hrun : ∀ w, (Instr.buildSlice t 0 #[]).run P w = .ok (.slice (some ⟨w.heap.size, 0, none⟩) 0 0) (w.alloc (.cells #[] e))) (h : At L0 w0 L w)
    (hK : ∀ b w', At L0 w0 (Part.row e size (.slice (some ⟨b, 0, none⟩) 0 0) 0 [] :: L) w' → wpList P ops Q rest (a.put o.dst (.slice (some ⟨b, 0, none⟩) 0 0)) w') : wpList P ops Q (o :: rest) a w := by
  refine wpList_val hg (v := .slice (some ⟨w.heap.size, 0, none⟩) 0 0) (w' := w.alloc (.cells #[] e)) (by simp [execOp, hop, hrun, Result.andThen]) (hK _ _ ?_)
  refine h.new ((Ext.refl w).alloc _) _ ⟨by simp, .inr ⟨w.heap.size, 0, #[], rfl, Nat.zero_le _, heap_alloc_new w _, Nat.le_refl _, Nat.zero_le _, by simp, by simp⟩⟩ (fun b hb => ?_)
  have hb2 : (Value.slice (some ⟨w.heap.size, 0, none⟩) 0 0).ownBlock = some b := hb
  cases hb2
  exact Nat.le_refl _
/-- an element loaded whole -/
theorem opLoadRow_at {i : Nat} {d : Option Tmp} {o : Oper} {a : Act} {K : Act → World → Prop} (ho : ops[i]? = some o) (hd : o.dst = d) (hw : Region.wanted o (yielded ops a.tmps) = true) {ty : TypeId} {x : Operand} (hop : o.op = .load ty x) {b j : Nat} (hx : a.eval x = .pointer (some ⟨b, j, none⟩)) {c : List Value} {T : TypeId} (h : At L0 w0 L w) (s : Sel (Part.cells b c T) L F)
    (hu : (P.underlying ty).map (·.isRow) = some true) {n : Nat} (hi : (P.info? ty).map (·.size) = some n) {vs : List Value} (hv : (c.drop j).take n = vs) (hl : vs.length = n)
    (hK : K (a.put d (.agg vs.toArray)) w) : wpOp P ops Q i K a w := by
  subst hd
  have hr := run_load_row (P := P) (o := o) (a := a) hop hx (h.get s) hu hi hv hl
  exact wpOp_val ho hw (v := .agg vs.toArray) (w' := w) hr hK
end
end Go
namespace Go.Proofs.YtpbeennielgogaaDoor
open Go.RowKit
theorem through1 {L0 L F : List Part} {w0 w : World} {A : Part} {P : Program} {f : FuncId} {args : Array Value} {v : Value} (s : Sel A L F) (h : At L0 w0 L w) (hc : ∀ w1, Sep [A] w1 → Calls P f args w1 fun e w' => e = .returned v ∧ At [A] w1 [A] w') :
    Calls P f args w fun e w' => e = .returned v ∧ At L0 w0 L w' := h.through (Eqv.perm s.perm) (hc w)
/-- the same, behind the call -/
theorem thr1 {L0 L F : List Part} {w0 w w' : World} {A : Part} (s : Sel A L F) (h : At L0 w0 L w) (hT : At [A] w [A] w') : At L0 w0 L w' :=
  ((h.to (Eqv.perm s.perm)).frame (K := [A]) hT).to (Eqv.perm s.perm).symm
end Go.Proofs.YtpbeennielgogaaDoor
end

section
namespace Go.Proofs.YtpbeennielgogaaDoor.Ix
open Go.RowKit
open Go.Maps (Keyed)
open Path (bl rightB overB)
open Attr (A8 rightI)
open Cmd (Cm keyC footC through0)
set_option linter.unusedSimpArgs false
set_option linter.unusedVariables false
attribute [-go_sem] run_eql_struct run_neq_struct run_eqGuard_agg
attribute [local go_sem] Attr.guardA Attr.eqlA

theorem Op12.cells_len (o : Op12) : o.cells.length = 22 := rfl
theorem Op12.ones (o : Op12) : o.cells.all (·.oneCell') = true := rfl
theorem Op12.one (o : Op12) : ∀ u ∈ o.cells, u.oneCell' = true := List.all_eq_true.1 o.ones
def flatO (l : List Op12) : List Value := l.flatMap Op12.cells
theorem flatO_len (l : List Op12) : (flatO l).length = l.length * 22 := flat_len _ _ Op12.cells_len _
theorem flatO_one (l : List Op12) : ∀ u ∈ flatO l, u.oneCell' = true := by
  intro u hu
  obtain ⟨o, _, ho⟩ := List.mem_flatMap.1 hu
  exact o.one u ho
theorem infoO : (Tryd.prog.info? 44).map (fun i => (i.zero, i.size, i.bytes)) = some (some (.agg #[.int .i64 0, .int .i64 0, .int .u64 0, .string .empty, .int .u64 0, .string .empty, .int .i64 0, .int .u64 0, .int .i64 0, .int .i64 0, .int .i64 0, .int .i64 0, .string .empty, .int .u64 0, .int .i64 0, .int .i64 0, .int .i64 0, .int .i64 0, .int .i64 0, .int .i64 0, .int .i64 0, .int .i64 0]), 22, 200) := by kernel_rfl
theorem reads_ops {W w : World} {v : Value} {os : List Op12} (h : OpsAt W v os) (hw : (Part.old W).holds w) : Reads w v os.length (flatO os) := by
  obtain ⟨sa, sc, rfl, hel⟩ := h
  refine ⟨sa, sc, rfl, ?_, ?_⟩
  · intro hs
    rcases Nat.eq_zero_or_pos os.length with q | q
    · exact q
    · obtain ⟨b, off, h1, _⟩ := hel 0 q
      rw [hs] at h1
      cases h1
  · intro j u hj
    have hj0 := (List.getElem?_eq_some_iff.1 hj).1
    rw [flatO_len] at hj0
    have hi : j / 22 < os.length := by omega
    have h1 := flat_at Op12.cells 22 Op12.cells_len os (j / 22) os[j / 22] (List.getElem?_eq_getElem hi) (j % 22) (Nat.mod_lt _ (by omega))
    have h2 : j / 22 * 22 + j % 22 = j := by omega
    rw [h2] at h1
    obtain ⟨b, off, rfl, hc, _⟩ := hel (j / 22) hi
    refine ⟨b, off, rfl, ?_⟩
    have h3 := old_cell hw (hc (j % 22) u (by rw [← h1]; exact hj))
    rw [Nat.add_assoc, h2] at h3
    exact h3
theorem elem_cells {c : List Value} {l : List Op12} {q : Nat} {x : Op12} (hct : c.take (l.length * 22) = flatO l) (hx : l[q]? = some x) : (c.drop (q * 22)).take 22 = x.cells := by
  apply List.ext_getElem?
  intro j
  by_cases hj : j < 22
  · rw [List.getElem?_take, if_pos hj, List.getElem?_drop, cells_at Op12.cells_len hct hx j hj]
  · rw [List.getElem?_eq_none (by simp; omega), List.getElem?_eq_none (by rw [Op12.cells_len]; omega)]
theorem swap_cells {c : List Value} {l : List Op12} {q : Nat} {x y : Op12} (hct : c.take (l.length * 22) = flatO l) (hx : l[q]? = some x) (hy : l[q + 1]? = some y) :
    (setL (setL c (q * 22) y.cells) ((q + 1) * 22) x.cells).take (l.length * 22) = flatO (swapN l q) := by
  have h1 := (List.getElem?_eq_some_iff.1 hx).1
  have h2 := (List.getElem?_eq_some_iff.1 hy).1
  have h3 := write_row Op12.cells_len hct h1 y
  have h4 := write_row Op12.cells_len h3 (i := q + 1) (by rw [List.length_set]; exact h2) x
  rw [List.length_set, List.length_set] at h4
  rw [h4]
  unfold swapN flatO
  rw [hx, hy]
def twice (l : List Op12) : Nat → List En
  | 0 => []
  | j + 1 => l.foldl stepE (twice l j)
theorem take_snoc {α : Type} {l : List α} {i : Nat} {x : α} (h : l[i]? = some x) : l.take (i + 1) = l.take i ++ [x] := by
  obtain ⟨hi, rfl⟩ := List.getElem?_eq_some_iff.1 h
  exact List.take_succ_eq_append_getElem hi
theorem reads_elem {w : World} {ax : Option Addr} {n cap i : Nat} {l : List Op12} {o : Op12} (h : Reads w (.slice ax n cap) n (flatO l)) (ho : l[i]? = some o) :
    ∃ b off, ax = some ⟨b, off, none⟩ ∧ ∀ (k : Nat) u, o.cells[k]? = some u → w.cell? ⟨b, off + i * 22 + k, none⟩ = some u := by
  obtain ⟨ax', c, hv, _, hx⟩ := h
  cases hv
  have hat := flat_at Op12.cells 22 Op12.cells_len l i o ho
  obtain ⟨b, off, rfl, _⟩ := hx (i * 22 + 0) _ (by rw [show flatO l = l.flatMap Op12.cells from rfl, hat 0 (by omega)]; rfl)
  refine ⟨b, off, rfl, fun k u hk => ?_⟩
  have hk2 : k < 22 := by have := (List.getElem?_eq_some_iff.1 hk).1; rwa [Op12.cells_len] at this
  obtain ⟨b', off', he, hc⟩ := hx (i * 22 + k) u (by rw [show flatO l = l.flatMap Op12.cells from rfl, hat k hk2]; exact hk)
  cases he
  rw [Nat.add_assoc]
  exact hc
def SwRel (w : World) (p m p2 m2 b6 b7 : Nat) (ax : Option Addr) (cap : Nat) (a : Cm) (ir it : Int) (os : List Op12) (zs : List Int) (k : Nat) (u : Value) (wr : World) : Prop :=
  ∃ (i : Nat) (l : List Op12), u = .int .i64 i ∧ i + k = zs.length ∧ l.Perm os ∧ At [Part.old w] w [Part.row 44 22 (.slice ax os.length cap) os.length (flatO l), IxP p2 m2 [], IxP p m [], Part.cells b6 [.int .i64 a.kind, .int .u64 a.num, .string a.foot, .int .u64 a.req, .string a.path, .int .i64 a.mode, .int .u64 a.n, .int .i64 a.time] 28, Part.cells b7 [.int .i64 ir, .int .i64 it] 30, Part.old w] wr
def ShRel (w : World) (p m p2 m2 b6 b7 b14 : Nat) (ax : Option Addr) (cap : Nat) (a : Cm) (ir it : Int) (os l : List Op12) (k : Nat) (u : Value) (wr : World) : Prop :=
  ∃ (i : Nat) (es : List En) (f : A8), u = .int .i64 i ∧ i + k = os.length ∧ FineL es ∧ es.length ≤ i ∧ es = (os.take i).foldl stepE [] ∧ (∀ es', Grow es es' → (f.own ir it).merge (askE es' (keyC a) ir it) = askE es' (keyC a) ir it) ∧ At [Part.old w] w [IxP p m es, Part.cells b14 [.int .i64 f.s, .int .i64 f.d0, .int .i64 f.d1, .int .i64 f.d2, .int .i64 f.d3, .int .i64 f.d4, .int .i64 f.d5, .int .i64 f.d6] 40, Part.row 44 22 (.slice ax os.length cap) os.length (flatO l), IxP p2 m2 [], Part.cells b6 [.int .i64 a.kind, .int .u64 a.num, .string a.foot, .int .u64 a.req, .string a.path, .int .i64 a.mode, .int .u64 a.n, .int .i64 a.time] 28, Part.cells b7 [.int .i64 ir, .int .i64 it] 30, Part.old w] wr
def OuRel (w : World) (p m p2 m2 b6 b7 b14 : Nat) (ax : Option Addr) (cap : Nat) (a : Cm) (ir it : Int) (os l : List Op12) (es : List En) (f : A8) (k : Nat) (u : Value) (wr : World) : Prop :=
  ∃ (j : Nat), u = .int .i64 j ∧ j + k = 2 ∧ FineL (twice l j) ∧ (twice l j).length ≤ j * 30 ∧ At [Part.old w] w [IxP p m es, IxP p2 m2 (twice l j), Part.cells b14 [.int .i64 f.s, .int .i64 f.d0, .int .i64 f.d1, .int .i64 f.d2, .int .i64 f.d3, .int .i64 f.d4, .int .i64 f.d5, .int .i64 f.d6] 40, Part.row 44 22 (.slice ax os.length cap) os.length (flatO l), Part.cells b6 [.int .i64 a.kind, .int .u64 a.num, .string a.foot, .int .u64 a.req, .string a.path, .int .i64 a.mode, .int .u64 a.n, .int .i64 a.time] 28, Part.cells b7 [.int .i64 ir, .int .i64 it] 30, Part.old w] wr
def InRel (w : World) (p m p2 m2 b6 b7 b14 : Nat) (ax : Option Addr) (cap : Nat) (a : Cm) (ir it : Int) (os l : List Op12) (es : List En) (f : A8) (j : Nat) (k : Nat) (u : Value) (wr : World) : Prop :=
  ∃ (i : Nat) (es2 : List En), u = .int .i64 i ∧ i + k = os.length ∧ FineL es2 ∧ es2.length ≤ j * 30 + i ∧ es2 = (l.take i).foldl stepE (twice l j) ∧ At [Part.old w] w [IxP p m es, IxP p2 m2 es2, Part.cells b14 [.int .i64 f.s, .int .i64 f.d0, .int .i64 f.d1, .int .i64 f.d2, .int .i64 f.d3, .int .i64 f.d4, .int .i64 f.d5, .int .i64 f.d6] 40, Part.row 44 22 (.slice ax os.length cap) os.length (flatO l), Part.cells b6 [.int .i64 a.kind, .int .u64 a.num, .string a.foot, .int .u64 a.req, .string a.path, .int .i64 a.mode, .int .u64 a.n, .int .i64 a.time] 28, Part.cells b7 [.int .i64 ir, .int .i64 it] 30, Part.old w] wr
set_option maxRecDepth 100000 in
set_option maxHeartbeats 4000000 in
theorem shuffles_law {w : World} {va vz : Value} {os : List Op12} {zs : List Int} (hops : OpsAt w va os) (hol : os.length ≤ 9223372036854775807) (hzs : IntsAt w vz zs) (hzl : zs.length ≤ 9223372036854775807) (a : Cm) (ir it : Int) :
    Calls Tryd.prog 3 #[va, vz, a.val, .agg #[.int .i64 ir, .int .i64 it]] w fun e w' => e = .returned (.bool true) ∧ Below w.heap.size w w' := by
  have hA : At [Part.old w] w [Part.old w] w := At.start ⟨fun _ _ => rfl, trivial, nofun⟩
  have hF := hA.facts
  obtain ⟨i0, hi0, hz0, hz1, hz2⟩ := info_parts infoO
  have hm : Tryd.prog.follows .mixedOrders = true := by kernel_rfl
  have hf1 := fun (w1 : World) (q : Sep [Part.old w] w1) => fits_any q hops 30 hol
  have hs1 := fun w => small_any a w
  obtain ⟨f1, hf1d⟩ : ∃ x, fitsB os 30 = x := ⟨_, rfl⟩
  obtain ⟨s1, hs1d⟩ : ∃ x, smallB a = x := ⟨_, rfl⟩
  obtain ⟨l0, hl0⟩ : ∃ x, decide ((100 : Int) < (zs.length : Int)) = x := ⟨_, rfl⟩
  rw [hf1d] at hf1
  rw [hs1d] at hs1
  have hall := Lib.hid (show fitsB os 30 = f1 ∧ smallB a = s1 from ⟨hf1d, hs1d⟩)
  clear hf1d hs1d
  have hops' := Lib.hid hops
  obtain ⟨sa, sc, rfl, hel⟩ := hops
  obtain ⟨ta, tc, rfl, hez⟩ := hzs
  have hel' := Lib.hid hel
  have hez' := Lib.hid hez
  clear hel hez
  simp only [Cm.val] at *
  (try simp only [uA] at hA); have hF := hA.facts; (try simp only [fA, facts_row, and_true, true_and] at hF)
  go_enter Tryd.func3, Tryd.ntmps3
  go_wp2_with (first | ((with_reducible show wpList _ _ _ ({ dst := some 6, op := Op.box _ _, type := _, pos := _, after := _, guard := _ } :: _) _ _); ((with_reducible refine gbx ?_); refine wX 28 (.agg #[.int .i64 a.kind, .int .u64 a.num, .string a.foot, .int .u64 a.req, .string a.path, .int .i64 a.mode, .int .u64 a.n, .int .i64 a.time]) [.int .i64 a.kind, .int .u64 a.num, .string a.foot, .int .u64 a.req, .string a.path, .int .i64 a.mode, .int .u64 a.n, .int .i64 a.time] hA ?_; clear hF hA; intro b6 w1 hA hb6; (try simp only [uA] at hA); have hF := hA.facts; (try simp only [fA, facts_row, and_true, true_and] at hF))) | ((with_reducible show wpList _ _ _ ({ dst := some 7, op := Op.box _ _, type := _, pos := _, after := _, guard := _ } :: _) _ _); ((with_reducible refine gbx ?_); refine wX 30 (.agg #[.int .i64 ir, .int .i64 it]) [.int .i64 ir, .int .i64 it] hA ?_; clear hF hA; intro b7 w1 hA hb7; (try simp only [uA] at hA); have hF := hA.facts; (try simp only [fA, facts_row, and_true, true_and] at hF))) | ((with_reducible refine gst ?_); refine wS hA ?_; clear hF hA; intro w1 hA; (try simp only [uA] at hA); have hF := hA.facts; (try simp only [fA, facts_row, and_true, true_and] at hF)) | ((with_reducible refine gbx ?_); refine wB hA ?_; clear hF hA; intro b1 w1 hA hb1; (try simp only [uA] at hA); have hF := hA.facts; (try simp only [fA, facts_row, and_true, true_and] at hF)))
  refine (anchor_any _).mono ?_
  rintro e w1 ⟨rfl, hx⟩
  have hB := hA.ext hx
  clear hF hA hx
  have hA := hB
  clear hB
  have hF := hA.facts
  (try simp only [uA] at hA); have hF := hA.facts; (try simp only [fA, facts_row, and_true, true_and] at hF)
  go_wp2_with (first | ((with_reducible refine gst ?_); refine wS hA ?_; clear hF hA; intro w1 hA; (try simp only [uA] at hA); have hF := hA.facts; (try simp only [fA, facts_row, and_true, true_and] at hF)) | ((with_reducible refine gbx ?_); refine wB hA ?_; clear hF hA; intro b1 w1 hA hb1; (try simp only [uA] at hA); have hF := hA.facts; (try simp only [fA, facts_row, and_true, true_and] at hF)))
  refine (hf1 _ (hA.sep1 (A := Part.old w) (by with_reducible repeat (first | exact Sel.here | apply Sel.there)))).mono ?_
  clear hf1
  rintro e w1 ⟨rfl, hT⟩; have hB := hA.call1 (by with_reducible repeat (first | exact Sel.here | apply Sel.there)) hT; clear hF hA hT; have hA := hB; clear hB; (try simp only [uA] at hA); have hF := hA.facts; (try simp only [fA, facts_row, and_true, true_and] at hF)
  cases f1
  · go_wp2_with (first | ((with_reducible refine gst ?_); refine wS hA ?_; clear hF hA; intro w1 hA; (try simp only [uA] at hA); have hF := hA.facts; (try simp only [fA, facts_row, and_true, true_and] at hF)) | ((with_reducible refine gbx ?_); refine wB hA ?_; clear hF hA; intro b1 w1 hA hb1; (try simp only [uA] at hA); have hF := hA.facts; (try simp only [fA, facts_row, and_true, true_and] at hF)))
    go_ret
    exact ⟨rfl, below_old hA (by with_reducible repeat (first | exact Sel.here | apply Sel.there))⟩
  · skip
    cases l0
    · skip
      go_wp2_with (first | ((with_reducible refine gst ?_); refine wS hA ?_; clear hF hA; intro w1 hA; (try simp only [uA] at hA); have hF := hA.facts; (try simp only [fA, facts_row, and_true, true_and] at hF)) | ((with_reducible refine gbx ?_); refine wB hA ?_; clear hF hA; intro b1 w1 hA hb1; (try simp only [uA] at hA); have hF := hA.facts; (try simp only [fA, facts_row, and_true, true_and] at hF)))
      refine (hs1 _).mono ?_
      clear hs1
      rintro e w1 ⟨rfl, hx⟩
      have hB := hA.ext hx
      clear hF hA hx
      have hA := hB
      clear hB
      have hF := hA.facts
      (try simp only [uA] at hA); have hF := hA.facts; (try simp only [fA, facts_row, and_true, true_and] at hF)
      cases s1
      · go_wp2_with (first | ((with_reducible refine gst ?_); refine wS hA ?_; clear hF hA; intro w1 hA; (try simp only [uA] at hA); have hF := hA.facts; (try simp only [fA, facts_row, and_true, true_and] at hF)) | ((with_reducible refine gbx ?_); refine wB hA ?_; clear hF hA; intro b1 w1 hA hb1; (try simp only [uA] at hA); have hF := hA.facts; (try simp only [fA, facts_row, and_true, true_and] at hF)))
        go_ret
        exact ⟨rfl, below_old hA (by with_reducible repeat (first | exact Sel.here | apply Sel.there))⟩
      · skip
        have has := Lib.hid (show smallB a = true from hall.out.2)
        have haf : a.foot.size ≤ 1000 ∧ a.path.size ≤ 1000 := by have h := has.out; unfold smallB at h; simp at h; omega
        have hos30 : os.length ≤ 30 ∧ (∀ o ∈ os, okB o = true) := by have h := hall.out.1; unfold fitsB at h; simp only [Bool.and_eq_true, List.all_eq_true, decide_eq_true_iff] at h; exact ⟨by omega, h.1⟩
        have hosk := Lib.hid hos30.2
        obtain ⟨hos30, _⟩ := hos30
        go_wp2_with (first | ((with_reducible refine gst ?_); refine wS hA ?_; clear hF hA; intro w1 hA; (try simp only [uA] at hA); have hF := hA.facts; (try simp only [fA, facts_row, and_true, true_and] at hF)) | ((with_reducible refine gbx ?_); refine wB hA ?_; clear hF hA; intro b1 w1 hA hb1; (try simp only [uA] at hA); have hF := hA.facts; (try simp only [fA, facts_row, and_true, true_and] at hF)))
        refine (new_any _).mono ?_
        rintro e w2 ⟨p, m, rfl, hT⟩
        have hB := hA.call0 hT
        clear hF hA hT
        have hA := hB
        clear hB
        simp only [List.cons_append, List.nil_append] at hA
        have hF := hA.facts
        (try simp only [uA] at hA); have hF := hA.facts; (try simp only [fA, facts_row, and_true, true_and] at hF)
        go_wp2_with (first | ((with_reducible refine gst ?_); refine wS hA ?_; clear hF hA; intro w1 hA; (try simp only [uA] at hA); have hF := hA.facts; (try simp only [fA, facts_row, and_true, true_and] at hF)) | ((with_reducible refine gbx ?_); refine wB hA ?_; clear hF hA; intro b1 w1 hA hb1; (try simp only [uA] at hA); have hF := hA.facts; (try simp only [fA, facts_row, and_true, true_and] at hF)))
        refine (new_any _).mono ?_
        rintro e w2 ⟨p2, m2, rfl, hT⟩
        have hB := hA.call0 hT
        clear hF hA hT
        have hA := hB
        clear hB
        simp only [List.cons_append, List.nil_append] at hA
        have hF := hA.facts
        (try simp only [uA] at hA); have hF := hA.facts; (try simp only [fA, facts_row, and_true, true_and] at hF)
        go_wp2_with (first | ((with_reducible show wpList _ _ _ ({ dst := _, op := Op.buildSlice _ _ _, type := _, pos := _, after := _, guard := _ } :: _) _ _); refine wpList_zero_at (e := 44) 22 rfl rfl (fun _ => by kernel_rfl) hA ?_; intro b37 w1 hB; clear hF hA; have hA := hB; clear hB; (try simp only [uA] at hA); have hF := hA.facts; (try simp only [fA, facts_row, and_true, true_and] at hF)) | ((with_reducible show wpList _ _ _ ({ dst := _, op := Op.call { callee := Callee.builtin Builtin.append, args := _, argTypes := _ }, type := _, pos := _, after := _, guard := _ } :: _) _ _); refine wpList_append_at (e := 44) (size := 22) (v := .slice (some ⟨b37, 0, none⟩) 0 0) (xs := []) (n := 0) (m := os.length) (news := flatO os) rfl _ _ 22 rfl Tryd.underlying22 hi0 hz0 hz1 hz2 rfl (by omega) hA (by with_reducible repeat (first | exact Sel.here | apply Sel.there)) (by (try simp only [Act.eval, eV]) <;> exact rfl) (by (try simp only [Act.eval, eV]) <;> exact rfl) (flatO_len _) (reads_ops hops'.out (hA.get (A := Part.old w) (by with_reducible repeat (first | exact Sel.here | apply Sel.there)))) (flatO_one _) (by unfold maxLen; omega) (by omega) ?_; intro v1 w1 hB; rw [Nat.zero_add, List.nil_append] at hB; obtain ⟨ax, cap, hv1, hax, hcp, _⟩ := hB.row_form .here; subst hv1; have hax' := Lib.hid hax; clear hF hA hax; have hA := hB; clear hB; (try simp only [uA] at hA); have hF := hA.facts; (try simp only [fA, facts_row, and_true, true_and] at hF)) | ((with_reducible refine gst ?_); refine wS hA ?_; clear hF hA; intro w1 hA; (try simp only [uA] at hA); have hF := hA.facts; (try simp only [fA, facts_row, and_true, true_and] at hF)) | ((with_reducible refine gbx ?_); refine wB hA ?_; clear hF hA; intro b1 w1 hA hb1; (try simp only [uA] at hA); have hF := hA.facts; (try simp only [fA, facts_row, and_true, true_and] at hF)))
        try go_frame
        go_loopg [42] zs.length (SwRel w p m p2 m2 b6 b7 ax cap a ir it os zs)
        case atStart => exact ⟨0, os, rfl, by simp, List.Perm.refl _, hA.pick (by repeat (first | exact Picks.nil | refine Picks.cons (by repeat (first | exact Sel.here | apply Sel.there)) ?_))⟩
        case round =>
          obtain ⟨i, l, rfl, hik, hpm, hB⟩ := hrel
          have hpm' := Lib.hid hpm
          clear hF hA hpm
          have hA := hB
          clear hB
          by_cases hi : i < zs.length
          · obtain ⟨bz, offz, rfl, hce0⟩ := hez'.out i hi
            have hce := old_cell (hA.get (A := Part.old w) (by with_reducible repeat (first | exact Sel.here | apply Sel.there))) hce0
            clear hce0
            generalize zs.getD i 0 = z at *
            have hF := hA.facts
            (try simp only [uA] at hA); have hF := hA.facts; (try simp only [fA, facts_row, and_true, true_and] at hF)
            by_cases hz : z < 0
            · have hz' : decide (0 ≤ z) = false := by simp; omega
              go_wp2_with (first | ((with_reducible refine gst ?_); refine wS hA ?_; clear hF hA; intro w1 hA; (try simp only [uA] at hA); have hF := hA.facts; (try simp only [fA, facts_row, and_true, true_and] at hF)) | ((with_reducible refine gbx ?_); refine wB hA ?_; clear hF hA; intro b1 w1 hA hb1; (try simp only [uA] at hA); have hF := hA.facts; (try simp only [fA, facts_row, and_true, true_and] at hF)))
              go_roundg (gk - 1)
              case measure => omega
              case rel => exact ⟨i + 1, l, by simp, by omega, hpm'.out, hA.pick (by repeat (first | exact Picks.nil | refine Picks.cons (by repeat (first | exact Sel.here | apply Sel.there)) ?_))⟩
            · obtain ⟨q, rfl⟩ : ∃ q : Nat, z = q := ⟨z.toNat, by omega⟩
              clear hz
              by_cases hq : q + 1 < os.length
              · skip
                have hq1 : decide ((q : Int) < (os.length : Int) - 1) = true := by simp; omega
                go_wp2_with (first | ((with_reducible refine gst ?_); refine wS hA ?_; clear hF hA; intro w1 hA; (try simp only [uA] at hA); have hF := hA.facts; (try simp only [fA, facts_row, and_true, true_and] at hF)) | ((with_reducible refine gbx ?_); refine wB hA ?_; clear hF hA; intro b1 w1 hA hb1; (try simp only [uA] at hA); have hF := hA.facts; (try simp only [fA, facts_row, and_true, true_and] at hF)))
                obtain ⟨g, c, hax2, hcp2, hcm, hcl, hct, hB⟩ := hA.row_open .here (by omega)
                have hll := hpm'.out.length_eq
                obtain ⟨x, hx⟩ : ∃ x, l[q]? = some x := ⟨_, List.getElem?_eq_getElem (by omega)⟩
                obtain ⟨y, hy⟩ : ∃ y, l[q + 1]? = some y := ⟨_, List.getElem?_eq_getElem (by omega)⟩
                rw [← hll] at hct
                have hv0 := elem_cells hct hx
                have hv1 := elem_cells hct hy
                have hnew := swap_cells hct hx hy
                rw [hll] at hnew
                clear hct hll hx hy
                subst hax2
                clear hF hA
                have hA := hB.drew
                clear hB
                refine wp_region_held (S := fun _ => True) hm ?_
                change wpAnyH _ _ _ _ _ 18 _ _ (World.drew _)
                generalize World.drew _ = w2 at *
                have hwr : IntKind.i64.wrap ((q : Int) + 1) = (q : Int) + 1 := by rw [IntKind.wrap_i64] <;> omega
                refine wpAnyH_takeD (i := 0) (d := some 55) (v := .slice (some ⟨g, 0, none⟩) os.length cap) rfl rfl (by kernel_rfl) (by kernel_rfl) (by kernel_rfl) (fun _ _ _ h => h) rfl (fun w' hS => by simp [execOp, go_sem, Act.eval, Act.put]) trivial ?_
                go_frame
                refine wpAnyH_takeD (i := 1) (d := some 56) (v := .int .i64 q) rfl rfl (by kernel_rfl) (by kernel_rfl) (by kernel_rfl) (fun _ _ _ h => h) rfl (fun w' hS => by simp [execOp, go_sem, Act.eval, Act.put]) trivial ?_
                go_frame
                refine wpAnyH_takeD (i := 2) (d := some 57) (v := .slice (some ⟨g, 0, none⟩) os.length cap) rfl rfl (by kernel_rfl) (by kernel_rfl) (by kernel_rfl) (fun _ _ _ h => h) rfl (fun w' hS => by simp [execOp, go_sem, Act.eval, Act.put]) trivial ?_
                go_frame
                refine wpAnyH_takeD (i := 3) (d := some 58) (v := .int .i64 q) rfl rfl (by kernel_rfl) (by kernel_rfl) (by kernel_rfl) (fun _ _ _ h => h) rfl (fun w' hS => by simp [execOp, go_sem, Act.eval, Act.put]) trivial ?_
                go_frame
                refine wpAnyH_takeD (i := 4) (d := some 59) (v := .int .i64 ((q : Int) + 1)) rfl rfl (by kernel_rfl) (by kernel_rfl) (by kernel_rfl) (fun _ _ _ h => h) rfl (fun w' hS => by simp [execOp, go_sem, Act.eval, Act.put, hwr]) trivial ?_
                go_frame
                refine wpAnyH_takeD (i := 5) (d := some 60) (v := .slice (some ⟨g, 0, none⟩) os.length cap) rfl rfl (by kernel_rfl) (by kernel_rfl) (by kernel_rfl) (fun _ _ _ h => h) rfl (fun w' hS => by simp [execOp, go_sem, Act.eval, Act.put]) trivial ?_
                go_frame
                refine wpAnyH_takeD (i := 6) (d := some 61) (v := .int .i64 q) rfl rfl (by kernel_rfl) (by kernel_rfl) (by kernel_rfl) (fun _ _ _ h => h) rfl (fun w' hS => by simp [execOp, go_sem, Act.eval, Act.put]) trivial ?_
                go_frame
                refine wpAnyH_takeD (i := 7) (d := some 62) (v := .int .i64 ((q : Int) + 1)) rfl rfl (by kernel_rfl) (by kernel_rfl) (by kernel_rfl) (fun _ _ _ h => h) rfl (fun w' hS => by simp [execOp, go_sem, Act.eval, Act.put, hwr]) trivial ?_
                go_frame
                refine wpAnyH_takeD (i := 8) (d := some 63) (v := .pointer (some ⟨g, (q + 1) * 22, none⟩)) rfl rfl (by kernel_rfl) (by kernel_rfl) (by kernel_rfl) (fun _ _ _ h => h) rfl (fun w' hS => by simp [execOp, go_sem, Act.eval, Act.put]; intro h; have := h (by omega); omega) trivial ?_
                go_frame
                refine wpAnyH_takeD (i := 10) (d := some 65) (v := .slice (some ⟨g, 0, none⟩) os.length cap) rfl rfl (by kernel_rfl) (by kernel_rfl) (by kernel_rfl) (fun _ _ _ h => h) rfl (fun w' hS => by simp [execOp, go_sem, Act.eval, Act.put]) trivial ?_
                go_frame
                refine wpAnyH_takeD (i := 11) (d := some 66) (v := .int .i64 q) rfl rfl (by kernel_rfl) (by kernel_rfl) (by kernel_rfl) (fun _ _ _ h => h) rfl (fun w' hS => by simp [execOp, go_sem, Act.eval, Act.put]) trivial ?_
                go_frame
                refine wpAnyH_takeD (i := 12) (d := some 67) (v := .pointer (some ⟨g, q * 22, none⟩)) rfl rfl (by kernel_rfl) (by kernel_rfl) (by kernel_rfl) (fun _ _ _ h => h) rfl (fun w' hS => by simp [execOp, go_sem, Act.eval, Act.put]; intro h; omega) trivial ?_
                go_frame
                refine wpAnyH_two (i := 9) (j := 13) (by kernel_rfl) ?_ ?_
                · refine opLoadRow_at (d := some 64) (n := 22) (b := g) (j := (q + 1) * 22) (vs := y.cells) rfl rfl (by kernel_rfl) rfl (by exact rfl) hA .here (by kernel_rfl) (by kernel_rfl) hv1 (Op12.cells_len _) ?_
                  refine ⟨trivial, ?_⟩
                  go_frame
                  refine wpAnyH_one (i := 13) (by kernel_rfl) ?_
                  refine opLoadRow_at (d := some 68) (n := 22) (b := g) (j := q * 22) (vs := x.cells) rfl rfl (by kernel_rfl) rfl (by exact rfl) hA .here (by kernel_rfl) (by kernel_rfl) hv0 (Op12.cells_len _) ?_
                  refine ⟨trivial, ?_⟩
                  go_frame
                  refine wpAnyH_takeD (i := 14) (d := some 69) (v := .pointer (some ⟨g, q * 22, none⟩)) rfl rfl (by kernel_rfl) (by kernel_rfl) (by kernel_rfl) (fun _ _ _ h => h) rfl (fun w' hS => by simp [execOp, go_sem, Act.eval, Act.put]; intro h; omega) trivial ?_
                  go_frame
                  refine wpAnyH_one (i := 15) (by kernel_rfl) ?_
                  refine opStore_at (b := g) (j := q * 22) (vs := y.cells) rfl rfl (by kernel_rfl) rfl (by exact rfl) (by exact rfl) rfl hA .here (by kernel_rfl) (Op12.ones _) (by rw [Op12.cells_len, hcl]; omega) ?_
                  intro w3 hB
                  clear hA
                  have hA := hB
                  clear hB
                  refine ⟨trivial, ?_⟩
                  go_frame
                  refine wpAnyH_takeD (i := 16) (d := some 70) (v := .pointer (some ⟨g, (q + 1) * 22, none⟩)) rfl rfl (by kernel_rfl) (by kernel_rfl) (by kernel_rfl) (fun _ _ _ h => h) rfl (fun w' hS => by simp [execOp, go_sem, Act.eval, Act.put]; intro h; have := h (by omega); omega) trivial ?_
                  go_frame
                  refine wpAnyH_one (i := 17) (by kernel_rfl) ?_
                  refine opStore_at (b := g) (j := (q + 1) * 22) (vs := x.cells) rfl rfl (by kernel_rfl) rfl (by exact rfl) (by exact rfl) rfl hA .here (by kernel_rfl) (Op12.ones _) (by rw [Op12.cells_len, setL_length, hcl]; omega) ?_
                  intro w4 hB
                  clear hA
                  have hA := hB
                  clear hB
                  refine ⟨trivial, ?_⟩
                  go_frame
                  refine wpAnyH_done (by kernel_rfl) ?_ _
                  try go_frame
                  have hB := hA.row_shut .here (n := os.length) (size := 22) (cap := cap) (by rw [setL_length, setL_length, hcl]) hcp2 hcm hnew
                  clear hA
                  have hA := hB
                  clear hB
                  have hF := hA.facts
                  (try simp only [uA] at hA); have hF := hA.facts; (try simp only [fA, facts_row, and_true, true_and] at hF)
                  go_wp2_with (first | ((with_reducible refine gst ?_); refine wS hA ?_; clear hF hA; intro w1 hA; (try simp only [uA] at hA); have hF := hA.facts; (try simp only [fA, facts_row, and_true, true_and] at hF)) | ((with_reducible refine gbx ?_); refine wB hA ?_; clear hF hA; intro b1 w1 hA hb1; (try simp only [uA] at hA); have hF := hA.facts; (try simp only [fA, facts_row, and_true, true_and] at hF)))
                  go_roundg (gk - 1)
                  case measure => omega
                  case rel => exact ⟨i + 1, swapN l q, by simp, by omega, (swap_perm l q).trans hpm'.out, hA.pick (by repeat (first | exact Picks.nil | refine Picks.cons (by repeat (first | exact Sel.here | apply Sel.there)) ?_))⟩
                · refine opLoadRow_at (d := some 68) (n := 22) (b := g) (j := q * 22) (vs := x.cells) rfl rfl (by kernel_rfl) rfl (by exact rfl) hA .here (by kernel_rfl) (by kernel_rfl) hv0 (Op12.cells_len _) ?_
                  refine ⟨trivial, ?_⟩
                  go_frame
                  refine wpAnyH_one (i := 9) (by kernel_rfl) ?_
                  refine opLoadRow_at (d := some 64) (n := 22) (b := g) (j := (q + 1) * 22) (vs := y.cells) rfl rfl (by kernel_rfl) rfl (by exact rfl) hA .here (by kernel_rfl) (by kernel_rfl) hv1 (Op12.cells_len _) ?_
                  refine ⟨trivial, ?_⟩
                  go_frame
                  refine wpAnyH_takeD (i := 14) (d := some 69) (v := .pointer (some ⟨g, q * 22, none⟩)) rfl rfl (by kernel_rfl) (by kernel_rfl) (by kernel_rfl) (fun _ _ _ h => h) rfl (fun w' hS => by simp [execOp, go_sem, Act.eval, Act.put]; intro h; omega) trivial ?_
                  go_frame
                  refine wpAnyH_one (i := 15) (by kernel_rfl) ?_
                  refine opStore_at (b := g) (j := q * 22) (vs := y.cells) rfl rfl (by kernel_rfl) rfl (by exact rfl) (by exact rfl) rfl hA .here (by kernel_rfl) (Op12.ones _) (by rw [Op12.cells_len, hcl]; omega) ?_
                  intro w3 hB
                  clear hA
                  have hA := hB
                  clear hB
                  refine ⟨trivial, ?_⟩
                  go_frame
                  refine wpAnyH_takeD (i := 16) (d := some 70) (v := .pointer (some ⟨g, (q + 1) * 22, none⟩)) rfl rfl (by kernel_rfl) (by kernel_rfl) (by kernel_rfl) (fun _ _ _ h => h) rfl (fun w' hS => by simp [execOp, go_sem, Act.eval, Act.put]; intro h; have := h (by omega); omega) trivial ?_
                  go_frame
                  refine wpAnyH_one (i := 17) (by kernel_rfl) ?_
                  refine opStore_at (b := g) (j := (q + 1) * 22) (vs := x.cells) rfl rfl (by kernel_rfl) rfl (by exact rfl) (by exact rfl) rfl hA .here (by kernel_rfl) (Op12.ones _) (by rw [Op12.cells_len, setL_length, hcl]; omega) ?_
                  intro w4 hB
                  clear hA
                  have hA := hB
                  clear hB
                  refine ⟨trivial, ?_⟩
                  go_frame
                  refine wpAnyH_done (by kernel_rfl) ?_ _
                  try go_frame
                  have hB := hA.row_shut .here (n := os.length) (size := 22) (cap := cap) (by rw [setL_length, setL_length, hcl]) hcp2 hcm hnew
                  clear hA
                  have hA := hB
                  clear hB
                  have hF := hA.facts
                  (try simp only [uA] at hA); have hF := hA.facts; (try simp only [fA, facts_row, and_true, true_and] at hF)
                  go_wp2_with (first | ((with_reducible refine gst ?_); refine wS hA ?_; clear hF hA; intro w1 hA; (try simp only [uA] at hA); have hF := hA.facts; (try simp only [fA, facts_row, and_true, true_and] at hF)) | ((with_reducible refine gbx ?_); refine wB hA ?_; clear hF hA; intro b1 w1 hA hb1; (try simp only [uA] at hA); have hF := hA.facts; (try simp only [fA, facts_row, and_true, true_and] at hF)))
                  go_roundg (gk - 1)
                  case measure => omega
                  case rel => exact ⟨i + 1, swapN l q, by simp, by omega, (swap_perm l q).trans hpm'.out, hA.pick (by repeat (first | exact Picks.nil | refine Picks.cons (by repeat (first | exact Sel.here | apply Sel.there)) ?_))⟩
              · have hq1 : decide ((q : Int) < (os.length : Int) - 1) = false := by simp; omega
                go_wp2_with (first | ((with_reducible refine gst ?_); refine wS hA ?_; clear hF hA; intro w1 hA; (try simp only [uA] at hA); have hF := hA.facts; (try simp only [fA, facts_row, and_true, true_and] at hF)) | ((with_reducible refine gbx ?_); refine wB hA ?_; clear hF hA; intro b1 w1 hA hb1; (try simp only [uA] at hA); have hF := hA.facts; (try simp only [fA, facts_row, and_true, true_and] at hF)))
                go_roundg (gk - 1)
                case measure => omega
                case rel => exact ⟨i + 1, l, by simp, by omega, hpm'.out, hA.pick (by repeat (first | exact Picks.nil | refine Picks.cons (by repeat (first | exact Sel.here | apply Sel.there)) ?_))⟩
          · have hlm : l.length = os.length := hpm'.out.length_eq
            have hF := hA.facts
            (try simp only [uA] at hA); have hF := hA.facts; (try simp only [fA, facts_row, and_true, true_and] at hF)
            have hlm' := Lib.hid hlm
            clear hlm hik
            have hlo := Lib.hid (show ∀ o ∈ l, o.ok from fun o ho => by obtain ⟨j, hj, rfl⟩ := List.mem_iff_getElem.1 (hpm'.out.mem_iff.1 ho); obtain ⟨b, off, _, _, hn⟩ := hel'.out j hj; exact okB_ok (hosk.out _ (List.getElem_mem hj)) hn)
            go_wp2_with (first | ((with_reducible refine gal ?_); refine wA 40 (.agg #[.int .i64 0, .int .i64 0, .int .i64 0, .int .i64 0, .int .i64 0, .int .i64 0, .int .i64 0, .int .i64 0]) [.int .i64 0, .int .i64 0, .int .i64 0, .int .i64 0, .int .i64 0, .int .i64 0, .int .i64 0, .int .i64 0] hA ?_; clear hF hA; intro b14 w1 hA hb14; (try simp only [uA] at hA); have hF := hA.facts; (try simp only [fA, facts_row, and_true, true_and] at hF)) | ((with_reducible refine gst ?_); refine wS hA ?_; clear hF hA; intro w1 hA; (try simp only [uA] at hA); have hF := hA.facts; (try simp only [fA, facts_row, and_true, true_and] at hF)) | ((with_reducible refine gbx ?_); refine wB hA ?_; clear hF hA; intro b1 w1 hA hb1; (try simp only [uA] at hA); have hF := hA.facts; (try simp only [fA, facts_row, and_true, true_and] at hF)))
            clear hi
            try go_frame
            go_loopg [75] os.length (ShRel w p m p2 m2 b6 b7 b14 ax cap a ir it os l)
            case atStart => exact ⟨0, [], A8.zero, rfl, by simp, nofun, by simp, rfl, fun es' _ => shrink0 _ _ _ _, hA.pick (by repeat (first | exact Picks.nil | refine Picks.cons (by repeat (first | exact Sel.here | apply Sel.there)) ?_))⟩
            case round =>
              obtain ⟨i, es, f, rfl, hik, hfi, hln, hes, hls, hB⟩ := hrel
              have hfi' := Lib.hid hfi
              have hes' := Lib.hid hes
              have hls' := Lib.hid hls
              clear hF hA hfi hes hls
              have hA := hB
              clear hB
              by_cases hi : i < os.length
              · obtain ⟨bk, off, rfl, hce, hnn⟩ := hel'.out i hi
                have hoo := Lib.hid (okB_ok (hosk.out os[i] (List.getElem_mem hi)) hnn)
                have hgs := Lib.hid (fineL_step hfi'.out hoo.out)
                have hgw := Lib.hid (grow_step es os[i])
                have hll := step_len es os[i]
                have hns := Lib.hid (show stepE es os[i] = (os.take (i + 1)).foldl stepE [] from by rw [List.take_succ_eq_append_getElem hi, List.foldl_append, ← hes'.out]; rfl)
                obtain ⟨o, hoi⟩ : ∃ o, os[i] = o := ⟨_, rfl⟩
                simp only [hoi] at hce hoo hgs hgw hll hns
                clear hoi hnn
                have hst := fun (w1 : World) (q : Sep [IxP p m es] w1) => step_any q o hoo.out
                generalize stepE es o = es' at *
                have hak := fun (w1 : World) (q : Sep [IxP p m es'] w1) => ask_any q a haf.1 haf.2 (fun e he => (hgs.out e he).2) (by omega) ir it
                have how := fun w => Attr.own_any f ir it w
                have hwi := fun w => Attr.within_yes (f.own ir it) (askE es' (keyC a) ir it) (hls'.out es' hgw.out) w
                have hnl := Lib.hid (fun es2 (hg : Grow es' es2) => shrink1 hg hgs.out (keyC a) ir it)
                generalize f.own ir it = fo at *
                generalize hfd : askE es' (keyC a) ir it = f2 at *
                have hfd' := Lib.hid hfd
                clear hfd
                obtain ⟨a0, a1, a2, a3, a4, a5, a6, a7⟩ := f
                obtain ⟨c0, c1, c2, c3, c4, c5, c6, c7⟩ := fo
                obtain ⟨e0', e1', e2', e3', e4', e5', e6', e7'⟩ := f2
                obtain ⟨kd, ⟨kind, num, foot, req, path, mode, n, time⟩, r, t, q, ⟨ef, en, ⟨e0, e1, e2, e3, e4, e5, e6, e7⟩⟩⟩ := o
                have hr22' := Lib.hid (show ∀ (k : Nat) u, ([.int .i64 kd, .int .i64 kind, .int .u64 num, .string foot, .int .u64 req, .string path, .int .i64 mode, .int .u64 n, .int .i64 time, .int .i64 r, .int .i64 t, .int .i64 q, .string ef, .int .u64 en, .int .i64 e0, .int .i64 e1, .int .i64 e2, .int .i64 e3, .int .i64 e4, .int .i64 e5, .int .i64 e6, .int .i64 e7] : List Value)[k]? = some u → wr.cell? ⟨bk, off + i * 22 + k, none⟩ = some u from fun k u hk => old_cell (hA.get (A := Part.old w) (by with_reducible repeat (first | exact Sel.here | apply Sel.there))) (hce k u hk))
                clear hce hoo
                simp only [Cm.val, A8.val] at hak how hwi
                have hF := hA.facts
                (try simp only [uA] at hA); have hF := hA.facts; (try simp only [fA, facts_row, and_true, true_and] at hF)
                go_wp2_with (first | ((with_reducible refine gal ?_); refine wA 44 (.agg #[.int .i64 0, .int .i64 0, .int .u64 0, .string .empty, .int .u64 0, .string .empty, .int .i64 0, .int .u64 0, .int .i64 0, .int .i64 0, .int .i64 0, .int .i64 0, .string .empty, .int .u64 0, .int .i64 0, .int .i64 0, .int .i64 0, .int .i64 0, .int .i64 0, .int .i64 0, .int .i64 0, .int .i64 0]) [.int .i64 0, .int .i64 0, .int .u64 0, .string .empty, .int .u64 0, .string .empty, .int .i64 0, .int .u64 0, .int .i64 0, .int .i64 0, .int .i64 0, .int .i64 0, .string .empty, .int .u64 0, .int .i64 0, .int .i64 0, .int .i64 0, .int .i64 0, .int .i64 0, .int .i64 0, .int .i64 0, .int .i64 0] hA ?_; clear hF hA; intro b16 w1 hA hb16; (try simp only [uA] at hA); have hF := hA.facts; (try simp only [fA, facts_row, and_true, true_and] at hF)) | ((with_reducible show wpList _ _ _ ({ dst := some 78, op := Op.load _ _, type := _, pos := _, after := _, guard := _ } :: _) _ _); refine wpList_loadRow_at (vs := [.int .i64 kd, .int .i64 kind, .int .u64 num, .string foot, .int .u64 req, .string path, .int .i64 mode, .int .u64 n, .int .i64 time, .int .i64 r, .int .i64 t, .int .i64 q, .string ef, .int .u64 en, .int .i64 e0, .int .i64 e1, .int .i64 e2, .int .i64 e3, .int .i64 e4, .int .i64 e5, .int .i64 e6, .int .i64 e7]) rfl rfl (by (try simp only [Act.eval, eV]) <;> exact rfl) hr22'.out (by kernel_rfl) (by kernel_rfl) ?_) | ((with_reducible show wpList _ _ _ ({ dst := _, op := Op.store _ _ _, type := _, pos := _, after := _, guard := _ } :: _) _ _); refine wpList_storeAll_at (b := b16) (vs := [.int .i64 kd, .int .i64 kind, .int .u64 num, .string foot, .int .u64 req, .string path, .int .i64 mode, .int .u64 n, .int .i64 time, .int .i64 r, .int .i64 t, .int .i64 q, .string ef, .int .u64 en, .int .i64 e0, .int .i64 e1, .int .i64 e2, .int .i64 e3, .int .i64 e4, .int .i64 e5, .int .i64 e6, .int .i64 e7]) rfl rfl (by (try simp only [Act.eval, eV]) <;> exact rfl) (by (try simp only [Act.eval, eV]) <;> exact rfl) (by kernel_rfl) hA (by with_reducible repeat (first | exact Sel.here | apply Sel.there)) (by kernel_rfl) rfl rfl ?_; intro w1 hB; clear hF hA; have hA := hB; clear hB; (try simp only [uA] at hA); have hF := hA.facts; (try simp only [fA, facts_row, and_true, true_and] at hF)) | ((with_reducible show wpList _ _ _ ({ dst := some 80, op := Op.load _ _, type := _, pos := _, after := _, guard := _ } :: _) _ _); refine wpList_loadPart_at (b := b16) (vs := [.int .i64 kd, .int .i64 kind, .int .u64 num, .string foot, .int .u64 req, .string path, .int .i64 mode, .int .u64 n, .int .i64 time, .int .i64 r, .int .i64 t, .int .i64 q, .string ef, .int .u64 en, .int .i64 e0, .int .i64 e1, .int .i64 e2, .int .i64 e3, .int .i64 e4, .int .i64 e5, .int .i64 e6, .int .i64 e7]) rfl rfl (by (try simp only [Act.eval, eV]) <;> exact rfl) hA (by with_reducible repeat (first | exact Sel.here | apply Sel.there)) (by kernel_rfl) (by kernel_rfl) ?_) | ((with_reducible refine gst ?_); refine wS hA ?_; clear hF hA; intro w1 hA; (try simp only [uA] at hA); have hF := hA.facts; (try simp only [fA, facts_row, and_true, true_and] at hF)) | ((with_reducible refine gbx ?_); refine wB hA ?_; clear hF hA; intro b1 w1 hA hb1; (try simp only [uA] at hA); have hF := hA.facts; (try simp only [fA, facts_row, and_true, true_and] at hF)))
                refine (hst _ (hA.sep1 (A := IxP p m es) (by with_reducible repeat (first | exact Sel.here | apply Sel.there)))).mono ?_
                clear hst
                rintro e w3 ⟨v, bb, rfl, hT⟩
                have hB := hA.call1 (A := IxP p m es) (by with_reducible repeat (first | exact Sel.here | apply Sel.there)) hT
                clear hF hA hT
                have hA := hB
                clear hB
                simp only [List.cons_append, List.nil_append] at hA
                have hF := hA.facts
                (try simp only [uA] at hA); have hF := hA.facts; (try simp only [fA, facts_row, and_true, true_and] at hF)
                go_wp2_with (first | ((with_reducible refine gst ?_); refine wS hA ?_; clear hF hA; intro w1 hA; (try simp only [uA] at hA); have hF := hA.facts; (try simp only [fA, facts_row, and_true, true_and] at hF)) | ((with_reducible refine gbx ?_); refine wB hA ?_; clear hF hA; intro b1 w1 hA hb1; (try simp only [uA] at hA); have hF := hA.facts; (try simp only [fA, facts_row, and_true, true_and] at hF)))
                refine (hak _ (hA.sep1 (A := IxP p m es') (by with_reducible repeat (first | exact Sel.here | apply Sel.there)))).mono ?_
                clear hak
                rintro e w1 ⟨rfl, hT⟩; have hB := hA.call1 (by with_reducible repeat (first | exact Sel.here | apply Sel.there)) hT; clear hF hA hT; have hA := hB; clear hB; (try simp only [uA] at hA); have hF := hA.facts; (try simp only [fA, facts_row, and_true, true_and] at hF)
                go_wp2_with (first | ((with_reducible refine gal ?_); refine wA 40 (.agg #[.int .i64 0, .int .i64 0, .int .i64 0, .int .i64 0, .int .i64 0, .int .i64 0, .int .i64 0, .int .i64 0]) [.int .i64 0, .int .i64 0, .int .i64 0, .int .i64 0, .int .i64 0, .int .i64 0, .int .i64 0, .int .i64 0] hA ?_; clear hF hA; intro b17 w1 hA hb17; (try simp only [uA] at hA); have hF := hA.facts; (try simp only [fA, facts_row, and_true, true_and] at hF)) | ((with_reducible refine gst ?_); refine wS hA ?_; clear hF hA; intro w1 hA; (try simp only [uA] at hA); have hF := hA.facts; (try simp only [fA, facts_row, and_true, true_and] at hF)) | ((with_reducible refine gbx ?_); refine wB hA ?_; clear hF hA; intro b1 w1 hA hb1; (try simp only [uA] at hA); have hF := hA.facts; (try simp only [fA, facts_row, and_true, true_and] at hF)))
                try go_frame
                (refine wp_region_all (Cl _ _ _) (by kernel_rfl) (by kernel_rfl) (Cl.drew hA) ?_); (have hn1 := Cl.none hA); (have hn2 := Cl.none2 hA); (repeat (first | go_big_quiet_skip | (go_big_quiet_want; (first | (refine quiet_loads_at (ty := 40) (n := 8) rfl rfl (by with_reducible repeat (first | exact Sel.here | apply Sel.there)) (by kernel_rfl) (by kernel_rfl) (by first | assumption | ((try simp only [List.drop_succ_cons, List.drop_zero, List.take_succ_cons, List.take_zero]) <;> exact rfl)) (by exact rfl) ?_; go_frame; go_big_quiet_on) | (refine quiet_loads_at (ty := 30) (n := 2) rfl rfl (by with_reducible repeat (first | exact Sel.here | apply Sel.there)) (by kernel_rfl) (by kernel_rfl) (by first | assumption | ((try simp only [List.drop_succ_cons, List.drop_zero, List.take_succ_cons, List.take_zero]) <;> exact rfl)) (by exact rfl) ?_; go_frame; go_big_quiet_on) | (refine quiet_load_at rfl rfl (by with_reducible repeat (first | exact Sel.here | apply Sel.there)) (by kernel_rfl) (by first | assumption | exact rfl) ?_; go_frame; go_big_quiet_on) | (go_big_quiet_op; (first | go_big_quiet_on | ((apply Exists.intro); (refine ⟨fun w1 hw => ?_, ?_⟩); (focus ((have hw := Cl.out hw); (first | exact through0 hw (how _) | exact through0 hw (hwi _)))); (go_big_quiet_on))))))))
                (refine wpQuiet_nil ?_); (intro w1 hB); (clear hF hA hn1 hn2); (have hA := Cl.out hB); (clear hB); (try simp only [uA] at hA); have hF := hA.facts; (try simp only [fA, facts_row, and_true, true_and] at hF)
                clear how hwi
                go_wp2_with (first | ((with_reducible refine gst ?_); refine wS hA ?_; clear hF hA; intro w1 hA; (try simp only [uA] at hA); have hF := hA.facts; (try simp only [fA, facts_row, and_true, true_and] at hF)) | ((with_reducible refine gbx ?_); refine wB hA ?_; clear hF hA; intro b1 w1 hA hb1; (try simp only [uA] at hA); have hF := hA.facts; (try simp only [fA, facts_row, and_true, true_and] at hF)))
                go_roundg (gk - 1)
                case measure => omega
                case rel => exact ⟨i + 1, es', ⟨e0', e1', e2', e3', e4', e5', e6', e7'⟩, by simp, by omega, hgs.out, by omega, hns.out, fun es2 hg => hnl.out es2 hg, hA.pick (by repeat (first | exact Picks.nil | refine Picks.cons (by repeat (first | exact Sel.here | apply Sel.there)) ?_))⟩
              · have hes2 := Lib.hid (show es = os.foldl stepE [] from by rw [hes'.out, List.take_of_length_le (by omega)])
                have hF := hA.facts
                (try simp only [uA] at hA); have hF := hA.facts; (try simp only [fA, facts_row, and_true, true_and] at hF)
                have hln2 : es.length ≤ 30 := by omega
                clear hik hes'
                clear hln
                go_wp2_with (first | ((with_reducible refine gst ?_); refine wS hA ?_; clear hF hA; intro w1 hA; (try simp only [uA] at hA); have hF := hA.facts; (try simp only [fA, facts_row, and_true, true_and] at hF)) | ((with_reducible refine gbx ?_); refine wB hA ?_; clear hF hA; intro b1 w1 hA hb1; (try simp only [uA] at hA); have hF := hA.facts; (try simp only [fA, facts_row, and_true, true_and] at hF)))
                clear hi
                try go_frame
                go_loopg [94] 2 (OuRel w p m p2 m2 b6 b7 b14 ax cap a ir it os l es ⟨f.s, f.d0, f.d1, f.d2, f.d3, f.d4, f.d5, f.d6⟩)
                case atStart => exact ⟨0, rfl, by simp, nofun, by simp [twice], hA.pick (by repeat (first | exact Picks.nil | refine Picks.cons (by repeat (first | exact Sel.here | apply Sel.there)) ?_))⟩
                case round =>
                  obtain ⟨j, rfl, hjk, hfj, hlj, hB⟩ := hrel
                  have hfj' := Lib.hid hfj
                  clear hF hA hfj
                  have hA := hB
                  clear hB
                  have hjk' := Lib.hid hjk
                  have hF := hA.facts
                  (try simp only [uA] at hA); have hF := hA.facts; (try simp only [fA, facts_row, and_true, true_and] at hF)
                  by_cases hj : j < 2
                  · skip
                    go_wp2_with (first | ((with_reducible refine gst ?_); refine wS hA ?_; clear hF hA; intro w1 hA; (try simp only [uA] at hA); have hF := hA.facts; (try simp only [fA, facts_row, and_true, true_and] at hF)) | ((with_reducible refine gbx ?_); refine wB hA ?_; clear hF hA; intro b1 w1 hA hb1; (try simp only [uA] at hA); have hF := hA.facts; (try simp only [fA, facts_row, and_true, true_and] at hF)))
                    try go_frame
                    have hjk2 : gk = 2 - j := by omega
                    clear hjk
                    go_loopg [98] os.length (InRel w p m p2 m2 b6 b7 b14 ax cap a ir it os l es ⟨f.s, f.d0, f.d1, f.d2, f.d3, f.d4, f.d5, f.d6⟩ j)
                    case atStart => exact ⟨0, twice l j, rfl, by simp, hfj'.out, by omega, rfl, hA.pick (by repeat (first | exact Picks.nil | refine Picks.cons (by repeat (first | exact Sel.here | apply Sel.there)) ?_))⟩
                    case round =>
                      obtain ⟨i, es2, rfl, hik, hfi, hln, hes, hB⟩ := hrel
                      have hfi'' := Lib.hid hfi
                      have hes' := Lib.hid hes
                      clear hF hA hfi hes
                      have hA := hB
                      clear hB
                      by_cases hi : i < os.length
                      · obtain ⟨o, hoi⟩ : ∃ o, l[i]? = some o := ⟨_, List.getElem?_eq_getElem (by rw [hlm'.out]; exact hi)⟩
                        obtain ⟨bk, off, hax3, hce⟩ := reads_elem (hA.row_reads (v := .slice ax os.length cap) (n := os.length) (xs := flatO l) (by with_reducible repeat (first | exact Sel.here | apply Sel.there))) hoi
                        subst hax3
                        have hoo := Lib.hid (hlo.out o (List.mem_of_getElem? hoi))
                        have hgs := Lib.hid (fineL_step hfi''.out hoo.out)
                        have hll := step_len es2 o
                        have hns := Lib.hid (show stepE es2 o = (l.take (i + 1)).foldl stepE (twice l j) from by rw [take_snoc hoi, List.foldl_append, ← hes'.out]; rfl)
                        clear hoi
                        have hst := fun (w1 : World) (q : Sep [IxP p2 m2 es2] w1) => step_any q o hoo.out
                        generalize stepE es2 o = es' at *
                        obtain ⟨kd, ⟨kind, num, foot, req, path, mode, n, time⟩, r, t, q, ⟨ef, en, ⟨e0, e1, e2, e3, e4, e5, e6, e7⟩⟩⟩ := o
                        have hr22' := Lib.hid (show ∀ (k : Nat) u, ([.int .i64 kd, .int .i64 kind, .int .u64 num, .string foot, .int .u64 req, .string path, .int .i64 mode, .int .u64 n, .int .i64 time, .int .i64 r, .int .i64 t, .int .i64 q, .string ef, .int .u64 en, .int .i64 e0, .int .i64 e1, .int .i64 e2, .int .i64 e3, .int .i64 e4, .int .i64 e5, .int .i64 e6, .int .i64 e7] : List Value)[k]? = some u → wr.cell? ⟨bk, off + i * 22 + k, none⟩ = some u from hce)
                        clear hce hoo
                        have hF := hA.facts
                        (try simp only [uA] at hA); have hF := hA.facts; (try simp only [fA, facts_row, and_true, true_and] at hF)
                        go_wp2_with (first | ((with_reducible refine gal ?_); refine wA 44 (.agg #[.int .i64 0, .int .i64 0, .int .u64 0, .string .empty, .int .u64 0, .string .empty, .int .i64 0, .int .u64 0, .int .i64 0, .int .i64 0, .int .i64 0, .int .i64 0, .string .empty, .int .u64 0, .int .i64 0, .int .i64 0, .int .i64 0, .int .i64 0, .int .i64 0, .int .i64 0, .int .i64 0, .int .i64 0]) [.int .i64 0, .int .i64 0, .int .u64 0, .string .empty, .int .u64 0, .string .empty, .int .i64 0, .int .u64 0, .int .i64 0, .int .i64 0, .int .i64 0, .int .i64 0, .string .empty, .int .u64 0, .int .i64 0, .int .i64 0, .int .i64 0, .int .i64 0, .int .i64 0, .int .i64 0, .int .i64 0, .int .i64 0] hA ?_; clear hF hA; intro b19 w1 hA hb19; (try simp only [uA] at hA); have hF := hA.facts; (try simp only [fA, facts_row, and_true, true_and] at hF)) | ((with_reducible show wpList _ _ _ ({ dst := some 101, op := Op.load _ _, type := _, pos := _, after := _, guard := _ } :: _) _ _); refine wpList_loadRow_at (vs := [.int .i64 kd, .int .i64 kind, .int .u64 num, .string foot, .int .u64 req, .string path, .int .i64 mode, .int .u64 n, .int .i64 time, .int .i64 r, .int .i64 t, .int .i64 q, .string ef, .int .u64 en, .int .i64 e0, .int .i64 e1, .int .i64 e2, .int .i64 e3, .int .i64 e4, .int .i64 e5, .int .i64 e6, .int .i64 e7]) rfl rfl (by (try simp only [Act.eval, eV]) <;> exact rfl) hr22'.out (by kernel_rfl) (by kernel_rfl) ?_) | ((with_reducible show wpList _ _ _ ({ dst := _, op := Op.store _ _ _, type := _, pos := _, after := _, guard := _ } :: _) _ _); refine wpList_storeAll_at (b := b19) (vs := [.int .i64 kd, .int .i64 kind, .int .u64 num, .string foot, .int .u64 req, .string path, .int .i64 mode, .int .u64 n, .int .i64 time, .int .i64 r, .int .i64 t, .int .i64 q, .string ef, .int .u64 en, .int .i64 e0, .int .i64 e1, .int .i64 e2, .int .i64 e3, .int .i64 e4, .int .i64 e5, .int .i64 e6, .int .i64 e7]) rfl rfl (by (try simp only [Act.eval, eV]) <;> exact rfl) (by (try simp only [Act.eval, eV]) <;> exact rfl) (by kernel_rfl) hA (by with_reducible repeat (first | exact Sel.here | apply Sel.there)) (by kernel_rfl) rfl rfl ?_; intro w1 hB; clear hF hA; have hA := hB; clear hB; (try simp only [uA] at hA); have hF := hA.facts; (try simp only [fA, facts_row, and_true, true_and] at hF)) | ((with_reducible show wpList _ _ _ ({ dst := some 103, op := Op.load _ _, type := _, pos := _, after := _, guard := _ } :: _) _ _); refine wpList_loadPart_at (b := b19) (vs := [.int .i64 kd, .int .i64 kind, .int .u64 num, .string foot, .int .u64 req, .string path, .int .i64 mode, .int .u64 n, .int .i64 time, .int .i64 r, .int .i64 t, .int .i64 q, .string ef, .int .u64 en, .int .i64 e0, .int .i64 e1, .int .i64 e2, .int .i64 e3, .int .i64 e4, .int .i64 e5, .int .i64 e6, .int .i64 e7]) rfl rfl (by (try simp only [Act.eval, eV]) <;> exact rfl) hA (by with_reducible repeat (first | exact Sel.here | apply Sel.there)) (by kernel_rfl) (by kernel_rfl) ?_) | ((with_reducible refine gst ?_); refine wS hA ?_; clear hF hA; intro w1 hA; (try simp only [uA] at hA); have hF := hA.facts; (try simp only [fA, facts_row, and_true, true_and] at hF)) | ((with_reducible refine gbx ?_); refine wB hA ?_; clear hF hA; intro b1 w1 hA hb1; (try simp only [uA] at hA); have hF := hA.facts; (try simp only [fA, facts_row, and_true, true_and] at hF)))
                        refine (hst _ (hA.sep1 (A := IxP p2 m2 es2) (by with_reducible repeat (first | exact Sel.here | apply Sel.there)))).mono ?_
                        clear hst
                        rintro e w3 ⟨v, bb, rfl, hT⟩
                        have hB := hA.call1 (A := IxP p2 m2 es2) (by with_reducible repeat (first | exact Sel.here | apply Sel.there)) hT
                        clear hF hA hT
                        have hA := hB
                        clear hB
                        simp only [List.cons_append, List.nil_append] at hA
                        have hF := hA.facts
                        (try simp only [uA] at hA); have hF := hA.facts; (try simp only [fA, facts_row, and_true, true_and] at hF)
                        go_wp2_with (first | ((with_reducible refine gst ?_); refine wS hA ?_; clear hF hA; intro w1 hA; (try simp only [uA] at hA); have hF := hA.facts; (try simp only [fA, facts_row, and_true, true_and] at hF)) | ((with_reducible refine gbx ?_); refine wB hA ?_; clear hF hA; intro b1 w1 hA hb1; (try simp only [uA] at hA); have hF := hA.facts; (try simp only [fA, facts_row, and_true, true_and] at hF)))
                        go_roundg (gk - 1)
                        case measure => omega
                        case rel => exact ⟨i + 1, es', by simp, by omega, hgs.out, by omega, hns.out, hA.pick (by repeat (first | exact Picks.nil | refine Picks.cons (by repeat (first | exact Sel.here | apply Sel.there)) ?_))⟩
                      · have hes3 : es2 = twice l (j + 1) := by rw [hes'.out, List.take_of_length_le (by rw [hlm'.out]; omega)]; rfl
                        subst hes3
                        have hln4 : (twice l (j + 1)).length ≤ (j + 1) * 30 := by omega
                        clear hes' hik hln
                        have hF := hA.facts
                        (try simp only [uA] at hA); have hF := hA.facts; (try simp only [fA, facts_row, and_true, true_and] at hF)
                        go_wp2_with (first | ((with_reducible refine gst ?_); refine wS hA ?_; clear hF hA; intro w1 hA; (try simp only [uA] at hA); have hF := hA.facts; (try simp only [fA, facts_row, and_true, true_and] at hF)) | ((with_reducible refine gbx ?_); refine wB hA ?_; clear hF hA; intro b1 w1 hA hb1; (try simp only [uA] at hA); have hF := hA.facts; (try simp only [fA, facts_row, and_true, true_and] at hF)))
                        go_roundg (1 - j)
                        case measure => omega
                        case rel => exact ⟨j + 1, by simp, by omega, hfi''.out, by omega, hA.pick (by repeat (first | exact Picks.nil | refine Picks.cons (by repeat (first | exact Sel.here | apply Sel.there)) ?_))⟩
                  · have hj2 : j = 2 := by omega
                    have hjn := hj
                    subst hj2
                    have hpr := Lib.hid (show es.Perm (twice l 2) from by rw [hes2.out]; exact shuffled hpm'.out.symm)
                    have hak := fun (w1 : World) (q : Sep [IxP p m es] w1) => ask_any q a haf.1 haf.2 (fun e he => (hfi'.out e he).2) (by omega) ir it
                    have hak2 := fun (w1 : World) (q : Sep [IxP p2 m2 (twice l 2)] w1) => ask_any q a haf.1 haf.2 (fun e he => (hfj'.out e he).2) (by omega) ir it
                    have hco := fun (w1 : World) (q : Sep [IxP p m es] w1) => count_any q
                    have hco2 := fun (w1 : World) (q : Sep [IxP p2 m2 (twice l 2)] w1) => count_any q
                    rw [← ask_perm hpr.out] at hak2
                    rw [← hpr.out.length_eq] at hco2
                    generalize askE es (keyC a) ir it = f2 at *
                    obtain ⟨e0', e1', e2', e3', e4', e5', e6', e7'⟩ := f2
                    simp only [Cm.val, A8.val] at hak hak2
                    generalize twice l 2 = es2 at *
                    clear hjk' hjk
                    have hF := hA.facts
                    (try simp only [uA] at hA); have hF := hA.facts; (try simp only [fA, facts_row, and_true, true_and] at hF)
                    go_wp2_with (first | ((with_reducible refine gst ?_); refine wS hA ?_; clear hF hA; intro w1 hA; (try simp only [uA] at hA); have hF := hA.facts; (try simp only [fA, facts_row, and_true, true_and] at hF)) | ((with_reducible refine gbx ?_); refine wB hA ?_; clear hF hA; intro b1 w1 hA hb1; (try simp only [uA] at hA); have hF := hA.facts; (try simp only [fA, facts_row, and_true, true_and] at hF)))
                    try go_frame
                    (refine wp_region_all (Cl _ _ _) (by kernel_rfl) (by kernel_rfl) (Cl.drew hA) ?_); (have hn1 := Cl.none hA); (have hn2 := Cl.none2 hA); (repeat (first | go_big_quiet_skip | (go_big_quiet_want; (first | (refine quiet_loads_at (ty := 30) (n := 2) rfl rfl (by with_reducible repeat (first | exact Sel.here | apply Sel.there)) (by kernel_rfl) (by kernel_rfl) (by first | assumption | ((try simp only [List.drop_succ_cons, List.drop_zero, List.take_succ_cons, List.take_zero]) <;> exact rfl)) (by exact rfl) ?_; go_frame; go_big_quiet_on) | (refine quiet_loads_at (ty := 28) (n := 8) rfl rfl (by with_reducible repeat (first | exact Sel.here | apply Sel.there)) (by kernel_rfl) (by kernel_rfl) (by first | assumption | ((try simp only [List.drop_succ_cons, List.drop_zero, List.take_succ_cons, List.take_zero]) <;> exact rfl)) (by exact rfl) ?_; go_frame; go_big_quiet_on) | (refine quiet_load_at rfl rfl (by with_reducible repeat (first | exact Sel.here | apply Sel.there)) (by kernel_rfl) (by first | assumption | exact rfl) ?_; go_frame; go_big_quiet_on) | (go_big_quiet_op; (first | go_big_quiet_on | ((apply Exists.intro); (refine ⟨fun w1 hw => ?_, ?_⟩); (focus ((have hw := Cl.out hw); (first | ((with_reducible refine (hak _ (hw.sep1 (A := IxP p m es) (by with_reducible repeat (first | exact Sel.here | apply Sel.there)))).mono ?_); exact fun e w' h => ⟨h.1, thr1 (A := IxP p m es) (by with_reducible repeat (first | exact Sel.here | apply Sel.there)) hw h.2⟩) | ((with_reducible refine (hak2 _ (hw.sep1 (A := IxP p2 m2 es2) (by with_reducible repeat (first | exact Sel.here | apply Sel.there)))).mono ?_); exact fun e w' h => ⟨h.1, thr1 (A := IxP p2 m2 es2) (by with_reducible repeat (first | exact Sel.here | apply Sel.there)) hw h.2⟩) | ((with_reducible refine (hco _ (hw.sep1 (A := IxP p m es) (by with_reducible repeat (first | exact Sel.here | apply Sel.there)))).mono ?_); exact fun e w' h => ⟨h.1, thr1 (A := IxP p m es) (by with_reducible repeat (first | exact Sel.here | apply Sel.there)) hw h.2⟩) | ((with_reducible refine (hco2 _ (hw.sep1 (A := IxP p2 m2 es2) (by with_reducible repeat (first | exact Sel.here | apply Sel.there)))).mono ?_); exact fun e w' h => ⟨h.1, thr1 (A := IxP p2 m2 es2) (by with_reducible repeat (first | exact Sel.here | apply Sel.there)) hw h.2⟩)))); (go_big_quiet_on))))))))
                    (refine wpQuiet_nil ?_); (intro w1 hB); (clear hF hA hn1 hn2); (have hA := Cl.out hB); (clear hB); (try simp only [uA] at hA); have hF := hA.facts; (try simp only [fA, facts_row, and_true, true_and] at hF)
                    go_wp2_with (first | ((with_reducible refine gst ?_); refine wS hA ?_; clear hF hA; intro w1 hA; (try simp only [uA] at hA); have hF := hA.facts; (try simp only [fA, facts_row, and_true, true_and] at hF)) | ((with_reducible refine gbx ?_); refine wB hA ?_; clear hF hA; intro b1 w1 hA hb1; (try simp only [uA] at hA); have hF := hA.facts; (try simp only [fA, facts_row, and_true, true_and] at hF)))
                    go_ret
                    exact ⟨rfl, below_old hA (by with_reducible repeat (first | exact Sel.here | apply Sel.there))⟩
    · go_wp2_with (first | ((with_reducible refine gst ?_); refine wS hA ?_; clear hF hA; intro w1 hA; (try simp only [uA] at hA); have hF := hA.facts; (try simp only [fA, facts_row, and_true, true_and] at hF)) | ((with_reducible refine gbx ?_); refine wB hA ?_; clear hF hA; intro b1 w1 hA hb1; (try simp only [uA] at hA); have hF := hA.facts; (try simp only [fA, facts_row, and_true, true_and] at hF)))
      go_ret
      exact ⟨rfl, below_old hA (by with_reducible repeat (first | exact Sel.here | apply Sel.there))⟩
end Go.Proofs.YtpbeennielgogaaDoor.Ix
end
