/- LockE, MapD, LockF, joined. -/
import Derived.Test.YtalfoiodejoicaaGreatDoorJ7
import Derived.Test.YtalfoiodejoicaaGreatDoorJ3
section
namespace Go.Proofs.YtalfoiodejoicaaGreatDoor.Lock
open Go.RowKit
open Go.Maps (Keyed)
open Path (bl rightB overB)
set_option linter.unusedSimpArgs false
set_option linter.unusedVariables false

theorem same_ba (f g : ByteArray) : (f.toList == g.toList) = decide (f = g) := by
  rw [Path.eqB]
  by_cases h : f = g
  · subst h; simp
  · rw [decide_eq_false h, decide_eq_false]
    intro e
    apply h
    unfold bl at e
    have : f.data = g.data := by rw [← Array.toList_inj]; exact e
    cases f; cases g; simp_all
theorem sameS (a c : Int) (f g : ByteArray) (w : World) : (Op.equalIn 10000 25 (.agg #[.int .u64 a, .string f]) (.agg #[.int .u64 c, .string g])).run Tryz.prog w = .ok (decide (a = c ∧ f = g)) w := by
  rw [run_equalIn_agg _ 9999 _ _ _ (by kernel_rfl) (by kernel_rfl)]
  simp [go_sem, Op.eqFields, same_ba]
  by_cases h1 : a = c <;> by_cases h2 : f = g <;> simp [h1, h2]
@[local go_sem] theorem guardS (op : BinOp) (x y : Operand) (a c : Int) (f g : ByteArray) (w : World) : (eqGuard op 25 x y (.agg #[.int .u64 a, .string f]) (.agg #[.int .u64 c, .string g])).run Tryz.prog w = .ok () w := run_eqGuard_agg _ _ _ _ _ _ _ (by kernel_rfl)
@[local go_sem] theorem eqlS (a c : Int) (f g : ByteArray) (w : World) : (binOp .eql 25 (.agg #[.int .u64 a, .string f]) (.agg #[.int .u64 c, .string g])).run Tryz.prog w = .ok (.bool (decide (a = c ∧ f = g))) w := by
  rw [run_eql_struct, sameS]; rfl
theorem sameE (x y : Ent) (w : World) : (Op.equalIn 10000 115 x.val y.val).run Tryz.prog w = .ok (decide (x = y)) w := by
  unfold Ent.val
  rw [run_equalIn_agg _ 9999 _ _ _ (by kernel_rfl) (by kernel_rfl)]
  obtain ⟨p1, n1, f1, m1, k1, s1⟩ := x
  obtain ⟨p2, n2, f2, m2, k2, s2⟩ := y
  simp [go_sem, Op.eqFields, same_ba]
  by_cases h1 : p1 = p2 <;> by_cases h2 : n1 = n2 <;> by_cases h3 : f1 = f2 <;> by_cases h4 : m1 = m2 <;> by_cases h5 : k1 = k2 <;> by_cases h6 : s1 = s2 <;> simp [h1, h2, h3, h4, h5, h6]
@[local go_sem] theorem guardE (op : BinOp) (x y : Operand) (c1 c2 c3 c4 c5 c6 d1 d2 d3 d4 d5 d6 : Value) (w : World) : (eqGuard op 115 x y (.agg #[c1, c2, c3, c4, c5, c6]) (.agg #[d1, d2, d3, d4, d5, d6])).run Tryz.prog w = .ok () w := run_eqGuard_agg _ _ _ _ _ _ _ (by kernel_rfl)
theorem eqlE (x y : Ent) (w : World) : (binOp .eql 115 x.val y.val).run Tryz.prog w = .ok (.bool (decide (x = y))) w := by
  have := sameE x y w
  unfold Ent.val at *
  rw [run_eql_struct, this]; rfl
end Go.Proofs.YtalfoiodejoicaaGreatDoor.Lock
end

section
namespace Go.Proofs.YtalfoiodejoicaaGreatDoor
open Go.RowKit
open Go.Maps (Keyed)
set_option linter.unusedVariables false
set_option linter.unusedSimpArgs false

section
variable {P : Program} {k : TypeId} {w : World} {b : Nat} {es : List (Value × Value)}
theorem eraseList {α : Type} (a : Array α) (i : Nat) (h : i < a.size) : (a.eraseIdxIfInBounds i).toList = a.toList.eraseIdx i := by
  rw [Array.eraseIdxIfInBounds_eq]
  rw [dif_pos h, Array.toList_eraseIdx]
theorem erase_mid {α : Type} (l1 l2 : List α) (x : α) : (l1 ++ x :: l2).eraseIdx l1.length = l1 ++ l2 := by
  rw [List.eraseIdx_append_of_length_le (Nat.le_refl _)]
  simp
theorem MapAt.erased {l1 l2 : List (Value × Value)} {key u : Value} (h : MapAt P k w b (l1 ++ (key, u) :: l2)) {ents : Array MapEntry} {clock : Nat} (hb : w.heap[b]? = some (.map ents clock)) :
    MapAt P k (ChangeMaps.setBlock w b (.map (ents.eraseIdxIfInBounds l1.length) clock)) b (l1 ++ l2) := by
  obtain ⟨ents', clock', hb', he, hbn, hdn, hkeys, hpw⟩ := h
  rw [hb] at hb'; cases hb'
  have hlt : l1.length < ents.size := by
    have := congrArg List.length he
    simp at this
    omega
  have hs : ((l1 ++ l2)).Sublist (l1 ++ (key, u) :: l2) := List.Sublist.append (List.Sublist.refl _) (List.sublist_cons_self _ _)
  have hes : (ents.toList.eraseIdx l1.length).Sublist ents.toList := List.eraseIdx_sublist _ _
  refine ⟨_, clock, ChangeMaps.heap_setBlock_same hb _, ?_, ?_, ?_, ?_, ?_⟩
  · rw [eraseList _ _ hlt, List.eraseIdx_eq_take_drop_succ, List.map_append, List.map_take, List.map_drop, he, ← List.eraseIdx_eq_take_drop_succ, erase_mid]
  · intro e hm
    rw [eraseList _ _ hlt] at hm
    exact hbn e (hes.subset hm)
  · rw [eraseList _ _ hlt]
    exact hdn.sublist hes
  · exact fun p hp => hkeys p (hs.subset hp)
  · exact hpw.sublist hs
/-- an entry is taken away -/
theorem MapAt.del_there {t e : TypeId} {l1 l2 : List (Value × Value)} {key u : Value} (h : MapAt P k w b (l1 ++ (key, u) :: l2)) (K : Keyed P k) (ht : P.underlying t = some (.map k e)) {kl : Lit} (hk : keyOf P k key = some kl) (t2 ty : TypeId) :
    ∃ w', (Builtin.delete_ #[t, t2] ty #[.map (some b), key]).run P w = .ok (.tuple #[]) w' ∧ MapAt P k w' b (l1 ++ l2) ∧ Exc (fun q => q = b) w w' ∧ ∃ ents clock, w.heap[b]? = some (.map ents clock) ∧ w'.heap[b]? = some (.map (ents.eraseIdxIfInBounds l1.length) clock) := by
  have h0 := h
  obtain ⟨ents, clock, hb, _⟩ := h0
  obtain ⟨e0, h1, h2, h3, h4⟩ := h.find_at K hk w hb
  exact ⟨ChangeMaps.setBlock w b (.map (ents.eraseIdxIfInBounds l1.length) clock), by simp [Builtin.delete_, run_underlying ht, MapKept.run_getObj_map hb, K.check w _ hk, h1, MapKept.run_setObj_map _ hb, Result.andThen, ChangeMaps.setBlock], h.erased hb,
    ⟨rfl, rfl, rfl, by simp [ChangeMaps.setBlock], fun i _ hi => ChangeMaps.heap_setBlock_other hb _ (fun e => hi e)⟩, ents, clock, hb, ChangeMaps.heap_setBlock_same hb _⟩
/-- there was none -/
theorem MapAt.del_none {t e : TypeId} {key : Value} (h : MapAt P k w b es) (K : Keyed P k) (ht : P.underlying t = some (.map k e)) {kl : Lit} (hk : keyOf P k key = some kl) (hn : ∀ p ∈ es, p.1 ≠ key) (t2 ty : TypeId) :
    ∃ w', (Builtin.delete_ #[t, t2] ty #[.map (some b), key]).run P w = .ok (.tuple #[]) w' ∧ MapAt P k w' b es ∧ Exc (fun q => q = b) w w' := by
  have h0 := h
  obtain ⟨ents, clock, hb, hrest⟩ := h0
  obtain ⟨ents', clock', hb', hf⟩ := h.find K hk w
  rw [hb] at hb'
  cases hb'
  rcases hf with ⟨h1, _⟩ | ⟨j, v, h1, h2⟩
  · exact ⟨ChangeMaps.setBlock w b (.map ents clock), by simp [Builtin.delete_, run_underlying ht, MapKept.run_getObj_map hb, K.check w _ hk, h1, MapKept.run_setObj_map _ hb, Result.andThen, ChangeMaps.setBlock], ⟨ents, clock, ChangeMaps.heap_setBlock_same hb _, hrest⟩,
      ⟨rfl, rfl, rfl, by simp [ChangeMaps.setBlock], fun i _ hi => ChangeMaps.heap_setBlock_other hb _ (fun e => hi e)⟩⟩
  · exact absurd rfl (hn _ h2)

/-- an iterator r over map b, of which these have come; entries may have been taken away since -/
def IterD (P : Program) (k : TypeId) (w : World) (r b : Nat) (es done : List (Value × Value)) : Prop :=
  MapAt P k w b es ∧ r ≠ b ∧ ∃ (ents : Array MapEntry) (clock c0 : Nat) (vs : List MapEntry), w.heap[b]? = some (.map ents clock) ∧ w.heap[r]? = some (.mapIter (some b) clock (vs.map (·.born)).toArray c0) ∧ clock ≤ c0 ∧
    vs.map (fun e => (e.key, e.val)) = done ∧ (vs ≠ [] → c0 = clock) ∧ (∀ x ∈ vs, ∀ y ∈ ents.toList, x.key = y.key → x = y) ∧ (∀ x ∈ vs, ∀ y ∈ ents.toList, x.born = y.born → x = y)
theorem IterD.start {r : Nat} (h : IterAt P k w r b es []) : IterD P k w r b es [] := by
  obtain ⟨hm, hrb, ents, clock, c0, vs, hb, hr, hc, hd, hin, hpw, hc1⟩ := h
  have : vs = [] := by simpa using hd
  subst this
  exact ⟨hm, hrb, ents, clock, c0, [], hb, hr, hc, rfl, hc1, nofun, nofun⟩
theorem IterD.same {r : Nat} {done : List (Value × Value)} (h : IterD P k w r b es done) {w' : World} (e1 : w'.heap[b]? = w.heap[b]?) (e2 : w'.heap[r]? = w.heap[r]?) : IterD P k w' r b es done := by
  obtain ⟨hm, hrb, ents, clock, c0, vs, hb, hr, rest⟩ := h
  exact ⟨hm.same e1, hrb, ents, clock, c0, vs, e1.trans hb, e2.trans hr, rest⟩
theorem apart_of {l : List (Value × Value)} (h : l.Pairwise (fun p q => p.1 ≠ q.1)) {i j : Nat} {p q : Value × Value} (hi : l[i]? = some p) (hj : l[j]? = some q) (hk : p.1 = q.1) : i = j := by
  by_cases hij : i = j
  · exact hij
  · exfalso
    obtain ⟨hi1, hi2⟩ := List.getElem?_eq_some_iff.1 hi
    obtain ⟨hj1, hj2⟩ := List.getElem?_eq_some_iff.1 hj
    have hp := List.pairwise_iff_getElem.1 h
    rcases Nat.lt_or_gt_of_ne hij with q | q
    · exact hp i j hi1 hj1 q (by rw [hi2, hj2]; exact hk)
    · exact hp j i hj1 hi1 q (by rw [hi2, hj2]; exact hk.symm)
theorem IterD.next {r : Nat} {done : List (Value × Value)} (h : IterD P k w r b es done) (ty : TypeId) :
    ((∀ p ∈ es, p ∈ done) ∧ (Instr.next (.pointer (some ⟨r, 0, none⟩)) false ty).run P w = .ok (.tuple #[.bool false]) w) ∨
    ∃ p w', p ∈ es ∧ (∀ q ∈ done, q.1 ≠ p.1) ∧ (Instr.next (.pointer (some ⟨r, 0, none⟩)) false ty).run P w = .ok (.tuple #[.bool true, p.1, p.2]) w' ∧ IterD P k w' r b es (done ++ [p]) ∧ Exc (fun q => q = r) w w' := by
  obtain ⟨hm, hrb, ents, clock, c0, vs, hb, hr, hc, hd, hc1, hkey, hbo⟩ := h
  have hm0 := hm
  obtain ⟨ents', clock', hb', he, hbn, hdn, hkeys, hkp⟩ := hm0
  rw [hb] at hb'; cases hb'
  have hone : ∀ x ∈ ents.toList, ∀ y ∈ ents.toList, x.key = y.key → x = y := by
    intro x hx y hy e
    obtain ⟨i, hi⟩ := List.mem_iff_getElem?.1 hx
    obtain ⟨j, hj⟩ := List.mem_iff_getElem?.1 hy
    have g1 : es[i]? = some (x.key, x.val) := by rw [← he, List.getElem?_map, hi]; rfl
    have g2 : es[j]? = some (y.key, y.val) := by rw [← he, List.getElem?_map, hj]; rfl
    have := apart_of hkp g1 g2 e
    subst this
    rw [hi] at hj
    exact Option.some.inj hj
  have hborn : ∀ x ∈ ents.toList, ∀ y ∈ ents.toList, x.born = y.born → x = y := by
    intro x hx y hy e
    obtain ⟨i, hi⟩ := List.mem_iff_getElem?.1 hx
    obtain ⟨j, hj⟩ := List.mem_iff_getElem?.1 hy
    by_cases hij : i = j
    · subst hij; rw [hi] at hj; exact Option.some.inj hj
    · exfalso
      obtain ⟨hi1, hi2⟩ := List.getElem?_eq_some_iff.1 hi
      obtain ⟨hj1, hj2⟩ := List.getElem?_eq_some_iff.1 hj
      have hp := List.pairwise_iff_getElem.1 hdn
      rcases Nat.lt_or_gt_of_ne hij with q | q
      · exact hp i j hi1 hj1 q (by rw [hi2, hj2, e])
      · exact hp j i hj1 hi1 q (by rw [hi2, hj2, e])
  rcases run_next_at (P := P) w ty r b clock c0 (vs.map (·.born)).toArray ents clock hr hb hbn hc with ⟨h0, hrun⟩ | ⟨e, he1, w1, hw1, hrun⟩
  · refine .inl ⟨?_, hrun⟩
    intro p hp
    rw [← he] at hp
    obtain ⟨x, hx, rfl⟩ := List.mem_map.1 hp
    have h1 : leftOf ents (vs.map (·.born)).toArray = #[] := Array.eq_empty_of_size_eq_zero h0
    unfold leftOf at h1
    rw [Array.filter_eq_empty_iff] at h1
    have h2 := h1 x (by simpa using hx)
    simp at h2
    obtain ⟨y, hy, hyb⟩ := h2
    have := hbo y hy x hx hyb
    subst this
    rw [← hd]
    exact List.mem_map.2 ⟨y, hy, rfl⟩
  · have he2 : e ∈ ents.toList ∧ ∀ y ∈ vs, y.born ≠ e.born := by
      unfold leftOf at he1
      simp at he1
      exact ⟨by simpa using he1.1, fun y hy hb => he1.2 y hy hb⟩
    have hh1 : w1.heap = w.heap := by rcases hw1 with rfl | rfl <;> rfl
    refine .inr ⟨(e.key, e.val), ChangeMaps.setBlock w1 r (.mapIter (some b) clock ((vs.map (·.born)).toArray.push e.born) clock), entry_of he he2.1, ?_, hrun, ?_, ?_⟩
    · intro q hq
      rw [← hd] at hq
      obtain ⟨y, hy, rfl⟩ := List.mem_map.1 hq
      intro hk
      have := hkey y hy e he2.1 hk
      subst this
      exact he2.2 y hy rfl
    · have hr1 : w1.heap[r]? = some (.mapIter (some b) clock (vs.map (·.born)).toArray c0) := by rw [hh1]; exact hr
      have k1 : ∀ (o : Obj) (i : Nat), i ≠ r → (ChangeMaps.setBlock w1 r o).heap[i]? = w.heap[i]? := fun o i hi => by
        rw [← hh1]; simp [ChangeMaps.setBlock, Ne.symm hi]
      have k2 : ∀ (o : Obj), (ChangeMaps.setBlock w1 r o).heap[r]? = some o := fun o => by
        have hlt := lt_of_some hr1
        simp [ChangeMaps.setBlock, hlt]
      refine ⟨hm.same (k1 _ b (Ne.symm hrb)), hrb, ents, clock, clock, vs ++ [e], by rw [k1 _ b (Ne.symm hrb)]; exact hb, by rw [k2]; simp, Nat.le_refl _, by simp [hd], fun _ => rfl, ?_, ?_⟩
      · intro x hx y hy hk
        rcases List.mem_append.1 hx with hx | hx
        · exact hkey x hx y hy hk
        · rw [List.mem_singleton.1 hx] at hk ⊢
          exact hone e he2.1 y hy hk
      · intro x hx y hy hk
        rcases List.mem_append.1 hx with hx | hx
        · exact hbo x hx y hy hk
        · rw [List.mem_singleton.1 hx] at hk ⊢
          exact hborn e he2.1 y hy hk
    · have g : ∀ (o : Obj), Exc (fun q => q = r) w (ChangeMaps.setBlock w1 r o) := fun o => by
        rcases hw1 with rfl | rfl
        · exact ⟨rfl, rfl, rfl, by simp [ChangeMaps.setBlock], fun i _ hi => by simp [ChangeMaps.setBlock, Ne.symm hi]⟩
        · exact ⟨rfl, rfl, rfl, by simp [ChangeMaps.setBlock], fun i _ hi => by simp [ChangeMaps.setBlock, Ne.symm hi]; rfl⟩
      exact g _
theorem IterD.entry {r : Nat} {done : List (Value × Value)} {p : Value × Value} (h : IterD P k w r b es (done ++ [p])) (hp : p ∈ es) : (Instr.entry (.pointer (some ⟨r, 0, none⟩))).run P w = .ok (.tuple #[p.1, p.2]) w := by
  obtain ⟨hm, hrb, ents, clock, c0, vs, hb, hr, hc, hd, hc1, hkey, hbo⟩ := h
  obtain ⟨ents', clock', hb', he, hbn, hdn, hkeys, hkp⟩ := hm
  rw [hb] at hb'; cases hb'
  rcases List.eq_nil_or_concat vs with rfl | ⟨vs', e, rfl⟩
  · simp at hd
  · have h1 : c0 = clock := hc1 (by simp)
    subst h1
    simp at hd
    obtain ⟨hd1, hd2⟩ := hd
    subst hd2
    rw [← he] at hp
    obtain ⟨y, hy, hye⟩ := List.mem_map.1 hp
    have hk0 : e.key = y.key := (congrArg Prod.fst hye).symm
    have := hkey e (by simp) y hy hk0
    subst this
    exact run_entry_at (P := P) w r b c0 (vs'.map (·.born)).toArray ents c0 e (by rw [hr]; simp) hb hy (List.pairwise_map.2 hdn)
theorem IterD.del {t e : TypeId} {r : Nat} {done l1 l2 : List (Value × Value)} {key u : Value} (h : IterD P k w r b (l1 ++ (key, u) :: l2) done) (K : Keyed P k) (ht : P.underlying t = some (.map k e)) {kl : Lit} (hk : keyOf P k key = some kl) (t2 ty : TypeId) :
    ∃ w', (Builtin.delete_ #[t, t2] ty #[.map (some b), key]).run P w = .ok (.tuple #[]) w' ∧ IterD P k w' r b (l1 ++ l2) done ∧ Exc (fun q => q = b) w w' := by
  obtain ⟨hm, hrb, ents, clock, c0, vs, hb, hr, hc, hd, hc1, hkey, hbo⟩ := h
  obtain ⟨w', h1, h2, h3, ents', clock', h4, h5⟩ := hm.del_there K ht hk t2 ty
  rw [hb] at h4; cases h4
  have hsub : ∀ y ∈ (ents.eraseIdxIfInBounds l1.length).toList, y ∈ ents.toList := by
    intro y hy
    by_cases hlt : l1.length < ents.size
    · rw [eraseList _ _ hlt] at hy
      exact (List.eraseIdx_sublist _ _).subset hy
    · rw [Array.eraseIdxIfInBounds_eq, dif_neg hlt] at hy
      exact hy
  exact ⟨w', h1, ⟨h2, hrb, _, clock, c0, vs, h5, (h3.block r (lt_of_some hr) hrb).trans hr, hc, hd, hc1, fun x hx y hy => hkey x hx y (hsub y hy), fun x hx y hy => hbo x hx y (hsub y hy)⟩, h3⟩
theorem IterD.keys {r : Nat} {done : List (Value × Value)} (h : IterD P k w r b es done) : es.Pairwise (fun p q => p.1 ≠ q.1) := h.1.keys
def Part.iterD (P : Program) (k : TypeId) (r b : Nat) (es done : List (Value × Value)) : Part where
  holds w := IterD P k w r b es done
  foot q := q = b ∨ q = r
  lt := fun _ h q e => by
    rcases e with e | e
    · subst e; exact h.1.lt
    · subst e; obtain ⟨_, _, _, _, _, _, _, hr, _⟩ := h; exact lt_of_some hr
  stay := fun _ _ h e => h.same (e b (.inl rfl)) (e r (.inr rfl))
theorem facts_iterD {r : Nat} {done : List (Value × Value)} (w : World) : (Part.iterD P k r b es done).facts w = True := rfl
end

section
variable {P : Program} {ops : Array Oper} {rest : List Oper} {o : Oper} {a : Act} {Q : Exit → Act → World → Prop} {L0 L F : List Part} {w0 w : World} {k : TypeId} {b : Nat} {es : List (Value × Value)}
theorem wpList_del_there_at {t t2 : TypeId} {m x : Operand} (hg : o.guard = none) (hop : o.op = .call { callee := .builtin .delete, args := #[m, x], argTypes := #[t, t2] }) (hm : a.eval m = .map (some b)) {key u : Value} {l1 l2 : List (Value × Value)} (hx : a.eval x = key)
    (h : At L0 w0 L w) (s : Sel (Part.map P k b (l1 ++ (key, u) :: l2)) L F) {e : TypeId} (K : Keyed P k) (ht : P.underlying t = some (.map k e)) {kl : Lit} (hk : keyOf P k key = some kl)
    (hK : ∀ w', At L0 w0 (Part.map P k b (l1 ++ l2) :: F) w' → wpList P ops Q rest (a.put o.dst (.tuple #[])) w') : wpList P ops Q (o :: rest) a w := by
  have hM : MapAt P k w b (l1 ++ (key, u) :: l2) := h.get s
  obtain ⟨w', h1, h2, h3, _⟩ := hM.del_there K ht hk t2 o.type
  refine wpList_val hg ?_ (hK w' (h.turn s _ h2 (fun _ e => .inl e) h3))
  simp [execOp, hop, resolve, invoke, builtin, hm, hx, h1, Result.andThen]
theorem wpList_del_none_at {t t2 : TypeId} {m x : Operand} (hg : o.guard = none) (hop : o.op = .call { callee := .builtin .delete, args := #[m, x], argTypes := #[t, t2] }) (hm : a.eval m = .map (some b)) {key : Value} (hx : a.eval x = key)
    (h : At L0 w0 L w) (s : Sel (Part.map P k b es) L F) {e : TypeId} (K : Keyed P k) (ht : P.underlying t = some (.map k e)) {kl : Lit} (hk : keyOf P k key = some kl) (hn : ∀ p ∈ es, p.1 ≠ key)
    (hK : ∀ w', At L0 w0 (Part.map P k b es :: F) w' → wpList P ops Q rest (a.put o.dst (.tuple #[])) w') : wpList P ops Q (o :: rest) a w := by
  have hM : MapAt P k w b es := h.get s
  obtain ⟨w', h1, h2, h3⟩ := hM.del_none K ht hk hn t2 o.type
  refine wpList_val hg ?_ (hK w' (h.turn s _ h2 (fun _ e => .inl e) h3))
  simp [execOp, hop, resolve, invoke, builtin, hm, hx, h1, Result.andThen]
/-- the same, of a map that is ranged over -/
theorem wpList_del_iter_at {t t2 : TypeId} {m x : Operand} {r : Nat} {done : List (Value × Value)} (hg : o.guard = none) (hop : o.op = .call { callee := .builtin .delete, args := #[m, x], argTypes := #[t, t2] }) (hm : a.eval m = .map (some b)) {key u : Value} {l1 l2 : List (Value × Value)} (hx : a.eval x = key)
    (h : At L0 w0 L w) (s : Sel (Part.iterD P k r b (l1 ++ (key, u) :: l2) done) L F) {e : TypeId} (K : Keyed P k) (ht : P.underlying t = some (.map k e)) {kl : Lit} (hk : keyOf P k key = some kl)
    (hK : ∀ w', At L0 w0 (Part.iterD P k r b (l1 ++ l2) done :: F) w' → wpList P ops Q rest (a.put o.dst (.tuple #[])) w') : wpList P ops Q (o :: rest) a w := by
  have hI : IterD P k w r b (l1 ++ (key, u) :: l2) done := h.get s
  obtain ⟨w', h1, h2, h3⟩ := hI.del K ht hk t2 o.type
  refine wpList_val hg ?_ (hK w' (h.turn s (Part.iterD P k r b (l1 ++ l2) done) h2 (fun _ e => .inl e) (h3.mono (fun _ _ e => .inl e))))
  simp [execOp, hop, resolve, invoke, builtin, hm, hx, h1, Result.andThen]
theorem wpList_nextD_at {r : Nat} {done : List (Value × Value)} {it : Operand} (hg : o.guard = none) (hop : o.op = .next it false) (hi : a.eval it = .pointer (some ⟨r, 0, none⟩)) (h : At L0 w0 L w) (s : Sel (Part.iterD P k r b es done) L F)
    (hEnd : (∀ p ∈ es, p ∈ done) → wpList P ops Q rest (a.put o.dst (.tuple #[.bool false])) w)
    (hK : ∀ p w', p ∈ es → (∀ q ∈ done, q.1 ≠ p.1) → At L0 w0 (Part.iterD P k r b es (done ++ [p]) :: F) w' → wpList P ops Q rest (a.put o.dst (.tuple #[.bool true, p.1, p.2])) w') : wpList P ops Q (o :: rest) a w := by
  have hI : IterD P k w r b es done := h.get s
  rcases hI.next o.type with ⟨h1, h2⟩ | ⟨p, w', h1, h2, h3, h4, h5⟩
  · refine wpList_val hg ?_ (hEnd h1)
    simp [execOp, hop, hi, h2, Result.andThen]
  · refine wpList_val hg ?_ (hK p w' h1 h2 (h.turn s (Part.iterD P k r b es (done ++ [p])) h4 (fun q e => .inl e) (h5.mono (fun _ _ e => .inr e))))
    simp [execOp, hop, hi, h3, Result.andThen]
theorem At.rangedD {r : Nat} {done : List (Value × Value)} (h : At L0 w0 L w) (s : Sel (Part.iterD P k r b es done) L F) : At L0 w0 (Part.map P k b es :: F) w := by
  have hI : IterD P k w r b es done := h.get s
  exact h.turn s (Part.map P k b es) hI.1 (fun _ e => .inl (.inl e)) (Exc.refl _ _)
theorem At.rangeD {r : Nat} (h : At L0 w0 L w) (s : Sel (Part.iter P k r b es []) L F) : At L0 w0 (Part.iterD P k r b es [] :: F) w := by
  have hI : IterAt P k w r b es [] := h.get s
  exact h.turn s (Part.iterD P k r b es []) (IterD.start hI) (fun _ e => .inl e) (Exc.refl _ _)
end
end Go.Proofs.YtalfoiodejoicaaGreatDoor
end

section
namespace Go.Proofs.YtalfoiodejoicaaGreatDoor.Lock
open Go.RowKit
open Go.Maps (Keyed)
open Path (bl rightB overB)
set_option linter.unusedSimpArgs false
set_option linter.unusedVariables false
attribute [-go_sem] run_eql_struct run_neq_struct run_eqGuard_agg
attribute [local go_sem] guardS eqlS

abbrev boxS (b : Nat) (n : Int) (f : ByteArray) : Part := .cells b [.int .u64 n, .string f] 25
def Ent.of (e : Ent) (n : Int) (f : ByteArray) : Bool := decide (e.num = n ∧ e.foot = f)
/-- how many entries a session has -/
def heldN (l : List Ent) (n : Int) (f : ByteArray) : Nat := (l.filter (·.of n f)).length
theorem heldN_snoc (l : List Ent) (e : Ent) (n : Int) (f : ByteArray) : heldN (l ++ [e]) n f = heldN l n f + if e.of n f then 1 else 0 := by
  unfold heldN
  rw [List.filter_append]
  cases h : e.of n f <;> simp [List.filter_cons, h]
theorem heldN_perm {l r : List Ent} (h : l.Perm r) (n : Int) (f : ByteArray) : heldN l n f = heldN r n f := (h.filter _).length_eq
theorem heldN_le (l : List Ent) (n : Int) (f : ByteArray) : heldN l n f ≤ l.length := List.length_filter_le _ _

set_option maxRecDepth 100000 in
theorem held1_any {w : World} {bS : Nat} {n k : Int} {f p g : ByteArray} (h : Sep [boxS bS n f] w) {c : Bool} (hc : decide (k = n ∧ g = f) = c) :
    Calls Tryz.prog 130 #[.agg #[.string p, .int .u64 k, .string g], .pointer (some ⟨bS, 0, none⟩)] w fun e w' => e = .returned (.bool c) ∧ At [boxS bS n f] w [boxS bS n f] w' := by
  have hA := At.start h
  have hF := hA.facts
  (try simp only [setL, List.set_cons_zero, List.set_cons_succ, List.cons_append, List.nil_append] at hA); (have hF := hA.facts); (try simp only [facts_cons, facts_nil, facts_cells, facts_old, facts_fact, facts_obj, facts_map, facts_iter, and_true, true_and] at hF)
  clear h
  have hc' := Lib.hid hc
  clear hc
  go_enter Tryz.func130, Tryz.ntmps130
  go_wp2_with (first | ((with_reducible show wpList _ _ _ ({ dst := _, op := Op.store _ _ _, type := _, pos := _, after := _, guard := _ } :: _) _ _); refine wpList_store_at rfl rfl rfl (by (try simp only [Act.eval, Array.getD_eq_getD_getElem?, List.getElem?_toArray, List.getElem?_cons_succ, List.getElem?_cons_zero, Option.getD_some]) <;> exact rfl) (by exact rfl) hA (by with_reducible repeat (first | exact Sel.here | apply Sel.there)) (by kernel_rfl) rfl (by first | decide | (simp; done) | omega) ?_; intro w1 hB; clear hF hA; have hA := hB; clear hB; (try simp only [setL, List.set_cons_zero, List.set_cons_succ, List.cons_append, List.nil_append] at hA); (have hF := hA.facts); (try simp only [facts_cons, facts_nil, facts_cells, facts_old, facts_fact, facts_obj, facts_map, facts_iter, and_true, true_and] at hF)) | ((with_reducible show wpList _ _ _ ({ dst := _, op := Op.box _ _, type := _, pos := _, after := _, guard := _ } :: _) _ _); refine wpList_box_at rfl rfl (by (try simp only [Act.eval, Array.getD_eq_getD_getElem?, List.getElem?_toArray, List.getElem?_cons_succ, List.getElem?_cons_zero, Option.getD_some]) <;> exact rfl) (by exact rfl) hA ?_; intro b1 w1 hB hb1; clear hF hA; have hA := hB; clear hB; (try simp only [setL, List.set_cons_zero, List.set_cons_succ, List.cons_append, List.nil_append] at hA); (have hF := hA.facts); (try simp only [facts_cons, facts_nil, facts_cells, facts_old, facts_fact, facts_obj, facts_map, facts_iter, and_true, true_and] at hF)))
  go_ret
  exact ⟨by rw [← hc'.out, Bool.decide_and]; rfl, hA.only1 (by with_reducible repeat (first | exact Sel.here | apply Sel.there))⟩
def CtRel (L0 : List Part) (m r bS : Nat) (n : Int) (f : ByteArray) (es : List Ent) (w : World) (k : Nat) (v : Value) (wr : World) : Prop :=
  ∃ ds : List Ent, At L0 w [Part.iter Tryz.prog 160 r m (ents es) (ents ds), boxS bS n f] wr ∧ (∀ s ∈ ds, s ∈ es) ∧ v = .int .i64 (heldN ds n f) ∧ ds.length + k = es.length
set_option maxRecDepth 100000 in
theorem count_any {w : World} {m bS : Nat} {n : Int} {f : ByteArray} {es : List Ent} (h : Sep [mapC m (ents es), boxS bS n f] w) (hl : es.length ≤ 1000000000) :
    Calls Tryz.prog 129 #[.map (some m), .func (.func 130) #[] #[.pointer (some ⟨bS, 0, none⟩)]] w fun e w' => e = .returned (.int .i64 (heldN es n f)) ∧ At [mapC m (ents es), boxS bS n f] w [mapC m (ents es), boxS bS n f] w' := by
  have hA := At.start h
  have hF := hA.facts
  (try simp only [setL, List.set_cons_zero, List.set_cons_succ, List.cons_append, List.nil_append] at hA); (have hF := hA.facts); (try simp only [facts_cons, facts_nil, facts_cells, facts_old, facts_fact, facts_obj, facts_map, facts_iter, and_true, true_and] at hF)
  clear h
  go_enter Tryz.func129, Tryz.ntmps129
  go_wp2_with (first | ((with_reducible show wpList _ _ _ ({ dst := _, op := Op.store _ _ _, type := _, pos := _, after := _, guard := _ } :: _) _ _); refine wpList_store_at rfl rfl rfl (by (try simp only [Act.eval, Array.getD_eq_getD_getElem?, List.getElem?_toArray, List.getElem?_cons_succ, List.getElem?_cons_zero, Option.getD_some]) <;> exact rfl) (by exact rfl) hA (by with_reducible repeat (first | exact Sel.here | apply Sel.there)) (by kernel_rfl) rfl (by first | decide | (simp; done) | omega) ?_; intro w1 hB; clear hF hA; have hA := hB; clear hB; (try simp only [setL, List.set_cons_zero, List.set_cons_succ, List.cons_append, List.nil_append] at hA); (have hF := hA.facts); (try simp only [facts_cons, facts_nil, facts_cells, facts_old, facts_fact, facts_obj, facts_map, facts_iter, and_true, true_and] at hF)) | ((with_reducible show wpList _ _ _ ({ dst := _, op := Op.box _ _, type := _, pos := _, after := _, guard := _ } :: _) _ _); refine wpList_box_at rfl rfl (by (try simp only [Act.eval, Array.getD_eq_getD_getElem?, List.getElem?_toArray, List.getElem?_cons_succ, List.getElem?_cons_zero, Option.getD_some]) <;> exact rfl) (by exact rfl) hA ?_; intro b1 w1 hB hb1; clear hF hA; have hA := hB; clear hB; (try simp only [setL, List.set_cons_zero, List.set_cons_succ, List.cons_append, List.nil_append] at hA); (have hF := hA.facts); (try simp only [facts_cons, facts_nil, facts_cells, facts_old, facts_fact, facts_obj, facts_map, facts_iter, and_true, true_and] at hF)) | (refine wpList_range_at rfl rfl rfl hA (by with_reducible repeat (first | exact Sel.here | apply Sel.there)) Tryz.underlying120 ?_; intro r w1 hB hr; clear hF hA; have hA := hB; clear hB; (try simp only [setL, List.set_cons_zero, List.set_cons_succ, List.cons_append, List.nil_append] at hA); (have hF := hA.facts); (try simp only [facts_cons, facts_nil, facts_cells, facts_old, facts_fact, facts_obj, facts_map, facts_iter, and_true, true_and] at hF)))
  try go_frame
  go_loopg [5] es.length (CtRel [mapC m (ents es), boxS bS n f] m r bS n f es w)
  case atStart => exact ⟨[], hA, nofun, by simp [heldN], by simp⟩
  case round =>
    obtain ⟨ds, hA2, hds, rfl, hk⟩ := hrel
    clear hF hA
    have hA := hA2
    clear hA2
    (try simp only [setL, List.set_cons_zero, List.set_cons_succ, List.cons_append, List.nil_append] at hA); (have hF := hA.facts); (try simp only [facts_cons, facts_nil, facts_cells, facts_old, facts_fact, facts_obj, facts_map, facts_iter, and_true, true_and] at hF)
    go_step
    go_step
    refine wpList_next_at rfl rfl rfl hA (by with_reducible repeat (first | exact Sel.here | apply Sel.there)) (fun hp => ?_) (fun q w1 hq hd hB => ?_)
    · have hc := Lib.hid (heldN_perm (ents_perm hp) n f)
      have hM := At.ranged hA (by with_reducible repeat (first | exact Sel.here | apply Sel.there))
      clear hp
      go_wp2_with fail
      go_ret
      exact ⟨by rw [hc.out]; rfl, hM.only2 (by with_reducible repeat (first | exact Sel.here | apply Sel.there)) (by with_reducible repeat (first | exact Sel.here | apply Sel.there))⟩
    · obtain ⟨s, hs, rfl⟩ := List.mem_map.1 hq
      have hI : IterAt Tryz.prog 160 w1 r m (ents es) (ents ds ++ [ent s]) := hB.get (A := Part.iter _ _ r m (ents es) (ents ds ++ [ent s])) (by with_reducible repeat (first | exact Sel.here | apply Sel.there))
      have hen := hI.entry
      have hlen : (ds ++ [s]).length ≤ es.length := by have := hI.len; simpa [ents] using this
      have hsub : ∀ x ∈ ds ++ [s], x ∈ es := fun x hx => by
        rcases List.mem_append.1 hx with hx | hx
        · exact hds x hx
        · have : x = s := by simpa using hx
          rw [this]; exact hs
      rw [ents_snoc] at hB
      clear hF hA
      have hA := hB
      have hk' := Lib.hid hk
      have hsub' := Lib.hid hsub
      have hsn := Lib.hid (heldN_snoc ds s n f)
      have hcl := heldN_le ds n f
      simp only [List.length_append, List.length_cons, List.length_nil, Nat.zero_add] at hlen
      clear hI hB hk hsub hds hq hd hs
      (try simp only [setL, List.set_cons_zero, List.set_cons_succ, List.cons_append, List.nil_append] at hA); (have hF := hA.facts); (try simp only [facts_cons, facts_nil, facts_cells, facts_old, facts_fact, facts_obj, facts_map, facts_iter, and_true, true_and] at hF)
      simp only [ent, Ent.key, Ent.val, keyV] at hen
      obtain ⟨c, hc⟩ : ∃ c, s.of n f = c := ⟨_, rfl⟩
      have hc' := Lib.hid hc
      go_wp2_with (first | ((with_reducible show wpList _ _ _ ({ dst := _, op := Op.store _ _ _, type := _, pos := _, after := _, guard := _ } :: _) _ _); refine wpList_store_at rfl rfl rfl (by (try simp only [Act.eval, Array.getD_eq_getD_getElem?, List.getElem?_toArray, List.getElem?_cons_succ, List.getElem?_cons_zero, Option.getD_some]) <;> exact rfl) (by exact rfl) hA (by with_reducible repeat (first | exact Sel.here | apply Sel.there)) (by kernel_rfl) rfl (by first | decide | (simp; done) | omega) ?_; intro w1 hB; clear hF hA; have hA := hB; clear hB; (try simp only [setL, List.set_cons_zero, List.set_cons_succ, List.cons_append, List.nil_append] at hA); (have hF := hA.facts); (try simp only [facts_cons, facts_nil, facts_cells, facts_old, facts_fact, facts_obj, facts_map, facts_iter, and_true, true_and] at hF)) | ((with_reducible show wpList _ _ _ ({ dst := _, op := Op.box _ _, type := _, pos := _, after := _, guard := _ } :: _) _ _); refine wpList_box_at rfl rfl (by (try simp only [Act.eval, Array.getD_eq_getD_getElem?, List.getElem?_toArray, List.getElem?_cons_succ, List.getElem?_cons_zero, Option.getD_some]) <;> exact rfl) (by exact rfl) hA ?_; intro b1 w1 hB hb1; clear hF hA; have hA := hB; clear hB; (try simp only [setL, List.set_cons_zero, List.set_cons_succ, List.cons_append, List.nil_append] at hA); (have hF := hA.facts); (try simp only [facts_cons, facts_nil, facts_cells, facts_old, facts_fact, facts_obj, facts_map, facts_iter, and_true, true_and] at hF)) | ((with_reducible show wpList _ _ _ ({ dst := _, op := Op.alloc _, type := _, pos := _, after := _, guard := _ } :: _) _ _); refine wpList_alloc_at (E := 160) (z := .agg #[.string .empty, .int .u64 0, .string .empty]) (vs := [.string .empty, .int .u64 0, .string .empty]) rfl rfl (by kernel_rfl) rfl hA ?_; intro b1 w1 hB hb1; clear hF hA; have hA := hB; clear hB; (try simp only [setL, List.set_cons_zero, List.set_cons_succ, List.cons_append, List.nil_append] at hA); (have hF := hA.facts); (try simp only [facts_cons, facts_nil, facts_cells, facts_old, facts_fact, facts_obj, facts_map, facts_iter, and_true, true_and] at hF)))
      refine (held1_any (hA.sep1 (A := boxS bS n f) (by with_reducible repeat (first | exact Sel.here | apply Sel.there))) hc).mono ?_
      clear hc
      rintro e w2 ⟨rfl, hT⟩
      have hB := hA.call1 (A := boxS bS n f) (by with_reducible repeat (first | exact Sel.here | apply Sel.there)) hT
      clear hF hA hT
      have hA := hB
      clear hB
      (try simp only [setL, List.set_cons_zero, List.set_cons_succ, List.cons_append, List.nil_append] at hA); (have hF := hA.facts); (try simp only [facts_cons, facts_nil, facts_cells, facts_old, facts_fact, facts_obj, facts_map, facts_iter, and_true, true_and] at hF)
      cases c
      all_goals
        go_wp2_with fail
        go_roundg (gk - 1)
        case measure => have := hk'.out; omega
        case rel => exact ⟨ds ++ [s], hA.only2 (by with_reducible repeat (first | exact Sel.here | apply Sel.there)) (by with_reducible repeat (first | exact Sel.here | apply Sel.there)), hsub'.out, by rw [hsn.out, hc'.out]; simp, by have := hk'.out; simp; omega⟩
set_option maxRecDepth 100000 in
theorem held_any {w : World} {b : Bk} (h : Sep [BookP b] w) (n : Int) (f : ByteArray) (hl : b.es.length ≤ 1000000000) :
    Calls Tryz.prog 91 #[.pointer (some ⟨b.p, 0, none⟩), .agg #[.int .u64 n, .string f]] w fun e w' => e = .returned (.int .i64 (heldN b.es n f)) ∧ At [BookP b] w [BookP b] w' := by
  have hA := begin0 h
  have hF := hA.facts
  (try simp only [setL, List.set_cons_zero, List.set_cons_succ, List.cons_append, List.nil_append] at hA); (have hF := hA.facts); (try simp only [facts_cons, facts_nil, facts_cells, facts_old, facts_fact, facts_obj, facts_map, facts_iter, and_true, true_and] at hF)
  clear h
  go_enter Tryz.func91, Tryz.ntmps91
  go_wp2_with (first | ((with_reducible show wpList _ _ _ ({ dst := _, op := Op.box _ _, type := _, pos := _, after := _, guard := _ } :: _) _ _); refine wpList_box_at (E := 25) rfl rfl (by (try simp only [Act.eval, Array.getD_eq_getD_getElem?, List.getElem?_toArray, List.getElem?_cons_succ, List.getElem?_cons_zero, Option.getD_some]) <;> exact rfl) (by exact rfl) hA ?_; intro bS w1 hB hbS; clear hF hA; have hA := hB; clear hB; (try simp only [setL, List.set_cons_zero, List.set_cons_succ, List.cons_append, List.nil_append] at hA); (have hF := hA.facts); (try simp only [facts_cons, facts_nil, facts_cells, facts_old, facts_fact, facts_obj, facts_map, facts_iter, and_true, true_and] at hF)))
  refine (count_any (hA.sep2 (A := mapC b.m (ents b.es)) (B := boxS bS n f) (by with_reducible repeat (first | exact Sel.here | apply Sel.there)) (by with_reducible repeat (first | exact Sel.here | apply Sel.there))) hl).mono ?_
  rintro e w2 ⟨rfl, hT⟩
  have hB := hA.call2 (A := mapC b.m (ents b.es)) (B := boxS bS n f) (by with_reducible repeat (first | exact Sel.here | apply Sel.there)) (by with_reducible repeat (first | exact Sel.here | apply Sel.there)) hT
  clear hF hA hT
  have hA := hB
  clear hB
  (try simp only [setL, List.set_cons_zero, List.set_cons_succ, List.cons_append, List.nil_append] at hA); (have hF := hA.facts); (try simp only [facts_cons, facts_nil, facts_cells, facts_old, facts_fact, facts_obj, facts_map, facts_iter, and_true, true_and] at hF)
  go_wp2_with fail
  go_ret
  exact ⟨rfl, close0 b hA (by with_reducible repeat (first | exact Sel.here | apply Sel.there)) (by with_reducible repeat (first | exact Sel.here | apply Sel.there)) (by with_reducible repeat (first | exact Sel.here | apply Sel.there))⟩
end Go.Proofs.YtalfoiodejoicaaGreatDoor.Lock
end
