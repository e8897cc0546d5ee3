/- GrbH, MapD, joined. -/
import Derived.Test.YtgicohkmfbbbdaaK20
import Derived.Test.YtgicohkmfbbbdaaK1
section
namespace Go.Proofs.Ytgicohkmfbbbdaa.Gr
open _root_.Go.Proofs.Ytgicohkmfbbbdaa.Mark (ltID sortID)
open Attr (A8)
set_option linter.unusedSimpArgs false
set_option linter.unusedVariables false

/-- the law's walk, up to place i: what it found missing, and what it gone through -/
structure MsS (es : List (I2 × A8)) (f : F7) (a : I2) (todo ms ks : List I2) (i : Nat) : Prop where
  head : a ∈ todo
  reach : ∀ y ∈ todo, RI es f a y
  cl : ∀ y ∈ todo.take i, ∀ z ∈ leadsG es f y, z ∈ todo
  msd : ms.Nodup
  msm : ∀ y, y ∈ ms ↔ y ∈ todo.take i ∧ getA es y = none
  ksd : ks.Nodup
  ksm : ∀ y ∈ ks, y ∈ todo.take i ∧ (getA es y).isSome = true
  len : todo.length ≤ 1 + 7 * ks.length
theorem ms_start (es : List (I2 × A8)) (f : F7) (a : I2) : MsS es f a [a] [] [] 0 :=
  ⟨by simp, fun y hy => by rw [List.mem_singleton.1 hy]; exact .refl, by simp, .nil, by simp, .nil, by simp, by simp⟩
theorem MsS.max {es : List (I2 × A8)} {f : F7} {a : I2} {todo ms ks : List I2} {i : Nat} (h : MsS es f a todo ms ks i) : todo.length ≤ 1 + 7 * es.length := by
  have h1 : ks.length ≤ (es.map (·.1)).length := nodup_le h.ksd fun x hx => by
    have := (h.ksm x hx).2
    cases hq : getA es x with
    | none => rw [hq] at this; cases this
    | some b => exact List.mem_map.2 ⟨_, getA_mem hq, rfl⟩
  have := h.len
  rw [List.length_map] at h1
  omega
theorem MsS.msl {es : List (I2 × A8)} {f : F7} {a : I2} {todo ms ks : List I2} {i : Nat} (h : MsS es f a todo ms ks i) : ms.length ≤ todo.length :=
  nodup_le h.msd fun x hx => List.mem_of_mem_take ((h.msm x).1 hx).1
theorem MsS.known {es : List (I2 × A8)} {f : F7} {a : I2} {todo ms ks : List I2} {i : Nat} (h : MsS es f a todo ms ks i) {y : I2} (hy : todo[i]? = some y) (hk : y ∈ todo.take i) : MsS es f a todo ms ks (i + 1) := by
  have htk : todo.take (i + 1) = todo.take i ++ [y] := by rw [List.take_add_one, hy]; rfl
  have hm : ∀ z, z ∈ todo.take (i + 1) ↔ z ∈ todo.take i := fun z => by
    rw [htk, List.mem_append, List.mem_singleton]
    exact ⟨fun q => q.elim id fun e => e ▸ hk, .inl⟩
  exact ⟨h.head, h.reach, fun z hz => h.cl z ((hm z).1 hz), h.msd, fun z => by rw [h.msm z, hm z], h.ksd, fun z hz => by rw [hm z]; exact h.ksm z hz, h.len⟩
theorem MsS.lack {es : List (I2 × A8)} {f : F7} {a : I2} {todo ms ks : List I2} {i : Nat} (h : MsS es f a todo ms ks i) {y : I2} (hy : todo[i]? = some y) (hk : y ∉ todo.take i) (hn : getA es y = none) : MsS es f a todo (ms ++ [y]) ks (i + 1) := by
  have htk : todo.take (i + 1) = todo.take i ++ [y] := by rw [List.take_add_one, hy]; rfl
  refine ⟨h.head, h.reach, fun z hz w hw => ?_, ?_, fun z => ?_, h.ksd, fun z hz => ?_, h.len⟩
  · rw [htk] at hz
    rcases List.mem_append.1 hz with q | q
    · exact h.cl z q w hw
    · rw [List.mem_singleton.1 q] at hw
      unfold leadsG at hw
      rw [hn] at hw
      cases hw
  · rw [List.nodup_append]
    refine ⟨h.msd, by simp, fun p hp q hq e => ?_⟩
    rw [List.mem_singleton] at hq
    subst hq
    exact hk (by rw [← e]; exact ((h.msm p).1 hp).1)
  · rw [htk, List.mem_append, List.mem_append, List.mem_singleton, h.msm z]
    constructor
    · rintro (⟨q1, q2⟩ | rfl)
      · exact ⟨.inl q1, q2⟩
      · exact ⟨.inr rfl, hn⟩
    · rintro ⟨q1 | q1, q2⟩
      · exact .inl ⟨q1, q2⟩
      · exact .inr q1
  · rw [htk]
    exact ⟨List.mem_append_left _ (h.ksm z hz).1, (h.ksm z hz).2⟩
theorem MsS.more {es : List (I2 × A8)} {f : F7} {a : I2} {todo ms ks : List I2} {i : Nat} (h : MsS es f a todo ms ks i) {y : I2} {b : A8} (hy : todo[i]? = some y) (hk : y ∉ todo.take i) (hb : getA es y = some b) : MsS es f a (todo ++ leads f b) ms (ks ++ [y]) (i + 1) := by
  have hi := (List.getElem?_eq_some_iff.1 hy).1
  have htk : (todo ++ leads f b).take (i + 1) = todo.take i ++ [y] := by rw [List.take_append_of_le_length (by omega), List.take_add_one, hy]; rfl
  have hlg : leadsG es f y = leads f b := by unfold leadsG; rw [hb]
  have hyt := List.mem_of_getElem? hy
  refine ⟨List.mem_append_left _ h.head, fun z hz => ?_, fun z hz w hw => ?_, h.msd, fun z => ?_, ?_, fun z hz => ?_, ?_⟩
  · rcases List.mem_append.1 hz with q | q
    · exact h.reach z q
    · exact .step (h.reach y hyt) (by rw [hlg]; exact q)
  · rw [htk] at hz
    rcases List.mem_append.1 hz with q | q
    · exact List.mem_append_left _ (h.cl z q w hw)
    · rw [List.mem_singleton.1 q, hlg] at hw
      exact List.mem_append_right _ hw
  · rw [htk, h.msm z, List.mem_append, List.mem_singleton]
    constructor
    · exact fun ⟨q1, q2⟩ => ⟨.inl q1, q2⟩
    · rintro ⟨q1 | q1, q2⟩
      · exact ⟨q1, q2⟩
      · rw [q1, hb] at q2; cases q2
  · rw [List.nodup_append]
    refine ⟨h.ksd, by simp, fun p hp q hq e => ?_⟩
    rw [List.mem_singleton] at hq
    subst hq
    exact hk (by rw [← e]; exact (h.ksm p hp).1)
  · rw [htk]
    rcases List.mem_append.1 hz with q | q
    · exact ⟨List.mem_append_left _ (h.ksm z q).1, (h.ksm z q).2⟩
    · rw [List.mem_singleton.1 q]
      exact ⟨by simp, by rw [hb]; rfl⟩
  · have h1 := h.len
    have h2 := leads_len f b
    rw [List.length_append, List.length_append, List.length_singleton]
    omega
theorem MsS.done {es : List (I2 × A8)} {f : F7} {a : I2} {todo ms ks : List I2} {i : Nat} (h : MsS es f a todo ms ks i) (hi : todo.length ≤ i) {l : List I2} (hl : MissIs es f a l) : ms.length = l.length := by
  have ht : todo.take i = todo := List.take_of_length_le hi
  have hr : ∀ y, RI es f a y → y ∈ todo := fun y r => by
    induction r with
    | refl => exact h.head
    | step _ hy ih => exact h.cl _ (by rw [ht]; exact ih) _ hy
  have hln : l.Nodup := hl.1.imp fun q e => by rw [e] at q; exact lt_irr q
  refine Nat.le_antisymm (nodup_le h.msd fun x hx => ?_) (nodup_le hln fun x hx => ?_)
  · have := (h.msm x).1 hx
    rw [ht] at this
    exact (hl.2 x).2 ⟨h.reach x this.1, this.2⟩
  · have := (hl.2 x).1 hx
    exact (h.msm x).2 ⟨by rw [ht]; exact hr x this.1, this.2⟩
/-- what is ready lacks nothing; what isn't, and isn't behind the front, lacks something -/
theorem ready_lack {es : List (I2 × A8)} {f : F7} {a : I2} {r : Option (List I2)} {l : List I2} (hn : NeedsIs es f a r) (hl : MissIs es f a l) : r.isSome = (decide (l.length = 0) && !behind f a) := by
  cases r with
  | none =>
    rcases hn with q | ⟨x, hx, hg⟩
    · rw [q]; simp
    · have hm := (hl.2 x).2 ⟨hx, hg⟩
      have : l.length ≠ 0 := fun e => by rw [List.eq_nil_of_length_eq_zero e] at hm; cases hm
      simp [this]
  | some m =>
    obtain ⟨h1, _, h3, h4⟩ := hn
    have : l = [] := List.eq_nil_iff_forall_not_mem.2 fun x hx => by
      have := (hl.2 x).1 hx
      have h5 := h4 x ((h3 x).2 this.1)
      rw [this.2] at h5
      cases h5
    rw [this, h1]
    rfl
end Go.Proofs.Ytgicohkmfbbbdaa.Gr
end

section
namespace Go.Proofs.Ytgicohkmfbbbdaa
open Go.RowKit
open Go.Maps (Keyed)
set_option linter.unusedVariables false
set_option linter.unusedSimpArgs false

section
variable {P : Program} {k : TypeId} {w : World} {b : Nat} {es : List (Value × Value)}
theorem eraseList {α : Type} (a : Array α) (i : Nat) (h : i < a.size) : (a.eraseIdxIfInBounds i).toList = a.toList.eraseIdx i := by
  rw [Array.eraseIdxIfInBounds_eq]
  rw [dif_pos h, Array.toList_eraseIdx]
theorem erase_mid {α : Type} (l1 l2 : List α) (x : α) : (l1 ++ x :: l2).eraseIdx l1.length = l1 ++ l2 := by
  rw [List.eraseIdx_append_of_length_le (Nat.le_refl _)]
  simp
theorem MapAt.erased {l1 l2 : List (Value × Value)} {key u : Value} (h : MapAt P k w b (l1 ++ (key, u) :: l2)) {ents : Array MapEntry} {clock : Nat} (hb : w.heap[b]? = some (.map ents clock)) :
    MapAt P k (ChangeMaps.setBlock w b (.map (ents.eraseIdxIfInBounds l1.length) clock)) b (l1 ++ l2) := by
  obtain ⟨ents', clock', hb', he, hbn, hdn, hkeys, hpw⟩ := h
  rw [hb] at hb'; cases hb'
  have hlt : l1.length < ents.size := by
    have := congrArg List.length he
    simp at this
    omega
  have hs : ((l1 ++ l2)).Sublist (l1 ++ (key, u) :: l2) := List.Sublist.append (List.Sublist.refl _) (List.sublist_cons_self _ _)
  have hes : (ents.toList.eraseIdx l1.length).Sublist ents.toList := List.eraseIdx_sublist _ _
  refine ⟨_, clock, ChangeMaps.heap_setBlock_same hb _, ?_, ?_, ?_, ?_, ?_⟩
  · rw [eraseList _ _ hlt, List.eraseIdx_eq_take_drop_succ, List.map_append, List.map_take, List.map_drop, he, ← List.eraseIdx_eq_take_drop_succ, erase_mid]
  · intro e hm
    rw [eraseList _ _ hlt] at hm
    exact hbn e (hes.subset hm)
  · rw [eraseList _ _ hlt]
    exact hdn.sublist hes
  · exact fun p hp => hkeys p (hs.subset hp)
  · exact hpw.sublist hs
/-- an entry is taken away -/
theorem MapAt.del_there {t e : TypeId} {l1 l2 : List (Value × Value)} {key u : Value} (h : MapAt P k w b (l1 ++ (key, u) :: l2)) (K : Keyed P k) (ht : P.underlying t = some (.map k e)) {kl : Lit} (hk : keyOf P k key = some kl) (t2 ty : TypeId) :
    ∃ w', (Builtin.delete_ #[t, t2] ty #[.map (some b), key]).run P w = .ok (.tuple #[]) w' ∧ MapAt P k w' b (l1 ++ l2) ∧ Exc (fun q => q = b) w w' ∧ ∃ ents clock, w.heap[b]? = some (.map ents clock) ∧ w'.heap[b]? = some (.map (ents.eraseIdxIfInBounds l1.length) clock) := by
  have h0 := h
  obtain ⟨ents, clock, hb, _⟩ := h0
  obtain ⟨e0, h1, h2, h3, h4⟩ := h.find_at K hk w hb
  exact ⟨ChangeMaps.setBlock w b (.map (ents.eraseIdxIfInBounds l1.length) clock), by simp [Builtin.delete_, run_underlying ht, MapKept.run_getObj_map hb, K.check w _ hk, h1, MapKept.run_setObj_map _ hb, Result.andThen, ChangeMaps.setBlock], h.erased hb,
    ⟨rfl, rfl, rfl, by simp [ChangeMaps.setBlock], fun i _ hi => ChangeMaps.heap_setBlock_other hb _ (fun e => hi e)⟩, ents, clock, hb, ChangeMaps.heap_setBlock_same hb _⟩
/-- there was none -/
theorem MapAt.del_none {t e : TypeId} {key : Value} (h : MapAt P k w b es) (K : Keyed P k) (ht : P.underlying t = some (.map k e)) {kl : Lit} (hk : keyOf P k key = some kl) (hn : ∀ p ∈ es, p.1 ≠ key) (t2 ty : TypeId) :
    ∃ w', (Builtin.delete_ #[t, t2] ty #[.map (some b), key]).run P w = .ok (.tuple #[]) w' ∧ MapAt P k w' b es ∧ Exc (fun q => q = b) w w' := by
  have h0 := h
  obtain ⟨ents, clock, hb, hrest⟩ := h0
  obtain ⟨ents', clock', hb', hf⟩ := h.find K hk w
  rw [hb] at hb'
  cases hb'
  rcases hf with ⟨h1, _⟩ | ⟨j, v, h1, h2⟩
  · exact ⟨ChangeMaps.setBlock w b (.map ents clock), by simp [Builtin.delete_, run_underlying ht, MapKept.run_getObj_map hb, K.check w _ hk, h1, MapKept.run_setObj_map _ hb, Result.andThen, ChangeMaps.setBlock], ⟨ents, clock, ChangeMaps.heap_setBlock_same hb _, hrest⟩,
      ⟨rfl, rfl, rfl, by simp [ChangeMaps.setBlock], fun i _ hi => ChangeMaps.heap_setBlock_other hb _ (fun e => hi e)⟩⟩
  · exact absurd rfl (hn _ h2)

/-- an iterator r over map b, of which these have come; entries may have been taken away since -/
def IterD (P : Program) (k : TypeId) (w : World) (r b : Nat) (es done : List (Value × Value)) : Prop :=
  MapAt P k w b es ∧ r ≠ b ∧ ∃ (ents : Array MapEntry) (clock c0 : Nat) (vs : List MapEntry), w.heap[b]? = some (.map ents clock) ∧ w.heap[r]? = some (.mapIter (some b) clock (vs.map (·.born)).toArray c0) ∧ clock ≤ c0 ∧
    vs.map (fun e => (e.key, e.val)) = done ∧ (vs ≠ [] → c0 = clock) ∧ (∀ x ∈ vs, ∀ y ∈ ents.toList, x.key = y.key → x = y) ∧ (∀ x ∈ vs, ∀ y ∈ ents.toList, x.born = y.born → x = y)
theorem IterD.start {r : Nat} (h : IterAt P k w r b es []) : IterD P k w r b es [] := by
  obtain ⟨hm, hrb, ents, clock, c0, vs, hb, hr, hc, hd, hin, hpw, hc1⟩ := h
  have : vs = [] := by simpa using hd
  subst this
  exact ⟨hm, hrb, ents, clock, c0, [], hb, hr, hc, rfl, hc1, nofun, nofun⟩
theorem IterD.same {r : Nat} {done : List (Value × Value)} (h : IterD P k w r b es done) {w' : World} (e1 : w'.heap[b]? = w.heap[b]?) (e2 : w'.heap[r]? = w.heap[r]?) : IterD P k w' r b es done := by
  obtain ⟨hm, hrb, ents, clock, c0, vs, hb, hr, rest⟩ := h
  exact ⟨hm.same e1, hrb, ents, clock, c0, vs, e1.trans hb, e2.trans hr, rest⟩
theorem apart_of {l : List (Value × Value)} (h : l.Pairwise (fun p q => p.1 ≠ q.1)) {i j : Nat} {p q : Value × Value} (hi : l[i]? = some p) (hj : l[j]? = some q) (hk : p.1 = q.1) : i = j := by
  by_cases hij : i = j
  · exact hij
  · exfalso
    obtain ⟨hi1, hi2⟩ := List.getElem?_eq_some_iff.1 hi
    obtain ⟨hj1, hj2⟩ := List.getElem?_eq_some_iff.1 hj
    have hp := List.pairwise_iff_getElem.1 h
    rcases Nat.lt_or_gt_of_ne hij with q | q
    · exact hp i j hi1 hj1 q (by rw [hi2, hj2]; exact hk)
    · exact hp j i hj1 hi1 q (by rw [hi2, hj2]; exact hk.symm)
theorem IterD.next {r : Nat} {done : List (Value × Value)} (h : IterD P k w r b es done) (ty : TypeId) :
    ((∀ p ∈ es, p ∈ done) ∧ (Instr.next (.pointer (some ⟨r, 0, none⟩)) false ty).run P w = .ok (.tuple #[.bool false]) w) ∨
    ∃ p w', p ∈ es ∧ (∀ q ∈ done, q.1 ≠ p.1) ∧ (Instr.next (.pointer (some ⟨r, 0, none⟩)) false ty).run P w = .ok (.tuple #[.bool true, p.1, p.2]) w' ∧ IterD P k w' r b es (done ++ [p]) ∧ Exc (fun q => q = r) w w' := by
  obtain ⟨hm, hrb, ents, clock, c0, vs, hb, hr, hc, hd, hc1, hkey, hbo⟩ := h
  have hm0 := hm
  obtain ⟨ents', clock', hb', he, hbn, hdn, hkeys, hkp⟩ := hm0
  rw [hb] at hb'; cases hb'
  have hone : ∀ x ∈ ents.toList, ∀ y ∈ ents.toList, x.key = y.key → x = y := by
    intro x hx y hy e
    obtain ⟨i, hi⟩ := List.mem_iff_getElem?.1 hx
    obtain ⟨j, hj⟩ := List.mem_iff_getElem?.1 hy
    have g1 : es[i]? = some (x.key, x.val) := by rw [← he, List.getElem?_map, hi]; rfl
    have g2 : es[j]? = some (y.key, y.val) := by rw [← he, List.getElem?_map, hj]; rfl
    have := apart_of hkp g1 g2 e
    subst this
    rw [hi] at hj
    exact Option.some.inj hj
  have hborn : ∀ x ∈ ents.toList, ∀ y ∈ ents.toList, x.born = y.born → x = y := by
    intro x hx y hy e
    obtain ⟨i, hi⟩ := List.mem_iff_getElem?.1 hx
    obtain ⟨j, hj⟩ := List.mem_iff_getElem?.1 hy
    by_cases hij : i = j
    · subst hij; rw [hi] at hj; exact Option.some.inj hj
    · exfalso
      obtain ⟨hi1, hi2⟩ := List.getElem?_eq_some_iff.1 hi
      obtain ⟨hj1, hj2⟩ := List.getElem?_eq_some_iff.1 hj
      have hp := List.pairwise_iff_getElem.1 hdn
      rcases Nat.lt_or_gt_of_ne hij with q | q
      · exact hp i j hi1 hj1 q (by rw [hi2, hj2, e])
      · exact hp j i hj1 hi1 q (by rw [hi2, hj2, e])
  rcases run_next_at (P := P) w ty r b clock c0 (vs.map (·.born)).toArray ents clock hr hb hbn hc with ⟨h0, hrun⟩ | ⟨e, he1, w1, hw1, hrun⟩
  · refine .inl ⟨?_, hrun⟩
    intro p hp
    rw [← he] at hp
    obtain ⟨x, hx, rfl⟩ := List.mem_map.1 hp
    have h1 : leftOf ents (vs.map (·.born)).toArray = #[] := Array.eq_empty_of_size_eq_zero h0
    unfold leftOf at h1
    rw [Array.filter_eq_empty_iff] at h1
    have h2 := h1 x (by simpa using hx)
    simp at h2
    obtain ⟨y, hy, hyb⟩ := h2
    have := hbo y hy x hx hyb
    subst this
    rw [← hd]
    exact List.mem_map.2 ⟨y, hy, rfl⟩
  · have he2 : e ∈ ents.toList ∧ ∀ y ∈ vs, y.born ≠ e.born := by
      unfold leftOf at he1
      simp at he1
      exact ⟨by simpa using he1.1, fun y hy hb => he1.2 y hy hb⟩
    have hh1 : w1.heap = w.heap := by rcases hw1 with rfl | rfl <;> rfl
    refine .inr ⟨(e.key, e.val), ChangeMaps.setBlock w1 r (.mapIter (some b) clock ((vs.map (·.born)).toArray.push e.born) clock), entry_of he he2.1, ?_, hrun, ?_, ?_⟩
    · intro q hq
      rw [← hd] at hq
      obtain ⟨y, hy, rfl⟩ := List.mem_map.1 hq
      intro hk
      have := hkey y hy e he2.1 hk
      subst this
      exact he2.2 y hy rfl
    · have hr1 : w1.heap[r]? = some (.mapIter (some b) clock (vs.map (·.born)).toArray c0) := by rw [hh1]; exact hr
      have k1 : ∀ (o : Obj) (i : Nat), i ≠ r → (ChangeMaps.setBlock w1 r o).heap[i]? = w.heap[i]? := fun o i hi => by
        rw [← hh1]; simp [ChangeMaps.setBlock, Ne.symm hi]
      have k2 : ∀ (o : Obj), (ChangeMaps.setBlock w1 r o).heap[r]? = some o := fun o => by
        have hlt := lt_of_some hr1
        simp [ChangeMaps.setBlock, hlt]
      refine ⟨hm.same (k1 _ b (Ne.symm hrb)), hrb, ents, clock, clock, vs ++ [e], by rw [k1 _ b (Ne.symm hrb)]; exact hb, by rw [k2]; simp, Nat.le_refl _, by simp [hd], fun _ => rfl, ?_, ?_⟩
      · intro x hx y hy hk
        rcases List.mem_append.1 hx with hx | hx
        · exact hkey x hx y hy hk
        · rw [List.mem_singleton.1 hx] at hk ⊢
          exact hone e he2.1 y hy hk
      · intro x hx y hy hk
        rcases List.mem_append.1 hx with hx | hx
        · exact hbo x hx y hy hk
        · rw [List.mem_singleton.1 hx] at hk ⊢
          exact hborn e he2.1 y hy hk
    · have g : ∀ (o : Obj), Exc (fun q => q = r) w (ChangeMaps.setBlock w1 r o) := fun o => by
        rcases hw1 with rfl | rfl
        · exact ⟨rfl, rfl, rfl, by simp [ChangeMaps.setBlock], fun i _ hi => by simp [ChangeMaps.setBlock, Ne.symm hi]⟩
        · exact ⟨rfl, rfl, rfl, by simp [ChangeMaps.setBlock], fun i _ hi => by simp [ChangeMaps.setBlock, Ne.symm hi]; rfl⟩
      exact g _
theorem IterD.entry {r : Nat} {done : List (Value × Value)} {p : Value × Value} (h : IterD P k w r b es (done ++ [p])) (hp : p ∈ es) : (Instr.entry (.pointer (some ⟨r, 0, none⟩))).run P w = .ok (.tuple #[p.1, p.2]) w := by
  obtain ⟨hm, hrb, ents, clock, c0, vs, hb, hr, hc, hd, hc1, hkey, hbo⟩ := h
  obtain ⟨ents', clock', hb', he, hbn, hdn, hkeys, hkp⟩ := hm
  rw [hb] at hb'; cases hb'
  rcases List.eq_nil_or_concat vs with rfl | ⟨vs', e, rfl⟩
  · simp at hd
  · have h1 : c0 = clock := hc1 (by simp)
    subst h1
    simp at hd
    obtain ⟨hd1, hd2⟩ := hd
    subst hd2
    rw [← he] at hp
    obtain ⟨y, hy, hye⟩ := List.mem_map.1 hp
    have hk0 : e.key = y.key := (congrArg Prod.fst hye).symm
    have := hkey e (by simp) y hy hk0
    subst this
    exact run_entry_at (P := P) w r b c0 (vs'.map (·.born)).toArray ents c0 e (by rw [hr]; simp) hb hy (List.pairwise_map.2 hdn)
theorem IterD.del {t e : TypeId} {r : Nat} {done l1 l2 : List (Value × Value)} {key u : Value} (h : IterD P k w r b (l1 ++ (key, u) :: l2) done) (K : Keyed P k) (ht : P.underlying t = some (.map k e)) {kl : Lit} (hk : keyOf P k key = some kl) (t2 ty : TypeId) :
    ∃ w', (Builtin.delete_ #[t, t2] ty #[.map (some b), key]).run P w = .ok (.tuple #[]) w' ∧ IterD P k w' r b (l1 ++ l2) done ∧ Exc (fun q => q = b) w w' := by
  obtain ⟨hm, hrb, ents, clock, c0, vs, hb, hr, hc, hd, hc1, hkey, hbo⟩ := h
  obtain ⟨w', h1, h2, h3, ents', clock', h4, h5⟩ := hm.del_there K ht hk t2 ty
  rw [hb] at h4; cases h4
  have hsub : ∀ y ∈ (ents.eraseIdxIfInBounds l1.length).toList, y ∈ ents.toList := by
    intro y hy
    by_cases hlt : l1.length < ents.size
    · rw [eraseList _ _ hlt] at hy
      exact (List.eraseIdx_sublist _ _).subset hy
    · rw [Array.eraseIdxIfInBounds_eq, dif_neg hlt] at hy
      exact hy
  exact ⟨w', h1, ⟨h2, hrb, _, clock, c0, vs, h5, (h3.block r (lt_of_some hr) hrb).trans hr, hc, hd, hc1, fun x hx y hy => hkey x hx y (hsub y hy), fun x hx y hy => hbo x hx y (hsub y hy)⟩, h3⟩
theorem IterD.keys {r : Nat} {done : List (Value × Value)} (h : IterD P k w r b es done) : es.Pairwise (fun p q => p.1 ≠ q.1) := h.1.keys
def Part.iterD (P : Program) (k : TypeId) (r b : Nat) (es done : List (Value × Value)) : Part where
  holds w := IterD P k w r b es done
  foot q := q = b ∨ q = r
  lt := fun _ h q e => by
    rcases e with e | e
    · subst e; exact h.1.lt
    · subst e; obtain ⟨_, _, _, _, _, _, _, hr, _⟩ := h; exact lt_of_some hr
  stay := fun _ _ h e => h.same (e b (.inl rfl)) (e r (.inr rfl))
theorem facts_iterD {r : Nat} {done : List (Value × Value)} (w : World) : (Part.iterD P k r b es done).facts w = True := rfl
end

section
variable {P : Program} {ops : Array Oper} {rest : List Oper} {o : Oper} {a : Act} {Q : Exit → Act → World → Prop} {L0 L F : List Part} {w0 w : World} {k : TypeId} {b : Nat} {es : List (Value × Value)}
theorem wpList_del_there_at {t t2 : TypeId} {m x : Operand} (hg : o.guard = none) (hop : o.op = .call { callee := .builtin .delete, args := #[m, x], argTypes := #[t, t2] }) (hm : a.eval m = .map (some b)) {key u : Value} {l1 l2 : List (Value × Value)} (hx : a.eval x = key)
    (h : At L0 w0 L w) (s : Sel (Part.map P k b (l1 ++ (key, u) :: l2)) L F) {e : TypeId} (K : Keyed P k) (ht : P.underlying t = some (.map k e)) {kl : Lit} (hk : keyOf P k key = some kl)
    (hK : ∀ w', At L0 w0 (Part.map P k b (l1 ++ l2) :: F) w' → wpList P ops Q rest (a.put o.dst (.tuple #[])) w') : wpList P ops Q (o :: rest) a w := by
  have hM : MapAt P k w b (l1 ++ (key, u) :: l2) := h.get s
  obtain ⟨w', h1, h2, h3, _⟩ := hM.del_there K ht hk t2 o.type
  refine wpList_val hg ?_ (hK w' (h.turn s _ h2 (fun _ e => .inl e) h3))
  simp [execOp, hop, resolve, invoke, builtin, hm, hx, h1, Result.andThen]
theorem wpList_del_none_at {t t2 : TypeId} {m x : Operand} (hg : o.guard = none) (hop : o.op = .call { callee := .builtin .delete, args := #[m, x], argTypes := #[t, t2] }) (hm : a.eval m = .map (some b)) {key : Value} (hx : a.eval x = key)
    (h : At L0 w0 L w) (s : Sel (Part.map P k b es) L F) {e : TypeId} (K : Keyed P k) (ht : P.underlying t = some (.map k e)) {kl : Lit} (hk : keyOf P k key = some kl) (hn : ∀ p ∈ es, p.1 ≠ key)
    (hK : ∀ w', At L0 w0 (Part.map P k b es :: F) w' → wpList P ops Q rest (a.put o.dst (.tuple #[])) w') : wpList P ops Q (o :: rest) a w := by
  have hM : MapAt P k w b es := h.get s
  obtain ⟨w', h1, h2, h3⟩ := hM.del_none K ht hk hn t2 o.type
  refine wpList_val hg ?_ (hK w' (h.turn s _ h2 (fun _ e => .inl e) h3))
  simp [execOp, hop, resolve, invoke, builtin, hm, hx, h1, Result.andThen]
/-- the same, of a map that is ranged over -/
theorem wpList_del_iter_at {t t2 : TypeId} {m x : Operand} {r : Nat} {done : List (Value × Value)} (hg : o.guard = none) (hop : o.op = .call { callee := .builtin .delete, args := #[m, x], argTypes := #[t, t2] }) (hm : a.eval m = .map (some b)) {key u : Value} {l1 l2 : List (Value × Value)} (hx : a.eval x = key)
    (h : At L0 w0 L w) (s : Sel (Part.iterD P k r b (l1 ++ (key, u) :: l2) done) L F) {e : TypeId} (K : Keyed P k) (ht : P.underlying t = some (.map k e)) {kl : Lit} (hk : keyOf P k key = some kl)
    (hK : ∀ w', At L0 w0 (Part.iterD P k r b (l1 ++ l2) done :: F) w' → wpList P ops Q rest (a.put o.dst (.tuple #[])) w') : wpList P ops Q (o :: rest) a w := by
  have hI : IterD P k w r b (l1 ++ (key, u) :: l2) done := h.get s
  obtain ⟨w', h1, h2, h3⟩ := hI.del K ht hk t2 o.type
  refine wpList_val hg ?_ (hK w' (h.turn s (Part.iterD P k r b (l1 ++ l2) done) h2 (fun _ e => .inl e) (h3.mono (fun _ _ e => .inl e))))
  simp [execOp, hop, resolve, invoke, builtin, hm, hx, h1, Result.andThen]
theorem wpList_nextD_at {r : Nat} {done : List (Value × Value)} {it : Operand} (hg : o.guard = none) (hop : o.op = .next it false) (hi : a.eval it = .pointer (some ⟨r, 0, none⟩)) (h : At L0 w0 L w) (s : Sel (Part.iterD P k r b es done) L F)
    (hEnd : (∀ p ∈ es, p ∈ done) → wpList P ops Q rest (a.put o.dst (.tuple #[.bool false])) w)
    (hK : ∀ p w', p ∈ es → (∀ q ∈ done, q.1 ≠ p.1) → At L0 w0 (Part.iterD P k r b es (done ++ [p]) :: F) w' → wpList P ops Q rest (a.put o.dst (.tuple #[.bool true, p.1, p.2])) w') : wpList P ops Q (o :: rest) a w := by
  have hI : IterD P k w r b es done := h.get s
  rcases hI.next o.type with ⟨h1, h2⟩ | ⟨p, w', h1, h2, h3, h4, h5⟩
  · refine wpList_val hg ?_ (hEnd h1)
    simp [execOp, hop, hi, h2, Result.andThen]
  · refine wpList_val hg ?_ (hK p w' h1 h2 (h.turn s (Part.iterD P k r b es (done ++ [p])) h4 (fun q e => .inl e) (h5.mono (fun _ _ e => .inr e))))
    simp [execOp, hop, hi, h3, Result.andThen]
theorem At.rangedD {r : Nat} {done : List (Value × Value)} (h : At L0 w0 L w) (s : Sel (Part.iterD P k r b es done) L F) : At L0 w0 (Part.map P k b es :: F) w := by
  have hI : IterD P k w r b es done := h.get s
  exact h.turn s (Part.map P k b es) hI.1 (fun _ e => .inl (.inl e)) (Exc.refl _ _)
theorem At.rangeD {r : Nat} (h : At L0 w0 L w) (s : Sel (Part.iter P k r b es []) L F) : At L0 w0 (Part.iterD P k r b es [] :: F) w := by
  have hI : IterAt P k w r b es [] := h.get s
  exact h.turn s (Part.iterD P k r b es []) (IterD.start hI) (fun _ e => .inl e) (Exc.refl _ _)
end
end Go.Proofs.Ytgicohkmfbbbdaa
end
