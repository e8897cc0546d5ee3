/- Map, MapW, PathW, joined. -/
import Derived.Test.YtnkddjomanaadaaDoorJ0
import Derived.Maps.Own
import Derived.DeepKeys4
import Derived.Maps.RangeWalk
import Derived.Test.YtnkddjomanaadaaDoorJ1
import Derived.Test.YtnkddjomanaadaaDoorJ2
import Derived.Test.YtnkddjomanaadaaDoorChecked
import Derived.Laws.RangeAny
import Derived.Lib.OthersKept
import Derived.Deep.QuietTactic
import Derived.BigQuiet
import Derived.Deep.LoopGhost
import Derived.WalkLawsBesides
section
namespace Go.Proofs.YtnkddjomanaadaaDoor
open Go.RowKit
open Go.Maps (Keyed)
set_option linter.unusedVariables false
set_option linter.unusedSimpArgs false

/-- block b is a map with these entries -/
def MapAt (P : Program) (k : TypeId) (w : World) (b : Nat) (es : List (Value × Value)) : Prop :=
  ∃ (ents : Array MapEntry) (clock : Nat), w.heap[b]? = some (.map ents clock) ∧ ents.toList.map (fun e => (e.key, e.val)) = es ∧ (∀ e ∈ ents.toList, e.born < clock) ∧ ents.toList.Pairwise (fun e f => e.born ≠ f.born) ∧
    (∀ p ∈ es, ∃ l, keyOf P k p.1 = some l) ∧ es.Pairwise (fun p q => p.1 ≠ q.1)

section
variable {P : Program} {k : TypeId} {w : World} {b : Nat} {es : List (Value × Value)}
theorem MapAt.lt (h : MapAt P k w b es) : b < w.heap.size := by
  obtain ⟨ents, clock, hb, _⟩ := h
  rcases Nat.lt_or_ge b w.heap.size with q | q
  · exact q
  · rw [Array.getElem?_eq_none q] at hb; cases hb
theorem MapAt.same (h : MapAt P k w b es) {w' : World} (e : w'.heap[b]? = w.heap[b]?) : MapAt P k w' b es := by
  obtain ⟨ents, clock, hb, r⟩ := h
  exact ⟨ents, clock, e.trans hb, r⟩
theorem MapAt.ext (h : MapAt P k w b es) {w' : World} (e : Ext w w') : MapAt P k w' b es := h.same (Below.block e b h.lt)
theorem MapAt.exc (h : MapAt P k w b es) {S : Nat → Prop} {w' : World} (e : Exc S w w') (hs : ¬ S b) : MapAt P k w' b es := h.same (e.block b h.lt hs)
theorem MapAt.made (P : Program) (k : TypeId) (w : World) : MapAt P k (w.alloc (.map #[] 0)) w.heap.size [] :=
  ⟨#[], 0, heap_alloc_new w _, rfl, nofun, List.Pairwise.nil, nofun, List.Pairwise.nil⟩

theorem MapAt.find (h : MapAt P k w b es) (K : Keyed P k) {key : Value} {kl : Lit} (hk : keyOf P k key = some kl) (w0 : World) :
    ∃ (ents : Array MapEntry) (clock : Nat), w.heap[b]? = some (.map ents clock) ∧
      (((Instr.findKey k key ents.toList).run P w0 = .ok none w0 ∧ ∀ p ∈ es, p.1 ≠ key) ∨ ∃ j v, (Instr.findKey k key ents.toList).run P w0 = .ok (some (j, v)) w0 ∧ (key, v) ∈ es) := by
  obtain ⟨ents, clock, hb, he, _, _, hkeys, _⟩ := h
  refine ⟨ents, clock, hb, ?_⟩
  have hall : ∀ e ∈ ents.toList, ∃ l, keyOf P k e.key = some l := fun e hm => hkeys (e.key, e.val) (by rw [← he]; exact List.mem_map.2 ⟨e, hm, rfl⟩)
  rcases K.find w0 hk ents.toList hall with ⟨h1, h2⟩ | ⟨j, e, h1, h2, h3⟩
  · refine .inl ⟨h1, fun p hp => ?_⟩
    rw [← he] at hp
    obtain ⟨e, hm, rfl⟩ := List.mem_map.1 hp
    exact h2 e hm
  · refine .inr ⟨j, e.val, h1, ?_⟩
    rw [← he]
    exact List.mem_map.2 ⟨e, List.mem_of_getElem? h2, by rw [h3]⟩

theorem once_of {es : List (Value × Value)} (h : es.Pairwise (fun p q => p.1 ≠ q.1)) {key u v : Value} (h1 : (key, u) ∈ es) (h2 : (key, v) ∈ es) : u = v := by
  induction es with
  | nil => cases h1
  | cons p r ih =>
    obtain ⟨hp, hr⟩ := List.pairwise_cons.1 h
    rcases List.mem_cons.1 h1 with e1 | e1
    · rcases List.mem_cons.1 h2 with e2 | e2
      · rw [← e1] at e2
        cases e2
        rfl
      · exact absurd (by rw [← e1]) (hp _ e2)
    · rcases List.mem_cons.1 h2 with e2 | e2
      · exact absurd (by rw [← e2]) (hp _ e1)
      · exact ih hr e1 e2
theorem MapAt.once (h : MapAt P k w b es) {key u v : Value} (h1 : (key, u) ∈ es) (h2 : (key, v) ∈ es) : u = v := by
  obtain ⟨_, _, _, _, _, _, _, hp⟩ := h
  exact once_of hp h1 h2

/-- a key that isn't there -/
theorem MapAt.look_none {t e : TypeId} (h : MapAt P k w b es) (K : Keyed P k) (ht : P.underlying t = some (.map k e)) {key : Value} {kl : Lit} (hk : keyOf P k key = some kl) (hn : ∀ p ∈ es, p.1 ≠ key) {z : Value} (hz : (zeroValue e).run P w = .ok z w) (ok : Bool) :
    (Instr.lookup t (.map (some b)) key ok).run P w = .ok (if ok then .tuple #[z, .bool false] else z) w := by
  obtain ⟨ents, clock, hb, hf⟩ := h.find K hk w
  rcases hf with ⟨h1, _⟩ | ⟨j, v, h1, h2⟩
  · simp [Instr.lookup, run_underlying ht, MapKept.run_getObj_map hb, K.check w _ hk, h1, hz, Result.andThen]
  · exact absurd rfl (hn _ h2)
/-- a key that is there -/
theorem MapAt.look_some {t e : TypeId} (h : MapAt P k w b es) (K : Keyed P k) (ht : P.underlying t = some (.map k e)) {key v : Value} {kl : Lit} (hk : keyOf P k key = some kl) (hn : (key, v) ∈ es) (ok : Bool) :
    (Instr.lookup t (.map (some b)) key ok).run P w = .ok (if ok then .tuple #[v, .bool true] else v) w := by
  obtain ⟨ents, clock, hb, hf⟩ := h.find K hk w
  rcases hf with ⟨_, h2⟩ | ⟨j, u, h1, h2⟩
  · exact absurd rfl (h2 _ hn)
  · have e := h.once hn h2
    subst e
    simp [Instr.lookup, run_underlying ht, MapKept.run_getObj_map hb, K.check w _ hk, h1, Result.andThen]
/-- a new entry -/
theorem MapAt.put_new {t e : TypeId} (h : MapAt P k w b es) (K : Keyed P k) (ht : P.underlying t = some (.map k e)) {key : Value} {kl : Lit} (hk : keyOf P k key = some kl) (hn : ∀ p ∈ es, p.1 ≠ key) (val : Value) :
    ∃ w', (Instr.mapUpdate t (.map (some b)) key val).run P w = .ok () w' ∧ MapAt P k w' b (es ++ [(key, val)]) ∧ Exc (fun q => q = b) w w' := by
  have h0 := h
  obtain ⟨ents, clock, hb, he, hbn, hdn, hkeys, hpw⟩ := h0
  obtain ⟨ents', clock', hb', hf⟩ := h.find K hk w
  rw [hb] at hb'
  cases hb'
  rcases hf with ⟨h1, _⟩ | ⟨j, v, h1, h2⟩
  · refine ⟨ChangeMaps.setBlock w b (.map (ents.push ⟨key, val, clock⟩) (clock + 1)), by simp [Instr.mapUpdate, run_underlying ht, MapKept.run_getObj_map hb, K.check w _ hk, h1, MapKept.run_setObj_map _ hb, Result.andThen, ChangeMaps.setBlock], ?_, ?_⟩
    · refine ⟨ents.push ⟨key, val, clock⟩, clock + 1, ChangeMaps.heap_setBlock_same hb _, ?_, ?_, ?_, ?_, ?_⟩
      · simp [he]
      · intro e hm
        simp only [Array.toList_push, List.mem_append, List.mem_singleton] at hm
        rcases hm with hm | hm
        · have := hbn e hm; omega
        · subst hm; simp
      · simp only [Array.toList_push]
        refine List.pairwise_append.2 ⟨hdn, List.pairwise_singleton _ _, fun e hm f hf => ?_⟩
        have hfe : f = ⟨key, val, clock⟩ := by simpa using hf
        subst hfe
        have := hbn e hm
        simp only
        omega
      · intro p hp
        rcases List.mem_append.1 hp with hp | hp
        · exact hkeys p hp
        · have : p = (key, val) := by simpa using hp
          subst this
          exact ⟨kl, hk⟩
      · refine List.pairwise_append.2 ⟨hpw, List.pairwise_singleton _ _, fun p hp q hq => ?_⟩
        have : q = (key, val) := by simpa using hq
        subst this
        exact hn p hp
    · exact ⟨rfl, rfl, rfl, by simp [ChangeMaps.setBlock], fun i _ hi => ChangeMaps.heap_setBlock_other hb _ (fun e => hi e)⟩
  · exact absurd rfl (hn _ h2)

theorem place_of {l1 l2 : List (Value × Value)} {key u : Value} (hp : (l1 ++ (key, u) :: l2).Pairwise (fun p q => p.1 ≠ q.1)) {j : Nat} {v : Value} (hj : (l1 ++ (key, u) :: l2)[j]? = some (key, v)) : j = l1.length := by
  obtain ⟨h1, h2, h3⟩ := List.pairwise_append.1 hp
  rcases Nat.lt_trichotomy j l1.length with h | h | h
  · rw [List.getElem?_append_left h] at hj
    exact absurd rfl (h3 (key, v) (List.mem_of_getElem? hj) (key, u) (by simp))
  · exact h
  · rw [List.getElem?_append_right (by omega), show j - l1.length = (j - l1.length - 1) + 1 by omega, List.getElem?_cons_succ] at hj
    exact absurd rfl ((List.pairwise_cons.1 h2).1 (key, v) (List.mem_of_getElem? hj))
theorem MapAt.find_at {l1 l2 : List (Value × Value)} {key u : Value} (h : MapAt P k w b (l1 ++ (key, u) :: l2)) (K : Keyed P k) {kl : Lit} (hk : keyOf P k key = some kl) (w0 : World) {ents : Array MapEntry} {clock : Nat} (hb : w.heap[b]? = some (.map ents clock)) :
    ∃ e, (Instr.findKey k key ents.toList).run P w0 = .ok (some (l1.length, u)) w0 ∧ ents[l1.length]? = some e ∧ e.key = key ∧ e.val = u := by
  obtain ⟨ents', clock', hb', he, _, _, hkeys, hpw⟩ := h
  rw [hb] at hb'; cases hb'
  have hall : ∀ e ∈ ents.toList, ∃ l, keyOf P k e.key = some l := fun e hm => hkeys (e.key, e.val) (by rw [← he]; exact List.mem_map.2 ⟨e, hm, rfl⟩)
  rcases K.find w0 hk ents.toList hall with ⟨_, h2⟩ | ⟨j, e, h1, h2, h3⟩
  · have : (key, u) ∈ ents.toList.map (fun e => (e.key, e.val)) := by rw [he]; simp
    obtain ⟨e, hm, hq⟩ := List.mem_map.1 this
    exact absurd (congrArg Prod.fst hq) (h2 e hm)
  · have hj : (l1 ++ (key, u) :: l2)[j]? = some (key, e.val) := by rw [← he, List.getElem?_map, h2]; simp [h3]
    have e1 := place_of hpw hj
    subst e1
    have hv : e.val = u := by simpa using hj.symm
    rw [hv] at h1
    exact ⟨e, h1, by simpa using h2, h3, hv⟩
/-- an entry is there: a new value -/
theorem MapAt.put_there {t e : TypeId} {l1 l2 : List (Value × Value)} {key u : Value} (h : MapAt P k w b (l1 ++ (key, u) :: l2)) (K : Keyed P k) (ht : P.underlying t = some (.map k e)) {kl : Lit} (hk : keyOf P k key = some kl) (val : Value) :
    ∃ w', (Instr.mapUpdate t (.map (some b)) key val).run P w = .ok () w' ∧ MapAt P k w' b (l1 ++ (key, val) :: l2) ∧ Exc (fun q => q = b) w w' := by
  have h0 := h
  obtain ⟨ents, clock, hb, he, hbn, hdn, hkeys, hpw⟩ := h0
  obtain ⟨e0, h1, h2, h3, h4⟩ := h.find_at K hk w hb
  have hlt : l1.length < ents.size := (Array.getElem?_eq_some_iff.1 h2).1
  have hge : ents[l1.length] = e0 := (Array.getElem?_eq_some_iff.1 h2).2
  have hmod : (ents.modify l1.length fun e => { e with key := key, val := val }).toList = ents.toList.set l1.length { e0 with key := key, val := val } := by
    apply List.ext_getElem?
    intro i
    rw [Array.getElem?_toList, Array.getElem?_modify, List.getElem?_set]
    split
    · rename_i hi
      subst hi
      simp [hlt, hge]
    · simp
  refine ⟨ChangeMaps.setBlock w b (.map (ents.modify l1.length fun e => { e with key := key, val := val }) clock), ?_, ?_, ?_⟩
  · simp [Instr.mapUpdate, run_underlying ht, MapKept.run_getObj_map hb, K.check w _ hk, h1, h2, h3, K.stays w hk, MapKept.run_setObj_map _ hb, Result.andThen, ChangeMaps.setBlock]
  · refine ⟨_, clock, ChangeMaps.heap_setBlock_same hb _, ?_, ?_, ?_, ?_, ?_⟩
    · rw [hmod, List.map_set, he]
      simp
    · intro e hm
      rw [hmod] at hm
      rcases List.mem_or_eq_of_mem_set hm with hm | hm
      · exact hbn e hm
      · subst hm; exact hbn e0 (by rw [Array.mem_toList_iff]; exact Array.mem_of_getElem? h2)
    · have e1 : (ents.modify l1.length fun e => { e with key := key, val := val }).toList.map (·.born) = ents.toList.map (·.born) := by
        rw [hmod, List.map_set]
        apply List.ext_getElem?
        intro i
        rw [List.getElem?_set]
        split
        · rename_i hi
          subst hi
          simp [hlt, hge]
        · rfl
      have q1 : (ents.toList.map (·.born)).Pairwise (· ≠ ·) := List.pairwise_map.2 hdn
      rw [← e1] at q1
      exact List.pairwise_map.1 q1
    · intro p hp
      rcases List.mem_append.1 hp with hp | hp
      · exact hkeys p (by simp [hp])
      · rcases List.mem_cons.1 hp with rfl | hp
        · exact ⟨kl, hk⟩
        · exact hkeys p (by simp [hp])
    · have q1 : ((l1 ++ (key, u) :: l2).map (·.1)).Pairwise (· ≠ ·) := List.pairwise_map.2 hpw
      have q2 : (l1 ++ (key, val) :: l2).map (·.1) = (l1 ++ (key, u) :: l2).map (·.1) := by simp
      rw [← q2] at q1
      exact List.pairwise_map.1 q1
  · exact ⟨rfl, rfl, rfl, by simp [ChangeMaps.setBlock], fun i _ hi => ChangeMaps.heap_setBlock_other hb _ (fun e => hi e)⟩

/-- a map as a part -/
def Part.map (P : Program) (k : TypeId) (b : Nat) (es : List (Value × Value)) : Part where
  holds w := MapAt P k w b es
  foot q := q = b
  lt := fun _ h _ e => by subst e; exact h.lt
  stay := fun _ _ h e => h.same (e b rfl)
theorem facts_map (w : World) : (Part.map P k b es).facts w = True := rfl

/-- how many entries -/
theorem MapAt.len (h : MapAt P k w b es) : ∃ ents clock, w.heap[b]? = some (.map ents clock) ∧ ents.size = es.length := by
  obtain ⟨ents, clock, hb, he, _⟩ := h
  exact ⟨ents, clock, hb, by rw [← he]; simp⟩

/-! ### A range over a map -/
/-- an iterator r over map b, of these entries, of which these have come -/
def IterAt (P : Program) (k : TypeId) (w : World) (r b : Nat) (es done : List (Value × Value)) : Prop :=
  MapAt P k w b es ∧ r ≠ b ∧ ∃ (ents : Array MapEntry) (clock c0 : Nat) (vs : List MapEntry), w.heap[b]? = some (.map ents clock) ∧ w.heap[r]? = some (.mapIter (some b) clock (vs.map (·.born)).toArray c0) ∧ clock ≤ c0 ∧
    vs.map (fun e => (e.key, e.val)) = done ∧ (∀ e ∈ vs, e ∈ ents.toList) ∧ vs.Pairwise (fun e f => e.born ≠ f.born) ∧ (vs ≠ [] → c0 = clock)
theorem IterAt.start (h : MapAt P k w b es) {t e : TypeId} (ht : P.underlying t = some (.map k e)) :
    ∃ w', (Instr.range t (.map (some b))).run P w = .ok (.pointer (some ⟨w.heap.size, 0, none⟩)) w' ∧ Ext w w' ∧ IterAt P k w' w.heap.size b es [] := by
  have h0 := h
  obtain ⟨ents, clock, hb, _⟩ := h0
  refine ⟨w.alloc (.mapIter (some b) clock #[] clock), by simp [Instr.range, run_underlying ht, MapKept.run_getObj_map hb, Result.andThen], (Ext.refl w).alloc _, h.ext ((Ext.refl w).alloc _), ?_, ents, clock, clock, [], ?_, heap_alloc_new w _, Nat.le_refl _, rfl, nofun, List.Pairwise.nil, fun q => absurd rfl q⟩
  · have := h.lt; omega
  · rw [Below.heap_alloc _ _ _ h.lt]; exact hb
theorem entry_of {ents : Array MapEntry} {es : List (Value × Value)} (he : ents.toList.map (fun e => (e.key, e.val)) = es) {e : MapEntry} (hm : e ∈ ents.toList) : (e.key, e.val) ∈ es := by
  rw [← he]; exact List.mem_map.2 ⟨e, hm, rfl⟩
theorem IterAt.next {r : Nat} {done : List (Value × Value)} (h : IterAt P k w r b es done) (ty : TypeId) :
    (es.Perm done ∧ (Instr.next (.pointer (some ⟨r, 0, none⟩)) false ty).run P w = .ok (.tuple #[.bool false]) w) ∨
    ∃ p w', p ∈ es ∧ (∀ q ∈ done, q.1 ≠ p.1) ∧ (Instr.next (.pointer (some ⟨r, 0, none⟩)) false ty).run P w = .ok (.tuple #[.bool true, p.1, p.2]) w' ∧ IterAt P k w' r b es (done ++ [p]) ∧ Exc (fun q => q = r) w w' := by
  obtain ⟨hm, hrb, ents, clock, c0, vs, hb, hr, hc, hd, hin, hpw, hc1⟩ := h
  have hm0 := hm
  obtain ⟨ents', clock', hb', he, hbn, hdn, hkeys, hkp⟩ := hm0
  rw [hb] at hb'; cases hb'
  have hborn : ∀ x ∈ ents.toList, ∀ y ∈ ents.toList, x.born = y.born → x = y := by
    intro x hx y hy e
    obtain ⟨i, hi⟩ := List.mem_iff_getElem?.1 hx
    obtain ⟨j, hj⟩ := List.mem_iff_getElem?.1 hy
    by_cases hij : i = j
    · subst hij; rw [hi] at hj; exact Option.some.inj hj
    · exfalso
      obtain ⟨hi1, hi2⟩ := List.getElem?_eq_some_iff.1 hi
      obtain ⟨hj1, hj2⟩ := List.getElem?_eq_some_iff.1 hj
      have hp := List.pairwise_iff_getElem.1 hdn
      rcases Nat.lt_or_gt_of_ne hij with q | q
      · exact hp i j hi1 hj1 q (by rw [hi2, hj2, e])
      · exact hp j i hj1 hi1 q (by rw [hi2, hj2, e])
  rcases run_next_at (P := P) w ty r b clock c0 (vs.map (·.born)).toArray ents clock hr hb hbn hc with ⟨h0, hrun⟩ | ⟨e, he1, w1, hw1, hrun⟩
  · refine .inl ⟨?_, hrun⟩
    have hall : ∀ x ∈ ents.toList, x ∈ vs := by
      intro x hx
      have h1 : leftOf ents (vs.map (·.born)).toArray = #[] := Array.eq_empty_of_size_eq_zero h0
      unfold leftOf at h1
      rw [Array.filter_eq_empty_iff] at h1
      have h2 := h1 x (by simpa using hx)
      simp at h2
      obtain ⟨y, hy, hyb⟩ := h2
      rw [← hborn y (hin y hy) x hx hyb]
      exact hy
    have np : ∀ (l : List MapEntry), l.Pairwise (fun e f => e.born ≠ f.born) → l.Nodup := fun l hl => hl.imp (fun h e => h (by rw [e]))
    have hp : ents.toList.Perm vs := (List.perm_ext_iff_of_nodup (np _ hdn) (np _ hpw)).2 (fun x => ⟨hall x, hin x⟩)
    rw [← he, ← hd]
    exact hp.map _
  · refine .inr ⟨(e.key, e.val), ChangeMaps.setBlock w1 r (.mapIter (some b) clock ((vs.map (·.born)).toArray.push e.born) clock), ?_, ?_, hrun, ?_, ?_⟩
    all_goals
      have he2 : e ∈ ents.toList ∧ ∀ y ∈ vs, y.born ≠ e.born := by
        unfold leftOf at he1
        simp at he1
        exact ⟨by simpa using he1.1, fun y hy hb => he1.2 y hy hb⟩
      have hh1 : w1.heap = w.heap := by rcases hw1 with rfl | rfl <;> rfl
    · exact entry_of he he2.1
    · intro q hq
      rw [← hd] at hq
      obtain ⟨y, hy, rfl⟩ := List.mem_map.1 hq
      intro hk
      obtain ⟨i, hi⟩ := List.mem_iff_getElem?.1 (hin y hy)
      obtain ⟨j, hj⟩ := List.mem_iff_getElem?.1 he2.1
      have hij : i ≠ j := by
        intro q; subst q; rw [hi] at hj; cases hj; exact he2.2 e hy rfl
      have hp := List.pairwise_iff_getElem.1 hkp
      have g1 : es[i]? = some (y.key, y.val) := by rw [← he, List.getElem?_map, hi]; rfl
      have g2 : es[j]? = some (e.key, e.val) := by rw [← he, List.getElem?_map, hj]; rfl
      obtain ⟨hi1, hi2⟩ := List.getElem?_eq_some_iff.1 g1
      obtain ⟨hj1, hj2⟩ := List.getElem?_eq_some_iff.1 g2
      rcases Nat.lt_or_gt_of_ne hij with q | q
      · exact hp i j hi1 hj1 q (by rw [hi2, hj2]; exact hk)
      · exact hp j i hj1 hi1 q (by rw [hi2, hj2]; exact hk.symm)
    · have hr1 : w1.heap[r]? = some (.mapIter (some b) clock (vs.map (·.born)).toArray c0) := by rw [hh1]; exact hr
      have k1 : ∀ (o : Obj) (i : Nat), i ≠ r → (ChangeMaps.setBlock w1 r o).heap[i]? = w.heap[i]? := fun o i hi => by
        rw [← hh1]; simp [ChangeMaps.setBlock, Ne.symm hi]
      have k2 : ∀ (o : Obj), (ChangeMaps.setBlock w1 r o).heap[r]? = some o := fun o => by
        have hlt := lt_of_some hr1
        simp [ChangeMaps.setBlock, hlt]
      refine ⟨hm.same (k1 _ b (Ne.symm hrb)), hrb, ents, clock, clock, vs ++ [e], by rw [k1 _ b (Ne.symm hrb)]; exact hb, by rw [k2]; simp, Nat.le_refl _, by simp [hd], ?_, ?_, fun _ => rfl⟩
      · intro x hx
        rcases List.mem_append.1 hx with hx | hx
        · exact hin x hx
        · have : x = e := by simpa using hx
          subst this; exact he2.1
      · refine List.pairwise_append.2 ⟨hpw, List.pairwise_singleton _ _, fun x hx y hy => ?_⟩
        have : y = e := by simpa using hy
        subst this
        exact he2.2 x hx
    · have g : ∀ (o : Obj), Exc (fun q => q = r) w (ChangeMaps.setBlock w1 r o) := fun o => by
        rcases hw1 with rfl | rfl
        · exact ⟨rfl, rfl, rfl, by simp [ChangeMaps.setBlock], fun i _ hi => by simp [ChangeMaps.setBlock, Ne.symm hi]⟩
        · exact ⟨rfl, rfl, rfl, by simp [ChangeMaps.setBlock], fun i _ hi => by simp [ChangeMaps.setBlock, Ne.symm hi]; rfl⟩
      exact g _
theorem IterAt.entry {r : Nat} {done : List (Value × Value)} {p : Value × Value} (h : IterAt P k w r b es (done ++ [p])) : (Instr.entry (.pointer (some ⟨r, 0, none⟩))).run P w = .ok (.tuple #[p.1, p.2]) w := by
  obtain ⟨hm, hrb, ents, clock, c0, vs, hb, hr, hc, hd, hin, hpw, hc1⟩ := h
  obtain ⟨ents', clock', hb', he, hbn, hdn, hkeys, hkp⟩ := hm
  rw [hb] at hb'; cases hb'
  rcases List.eq_nil_or_concat vs with rfl | ⟨vs', e, rfl⟩
  · simp at hd
  · have h1 : c0 = clock := hc1 (by simp)
    subst h1
    simp at hd
    obtain ⟨hd1, hd2⟩ := hd
    subst hd2
    have := run_entry_at (P := P) w r b c0 (vs'.map (·.born)).toArray ents c0 e (by rw [hr]; simp) hb (hin e (by simp)) (List.pairwise_map.2 hdn)
    exact this
theorem IterAt.len {r : Nat} {done : List (Value × Value)} (h : IterAt P k w r b es done) : done.length ≤ es.length := by
  obtain ⟨hm, hrb, ents, clock, c0, vs, hb, hr, hc, hd, hin, hpw, hc1⟩ := h
  obtain ⟨ents', clock', hb', he, hbn, hdn, hkeys, hkp⟩ := hm
  rw [hb] at hb'; cases hb'
  have h1 : (vs.map (·.born)).Nodup := List.pairwise_map.2 hpw
  have h2 := h1.length_le_of_subset (l₂ := ents.toList.map (·.born)) (fun x hx => by
    obtain ⟨e, he, rfl⟩ := List.mem_map.1 hx
    exact List.mem_map.2 ⟨e, hin e he, rfl⟩)
  rw [← hd, ← he]
  simpa using h2
theorem IterAt.keys {r : Nat} {done : List (Value × Value)} (h : IterAt P k w r b es done) : es.Pairwise (fun p q => p.1 ≠ q.1) := by
  obtain ⟨⟨_, _, _, _, _, _, _, hkp⟩, _⟩ := h
  exact hkp
theorem MapAt.keys (h : MapAt P k w b es) : es.Pairwise (fun p q => p.1 ≠ q.1) := by
  obtain ⟨_, _, _, _, _, _, _, hkp⟩ := h
  exact hkp
theorem IterAt.same {r : Nat} {done : List (Value × Value)} (h : IterAt P k w r b es done) {w' : World} (e1 : w'.heap[b]? = w.heap[b]?) (e2 : w'.heap[r]? = w.heap[r]?) : IterAt P k w' r b es done := by
  obtain ⟨hm, hrb, ents, clock, c0, vs, hb, hr, rest⟩ := h
  exact ⟨hm.same e1, hrb, ents, clock, c0, vs, e1.trans hb, e2.trans hr, rest⟩
/-- a map that is ranged over, and its iterator -/
def Part.iter (P : Program) (k : TypeId) (r b : Nat) (es done : List (Value × Value)) : Part where
  holds w := IterAt P k w r b es done
  foot q := q = b ∨ q = r
  lt := fun _ h q e => by
    rcases e with e | e
    · subst e; exact h.1.lt
    · subst e; obtain ⟨_, _, _, _, _, _, _, hr, _⟩ := h; exact lt_of_some hr
  stay := fun _ _ h e => h.same (e b (.inl rfl)) (e r (.inr rfl))
theorem facts_iter {r : Nat} {done : List (Value × Value)} (w : World) : (Part.iter P k r b es done).facts w = True := rfl
end
end Go.Proofs.YtnkddjomanaadaaDoor
end

section
namespace Go.Proofs.YtnkddjomanaadaaDoor
open Go.RowKit
open Go.Maps (Keyed)
set_option linter.unusedVariables false
set_option linter.unusedSimpArgs false

section
variable {P : Program} {k : TypeId} {w : World} {b : Nat} {es : List (Value × Value)}
theorem MapAt.run_len (h : MapAt P k w b es) {t e : TypeId} (ht : P.underlying t = some (.map k e)) (ty : TypeId) : (Builtin.len_ #[t] ty #[.map (some b)]).run P w = .ok (.int .i64 es.length) w := by
  obtain ⟨ents, clock, hb, hl⟩ := h.len
  simp [Builtin.len_, run_underlying ht, MapKept.run_getObj_map hb, Result.andThen, goInt, hl]
variable {ops : Array Oper} {rest : List Oper} {o : Oper} {a : Act} {Q : Exit → Act → World → Prop} {L0 L F : List Part} {w0 : World}
theorem wpList_len_map_at {t : TypeId} {m : Operand} (hg : o.guard = none) (hop : o.op = Op.call { callee := Callee.builtin Builtin.len, args := #[m], argTypes := #[t] }) (hm : a.eval m = .map (some b))
    (h : At L0 w0 L w) (s : Sel (Part.map P k b es) L F) {e : TypeId} (ht : P.underlying t = some (.map k e))
    (hK : wpList P ops Q rest (a.put o.dst (.int .i64 es.length)) w) : wpList P ops Q (o :: rest) a w := by
  have hM : MapAt P k w b es := h.get s
  refine wpList_val hg ?_ hK
  simp [execOp, hop, resolve, invoke, builtin, hm, hM.run_len ht o.type, Result.andThen]
theorem wpList_look_none_at {t : TypeId} {m x : Operand} (hg : o.guard = none) (hop : o.op = .lookup t m x true) (hm : a.eval m = .map (some b)) {key : Value} (hx : a.eval x = key)
    (h : At L0 w0 L w) (s : Sel (Part.map P k b es) L F) {e : TypeId} (K : Keyed P k) (ht : P.underlying t = some (.map k e)) {kl : Lit} (hk : keyOf P k key = some kl) (hn : ∀ p ∈ es, p.1 ≠ key) {z : Value} (hz : ∀ w, (zeroValue e).run P w = .ok z w)
    (hK : wpList P ops Q rest (a.put o.dst (.tuple #[z, .bool false])) w) : wpList P ops Q (o :: rest) a w := by
  have hM : MapAt P k w b es := h.get s
  refine wpList_val hg ?_ hK
  simp [execOp, hop, hm, hx, hM.look_none K ht hk hn (hz w) true, Result.andThen]
theorem wpList_look_some_at {t : TypeId} {m x : Operand} (hg : o.guard = none) (hop : o.op = .lookup t m x true) (hm : a.eval m = .map (some b)) {key : Value} (hx : a.eval x = key)
    (h : At L0 w0 L w) (s : Sel (Part.map P k b es) L F) {e : TypeId} (K : Keyed P k) (ht : P.underlying t = some (.map k e)) {kl : Lit} (hk : keyOf P k key = some kl) {v : Value} (hn : (key, v) ∈ es)
    (hK : wpList P ops Q rest (a.put o.dst (.tuple #[v, .bool true])) w) : wpList P ops Q (o :: rest) a w := by
  have hM : MapAt P k w b es := h.get s
  refine wpList_val hg ?_ hK
  simp [execOp, hop, hm, hx, hM.look_some K ht hk hn true, Result.andThen]
theorem wpList_look1_none_at {t : TypeId} {m x : Operand} (hg : o.guard = none) (hop : o.op = .lookup t m x false) (hm : a.eval m = .map (some b)) {key : Value} (hx : a.eval x = key)
    (h : At L0 w0 L w) (s : Sel (Part.map P k b es) L F) {e : TypeId} (K : Keyed P k) (ht : P.underlying t = some (.map k e)) {kl : Lit} (hk : keyOf P k key = some kl) (hn : ∀ p ∈ es, p.1 ≠ key) {z : Value} (hz : ∀ w, (zeroValue e).run P w = .ok z w)
    (hK : wpList P ops Q rest (a.put o.dst z) w) : wpList P ops Q (o :: rest) a w := by
  have hM : MapAt P k w b es := h.get s
  refine wpList_val hg ?_ hK
  simp [execOp, hop, hm, hx, hM.look_none K ht hk hn (hz w) false, Result.andThen]
theorem wpList_look1_some_at {t : TypeId} {m x : Operand} (hg : o.guard = none) (hop : o.op = .lookup t m x false) (hm : a.eval m = .map (some b)) {key : Value} (hx : a.eval x = key)
    (h : At L0 w0 L w) (s : Sel (Part.map P k b es) L F) {e : TypeId} (K : Keyed P k) (ht : P.underlying t = some (.map k e)) {kl : Lit} (hk : keyOf P k key = some kl) {v : Value} (hn : (key, v) ∈ es)
    (hK : wpList P ops Q rest (a.put o.dst v) w) : wpList P ops Q (o :: rest) a w := by
  have hM : MapAt P k w b es := h.get s
  refine wpList_val hg ?_ hK
  simp [execOp, hop, hm, hx, hM.look_some K ht hk hn false, Result.andThen]
/-- a new entry -/
theorem wpList_put_new_at {t : TypeId} {m x y : Operand} (hg : o.guard = none) (hop : o.op = .mapUpdate t m x y) (hm : a.eval m = .map (some b)) {key val : Value} (hx : a.eval x = key) (hy : a.eval y = val)
    (h : At L0 w0 L w) (s : Sel (Part.map P k b es) L F) {e : TypeId} (K : Keyed P k) (ht : P.underlying t = some (.map k e)) {kl : Lit} (hk : keyOf P k key = some kl) (hn : ∀ p ∈ es, p.1 ≠ key)
    (hK : ∀ w', At L0 w0 (Part.map P k b (es ++ [(key, val)]) :: F) w' → wpList P ops Q rest (a.put o.dst undef) w') : wpList P ops Q (o :: rest) a w := by
  have hM : MapAt P k w b es := h.get s
  obtain ⟨w', h1, h2, h3⟩ := hM.put_new K ht hk hn val
  refine wpList_unit hg ?_ (hK w' (h.turn s _ h2 (fun _ e => .inl e) h3))
  simp [execOp, hop, hm, hx, hy, h1, Result.andThen]
/-- a new value -/
theorem wpList_put_there_at {t : TypeId} {m x y : Operand} (hg : o.guard = none) (hop : o.op = .mapUpdate t m x y) (hm : a.eval m = .map (some b)) {key val u : Value} {l1 l2 : List (Value × Value)} (hx : a.eval x = key) (hy : a.eval y = val)
    (h : At L0 w0 L w) (s : Sel (Part.map P k b (l1 ++ (key, u) :: l2)) L F) {e : TypeId} (K : Keyed P k) (ht : P.underlying t = some (.map k e)) {kl : Lit} (hk : keyOf P k key = some kl)
    (hK : ∀ w', At L0 w0 (Part.map P k b (l1 ++ (key, val) :: l2) :: F) w' → wpList P ops Q rest (a.put o.dst undef) w') : wpList P ops Q (o :: rest) a w := by
  have hM : MapAt P k w b (l1 ++ (key, u) :: l2) := h.get s
  obtain ⟨w', h1, h2, h3⟩ := hM.put_there K ht hk val
  refine wpList_unit hg ?_ (hK w' (h.turn s _ h2 (fun _ e => .inl e) h3))
  simp [execOp, hop, hm, hx, hy, h1, Result.andThen]
/-- a new map -/
theorem wpList_makeMap_at {t : TypeId} (P : Program) (k : TypeId) (hg : o.guard = none) (hop : o.op = .makeMap t none) (h : At L0 w0 L w)
    (hK : ∀ b w', At L0 w0 (Part.map P k b [] :: L) w' → w0.heap.size ≤ b → wpList P ops Q rest (a.put o.dst (.map (some b))) w') : wpList P ops Q (o :: rest) a w := by
  refine wpList_val hg ?_ (hK _ _ (h.new ((Ext.refl w).alloc (.map #[] 0)) _ (MapAt.made P k w) (fun _ e => by cases e; exact Nat.le_refl _)) h.size)
  simp [execOp, hop, run_makeMap, Result.andThen]
/-- a range begins -/
theorem wpList_range_at {t : TypeId} {m : Operand} (hg : o.guard = none) (hop : o.op = .range t m) (hm : a.eval m = .map (some b)) (h : At L0 w0 L w) (s : Sel (Part.map P k b es) L F) {e : TypeId} (ht : P.underlying t = some (.map k e))
    (hK : ∀ r w', At L0 w0 (Part.iter P k r b es [] :: F) w' → w0.heap.size ≤ r → wpList P ops Q rest (a.put o.dst (.pointer (some ⟨r, 0, none⟩))) w') : wpList P ops Q (o :: rest) a w := by
  have hM : MapAt P k w b es := h.get s
  obtain ⟨w', h1, h2, h3⟩ := hM |> fun q => IterAt.start q ht
  refine wpList_val hg ?_ (hK _ w' (h.turn s (Part.iter P k w.heap.size b es []) h3 (fun q e => ?_) (h2.exc _)) h.size)
  · simp [execOp, hop, hm, h1, Result.andThen]
  · rcases e with e | e
    · exact .inl e
    · exact .inr (by omega)
/-- a step of a range -/
theorem wpList_next_at {r : Nat} {done : List (Value × Value)} {it : Operand} (hg : o.guard = none) (hop : o.op = .next it false) (hi : a.eval it = .pointer (some ⟨r, 0, none⟩)) (h : At L0 w0 L w) (s : Sel (Part.iter P k r b es done) L F)
    (hEnd : es.Perm done → wpList P ops Q rest (a.put o.dst (.tuple #[.bool false])) w)
    (hK : ∀ p w', p ∈ es → (∀ q ∈ done, q.1 ≠ p.1) → At L0 w0 (Part.iter P k r b es (done ++ [p]) :: F) w' → wpList P ops Q rest (a.put o.dst (.tuple #[.bool true, p.1, p.2])) w') : wpList P ops Q (o :: rest) a w := by
  have hI : IterAt P k w r b es done := h.get s
  rcases hI.next o.type with ⟨h1, h2⟩ | ⟨p, w', h1, h2, h3, h4, h5⟩
  · refine wpList_val hg ?_ (hEnd h1)
    simp [execOp, hop, hi, h2, Result.andThen]
  · refine wpList_val hg ?_ (hK p w' h1 h2 (h.turn s (Part.iter P k r b es (done ++ [p])) h4 (fun q e => .inl e) (h5.mono (fun _ _ e => .inr e))))
    simp [execOp, hop, hi, h3, Result.andThen]
theorem wpList_entry_at {r : Nat} {done : List (Value × Value)} {p : Value × Value} {it : Operand} (hg : o.guard = none) (hop : o.op = .entry it) (hi : a.eval it = .pointer (some ⟨r, 0, none⟩)) (h : At L0 w0 L w) (s : Sel (Part.iter P k r b es (done ++ [p])) L F)
    (hK : wpList P ops Q rest (a.put o.dst (.tuple #[p.1, p.2])) w) : wpList P ops Q (o :: rest) a w := by
  have hI : IterAt P k w r b es (done ++ [p]) := h.get s
  refine wpList_val hg ?_ hK
  simp [execOp, hop, hi, hI.entry, Result.andThen]
/-- behind a range -/
theorem At.ranged {r : Nat} {done : List (Value × Value)} (h : At L0 w0 L w) (s : Sel (Part.iter P k r b es done) L F) : At L0 w0 (Part.map P k b es :: F) w := by
  have hI : IterAt P k w r b es done := h.get s
  exact h.turn s (Part.map P k b es) hI.1 (fun _ e => .inl (.inl e)) (Exc.refl _ _)
end
end Go.Proofs.YtnkddjomanaadaaDoor
end

section
namespace Go.Proofs.YtnkddjomanaadaaDoor.Path
open Go.RowKit
set_option linter.unusedSimpArgs false
set_option linter.unusedVariables false

def letR (r : Int) : Bool := (decide (97 ≤ r) && decide (r ≤ 122)) || (decide (48 ≤ r) && decide (r ≤ 57)) || decide (r = 45) || decide (r = 95)
theorem letR_eq (c : UInt8) : letR (c.toNat : Int) = letB c := by
  unfold letR letB
  rw [Bool.eq_iff_iff]
  simp only [Bool.or_eq_true, Bool.and_eq_true, decide_eq_true_eq]
  omega
theorem letR_high {r : Int} (h : 128 ≤ r) : letR r = false := by
  unfold letR
  have h1 : ¬ r ≤ 122 := by omega
  have h2 : ¬ r ≤ 57 := by omega
  have h3 : ¬ r = 45 := by omega
  have h4 : ¬ r = 95 := by omega
  simp [h1, h2, h3, h4]
theorem letter_cases (r : Int) : (97 ≤ r ∧ r ≤ 122) ∨ (48 ≤ r ∧ r ≤ 57) ∨ r = 45 ∨ r = 95 ∨ (r < 45) ∨ (45 < r ∧ r < 48) ∨ (57 < r ∧ r < 95) ∨ r = 96 ∨ 122 < r := by omega
set_option maxRecDepth 100000 in
theorem letter_any (r : Int) (w : World) : Calls Tryd.prog 84 #[.int .i32 r] w fun e w' => e = .returned (.bool (letR r)) ∧ w = w' := by
  have key : ∀ (b1 b2 b3 b4 b5 b6 : Bool), decide (97 ≤ r) = b1 → decide (r ≤ 122) = b2 → decide (48 ≤ r) = b3 → decide (r ≤ 57) = b4 → decide (r = 45) = b5 → decide (r = 95) = b6 →
      Calls Tryd.prog 84 #[.int .i32 r] w fun e w' => e = .returned (.bool ((b1 && b2) || (b3 && b4) || b5 || b6)) ∧ w = w' := by
    intro b1 b2 b3 b4 b5 b6 h1 h2 h3 h4 h5 h6
    have h5' : (r == 45) = b5 := by rw [← h5]; rfl
    have h6' : (r == 95) = b6 := by rw [← h6]; rfl
    clear h5 h6
    cases b1 <;> cases b2 <;> cases b3 <;> cases b4 <;> cases b5 <;> cases b6
    all_goals first
      | (exfalso; simp at h1 h2 h3 h4 h5' h6'; omega)
      | (go_enter Tryd.func84, Tryd.ntmps84
         go_wp2
         go_ret
         exact ⟨rfl, rfl⟩)
  exact key _ _ _ _ _ _ rfl rfl rfl rfl rfl rfl

/-! ### A range over a text -/
section
variable {P : Program} {ops : Array Oper} {rest : List Oper} {o : Oper} {a : Act} {Q : Exit → Act → World → Prop} {L0 L F : List Part} {w0 w : World}
theorem wpList_srange_at {t : TypeId} {x : Operand} {s : ByteArray} (hg : o.guard = none) (hop : o.op = .range t x) (hx : a.eval x = .string s) (ht : P.underlying t = some .string) (h : At L0 w0 L w)
    (hK : ∀ r w', At L0 w0 (Part.obj r (.stringIter s 0) :: L) w' → w0.heap.size ≤ r → wpList P ops Q rest (a.put o.dst (.pointer (some ⟨r, 0, none⟩))) w') : wpList P ops Q (o :: rest) a w := by
  refine wpList_val hg ?_ (hK _ _ (h.allocObj (.stringIter s 0)) h.size)
  simp [execOp, hop, hx, run_range_string w t s ht, World.iter, Result.andThen]
theorem wpList_snext_at {r pos : Nat} {s : ByteArray} {it : Operand} (hg : o.guard = none) (hop : o.op = .next it true) (hi : a.eval it = .pointer (some ⟨r, 0, none⟩)) (h : At L0 w0 L w) (sl : Sel (Part.obj r (.stringIter s pos)) L F)
    (hEnd : ¬ pos < s.size → wpList P ops Q rest (a.put o.dst (.tuple #[.bool false])) w)
    (hK : ∀ w', pos < s.size → At L0 w0 (Part.obj r (.stringIter s (pos + (Utf8.decode s pos).2)) :: F) w' → wpList P ops Q rest (a.put o.dst (.tuple #[.bool true, .int .i64 pos, .int .i32 (Utf8.decode s pos).1])) w') : wpList P ops Q (o :: rest) a w := by
  have hI : w.heap[r]? = some (.stringIter s pos) := h.get sl
  by_cases hp : pos < s.size
  · have h1 := Lib.run_next_any_at (P := P) w r s pos o.type hI hp
    refine wpList_val hg ?_ (hK _ hp (h.turn sl (Part.obj r (.stringIter s (pos + (Utf8.decode s pos).2))) (Lib.iterAt_heap w r s pos _ hI) (fun _ e => .inl e) ?_))
    · simp [execOp, hop, hi, h1, Result.andThen]
    · exact ⟨rfl, rfl, rfl, by rw [Lib.iterAt_size]; exact Nat.le_refl _, fun i _ hn => Lib.iterAt_other w r i s _ hn⟩
  · have h1 := Lib.run_next_end_at (P := P) w r s pos o.type hI hp
    refine wpList_val hg ?_ (hEnd hp)
    simp [execOp, hop, hi, h1, Result.andThen]
end

theorem all_take {s : ByteArray} {pos : Nat} (h : ¬ pos < s.size) (ha : (s.data.toList.take pos).all letB = true) : s.data.toList.all letB = true := by
  rwa [List.take_of_length_le (by simpa using Nat.le_of_not_lt h)] at ha
theorem all_succ {s : ByteArray} {pos : Nat} (h : pos < s.size) (ha : (s.data.toList.take pos).all letB = true) (hc : letB s[pos] = true) : (s.data.toList.take (pos + 1)).all letB = true := by
  rw [List.take_succ_eq_append_getElem (by simpa using h), List.all_append, ha]
  simpa using (show letB (s.data[pos]'(by simpa using h)) = true from hc)
theorem all_no {s : ByteArray} {pos : Nat} (h : pos < s.size) (hc : letB s[pos] = false) : partB s.data.toList = false := by
  unfold partB
  rw [Bool.and_eq_false_iff]
  right
  cases q : s.data.toList.all letB
  · rfl
  · have := List.all_eq_true.1 q s[pos] (by show s.data[pos]'(by simpa using h) ∈ s.data.toList; exact Array.mem_toList_iff.2 (Array.getElem_mem _))
    rw [hc] at this; cases this
theorem letB_ascii {c : UInt8} (h : letB c = true) : c.toNat < 128 := by
  unfold letB at h
  simp only [Bool.or_eq_true, Bool.and_eq_true, decide_eq_true_eq] at h
  omega
theorem dec_yes {s : ByteArray} {pos : Nat} (h : pos < s.size) (hc : letB s[pos] = true) : Utf8.decode s pos = (s[pos].toNat, 1) := decode_ascii s pos h (letB_ascii hc)
theorem dec_no {s : ByteArray} {pos : Nat} (h : pos < s.size) (hc : letB s[pos] = false) : letR ((Utf8.decode s pos).1 : Int) = false := by
  by_cases ha : s[pos].toNat < 128
  · rw [decode_ascii s pos h ha]
    simp only
    rw [letR_eq, hc]
  · have := (decode_high s pos h (by omega)).1
    exact letR_high (by omega)

def PartRel (w : World) (r : Nat) (s : ByteArray) (k : Nat) (wr : World) : Prop :=
  ∃ pos : Nat, At [] w [Part.obj r (.stringIter s pos)] wr ∧ pos + k = s.size ∧ (s.data.toList.take pos).all letB = true
set_option maxRecDepth 100000 in
theorem part_any (s : ByteArray) (w : World) : Calls Tryd.prog 75 #[.string s] w fun e w' => e = .returned (.bool (partB s.data.toList)) ∧ Ext w w' := by
  have hA := At.start (w0 := w) (L0 := []) trivial
  have hF := hA.facts
  go_enter Tryd.func75, Tryd.ntmps75
  go_wp2_with (refine wpList_srange_at rfl rfl rfl Tryd.underlying9 hA ?_; intro r w1 hB hr; clear hF hA; have hA := hB; clear hB; (try simp only [setL, List.set_cons_zero, List.set_cons_succ, List.cons_append, List.nil_append] at hA); (have hF := hA.facts); (try simp only [facts_cons, facts_nil, facts_cells, facts_old, facts_fact, facts_obj, facts_map, facts_iter, and_true, true_and] at hF))
  try go_frame
  go_loopg [] s.size (PartRel w r s)
  case atStart => exact ⟨0, hA, by simp, by simp⟩
  case round =>
    obtain ⟨pos, hB, hk, hal⟩ := hrel
    clear hF hA
    have hA := hB
    clear hB
    go_step
    go_step
    refine wpList_snext_at rfl rfl rfl hA (by with_reducible repeat (first | exact Sel.here | apply Sel.there)) (fun hp => ?_) (fun w1 hp hB => ?_)
    · have hall := all_take hp hal
      have e : partB s.data.toList = !s.data.toList.isEmpty := by unfold partB; rw [hall, Bool.and_true]
      have e' := Lib.hid e
      clear e hall hal
      go_wp2_with fail
      go_ret
      exact ⟨by rw [e'.out, ← Lib.toList_data]; rfl, hA.toExt⟩
    · cases hc : letB s[pos]
      · have hd := dec_no hp hc
        have hno := Lib.hid (all_no hp hc)
        clear hc hal hk
        generalize Utf8.decode s pos = d at *
        obtain ⟨d1, d2⟩ := d
        simp only at hd
        clear hA
        have hA := hB
        clear hB
        (try simp only [setL, List.set_cons_zero, List.set_cons_succ, List.cons_append, List.nil_append] at hA); (have hF := hA.facts); (try simp only [facts_cons, facts_nil, facts_cells, facts_old, facts_fact, facts_obj, facts_map, facts_iter, and_true, true_and] at hF)
        go_wp2_with (refine (letter_any _ _).mono ?_; rintro e _ ⟨rfl, rfl⟩)
        go_ret
        exact ⟨by rw [hno.out]; rfl, hA.toExt⟩
      · have hd := dec_yes hp hc
        have hal' := Lib.hid (all_succ hp hal hc)
        have hy : letR (s[pos].toNat : Int) = true := by rw [letR_eq, hc]
        rw [hd] at hB
        rw [hd]
        clear hd hal
        generalize s[pos] = c at *
        clear hA
        have hA := hB
        clear hB
        (try simp only [setL, List.set_cons_zero, List.set_cons_succ, List.cons_append, List.nil_append] at hA); (have hF := hA.facts); (try simp only [facts_cons, facts_nil, facts_cells, facts_old, facts_fact, facts_obj, facts_map, facts_iter, and_true, true_and] at hF)
        go_wp2_with (refine (letter_any _ _).mono ?_; rintro e _ ⟨rfl, rfl⟩)
        go_roundg (gk - 1)
        case measure => omega
        case rel => exact ⟨pos + 1, hA, by omega, hal'.out⟩
end Go.Proofs.YtnkddjomanaadaaDoor.Path
end
