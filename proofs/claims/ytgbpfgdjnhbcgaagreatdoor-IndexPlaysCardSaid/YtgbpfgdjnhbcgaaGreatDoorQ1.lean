/- Map, SepW, Row, Row2, Row4, joined. -/
import Derived.Test.YtgbpfgdjnhbcgaaGreatDoorQ0
import Derived.DeepKeys4
import Derived.Deep.MidRow
import Derived.BigQuiet
import Derived.Deep.Cut
set_option linter.unusedSimpArgs false
set_option linter.unusedVariables false
set_option maxRecDepth 100000
set_option maxHeartbeats 16000000
section
namespace Go.Proofs.YtgbpfgdjnhbcgaaGreatDoor
open Go.RowKit
open Go.Maps (Keyed)
def MapAt (P : Program) (k : TypeId) (w : World) (b : Nat) (es : List (Value × Value)) : Prop :=
 ∃ (ents : Array MapEntry) (clock : Nat), w.heap[b]? = some (.map ents clock) ∧ ents.toList.map (fun e => (e.key, e.val)) = es ∧ (∀ e ∈ ents.toList, e.born < clock) ∧ ents.toList.Pairwise (fun e f => e.born ≠ f.born) ∧
  (∀ p ∈ es, ∃ l, keyOf P k p.1 = some l) ∧ es.Pairwise (fun p q => p.1 ≠ q.1)
section
variable {P : Program} {k : TypeId} {w : World} {b : Nat} {es : List (Value × Value)}
theorem MapAt.lt (h : MapAt P k w b es) : b < w.heap.size := by
 obtain ⟨ents, clock, hb, _⟩ := h
 rcases Nat.lt_or_ge b w.heap.size with q | q
 · exact q
 · rw [Array.getElem?_eq_none q] at hb; cases hb
theorem MapAt.same (h : MapAt P k w b es) {w' : World} (e : w'.heap[b]? = w.heap[b]?) : MapAt P k w' b es := by
 obtain ⟨ents, clock, hb, r⟩ := h
 exact ⟨ents, clock, e.trans hb, r⟩
theorem MapAt.ext (h : MapAt P k w b es) {w' : World} (e : Ext w w') : MapAt P k w' b es := h.same (Below.block e b h.lt)
theorem MapAt.exc (h : MapAt P k w b es) {S : Nat → Prop} {w' : World} (e : Exc S w w') (hs : ¬ S b) : MapAt P k w' b es := h.same (e.block b h.lt hs)
theorem MapAt.made (P : Program) (k : TypeId) (w : World) : MapAt P k (w.alloc (.map #[] 0)) w.heap.size [] :=
 ⟨#[], 0, heap_alloc_new w _, rfl, nofun, List.Pairwise.nil, nofun, List.Pairwise.nil⟩
theorem MapAt.find (h : MapAt P k w b es) (K : Keyed P k) {key : Value} {kl : Lit} (hk : keyOf P k key = some kl) (w0 : World) :
 ∃ (ents : Array MapEntry) (clock : Nat), w.heap[b]? = some (.map ents clock) ∧
  (((Instr.findKey k key ents.toList).run P w0 = .ok none w0 ∧ ∀ p ∈ es, p.1 ≠ key) ∨ ∃ j v, (Instr.findKey k key ents.toList).run P w0 = .ok (some (j, v)) w0 ∧ (key, v) ∈ es) := by
 obtain ⟨ents, clock, hb, he, _, _, hkeys, _⟩ := h
 refine ⟨ents, clock, hb, ?_⟩
 have hall : ∀ e ∈ ents.toList, ∃ l, keyOf P k e.key = some l := fun e hm => hkeys (e.key, e.val) (by rw [← he]; exact List.mem_map.2 ⟨e, hm, rfl⟩)
 rcases K.find w0 hk ents.toList hall with ⟨h1, h2⟩ | ⟨j, e, h1, h2, h3⟩
 · refine .inl ⟨h1, fun p hp => ?_⟩
   rw [← he] at hp
   obtain ⟨e, hm, rfl⟩ := List.mem_map.1 hp
   exact h2 e hm
 · refine .inr ⟨j, e.val, h1, ?_⟩
   rw [← he]
   exact List.mem_map.2 ⟨e, List.mem_of_getElem? h2, by rw [h3]⟩
theorem once_of {es : List (Value × Value)} (h : es.Pairwise (fun p q => p.1 ≠ q.1)) {key u v : Value} (h1 : (key, u) ∈ es) (h2 : (key, v) ∈ es) : u = v := by
 induction es with
 | nil => cases h1
 | cons p r ih =>
  obtain ⟨hp, hr⟩ := List.pairwise_cons.1 h
  rcases List.mem_cons.1 h1 with e1 | e1
  · rcases List.mem_cons.1 h2 with e2 | e2
    · rw [← e1] at e2
      cases e2
      rfl
    · exact absurd (by rw [← e1]) (hp _ e2)
  · rcases List.mem_cons.1 h2 with e2 | e2
    · exact absurd (by rw [← e2]) (hp _ e1)
    · exact ih hr e1 e2
theorem MapAt.once (h : MapAt P k w b es) {key u v : Value} (h1 : (key, u) ∈ es) (h2 : (key, v) ∈ es) : u = v := by
 obtain ⟨_, _, _, _, _, _, _, hp⟩ := h
 exact once_of hp h1 h2
theorem MapAt.look_none {t e : TypeId} (h : MapAt P k w b es) (K : Keyed P k) (ht : P.underlying t = some (.map k e)) {key : Value} {kl : Lit} (hk : keyOf P k key = some kl) (hn : ∀ p ∈ es, p.1 ≠ key) {z : Value} (hz : (zeroValue e).run P w = .ok z w) (ok : Bool) :
 (Instr.lookup t (.map (some b)) key ok).run P w = .ok (if ok then .tuple #[z, .bool false] else z) w := by
 obtain ⟨ents, clock, hb, hf⟩ := h.find K hk w
 rcases hf with ⟨h1, _⟩ | ⟨j, v, h1, h2⟩
 · simp [Instr.lookup, run_underlying ht, MapKept.run_getObj_map hb, K.check w _ hk, h1, hz, Result.andThen]
 · exact absurd rfl (hn _ h2)
theorem MapAt.look_some {t e : TypeId} (h : MapAt P k w b es) (K : Keyed P k) (ht : P.underlying t = some (.map k e)) {key v : Value} {kl : Lit} (hk : keyOf P k key = some kl) (hn : (key, v) ∈ es) (ok : Bool) :
 (Instr.lookup t (.map (some b)) key ok).run P w = .ok (if ok then .tuple #[v, .bool true] else v) w := by
 obtain ⟨ents, clock, hb, hf⟩ := h.find K hk w
 rcases hf with ⟨_, h2⟩ | ⟨j, u, h1, h2⟩
 · exact absurd rfl (h2 _ hn)
 · have e := h.once hn h2
   subst e
   simp [Instr.lookup, run_underlying ht, MapKept.run_getObj_map hb, K.check w _ hk, h1, Result.andThen]
theorem MapAt.put_new {t e : TypeId} (h : MapAt P k w b es) (K : Keyed P k) (ht : P.underlying t = some (.map k e)) {key : Value} {kl : Lit} (hk : keyOf P k key = some kl) (hn : ∀ p ∈ es, p.1 ≠ key) (val : Value) :
 ∃ w', (Instr.mapUpdate t (.map (some b)) key val).run P w = .ok () w' ∧ MapAt P k w' b (es ++ [(key, val)]) ∧ Exc (fun q => q = b) w w' := by
 have h0 := h
 obtain ⟨ents, clock, hb, he, hbn, hdn, hkeys, hpw⟩ := h0
 obtain ⟨ents', clock', hb', hf⟩ := h.find K hk w
 rw [hb] at hb'
 cases hb'
 rcases hf with ⟨h1, _⟩ | ⟨j, v, h1, h2⟩
 · refine ⟨ChangeMaps.setBlock w b (.map (ents.push ⟨key, val, clock⟩) (clock + 1)), by simp [Instr.mapUpdate, run_underlying ht, MapKept.run_getObj_map hb, K.check w _ hk, h1, MapKept.run_setObj_map _ hb, Result.andThen, ChangeMaps.setBlock], ?_, ?_⟩
   · refine ⟨ents.push ⟨key, val, clock⟩, clock + 1, ChangeMaps.heap_setBlock_same hb _, ?_, ?_, ?_, ?_, ?_⟩
     · simp [he]
     · intro e hm
       simp only [Array.toList_push, List.mem_append, List.mem_singleton] at hm
       rcases hm with hm | hm
       · have := hbn e hm; omega
       · subst hm; simp
     · simp only [Array.toList_push]
       refine List.pairwise_append.2 ⟨hdn, List.pairwise_singleton _ _, fun e hm f hf => ?_⟩
       have hfe : f = ⟨key, val, clock⟩ := by simpa using hf
       subst hfe
       have := hbn e hm
       simp only
       omega
     · intro p hp
       rcases List.mem_append.1 hp with hp | hp
       · exact hkeys p hp
       · have : p = (key, val) := by simpa using hp
         subst this
         exact ⟨kl, hk⟩
     · refine List.pairwise_append.2 ⟨hpw, List.pairwise_singleton _ _, fun p hp q hq => ?_⟩
       have : q = (key, val) := by simpa using hq
       subst this
       exact hn p hp
   · exact ⟨rfl, rfl, rfl, by simp [ChangeMaps.setBlock], fun i _ hi => ChangeMaps.heap_setBlock_other hb _ (fun e => hi e)⟩
 · exact absurd rfl (hn _ h2)
theorem place_of {l1 l2 : List (Value × Value)} {key u : Value} (hp : (l1 ++ (key, u) :: l2).Pairwise (fun p q => p.1 ≠ q.1)) {j : Nat} {v : Value} (hj : (l1 ++ (key, u) :: l2)[j]? = some (key, v)) : j = l1.length := by
 obtain ⟨h1, h2, h3⟩ := List.pairwise_append.1 hp
 rcases Nat.lt_trichotomy j l1.length with h | h | h
 · rw [List.getElem?_append_left h] at hj
   exact absurd rfl (h3 (key, v) (List.mem_of_getElem? hj) (key, u) (by simp))
 · exact h
 · rw [List.getElem?_append_right (by omega), show j - l1.length = (j - l1.length - 1) + 1 by omega, List.getElem?_cons_succ] at hj
   exact absurd rfl ((List.pairwise_cons.1 h2).1 (key, v) (List.mem_of_getElem? hj))
theorem MapAt.find_at {l1 l2 : List (Value × Value)} {key u : Value} (h : MapAt P k w b (l1 ++ (key, u) :: l2)) (K : Keyed P k) {kl : Lit} (hk : keyOf P k key = some kl) (w0 : World) {ents : Array MapEntry} {clock : Nat} (hb : w.heap[b]? = some (.map ents clock)) :
 ∃ e, (Instr.findKey k key ents.toList).run P w0 = .ok (some (l1.length, u)) w0 ∧ ents[l1.length]? = some e ∧ e.key = key ∧ e.val = u := by
 obtain ⟨ents', clock', hb', he, _, _, hkeys, hpw⟩ := h
 rw [hb] at hb'; cases hb'
 have hall : ∀ e ∈ ents.toList, ∃ l, keyOf P k e.key = some l := fun e hm => hkeys (e.key, e.val) (by rw [← he]; exact List.mem_map.2 ⟨e, hm, rfl⟩)
 rcases K.find w0 hk ents.toList hall with ⟨_, h2⟩ | ⟨j, e, h1, h2, h3⟩
 · have : (key, u) ∈ ents.toList.map (fun e => (e.key, e.val)) := by rw [he]; simp
   obtain ⟨e, hm, hq⟩ := List.mem_map.1 this
   exact absurd (congrArg Prod.fst hq) (h2 e hm)
 · have hj : (l1 ++ (key, u) :: l2)[j]? = some (key, e.val) := by rw [← he, List.getElem?_map, h2]; simp [h3]
   have e1 := place_of hpw hj
   subst e1
   have hv : e.val = u := by simpa using hj.symm
   rw [hv] at h1
   exact ⟨e, h1, by simpa using h2, h3, hv⟩
theorem MapAt.put_there {t e : TypeId} {l1 l2 : List (Value × Value)} {key u : Value} (h : MapAt P k w b (l1 ++ (key, u) :: l2)) (K : Keyed P k) (ht : P.underlying t = some (.map k e)) {kl : Lit} (hk : keyOf P k key = some kl) (val : Value) :
 ∃ w', (Instr.mapUpdate t (.map (some b)) key val).run P w = .ok () w' ∧ MapAt P k w' b (l1 ++ (key, val) :: l2) ∧ Exc (fun q => q = b) w w' := by
 have h0 := h
 obtain ⟨ents, clock, hb, he, hbn, hdn, hkeys, hpw⟩ := h0
 obtain ⟨e0, h1, h2, h3, h4⟩ := h.find_at K hk w hb
 have hlt : l1.length < ents.size := (Array.getElem?_eq_some_iff.1 h2).1
 have hge : ents[l1.length] = e0 := (Array.getElem?_eq_some_iff.1 h2).2
 have hmod : (ents.modify l1.length fun e => { e with key := key, val := val }).toList = ents.toList.set l1.length { e0 with key := key, val := val } := by
  apply List.ext_getElem?
  intro i
  rw [Array.getElem?_toList, Array.getElem?_modify, List.getElem?_set]
  split
  · rename_i hi
    subst hi
    simp [hlt, hge]
  · simp
 refine ⟨ChangeMaps.setBlock w b (.map (ents.modify l1.length fun e => { e with key := key, val := val }) clock), ?_, ?_, ?_⟩
 · simp [Instr.mapUpdate, run_underlying ht, MapKept.run_getObj_map hb, K.check w _ hk, h1, h2, h3, K.stays w hk, MapKept.run_setObj_map _ hb, Result.andThen, ChangeMaps.setBlock]
 · refine ⟨_, clock, ChangeMaps.heap_setBlock_same hb _, ?_, ?_, ?_, ?_, ?_⟩
   · rw [hmod, List.map_set, he]
     simp
   · intro e hm
     rw [hmod] at hm
     rcases List.mem_or_eq_of_mem_set hm with hm | hm
     · exact hbn e hm
     · subst hm; exact hbn e0 (by rw [Array.mem_toList_iff]; exact Array.mem_of_getElem? h2)
   · have e1 : (ents.modify l1.length fun e => { e with key := key, val := val }).toList.map (·.born) = ents.toList.map (·.born) := by
      rw [hmod, List.map_set]
      apply List.ext_getElem?
      intro i
      rw [List.getElem?_set]
      split
      · rename_i hi
        subst hi
        simp [hlt, hge]
      · rfl
     have q1 : (ents.toList.map (·.born)).Pairwise (· ≠ ·) := List.pairwise_map.2 hdn
     rw [← e1] at q1
     exact List.pairwise_map.1 q1
   · intro p hp
     rcases List.mem_append.1 hp with hp | hp
     · exact hkeys p (by simp [hp])
     · rcases List.mem_cons.1 hp with rfl | hp
       · exact ⟨kl, hk⟩
       · exact hkeys p (by simp [hp])
   · have q1 : ((l1 ++ (key, u) :: l2).map (·.1)).Pairwise (· ≠ ·) := List.pairwise_map.2 hpw
     have q2 : (l1 ++ (key, val) :: l2).map (·.1) = (l1 ++ (key, u) :: l2).map (·.1) := by simp
     rw [← q2] at q1
     exact List.pairwise_map.1 q1
 · exact ⟨rfl, rfl, rfl, by simp [ChangeMaps.setBlock], fun i _ hi => ChangeMaps.heap_setBlock_other hb _ (fun e => hi e)⟩
def Part.map (P : Program) (k : TypeId) (b : Nat) (es : List (Value × Value)) : Part where
 holds w := MapAt P k w b es
 foot q := q = b
 lt := fun _ h _ e => by subst e; exact h.lt
 stay := fun _ _ h e => h.same (e b rfl)
theorem facts_map (w : World) : (Part.map P k b es).facts w = True := rfl
theorem MapAt.len (h : MapAt P k w b es) : ∃ ents clock, w.heap[b]? = some (.map ents clock) ∧ ents.size = es.length := by
 obtain ⟨ents, clock, hb, he, _⟩ := h
 exact ⟨ents, clock, hb, by rw [← he]; simp⟩
def IterAt (P : Program) (k : TypeId) (w : World) (r b : Nat) (es done : List (Value × Value)) : Prop :=
 MapAt P k w b es ∧ r ≠ b ∧ ∃ (ents : Array MapEntry) (clock c0 : Nat) (vs : List MapEntry), w.heap[b]? = some (.map ents clock) ∧ w.heap[r]? = some (.mapIter (some b) clock (vs.map (·.born)).toArray c0) ∧ clock ≤ c0 ∧
  vs.map (fun e => (e.key, e.val)) = done ∧ (∀ e ∈ vs, e ∈ ents.toList) ∧ vs.Pairwise (fun e f => e.born ≠ f.born) ∧ (vs ≠ [] → c0 = clock)
theorem IterAt.start (h : MapAt P k w b es) {t e : TypeId} (ht : P.underlying t = some (.map k e)) :
 ∃ w', (Instr.range t (.map (some b))).run P w = .ok (.pointer (some ⟨w.heap.size, 0, none⟩)) w' ∧ Ext w w' ∧ IterAt P k w' w.heap.size b es [] := by
 have h0 := h
 obtain ⟨ents, clock, hb, _⟩ := h0
 refine ⟨w.alloc (.mapIter (some b) clock #[] clock), by simp [Instr.range, run_underlying ht, MapKept.run_getObj_map hb, Result.andThen], (Ext.refl w).alloc _, h.ext ((Ext.refl w).alloc _), ?_, ents, clock, clock, [], ?_, heap_alloc_new w _, Nat.le_refl _, rfl, nofun, List.Pairwise.nil, fun q => absurd rfl q⟩
 · have := h.lt; omega
 · rw [Below.heap_alloc _ _ _ h.lt]; exact hb
theorem entry_of {ents : Array MapEntry} {es : List (Value × Value)} (he : ents.toList.map (fun e => (e.key, e.val)) = es) {e : MapEntry} (hm : e ∈ ents.toList) : (e.key, e.val) ∈ es := by
 rw [← he]; exact List.mem_map.2 ⟨e, hm, rfl⟩
theorem IterAt.next {r : Nat} {done : List (Value × Value)} (h : IterAt P k w r b es done) (ty : TypeId) :
 (es.Perm done ∧ (Instr.next (.pointer (some ⟨r, 0, none⟩)) false ty).run P w = .ok (.tuple #[.bool false]) w) ∨
 ∃ p w', p ∈ es ∧ (∀ q ∈ done, q.1 ≠ p.1) ∧ (Instr.next (.pointer (some ⟨r, 0, none⟩)) false ty).run P w = .ok (.tuple #[.bool true, p.1, p.2]) w' ∧ IterAt P k w' r b es (done ++ [p]) ∧ Exc (fun q => q = r) w w' := by
 obtain ⟨hm, hrb, ents, clock, c0, vs, hb, hr, hc, hd, hin, hpw, hc1⟩ := h
 have hm0 := hm
 obtain ⟨ents', clock', hb', he, hbn, hdn, hkeys, hkp⟩ := hm0
 rw [hb] at hb'; cases hb'
 have hborn : ∀ x ∈ ents.toList, ∀ y ∈ ents.toList, x.born = y.born → x = y := by
  intro x hx y hy e
  obtain ⟨i, hi⟩ := List.mem_iff_getElem?.1 hx
  obtain ⟨j, hj⟩ := List.mem_iff_getElem?.1 hy
  by_cases hij : i = j
  · subst hij; rw [hi] at hj; exact Option.some.inj hj
  · exfalso
    obtain ⟨hi1, hi2⟩ := List.getElem?_eq_some_iff.1 hi
    obtain ⟨hj1, hj2⟩ := List.getElem?_eq_some_iff.1 hj
    have hp := List.pairwise_iff_getElem.1 hdn
    rcases Nat.lt_or_gt_of_ne hij with q | q
    · exact hp i j hi1 hj1 q (by rw [hi2, hj2, e])
    · exact hp j i hj1 hi1 q (by rw [hi2, hj2, e])
 rcases run_next_at (P := P) w ty r b clock c0 (vs.map (·.born)).toArray ents clock hr hb hbn hc with ⟨h0, hrun⟩ | ⟨e, he1, w1, hw1, hrun⟩
 · refine .inl ⟨?_, hrun⟩
   have hall : ∀ x ∈ ents.toList, x ∈ vs := by
    intro x hx
    have h1 : leftOf ents (vs.map (·.born)).toArray = #[] := Array.eq_empty_of_size_eq_zero h0
    unfold leftOf at h1
    rw [Array.filter_eq_empty_iff] at h1
    have h2 := h1 x (by simpa using hx)
    simp at h2
    obtain ⟨y, hy, hyb⟩ := h2
    rw [← hborn y (hin y hy) x hx hyb]
    exact hy
   have np : ∀ (l : List MapEntry), l.Pairwise (fun e f => e.born ≠ f.born) → l.Nodup := fun l hl => hl.imp (fun h e => h (by rw [e]))
   have hp : ents.toList.Perm vs := (List.perm_ext_iff_of_nodup (np _ hdn) (np _ hpw)).2 (fun x => ⟨hall x, hin x⟩)
   rw [← he, ← hd]
   exact hp.map _
 · refine .inr ⟨(e.key, e.val), ChangeMaps.setBlock w1 r (.mapIter (some b) clock ((vs.map (·.born)).toArray.push e.born) clock), ?_, ?_, hrun, ?_, ?_⟩
   all_goals
    have he2 : e ∈ ents.toList ∧ ∀ y ∈ vs, y.born ≠ e.born := by
     unfold leftOf at he1
     simp at he1
     exact ⟨by simpa using he1.1, fun y hy hb => he1.2 y hy hb⟩
    have hh1 : w1.heap = w.heap := by rcases hw1 with rfl | rfl <;> rfl
   · exact entry_of he he2.1
   · intro q hq
     rw [← hd] at hq
     obtain ⟨y, hy, rfl⟩ := List.mem_map.1 hq
     intro hk
     obtain ⟨i, hi⟩ := List.mem_iff_getElem?.1 (hin y hy)
     obtain ⟨j, hj⟩ := List.mem_iff_getElem?.1 he2.1
     have hij : i ≠ j := by
      intro q; subst q; rw [hi] at hj; cases hj; exact he2.2 e hy rfl
     have hp := List.pairwise_iff_getElem.1 hkp
     have g1 : es[i]? = some (y.key, y.val) := by rw [← he, List.getElem?_map, hi]; rfl
     have g2 : es[j]? = some (e.key, e.val) := by rw [← he, List.getElem?_map, hj]; rfl
     obtain ⟨hi1, hi2⟩ := List.getElem?_eq_some_iff.1 g1
     obtain ⟨hj1, hj2⟩ := List.getElem?_eq_some_iff.1 g2
     rcases Nat.lt_or_gt_of_ne hij with q | q
     · exact hp i j hi1 hj1 q (by rw [hi2, hj2]; exact hk)
     · exact hp j i hj1 hi1 q (by rw [hi2, hj2]; exact hk.symm)
   · have hr1 : w1.heap[r]? = some (.mapIter (some b) clock (vs.map (·.born)).toArray c0) := by rw [hh1]; exact hr
     have k1 : ∀ (o : Obj) (i : Nat), i ≠ r → (ChangeMaps.setBlock w1 r o).heap[i]? = w.heap[i]? := fun o i hi => by
      rw [← hh1]; simp [ChangeMaps.setBlock, Ne.symm hi]
     have k2 : ∀ (o : Obj), (ChangeMaps.setBlock w1 r o).heap[r]? = some o := fun o => by
      have hlt := lt_of_some hr1
      simp [ChangeMaps.setBlock, hlt]
     refine ⟨hm.same (k1 _ b (Ne.symm hrb)), hrb, ents, clock, clock, vs ++ [e], by rw [k1 _ b (Ne.symm hrb)]; exact hb, by rw [k2]; simp, Nat.le_refl _, by simp [hd], ?_, ?_, fun _ => rfl⟩
     · intro x hx
       rcases List.mem_append.1 hx with hx | hx
       · exact hin x hx
       · have : x = e := by simpa using hx
         subst this; exact he2.1
     · refine List.pairwise_append.2 ⟨hpw, List.pairwise_singleton _ _, fun x hx y hy => ?_⟩
       have : y = e := by simpa using hy
       subst this
       exact he2.2 x hx
   · have g : ∀ (o : Obj), Exc (fun q => q = r) w (ChangeMaps.setBlock w1 r o) := fun o => by
      rcases hw1 with rfl | rfl
      · exact ⟨rfl, rfl, rfl, by simp [ChangeMaps.setBlock], fun i _ hi => by simp [ChangeMaps.setBlock, Ne.symm hi]⟩
      · exact ⟨rfl, rfl, rfl, by simp [ChangeMaps.setBlock], fun i _ hi => by simp [ChangeMaps.setBlock, Ne.symm hi]; rfl⟩
     exact g _
theorem IterAt.entry {r : Nat} {done : List (Value × Value)} {p : Value × Value} (h : IterAt P k w r b es (done ++ [p])) : (Instr.entry (.pointer (some ⟨r, 0, none⟩))).run P w = .ok (.tuple #[p.1, p.2]) w := by
 obtain ⟨hm, hrb, ents, clock, c0, vs, hb, hr, hc, hd, hin, hpw, hc1⟩ := h
 obtain ⟨ents', clock', hb', he, hbn, hdn, hkeys, hkp⟩ := hm
 rw [hb] at hb'; cases hb'
 rcases List.eq_nil_or_concat vs with rfl | ⟨vs', e, rfl⟩
 · simp at hd
 · have h1 : c0 = clock := hc1 (by simp)
   subst h1
   simp at hd
   obtain ⟨hd1, hd2⟩ := hd
   subst hd2
   have := run_entry_at (P := P) w r b c0 (vs'.map (·.born)).toArray ents c0 e (by rw [hr]; simp) hb (hin e (by simp)) (List.pairwise_map.2 hdn)
   exact this
theorem IterAt.len {r : Nat} {done : List (Value × Value)} (h : IterAt P k w r b es done) : done.length ≤ es.length := by
 obtain ⟨hm, hrb, ents, clock, c0, vs, hb, hr, hc, hd, hin, hpw, hc1⟩ := h
 obtain ⟨ents', clock', hb', he, hbn, hdn, hkeys, hkp⟩ := hm
 rw [hb] at hb'; cases hb'
 have h1 : (vs.map (·.born)).Nodup := List.pairwise_map.2 hpw
 have h2 := h1.length_le_of_subset (l₂ := ents.toList.map (·.born)) (fun x hx => by
  obtain ⟨e, he, rfl⟩ := List.mem_map.1 hx
  exact List.mem_map.2 ⟨e, hin e he, rfl⟩)
 rw [← hd, ← he]
 simpa using h2
theorem IterAt.keys {r : Nat} {done : List (Value × Value)} (h : IterAt P k w r b es done) : es.Pairwise (fun p q => p.1 ≠ q.1) := by
 obtain ⟨⟨_, _, _, _, _, _, _, hkp⟩, _⟩ := h
 exact hkp
theorem MapAt.keys (h : MapAt P k w b es) : es.Pairwise (fun p q => p.1 ≠ q.1) := by
 obtain ⟨_, _, _, _, _, _, _, hkp⟩ := h
 exact hkp
theorem IterAt.same {r : Nat} {done : List (Value × Value)} (h : IterAt P k w r b es done) {w' : World} (e1 : w'.heap[b]? = w.heap[b]?) (e2 : w'.heap[r]? = w.heap[r]?) : IterAt P k w' r b es done := by
 obtain ⟨hm, hrb, ents, clock, c0, vs, hb, hr, rest⟩ := h
 exact ⟨hm.same e1, hrb, ents, clock, c0, vs, e1.trans hb, e2.trans hr, rest⟩
def Part.iter (P : Program) (k : TypeId) (r b : Nat) (es done : List (Value × Value)) : Part where
 holds w := IterAt P k w r b es done
 foot q := q = b ∨ q = r
 lt := fun _ h q e => by
  rcases e with e | e
  · subst e; exact h.1.lt
  · subst e; obtain ⟨_, _, _, _, _, _, _, hr, _⟩ := h; exact lt_of_some hr
 stay := fun _ _ h e => h.same (e b (.inl rfl)) (e r (.inr rfl))
theorem facts_iter {r : Nat} {done : List (Value × Value)} (w : World) : (Part.iter P k r b es done).facts w = True := rfl
end
theorem fA : (∀ (w : World), Facts [] w = True) ∧ (∀ (A : Part) (L : List Part) (w : World), Facts (A :: L) w = (A.facts w ∧ Facts L w)) ∧
 (∀ (b : Nat) (c : List Value) (T : TypeId) (w : World), (Part.cells b c T).facts w = ((∀ j, w.cell? ⟨b, j, none⟩ = c[j]?) ∧ (∀ j, w.frozen? ⟨b, j, none⟩ = false) ∧ b < w.heap.size)) ∧
 (∀ (W w : World), (Part.old W).facts w = True) ∧ (∀ (p : Prop) (w : World), (Part.fact p).facts w = True) ∧ (∀ (b : Nat) (o : Obj) (w : World), (Part.obj b o).facts w = True) ∧
 (∀ (P : Program) (k : TypeId) (b : Nat) (es : List (Value × Value)) (w : World), (Part.map P k b es).facts w = True) ∧ (∀ (P : Program) (k : TypeId) (r b : Nat) (es done : List (Value × Value)) (w : World), (Part.iter P k r b es done).facts w = True) :=
 ⟨fun _ => rfl, fun _ _ _ => rfl, fun _ _ _ _ => rfl, fun _ _ => rfl, fun _ _ => rfl, fun _ _ _ => rfl, fun _ _ _ _ _ => rfl, fun _ _ _ _ _ _ _ => rfl⟩
end Go.Proofs.YtgbpfgdjnhbcgaaGreatDoor
end
section
namespace Go.Proofs.YtgbpfgdjnhbcgaaGreatDoor
open Go.RowKit
section
variable {P : Program} {ops : Array Oper} {rest : List Oper} {o : Oper} {a : Act} {Q : Exit → Act → World → Prop} {L0 L F : List Part} {w0 w : World}
theorem wpList_val (hg : o.guard = none) {v : Value} {w' : World} (hrun : (execOp a.eval o).run P w = .ok (.value v) w') (hK : wpList P ops Q rest (a.put o.dst v) w') : wpList P ops Q (o :: rest) a w :=
 wpList_plain hg fun _ hK' => by unfold Oper.wp; rw [hrun]; exact hK' _ _ hK
theorem wpList_unit (hg : o.guard = none) {w' : World} (hrun : (execOp a.eval o).run P w = .ok .skip w') (hK : wpList P ops Q rest (a.put o.dst undef) w') : wpList P ops Q (o :: rest) a w :=
 wpList_plain hg fun _ hK' => by unfold Oper.wp; rw [hrun]; exact hK' _ _ hK
theorem run_storeAt_cells (w : World) (b j : Nat) (ty : TypeId) (v : Value) (ht : w.there b j v.cells.size) (hi : (P.info? ty).map (·.size) = some v.cells.size) (h1 : v.cells.all (·.oneCell') = true) :
 (Instr.storeAt ty (.pointer (some ⟨b, j, none⟩)) v).run P w = .ok () (w.setCells b j v.cells.toList) := by
 have := run_storeCells_cells (P := P) b j v.cells.toList 0 w (fun k hk => by simpa using (ht k (by simpa using hk)).1) (fun k hk => by simpa using (ht k (by simpa using hk)).2)
  (fun u hu => (Array.all_eq_true_iff_forall_mem.1 h1) u (by simpa using hu))
 cases hq : P.info? ty with
 | none => simp [hq] at hi
 | some i =>
  have hs : v.cells.size = i.size := by simp [hq] at hi; omega
  simp only [Nat.add_zero] at this
  simp [Instr.storeAt, Instr.sureAddr, storeVar, sizeOf, typeInfo, hq, hs, this]
theorem BlockIs.there {b : Nat} {c : List Value} {T : TypeId} (h : BlockIs w b c T) (j n : Nat) (hj : j + n ≤ c.length) : w.there b j n := fun k hk =>
 ⟨by rw [h.cell, List.getElem?_eq_getElem (by omega)]; rfl, h.free _⟩
theorem wpList_store_at {ty : TypeId} {x y : Operand} (hg : o.guard = none) (hop : o.op = .store ty x y) {b j : Nat} (hx : a.eval x = .pointer (some ⟨b, j, none⟩)) {v : Value} (hy : a.eval y = v) {vs : List Value} (hv : v.cells = vs.toArray)
 (h : At L0 w0 L w) {c : List Value} {T : TypeId} (s : Sel (Part.cells b c T) L F) (hi : (P.info? ty).map (·.size) = some vs.length) (h1 : vs.all (·.oneCell') = true) (hj : j + vs.length ≤ c.length)
 (hK : ∀ w', At L0 w0 (Part.cells b (setL c j vs) T :: F) w' → wpList P ops Q rest (a.put o.dst undef) w') : wpList P ops Q (o :: rest) a w := by
 have hb : BlockIs w b c T := h.get s
 have hs : v.cells.size = vs.length := by rw [hv]; simp
 have h1' : v.cells.all (·.oneCell') = true := by
  rw [hv, Array.all_eq_true_iff_forall_mem]
  intro u hu
  exact List.all_eq_true.1 h1 u (by simpa using hu)
 have hrun := run_storeAt_cells (P := P) w b j ty v (hb.there j _ (by omega)) (by rw [hs]; exact hi) h1'
 rw [show v.cells.toList = vs from by rw [hv]] at hrun
 refine wpList_unit hg ?_ (hK _ (h.stores s j vs))
 simp [execOp, hop, hx, hy, hrun, Result.andThen]
theorem wpList_box_at {E : TypeId} {x : Operand} (hg : o.guard = none) (hop : o.op = .box E x) {v : Value} (hx : a.eval x = v) {vs : List Value} (hv : v.cells = vs.toArray) (h : At L0 w0 L w)
 (hK : ∀ b w', At L0 w0 (Part.cells b vs E :: L) w' → w0.heap.size ≤ b → wpList P ops Q rest (a.put o.dst (.pointer (some ⟨b, 0, none⟩))) w') : wpList P ops Q (o :: rest) a w := by
 refine wpList_val hg ?_ (hK _ _ (h.alloc vs E) h.size)
 simp [execOp, hop, hx, Instr.box, newVar, newRow, hv, Result.andThen]
theorem wpList_alloc_at {E : TypeId} (hg : o.guard = none) (hop : o.op = .alloc E) {z : Value} (hz : (P.info? E).map (·.zero) = some (some z)) {vs : List Value} (hv : z.cells = vs.toArray) (h : At L0 w0 L w)
 (hK : ∀ b w', At L0 w0 (Part.cells b vs E :: L) w' → w0.heap.size ≤ b → wpList P ops Q rest (a.put o.dst (.pointer (some ⟨b, 0, none⟩))) w') : wpList P ops Q (o :: rest) a w := by
 refine wpList_val hg ?_ (hK _ _ (h.alloc vs E) h.size)
 cases hq : P.info? E with
 | none => simp [hq] at hz
 | some i =>
  have hi : i.zero = some z := by simpa [hq] using hz
  simp [execOp, hop, Instr.alloc, zeroValue, typeInfo, hq, hi, newVar, newRow, hv, Result.andThen]
def Cl (L0 : List Part) (w0 : World) (L : List Part) (w : World) : Prop := At L0 w0 L w
theorem Cl.drew (h : At L0 w0 L w) : Cl L0 w0 L w.drew := At.drew h
theorem Cl.none (h : At L0 w0 L w) (p : Prop) : (∀ w', Cl L0 w0 L w' → p) = p := propext ⟨fun q => q w h, fun q _ _ => q⟩
theorem Cl.none2 (h : At L0 w0 L w) (p : Prop) : (∀ w', Cl L0 w0 L w' → w' = w' ∧ p) = p := propext ⟨fun q => (q w h).2, fun q _ _ => ⟨rfl, q⟩⟩
theorem quiet_at {K : Act → Prop} (v : Value) (hrun : ∀ w', At L0 w0 L w' → (execOp a.eval o).run P w' = .ok (.value v) w') (hk : K (a.put o.dst v)) : o.quiet P a (Cl L0 w0 L) K :=
 ⟨v, fun w hw => by unfold Oper.quietAt; rw [hrun w hw]; exact ⟨rfl, rfl⟩, hk⟩
theorem run_load_one {ty : TypeId} {x : Operand} (hop : o.op = .load ty x) {b j : Nat} (hx : a.eval x = .pointer (some ⟨b, j, none⟩)) {c : List Value} {T : TypeId} (hb : BlockIs w b c T) (hu : (P.underlying ty).map (·.isRow) = some false) {v : Value} (hv : c[j]? = some v) :
 (execOp a.eval o).run P w = .ok (.value v) w := by
 obtain ⟨d, hu, hd⟩ := Option.map_eq_some_iff.1 hu
 have hagg : (isAgg ty).run P w = .ok false w := by
  unfold isAgg
  rw [Sem.run_bind, run_underlying hu w]
  cases d <;> simp_all
 have hc : w.cell? ⟨b, j, none⟩ = some v := by rw [hb.cell, hv]
 simp [execOp, hop, hx, Instr.loadAt, Instr.sureAddr, loadVar, Sem.run_bind, hagg, Result.andThen, run_load, hc]
theorem run_load_row {ty : TypeId} {x : Operand} (hop : o.op = .load ty x) {b j : Nat} (hx : a.eval x = .pointer (some ⟨b, j, none⟩)) {c : List Value} {T : TypeId} (hb : BlockIs w b c T) (hu : (P.underlying ty).map (·.isRow) = some true) {n : Nat} (hi : (P.info? ty).map (·.size) = some n) {vs : List Value} (hv : (c.drop j).take n = vs) (hl : vs.length = n) : (execOp a.eval o).run P w = .ok (.value (.agg vs.toArray)) w := by
 obtain ⟨d, hu, hd⟩ := Option.map_eq_some_iff.1 hu
 subst hl
 have hr : w.rangeAt b j vs := fun k v hk => by
  have hlt := (List.getElem?_eq_some_iff.1 hk).1
  rw [← hv, List.getElem?_take, if_pos hlt, List.getElem?_drop] at hk
  rw [hb.cell, hk]
 simp [execOp, hop, hx, run_loadAt_mid w b j ty vs d hr hu hd hi, Result.andThen]
theorem quiet_load_at {K : Act → Prop} {ty : TypeId} {x : Operand} (hop : o.op = .load ty x) {b j : Nat} (hx : a.eval x = .pointer (some ⟨b, j, none⟩)) {c : List Value} {T : TypeId} (s : Sel (Part.cells b c T) L F) (hu : (P.underlying ty).map (·.isRow) = some false) {v : Value} (hv : c[j]? = some v)
 (hk : K (a.put o.dst v)) : o.quiet P a (Cl L0 w0 L) K := quiet_at v (fun _ hw => run_load_one hop hx (hw.get s) hu hv) hk
theorem quiet_loads_at {K : Act → Prop} {ty : TypeId} {x : Operand} (hop : o.op = .load ty x) {b j : Nat} (hx : a.eval x = .pointer (some ⟨b, j, none⟩)) {c : List Value} {T : TypeId} (s : Sel (Part.cells b c T) L F) (hu : (P.underlying ty).map (·.isRow) = some true) {n : Nat} (hi : (P.info? ty).map (·.size) = some n) {vs : List Value} (hv : (c.drop j).take n = vs) (hl : vs.length = n) (hk : K (a.put o.dst (.agg vs.toArray))) : o.quiet P a (Cl L0 w0 L) K := quiet_at _ (fun _ hw => run_load_row hop hx (hw.get s) hu hi hv hl) hk
theorem Cl.out (h : Cl L0 w0 L w) : At L0 w0 L w := h
theorem wS {ty : TypeId} {x y : Operand} {b j : Nat} {v : Value} {vs c : List Value} {T : TypeId} (h : At L0 w0 L w)
 (hK : ∀ w', At L0 w0 (Part.cells b (setL c j vs) T :: F) w' → wpList P ops Q rest (a.put o.dst undef) w')
 (hg : o.guard = none := by exact rfl) (hop : o.op = .store ty x y := by exact rfl) (hx : a.eval x = .pointer (some ⟨b, j, none⟩) := by exact rfl) (hy : a.eval y = v := by (try simp only [Act.eval, Go.Proofs.YtgbpfgdjnhbcgaaGreatDoor.eV]) <;> exact rfl)
 (hv : v.cells = vs.toArray := by exact rfl) (s : Sel (Part.cells b c T) L F := by with_reducible repeat (first | exact Go.Proofs.YtgbpfgdjnhbcgaaGreatDoor.Sel.here | apply Go.Proofs.YtgbpfgdjnhbcgaaGreatDoor.Sel.there)) (hi : (P.info? ty).map (·.size) = some vs.length := by kernel_rfl)
 (h1 : vs.all (·.oneCell') = true := by exact rfl) (hj : j + vs.length ≤ c.length := by first | decide | (simp; done) | omega) : wpList P ops Q (o :: rest) a w :=
 wpList_store_at hg hop hx hy hv h s hi h1 hj hK
theorem wB {E : TypeId} {x : Operand} {v : Value} {vs : List Value} (h : At L0 w0 L w)
 (hK : ∀ b w', At L0 w0 (Part.cells b vs E :: L) w' → w0.heap.size ≤ b → wpList P ops Q rest (a.put o.dst (.pointer (some ⟨b, 0, none⟩))) w')
 (hg : o.guard = none := by exact rfl) (hop : o.op = .box E x := by exact rfl) (hx : a.eval x = v := by (try simp only [Act.eval, Go.Proofs.YtgbpfgdjnhbcgaaGreatDoor.eV]) <;> exact rfl) (hv : v.cells = vs.toArray := by exact rfl) : wpList P ops Q (o :: rest) a w :=
 wpList_box_at hg hop hx hv h hK
theorem gst {d t p af g x y z} (h : wpList P ops Q ({ dst := d, op := .store x y z, type := t, pos := p, after := af, guard := g } :: rest) a w) : wpList P ops Q ({ dst := d, op := .store x y z, type := t, pos := p, after := af, guard := g } :: rest) a w := h
theorem gbx {d t p af g x y} (h : wpList P ops Q ({ dst := d, op := .box x y, type := t, pos := p, after := af, guard := g } :: rest) a w) : wpList P ops Q ({ dst := d, op := .box x y, type := t, pos := p, after := af, guard := g } :: rest) a w := h
theorem gal {d t p af g x} (h : wpList P ops Q ({ dst := d, op := .alloc x, type := t, pos := p, after := af, guard := g } :: rest) a w) : wpList P ops Q ({ dst := d, op := .alloc x, type := t, pos := p, after := af, guard := g } :: rest) a w := h
end
end Go.Proofs.YtgbpfgdjnhbcgaaGreatDoor
namespace Go
open _root_.Go.Proofs.YtgbpfgdjnhbcgaaGreatDoor
open Go.RowKit
theorem uY : type_of% @uA ∧ type_of% fA ∧ (∀ p : Prop, (p ∧ True) = p) ∧ (∀ p : Prop, (True ∧ p) = p) := ⟨@uA, fA, and_true, true_and⟩
theorem wG {P : Program} {ops : Array Oper} {rest : List Oper} {o : Oper} {a : Act} {Q : Exit → Act → World → Prop} {L0 L : List Part} {w0 w : World} (E : TypeId) (vs : List Value) (h : At L0 w0 L w) (hK : ∀ b w', At L0 w0 (Part.cells b vs E :: L) w' → w0.heap.size ≤ b → Facts (Part.cells b vs E :: L) w' → wpList P ops Q rest (a.put o.dst (.pointer (some ⟨b, 0, none⟩))) w') (hg : o.guard = none := by exact rfl) (hop : o.op = .alloc E := by exact rfl) (hz : (P.info? E).map (·.zero) = some (some (.agg vs.toArray)) := by kernel_rfl) : wpList P ops Q (o :: rest) a w := wpList_alloc_at hg hop hz rfl h fun b w' hA hb => hK b w' hA hb hA.facts
theorem wH {P : Program} {ops : Array Oper} {rest : List Oper} {o : Oper} {a : Act} {Q : Exit → Act → World → Prop} {L0 L : List Part} {w0 w : World} (E : TypeId) (vs : List Value) {x : Operand} (h : At L0 w0 L w) (hK : ∀ b w', At L0 w0 (Part.cells b vs E :: L) w' → w0.heap.size ≤ b → Facts (Part.cells b vs E :: L) w' → wpList P ops Q rest (a.put o.dst (.pointer (some ⟨b, 0, none⟩))) w') (hg : o.guard = none := by exact rfl) (hop : o.op = .box E x := by exact rfl) (hx : a.eval x = .agg vs.toArray := by first | (simp [Act.eval, Act.put]; done) | exact rfl) : wpList P ops Q (o :: rest) a w := wpList_box_at hg hop hx rfl h fun b w' hA hb => hK b w' hA hb hA.facts
theorem cA {P : Program} {id : Nat} {Q : Exit → Act → World → Prop} {a : Act} {w : World} {l : List Oper} {L0 L : List Part} {w0 : World} (hA : At L0 w0 L w) (h : wpQuiet P l.toArray (Cl L0 w0 L) (fun a' => ∀ w', Cl L0 w0 L w' → Q .normal a' w') l a) (hm : P.follows .mixedOrders = true := by kernel_rfl) (hB : Region.lexB .any l.toArray = true := by kernel_rfl) : (Code.region id l.toArray true).wp P Q a w := wp_region_all (Cl L0 w0 L) hm hB (Cl.drew hA) h
theorem wT {P : Program} {ops : Array Oper} {rest : List Oper} {o : Oper} {a : Act} {Q : Exit → Act → World → Prop} {L0 L F : List Part} {w0 w : World} {ty : TypeId} {x y : Operand} {b j : Nat} {v : Value} {vs c : List Value} {T : TypeId} (h : At L0 w0 L w) (hK : ∀ w', At L0 w0 (Part.cells b (setL c j vs) T :: F) w' → Facts (Part.cells b (setL c j vs) T :: F) w' → wpList P ops Q rest (a.put o.dst undef) w') (hg : o.guard = none := by exact rfl) (hop : o.op = .store ty x y := by exact rfl) (hx : a.eval x = .pointer (some ⟨b, j, none⟩) := by exact rfl) (hy : a.eval y = v := by (try simp only [Act.eval, eV]) <;> exact rfl) (hv : v.cells = vs.toArray := by exact rfl) (s : Sel (Part.cells b c T) L F := by with_reducible repeat (first | exact Sel.here | apply Sel.there)) (hi : (P.info? ty).map (·.size) = some vs.length := by kernel_rfl) (h1 : vs.all (·.oneCell') = true := by exact rfl) (hj : j + vs.length ≤ c.length := by first | decide | (simp; done) | omega) : wpList P ops Q (o :: rest) a w := wS h (fun w' hA => hK w' hA hA.facts) hg hop hx hy hv s hi h1 hj
theorem wC {P : Program} {ops : Array Oper} {rest : List Oper} {o : Oper} {a : Act} {Q : Exit → Act → World → Prop} {L0 L : List Part} {w0 w : World} {E : TypeId} {x : Operand} {v : Value} {vs : List Value} (h : At L0 w0 L w) (hK : ∀ b w', At L0 w0 (Part.cells b vs E :: L) w' → w0.heap.size ≤ b → Facts (Part.cells b vs E :: L) w' → wpList P ops Q rest (a.put o.dst (.pointer (some ⟨b, 0, none⟩))) w') (hg : o.guard = none := by exact rfl) (hop : o.op = .box E x := by exact rfl) (hx : a.eval x = v := by (try simp only [Act.eval, eV]) <;> exact rfl) (hv : v.cells = vs.toArray := by exact rfl) : wpList P ops Q (o :: rest) a w := wB h (fun b w' hA hb => hK b w' hA hb hA.facts) hg hop hx hv
theorem qL {P : Program} {o : Oper} {a : Act} {L0 L F : List Part} {w0 : World} {K : Act → Prop} {ty : TypeId} {x : Operand} {b j : Nat} {c : List Value} {T : TypeId} {v : Value} (hk : K (a.put o.dst v)) (hop : o.op = .load ty x := by exact rfl) (hx : a.eval x = .pointer (some ⟨b, j, none⟩) := by exact rfl) (s : Sel (Part.cells b c T) L F := by with_reducible repeat (first | exact Sel.here | apply Sel.there)) (hu : (P.underlying ty).map (·.isRow) = some false := by kernel_rfl) (hv : c[j]? = some v := by first | assumption | exact rfl) : o.quiet P a (Cl L0 w0 L) K := quiet_load_at hop hx s hu hv hk
theorem qM {P : Program} {o : Oper} {a : Act} {L0 L F : List Part} {w0 : World} {K : Act → Prop} (ty : TypeId) (n : Nat) {x : Operand} {b j : Nat} {c : List Value} {T : TypeId} {vs : List Value} (hk : K (a.put o.dst (.agg vs.toArray))) (hop : o.op = .load ty x := by exact rfl) (hx : a.eval x = .pointer (some ⟨b, j, none⟩) := by exact rfl) (s : Sel (Part.cells b c T) L F := by with_reducible repeat (first | exact Sel.here | apply Sel.there)) (hu : (P.underlying ty).map (·.isRow) = some true := by kernel_rfl) (hi : (P.info? ty).map (·.size) = some n := by kernel_rfl) (hv : (c.drop j).take n = vs := by first | assumption | ((try simp only [List.drop_succ_cons, List.drop_zero, List.take_succ_cons, List.take_zero]) <;> exact rfl)) (hl : vs.length = n := by exact rfl) : o.quiet P a (Cl L0 w0 L) K := quiet_loads_at hop hx s hu hi hv hl hk
end Go
namespace Go
open _root_.Go.Proofs.YtgbpfgdjnhbcgaaGreatDoor
open Go.RowKit
theorem wpQuiet_more {P : Program} {ops : Array Oper} {C : World → Prop} {Q Q' : Act → Prop} (h : ∀ a, Q a → Q' a) : ∀ (l : List Oper) (a : Act), wpQuiet P ops C Q l a → wpQuiet P ops C Q' l a
 | [], a, hq => h a hq
 | o :: l, a, hq => by
  unfold wpQuiet at hq ⊢
  split
  · rename_i hw; rw [if_pos hw] at hq; exact Oper.quiet_mono (fun a => wpQuiet_more h l a) hq
  · rename_i hw; rw [if_neg hw] at hq; exact wpQuiet_more h l _ hq
theorem cl0 {P : Program} {id : Nat} {Q : Exit → Act → World → Prop} {a a1 : Act} {w : World} {l : List Oper} {L0 L : List Part} {w0 : World} (hA : At L0 w0 L w) (hK : ∀ w', At L0 w0 L w' → Facts L w' → Q .normal a1 w') (h : wpQuiet P l.toArray (Cl L0 w0 L) (fun a' => a' = a1) l a := by have hn1 := Cl.none hA; have hn2 := Cl.none2 hA; (repeat (first | go_big_quiet_skip | (go_big_quiet_want; (first | (refine qL ?_; go_frame; go_big_quiet_on) | (go_big_quiet_op; (first | go_big_quiet_on | ((apply Exists.intro); (refine ⟨fun w1 hw => ?_, ?_⟩); (focus ((have hw := Cl.out hw); (fail))); (go_big_quiet_on)))))))); refine wpQuiet_nil ?_; exact rfl) (hm : P.follows .mixedOrders = true := by kernel_rfl) (hB : Region.lexB .any l.toArray = true := by kernel_rfl) : (Code.region id l.toArray true).wp P Q a w := wp_region_all (Cl L0 w0 L) hm hB (Cl.drew hA) (wpQuiet_more (fun a' e w' hw => e ▸ hK w' hw.out hw.out.facts) l a h)
theorem cl1 {P : Program} {id : Nat} {Q : Exit → Act → World → Prop} {a a1 : Act} {w : World} {l : List Oper} {L0 L : List Part} {w0 : World} (hA : At L0 w0 L w) (hK : ∀ w', At L0 w0 L w' → Facts L w' → Q .normal a1 w') (h : wpQuiet P l.toArray (Cl L0 w0 L) (fun a' => a' = a1) l a := by have hn1 := Cl.none hA; have hn2 := Cl.none2 hA; (repeat (first | go_big_quiet_skip | (go_big_quiet_want; (first | (refine qM 27 8 ?_; go_frame; go_big_quiet_on) | (refine qM 137 6 ?_; go_frame; go_big_quiet_on) | (refine qL ?_; go_frame; go_big_quiet_on) | (go_big_quiet_op; (first | go_big_quiet_on | ((apply Exists.intro); (refine ⟨fun w1 hw => ?_, ?_⟩); (focus ((have hw := Cl.out hw); (fail))); (go_big_quiet_on)))))))); refine wpQuiet_nil ?_; exact rfl) (hm : P.follows .mixedOrders = true := by kernel_rfl) (hB : Region.lexB .any l.toArray = true := by kernel_rfl) : (Code.region id l.toArray true).wp P Q a w := wp_region_all (Cl L0 w0 L) hm hB (Cl.drew hA) (wpQuiet_more (fun a' e w' hw => e ▸ hK w' hw.out hw.out.facts) l a h)
theorem cl2 {P : Program} {id : Nat} {Q : Exit → Act → World → Prop} {a a1 : Act} {w : World} {l : List Oper} {L0 L : List Part} {w0 : World} (hA : At L0 w0 L w) (hK : ∀ w', At L0 w0 L w' → Facts L w' → Q .normal a1 w') (h : wpQuiet P l.toArray (Cl L0 w0 L) (fun a' => a' = a1) l a := by have hn1 := Cl.none hA; have hn2 := Cl.none2 hA; (repeat (first | go_big_quiet_skip | (go_big_quiet_want; (first | (refine qM 27 8 ?_; go_frame; go_big_quiet_on) | (refine qM 137 6 ?_; go_frame; go_big_quiet_on) | (refine qL ?_; go_frame; go_big_quiet_on) | (go_big_quiet_op; (first | go_big_quiet_on | ((apply Exists.intro); (refine ⟨fun w1 hw => ?_, ?_⟩); (focus ((have hw := Cl.out hw); (exact through0 hw (hbr _)))); (go_big_quiet_on)))))))); refine wpQuiet_nil ?_; exact rfl) (hm : P.follows .mixedOrders = true := by kernel_rfl) (hB : Region.lexB .any l.toArray = true := by kernel_rfl) : (Code.region id l.toArray true).wp P Q a w := wp_region_all (Cl L0 w0 L) hm hB (Cl.drew hA) (wpQuiet_more (fun a' e w' hw => e ▸ hK w' hw.out hw.out.facts) l a h)
theorem cl3 {P : Program} {id : Nat} {Q : Exit → Act → World → Prop} {a a1 : Act} {w : World} {l : List Oper} {L0 L : List Part} {w0 : World} (hA : At L0 w0 L w) (hK : ∀ w', At L0 w0 L w' → Facts L w' → Q .normal a1 w') (h : wpQuiet P l.toArray (Cl L0 w0 L) (fun a' => a' = a1) l a := by have hn1 := Cl.none hA; have hn2 := Cl.none2 hA; (repeat (first | go_big_quiet_skip | (go_big_quiet_want; (first | (refine qL ?_; go_frame; go_big_quiet_on) | (go_big_quiet_op; (first | go_big_quiet_on | ((apply Exists.intro); (refine ⟨fun w1 hw => ?_, ?_⟩); (focus ((have hw := Cl.out hw); (exact through0 hw (hh _)))); (go_big_quiet_on)))))))); refine wpQuiet_nil ?_; exact rfl) (hm : P.follows .mixedOrders = true := by kernel_rfl) (hB : Region.lexB .any l.toArray = true := by kernel_rfl) : (Code.region id l.toArray true).wp P Q a w := wp_region_all (Cl L0 w0 L) hm hB (Cl.drew hA) (wpQuiet_more (fun a' e w' hw => e ▸ hK w' hw.out hw.out.facts) l a h)
theorem cl4 {P : Program} {id : Nat} {Q : Exit → Act → World → Prop} {a a1 : Act} {w : World} {l : List Oper} {L0 L : List Part} {w0 : World} (hA : At L0 w0 L w) (hK : ∀ w', At L0 w0 L w' → Facts L w' → Q .normal a1 w') (h : wpQuiet P l.toArray (Cl L0 w0 L) (fun a' => a' = a1) l a := by have hn1 := Cl.none hA; have hn2 := Cl.none2 hA; (repeat (first | go_big_quiet_skip | (go_big_quiet_want; (first | (refine qM 27 8 ?_; go_frame; go_big_quiet_on) | (refine qM 137 6 ?_; go_frame; go_big_quiet_on) | (refine qL ?_; go_frame; go_big_quiet_on) | (go_big_quiet_op; (first | go_big_quiet_on | ((apply Exists.intro); (refine ⟨fun w1 hw => ?_, ?_⟩); (focus ((have hw := Cl.out hw); (exact through0 hw (hmo _)))); (go_big_quiet_on)))))))); refine wpQuiet_nil ?_; exact rfl) (hm : P.follows .mixedOrders = true := by kernel_rfl) (hB : Region.lexB .any l.toArray = true := by kernel_rfl) : (Code.region id l.toArray true).wp P Q a w := wp_region_all (Cl L0 w0 L) hm hB (Cl.drew hA) (wpQuiet_more (fun a' e w' hw => e ▸ hK w' hw.out hw.out.facts) l a h)
theorem cl5 {P : Program} {id : Nat} {Q : Exit → Act → World → Prop} {a a1 : Act} {w : World} {l : List Oper} {L0 L : List Part} {w0 : World} (hA : At L0 w0 L w) (hK : ∀ w', At L0 w0 L w' → Facts L w' → Q .normal a1 w') (h : wpQuiet P l.toArray (Cl L0 w0 L) (fun a' => a' = a1) l a := by have hn1 := Cl.none hA; have hn2 := Cl.none2 hA; (repeat (first | go_big_quiet_skip | (go_big_quiet_want; (first | (refine qM 59 2 ?_; go_frame; go_big_quiet_on) | (refine qL ?_; go_frame; go_big_quiet_on) | (go_big_quiet_op; (first | go_big_quiet_on | ((apply Exists.intro); (refine ⟨fun w1 hw => ?_, ?_⟩); (focus ((have hw := Cl.out hw); (exact through0 hw (hri _)))); (go_big_quiet_on)))))))); refine wpQuiet_nil ?_; exact rfl) (hm : P.follows .mixedOrders = true := by kernel_rfl) (hB : Region.lexB .any l.toArray = true := by kernel_rfl) : (Code.region id l.toArray true).wp P Q a w := wp_region_all (Cl L0 w0 L) hm hB (Cl.drew hA) (wpQuiet_more (fun a' e w' hw => e ▸ hK w' hw.out hw.out.facts) l a h)
theorem cl6 {P : Program} {id : Nat} {Q : Exit → Act → World → Prop} {a a1 : Act} {w : World} {l : List Oper} {L0 L : List Part} {w0 : World} (hA : At L0 w0 L w) (hK : ∀ w', At L0 w0 L w' → Facts L w' → Q .normal a1 w') (h : wpQuiet P l.toArray (Cl L0 w0 L) (fun a' => a' = a1) l a := by have hn1 := Cl.none hA; have hn2 := Cl.none2 hA; (repeat (first | go_big_quiet_skip | (go_big_quiet_want; (first | (refine qL ?_; go_frame; go_big_quiet_on) | (go_big_quiet_op; (first | go_big_quiet_on)))))); refine wpQuiet_nil ?_; exact rfl) (hm : P.follows .mixedOrders = true := by kernel_rfl) (hB : Region.lexB .any l.toArray = true := by kernel_rfl) : (Code.region id l.toArray true).wp P Q a w := wp_region_all (Cl L0 w0 L) hm hB (Cl.drew hA) (wpQuiet_more (fun a' e w' hw => e ▸ hK w' hw.out hw.out.facts) l a h)
theorem cl7 {P : Program} {id : Nat} {Q : Exit → Act → World → Prop} {a a1 : Act} {w : World} {l : List Oper} {L0 L : List Part} {w0 : World} (hA : At L0 w0 L w) (hK : ∀ w', At L0 w0 L w' → Facts L w' → Q .normal a1 w') (h : wpQuiet P l.toArray (Cl L0 w0 L) (fun a' => a' = a1) l a := by have hn1 := Cl.none hA; have hn2 := Cl.none2 hA; (repeat (first | go_big_quiet_skip | (go_big_quiet_want; (first | (refine qM 59 2 ?_; go_frame; go_big_quiet_on) | (refine qL ?_; go_frame; go_big_quiet_on) | (go_big_quiet_op; (first | go_big_quiet_on | ((apply Exists.intro); (refine ⟨fun w1 hw => ?_, ?_⟩); (focus ((have hw := Cl.out hw); (first | exact through0 hw (hri _) | exact through0 hw (hov1 _)))); (go_big_quiet_on)))))))); refine wpQuiet_nil ?_; exact rfl) (hm : P.follows .mixedOrders = true := by kernel_rfl) (hB : Region.lexB .any l.toArray = true := by kernel_rfl) : (Code.region id l.toArray true).wp P Q a w := wp_region_all (Cl L0 w0 L) hm hB (Cl.drew hA) (wpQuiet_more (fun a' e w' hw => e ▸ hK w' hw.out hw.out.facts) l a h)
end Go
end
section
namespace Go.Proofs.YtgbpfgdjnhbcgaaGreatDoor
open Go.RowKit
def Part.row (e : TypeId) (size : Nat) (v : Value) (n : Nat) (xs : List Value) : Part where
 holds w := w.ownsRow 0 e size v n xs
 foot b := v.ownBlock = some b
 lt := fun w h b hb => by
  rcases h.2 with ⟨rfl, _⟩ | ⟨g, cap, cur, rfl, _, hh, _⟩
  · exact nomatch hb
  · cases hb
    exact lt_of_some hh
 stay := fun w w' h q => by
  rcases h.2 with h2 | ⟨g, cap, cur, hv, hg, hh, r⟩
  · exact ⟨h.1, .inl h2⟩
  · exact ⟨h.1, .inr ⟨g, cap, cur, hv, hg, (q g (by rw [hv]; rfl)).trans hh, r⟩⟩
theorem facts_row (e : TypeId) (size : Nat) (v : Value) (n : Nat) (xs : List Value) (w : World) : (Part.row e size v n xs).facts w = True := rfl
theorem exc_grown {w w' : World} {row : Option Nat} (h : w.grownBy w' row) : Exc (fun k => row = some k) w w' := by
 obtain ⟨h1, h2, h3, h4, h5⟩ := h
 exact ⟨h1, h2, h3, h4, fun k hk hn => h5 k hk (fun e => hn e.symm)⟩
section
variable {P : Program} {ops : Array Oper} {rest : List Oper} {o : Oper} {a : Act} {Q : Exit → Act → World → Prop} {L0 L F : List Part} {w0 w : World} {e : TypeId} {size n : Nat} {v : Value} {xs : List Value}
theorem At.row_form (h : At L0 w0 L w) (s : Sel (Part.row e size v n xs) L F) : ∃ ax cap, v = .slice ax n cap ∧ (ax = none → n = 0) ∧ n ≤ cap ∧ xs.length = n * size := by
 have hr : w.ownsRow 0 e size v n xs := h.get s
 rcases hr.2 with ⟨rfl, rfl⟩ | ⟨g, cap, cur, rfl, _, _, hc, _⟩
 · exact ⟨none, 0, rfl, fun _ => rfl, Nat.le_refl _, hr.1⟩
 · exact ⟨_, cap, rfl, nofun, hc, hr.1⟩
theorem At.row_open {ax : Option Addr} {cap : Nat} (h : At L0 w0 L w) (s : Sel (Part.row e size (.slice ax n cap) n xs) L F) (hn : 0 < n) :
 ∃ g c, ax = some ⟨g, 0, none⟩ ∧ n ≤ cap ∧ cap ≤ maxLen ∧ c.length = cap * size ∧ c.take (n * size) = xs ∧ At L0 w0 (Part.cells g c e :: F) w := by
 have hr : w.ownsRow 0 e size (.slice ax n cap) n xs := h.get s
 rcases hr.2 with ⟨hv, rfl⟩ | ⟨g, cap', cur, hv, _, hh, hc, hm, hs, ht⟩
 · omega
 · cases hv
   exact ⟨g, cur.toList, rfl, hc, hm, by simpa using hs, ht, h.turn s (Part.cells g cur.toList e) (show BlockIs w g _ e from (by unfold BlockIs; simpa using hh)) (fun b hb => .inl (by cases hb; rfl)) (Exc.refl _ _)⟩
theorem At.row_shut {g cap : Nat} {c : List Value} (h : At L0 w0 L w) (s : Sel (Part.cells g c e) L F) (hl : c.length = cap * size) (hn : n ≤ cap) (hm : cap ≤ maxLen) (ht : c.take (n * size) = xs) :
 At L0 w0 (Part.row e size (.slice (some ⟨g, 0, none⟩) n cap) n xs :: F) w := by
 subst ht
 exact h.turn s (Part.row e size (.slice (some ⟨g, 0, none⟩) n cap) n (c.take (n * size))) (own_of (h.get s : BlockIs w g c e) hl hn hm) (fun b hb => .inl (by simp [Part.row, Value.ownBlock] at hb; exact hb.symm)) (Exc.refl _ _)
theorem At.row_nil (h : At L0 w0 L w) (e : TypeId) (size : Nat) : At L0 w0 (Part.row e size (.slice none 0 0) 0 [] :: L) w :=
 h.new (Ext.refl w) _ ⟨by simp, .inl ⟨rfl, rfl⟩⟩ (fun b hb => nomatch hb)
theorem At.row_reads (h : At L0 w0 L w) (s : Sel (Part.row e size v n xs) L F) : Reads w v n xs := own_reads (h.get s : w.ownsRow 0 e size v n xs)
theorem At.cells_reads {b : Nat} {c : List Value} {T : TypeId} (h : At L0 w0 L w) (s : Sel (Part.cells b c T) L F) (m cap : Nat) : Reads w (.slice (some ⟨b, 0, none⟩) m cap) m c :=
 ⟨_, _, rfl, nofun, fun j u hj => ⟨b, 0, rfl, by rw [Nat.zero_add]; exact ((h.get s : BlockIs w b c T).cell j).trans hj⟩⟩
theorem flat_at {α : Type} (enc : α → List Value) (size : Nat) (hs : ∀ x, (enc x).length = size) : ∀ (l : List α) (k : Nat) (x : α), l[k]? = some x → ∀ j, j < size → (l.flatMap enc)[k * size + j]? = (enc x)[j]?
 | y :: l, 0, x, hx, j, hj => by
  simp at hx; subst hx
  rw [List.flatMap_cons, Nat.zero_mul, Nat.zero_add, List.getElem?_append_left (by rw [hs]; exact hj)]
 | y :: l, k + 1, x, hx, j, hj => by
  rw [List.flatMap_cons, List.getElem?_append_right (by rw [hs, Nat.add_mul]; omega), hs, show (k + 1) * size + j - size = k * size + j by rw [Nat.add_mul]; omega]
  exact flat_at enc size hs l k x (by simpa using hx) j hj
 | [], k, x, hx, j, hj => by simp at hx
theorem flat_len {α : Type} (enc : α → List Value) (size : Nat) (hs : ∀ x, (enc x).length = size) : ∀ (l : List α), (l.flatMap enc).length = l.length * size
 | [] => by simp
 | x :: l => by rw [List.flatMap_cons, List.length_append, flat_len enc size hs l, hs, List.length_cons, Nat.add_mul]; omega
theorem cells_at {α : Type} {enc : α → List Value} {size : Nat} (hs : ∀ x, (enc x).length = size) {c : List Value} {l : List α} (ht : c.take (l.length * size) = l.flatMap enc) {k : Nat} {x : α} (hx : l[k]? = some x) (j : Nat) (hj : j < size) : c[k * size + j]? = (enc x)[j]? := by
 rw [← flat_at enc size hs l k x hx j hj, ← ht, List.getElem?_take_of_lt]
 have := (List.getElem?_eq_some_iff.1 hx).1
 calc k * size + j < k * size + size := by omega
  _ = (k + 1) * size := by rw [Nat.add_mul]; omega
  _ ≤ _ := Nat.mul_le_mul_right _ this
theorem wpList_append_at {i : TypeInfo} {z : Value} {bytes : Nat} (hg : o.guard = none) (s' x : Operand) (t : TypeId) (ho : o.op = .call { callee := .builtin .append, args := #[s', x], argTypes := #[t, t] })
 (ht : P.underlying t = some (.slice e)) (hi : P.info? e = some i) (hz : i.zero = some z) (hsize : i.size = size) (hby : i.bytes = bytes) (hzs : z.cells.size = size) (hsz : 0 < size)
 (h : At L0 w0 L w) (s : Sel (Part.row e size v n xs) L F) (hs : a.eval s' = v) {xv : Value} {m : Nat} {news : List Value} (hxv : a.eval x = xv) (hl : news.length = m * size) (hx : Reads w xv m news) (h1 : ∀ u ∈ news, u.oneCell' = true)
 (h63 : n + m ≤ maxLen) (hbytes : (n + m) * bytes ≤ 140737488355328)
 (hK : ∀ v' w', At L0 w0 (Part.row e size v' (n + m) (xs ++ news) :: F) w' → wpList P ops Q rest (a.put o.dst v') w') : wpList P ops Q (o :: rest) a w :=
 wpList_append_all w hg s' x t ho 0 e i z size bytes ht hi hz hsize hby hzs hsz v n xs hs (h.get s) xv m news hxv hl hx h1 h63 hbytes (Nat.zero_le _) fun v' w' h2 h3 h4 =>
  hK v' w' (h.turn s _ h2 (fun b hb => by
   rcases h4 with h4 | h4
   · exact .inl (show v.ownBlock = some b from by rw [← h4]; exact hb)
   · right
     have hb' : v'.ownBlock = some b := hb
     rw [h4] at hb'
     cases hb'
     exact Nat.le_refl _) (exc_grown h3))
theorem wpList_one_at {t : TypeId} {x : Operand} (hg : o.guard = none) (hop : o.op = .buildSlice t 1 #[(0, x)]) {xv : Value} (hx : a.eval x = xv) {vs : List Value}
 (hrun : ∀ w, (Instr.buildSlice t 1 #[(0, xv)]).run P w = .ok (.slice (some ⟨w.heap.size, 0, none⟩) 1 1) (w.alloc (.cells vs.toArray e)))
 (h : At L0 w0 L w)
 (hK : ∀ b w', At L0 w0 (Part.cells b vs e :: L) w' → w0.heap.size ≤ b → wpList P ops Q rest (a.put o.dst (.slice (some ⟨b, 0, none⟩) 1 1)) w') : wpList P ops Q (o :: rest) a w := by
 refine wpList_val hg ?_ (hK _ _ (h.alloc vs e) h.size)
 simp [execOp, hop, hx, hrun, Result.andThen]
end
end Go.Proofs.YtgbpfgdjnhbcgaaGreatDoor
end
section
namespace Go.Proofs.YtgbpfgdjnhbcgaaGreatDoor
open Go
theorem uZ : type_of% @uA ∧ type_of% fA ∧ type_of% @facts_row ∧ (∀ p : Prop, (p ∧ True) = p) ∧ (∀ p : Prop, (True ∧ p) = p) := ⟨@uA, fA, @facts_row, and_true, true_and⟩
end Go.Proofs.YtgbpfgdjnhbcgaaGreatDoor
end
section
namespace Go.Proofs.YtgbpfgdjnhbcgaaGreatDoor
open Go.RowKit
section
variable {P : Program} {ops : Array Oper} {rest : List Oper} {o : Oper} {a : Act} {Q : Exit → Act → World → Prop} {w : World} {e : TypeId} {size n : Nat} {v : Value} {xs : List Value}
theorem own_form {base : Nat} (h : w.ownsRow base e size v n xs) : ∃ ax cap, v = .slice ax n cap ∧ n ≤ cap ∧ cap ≤ maxLen ∧ xs.length = n * size ∧ (ax = none ∧ n = 0 ∧ cap = 0 ∨ ∃ g, ax = some ⟨g, 0, none⟩ ∧ ∀ j u, xs[j]? = some u → w.cell? ⟨g, j, none⟩ = some u) := by
 rcases h.2 with ⟨rfl, rfl⟩ | ⟨g, cap, cur, rfl, hb, hh, hc, hm, hs, ht⟩
 · exact ⟨none, 0, rfl, Nat.le_refl _, Nat.zero_le _, h.1, .inl ⟨rfl, rfl, rfl⟩⟩
 · refine ⟨_, cap, rfl, hc, hm, h.1, .inr ⟨g, rfl, fun j u hj => ?_⟩⟩
   have := h.cells (g := g) rfl j u hj
   rw [Addr.add_lit, Nat.zero_add] at this
   exact this
theorem run_slice_to {t : TypeId} {i : TypeInfo} (ht : P.underlying t = some (.slice e)) (hi : P.info? e = some i) (hsize : i.size = size) (hr : w.ownsRow 0 e size v n xs) (k : Nat) (hk : k ≤ n) :
 ∃ xv, (Instr.sliceAt t v none (some (.int .i64 k)) none).run P w = .ok xv w ∧ Reads w xv k (xs.take (k * size)) := by
 obtain ⟨ax, cap, rfl, hc, hm, hl, hx⟩ := own_form hr
 have hz : ∀ w, (sizeOf e).run P w = .ok size w := fun w => by simp [sizeOf, typeInfo, hi, hsize]
 refine ⟨.slice (if cap = 0 then ax else ax.map (·.add (0 * size))) k cap, ?_, ?_⟩
 · simp [Instr.sliceAt, Instr.slice, run_underlying ht, Instr.sliceBounds, run_sliceBound, hz, Result.andThen, show (k : Int) ≤ cap by omega]
 · rcases hx with ⟨rfl, rfl, rfl⟩ | ⟨g, rfl, hcell⟩
   · have : xs = [] := List.eq_nil_of_length_eq_zero (by simpa using hl)
     subst this
     exact ⟨_, _, rfl, fun _ => by omega, fun j u hj => by simp at hj⟩
   · refine ⟨_, _, rfl, ?_, fun j u hj => ⟨g, 0, ?_, ?_⟩⟩
     · intro h; split at h <;> simp at h
     · split <;> simp [Addr.add]
     · rw [Nat.zero_add]
       rw [List.getElem?_take] at hj
       split at hj
       · exact hcell j u hj
       · exact nomatch hj
theorem run_slice_from {t : TypeId} {i : TypeInfo} (ht : P.underlying t = some (.slice e)) (hi : P.info? e = some i) (hsize : i.size = size) (hr : w.ownsRow 0 e size v n xs) (k : Nat) (hk : k ≤ n) :
 ∃ xv, (Instr.sliceAt t v (some (.int .i64 k)) none none).run P w = .ok xv w ∧ Reads w xv (n - k) (xs.drop (k * size)) := by
 obtain ⟨ax, cap, rfl, hc, hm, hl, hx⟩ := own_form hr
 have hz : ∀ w, (sizeOf e).run P w = .ok size w := fun w => by simp [sizeOf, typeInfo, hi, hsize]
 refine ⟨.slice (if cap = k then ax else ax.map (·.add (k * size))) (n - k) (cap - k), ?_, ?_⟩
 · simp [Instr.sliceAt, Instr.slice, run_underlying ht, Instr.sliceBounds, run_sliceBound, hz, Result.andThen, show (k : Int) ≤ n by omega]
 · rcases hx with ⟨rfl, rfl, rfl⟩ | ⟨g, rfl, hcell⟩
   · have : xs = [] := List.eq_nil_of_length_eq_zero (by simpa using hl)
     subst this
     exact ⟨_, _, rfl, fun _ => by omega, fun j u hj => by simp at hj⟩
   · refine ⟨_, _, rfl, ?_, fun j u hj => ⟨g, if cap = k then 0 else k * size, ?_, ?_⟩⟩
     · intro h; split at h <;> simp at h
     · split
       · rfl
       · rw [Option.map_some, Addr.add_lit, Nat.zero_add]
     · have hjl := (List.getElem?_eq_some_iff.1 hj).1
       rw [List.length_drop, hl] at hjl
       have hne : cap ≠ k := by
        intro h
        have : n = k := by omega
        subst this
        omega
       rw [if_neg hne]
       rw [List.getElem?_drop] at hj
       exact hcell _ u hj
theorem wpList_slice_to {t : TypeId} {i : TypeInfo} {x hi' : Operand} {k : Nat} (hg : o.guard = none) (hop : o.op = .slice t x none (some hi') none) (ht : P.underlying t = some (.slice e)) (hi : P.info? e = some i) (hsize : i.size = size) (hx : a.eval x = v) (hh : a.eval hi' = .int .i64 k)
 (hr : w.ownsRow 0 e size v n xs) (hk : k ≤ n) (hK : ∀ xv, Reads w xv k (xs.take (k * size)) → wpList P ops Q rest (a.put o.dst xv) w) : wpList P ops Q (o :: rest) a w := by
 obtain ⟨xv, h1, h2⟩ := run_slice_to (P := P) ht hi hsize hr k hk
 refine wpList_val hg ?_ (hK xv h2)
 simp [execOp, hop, hx, hh, h1, Result.andThen]
theorem wpList_slice_from {t : TypeId} {i : TypeInfo} {x lo : Operand} {k : Nat} (hg : o.guard = none) (hop : o.op = .slice t x (some lo) none none) (ht : P.underlying t = some (.slice e)) (hi : P.info? e = some i) (hsize : i.size = size) (hx : a.eval x = v) (hh : a.eval lo = .int .i64 k)
 (hr : w.ownsRow 0 e size v n xs) (hk : k ≤ n) (hK : ∀ xv, Reads w xv (n - k) (xs.drop (k * size)) → wpList P ops Q rest (a.put o.dst xv) w) : wpList P ops Q (o :: rest) a w := by
 obtain ⟨xv, h1, h2⟩ := run_slice_from (P := P) ht hi hsize hr k hk
 refine wpList_val hg ?_ (hK xv h2)
 simp [execOp, hop, hx, hh, h1, Result.andThen]
end
end Go.Proofs.YtgbpfgdjnhbcgaaGreatDoor
end
section
namespace Go.Proofs.YtgbpfgdjnhbcgaaGreatDoor
open Go.RowKit
section
variable {α : Type} {enc : α → List Value} {size : Nat}
theorem flat_take (hs : ∀ x, (enc x).length = size) : ∀ (l : List α) (k : Nat), (l.flatMap enc).take (k * size) = (l.take k).flatMap enc
 | [], k => by simp
 | x :: l, 0 => by simp
 | x :: l, k + 1 => by
  rw [List.take_succ_cons, List.flatMap_cons, List.flatMap_cons, ← flat_take hs l k, List.take_append, List.take_of_length_le (by rw [hs, Nat.add_mul]; omega), hs, show (k + 1) * size - size = k * size by rw [Nat.add_mul]; omega]
theorem flat_drop (hs : ∀ x, (enc x).length = size) : ∀ (l : List α) (k : Nat), (l.flatMap enc).drop (k * size) = (l.drop k).flatMap enc
 | [], k => by simp
 | x :: l, 0 => by simp
 | x :: l, k + 1 => by
  rw [List.drop_succ_cons, List.flatMap_cons, ← flat_drop hs l k, List.drop_append, List.drop_eq_nil_of_le (by rw [hs, Nat.add_mul]; omega), hs, show (k + 1) * size - size = k * size by rw [Nat.add_mul]; omega, List.nil_append]
theorem flat_one (h : ∀ x, ∀ u ∈ enc x, u.oneCell' = true) (l : List α) : ∀ u ∈ l.flatMap enc, u.oneCell' = true := by
 intro u hu
 obtain ⟨x, _, hx⟩ := List.mem_flatMap.1 hu
 exact h x u hx
end
inductive Picks : List Part → List Part → Prop
 | nil {L : List Part} : Picks L []
 | cons {A : Part} {L F K : List Part} : Sel A L F → Picks F K → Picks L (A :: K)
theorem Picks.perm {L K : List Part} (p : Picks L K) : ∃ F, L.Perm (K ++ F) := by
 induction p with
 | nil => exact ⟨_, .refl _⟩
 | cons s _ ih =>
  obtain ⟨F, hF⟩ := ih
  exact ⟨F, s.perm.trans (hF.cons _)⟩
theorem At.pick {L0 L K : List Part} {w0 w : World} (h : At L0 w0 L w) (p : Picks L K) : At L0 w0 K w := by
 obtain ⟨F, hF⟩ := p.perm
 exact (h.perm hF).sub (List.sublist_append_left _ _)
theorem At.seps {L0 L K : List Part} {w0 w : World} (h : At L0 w0 L w) (p : Picks L K) : Sep K w := (h.pick p).sep
theorem Sep.pick {L K : List Part} {w : World} (h : Sep L w) (p : Picks L K) : Sep K w := (At.start h).seps p
theorem At.row_hid {L0 L F : List Part} {w0 w : World} {e : TypeId} {size n : Nat} {v : Value} {xs : List Value} (h : At L0 w0 L w) (s : Sel (Part.row e size v n xs) L F) : ∃ ax k cap, v = .slice ax k cap ∧ Hid (k = n) := by
 obtain ⟨ax, cap, rfl, _, _, _⟩ := h.row_form s
 exact ⟨ax, n, cap, rfl, Lib.hid rfl⟩
section
variable {α : Type} {p : α → Bool}
end
end Go.Proofs.YtgbpfgdjnhbcgaaGreatDoor
namespace Go.Proofs.YtgbpfgdjnhbcgaaGreatDoor
theorem pZ {L K : List Part} (h : Picks L K := by repeat (first | exact Picks.nil | refine Picks.cons (by repeat (first | exact Sel.here | apply Sel.there)) ?_)) : Picks L K := h
end Go.Proofs.YtgbpfgdjnhbcgaaGreatDoor
end
