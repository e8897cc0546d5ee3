/- LockLe, joined. -/
import Derived.Test.YthihmiaagplclaaGreatDoorJ30
section
namespace Go.Proofs.YthihmiaagplclaaGreatDoor.Lock
open Go.RowKit
open Go.Maps (Keyed)
open Path (bl rightB overB cmpP cmpL)
set_option linter.unusedSimpArgs false
set_option linter.unusedVariables false

/-! ### An element of a row is loaded, in the class of the worlds in which the row stands -/
theorem row_block {w : World} {E : TypeId} {size n cap : Nat} {ax : Option Addr} {xs : List Value} (h : (Part.row E size (.slice ax n cap) n xs).holds w) (hn : 0 < n) : ∃ g c, ax = some ⟨g, 0, none⟩ ∧ BlockIs w g c E ∧ c.take (n * size) = xs := by
  have hr : w.ownsRow 0 E size (.slice ax n cap) n xs := h
  rcases hr.2 with ⟨hv, rfl⟩ | ⟨g, cap', cur, hv, _, hh, hc, hm, hs, ht⟩
  · omega
  · cases hv
    exact ⟨g, cur.toList, rfl, (by unfold BlockIs; simpa using hh), ht⟩
theorem At.row_some {L0 L F : List Part} {w0 w : World} {E : TypeId} {size n cap : Nat} {ax : Option Addr} {xs : List Value} (h : At L0 w0 L w) (s : Sel (Part.row E size (.slice ax n cap) n xs) L F) (hn : 0 < n) : ∃ g, ax = some ⟨g, 0, none⟩ := by
  obtain ⟨g, _, h1, _⟩ := row_block (h.get s) hn
  exact ⟨g, h1⟩
theorem quiet_rowload_at {P : Program} {o : Oper} {a : Act} {L0 L F : List Part} {w0 : World} {K : Act → Prop} {ty : TypeId} {x : Operand} {E : TypeId} {size n cap g off : Nat} {xs : List Value} (hop : o.op = .load ty x) (hx : a.eval x = .pointer (some ⟨g, off, none⟩))
    (s : Sel (Part.row E size (.slice (some ⟨g, 0, none⟩) n cap) n xs) L F) (hn : 0 < n) (hu : (P.underlying ty).map (·.isRow) = some true) {m : Nat} (hi : (P.info? ty).map (·.size) = some m) {vs : List Value} (hv : (xs.drop off).take m = vs) (hl : vs.length = m) (hle : off + m ≤ n * size)
    (hk : K (a.put o.dst (.agg vs.toArray))) : o.quiet P a (Cl L0 w0 L) K :=
  quiet_at _ (fun w' hw => by
    obtain ⟨g', c, hg, hb, ht⟩ := row_block (At.get hw s) hn
    cases hg
    refine run_load_row hop hx hb hu hi (vs := vs) ?_ hl
    rw [← hv, ← ht]
    apply List.ext_getElem?
    intro j
    by_cases hj : j < m
    · rw [List.getElem?_take_of_lt hj, List.getElem?_take_of_lt hj, List.getElem?_drop, List.getElem?_drop, List.getElem?_take_of_lt (by omega)]
    · rw [List.getElem?_take_eq_none (by omega), List.getElem?_take_eq_none (by omega)]) hk

/-! ### What a list of all entries tells -/
theorem place_of_mem {s : S3} {k : Nat} (h : Inv s k) {e : Ent} (he : e ∈ s.es) : ∃ i, ∃ hi : i < s.es.length, s.es[i] = e ∧ idxD s.es e.path e.num e.foot = i ∧ find s.es e.path e.num e.foot = some e := by
  obtain ⟨l1, l2, hl⟩ := List.append_of_mem he
  have hk := h.keys
  rw [hl, List.pairwise_append] at hk
  have hn : ∀ x ∈ l1, x.is e.path e.num e.foot = false := fun x hx => by
    have := hk.2.2 x hx e (by simp)
    simp only [Ent.is, decide_eq_false_iff_not]
    exact this
  have hi : l1.length < s.es.length := by rw [hl]; simp
  have he1 : s.es[l1.length] = e := by simp [hl]
  refine ⟨l1.length, hi, he1, ?_, ?_⟩
  · have ht : s.es.take l1.length = l1 := by simp [hl]
    exact idx_at hi (by rw [ht]; exact hn) (by rw [he1]; simp [Ent.is])
  · unfold find
    rw [List.find?_eq_some_iff_append]
    exact ⟨by simp [Ent.is], l1, l2, hl, fun x hx => by simp [hn x hx]⟩
theorem granted_place {s : S3} {k : Nat} (h : Inv s k) {e : Ent} {i : Nat} (hi : i < s.es.length) (he : s.es[i] = e) (hf : find s.es e.path e.num e.foot = some e) : grantedB s.es e = grantD s.es i := by
  unfold grantedB
  rw [hf]
  simp only [decide_true, Bool.true_and]
  exact clear_grant h.order (by rw [List.getElem?_eq_getElem hi, he])
theorem granted_more {es : List Ent} {e : Ent} (hf : find es e.path e.num e.foot = some e) : grantedB es ⟨e.path, e.num, e.foot, e.mode, e.n + 1, e.stamp⟩ = false := by
  unfold grantedB
  rw [Bool.and_eq_false_iff]
  left
  simp only
  rw [hf]
  simp only [decide_eq_false_iff_not, Option.some.injEq]
  intro q
  have := congrArg Ent.n q
  simp only at this
  omega
theorem lt_compare {x y : Ent} (hx : rightB (bl x.path) = true) (hy : rightB (bl y.path) = true) (h : ltE x y) : cmpP (bl x.path) (bl y.path) ≤ 0 ∧ (x.path = y.path → x.stamp < y.stamp) := by
  have hc : cmpP (bl x.path) (bl y.path) = cmpL (keyL x) (keyL y) := by unfold cmpP keyL; rw [if_pos ⟨hx, hy⟩]
  rw [hc]
  rcases h with h | ⟨h, h2⟩
  · refine ⟨by omega, fun q => ?_⟩
    exfalso
    have : keyL x = keyL y := by unfold keyL; rw [q]
    rw [this, Path.cl_self] at h
    omega
  · exact ⟨by rw [h, Path.cl_self]; omega, fun _ => h2⟩
end Go.Proofs.YthihmiaagplclaaGreatDoor.Lock
end
