/- LockLe, LockSa, LockBy, joined. -/
import Derived.Test.YtalfoiodejoicaaGreatDoorJ28
import Derived.Test.YtalfoiodejoicaaGreatDoorJ26
section
namespace Go.Proofs.YtalfoiodejoicaaGreatDoor.Lock
open Go.RowKit
open Go.Maps (Keyed)
open Path (bl rightB overB cmpP cmpL)
set_option linter.unusedSimpArgs false
set_option linter.unusedVariables false

/-! ### An element of a row is loaded, in the class of the worlds in which the row stands -/
theorem row_block {w : World} {E : TypeId} {size n cap : Nat} {ax : Option Addr} {xs : List Value} (h : (Part.row E size (.slice ax n cap) n xs).holds w) (hn : 0 < n) : ∃ g c, ax = some ⟨g, 0, none⟩ ∧ BlockIs w g c E ∧ c.take (n * size) = xs := by
  have hr : w.ownsRow 0 E size (.slice ax n cap) n xs := h
  rcases hr.2 with ⟨hv, rfl⟩ | ⟨g, cap', cur, hv, _, hh, hc, hm, hs, ht⟩
  · omega
  · cases hv
    exact ⟨g, cur.toList, rfl, (by unfold BlockIs; simpa using hh), ht⟩
theorem At.row_some {L0 L F : List Part} {w0 w : World} {E : TypeId} {size n cap : Nat} {ax : Option Addr} {xs : List Value} (h : At L0 w0 L w) (s : Sel (Part.row E size (.slice ax n cap) n xs) L F) (hn : 0 < n) : ∃ g, ax = some ⟨g, 0, none⟩ := by
  obtain ⟨g, _, h1, _⟩ := row_block (h.get s) hn
  exact ⟨g, h1⟩
theorem quiet_rowload_at {P : Program} {o : Oper} {a : Act} {L0 L F : List Part} {w0 : World} {K : Act → Prop} {ty : TypeId} {x : Operand} {E : TypeId} {size n cap g off : Nat} {xs : List Value} (hop : o.op = .load ty x) (hx : a.eval x = .pointer (some ⟨g, off, none⟩))
    (s : Sel (Part.row E size (.slice (some ⟨g, 0, none⟩) n cap) n xs) L F) (hn : 0 < n) (hu : (P.underlying ty).map (·.isRow) = some true) {m : Nat} (hi : (P.info? ty).map (·.size) = some m) {vs : List Value} (hv : (xs.drop off).take m = vs) (hl : vs.length = m) (hle : off + m ≤ n * size)
    (hk : K (a.put o.dst (.agg vs.toArray))) : o.quiet P a (Cl L0 w0 L) K :=
  quiet_at _ (fun w' hw => by
    obtain ⟨g', c, hg, hb, ht⟩ := row_block (At.get hw s) hn
    cases hg
    refine run_load_row hop hx hb hu hi (vs := vs) ?_ hl
    rw [← hv, ← ht]
    apply List.ext_getElem?
    intro j
    by_cases hj : j < m
    · rw [List.getElem?_take_of_lt hj, List.getElem?_take_of_lt hj, List.getElem?_drop, List.getElem?_drop, List.getElem?_take_of_lt (by omega)]
    · rw [List.getElem?_take_eq_none (by omega), List.getElem?_take_eq_none (by omega)]) hk

/-! ### What a list of all entries tells -/
theorem place_of_mem {s : S3} {k : Nat} (h : Inv s k) {e : Ent} (he : e ∈ s.es) : ∃ i, ∃ hi : i < s.es.length, s.es[i] = e ∧ idxD s.es e.path e.num e.foot = i ∧ find s.es e.path e.num e.foot = some e := by
  obtain ⟨l1, l2, hl⟩ := List.append_of_mem he
  have hk := h.keys
  rw [hl, List.pairwise_append] at hk
  have hn : ∀ x ∈ l1, x.is e.path e.num e.foot = false := fun x hx => by
    have := hk.2.2 x hx e (by simp)
    simp only [Ent.is, decide_eq_false_iff_not]
    exact this
  have hi : l1.length < s.es.length := by rw [hl]; simp
  have he1 : s.es[l1.length] = e := by simp [hl]
  refine ⟨l1.length, hi, he1, ?_, ?_⟩
  · have ht : s.es.take l1.length = l1 := by simp [hl]
    exact idx_at hi (by rw [ht]; exact hn) (by rw [he1]; simp [Ent.is])
  · unfold find
    rw [List.find?_eq_some_iff_append]
    exact ⟨by simp [Ent.is], l1, l2, hl, fun x hx => by simp [hn x hx]⟩
theorem granted_place {s : S3} {k : Nat} (h : Inv s k) {e : Ent} {i : Nat} (hi : i < s.es.length) (he : s.es[i] = e) (hf : find s.es e.path e.num e.foot = some e) : grantedB s.es e = grantD s.es i := by
  unfold grantedB
  rw [hf]
  simp only [decide_true, Bool.true_and]
  exact clear_grant h.order (by rw [List.getElem?_eq_getElem hi, he])
theorem granted_more {es : List Ent} {e : Ent} (hf : find es e.path e.num e.foot = some e) : grantedB es ⟨e.path, e.num, e.foot, e.mode, e.n + 1, e.stamp⟩ = false := by
  unfold grantedB
  rw [Bool.and_eq_false_iff]
  left
  simp only
  rw [hf]
  simp only [decide_eq_false_iff_not, Option.some.injEq]
  intro q
  have := congrArg Ent.n q
  simp only at this
  omega
theorem lt_compare {x y : Ent} (hx : rightB (bl x.path) = true) (hy : rightB (bl y.path) = true) (h : ltE x y) : cmpP (bl x.path) (bl y.path) ≤ 0 ∧ (x.path = y.path → x.stamp < y.stamp) := by
  have hc : cmpP (bl x.path) (bl y.path) = cmpL (keyL x) (keyL y) := by unfold cmpP keyL; rw [if_pos ⟨hx, hy⟩]
  rw [hc]
  rcases h with h | ⟨h, h2⟩
  · refine ⟨by omega, fun q => ?_⟩
    exfalso
    have : keyL x = keyL y := by unfold keyL; rw [q]
    rw [this, Path.cl_self] at h
    omega
  · exact ⟨by rw [h, Path.cl_self]; omega, fun _ => h2⟩
end Go.Proofs.YtalfoiodejoicaaGreatDoor.Lock
end

section
namespace Go.Proofs.YtalfoiodejoicaaGreatDoor.Lock
open Path (bl rightB overB cmpP cmpL)
set_option linter.unusedSimpArgs false
set_option linter.unusedVariables false

theorem clear_iff {l : List Ent} {e : Ent} : clearB l e = true ↔ ∀ x ∈ l, x.stamp < e.stamp → wayB x e = false := by
  unfold clearB
  simp only [List.all_eq_true]
  constructor
  · intro h x hx hs
    have := h x hx
    simpa [hs] using this
  · intro h x hx
    by_cases hs : x.stamp < e.stamp
    · simp [h x hx hs]
    · simp [hs]
/-- one that is granted stays so, while it is there -/
theorem clear_step {s : S3} {k : Nat} (h : Inv s k) {o : Op} {e : Ent} (he : e ∈ s.es) (hc : clearB s.es e = true) : clearB (s.step o).es e = true := by
  rw [clear_iff] at hc ⊢
  intro x hx hs
  have hmem : x ∈ s.es ∨ x = s.newE o.path o.num o.foot o.mode := by
    unfold S3.step at hx
    split at hx
    · unfold S3.add at hx
      split at hx
      · unfold S3.added at hx
        simp at hx
        exact hx
      · exact .inl hx
    split at hx
    · exact .inl (List.mem_filter.1 hx).1
    split at hx
    · exact .inl (List.mem_filter.1 hx).1
    · exact .inl hx
  rcases hmem with hm | rfl
  · exact hc x hm hs
  · cases hw : wayB (s.newE o.path o.num o.foot o.mode) e with
    | false => rfl
    | true =>
      have ho := way_over hw
      rw [Path.over_comm] at ho
      have := maxS_ge (p := o.path) he ho
      simp only [S3.newE] at hs
      omega
/-- no two that are granted are in each other's way -/
theorem two_granted {s : S3} {k : Nat} (h : Inv s k) {e f : Ent} (he : e ∈ s.es) (hf : f ∈ s.es) (hn : e ≠ f) (hc : clearB s.es e = true) (hd : clearB s.es f = true) : wayB e f = false := by
  rw [clear_iff] at hc hd
  cases hw : wayB e f with
  | false => rfl
  | true =>
    have ho := way_over hw
    have hw2 : wayB f e = true := by rw [← hw]; unfold wayB; rw [Path.over_comm, Bool.or_comm]
    obtain ⟨i, hi, rfl⟩ := List.getElem_of_mem he
    obtain ⟨j, hj, rfl⟩ := List.getElem_of_mem hf
    rcases Nat.lt_trichotomy i j with q | q | q
    · have := List.pairwise_iff_getElem.1 h.order i j hi hj q ho
      rw [hd _ he this] at hw
      cases hw
    · subst q; exact absurd rfl hn
    · have := List.pairwise_iff_getElem.1 h.order j i hj hi q (by rw [Path.over_comm]; exact ho)
      rw [hc _ hf this] at hw2
      cases hw2
theorem ltE_ne {x y : Ent} (h : ltE x y) : x ≠ y := by
  rintro rfl
  rcases h with h | ⟨_, h⟩
  · rw [Path.cl_self] at h; omega
  · omega
/-- of one path those that came later have greater numbers -/
theorem nums_rise {s : S3} {k : Nat} (h : Inv s k) {x y : Ent} (hx : x ∈ s.es) (hy : y ∈ s.es) (hl : ltE x y) (hp : x.path = y.path) : x.n < y.n := by
  have hs := (lt_compare (h.right _ hx) (h.right _ hy) hl).2 hp
  obtain ⟨i, hi, rfl⟩ := List.getElem_of_mem hx
  obtain ⟨j, hj, rfl⟩ := List.getElem_of_mem hy
  rcases Nat.lt_trichotomy i j with q | q | q
  · exact List.pairwise_iff_getElem.1 h.nums i j hi hj q hp
  · subst q; omega
  · have := List.pairwise_iff_getElem.1 h.order j i hj hi q (by rw [hp]; exact Path.over_self (h.right _ hy))
    omega
/-- what was granted, behind a step: gone, another one, or granted -/
theorem held_step {s : S3} {k : Nat} (h : Inv s k) {o : Op} {e x : Ent} (he : e ∈ s.es) (hg : grantedB s.es e = true) (hf : find (s.step o).es e.path e.num e.foot = some x) : x ≠ e ∨ grantedB (s.step o).es e = true := by
  by_cases hx : x = e
  · subst hx
    refine .inr ?_
    unfold grantedB at hg ⊢
    rw [hf]
    simp only [Bool.and_eq_true, decide_eq_true_eq] at hg ⊢
    exact ⟨trivial, clear_step h he hg.2⟩
  · exact .inl hx
theorem granted_parts {es : List Ent} {e : Ent} (h : grantedB es e = true) : find es e.path e.num e.foot = some e ∧ clearB es e = true := by
  unfold grantedB at h
  simpa using h
theorem first_step (s : S3) (o : Op) : (s.step o).first = s.first := by
  unfold S3.step
  split
  · unfold S3.add; split <;> rfl
  split
  · rfl
  split <;> rfl
end Go.Proofs.YtalfoiodejoicaaGreatDoor.Lock
end

section
namespace Go.Proofs.YtalfoiodejoicaaGreatDoor.Lock
open Go.RowKit
open Go.Maps (Keyed)
open _root_.Go.Proofs.YtalfoiodejoicaaGreatDoor.Wire
open Path (bl rightB overB)
set_option linter.unusedSimpArgs false
set_option linter.unusedVariables false
attribute [-go_sem] run_eql_struct run_neq_struct run_eqGuard_agg
attribute [local go_sem] guardR

/-! ### Counters compared -/
theorem sameCn (p q : ByteArray) (n m : Int) (w : World) : (Go.Op.equalIn 10000 82 (.agg #[.string p, .int .u64 n]) (.agg #[.string q, .int .u64 m])).run Tryz.prog w = .ok (decide (p = q ∧ n = m)) w := by
  rw [run_equalIn_agg _ 9999 _ _ _ (by kernel_rfl) (by kernel_rfl)]
  simp [go_sem, Go.Op.eqFields, same_ba]
  by_cases h1 : p = q <;> by_cases h2 : n = m <;> simp [h1, h2]
@[local go_sem] theorem guardCn (op : BinOp) (x y : Operand) (c1 c2 d1 d2 : Value) (w : World) : (eqGuard op 82 x y (.agg #[c1, c2]) (.agg #[d1, d2])).run Tryz.prog w = .ok () w := run_eqGuard_agg _ _ _ _ _ _ _ (by kernel_rfl)
@[local go_sem] theorem eqlCn (p q : ByteArray) (n m : Int) (w : World) : (binOp .eql 82 (.agg #[.string p, .int .u64 n]) (.agg #[.string q, .int .u64 m])).run Tryz.prog w = .ok (.bool (decide (p = q ∧ n = m))) w := by
  rw [run_eql_struct, sameCn]; rfl

/-! ### What the law compares -/
/-- two books have the same entries and counters -/
def Alike (s t : S3) : Prop := (s.es.length = t.es.length ∧ s.cs.length = t.cs.length) ∧ (∀ x ∈ s.es, x ∈ t.es) ∧ ∀ c ∈ s.cs, c ∈ t.cs
theorem bytes_iff {s t : S3} {k j : Nat} (hI : Inv s k) (hJ : Inv t j) {l m : List Ent} {cl cm : List (ByteArray × Int)} (p1 : l.Perm s.es) (p2 : m.Perm t.es) (s1 : l.Pairwise ltE) (s2 : m.Pairwise ltE) (q1 : cl.Perm s.cs) (q2 : cm.Perm t.cs) (r1 : cl.Pairwise ltC) (r2 : cm.Pairwise ltC)
    (h1 : ∀ e ∈ s.es, okW e) (h2 : ∀ e ∈ t.es, okW e) : encB l cl = encB m cm ↔ Alike s t := by
  have n1 : s.es.Nodup := keys_nodup hI.keys
  have n2 : s.cs.Nodup := hI.ckeys.imp (fun h e => h (by rw [e]))
  rw [encB_iff (fun e he => (h1 e (p1.mem_iff.1 he)).ok) (fun e he => (h2 e (p2.mem_iff.1 he)).ok) (fun c hc => (hI.okV c (q1.mem_iff.1 hc)).ok) (fun c hc => (hJ.okV c (q2.mem_iff.1 hc)).ok),
    list_same p1 p2 s1 s2 n1, counters_same (lt := ltC) (fun x y h h' => Txt.ltP_irrefl _ (Txt.ltP_trans h h')) q1 q2 r1 r2 n2]
  unfold Alike
  constructor
  · rintro ⟨⟨a, b⟩, c, d⟩; exact ⟨⟨a, c⟩, b, d⟩
  · rintro ⟨⟨a, c⟩, b, d⟩; exact ⟨⟨a, b⟩, c, d⟩
theorem mem_step {α : Type} {l : List α} {P : α → Prop} {i : Nat} (hi : i < l.length) : (∀ x ∈ l.take (i + 1), P x) ↔ (∀ x ∈ l.take i, P x) ∧ P l[i] := by
  rw [List.take_succ_eq_append_getElem hi]
  constructor
  · intro h
    exact ⟨fun x hx => h x (List.mem_append_left _ hx), h _ (List.mem_append_right _ (List.mem_singleton.2 rfl))⟩
  · rintro ⟨h1, h2⟩ x hx
    rcases List.mem_append.1 hx with hx | hx
    · exact h1 x hx
    · rw [List.mem_singleton.1 hx]; exact h2
theorem any_step {α : Type} {l : List α} {P : α → Prop} {i : Nat} (hi : i < l.length) : (∃ x ∈ l.take (i + 1), P x) ↔ (∃ x ∈ l.take i, P x) ∨ P l[i] := by
  rw [List.take_succ_eq_append_getElem hi]
  constructor
  · rintro ⟨x, hx, h⟩
    rcases List.mem_append.1 hx with hx | hx
    · exact .inl ⟨x, hx, h⟩
    · rw [List.mem_singleton.1 hx] at h; exact .inr h
  · rintro (⟨x, hx, h⟩ | h)
    · exact ⟨x, List.mem_append_left _ hx, h⟩
    · exact ⟨_, List.mem_append_right _ (List.mem_singleton.2 rfl), h⟩
/-- what is found, as the law takes it -/
theorem found_iff {t : S3} {j : Nat} (hJ : Inv t j) (x : Ent) : (idxD t.es x.path x.num x.foot = -1 ∧ x ∉ t.es) ∨ (∃ jn, ∃ h : jn < t.es.length, idxD t.es x.path x.num x.foot = (jn : Int) ∧ (t.es[jn] = x ↔ x ∈ t.es)) := by
  cases hf : find t.es x.path x.num x.foot with
  | none =>
    refine .inl ⟨?_, fun hm => find_none_iff.1 hf x hm ⟨rfl, rfl, rfl⟩⟩
    have hq := (find_idx (L := t.es) (p := x.path) (n := x.num) (f := x.foot)).2
    rw [hf] at hq
    exact hq rfl
  | some y =>
    obtain ⟨l1, l2, hs, e1, e2, e3, hn⟩ := find_split hf
    have hl : l1.length < t.es.length := by rw [hs]; simp
    have hg : t.es[l1.length] = y := by simp [hs]
    refine .inr ⟨l1.length, hl, ?_, ?_⟩
    · refine idx_at hl (fun z hz => hn z ?_) (by rw [hg]; unfold Ent.is; simp [e1, e2, e3])
      rw [hs, List.take_left] at hz
      exact hz
    · rw [hg]
      constructor
      · rintro rfl; rw [hs]; simp
      · intro hm
        have := (find_iff hJ.keys x).2 hm
        rw [hf] at this
        exact Option.some.inj this
end Go.Proofs.YtalfoiodejoicaaGreatDoor.Lock
end
