/- Plain facts for the law CrewSets: the list of a set, the truths of both. -/
import Derived.Test.YtdbhndieommkaaaCrewR
import Derived.KernelRfl
namespace Go.Proofs.Ytdbhndieommkaaa.CrewW
open Go.RowKit

def pickL (t0 t1 t2 t3 t4 t5 t6 : Bool) : List Int :=
  (if t0 then [0] else []) ++ (if t1 then [1] else []) ++ (if t2 then [2] else []) ++ (if t3 then [3] else []) ++ (if t4 then [4] else []) ++ (if t5 then [5] else []) ++ (if t6 then [6] else [])
def cnt7 (t0 t1 t2 t3 t4 t5 t6 : Bool) (k : Nat) : Nat := ((List.range k).map fun j => b2n ([t0, t1, t2, t3, t4, t5, t6].getD j false)).sum
theorem pick_at : ∀ t0 t1 t2 t3 t4 t5 t6 : Bool, ∀ k : Fin 7, [t0, t1, t2, t3, t4, t5, t6].getD k.val false = true → (pickL t0 t1 t2 t3 t4 t5 t6)[cnt7 t0 t1 t2 t3 t4 t5 t6 k.val]? = some (k.val : Int) := by decide +kernel
theorem pick_len : ∀ t0 t1 t2 t3 t4 t5 t6 : Bool, (pickL t0 t1 t2 t3 t4 t5 t6).length = cnt7 t0 t1 t2 t3 t4 t5 t6 7 := by decide +kernel
theorem tb_getD (s : Int) (j : Nat) (hj : j < 7) : [tb s 0, tb s 1, tb s 2, tb s 3, tb s 4, tb s 5, tb s 6].getD j false = tb s j := by
  have hi' : j = 0 ∨ j = 1 ∨ j = 2 ∨ j = 3 ∨ j = 4 ∨ j = 5 ∨ j = 6 := by omega
  rcases hi' with rfl | rfl | rfl | rfl | rfl | rfl | rfl <;> rfl
theorem cnt7_eq (s : Int) (k : Nat) (hk : k ≤ 7) : cnt7 (tb s 0) (tb s 1) (tb s 2) (tb s 3) (tb s 4) (tb s 5) (tb s 6) k = cntTo s k := by
  unfold cnt7 cntTo
  congr 1
  apply List.map_congr_left
  intro j hj
  rw [tb_getD s j (by have := List.mem_range.1 hj; omega)]
theorem listOf_pick (s : Int) (h0 : 0 ≤ s) (h1 : s < 256) : listOf s = pickL (tb s 0) (tb s 1) (tb s 2) (tb s 3) (tb s 4) (tb s 5) (tb s 6) := by
  have e0 : hasB s 0 = tb s 0 := has_eq s h0 h1 0 (by omega)
  have e1 : hasB s 1 = tb s 1 := has_eq s h0 h1 1 (by omega)
  have e2 : hasB s 2 = tb s 2 := has_eq s h0 h1 2 (by omega)
  have e3 : hasB s 3 = tb s 3 := has_eq s h0 h1 3 (by omega)
  have e4 : hasB s 4 = tb s 4 := has_eq s h0 h1 4 (by omega)
  have e5 : hasB s 5 = tb s 5 := has_eq s h0 h1 5 (by omega)
  have e6 : hasB s 6 = tb s 6 := has_eq s h0 h1 6 (by omega)
  simp only [listOf, pickL, List.filter_cons, List.filter_nil, e0, e1, e2, e3, e4, e5, e6]
  cases tb s 0 <;> cases tb s 1 <;> cases tb s 2 <;> cases tb s 3 <;> cases tb s 4 <;> cases tb s 5 <;> cases tb s 6 <;> rfl
theorem listOf_at (s : Int) (h0 : 0 ≤ s) (h1 : s < 256) (k : Nat) (hk : k < 7) (ht : tb s k = true) : (listOf s)[cntTo s k]? = some (k : Int) := by
  rw [listOf_pick s h0 h1, ← cnt7_eq s k (by omega)]
  exact pick_at _ _ _ _ _ _ _ ⟨k, hk⟩ (by rw [tb_getD s k hk]; exact ht)
theorem listOf_len (s : Int) (h0 : 0 ≤ s) (h1 : s < 256) : (listOf s).length = cntTo s 7 := by
  rw [listOf_pick s h0 h1, ← cnt7_eq s 7 (by omega)]
  exact pick_len _ _ _ _ _ _ _

def bothL (s o : Int) (i : Nat) : List Value := (List.range 7).map fun j => .bool (if j < i then tb s j && tb o j else tb s j)
theorem bothL_at (s o : Int) (i j : Nat) (hj : j < 7) : (bothL s o i)[j]? = some (.bool (if j < i then tb s j && tb o j else tb s j)) := by
  simp [bothL, List.getElem?_map, List.getElem?_range hj]
theorem bothL_set (s o : Int) (i : Nat) (hi : i < 7) : (bothL s o i).set i (.bool (tb s i && tb o i)) = bothL s o (i + 1) := by
  apply List.ext_getElem?
  intro j
  by_cases hj : j < 7
  · rw [bothL_at s o (i + 1) j hj]
    by_cases e : j = i
    · subst e
      rw [List.getElem?_set_self (by simp [bothL]; omega), if_pos (by omega)]
    · rw [List.getElem?_set_ne (by omega), bothL_at s o i j hj]
      by_cases q : j < i
      · rw [if_pos q, if_pos (by omega)]
      · rw [if_neg q, if_neg (by omega)]
  · have l1 : (bothL s o i).length = 7 := by simp [bothL]
    have l2 : (bothL s o (i + 1)).length = 7 := by simp [bothL]
    rw [List.getElem?_eq_none (by simp [l1]; omega), List.getElem?_eq_none (by omega)]
theorem bothL_zero (s o : Int) : bothL s o 0 = [.bool (tb s 0), .bool (tb s 1), .bool (tb s 2), .bool (tb s 3), .bool (tb s 4), .bool (tb s 5), .bool (tb s 6)] := rfl
theorem low_meet (s o : Int) : low (meet s o) = meet s o := by
  unfold low meet
  rw [u8_and _ 127 (and_lo _ _) (and_hi _ _) (by omega) (by omega), Int.toNat_natCast]
  have := Nat.and_le_right (n := (bits .and .u8 s o).toNat) (m := (127 : Int).toNat)
  have e : (127 : Int).toNat = 127 := rfl
  omega
theorem tb_set (s : Int) (h0 : 0 ≤ s) (h1 : s < 256) (k j : Nat) (hk : k < 7) (hj : j < 7) : tb (bits .or .u8 s (bitI k)) j = (if j = k then true else tb s j) := by
  have := bit_lo k
  have := bit_hi k
  rw [tb_or s _ h0 h1 (by omega) (by omega), tb_bit k j hj]
  by_cases e : j = k
  · subst e; simp
  · have q : ((k : Int) == (j : Int)) = false := by simp; omega
    rw [if_neg e, q, Bool.or_false]
theorem tb_unset (s : Int) (h0 : 0 ≤ s) (h1 : s < 256) (k j : Nat) (hk : k < 7) (hj : j < 7) : tb (bits .andNot .u8 s (bitI k)) j = (if j = k then false else tb s j) := by
  have := bit_lo k
  have := bit_hi k
  rw [tb_andNot s _ h0 h1 (by omega) (by omega) j hj, tb_bit k j hj]
  by_cases e : j = k
  · subst e; simp
  · have q : ((k : Int) == (j : Int)) = false := by simp; omega
    rw [if_neg e, q]; simp
theorem or_zero (s : Int) (h0 : 0 ≤ s) (h1 : s < 256) : bits .or .u8 s 0 = s := by rw [u8_or s 0 h0 h1 (by omega) (by omega)]; simp; omega
theorem andNot_zero (s : Int) (h0 : 0 ≤ s) (h1 : s < 256) : bits .andNot .u8 s 0 = s := by
  rw [u8_andNot s 0 h0 h1 (by omega) (by omega)]
  have : s.toNat &&& 255 = s.toNat % 2 ^ 8 := Nat.and_two_pow_sub_one_eq_mod _ 8
  simp [this]; omega
theorem arr_eql (b0 b1 b2 b3 b4 b5 b6 : Bool) (w : World) : (binOp .eql 25 (.agg #[.bool b0, .bool b1, .bool b2, .bool b3, .bool b4, .bool b5, .bool b6]) (.agg #[.bool b0, .bool b1, .bool b2, .bool b3, .bool b4, .bool b5, .bool b6])).run Try.prog w = .ok (.bool true) w := by
  cases b0 <;> cases b1 <;> cases b2 <;> cases b3 <;> cases b4 <;> cases b5 <;> cases b6 <;> kernel_rfl
theorem arr_neq (b0 b1 b2 b3 b4 b5 b6 : Bool) (w : World) : (binOp .neq 25 (.agg #[.bool b0, .bool b1, .bool b2, .bool b3, .bool b4, .bool b5, .bool b6]) (.agg #[.bool b0, .bool b1, .bool b2, .bool b3, .bool b4, .bool b5, .bool b6])).run Try.prog w = .ok (.bool false) w := by
  cases b0 <;> cases b1 <;> cases b2 <;> cases b3 <;> cases b4 <;> cases b5 <;> cases b6 <;> kernel_rfl
end Go.Proofs.Ytdbhndieommkaaa.CrewW
