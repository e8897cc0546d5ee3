/- Plain facts on sets of replicas as bytes: how many, with one less, in both. -/
import Derived.Test.YtdbhndieommkaaaCrewM
namespace Go.Proofs.Ytdbhndieommkaaa.CrewW
open Go.RowKit

def b2n (b : Bool) : Nat := if b then 1 else 0
def cntB (s : Int) : Nat := b2n (tb s 0) + b2n (tb s 1) + b2n (tb s 2) + b2n (tb s 3) + b2n (tb s 4) + b2n (tb s 5) + b2n (tb s 6)
def cntN (n : Nat) : Nat := b2n (n.testBit 0) + b2n (n.testBit 1) + b2n (n.testBit 2) + b2n (n.testBit 3) + b2n (n.testBit 4) + b2n (n.testBit 5) + b2n (n.testBit 6)
theorem ones_nat : ∀ n : Fin 256, Lib.onesCount (n.val &&& 127) = cntN n.val := by decide +kernel
def cnt (s : Int) : Int := (Lib.onesCount (bits .and .u8 s 127).toNat : Int)
theorem cnt_eq (s : Int) (h0 : 0 ≤ s) (h1 : s < 256) : cnt s = (cntB s : Int) := by
  have e : cntB s = cntN s.toNat := by simp only [cntB, cntN, tb_nat s h0]
  rw [e, cnt, u8_and s 127 h0 h1 (by omega) (by omega), Int.toNat_natCast]
  exact congrArg _ (ones_nat ⟨s.toNat, by omega⟩)
def meet (s o : Int) : Int := bits .and .u8 (bits .and .u8 s o) 127
theorem meet_lo (s o : Int) : 0 ≤ meet s o := and_lo _ _
theorem meet_hi (s o : Int) : meet s o < 256 := and_hi _ _
theorem tb_127 (i : Nat) (hi : i < 7) : tb 127 i = true := by
  have hi' : i = 0 ∨ i = 1 ∨ i = 2 ∨ i = 3 ∨ i = 4 ∨ i = 5 ∨ i = 6 := by omega
  rcases hi' with rfl | rfl | rfl | rfl | rfl | rfl | rfl <;> rfl
theorem tb_meet (s o : Int) (h0 : 0 ≤ s) (h1 : s < 256) (g0 : 0 ≤ o) (g1 : o < 256) (i : Nat) (hi : i < 7) : tb (meet s o) i = (tb s i && tb o i) := by
  unfold meet
  rw [tb_and _ _ (and_lo _ _) (and_hi _ _) (by omega) (by omega), tb_and _ _ h0 h1 g0 g1, tb_127 i hi, Bool.and_true]
theorem tb_andNot (a b : Int) (ha : 0 ≤ a) (ha' : a < 256) (hb : 0 ≤ b) (hb' : b < 256) (i : Nat) (hi : i < 7) : tb (bits .andNot .u8 a b) i = (tb a i && !tb b i) := by
  rw [tb_nat _ (andNot_lo a b), tb_nat a ha, tb_nat b hb, u8_andNot a b ha ha' hb hb', Int.toNat_natCast, Nat.testBit_and]
  have e : 255 - b.toNat = 2 ^ 8 - (b.toNat + 1) := by omega
  rw [e, Nat.testBit_two_pow_sub_succ (by omega)]
  have : decide (i < 8) = true := by simp; omega
  rw [this, Bool.true_and]
/-- is a replica in a set? -/
def hasB (s r : Int) : Bool := bits .and .u8 s (bitI r) != 0
theorem has_nat : ∀ n : Fin 256, ∀ k : Fin 7, ((n.val &&& 2 ^ k.val) != 0) = n.val.testBit k.val := by decide +kernel
theorem has_eq (s : Int) (h0 : 0 ≤ s) (h1 : s < 256) (k : Nat) (hk : k < 7) : hasB s (k : Int) = tb s k := by
  have hb : bitI (k : Int) = ((2 ^ k : Nat) : Int) := by unfold bitI; rw [if_pos (by omega), Int.toNat_natCast]; simp
  have hp : 2 ^ k < 2 ^ 7 := Nat.pow_lt_pow_right (by omega) hk
  have e := has_nat ⟨s.toNat, by omega⟩ ⟨k, hk⟩
  simp only at e
  generalize 2 ^ k = p at *
  rw [tb_nat s h0, ← e, hasB, hb, u8_and s _ h0 h1 (by omega) (by omega), Int.toNat_natCast]
  rw [Bool.eq_iff_iff]; simp
theorem has_out (s : Int) (h0 : 0 ≤ s) (h1 : s < 256) (r : Int) (h : r < 0 ∨ 7 ≤ r) : hasB s r = false := by
  unfold hasB; rw [bit_out r h, u8_and s 0 h0 h1 (by omega) (by omega)]; simp
theorem set_ext (a b : Int) (ha : 0 ≤ a) (ha' : a < 128) (hb : 0 ≤ b) (hb' : b < 128) (h : ∀ i, i < 7 → tb a i = tb b i) : a = b := by
  have e : a.toNat = b.toNat := by
    apply Nat.eq_of_testBit_eq
    intro i
    by_cases hi : i < 7
    · rw [← tb_nat a ha, ← tb_nat b hb]; exact h i hi
    · have p : 2 ^ 7 ≤ 2 ^ i := Nat.pow_le_pow_right (by omega) (by omega)
      rw [Nat.testBit_lt_two_pow (by omega), Nat.testBit_lt_two_pow (by omega)]
  omega

/-- two parts of one crew -/
theorem meet_count (n a b : Int) (hn : n = 3 ∨ n = 5 ∨ n = 7) (h0 : 0 ≤ a) (h1 : a < 256) (g0 : 0 ≤ b) (g1 : b < 256) :
    cnt (meet a (allI n)) + cnt (meet b (allI n)) ≤ cnt (meet (meet a (allI n)) (meet b (allI n))) + n := by
  have al := all_lo n
  have ah := all_hi n
  rw [cnt_eq _ (meet_lo _ _) (meet_hi _ _), cnt_eq _ (meet_lo _ _) (meet_hi _ _), cnt_eq _ (meet_lo _ _) (meet_hi _ _)]
  simp only [cntB, tb_meet _ _ (meet_lo _ _) (meet_hi _ _) (meet_lo _ _) (meet_hi _ _) _ (show 0 < 7 by omega), tb_meet _ _ (meet_lo _ _) (meet_hi _ _) (meet_lo _ _) (meet_hi _ _) _ (show 1 < 7 by omega),
    tb_meet _ _ (meet_lo _ _) (meet_hi _ _) (meet_lo _ _) (meet_hi _ _) _ (show 2 < 7 by omega), tb_meet _ _ (meet_lo _ _) (meet_hi _ _) (meet_lo _ _) (meet_hi _ _) _ (show 3 < 7 by omega),
    tb_meet _ _ (meet_lo _ _) (meet_hi _ _) (meet_lo _ _) (meet_hi _ _) _ (show 4 < 7 by omega), tb_meet _ _ (meet_lo _ _) (meet_hi _ _) (meet_lo _ _) (meet_hi _ _) _ (show 5 < 7 by omega),
    tb_meet _ _ (meet_lo _ _) (meet_hi _ _) (meet_lo _ _) (meet_hi _ _) _ (show 6 < 7 by omega)]
  have key : ∀ i, i < 7 → b2n (tb (meet a (allI n)) i) + b2n (tb (meet b (allI n)) i) ≤ b2n (tb (meet a (allI n)) i && tb (meet b (allI n)) i) + (if (i : Int) < n then 1 else 0) := by
    intro i hi
    rw [tb_meet a _ h0 h1 al (by omega) i hi, tb_meet b _ g0 g1 al (by omega) i hi, tb_all n i hi]
    by_cases hin : (i : Int) < n
    · rw [if_pos hin]; cases tb a i <;> cases tb b i <;> simp [hin, b2n]
    · rw [if_neg hin]; simp [hin, b2n]
  have k0 := key 0 (by omega)
  have k1 := key 1 (by omega)
  have k2 := key 2 (by omega)
  have k3 := key 3 (by omega)
  have k4 := key 4 (by omega)
  have k5 := key 5 (by omega)
  have k6 := key 6 (by omega)
  rcases hn with rfl | rfl | rfl <;> simp at k0 k1 k2 k3 k4 k5 k6 <;> omega
theorem meet_same (a b r : Int) (h0 : 0 ≤ a) (h1 : a < 256) (g0 : 0 ≤ b) (g1 : b < 256) (h : hasB a r = false) : meet a (bits .andNot .u8 b (bitI r)) = meet a b := by
  have bl := bit_lo r
  have bh := bit_hi r
  have ml : ∀ x y, meet x y < 128 := fun x y => by
    unfold meet; rw [u8_and _ _ (and_lo _ _) (and_hi _ _) (by omega) (by omega)]
    have := Nat.and_le_right (n := (bits .and .u8 x y).toNat) (m := (127 : Int).toNat)
    have e : (127 : Int).toNat = 127 := rfl
    omega
  refine set_ext _ _ (meet_lo _ _) (ml _ _) (meet_lo _ _) (ml _ _) fun i hi => ?_
  rw [tb_meet a _ h0 h1 (andNot_lo _ _) (andNot_hi _ _) i hi, tb_meet a b h0 h1 g0 g1 i hi, tb_andNot b _ g0 g1 bl (by omega) i hi, tb_bit r i hi]
  by_cases e : r = (i : Int)
  · subst e
    rw [has_eq a h0 h1 i hi] at h
    simp [h]
  · have q : (r == (i : Int)) = false := by simpa using e
    simp [q]
end Go.Proofs.Ytdbhndieommkaaa.CrewW
