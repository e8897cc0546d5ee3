/- Plain facts on a bit that is turned. -/
import Derived.WalkKit
import Derived.Laws.BitsAllLaws
namespace Go.Proofs.Ytdbhndieommkaaa.NetW
open Go.RowKit
/-- a byte with a bit turned, as the program does it -/
def turnI (x bit : Int) : Int := bits .xor .u8 x (2 ^ min (IntKind.u64.wrap (bits .and .i64 bit 7)).toNat 8 % 256)
/-- as the document does it -/
def turnR (x : Int) (m : Nat) : Int := if x / 2 ^ m % 2 = 1 then x - 2 ^ m else x + 2 ^ m
theorem and7 (bit : Int) (h0 : 0 ≤ bit) (h1 : bit ≤ 9223372036854775807) : bits .and .i64 bit 7 = bit % 8 := by
  obtain ⟨n, rfl⟩ := Int.eq_ofNat_of_zero_le h0
  have e : (BitVec.ofInt 64 (n : Int) &&& BitVec.ofInt 64 7).toNat = n % 8 := by
    rw [BitVec.toNat_and]
    have e1 : (BitVec.ofInt 64 (n : Int)).toNat = n := by rw [BitVec.ofInt_natCast, BitVec.toNat_ofNat, Nat.mod_eq_of_lt (by omega)]
    rw [e1]
    exact Nat.and_two_pow_sub_one_eq_mod n 3
  show IntKind.i64.wrap ((BitVec.ofInt 64 (n : Int) &&& BitVec.ofInt 64 7).toNat : Int) = _
  rw [e, IntKind.wrap_i64]
  omega
theorem xor_tab : ∀ x : Fin 256, ∀ m : Fin 8, x.val ^^^ 2 ^ m.val = if x.val / 2 ^ m.val % 2 = 1 then x.val - 2 ^ m.val else x.val + 2 ^ m.val := by decide +kernel
theorem pow_le : ∀ m : Fin 8, 2 ^ m.val < 256 := by decide
theorem pow_le_x : ∀ x : Fin 256, ∀ m : Fin 8, x.val / 2 ^ m.val % 2 = 1 → 2 ^ m.val ≤ x.val := by decide +kernel
theorem turn_eq (x bit : Int) (hx : 0 ≤ x) (hx' : x < 256) (h0 : 0 ≤ bit) (h1 : bit ≤ 9223372036854775807) : turnI x bit = turnR x (bit % 8).toNat := by
  have hm : (bit % 8).toNat < 8 := by omega
  unfold turnI
  rw [and7 bit h0 h1]
  have e1 : IntKind.u64.wrap (bit % 8) = bit % 8 := by rw [IntKind.wrap_u64]; omega
  rw [e1, Nat.min_eq_left (by omega)]
  generalize (bit % 8).toNat = m at *
  obtain ⟨n, rfl⟩ := Int.eq_ofNat_of_zero_le hx
  have hp := pow_le ⟨m, hm⟩
  have hxm := xor_tab ⟨n, by omega⟩ ⟨m, hm⟩
  have hle := pow_le_x ⟨n, by omega⟩ ⟨m, hm⟩
  simp only at hp hxm hle
  obtain ⟨P, hP⟩ : ∃ P : Nat, P = 2 ^ m := ⟨_, rfl⟩
  have e3 : ((2 : Int) ^ m) = (P : Int) := by rw [hP]; simp
  rw [← hP] at hp hxm hle
  unfold turnR
  rw [e3]
  have e2 : ((P : Int) % 256) = (P : Int) := by omega
  rw [e2, u8_xor (n : Int) _ (by omega) hx' (by omega) (by omega), Int.toNat_natCast, Int.toNat_natCast, hxm]
  have e4 : ((n : Int) / (P : Int) % 2 = 1) ↔ (n / P % 2 = 1) := by
    have : ((n : Int) / (P : Int) % 2) = ((n / P % 2 : Nat) : Int) := by simp
    rw [this]; omega
  by_cases q : n / P % 2 = 1
  · rw [if_pos q, if_pos (e4.2 q)]
    have := hle q
    omega
  · rw [if_neg q, if_neg (fun h => q (e4.1 h))]
    omega
def turned (xs : List Int) (bit : Int) : List Int := if 0 ≤ bit ∧ bit / 8 < (xs.length : Int) then xs.set (bit / 8).toNat (turnI (xs.getD (bit / 8).toNat 0) bit) else xs
theorem turned_length (xs : List Int) (bit : Int) : (turned xs bit).length = xs.length := by unfold turned; split <;> simp
theorem turnI_bd (x bit : Int) : 0 ≤ turnI x bit ∧ turnI x bit ≤ 255 := by
  unfold turnI bits
  simp only [IntKind.wrap, IntKind.bits, IntKind.signed]
  simp
  omega
theorem turned_bd {xs : List Int} (h : ∀ x ∈ xs, 0 ≤ x ∧ x ≤ 255) (bit : Int) : ∀ x ∈ turned xs bit, 0 ≤ x ∧ x ≤ 255 := by
  unfold turned
  split
  · intro x hx
    rcases List.mem_or_eq_of_mem_set hx with h1 | h1
    · exact h x h1
    · rw [h1]; exact turnI_bd _ _
  · exact h
end Go.Proofs.Ytdbhndieommkaaa.NetW
