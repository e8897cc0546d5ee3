/- Plain facts on sets of replicas as bytes. -/
import Derived.WalkKit
import Derived.Laws.BitsAllLaws
import Derived.Lib.BitFns
namespace Go.Proofs.Ytdbhndieommkaaa.CrewW
open Go.RowKit

/-- a replica's bit -/
def bitI (r : Int) : Int := if 0 ≤ r ∧ r < 7 then 2 ^ r.toNat else 0
theorem bit_out (r : Int) (h : r < 0 ∨ 7 ≤ r) : bitI r = 0 := by unfold bitI; rw [if_neg (by omega)]
theorem bit_cases (r : Int) : ((r < 0 ∨ 7 ≤ r) ∧ bitI r = 0) ∨ (r = 0 ∧ bitI r = 1) ∨ (r = 1 ∧ bitI r = 2) ∨ (r = 2 ∧ bitI r = 4) ∨ (r = 3 ∧ bitI r = 8) ∨ (r = 4 ∧ bitI r = 16) ∨ (r = 5 ∧ bitI r = 32) ∨ (r = 6 ∧ bitI r = 64) := by
  have hr : (r < 0 ∨ 7 ≤ r) ∨ r = 0 ∨ r = 1 ∨ r = 2 ∨ r = 3 ∨ r = 4 ∨ r = 5 ∨ r = 6 := by omega
  rcases hr with h | rfl | rfl | rfl | rfl | rfl | rfl | rfl
  · exact .inl ⟨h, bit_out r h⟩
  all_goals simp [bitI]
theorem bit_lo (r : Int) : 0 ≤ bitI r := by have := bit_cases r; omega
theorem bit_hi (r : Int) : bitI r < 128 := by have := bit_cases r; omega

/-- is bit i set? -/
def tb (s : Int) (i : Nat) : Bool := s / 2 ^ i % 2 == 1
theorem tb_nat (s : Int) (h : 0 ≤ s) (i : Nat) : tb s i = s.toNat.testBit i := by
  obtain ⟨n, rfl⟩ := Int.eq_ofNat_of_zero_le h
  rw [Int.toNat_natCast, Nat.testBit_eq_decide_div_mod_eq, tb]
  have e : ((n : Int) / 2 ^ i % 2) = ((n / 2 ^ i % 2 : Nat) : Int) := by simp
  rw [e, Bool.eq_iff_iff]
  simp
  omega

theorem or_lo (a b : Int) : 0 ≤ bits .or .u8 a b := by unfold bits; exact wrap_u8_nonneg _
theorem and_lo (a b : Int) : 0 ≤ bits .and .u8 a b := by unfold bits; exact wrap_u8_nonneg _
theorem andNot_lo (a b : Int) : 0 ≤ bits .andNot .u8 a b := by unfold bits; exact wrap_u8_nonneg _
theorem or_hi (a b : Int) : bits .or .u8 a b < 256 := by unfold bits; simp [IntKind.wrap, IntKind.bits, IntKind.signed]; omega
theorem and_hi (a b : Int) : bits .and .u8 a b < 256 := by unfold bits; simp [IntKind.wrap, IntKind.bits, IntKind.signed]; omega
theorem andNot_hi (a b : Int) : bits .andNot .u8 a b < 256 := by unfold bits; simp [IntKind.wrap, IntKind.bits, IntKind.signed]; omega
theorem tb_or (a b : Int) (ha : 0 ≤ a) (ha' : a < 256) (hb : 0 ≤ b) (hb' : b < 256) (i : Nat) : tb (bits .or .u8 a b) i = (tb a i || tb b i) := by
  rw [tb_nat _ (or_lo a b), tb_nat a ha, tb_nat b hb, u8_or a b ha ha' hb hb', Int.toNat_natCast, Nat.testBit_or]
theorem tb_and (a b : Int) (ha : 0 ≤ a) (ha' : a < 256) (hb : 0 ≤ b) (hb' : b < 256) (i : Nat) : tb (bits .and .u8 a b) i = (tb a i && tb b i) := by
  rw [tb_nat _ (and_lo a b), tb_nat a ha, tb_nat b hb, u8_and a b ha ha' hb hb', Int.toNat_natCast, Nat.testBit_and]
theorem tb_bit (r : Int) (i : Nat) (hi : i < 7) : tb (bitI r) i = (r == (i : Int)) := by
  have hi' : i = 0 ∨ i = 1 ∨ i = 2 ∨ i = 3 ∨ i = 4 ∨ i = 5 ∨ i = 6 := by omega
  rcases bit_cases r with ⟨h, e⟩ | ⟨rfl, e⟩ | ⟨rfl, e⟩ | ⟨rfl, e⟩ | ⟨rfl, e⟩ | ⟨rfl, e⟩ | ⟨rfl, e⟩ | ⟨rfl, e⟩ <;> rw [e]
  · have : (r == (i : Int)) = false := by simp; omega
    rw [this]; rcases hi' with rfl | rfl | rfl | rfl | rfl | rfl | rfl <;> rfl
  all_goals rcases hi' with rfl | rfl | rfl | rfl | rfl | rfl | rfl <;> rfl

/-- the set of a list -/
def orL (l : List Int) : Int := l.foldl (fun s r => bits .or .u8 s (bitI r)) 0
theorem orL_bd (l : List Int) : 0 ≤ orL l ∧ orL l < 256 := by
  rcases List.eq_nil_or_concat l with rfl | ⟨l, x, rfl⟩
  · simp [orL]
  · simp only [orL, List.concat_eq_append, List.foldl_append, List.foldl_cons, List.foldl_nil]
    exact ⟨or_lo _ _, or_hi _ _⟩
theorem orL_snoc (l : List Int) (x : Int) : orL (l ++ [x]) = bits .or .u8 (orL l) (bitI x) := by simp [orL]
theorem tb_orL (i : Nat) (hi : i < 7) : ∀ l : List Int, tb (orL l) i = l.any (fun r => r == (i : Int)) := by
  intro l
  generalize hn : l.length = n
  induction n generalizing l with
  | zero => have : l = [] := List.eq_nil_of_length_eq_zero hn; subst this; simp [orL, tb]
  | succ n ih =>
    rcases List.eq_nil_or_concat l with rfl | ⟨l, x, rfl⟩
    · simp at hn
    · rw [List.concat_eq_append] at hn ⊢
      have hb := orL_bd l
      have := bit_lo x
      have := bit_hi x
      rw [orL_snoc, tb_or _ _ hb.1 hb.2 (by omega) (by omega), tb_bit x i hi, ih l (by simpa using hn)]
      simp

/-- all of the first -/
def allI (n : Int) : Int := if n ≤ 0 then 0 else if n ≤ 7 then 2 ^ n.toNat - 1 else 127
theorem all_cases (n : Int) : (n < 0 ∧ allI n = 0) ∨ (n = 0 ∧ allI n = 0) ∨ (n = 1 ∧ allI n = 1) ∨ (n = 2 ∧ allI n = 3) ∨ (n = 3 ∧ allI n = 7) ∨ (n = 4 ∧ allI n = 15) ∨ (n = 5 ∧ allI n = 31) ∨ (n = 6 ∧ allI n = 63) ∨ (n = 7 ∧ allI n = 127) ∨ (7 < n ∧ allI n = 127) := by
  have h : n < 0 ∨ n = 0 ∨ n = 1 ∨ n = 2 ∨ n = 3 ∨ n = 4 ∨ n = 5 ∨ n = 6 ∨ n = 7 ∨ 7 < n := by omega
  rcases h with h | rfl | rfl | rfl | rfl | rfl | rfl | rfl | rfl | h
  · exact .inl ⟨h, by unfold allI; rw [if_pos (by omega)]⟩
  · simp [allI]
  · simp [allI]
  · simp [allI]
  · simp [allI]
  · simp [allI]
  · simp [allI]
  · simp [allI]
  · simp [allI]
  · have : allI n = 127 := by unfold allI; rw [if_neg (by omega), if_neg (by omega)]
    omega
theorem all_lo (n : Int) : 0 ≤ allI n := by have := all_cases n; omega
theorem all_hi (n : Int) : allI n < 128 := by have := all_cases n; omega
theorem tb_all (n : Int) (i : Nat) (hi : i < 7) : tb (allI n) i = decide ((i : Int) < n) := by
  have hi' : i = 0 ∨ i = 1 ∨ i = 2 ∨ i = 3 ∨ i = 4 ∨ i = 5 ∨ i = 6 := by omega
  rcases all_cases n with ⟨h, e⟩ | ⟨rfl, e⟩ | ⟨rfl, e⟩ | ⟨rfl, e⟩ | ⟨rfl, e⟩ | ⟨rfl, e⟩ | ⟨rfl, e⟩ | ⟨rfl, e⟩ | ⟨rfl, e⟩ | ⟨h, e⟩ <;> rw [e]
  · have : decide ((i : Int) < n) = false := by simp; omega
    rw [this]; rcases hi' with rfl | rfl | rfl | rfl | rfl | rfl | rfl <;> rfl
  all_goals first
    | (rcases hi' with rfl | rfl | rfl | rfl | rfl | rfl | rfl <;> rfl)
    | (have : decide ((i : Int) < n) = true := by simp; omega
       rw [this]; rcases hi' with rfl | rfl | rfl | rfl | rfl | rfl | rfl <;> rfl)
end Go.Proofs.Ytdbhndieommkaaa.CrewW
