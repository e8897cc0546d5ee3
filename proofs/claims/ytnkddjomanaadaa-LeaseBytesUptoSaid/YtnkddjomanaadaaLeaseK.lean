/- The keys of the maps of a book. -/
import Derived.Test.YtnkddjomanaadaaLeaseM
namespace Go.Proofs.Ytnkddjomanaadaa.Lease
open Go.RowKit
open Go.Maps (Keyed)
set_option linter.unusedVariables false
set_option linter.unusedSimpArgs false
theorem laidOut : laidOutB Try.prog = true := by kernel_rfl
theorem wideS : (match Try.prog.underlying 31 with | some (.array _ _) | some (.struct _) => true | _ => false) = true := by kernel_rfl
theorem rowS : (31 : TypeId) < Try.prog.types.size := of_decide_eq_true (by kernel_rfl)
set_option maxRecDepth 100000 in
theorem lawS : Keyed Try.prog 31 := Keyed.of_law (deep_law_laid laidOut (m := 2) (by omega) rowS (by kernel_rfl) wideS)
theorem lawU : Keyed Try.prog 29 := Go.Maps.int_keyed Try.underlying29
theorem keyTypeS : Try.prog.keyType 31 = true := by kernel_rfl
theorem cellsS : Try.prog.cellsOf 31 = 2 := by kernel_rfl
theorem cellsU : Try.prog.cellsOf 29 = 1 := by kernel_rfl
theorem cellsStr : Try.prog.cellsOf 9 = 1 := by kernel_rfl
theorem formedS (c0 c1 : Value) : (Value.agg #[c0, c1]).formed Try.prog 31 = true := by simp [Value.formed, Try.underlying31, cellsS]
def big64 : Int := 18446744073709551616
theorem keyS {n : Int} {f : ByteArray} (h0 : 0 ≤ n) (h1 : n < big64) (hf : f.size ≤ maxLen) : ∃ l, keyOf Try.prog 31 (keyV n f) = some l := by
  have hw : (Lit.int .u64 n).wf = true := by simp [Lit.wf, IntKind.min, IntKind.max, IntKind.signed, IntKind.bits]; unfold big64 at h1; omega
  obtain ⟨d, hd⟩ : ∃ d, Try.prog.types.size = d + 1 := Nat.exists_eq_succ_of_ne_zero (Nat.ne_of_gt (Nat.lt_of_le_of_lt (Nat.zero_le _) rowS))
  have hl : Try.prog.keyLits (Try.prog.types.size + 1) 31 [.int .u64 n, .string f] = some [.int .u64 n, .string f.data.toList] := by
    rw [hd]
    simp [Program.keyLits, Try.underlying31, Try.underlying29, Try.underlying9, cellsS, cellsU, cellsStr, hw, hf]
  exact ⟨.string (keyBytes [.int .u64 n, .string f.data.toList]), by
    unfold keyOf
    rw [Try.underlying31]
    simp only [keyTypeS, keyV, formedS, Bool.and_self, if_true]
    rw [show (Value.agg #[.int .u64 n, .string f]).cells.toList = [.int .u64 n, .string f] from rfl, hl]
    rfl⟩
theorem keyU {n : Int} (h0 : 0 ≤ n) (h1 : n < big64) : ∃ l, keyOf Try.prog 29 (.int .u64 n) = some l :=
  ⟨_, Go.Maps.keyOf_int_mk Try.underlying29 (by simp [Lit.wf, IntKind.min, IntKind.max, IntKind.signed, IntKind.bits]; unfold big64 at h1; omega)⟩
end Go.Proofs.Ytnkddjomanaadaa.Lease
