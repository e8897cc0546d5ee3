/- TabSo, joined. -/
import Derived.Test.YtpebabaigakagaaGreatDoorP41
import Derived.Test.YtpebabaigakagaaGreatDoorP37
import Derived.Deep.Slices
import Derived.DataReads
import Derived.OpenShut
import Derived.Lib.SmallJoins
set_option linter.unusedSimpArgs false
set_option linter.unusedVariables false
set_option maxRecDepth 100000
set_option maxHeartbeats 16000000
section
namespace Go.Proofs.YtpebabaigakagaaGreatDoor.Tab
open Go.RowKit Go.Joins Go.ChangeShapes Go.WideShapes
open Cmd (Cm)
section
variable {H : Type} {enc : TypeId × Value → H} {W : World} {base : Nat} {spare : Nat → Bool} {held : Bool} {fuel : Nat}
theorem open_intsZ {v : Value} {y : DataW H × List MemPlace} (hsp : ∀ b, spare b = true) (h : DataW.trod enc Tryz.prog W base spare held fuel 57 [v] = some y) : ∃ l : List Int, l.length ≤ maxLen ∧ ReadsZ (Part.old W) v l := by
 rcases Go.Deep.open_slice1 Tryz.underlying57 (by kernel_rfl) h with ⟨hcs, _⟩ | ⟨a, len, cap, m, n, V, D, Pl, hcs, _, hl, hm, hmm, _, hel⟩
 · simp at hcs
   subst hcs
   exact ⟨[], by simp [maxLen], reads_nil zC W⟩
 · simp at hcs
   subst hcs
   have hall : ∀ i, i < len → ∃ b : Int, W.cell? (a.add i) = some (.int .i64 b) := fun i hi => by
    obtain ⟨h1, h2⟩ := hel i (by rw [hmm, hsp, if_pos rfl]; omega)
    obtain ⟨b, e, _⟩ := DataW.trod_int Tryz.underlying3 h2
    simp at e
    exact ⟨b, by rw [h1, e]⟩
   obtain ⟨f, hf⟩ := @Go.Deep.choose_lt Int ⟨0⟩ len _ hall
   have hlen : ((List.range len).map f).length = len := by simp
   rcases Nat.eq_zero_or_pos len with rfl | hpos
   · refine ⟨[], by simp [maxLen], fun w hw => ⟨_, cap, rfl, (fun _ => rfl), fun j u hj => by simp at hj⟩⟩
   · have hz := hf 0 hpos
     obtain ⟨b, off, sp⟩ := a
     have hsn : sp = none := by
      have := congrArg Addr.spot (spot_none hz)
      simpa [Addr.add] using this
     subst hsn
     refine ⟨(List.range len).map f, by rw [hlen]; omega, ?_⟩
     have hr := reads_old (enc := zC) (size := 1) (fun _ => rfl) (by omega) (W := W) (b := b) (off := off) (cap := cap) (l := (List.range len).map f) fun j x hx t u hu => by
      have hj := (List.getElem?_eq_some_iff.1 hx).1
      rw [hlen] at hj
      rw [List.getElem?_map, List.getElem?_range hj] at hx
      cases hx
      have ht : t < 1 := (List.getElem?_eq_some_iff.1 hu).1
      obtain rfl : t = 0 := by omega
      cases hu
      have h6 := hf j hj
      rw [Addr.add_lit] at h6
      rw [Nat.mul_one]
      exact h6
     rw [hlen] at hr
     intro w hw
     rw [hlen]
     exact hr w hw
end
end Go.Proofs.YtpebabaigakagaaGreatDoor.Tab
end
