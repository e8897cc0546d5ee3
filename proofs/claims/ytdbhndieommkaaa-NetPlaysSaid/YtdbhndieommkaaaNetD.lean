/- The walk of the library's Delete over frames. -/
import Derived.Test.YtdbhndieommkaaaNetT
import Derived.Test.YtdbhndieommkaaaBase3
namespace Go.Proofs.Ytdbhndieommkaaa.NetW
open Go.RowKit

/-- the cells that move -/
def moved (fs : List Fr) (i : Nat) : List Value := flat (fs.drop (i + 1))
theorem moved_length (fs : List Fr) (i : Nat) : (moved fs i).length = (fs.length - (i + 1)) * 3 := by rw [moved, flat_length]; simp
theorem flat_append (a b : List Fr) : flat (a ++ b) = flat a ++ flat b := by simp [flat]
theorem flat_drop : ∀ (fs : List Fr) (k : Nat), flat (fs.drop k) = (flat fs).drop (k * 3)
  | fs, 0 => by simp
  | [], k + 1 => by simp [flat]
  | f :: r, k + 1 => by
    rw [List.drop_succ_cons, flat_drop r k]
    rw [show flat (f :: r) = f.cells ++ flat r from by simp [flat], show (k + 1) * 3 = 3 + k * 3 by omega, ← List.drop_drop]
    rfl
theorem flat_take : ∀ (fs : List Fr) (k : Nat), flat (fs.take k) = (flat fs).take (k * 3)
  | fs, 0 => by simp [flat]
  | [], k + 1 => by simp [flat]
  | f :: r, k + 1 => by
    rw [List.take_succ_cons, show flat (f :: r.take k) = f.cells ++ flat (r.take k) from by simp [flat], flat_take r k]
    rw [show flat (f :: r) = f.cells ++ flat r from by simp [flat], show (k + 1) * 3 = f.cells.length + k * 3 by simp [Fr.cells]; omega, List.take_length_add_append]
theorem flat_erase (fs : List Fr) (i : Nat) : flat (fs.eraseIdx i) = flat (fs.take i) ++ moved fs i := by
  rw [List.eraseIdx_eq_take_drop_succ, flat_append]; rfl
theorem setL_take (c vs : List Value) (o : Nat) (h : o + vs.length ≤ c.length) : (setL c o vs).take (o + vs.length) = c.take o ++ vs := by
  apply List.ext_getElem?
  intro j
  by_cases hj : j < o + vs.length
  · rw [List.getElem?_take, if_pos hj]
    by_cases q : j < o
    · rw [setL_before _ _ _ _ q, List.getElem?_append_left (by simp; omega), List.getElem?_take, if_pos q]
    · rw [List.getElem?_append_right (by simp; omega), show j = o + (j - o) by omega, setL_in _ _ _ _ h (by omega)]
      congr 1
      simp
      omega
  · rw [List.getElem?_eq_none (by simp; omega), List.getElem?_eq_none (by simp; omega)]

def DeletePost (g n cap i : Nat) (fs : List Fr) (w : World) (e : Ending) (w' : World) : Prop :=
  e = .returned (.slice (some ⟨g, 0, none⟩) (n - 1) cap) ∧ w'.ownsRow 0 41 3 (.slice (some ⟨g, 0, none⟩) (n - 1) cap) (n - 1) (flat (fs.eraseIdx i)) ∧ Exc (fun k => k = g) w w'

set_option maxRecDepth 1000000 in
set_option maxHeartbeats 1000000 in
theorem delete_any (g n cap i : Nat) (fs : List Fr) (w : World) (hn : fs.length = n) (hrow : w.ownsRow 0 41 3 (.slice (some ⟨g, 0, none⟩) n cap) n (flat fs)) (hi : i < n) (hdv : ∀ f ∈ fs, f.dv.oneCell' = true) (hmax : n ≤ 1000000) :
    Calls Try.prog 51 #[.slice (some ⟨g, 0, none⟩) n cap, .int .i64 i, .int .i64 ((i : Int) + 1)] w (DeletePost g n cap i fs w) := by
  obtain ⟨i0, hi0, hz0, hz1, hz2⟩ := info_parts infoFrame
  obtain ⟨c, hB, hcl, hnc, hcm, ht, hfl⟩ := own_block hrow
  have hcn : n * 3 ≤ cap * 3 := Nat.mul_le_mul_right _ hnc
  unfold maxLen at hcm
  have hml : (moved fs i).length = (n - (i + 1)) * 3 := by rw [moved_length, hn]
  have hmg : ∀ j, j < (n - (i + 1)) * 3 → (moved fs i)[j]? = c[(i + 1) * 3 + j]? := fun j hj => by
    rw [moved, flat_drop, List.getElem?_drop, ← ht, List.getElem?_take, if_pos (by omega)]
  obtain ⟨A, hA, hnews⟩ : ∃ A : Addr, (if cap = i + 1 then some (⟨g, 0, none⟩ : Addr) else some ⟨g, (i + 1) * 3, none⟩) = some A ∧ Hid (∀ j u, (moved fs i)[j]? = some u → w.drew.cell? (A.add j) = some u) := by
    by_cases h : cap = i + 1
    · refine ⟨⟨g, 0, none⟩, by simp [h], fun j u hu => ?_⟩
      have h0 : (moved fs i).length = 0 := by rw [hml]; omega
      rw [List.length_eq_zero_iff.1 h0] at hu
      simp at hu
    · refine ⟨⟨g, (i + 1) * 3, none⟩, by simp [h], fun j u hu => ?_⟩
      have hj : j < (n - (i + 1)) * 3 := by
        have := (List.getElem?_eq_some_iff.1 hu).1
        omega
      rw [hmg j hj] at hu
      rw [Addr.add_lit]
      show w.cell? _ = _
      rw [hB.cell]; exact hu
  have s1 : Hid ((moved fs i).length = (n - (i + 1)) * 3) := hml
  have s2 : Hid (∀ u ∈ moved fs i, u.oneCell' = true) := by
    intro u hu
    rw [moved, flat, List.mem_flatMap] at hu
    obtain ⟨f, hf, hu⟩ := hu
    simp only [Fr.cells, List.mem_cons, List.not_mem_nil, or_false] at hu
    rcases hu with rfl | rfl | rfl
    · rfl
    · rfl
    · exact hdv f (List.mem_of_mem_drop hf)
  have s3 : Hid (∀ j, j < (moved fs i).length → (w.drew.cell? ⟨g, 0 + i * 3 + j, none⟩).isSome = true ∧ w.drew.frozen? ⟨g, 0 + i * 3 + j, none⟩ = false) := by
    intro j hj
    refine ⟨?_, hB.free _⟩
    show (w.cell? _).isSome = true
    rw [hB.cell, List.getElem?_eq_getElem (by omega)]; rfl
  have hwr : IntKind.i64.wrap ((i : Int) + 1) = (i : Int) + 1 := by rw [IntKind.wrap_i64]; omega
  have hne : ((i : Int) == (i : Int) + 1) = false := by simp; omega
  have hic : i ≤ cap := by omega
  have hp0 : (0 : Int) ≤ (i : Int) + 1 := by omega
  have hp1 : (i : Int) + 1 ≤ (n : Int) := by omega
  have hp2 : ((i : Int) + 1).toNat = i + 1 := by omega
  have HB : Hid (BlockIs w g c 41) := hB
  have HM : Hid (∀ j, j < (n - (i + 1)) * 3 → (moved fs i)[j]? = c[(i + 1) * 3 + j]?) := hmg
  have HT : Hid (c.take (n * 3) = flat fs) := ht
  have HCL : Hid (c.length = cap * 3) := hcl
  clear hmg hml hB ht hrow hfl hcl hn
  go_enter Try.func51, Try.ntmps51
  go_wp2_with fail
  go_region_law (refine step_append_room rfl (.tmp 22) (.tmp 25) 48 rfl 41 i0 3 Try.underlying48 hi0 hz1 g 0 i cap (by simp [Act.eval, Act.put]) A (n - (i + 1)) (cap - (i + 1)) (moved fs i) (by simp [Act.eval, Act.put]) s1.out hnews.out s2.out (by omega) s3.out ?_)
  have HB2 : Hid (BlockIs (w.drew.setCells g (i * 3) (moved fs i)) g (setL c (i * 3) (moved fs i)) 41) := by
    have h0 : BlockIs w.drew g c 41 := HB.out
    have h1 := h0.setCells (moved fs i) (i * 3)
    exact h1
  have HE2 : Hid (Exc (fun k => k = g) w (w.drew.setCells g (i * 3) (moved fs i))) := Exc.setCells (S := fun k => k = g) (.inl rfl) _ _ _ ((Exc.refl _ w).drew)
  have hsum : i + (n - (i + 1)) = n - 1 := by omega
  have h1 : n - (n - 1) = 1 := by omega
  have hn1 : n - 1 ≤ n := by omega
  have hcn1 : ¬ cap = n - 1 := by omega
  have hn2 : (((n - 1 : Nat) : Int)) ≤ (n : Int) := by omega
  clear hnews s1 s2 s3 hA hwr hp0 hp1 hp2
  generalize World.setCells w.drew _ _ _ = W at *
  have hcl : ∀ ty c', (Builtin.clear_ #[48] ty #[.slice (some ⟨g, (n - 1) * 3, none⟩) 1 c']).run Try.prog W = .ok (.tuple #[]) (W.setCells g ((n - 1) * 3) (Builtin.zeroCells (Value.agg #[.int .i64 0, .int .i64 0, .slice none 0 0]).cells 1).toList) := fun ty c' =>
    run_clear_any W 48 41 ty _ Try.underlying48 (fun _ => by kernel_rfl) (by intro v hv; simp [Builtin.zeroCells, Value.cells] at hv; obtain ⟨j, hj, rfl⟩ := hv; match j, hj with | 0, _ => rfl | 1, _ => rfl | 2, _ => rfl) g ((n - 1) * 3) c'
      (fun j hj => by
        have hj : j < 3 := hj
        have l1 : (setL c (i * 3) (moved fs i)).length = cap * 3 := by rw [setL_length, HCL.out]
        rw [HB2.out.cell, List.getElem?_eq_getElem (by omega)]; rfl)
      (fun j _ => HB2.out.free _)
  go_wp2_with fail
  go_ret
  have hln : (flat fs).length = n * 3 := by rw [← HT.out, List.length_take, HCL.out]; omega
  have hfn : fs.length = n := by rw [flat_length] at hln; omega
  have hml : (moved fs i).length = (n - (i + 1)) * 3 := by rw [moved_length, hfn]
  have l1 : (setL c (i * 3) (moved fs i)).length = cap * 3 := by rw [setL_length, HCL.out]
  have HB3 := HB2.out.setCells (Builtin.zeroCells (Value.agg #[.int .i64 0, .int .i64 0, .slice none 0 0]).cells 1).toList ((n - 1) * 3)
  refine ⟨rfl, ?_, Exc.setCells (S := fun k => k = g) (.inl rfl) _ _ _ HE2.out⟩
  have hown := own_of (size := 3) (n := n - 1) (cap := cap) HB3 (by rw [setL_length]; exact l1) (by omega) (by unfold maxLen; omega)
  have e : (setL (setL c (i * 3) (moved fs i)) ((n - 1) * 3) (Builtin.zeroCells (Value.agg #[.int .i64 0, .int .i64 0, .slice none 0 0]).cells 1).toList).take ((n - 1) * 3) = flat (fs.eraseIdx i) := by
    have e1 : ∀ (c' : List Value) (o : Nat) (vs : List Value), (setL c' o vs).take o = c'.take o := fun c' o vs => by
      apply List.ext_getElem?
      intro j
      rw [List.getElem?_take, List.getElem?_take]
      split
      · rename_i hj; exact setL_before _ _ _ _ hj
      · rfl
    rw [e1, show (n - 1) * 3 = i * 3 + (moved fs i).length by rw [hml]; omega, setL_take _ _ _ (by rw [HCL.out, hml]; omega), flat_erase]
    congr 1
    rw [flat_take, ← HT.out, List.take_take]
    congr 1
    omega
  rw [e] at hown
  exact hown
end Go.Proofs.Ytdbhndieommkaaa.NetW
