/- The walk of the library's DeleteFunc over ints at the method value s.lacks. -/
import Derived.Test.YtdbhndieommkaaaCrewS
namespace Go.Proofs.Ytdbhndieommkaaa.CrewW
open Go.RowKit

theorem idxL_some (s : Int) (xs : List Int) (h : xs.all (fun x => hasB s x) = false) : ∃ k : Nat, k < xs.length ∧ idxL s xs = (k : Int) ∧ (xs.take k).all (fun x => hasB s x) = true ∧ hasB s (xs.getD k 0) = false := by
  have hex : ∃ x ∈ xs, (!hasB s x) = true := by
    obtain ⟨x, hx, hh⟩ := List.all_eq_false.1 h
    exact ⟨x, hx, by simpa using hh⟩
  have hk := List.findIdx_lt_length_of_exists hex
  refine ⟨xs.findIdx (fun x => !hasB s x), hk, by unfold idxL; rw [h]; rfl, ?_, ?_⟩
  · rw [List.all_eq_true]
    intro x hx
    obtain ⟨j, hj, rfl⟩ := List.mem_take_iff_getElem.1 hx
    have := List.not_of_lt_findIdx (p := fun x => !hasB s x) (xs := xs) (i := j) (by omega)
    simpa using this
  · have := List.findIdx_getElem (w := hk)
    rw [List.getD, List.getElem?_eq_getElem hk]
    simpa using this
theorem filter_take_snoc (s : Int) (xs : List Int) (k : Nat) (h : k < xs.length) : (xs.take (k + 1)).filter (fun x => hasB s x) = (xs.take k).filter (fun x => hasB s x) ++ (if hasB s (xs.getD k 0) then [xs.getD k 0] else []) := by
  rw [take_snocD xs k h, List.filter_append]
  congr 1
  simp [List.filter_cons]

/-- what DeleteFunc hands back -/
def DelPost (s : Int) (b : Nat) (xs : List Int) (w : World) (e : Ending) (w' : World) : Prop :=
  ∃ v, e = .returned v ∧ IntsAt w' v (xs.filter fun x => hasB s x) ∧ Exc (fun k => k = b) w w'

/-- the row as it is being written -/
structure DelInv (s : Int) (xs : List Int) (i j : Nat) (c : List Value) : Prop where
  len : i = ((xs.take j).filter fun x => hasB s x).length
  done : ∀ t, t < i → c[t]? = some (.int .i64 (((xs.take j).filter fun x => hasB s x).getD t 0))
  rest : ∀ t, j ≤ t → t < xs.length → c[t]? = some (.int .i64 (xs.getD t 0))
  lt : i < j
  size : xs.length ≤ c.length

theorem DelInv.keep {s : Int} {xs : List Int} {i j : Nat} {c : List Value} (h : DelInv s xs i j c) (hj : j < xs.length) (hx : hasB s (xs.getD j 0) = true) : DelInv s xs (i + 1) (j + 1) (c.set i (.int .i64 (xs.getD j 0))) := by
  have hs := h.size
  have hl := h.lt
  have e : (xs.take (j + 1)).filter (fun x => hasB s x) = (xs.take j).filter (fun x => hasB s x) ++ [xs.getD j 0] := by rw [filter_take_snoc s xs j hj, if_pos hx]
  refine ⟨by rw [e, List.length_append, ← h.len]; rfl, fun t ht => ?_, fun t h1 h2 => ?_, by omega, by simpa using hs⟩
  · rw [e]
    by_cases q : t = i
    · subst q
      rw [List.getElem?_set_self (by omega)]
      simp only [List.getD]
      rw [List.getElem?_append_right (by rw [← h.len]; exact Nat.le_refl _), ← h.len]; simp
    · rw [List.getElem?_set_ne (by omega), h.done t (by omega)]
      simp only [List.getD]
      rw [List.getElem?_append_left (by rw [← h.len]; omega)]
  · rw [List.getElem?_set_ne (by omega)]; exact h.rest t (by omega) h2
theorem DelInv.skip {s : Int} {xs : List Int} {i j : Nat} {c : List Value} (h : DelInv s xs i j c) (hj : j < xs.length) (hx : hasB s (xs.getD j 0) = false) : DelInv s xs i (j + 1) c := by
  have e : (xs.take (j + 1)).filter (fun x => hasB s x) = (xs.take j).filter (fun x => hasB s x) := by rw [filter_take_snoc s xs j hj, hx]; simp
  have hl := h.lt
  exact ⟨by rw [e]; exact h.len, fun t ht => by rw [e]; exact h.done t ht, fun t h1 h2 => h.rest t (by omega) h2, by omega, h.size⟩

theorem delete_any (s : Int) (b n cap : Nat) (xs : List Int) (c : List Value) (w : World) (hn : xs.length = n) (hb : BlockIs w b c 3) (hx : ∀ j, j < n → c[j]? = some (.int .i64 (xs.getD j 0))) (hcap : n ≤ cap) (hm : n ≤ 1000000) :
    Calls Try.prog 46 #[.slice (some ⟨b, 0, none⟩) n cap, .func (.func 47) #[.int .u8 s] #[]] w (DelPost s b xs w) := by
  have hI : IntsAt w (.slice (some ⟨b, 0, none⟩) n cap) xs := ⟨_, cap, by rw [hn], fun j hj => ⟨b, 0, rfl, by rw [Nat.zero_add, hb.cell, hx j (by omega)]⟩⟩
  have hIF := index_any s _ xs w hI (by omega)
  cases hall : xs.all (fun x => hasB s x)
  · obtain ⟨k0, hk0, e0, ha, hk⟩ := idxL_some s xs hall
    rw [e0] at hIF
    have hne1 : ((k0 : Int) == -1) = false := beq_eq_false_iff_ne.2 (by omega)
    have hcs : n ≤ c.length := by
      rcases Nat.lt_or_ge c.length n with q | q
      · have := hx c.length q; simp at this
      · exact q
    have HI : Hid (DelInv s xs k0 (k0 + 1) c) := by
      have e1 : (xs.take k0).filter (fun x => hasB s x) = xs.take k0 := List.filter_eq_self.2 (fun x hx => by simpa using List.all_eq_true.1 ha x hx)
      have e2 : (xs.take (k0 + 1)).filter (fun x => hasB s x) = xs.take k0 := by rw [filter_take_snoc s xs k0 hk0, hk, e1]; simp
      refine ⟨by rw [e2]; simp; omega, fun t ht => ?_, fun t h1 h2 => hx t (by omega), by omega, by omega⟩
      rw [e2, hx t (by omega)]
      simp [List.getD, ht]
    have HB : Hid (BlockIs w b c 3) := hb
    clear hall e0 ha hk hI hb hx
    go_enter Try.func46, Try.ntmps46
    go_wp2_with (go_at_call 64; refine hIF.mono ?_; rintro e w' ⟨rfl, rfl⟩)
    go_loopw [5, 6] (fun s5 s6 wr => ∃ (i j : Nat) (d : List Value), s5 = .int .i64 i ∧ s6 = .int .i64 j ∧ j ≤ n ∧ Hid (DelInv s xs i j d) ∧ Hid (BlockIs wr b d 3) ∧ Hid (Exc (fun k => k = b) w wr)) (fun _ s6 _ => n - (intOf s6).toNat)
    case atStart => exact ⟨k0, k0 + 1, c, rfl, by go_num, by omega, HI, HB, Exc.refl _ _⟩
    case round =>
      obtain ⟨i, j, d, rfl, rfl, hj, hI, hB, hE⟩ := hrel
      by_cases hlt : j < n
      · have cj : wr.cell? ⟨b, j, none⟩ = some (.int .i64 (xs.getD j 0)) := by rw [hB.out.cell]; exact hI.out.rest j (Nat.le_refl _) (by omega)
        have fi := hB.out.free i
        have hij := hI.out.lt
        have ci : ∃ old, wr.cell? ⟨b, i, none⟩ = some old := by
          have hs := hI.out.size
          exact ⟨d[i], by rw [hB.out.cell]; exact List.getElem?_eq_getElem (by omega)⟩
        obtain ⟨old, ci⟩ := ci
        have HK : Hid (hasB s (xs.getD j 0) = true → DelInv s xs (i + 1) (j + 1) (d.set i (.int .i64 (xs.getD j 0)))) := fun h => hI.out.keep (by omega) h
        have HS : Hid (hasB s (xs.getD j 0) = false → DelInv s xs i (j + 1) d) := fun h => hI.out.skip (by omega) h
        generalize xs.getD j 0 = x at *
        clear hIF HI HB
        cases hx : hasB s x
        · go_wp2_with (go_at_call 47; refine (lacks_any _ _ _).mono ?_; rintro e w' ⟨rfl, rfl⟩)
          go_roundw
          case rel => exact ⟨i, j + 1, d, rfl, by go_num, by omega, HS.out hx, hB, hE⟩
          case measure => simp [intOf]; omega
        · go_wp2_with (go_at_call 47; refine (lacks_any _ _ _).mono ?_; rintro e w' ⟨rfl, rfl⟩)
          go_roundw
          case rel => exact ⟨i + 1, j + 1, _, by go_num, by go_num, by omega, HK.out hx, hB.out.set i _, hE.out.setCell (.inl rfl) _⟩
          case measure => simp [intOf]; omega
      · obtain rfl : j = n := by omega
        have hij := hI.out.lt
        have hcl : ∀ ty, (Builtin.clear_ #[22] ty #[.slice (some ⟨b, i, none⟩) (j - i) (cap - i)]).run Try.prog wr = .ok (.tuple #[]) (wr.setCells b i (List.replicate (j - i) (.int .i64 0))) := fun ty => by
          have hs := hI.out.size
          exact Lib.run_clear_slice wr 22 3 ty (.int .i64 0) Try.underlying22 (fun _ => by kernel_rfl) rfl rfl b i _ _ (by omega) (fun t ht => by rw [hB.out.cell, List.getElem?_eq_getElem (by omega)]; rfl) (fun t ht => hB.out.free _)
        go_wp2
        go_ret
        refine ⟨_, rfl, ⟨some ⟨b, 0, none⟩, cap, ?_, ?_⟩, ?_⟩
        · have e := hI.out.len
          rw [List.take_of_length_le (by omega)] at e
          rw [← e]; rfl
        · intro t ht
          have e := hI.out.len
          have dn := hI.out.done t
          rw [List.take_of_length_le (by omega)] at e dn
          exact ⟨b, 0, rfl, by rw [Nat.zero_add, (hB.out.setCells _ _).cell, setL_before _ _ _ _ (by omega)]; exact dn (by omega)⟩
        · exact Exc.setCells (S := fun k => k = b) (.inl rfl) _ _ _ hE.out
  · rw [idxL_none s xs hall] at hIF
    have HI : Hid (IntsAt w (.slice (some ⟨b, 0, none⟩) n cap) (xs.filter fun x => hasB s x)) := by
      have e : xs.filter (fun x => hasB s x) = xs := List.filter_eq_self.2 (fun x hx => by simpa using List.all_eq_true.1 hall x hx)
      rw [e]; exact hI
    clear hI hb hx hall
    go_enter Try.func46, Try.ntmps46
    go_wp2_with (go_at_call 64; refine hIF.mono ?_; rintro e w' ⟨rfl, rfl⟩)
    go_ret
    exact ⟨_, rfl, HI.out, Exc.refl _ _⟩
end Go.Proofs.Ytdbhndieommkaaa.CrewW
