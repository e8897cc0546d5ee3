/- The walk of the law CrewSets where the replica is none of the seven; and the law for every input. -/
import Derived.Test.YtdbhndieommkaaaCrewSe
namespace Go.Proofs.Ytdbhndieommkaaa.CrewW
open Go.RowKit

set_option maxHeartbeats 2000000 in
set_option maxRecDepth 100000 in
theorem sets_out (s o r : Int) (w : World) (h0 : 0 ≤ s) (h1 : s < 256) (g0 : 0 ≤ o) (g1 : o < 256) (hk : r < 0 ∨ 7 ≤ r) :
    Calls Try.prog 5 #[.int .u8 s, .int .u8 o, .int .i64 r] w fun e w' => e = .returned (.bool true) ∧ Below w.heap.size w w' := by
  have HH : Hid (hasB s r = false) := has_out s h0 h1 r hk
  have HO : Hid (bits .or .u8 s (bitI r) = s) := by rw [Hid, bit_out r hk]; exact or_zero s h0 h1
  have HD : Hid (bits .andNot .u8 s (bitI r) = s) := by rw [Hid, bit_out r hk]; exact andNot_zero s h0 h1
  have HN : Hid (cnt s = (cntB s : Int)) := cnt_eq s h0 h1
  rcases hk with hk | hk
  all_goals
    go_enter Try.func5, Try.ntmps5
    go_wp2_with fail
    refine (anchor_any _).mono ?_
    rintro e w1 ⟨rfl, e1⟩
    go_wp2_with fail
    refine (ref_of _ h0 h1 _).mono ?_
    rintro e w2 ⟨rfl, e2⟩
    simp only [seven]
    go_wp2_with fail
    refine (ref_of _ g0 g1 _).mono ?_
    rintro e w3 ⟨rfl, e3⟩
    simp only [seven]
    go_wp2_with fail
    have HX : Hid (∀ j, j < 7 → ((w3.alloc (.cells #[.bool (tb s 0), .bool (tb s 1), .bool (tb s 2), .bool (tb s 3), .bool (tb s 4), .bool (tb s 5), .bool (tb s 6)] 25)).alloc (.cells #[.bool (tb o 0), .bool (tb o 1), .bool (tb o 2), .bool (tb o 3), .bool (tb o 4), .bool (tb o 5), .bool (tb o 6)] 25)).cell? ⟨w3.heap.size, j, none⟩ = some (.bool (tb s j))) := fun j hj => ((Ext.refl _).alloc _).cell_of (cell_seven _ _ j hj)
    have HY : Hid (∀ j, j < 7 → ((w3.alloc (.cells #[.bool (tb s 0), .bool (tb s 1), .bool (tb s 2), .bool (tb s 3), .bool (tb s 4), .bool (tb s 5), .bool (tb s 6)] 25)).alloc (.cells #[.bool (tb o 0), .bool (tb o 1), .bool (tb o 2), .bool (tb o 3), .bool (tb o 4), .bool (tb o 5), .bool (tb o 6)] 25)).cell? ⟨w3.heap.size + 1, j, none⟩ = some (.bool (tb o j))) := fun j hj => by
      have := cell_seven (w3.alloc (.cells #[.bool (tb s 0), .bool (tb s 1), .bool (tb s 2), .bool (tb s 3), .bool (tb s 4), .bool (tb s 5), .bool (tb s 6)] 25)) o j hj
      simpa using this
    have HXB : Hid (BlockIs ((w3.alloc (.cells #[.bool (tb s 0), .bool (tb s 1), .bool (tb s 2), .bool (tb s 3), .bool (tb s 4), .bool (tb s 5), .bool (tb s 6)] 25)).alloc (.cells #[.bool (tb o 0), .bool (tb o 1), .bool (tb o 2), .bool (tb o 3), .bool (tb o 4), .bool (tb o 5), .bool (tb o 6)] 25)) w3.heap.size (bothL s o 0) 25) := (BlockIs.alloc w3 (bothL s o 0) _).ext ((Ext.refl _).alloc _)
    have HE : Hid (Ext w ((w3.alloc (.cells #[.bool (tb s 0), .bool (tb s 1), .bool (tb s 2), .bool (tb s 3), .bool (tb s 4), .bool (tb s 5), .bool (tb s 6)] 25)).alloc (.cells #[.bool (tb o 0), .bool (tb o 1), .bool (tb o 2), .bool (tb o 3), .bool (tb o 4), .bool (tb o 5), .bool (tb o 6)] 25))) := ((((e1.trans e2).trans e3).alloc _).alloc _)
    have hwB : w.heap.size ≤ w3.heap.size := ((e1.trans e2).trans e3).size
    clear e1 e2 e3
    generalize World.alloc (World.alloc w3 _) _ = W at *
    generalize w3.heap.size = B at *
    have x0 := HX.out 0 (by omega)
    have x1 := HX.out 1 (by omega)
    have x2 := HX.out 2 (by omega)
    have x3 := HX.out 3 (by omega)
    have x4 := HX.out 4 (by omega)
    have x5 := HX.out 5 (by omega)
    have x6 := HX.out 6 (by omega)
    have HS : Hid (Ext W W.drew) := (Ext.refl W).drew
    go_region_held3 (fun w' => (w'.cell? ⟨B, 0, none⟩ = some (.bool (tb s 0)) ∧ w'.cell? ⟨B, 1, none⟩ = some (.bool (tb s 1)) ∧ w'.cell? ⟨B, 2, none⟩ = some (.bool (tb s 2)) ∧ w'.cell? ⟨B, 3, none⟩ = some (.bool (tb s 3)) ∧ w'.cell? ⟨B, 4, none⟩ = some (.bool (tb s 4)) ∧ w'.cell? ⟨B, 5, none⟩ = some (.bool (tb s 5)) ∧ w'.cell? ⟨B, 6, none⟩ = some (.bool (tb s 6))) ∧ Hid (Ext W w'))
      (first | exact ⟨⟨x0, x1, x2, x3, x4, x5, x6⟩, HS⟩ | exact ⟨⟨hE'.cell_of x0, hE'.cell_of x1, hE'.cell_of x2, hE'.cell_of x3, hE'.cell_of x4, hE'.cell_of x5, hE'.cell_of x6⟩, HS.out.trans hE'⟩)
      (first
        | (go_at_call 19; refine (has_any _ _ _).mono ?_; rintro e w' ⟨rfl, rfl⟩; rw [HH.out])
        | (go_at_call 18; refine (count_any _ _).mono ?_; rintro e w' ⟨rfl, rfl⟩; rw [HN.out])
        | (go_at_call 21; refine (refCount_any s _).mono ?_; rintro e w' ⟨rfl, hE'⟩))
    go_wp2_with fail
    refine (list_any s _).mono ?_
    rintro e w4 ⟨l, rfl, hl, e4⟩
    obtain ⟨la, lcap, rfl, hlc⟩ := hl
    have HX4 : Hid (∀ j, j < 7 → w4.cell? ⟨B, j, none⟩ = some (.bool (tb s j))) := fun j hj => (((HS.out.trans hE').trans e4)).cell_of (HX.out j hj)
    have HY4 : Hid (∀ j, j < 7 → w4.cell? ⟨B + 1, j, none⟩ = some (.bool (tb o j))) := fun j hj => (((HS.out.trans hE').trans e4)).cell_of (HY.out j hj)
    have HXB4 : Hid (BlockIs w4 B (bothL s o 0) 25) := HXB.out.ext ((HS.out.trans hE').trans e4)
    have HE4 : Hid (Ext w w4) := HE.out.trans ((HS.out.trans hE').trans e4)
    have HL4 : Hid (∀ j, j < (listOf s).length → ∃ b off, la = some ⟨b, off, none⟩ ∧ w4.cell? ⟨b, off + j, none⟩ = some (.int .i64 ((listOf s).getD j 0))) := hlc
    have HLN : Hid ((listOf s).length = cntTo s 7) := listOf_len s h0 h1
    have hB4 : B + 1 < w4.heap.size := cell_lt (HY4.out 0 (by omega))
    clear hlc e4 hE' HX HXB HY HE x0 x1 x2 x3 x4 x5 x6 HS
    have x0 := HX4.out 0 (by omega)
    have x1 := HX4.out 1 (by omega)
    have x2 := HX4.out 2 (by omega)
    have x3 := HX4.out 3 (by omega)
    have x4 := HX4.out 4 (by omega)
    have x5 := HX4.out 5 (by omega)
    have x6 := HX4.out 6 (by omega)
    rw [HLN.out]
    have HZ : Hid (BlockIs (w4.alloc (.cells #[.bool (tb s 0), .bool (tb s 1), .bool (tb s 2), .bool (tb s 3), .bool (tb s 4), .bool (tb s 5), .bool (tb s 6)] 25)) w4.heap.size (bothL s o 0) 25) := BlockIs.alloc w4 (bothL s o 0) _
    have HEZ : Hid (Ext w4 (w4.alloc (.cells #[.bool (tb s 0), .bool (tb s 1), .bool (tb s 2), .bool (tb s 3), .bool (tb s 4), .bool (tb s 5), .bool (tb s 6)] 25))) := (Ext.refl _).alloc _
    go_wp2_with fail
    clear x0 x1 x2 x3 x4 x5 x6
    generalize World.alloc w4 _ = V at *
    generalize hZ : w4.heap.size = Z at *
    go_loopw [11, 50] (fun c i wr => ∃ k : Nat, k ≤ 7 ∧ i = .int .i64 k ∧ c = .int .i64 (cntTo s k : Int) ∧ Hid (BlockIs wr Z (bothL s o k) 25) ∧ Hid (Ext w4 wr)) (fun _ i _ => 7 - (intOf i).toNat)
    case atStart => exact ⟨0, by omega, rfl, rfl, HZ, HEZ⟩
    case round =>
      obtain ⟨i, hi, rfl, rfl, hZi, hEi⟩ := hrel
      by_cases hlt : i < 7
      · have xi : wr.cell? ⟨B, i, none⟩ = some (.bool (tb s i)) := hEi.out.cell_of (HX4.out i hlt)
        have yi : wr.cell? ⟨B + 1, i, none⟩ = some (.bool (tb o i)) := hEi.out.cell_of (HY4.out i hlt)
        have zi : ∃ v, wr.cell? ⟨Z, i, none⟩ = some v := ⟨_, by rw [hZi.out.cell]; exact bothL_at s o i i hlt⟩
        obtain ⟨zv, zi⟩ := zi
        have zf := hZi.out.free i
        have HZS : Hid ((bothL s o i).set i (.bool (tb s i && tb o i)) = bothL s o (i + 1)) := bothL_set s o i hlt
        have HCS : Hid (cntTo s (i + 1) = cntTo s i + b2n (tb s i)) := cntTo_succ s i
        have hcle := cntTo_le s i
        have hne : Z ≠ B ∧ Z ≠ B + 1 := by omega
        obtain ⟨hneB, hneB1⟩ := hne
        have xi' : (wr.setCell ⟨Z, i, none⟩ (.bool (tb s i && tb o i))).cell? ⟨B, i, none⟩ = some (.bool (tb s i)) := by
          rw [← xi]; exact World.cell?_of_block (Below.heap_setCell _ _ _ _ (fun h => hneB h.symm))
        have hE1 : Hid (Ext w4 (wr.setCell ⟨Z, i, none⟩ (.bool (tb s i && tb o i)))) := hEi.out.setCell (Nat.le_of_eq hZ) _
        have hZ1 : Hid (BlockIs (wr.setCell ⟨Z, i, none⟩ (.bool (tb s i && tb o i))) Z (bothL s o (i + 1)) 25) := by rw [Hid, ← HZS.out]; exact hZi.out.set i _
        cases hts : tb s i
        · rw [hts] at xi xi' HCS hE1 hZ1
          simp only [Bool.false_and] at xi' hE1 hZ1
          go_wp2_with fail
          go_roundw
          case rel => exact ⟨i + 1, by omega, by go_num, by rw [HCS.out]; rfl, hZ1, hE1⟩
          case measure => simp [intOf]; omega
        · rw [hts] at xi xi' HCS hE1 hZ1
          simp only [Bool.true_and] at xi' hE1 hZ1
          have hat := listOf_at s h0 h1 i hlt hts
          have hcl : cntTo s i < cntTo s 7 := by rw [← HLN.out]; exact (List.getElem?_eq_some_iff.1 hat).1
          obtain ⟨lb, lo, rfl, hlc⟩ := HL4.out (cntTo s i) (by rw [HLN.out]; exact hcl)
          have hlv : (wr.setCell ⟨Z, i, none⟩ (.bool (tb o i))).cell? ⟨lb, lo + cntTo s i, none⟩ = some (.int .i64 i) := by
            have := hE1.out.cell_of hlc
            rw [this]; simp [List.getD, hat]
          clear hat hlc
          generalize cntTo s i = c at *
          generalize cntTo s 7 = n at *
          generalize tb o i = toi at *
          go_wp2_with fail
          go_roundw
          case rel => exact ⟨i + 1, by omega, by go_num, by rw [HCS.out]; simp [b2n], hZ1, hE1⟩
          case measure => simp [intOf]; omega
      · obtain rfl : i = 7 := by omega
        go_wp2_with fail
        have HZM : Hid (∀ j, j < 7 → wr.cell? ⟨Z, j, none⟩ = some (.bool (tb (meet s o) j))) := fun j hj => by
          rw [hZi.out.cell, bothL_at s o 7 j hj, if_pos hj, tb_meet s o h0 h1 g0 g1 j hj]
        have HXr : Hid (∀ j, j < 7 → wr.cell? ⟨B, j, none⟩ = some (.bool (tb s j))) := fun j hj => hEi.out.cell_of (HX4.out j hj)
        have HXBr : Hid (BlockIs wr B (bothL s o 0) 25) := HXB4.out.ext hEi.out
        have HEr : Hid (Ext w wr) := HE4.out.trans hEi.out
        have HLM := low_meet s o
        have mlo := meet_lo s o
        have hBr : B + 1 < wr.heap.size := Nat.lt_of_lt_of_le (by rw [hZ]; exact hB4) hEi.out.size
        clear HX4 HXB4 HY4 HE4 HL4 HLN HZ HEZ hZi hEi HH HN hi hlt hB4
        generalize hM : meet s o = M at *
        have HM : Hid (meet s o = M) := hM
        clear hM
        generalize cntTo s 7 = n7 at *
        have z0 := HZM.out 0 (by omega)
        have z1 := HZM.out 1 (by omega)
        have z2 := HZM.out 2 (by omega)
        have z3 := HZM.out 3 (by omega)
        have z4 := HZM.out 4 (by omega)
        have z5 := HZM.out 5 (by omega)
        have z6 := HZM.out 6 (by omega)
        have HS : Hid (Ext wr wr.drew) := (Ext.refl wr).drew
        go_region_held3 (fun w' => (w'.cell? ⟨Z, 0, none⟩ = some (.bool (tb M 0)) ∧ w'.cell? ⟨Z, 1, none⟩ = some (.bool (tb M 1)) ∧ w'.cell? ⟨Z, 2, none⟩ = some (.bool (tb M 2)) ∧ w'.cell? ⟨Z, 3, none⟩ = some (.bool (tb M 3)) ∧ w'.cell? ⟨Z, 4, none⟩ = some (.bool (tb M 4)) ∧ w'.cell? ⟨Z, 5, none⟩ = some (.bool (tb M 5)) ∧ w'.cell? ⟨Z, 6, none⟩ = some (.bool (tb M 6))) ∧ Hid (Ext wr w'))
          (first | exact ⟨⟨z0, z1, z2, z3, z4, z5, z6⟩, HS⟩ | exact ⟨⟨hE'.cell_of z0, hE'.cell_of z1, hE'.cell_of z2, hE'.cell_of z3, hE'.cell_of z4, hE'.cell_of z5, hE'.cell_of z6⟩, HS.out.trans hE'⟩)
          (first
            | (go_at_call 17; refine (meet_any _ _ _).mono ?_; rw [HM.out]; rintro e w' ⟨rfl, rfl⟩)
            | (go_at_call 23; refine (refByte_any M mlo _).mono ?_; rintro e w' ⟨rfl, hE'⟩; rw [HLM]))
        have HX5 : Hid (Ext w w') := HEr.out.trans (HS.out.trans hE')
        clear HXBr HEr HS hE' HZM HXr z0 z1 z2 z3 z4 z5 z6 mlo HLM
        go_wp2_with fail
        refine (with_any _ _ _).mono ?_
        rw [HO.out]
        rintro e _ ⟨rfl, rfl⟩
        go_wp2_with fail
        refine (without_any _ _ _).mono ?_
        rw [HD.out]
        rintro e _ ⟨rfl, rfl⟩
        go_wp2_with fail
        go_ret
        exact ⟨rfl, HX5.out⟩

theorem sets_any (s o r : Int) (w : World) (h0 : 0 ≤ s) (h1 : s < 256) (g0 : 0 ≤ o) (g1 : o < 256) :
    Calls Try.prog 5 #[.int .u8 s, .int .u8 o, .int .i64 r] w fun e w' => e = .returned (.bool true) ∧ Below w.heap.size w w' := by
  by_cases h : r < 0 ∨ 7 ≤ r
  · exact sets_out s o r w h0 h1 g0 g1 h
  · obtain ⟨k, rfl⟩ := Int.eq_ofNat_of_zero_le (by omega : 0 ≤ r)
    exact sets_in s o k w h0 h1 g0 g1 (by omega)
end Go.Proofs.Ytdbhndieommkaaa.CrewW
