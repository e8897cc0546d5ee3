/- The walk of ClockPlays: a clock is as the document has it. -/
import Derived.Test.YticmopnbfpgaiaaClockR2
namespace Go.Proofs.Yticmopnbfpgaiaa.Clk
open Go.RowKit
open Go.Maps (Keyed)
open _root_.Go.Proofs.Yticmopnbfpgaiaa.Mark (idV idL ltID sortID idL_len sort_len idL_one)
set_option linter.unusedSimpArgs false
set_option linter.unusedVariables false
attribute [-go_sem] run_eql_struct run_neq_struct run_eqGuard_agg
attribute [local go_sem] guardM eqlM neqM guardR eqlR neqR

structure Agree (mp L : List WR) (now : Int) : Prop where
  keys : sortID (keysL mp) = keysL L
  mem : ∀ x ∈ L, x ∈ mp
  past : Past mp now
theorem Agree.len {mp L : List WR} {now : Int} (h : Agree mp L now) : mp.length = L.length := by
  have := congrArg List.length h.keys
  rw [sort_len] at this
  simpa [keysL] using this
theorem keepF_at {f : I2 → Bool} {ks : List I2} {i : Nat} (hi : i < ks.length) (hf : f ks[i] = false) : (keepF f ks)[(keepF f (ks.take i)).length]? = some ks[i] := by
  have e : ks = ks.take i ++ ks[i] :: ks.drop (i + 1) := by rw [← List.drop_eq_getElem_cons hi, List.take_append_drop]
  have e2 : keepF f ks = keepF f (ks.take i) ++ ks[i] :: keepF f (ks.drop (i + 1)) := by
    have := congrArg (keepF f) e
    rw [this]
    unfold keepF
    rw [List.filter_append, List.filter_cons_of_pos (by rw [hf]; rfl)]
  rw [e2, List.getElem?_append_right (Nat.le_refl _), Nat.sub_self]
  rfl
theorem keysL_at {L : List WR} {i : Nat} (hi : i < L.length) (h' : i < (keysL L).length) : (keysL L)[i] = L[i].1 := by simp [keysL]
theorem keysL_len (L : List WR) : (keysL L).length = L.length := by simp [keysL]

def SameRel (L0 : List Part) (w : World) (p b : Nat) (now : Int) (mp L : List WR) (v v1 v2 : Value) (f : I2 → Bool) (k : Nat) (u11 u32 : Value) (wr : World) : Prop :=
  ∃ i : Nat, u32 = .int .i64 i ∧ i + k = L.length ∧ u11 = .int .i64 ((keepF f ((keysL L).take i)).length : Nat) ∧ At L0 w [rowW v L, rowN v1 L.length (keysL L), rowI v2 (keepF f (keysL L)), clkH p b now, mapC b mp] wr
set_option maxRecDepth 100000 in
set_option maxHeartbeats 1000000 in
theorem same_any {w : World} {p b : Nat} {now wait : Int} {mp L : List WR} {v : Value} (h : Sep [clkH p b now, mapC b mp, rowW v L] w) (ha : Agree mp L now) (hn : now < 1099511627777) (hmax : L.length ≤ 1000) :
    Calls Try.prog 34 #[.pointer (some ⟨p, 0, none⟩), v, .int .i64 now, .int .i64 wait] w fun e w' => e = .returned (.bool true) ∧ At [clkH p b now, mapC b mp, rowW v L] w [clkH p b now, mapC b mp, rowW v L] w' := by
  have hA := At.start h
  have hF := hA.facts
  clear h
  have hml := ha.len
  have hy : ∀ x ∈ L, young mp now wait x.1 = decide (now - x.2 < wait) ∧ 0 ≤ x.2 ∧ x.2 ≤ now := by
    have hM : MapAt Try.prog 50 w b (ents mp) := hA.get (A := mapC b mp) (by with_reducible repeat (first | exact Sel.here | apply Sel.there))
    intro x hx
    have := ha.past x (ha.mem x hx)
    exact ⟨by unfold young; rw [since_of hM.keys (ha.mem x hx)], this.2⟩
  have hy' := Lib.hid hy
  have ha' := Lib.hid ha
  clear hy ha
  obtain ⟨ax, cap, rfl, hax, hcap, _⟩ := hA.row_form (v := v) (xs := flatW L) (by with_reducible repeat (first | exact Sel.here | apply Sel.there))
  (try simp only [setL, List.set_cons_zero, List.set_cons_succ, List.cons_append, List.nil_append] at hA); (have hF := hA.facts); (try simp only [facts_cons, facts_nil, facts_cells, facts_old, facts_fact, facts_obj, facts_map, facts_iter, and_true, true_and] at hF)
  go_enter Try.func34, Try.ntmps34
  go_wp2_with fail
  refine (watched_any (hA.sep2 (by with_reducible repeat (first | exact Sel.here | apply Sel.there)) (by with_reducible repeat (first | exact Sel.here | apply Sel.there))) (by omega)).mono ?_
  rintro e w2 ⟨v1, rfl, hT⟩
  rw [ha'.out.keys] at hT
  have hB := hA.call2 (by with_reducible repeat (first | exact Sel.here | apply Sel.there)) (by with_reducible repeat (first | exact Sel.here | apply Sel.there)) hT
  clear hF hA hT
  have hA := hB
  clear hB
  (try simp only [setL, List.set_cons_zero, List.set_cons_succ, List.cons_append, List.nil_append] at hA); (have hF := hA.facts); (try simp only [facts_cons, facts_nil, facts_cells, facts_old, facts_fact, facts_obj, facts_map, facts_iter, and_true, true_and] at hF)
  go_wp2_with fail
  refine (ripe_any (hA.sep2 (A := clkH p b now) (B := mapC b mp) (by with_reducible repeat (first | exact Sel.here | apply Sel.there)) (by with_reducible repeat (first | exact Sel.here | apply Sel.there))) ha'.out.past hn (by omega)).mono ?_
  rintro e w3 ⟨v2, rfl, hT⟩
  unfold ripeL at hT
  rw [ha'.out.keys] at hT
  have hB := hA.call2 (by with_reducible repeat (first | exact Sel.here | apply Sel.there)) (by with_reducible repeat (first | exact Sel.here | apply Sel.there)) hT
  clear hF hA hT
  have hA := hB
  clear hB
  (try simp only [setL, List.set_cons_zero, List.set_cons_succ, List.cons_append, List.nil_append] at hA); (have hF := hA.facts); (try simp only [facts_cons, facts_nil, facts_cells, facts_old, facts_fact, facts_obj, facts_map, facts_iter, and_true, true_and] at hF)
  have hk1 := keysL_len L
  obtain ⟨ax1, cap1, rfl, hax1, hcap1, _⟩ := hA.row_form (v := v1) (xs := flatI (keysL L)) (by with_reducible repeat (first | exact Sel.here | apply Sel.there))
  obtain ⟨ax2, cap2, rfl, hax2, hcap2, _⟩ := hA.row_form (v := v2) (xs := flatI (keepF (young mp now wait) (keysL L))) (by with_reducible repeat (first | exact Sel.here | apply Sel.there))
  simp only [rowI, hk1] at hA
  rw [hk1] at hcap1
  (try simp only [setL, List.set_cons_zero, List.set_cons_succ, List.cons_append, List.nil_append] at hA); (have hF := hA.facts); (try simp only [facts_cons, facts_nil, facts_cells, facts_old, facts_fact, facts_obj, facts_map, facts_iter, and_true, true_and] at hF)
  go_wp2_with fail
  refine (now_any (hA.sep1 (by with_reducible repeat (first | exact Sel.here | apply Sel.there)))).mono ?_
  rintro e w4 ⟨rfl, hT⟩
  have hB := hA.call1 (by with_reducible repeat (first | exact Sel.here | apply Sel.there)) hT
  clear hF hA hT
  have hA := hB
  clear hB
  (try simp only [setL, List.set_cons_zero, List.set_cons_succ, List.cons_append, List.nil_append] at hA); (have hF := hA.facts); (try simp only [facts_cons, facts_nil, facts_cells, facts_old, facts_fact, facts_obj, facts_map, facts_iter, and_true, true_and] at hF)
  go_wp2_with fail
  try go_frame
  go_loopg [11, 32] L.length (SameRel [clkH p b now, mapC b mp, rowW (.slice ax L.length cap) L] w p b now mp L (.slice ax L.length cap) (.slice ax1 L.length cap1) (.slice ax2 (keepF (young mp now wait) (keysL L)).length cap2) (young mp now wait))
  case atStart => exact ⟨0, rfl, by simp, rfl, hA.only5 (by with_reducible repeat (first | exact Sel.here | apply Sel.there)) (by with_reducible repeat (first | exact Sel.here | apply Sel.there)) (by with_reducible repeat (first | exact Sel.here | apply Sel.there)) (by with_reducible repeat (first | exact Sel.here | apply Sel.there)) (by with_reducible repeat (first | exact Sel.here | apply Sel.there))⟩
  case round =>
    obtain ⟨i, rfl, hik, rfl, hB⟩ := hrel
    clear hF hA
    have hA := hB
    clear hB
    by_cases hi : i < L.length
    · obtain ⟨g, c, rfl, _, hcm, hcl, hct, hB⟩ := hA.row_open (ax := ax) (cap := cap) (n := L.length) (xs := flatW L) (by with_reducible repeat (first | exact Sel.here | apply Sel.there)) (by omega)
      clear hA
      obtain ⟨g1, d, rfl, _, hdm, hdl, hdt, hA⟩ := hB.row_open (ax := ax1) (cap := cap1) (n := L.length) (xs := flatI (keysL L)) (by with_reducible repeat (first | exact Sel.here | apply Sel.there)) (by omega)
      clear hB
      have hx : L[i]? = some L[i] := List.getElem?_eq_getElem hi
      have c0 : c[i * 3]? = some (.int .i64 L[i].1.1) := cells_at wL_len hct hx 0 (by omega)
      have c1 : c[i * 3 + 1]? = some (.int .i64 L[i].1.2) := cells_at wL_len hct hx 1 (by omega)
      have c2 : c[i * 3 + 2]? = some (.int .i64 L[i].2) := cells_at wL_len hct hx 2 (by omega)
      have hdt' : d.take ((keysL L).length * 2) = (keysL L).flatMap idL := by rw [hk1]; exact hdt
      have hkx : (keysL L)[i]? = some L[i].1 := by simp [keysL, hx]
      have d0 : d[i * 2]? = some (.int .i64 L[i].1.1) := cells_at idL_len hdt' hkx 0 (by omega)
      have d1 : d[i * 2 + 1]? = some (.int .i64 L[i].1.2) := cells_at idL_len hdt' hkx 1 (by omega)
      obtain ⟨hyv, ht0, ht1⟩ := hy'.out L[i] (List.getElem_mem hi)
      have hks : (keysL L).take (i + 1) = (keysL L).take i ++ [L[i].1] := by
        rw [List.take_succ_eq_append_getElem (by rw [hk1]; exact hi), keysL_at hi]
      have hsn := Lib.hid (keepF_snoc (young mp now wait) ((keysL L).take i) L[i].1)
      have hks' := Lib.hid hks
      have hself : (L[i].1 == L[i].1) = true := by simp
      clear hks hdt' hkx
      (try simp only [setL, List.set_cons_zero, List.set_cons_succ, List.cons_append, List.nil_append] at hA); (have hF := hA.facts); (try simp only [facts_cons, facts_nil, facts_cells, facts_old, facts_fact, facts_obj, facts_map, facts_iter, and_true, true_and] at hF)
      cases hyo : young mp now wait L[i].1
      · rw [hyo] at hyv
        have hge : ¬ (now - L[i].2 < wait) := by simpa using hyv.symm
        clear hyv
        have hkk : i < (keysL L).length := by rw [hk1]; exact hi
        have hrs := keepF_at (f := young mp now wait) hkk (by rw [keysL_at hi]; exact hyo)
        rw [keysL_at hi] at hrs
        have hrl := (List.getElem?_eq_some_iff.1 hrs).1
        generalize hkq : (keepF (young mp now wait) ((keysL L).take i)).length = q at *
        obtain ⟨g2, r, rfl, _, hrm, hrcl, hrt, hB⟩ := hA.row_open (ax := ax2) (cap := cap2) (n := (keepF (young mp now wait) (keysL L)).length) (xs := flatI (keepF (young mp now wait) (keysL L))) (by with_reducible repeat (first | exact Sel.here | apply Sel.there)) (by omega)
        have r0 : r[q * 2]? = some (.int .i64 L[i].1.1) := cells_at idL_len hrt hrs 0 (by omega)
        have r1 : r[q * 2 + 1]? = some (.int .i64 L[i].1.2) := cells_at idL_len hrt hrs 1 (by omega)
        clear hF hA
        have hA := hB
        clear hB
        (try simp only [setL, List.set_cons_zero, List.set_cons_succ, List.cons_append, List.nil_append] at hA); (have hF := hA.facts); (try simp only [facts_cons, facts_nil, facts_cells, facts_old, facts_fact, facts_obj, facts_map, facts_iter, and_true, true_and] at hF)
        have hkq' := Lib.hid hkq
        clear hkq
        have hrb : (keepF (young mp now wait) (keysL L)).length ≤ 1000 := by
          have : (keepF (young mp now wait) (keysL L)).length ≤ (keysL L).length := List.length_filter_le _ _
          omega
        have hqb : q < 1000 := by omega
        go_wp2_with (first | (refine wpList_store_at rfl rfl rfl (by (try simp only [Act.eval, Array.getD_eq_getD_getElem?, List.getElem?_toArray, List.getElem?_cons_succ, List.getElem?_cons_zero, Option.getD_some]) <;> exact rfl) (by exact rfl) hA (by with_reducible repeat (first | exact Sel.here | apply Sel.there)) (by kernel_rfl) rfl (by first | decide | (simp; done) | omega) ?_; intro w1 hB; clear hF hA; have hA := hB; clear hB; (try simp only [setL, List.set_cons_zero, List.set_cons_succ, List.cons_append, List.nil_append] at hA); (have hF := hA.facts); (try simp only [facts_cons, facts_nil, facts_cells, facts_old, facts_fact, facts_obj, facts_map, facts_iter, and_true, true_and] at hF)) | (refine wpList_box_at rfl rfl (by (try simp only [Act.eval, Array.getD_eq_getD_getElem?, List.getElem?_toArray, List.getElem?_cons_succ, List.getElem?_cons_zero, Option.getD_some]) <;> exact rfl) (by exact rfl) hA ?_; intro b1 w1 hB hb1; clear hF hA; have hA := hB; clear hB; (try simp only [setL, List.set_cons_zero, List.set_cons_succ, List.cons_append, List.nil_append] at hA); (have hF := hA.facts); (try simp only [facts_cons, facts_nil, facts_cells, facts_old, facts_fact, facts_obj, facts_map, facts_iter, and_true, true_and] at hF)) | (refine wpList_alloc_at (E := 151) (z := .agg #[.int .i64 0, .int .i64 0, .int .i64 0]) (vs := [.int .i64 0, .int .i64 0, .int .i64 0]) rfl rfl (by kernel_rfl) rfl hA ?_; intro b1 w1 hB hb1; clear hF hA; have hA := hB; clear hB; (try simp only [setL, List.set_cons_zero, List.set_cons_succ, List.cons_append, List.nil_append] at hA); (have hF := hA.facts); (try simp only [facts_cons, facts_nil, facts_cells, facts_old, facts_fact, facts_obj, facts_map, facts_iter, and_true, true_and] at hF)))
        go_quiet (fail)
        have hA := hA.drewN nq; generalize World.drewN _ nq = w1 at *; clear hF; (try simp only [setL, List.set_cons_zero, List.set_cons_succ, List.cons_append, List.nil_append] at hA); (have hF := hA.facts); (try simp only [facts_cons, facts_nil, facts_cells, facts_old, facts_fact, facts_obj, facts_map, facts_iter, and_true, true_and] at hF)
        go_wp2_with fail
        go_quiet (fail)
        have hA := hA.drewN nq; generalize World.drewN _ nq = w1 at *; clear hF; (try simp only [setL, List.set_cons_zero, List.set_cons_succ, List.cons_append, List.nil_append] at hA); (have hF := hA.facts); (try simp only [facts_cons, facts_nil, facts_cells, facts_old, facts_fact, facts_obj, facts_map, facts_iter, and_true, true_and] at hF)
        go_wp2_with fail
        go_roundg (gk - 1)
        case measure => omega
        case rel =>
          refine ⟨i + 1, by simp, by omega, ?_, ?_⟩
          · rw [hks'.out, hsn.out, hyo]
            simp [hkq'.out]
          · have s1 := shut_w hA (by with_reducible repeat (first | exact Sel.here | apply Sel.there)) hcl hcap hcm hct
            have s2 := s1.row_shut (n := L.length) (cap := cap1) (xs := flatI (keysL L)) (by with_reducible repeat (first | exact Sel.here | apply Sel.there)) hdl hcap1 hdm hdt
            have s3 := s2.row_shut (n := (keepF (young mp now wait) (keysL L)).length) (cap := cap2) (xs := flatI (keepF (young mp now wait) (keysL L))) (by with_reducible repeat (first | exact Sel.here | apply Sel.there)) hrcl hcap2 hrm hrt
            exact s3.only5 (by with_reducible repeat (first | exact Sel.here | apply Sel.there)) (by with_reducible repeat (first | exact Sel.here | apply Sel.there)) (by with_reducible repeat (first | exact Sel.here | apply Sel.there)) (by with_reducible repeat (first | exact Sel.here | apply Sel.there)) (by with_reducible repeat (first | exact Sel.here | apply Sel.there))
      · rw [hyo] at hyv
        have hlt : now - L[i].2 < wait := by simpa using hyv.symm
        clear hyv
        go_wp2_with (first | (refine wpList_store_at rfl rfl rfl (by (try simp only [Act.eval, Array.getD_eq_getD_getElem?, List.getElem?_toArray, List.getElem?_cons_succ, List.getElem?_cons_zero, Option.getD_some]) <;> exact rfl) (by exact rfl) hA (by with_reducible repeat (first | exact Sel.here | apply Sel.there)) (by kernel_rfl) rfl (by first | decide | (simp; done) | omega) ?_; intro w1 hB; clear hF hA; have hA := hB; clear hB; (try simp only [setL, List.set_cons_zero, List.set_cons_succ, List.cons_append, List.nil_append] at hA); (have hF := hA.facts); (try simp only [facts_cons, facts_nil, facts_cells, facts_old, facts_fact, facts_obj, facts_map, facts_iter, and_true, true_and] at hF)) | (refine wpList_box_at rfl rfl (by (try simp only [Act.eval, Array.getD_eq_getD_getElem?, List.getElem?_toArray, List.getElem?_cons_succ, List.getElem?_cons_zero, Option.getD_some]) <;> exact rfl) (by exact rfl) hA ?_; intro b1 w1 hB hb1; clear hF hA; have hA := hB; clear hB; (try simp only [setL, List.set_cons_zero, List.set_cons_succ, List.cons_append, List.nil_append] at hA); (have hF := hA.facts); (try simp only [facts_cons, facts_nil, facts_cells, facts_old, facts_fact, facts_obj, facts_map, facts_iter, and_true, true_and] at hF)) | (refine wpList_alloc_at (E := 151) (z := .agg #[.int .i64 0, .int .i64 0, .int .i64 0]) (vs := [.int .i64 0, .int .i64 0, .int .i64 0]) rfl rfl (by kernel_rfl) rfl hA ?_; intro b1 w1 hB hb1; clear hF hA; have hA := hB; clear hB; (try simp only [setL, List.set_cons_zero, List.set_cons_succ, List.cons_append, List.nil_append] at hA); (have hF := hA.facts); (try simp only [facts_cons, facts_nil, facts_cells, facts_old, facts_fact, facts_obj, facts_map, facts_iter, and_true, true_and] at hF)))
        go_quiet (fail)
        have hA := hA.drewN nq; generalize World.drewN _ nq = w1 at *; clear hF; (try simp only [setL, List.set_cons_zero, List.set_cons_succ, List.cons_append, List.nil_append] at hA); (have hF := hA.facts); (try simp only [facts_cons, facts_nil, facts_cells, facts_old, facts_fact, facts_obj, facts_map, facts_iter, and_true, true_and] at hF)
        go_wp2_with fail
        go_roundg (gk - 1)
        case measure => omega
        case rel =>
          refine ⟨i + 1, by simp, by omega, ?_, ?_⟩
          · rw [hks'.out, hsn.out, hyo]
            simp
          · have s1 := shut_w hA (by with_reducible repeat (first | exact Sel.here | apply Sel.there)) hcl hcap hcm hct
            have s2 := s1.row_shut (n := L.length) (cap := cap1) (xs := flatI (keysL L)) (by with_reducible repeat (first | exact Sel.here | apply Sel.there)) hdl hcap1 hdm hdt
            exact s2.only5 (by with_reducible repeat (first | exact Sel.here | apply Sel.there)) (by with_reducible repeat (first | exact Sel.here | apply Sel.there)) (by with_reducible repeat (first | exact Sel.here | apply Sel.there)) (by with_reducible repeat (first | exact Sel.here | apply Sel.there)) (by with_reducible repeat (first | exact Sel.here | apply Sel.there))
    · have e : (keysL L).take i = keysL L := List.take_of_length_le (by omega)
      rw [e]
      go_wp2_with fail
      go_ret
      exact ⟨rfl, hA.only3 (by with_reducible repeat (first | exact Sel.here | apply Sel.there)) (by with_reducible repeat (first | exact Sel.here | apply Sel.there)) (by with_reducible repeat (first | exact Sel.here | apply Sel.there))⟩
end Go.Proofs.Yticmopnbfpgaiaa.Clk
