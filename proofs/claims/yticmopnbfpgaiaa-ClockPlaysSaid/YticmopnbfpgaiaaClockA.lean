/- The walk of ClockPlays: its anchor. -/
import Derived.Test.YticmopnbfpgaiaaClockS
namespace Go.Proofs.Yticmopnbfpgaiaa.Clk
open Go.RowKit
open Go.Maps (Keyed)
open _root_.Go.Proofs.Yticmopnbfpgaiaa.Mark (idV idL ltID sortID idL_len sort_len idL_one)
set_option linter.unusedSimpArgs false
set_option linter.unusedVariables false

theorem ripe_one (x : I2) (t now wait : Int) : ripeL [(x, t)] now wait = if now - t < wait then [] else [x] := by
  unfold ripeL keysL sortID keepF young sinceL
  by_cases h : now - t < wait <;> simp [h]
theorem past_one {x : I2} (hx : okI x) {t now : Int} (h0 : 0 ≤ t) (h1 : t ≤ now) : Past [(x, t)] now := by
  intro y hy
  rw [List.mem_singleton.1 hy]
  exact ⟨hx, h0, h1⟩
set_option maxRecDepth 100000 in
theorem anchor_any (w : World) : Calls Try.prog 24 #[] w fun e w' => e = .returned (.bool true) ∧ At [] w [] w' := by
  have hok : okI ((1, 0) : I2) := ⟨by decide, by decide⟩
  go_enter Try.func24, Try.ntmps24
  go_wp2_with fail
  refine (new_any w).mono ?_
  rintro e w1 ⟨p, b, rfl, hA⟩
  have hF := hA.facts
  (try simp only [setL, List.set_cons_zero, List.set_cons_succ, List.cons_append, List.nil_append] at hA); (have hF := hA.facts); (try simp only [facts_cons, facts_nil, facts_cells, facts_old, facts_fact, facts_obj, facts_map, facts_iter, and_true, true_and] at hF)
  go_wp2_with fail
  refine wp_loop_rounds 4 ?_
  rw [rounds_succ]
  go_wp2_with fail
  refine (tick_any (hA.sep1 (A := clkH p b 0) (by with_reducible repeat (first | exact Sel.here | apply Sel.there))) (by omega) (by omega)).mono ?_
  rintro e w1 ⟨rfl, hT⟩; have hB := hA.call1 (by with_reducible repeat (first | exact Sel.here | apply Sel.there)) hT; clear hF hA hT; have hA := hB; clear hB; (try simp only [setL, List.set_cons_zero, List.set_cons_succ, List.cons_append, List.nil_append] at hA); (have hF := hA.facts); (try simp only [facts_cons, facts_nil, facts_cells, facts_old, facts_fact, facts_obj, facts_map, facts_iter, and_true, true_and] at hF)
  go_wp2_with fail
  rw [rounds_succ]
  go_wp2_with fail
  refine (tick_any (hA.sep1 (A := clkH p b (0 + 1)) (by with_reducible repeat (first | exact Sel.here | apply Sel.there))) (by omega) (by omega)).mono ?_
  rintro e w1 ⟨rfl, hT⟩; have hB := hA.call1 (by with_reducible repeat (first | exact Sel.here | apply Sel.there)) hT; clear hF hA hT; have hA := hB; clear hB; (try simp only [setL, List.set_cons_zero, List.set_cons_succ, List.cons_append, List.nil_append] at hA); (have hF := hA.facts); (try simp only [facts_cons, facts_nil, facts_cells, facts_old, facts_fact, facts_obj, facts_map, facts_iter, and_true, true_and] at hF)
  go_wp2_with fail
  rw [rounds_succ]
  go_wp2_with fail
  refine (tick_any (hA.sep1 (A := clkH p b (0 + 1 + 1)) (by with_reducible repeat (first | exact Sel.here | apply Sel.there))) (by omega) (by omega)).mono ?_
  rintro e w1 ⟨rfl, hT⟩; have hB := hA.call1 (by with_reducible repeat (first | exact Sel.here | apply Sel.there)) hT; clear hF hA hT; have hA := hB; clear hB; (try simp only [setL, List.set_cons_zero, List.set_cons_succ, List.cons_append, List.nil_append] at hA); (have hF := hA.facts); (try simp only [facts_cons, facts_nil, facts_cells, facts_old, facts_fact, facts_obj, facts_map, facts_iter, and_true, true_and] at hF)
  go_wp2_with fail
  rw [rounds_succ]
  go_wp2_with fail
  refine (watch_new (id := ((1, 0) : I2)) (hA.sep2 (A := clkH p b (0 + 1 + 1 + 1)) (B := mapC b []) (by with_reducible repeat (first | exact Sel.here | apply Sel.there)) (by with_reducible repeat (first | exact Sel.here | apply Sel.there))) hok nofun).mono ?_
  rintro e w2 ⟨rfl, hT⟩
  have hB := hA.call2 (A := clkH p b (0 + 1 + 1 + 1)) (B := mapC b []) (by with_reducible repeat (first | exact Sel.here | apply Sel.there)) (by with_reducible repeat (first | exact Sel.here | apply Sel.there)) hT
  clear hF hA hT
  have hA := hB
  clear hB
  (try simp only [setL, List.set_cons_zero, List.set_cons_succ, List.cons_append, List.nil_append] at hA); (have hF := hA.facts); (try simp only [facts_cons, facts_nil, facts_cells, facts_old, facts_fact, facts_obj, facts_map, facts_iter, and_true, true_and] at hF)
  go_wp2_with fail
  refine (tick_any (hA.sep1 (A := clkH p b (0 + 1 + 1 + 1)) (by with_reducible repeat (first | exact Sel.here | apply Sel.there))) (by omega) (by omega)).mono ?_
  rintro e w1 ⟨rfl, hT⟩; have hB := hA.call1 (by with_reducible repeat (first | exact Sel.here | apply Sel.there)) hT; clear hF hA hT; have hA := hB; clear hB; (try simp only [setL, List.set_cons_zero, List.set_cons_succ, List.cons_append, List.nil_append] at hA); (have hF := hA.facts); (try simp only [facts_cons, facts_nil, facts_cells, facts_old, facts_fact, facts_obj, facts_map, facts_iter, and_true, true_and] at hF)
  go_wp2_with fail
  refine (tick_any (hA.sep1 (A := clkH p b (0 + 1 + 1 + 1 + 1)) (by with_reducible repeat (first | exact Sel.here | apply Sel.there))) (by omega) (by omega)).mono ?_
  rintro e w1 ⟨rfl, hT⟩; have hB := hA.call1 (by with_reducible repeat (first | exact Sel.here | apply Sel.there)) hT; clear hF hA hT; have hA := hB; clear hB; (try simp only [setL, List.set_cons_zero, List.set_cons_succ, List.cons_append, List.nil_append] at hA); (have hF := hA.facts); (try simp only [facts_cons, facts_nil, facts_cells, facts_old, facts_fact, facts_obj, facts_map, facts_iter, and_true, true_and] at hF)
  have hA' : At [] w [clkH p b 5, mapC b [((1, 0), 3)]] w1 := hA
  clear hF hA
  have hA := hA'
  clear hA'
  have hF := hA.facts
  (try simp only [setL, List.set_cons_zero, List.set_cons_succ, List.cons_append, List.nil_append] at hA); (have hF := hA.facts); (try simp only [facts_cons, facts_nil, facts_cells, facts_old, facts_fact, facts_obj, facts_map, facts_iter, and_true, true_and] at hF)
  go_wp2_with fail
  refine (now_any (hA.sep1 (A := clkH p b 5) (by with_reducible repeat (first | exact Sel.here | apply Sel.there)))).mono ?_
  rintro e w1 ⟨rfl, hT⟩; have hB := hA.call1 (by with_reducible repeat (first | exact Sel.here | apply Sel.there)) hT; clear hF hA hT; have hA := hB; clear hB; (try simp only [setL, List.set_cons_zero, List.set_cons_succ, List.cons_append, List.nil_append] at hA); (have hF := hA.facts); (try simp only [facts_cons, facts_nil, facts_cells, facts_old, facts_fact, facts_obj, facts_map, facts_iter, and_true, true_and] at hF)
  go_wp2_with fail
  refine (ripe_any (mp := [((1, 0), 3)]) (hA.sep2 (A := clkH p b 5) (B := mapC b [((1, 0), 3)]) (by with_reducible repeat (first | exact Sel.here | apply Sel.there)) (by with_reducible repeat (first | exact Sel.here | apply Sel.there))) (past_one hok (by omega) (by omega)) (by omega) (by simp)).mono ?_
  rintro e w2 ⟨v1, rfl, hT⟩
  rw [ripe_one] at hT
  have hB := hA.call2 (A := clkH p b 5) (B := mapC b [((1, 0), 3)]) (by with_reducible repeat (first | exact Sel.here | apply Sel.there)) (by with_reducible repeat (first | exact Sel.here | apply Sel.there)) hT
  clear hF hA hT
  have hA := hB
  clear hB
  (try simp only [setL, List.set_cons_zero, List.set_cons_succ, List.cons_append, List.nil_append] at hA); (have hF := hA.facts); (try simp only [facts_cons, facts_nil, facts_cells, facts_old, facts_fact, facts_obj, facts_map, facts_iter, and_true, true_and] at hF)
  obtain ⟨ax1, cap1, rfl, _, _, _⟩ := hA.row_form (v := v1) (n := 1) (xs := flatI [(1, 0)]) (by repeat (first | exact Sel.here | apply Sel.there))
  go_wp2_with fail
  refine (ripe_any (mp := [((1, 0), 3)]) (hA.sep2 (A := clkH p b 5) (B := mapC b [((1, 0), 3)]) (by with_reducible repeat (first | exact Sel.here | apply Sel.there)) (by with_reducible repeat (first | exact Sel.here | apply Sel.there))) (past_one hok (by omega) (by omega)) (by omega) (by simp)).mono ?_
  rintro e w3 ⟨v2, rfl, hT⟩
  rw [ripe_one] at hT
  have hB := hA.call2 (A := clkH p b 5) (B := mapC b [((1, 0), 3)]) (by with_reducible repeat (first | exact Sel.here | apply Sel.there)) (by with_reducible repeat (first | exact Sel.here | apply Sel.there)) hT
  clear hF hA hT
  have hA := hB
  clear hB
  (try simp only [setL, List.set_cons_zero, List.set_cons_succ, List.cons_append, List.nil_append] at hA); (have hF := hA.facts); (try simp only [facts_cons, facts_nil, facts_cells, facts_old, facts_fact, facts_obj, facts_map, facts_iter, and_true, true_and] at hF)
  obtain ⟨ax2, cap2, rfl, _, _, _⟩ := hA.row_form (v := v2) (n := 0) (xs := flatI []) (by repeat (first | exact Sel.here | apply Sel.there))
  go_wp2_with fail
  go_ret
  exact ⟨rfl, hA.sub (List.nil_sublist _)⟩
end Go.Proofs.Yticmopnbfpgaiaa.Clk
