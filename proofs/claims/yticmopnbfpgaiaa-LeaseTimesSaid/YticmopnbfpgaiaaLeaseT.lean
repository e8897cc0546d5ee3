/- LeaseTimes: the walk of the law. -/
import Derived.Test.YticmopnbfpgaiaaLeaseD
import Derived.Test.YticmopnbfpgaiaaLeaseW8
namespace Go.Proofs.Yticmopnbfpgaiaa.Lease
open Go.RowKit
open Go.Maps (Keyed)
set_option linter.unusedSimpArgs false
set_option linter.unusedVariables false

theorem endI_in {time ttl : Int} (h0 : 0 ≤ time) (h1 : time ≤ 1099511627776) (h2 : 0 ≤ ttl) (h3 : ttl ≤ 1048576) : endI time ttl = time + ttl := by
  unfold endI cutI; (repeat' split) <;> omega
theorem cutI_in {t : Int} (h0 : 0 ≤ t) (h1 : t ≤ 2199023255552) : cutI t = t := by unfold cutI; (repeat' split) <;> omega
/-- the session, open, once kept at 'last' -/
def tS (n : Int) (f : ByteArray) (ttl : Int) (b t : Nat) (last : Int) : Ses := ⟨n, f, true, false, last + ttl, ttl, [], b, t⟩
theorem tS_opened (n : Int) (f : ByteArray) {ttl time : Int} (b t : Nat) (h0 : 0 ≤ time) (h1 : time ≤ 1099511627776) (h2 : 0 ≤ ttl) (h3 : ttl ≤ 1048576) : (fresh n f b t).opened ttl time = tS n f ttl b t time := by
  simp [Ses.opened, fresh, tS, endI_in h0 h1 h2 h3, cutI_in h2 (by omega : ttl ≤ 2199023255552)]
theorem tS_kept (n : Int) (f : ByteArray) {ttl time last : Int} (b t : Nat) (h0 : 0 ≤ time) (h1 : time ≤ 1099511627776) (h2 : 0 ≤ ttl) (h3 : ttl ≤ 1048576) : (tS n f ttl b t last).kept time = tS n f ttl b t (if last < time then time else last) := by
  unfold Ses.kept tS
  simp only [endI_in h0 h1 h2 h3]
  congr 1
  (repeat' split) <;> omega
theorem tS_find (n : Int) (f : ByteArray) (ttl : Int) (b t : Nat) (last : Int) : find ([] ++ tS n f ttl b t last :: []) n f = some (tS n f ttl b t last) := by simp [find, Ses.is, tS]
theorem tS_look (n : Int) (f : ByteArray) (ttl : Int) (b t : Nat) (last : Int) : look [tS n f ttl b t last] n f = tS n f ttl b t last := by simp [look, find, Ses.is, tS]
theorem tE_look (n : Int) (f : ByteArray) (ttl : Int) (b t : Nat) (last : Int) : look [(tS n f ttl b t last).ended] n f = (tS n f ttl b t last).ended := by simp [look, find, Ses.is, tS, Ses.ended]
theorem tS_info (n : Int) (f : ByteArray) (ttl : Int) (b t : Nat) (last : Int) : (tS n f ttl b t last).info = .agg #[.bool true, .bool false, .int .i64 (last + ttl), .int .i64 ttl, .int .i64 0] := by simp [Ses.info, tS]
theorem tE_info (n : Int) (f : ByteArray) (ttl : Int) (b t : Nat) (last : Int) : ((tS n f ttl b t last).ended).info = .agg #[.bool false, .bool true, .int .i64 0, .int .i64 0, .int .i64 0] := by simp [Ses.info, tS, Ses.ended]
theorem tE_openE (n : Int) (f : ByteArray) (ttl : Int) (b t : Nat) (last : Int) (c : Nat) : openE (tS n f ttl b t last).ended c = 50 := by simp [openE, Ses.ended]

def KRel (p m q : Nat) (n : Int) (f : ByteArray) (ttl : Int) (b t len : Nat) (w : World) (k : Nat) (vi vl : Value) (wr : World) : Prop :=
  ∃ (j : Nat) (last : Int), vi = .int .i64 j ∧ vl = .int .i64 last ∧ j + k = len ∧ At [] w [BookP p m [tS n f ttl b t last], Part.cells q [.int .u64 n, .string f] 29] wr ∧ 0 ≤ last ∧ last ≤ 1099511627776

set_option maxRecDepth 100000 in
theorem times_in (w : World) (n : Int) (f : ByteArray) (h0 : 0 ≤ n) (h1 : n < big64) (hf : f.size ≤ maxLen) (ttl opened time again : Int) (v : Value) (xs : List Int) (hv : IntsAt w v xs) (hx : xs.length ≤ 40)
    (h2 : 0 ≤ ttl) (h3 : ttl ≤ 1048576) (h4 : 0 ≤ opened) (h5 : opened ≤ 1099511627776) :
    Calls Try.prog 4 #[.agg #[.int .u64 n, .string f], .int .i64 ttl, .int .i64 opened, v, .int .i64 time, .int .i64 again] w fun e w' => e = .returned (.bool true) ∧ Ext w w' := by
  obtain ⟨a, cap, rfl, hcell⟩ := hv
  have hcell' := Lib.hid hcell
  clear hcell
  have hA := At.start (w0 := w) (L0 := []) trivial
  have hF := hA.facts
  have hf0 : ∀ a b c d e w, (Instr.field 35 (.agg #[a, b, c, d, e]) 0).run Try.prog w = .ok a w := fun _ _ _ _ _ _ => by kernel_rfl
  have hf1 : ∀ a b c d e w, (Instr.field 35 (.agg #[a, b, c, d, e]) 1).run Try.prog w = .ok b w := fun _ _ _ _ _ _ => by kernel_rfl
  have hf2 : ∀ a b c d e w, (Instr.field 35 (.agg #[a, b, c, d, e]) 2).run Try.prog w = .ok c w := fun _ _ _ _ _ _ => by kernel_rfl
  have hx' : (xs.length : Int) ≤ 40 := by omega
  go_enter Try.func4, Try.ntmps4
  go_wp2_with (first | (refine wpList_store_at rfl rfl rfl (by (try simp only [Act.eval, Array.getD_eq_getD_getElem?, List.getElem?_toArray, List.getElem?_cons_succ, List.getElem?_cons_zero, Option.getD_some]) <;> exact rfl) (by exact rfl) hA (by with_reducible repeat (first | exact Sel.here | apply Sel.there)) (by kernel_rfl) rfl (by first | decide | (simp; done) | omega) ?_; intro w1 hB; clear hF hA; have hA := hB; clear hB; (try simp only [setL, List.set_cons_zero, List.set_cons_succ, List.cons_append, List.nil_append] at hA); (have hF := hA.facts); (try simp only [facts_cons, facts_nil, facts_cells, facts_old, facts_fact, facts_obj, facts_map, facts_iter, and_true, true_and] at hF)) | (refine wpList_box_at rfl rfl (by (try simp only [Act.eval, Array.getD_eq_getD_getElem?, List.getElem?_toArray, List.getElem?_cons_succ, List.getElem?_cons_zero, Option.getD_some]) <;> exact rfl) (by exact rfl) hA ?_; intro b1 w1 hB hb1; clear hF hA; have hA := hB; clear hB; (try simp only [setL, List.set_cons_zero, List.set_cons_succ, List.cons_append, List.nil_append] at hA); (have hF := hA.facts); (try simp only [facts_cons, facts_nil, facts_cells, facts_old, facts_fact, facts_obj, facts_map, facts_iter, and_true, true_and] at hF)))
  refine (anchor_any _).mono ?_
  rintro e w1 ⟨rfl, hT⟩
  have hB := hA.ext hT; clear hF hA hT; have hA := hB; clear hB
  (try simp only [setL, List.set_cons_zero, List.set_cons_succ, List.cons_append, List.nil_append] at hA); (have hF := hA.facts); (try simp only [facts_cons, facts_nil, facts_cells, facts_old, facts_fact, facts_obj, facts_map, facts_iter, and_true, true_and] at hF)
  go_wp2_with (first | (refine wpList_store_at rfl rfl rfl (by (try simp only [Act.eval, Array.getD_eq_getD_getElem?, List.getElem?_toArray, List.getElem?_cons_succ, List.getElem?_cons_zero, Option.getD_some]) <;> exact rfl) (by exact rfl) hA (by with_reducible repeat (first | exact Sel.here | apply Sel.there)) (by kernel_rfl) rfl (by first | decide | (simp; done) | omega) ?_; intro w1 hB; clear hF hA; have hA := hB; clear hB; (try simp only [setL, List.set_cons_zero, List.set_cons_succ, List.cons_append, List.nil_append] at hA); (have hF := hA.facts); (try simp only [facts_cons, facts_nil, facts_cells, facts_old, facts_fact, facts_obj, facts_map, facts_iter, and_true, true_and] at hF)) | (refine wpList_box_at rfl rfl (by (try simp only [Act.eval, Array.getD_eq_getD_getElem?, List.getElem?_toArray, List.getElem?_cons_succ, List.getElem?_cons_zero, Option.getD_some]) <;> exact rfl) (by exact rfl) hA ?_; intro b1 w1 hB hb1; clear hF hA; have hA := hB; clear hB; (try simp only [setL, List.set_cons_zero, List.set_cons_succ, List.cons_append, List.nil_append] at hA); (have hF := hA.facts); (try simp only [facts_cons, facts_nil, facts_cells, facts_old, facts_fact, facts_obj, facts_map, facts_iter, and_true, true_and] at hF)))
  refine (new_any _).mono ?_
  rintro e w1 ⟨p, m, rfl, hT⟩
  have hB := hA.call0 hT; clear hF hA hT; have hA := hB; clear hB
  (try simp only [setL, List.set_cons_zero, List.set_cons_succ, List.cons_append, List.nil_append] at hA); (have hF := hA.facts); (try simp only [facts_cons, facts_nil, facts_cells, facts_old, facts_fact, facts_obj, facts_map, facts_iter, and_true, true_and] at hF)
  go_wp2_with (first | (refine wpList_store_at rfl rfl rfl (by (try simp only [Act.eval, Array.getD_eq_getD_getElem?, List.getElem?_toArray, List.getElem?_cons_succ, List.getElem?_cons_zero, Option.getD_some]) <;> exact rfl) (by exact rfl) hA (by with_reducible repeat (first | exact Sel.here | apply Sel.there)) (by kernel_rfl) rfl (by first | decide | (simp; done) | omega) ?_; intro w1 hB; clear hF hA; have hA := hB; clear hB; (try simp only [setL, List.set_cons_zero, List.set_cons_succ, List.cons_append, List.nil_append] at hA); (have hF := hA.facts); (try simp only [facts_cons, facts_nil, facts_cells, facts_old, facts_fact, facts_obj, facts_map, facts_iter, and_true, true_and] at hF)) | (refine wpList_box_at rfl rfl (by (try simp only [Act.eval, Array.getD_eq_getD_getElem?, List.getElem?_toArray, List.getElem?_cons_succ, List.getElem?_cons_zero, Option.getD_some]) <;> exact rfl) (by exact rfl) hA ?_; intro b1 w1 hB hb1; clear hF hA; have hA := hB; clear hB; (try simp only [setL, List.set_cons_zero, List.set_cons_succ, List.cons_append, List.nil_append] at hA); (have hF := hA.facts); (try simp only [facts_cons, facts_nil, facts_cells, facts_old, facts_fact, facts_obj, facts_map, facts_iter, and_true, true_and] at hF)))
  refine (open_new (ss := []) (hA.sep1 (by with_reducible repeat (first | exact Sel.here | apply Sel.there))) h0 h1 hf (by simp) ttl opened rfl (by simp [cnt])).mono ?_
  rintro e w1 ⟨b, t, rfl, hT⟩
  rw [tS_opened n f b t h4 h5 h2 h3] at hT
  have hB := hA.call1 (by with_reducible repeat (first | exact Sel.here | apply Sel.there)) hT; clear hF hA hT; have hA := hB; clear hB
  (try simp only [setL, List.set_cons_zero, List.set_cons_succ, List.cons_append, List.nil_append] at hA); (have hF := hA.facts); (try simp only [facts_cons, facts_nil, facts_cells, facts_old, facts_fact, facts_obj, facts_map, facts_iter, and_true, true_and] at hF)
  go_wp2_with (first | (refine wpList_store_at rfl rfl rfl (by (try simp only [Act.eval, Array.getD_eq_getD_getElem?, List.getElem?_toArray, List.getElem?_cons_succ, List.getElem?_cons_zero, Option.getD_some]) <;> exact rfl) (by exact rfl) hA (by with_reducible repeat (first | exact Sel.here | apply Sel.there)) (by kernel_rfl) rfl (by first | decide | (simp; done) | omega) ?_; intro w1 hB; clear hF hA; have hA := hB; clear hB; (try simp only [setL, List.set_cons_zero, List.set_cons_succ, List.cons_append, List.nil_append] at hA); (have hF := hA.facts); (try simp only [facts_cons, facts_nil, facts_cells, facts_old, facts_fact, facts_obj, facts_map, facts_iter, and_true, true_and] at hF)) | (refine wpList_box_at rfl rfl (by (try simp only [Act.eval, Array.getD_eq_getD_getElem?, List.getElem?_toArray, List.getElem?_cons_succ, List.getElem?_cons_zero, Option.getD_some]) <;> exact rfl) (by exact rfl) hA ?_; intro b1 w1 hB hb1; clear hF hA; have hA := hB; clear hB; (try simp only [setL, List.set_cons_zero, List.set_cons_succ, List.cons_append, List.nil_append] at hA); (have hF := hA.facts); (try simp only [facts_cons, facts_nil, facts_cells, facts_old, facts_fact, facts_obj, facts_map, facts_iter, and_true, true_and] at hF)))
  go_loopg [49, 14] xs.length (KRel p m b1 n f ttl b t xs.length w)
  case atStart => exact ⟨0, opened, rfl, rfl, by simp, hA.only2 (by repeat (first | exact Sel.here | apply Sel.there)) (by with_reducible repeat (first | exact Sel.here | apply Sel.there)), h4, h5⟩
  case round =>
    obtain ⟨j, last, rfl, rfl, hk, hA2, hl0, hl1⟩ := hrel
    clear hF hA
    have hA := hA2
    clear hA2
    (try simp only [setL, List.set_cons_zero, List.set_cons_succ, List.cons_append, List.nil_append] at hA); (have hF := hA.facts); (try simp only [facts_cons, facts_nil, facts_cells, facts_old, facts_fact, facts_obj, facts_map, facts_iter, and_true, true_and] at hF)
    by_cases hlt : j < xs.length
    · obtain ⟨ab, aoff, rfl, hc0⟩ := hcell'.out j hlt
      have hc := hA.toExt.cell_of hc0
      clear hc0
      generalize xs.getD j 0 = x at *
      have hj : (j : Int) < (xs.length : Int) := by omega
      by_cases hx0 : x < 0
      · go_wp2_with fail
        refine bodyPost_ret (results_tmp rfl _ _ _) rfl ?_
        exact ⟨rfl, hA.toExt⟩
      by_cases hx1 : 1099511627776 < x
      · go_wp2_with fail
        refine bodyPost_ret (results_tmp rfl _ _ _) rfl ?_
        exact ⟨rfl, hA.toExt⟩
      have hx0' : decide (x < 0) = false := by simp; omega
      have hx1' : decide (1099511627776 < x) = false := by simp; omega
      go_wp2_with fail
      refine (keep_yes (l1 := []) (l2 := []) (s := tS n f ttl b t last) (hA.sep1 (by repeat (first | exact Sel.here | apply Sel.there))) h0 h1 hf x (tS_find n f ttl b t last) rfl).mono ?_
      rintro e w1 ⟨rfl, hT⟩
      rw [tS_kept n f b t (by omega) (by omega) h2 h3] at hT
      have hB := hA.call1 (by repeat (first | exact Sel.here | apply Sel.there)) hT; clear hF hA hT; have hA := hB; clear hB
      (try simp only [setL, List.set_cons_zero, List.set_cons_succ, List.cons_append, List.nil_append] at hA); (have hF := hA.facts); (try simp only [facts_cons, facts_nil, facts_cells, facts_old, facts_fact, facts_obj, facts_map, facts_iter, and_true, true_and] at hF)
      by_cases hm : last < x
      · rw [if_pos hm] at hA
        go_wp2_with fail
        go_roundg (gk - 1)
        case measure => omega
        case rel => exact ⟨j + 1, x, by go_num, by rw [Int.max_eq_right (by omega)], by omega, hA, by omega, by omega⟩
      · rw [if_neg hm] at hA
        have hm' : x ≤ last := by omega
        go_wp2_with fail
        go_roundg (gk - 1)
        case measure => omega
        case rel => exact ⟨j + 1, last, by go_num, by rw [Int.max_eq_left (by omega)], by omega, hA, by omega, by omega⟩
    · have hj : decide ((j : Int) < (xs.length : Int)) = false := by simp; omega
      go_wp2_with fail
      refine (info_any (hA.sep1 (by with_reducible repeat (first | exact Sel.here | apply Sel.there))) h0 h1 hf).mono ?_
      rw [tS_look, tS_info]
      rintro e w1 ⟨rfl, hT⟩; have hB := hA.call1 (by with_reducible repeat (first | exact Sel.here | apply Sel.there)) hT; clear hF hA hT; have hA := hB; clear hB; (try simp only [setL, List.set_cons_zero, List.set_cons_succ, List.cons_append, List.nil_append] at hA); (have hF := hA.facts); (try simp only [facts_cons, facts_nil, facts_cells, facts_old, facts_fact, facts_obj, facts_map, facts_iter, and_true, true_and] at hF)
      by_cases ht : time < last + ttl
      · go_wp2_with fail
        refine (expire_early (hA.sep1 (by with_reducible repeat (first | exact Sel.here | apply Sel.there))) h0 h1 hf time (by rw [tS_look]; rfl) (by rw [tS_look]; exact ht)).mono ?_
        rintro e w1 ⟨rfl, hT⟩; have hB := hA.call1 (by with_reducible repeat (first | exact Sel.here | apply Sel.there)) hT; clear hF hA hT; have hA := hB; clear hB; (try simp only [setL, List.set_cons_zero, List.set_cons_succ, List.cons_append, List.nil_append] at hA); (have hF := hA.facts); (try simp only [facts_cons, facts_nil, facts_cells, facts_old, facts_fact, facts_obj, facts_map, facts_iter, and_true, true_and] at hF)
        go_wp2_with fail
        refine (info_any (hA.sep1 (by with_reducible repeat (first | exact Sel.here | apply Sel.there))) h0 h1 hf).mono ?_
        rw [tS_look, tS_info]
        rintro e w1 ⟨rfl, hT⟩; have hB := hA.call1 (by with_reducible repeat (first | exact Sel.here | apply Sel.there)) hT; clear hF hA hT; have hA := hB; clear hB; (try simp only [setL, List.set_cons_zero, List.set_cons_succ, List.cons_append, List.nil_append] at hA); (have hF := hA.facts); (try simp only [facts_cons, facts_nil, facts_cells, facts_old, facts_fact, facts_obj, facts_map, facts_iter, and_true, true_and] at hF)
        go_wp2_with fail
        go_ret
        exact ⟨rfl, hA.toExt⟩
      · have ht' : decide (time < last + ttl) = false := by simp; omega
        go_wp2_with fail
        refine (expire_yes (l1 := []) (l2 := []) (s := tS n f ttl b t last) (hA.sep1 (by repeat (first | exact Sel.here | apply Sel.there))) h0 h1 hf time (tS_find n f ttl b t last) rfl (by show last + ttl ≤ time; omega)).mono ?_
        rintro e w1 ⟨rfl, hT⟩
        have hB := hA.call1 (by repeat (first | exact Sel.here | apply Sel.there)) hT; clear hF hA hT; have hA := hB; clear hB
        (try simp only [setL, List.set_cons_zero, List.set_cons_succ, List.cons_append, List.nil_append] at hA); (have hF := hA.facts); (try simp only [facts_cons, facts_nil, facts_cells, facts_old, facts_fact, facts_obj, facts_map, facts_iter, and_true, true_and] at hF)
        go_wp2_with fail
        refine (info_any (hA.sep1 (by with_reducible repeat (first | exact Sel.here | apply Sel.there))) h0 h1 hf).mono ?_
        rw [tE_look, tE_info]
        rintro e w1 ⟨rfl, hT⟩; have hB := hA.call1 (by with_reducible repeat (first | exact Sel.here | apply Sel.there)) hT; clear hF hA hT; have hA := hB; clear hB; (try simp only [setL, List.set_cons_zero, List.set_cons_succ, List.cons_append, List.nil_append] at hA); (have hF := hA.facts); (try simp only [facts_cons, facts_nil, facts_cells, facts_old, facts_fact, facts_obj, facts_map, facts_iter, and_true, true_and] at hF)
        go_wp2_with fail
        refine (open_no (ss := [(tS n f ttl b t last).ended]) (hA.sep1 (by repeat (first | exact Sel.here | apply Sel.there))) h0 h1 hf (by simp) ttl again (by rw [tE_look, tE_openE]; omega)).mono ?_
        rw [tE_look, tE_openE]
        rintro e w1 ⟨rfl, hT⟩
        have hB := hA.call1 (by repeat (first | exact Sel.here | apply Sel.there)) hT; clear hF hA hT; have hA := hB; clear hB
        (try simp only [setL, List.set_cons_zero, List.set_cons_succ, List.cons_append, List.nil_append] at hA); (have hF := hA.facts); (try simp only [facts_cons, facts_nil, facts_cells, facts_old, facts_fact, facts_obj, facts_map, facts_iter, and_true, true_and] at hF)
        go_wp2_with fail
        refine (keep_no (hA.sep1 (by with_reducible repeat (first | exact Sel.here | apply Sel.there))) h0 h1 hf again (by rw [tE_look]; rfl)).mono ?_
        rintro e w1 ⟨rfl, hT⟩; have hB := hA.call1 (by with_reducible repeat (first | exact Sel.here | apply Sel.there)) hT; clear hF hA hT; have hA := hB; clear hB; (try simp only [setL, List.set_cons_zero, List.set_cons_succ, List.cons_append, List.nil_append] at hA); (have hF := hA.facts); (try simp only [facts_cons, facts_nil, facts_cells, facts_old, facts_fact, facts_obj, facts_map, facts_iter, and_true, true_and] at hF)
        go_wp2_with fail
        refine (expire_no (hA.sep1 (by with_reducible repeat (first | exact Sel.here | apply Sel.there))) h0 h1 hf again (by rw [tE_look]; rfl)).mono ?_
        rintro e w1 ⟨rfl, hT⟩; have hB := hA.call1 (by with_reducible repeat (first | exact Sel.here | apply Sel.there)) hT; clear hF hA hT; have hA := hB; clear hB; (try simp only [setL, List.set_cons_zero, List.set_cons_succ, List.cons_append, List.nil_append] at hA); (have hF := hA.facts); (try simp only [facts_cons, facts_nil, facts_cells, facts_old, facts_fact, facts_obj, facts_map, facts_iter, and_true, true_and] at hF)
        go_wp2_with fail
        refine (due_closed (hA.sep1 (by with_reducible repeat (first | exact Sel.here | apply Sel.there))) again (fun s hs => by simp at hs; subst hs; rfl)).mono ?_
        rintro e w1 ⟨rfl, hT⟩; have hB := hA.call1 (by with_reducible repeat (first | exact Sel.here | apply Sel.there)) hT; clear hF hA hT; have hA := hB; clear hB; (try simp only [setL, List.set_cons_zero, List.set_cons_succ, List.cons_append, List.nil_append] at hA); (have hF := hA.facts); (try simp only [facts_cons, facts_nil, facts_cells, facts_old, facts_fact, facts_obj, facts_map, facts_iter, and_true, true_and] at hF)
        go_wp2_with fail
        go_ret
        exact ⟨rfl, hA.toExt⟩

set_option maxRecDepth 100000 in
theorem times_any (w : World) (n : Int) (f : ByteArray) (h0 : 0 ≤ n) (h1 : n < big64) (hf : f.size ≤ maxLen) (ttl opened time again : Int) (v : Value) (xs : List Int) (hv : IntsAt w v xs) (hx : xs.length ≤ 9223372036854775807) :
    Calls Try.prog 4 #[.agg #[.int .u64 n, .string f], .int .i64 ttl, .int .i64 opened, v, .int .i64 time, .int .i64 again] w fun e w' => e = .returned (.bool true) ∧ Ext w w' := by
  by_cases g0 : ttl < 0
  · obtain ⟨a, cap, rfl, hcell⟩ := hv
    clear hcell
    have hA := At.start (w0 := w) (L0 := []) trivial
    have hF := hA.facts
    go_enter Try.func4, Try.ntmps4
    go_wp2_with (first | (refine wpList_store_at rfl rfl rfl (by (try simp only [Act.eval, Array.getD_eq_getD_getElem?, List.getElem?_toArray, List.getElem?_cons_succ, List.getElem?_cons_zero, Option.getD_some]) <;> exact rfl) (by exact rfl) hA (by with_reducible repeat (first | exact Sel.here | apply Sel.there)) (by kernel_rfl) rfl (by first | decide | (simp; done) | omega) ?_; intro w1 hB; clear hF hA; have hA := hB; clear hB; (try simp only [setL, List.set_cons_zero, List.set_cons_succ, List.cons_append, List.nil_append] at hA); (have hF := hA.facts); (try simp only [facts_cons, facts_nil, facts_cells, facts_old, facts_fact, facts_obj, facts_map, facts_iter, and_true, true_and] at hF)) | (refine wpList_box_at rfl rfl (by (try simp only [Act.eval, Array.getD_eq_getD_getElem?, List.getElem?_toArray, List.getElem?_cons_succ, List.getElem?_cons_zero, Option.getD_some]) <;> exact rfl) (by exact rfl) hA ?_; intro b1 w1 hB hb1; clear hF hA; have hA := hB; clear hB; (try simp only [setL, List.set_cons_zero, List.set_cons_succ, List.cons_append, List.nil_append] at hA); (have hF := hA.facts); (try simp only [facts_cons, facts_nil, facts_cells, facts_old, facts_fact, facts_obj, facts_map, facts_iter, and_true, true_and] at hF)))
    refine (anchor_any _).mono ?_
    rintro e w1 ⟨rfl, hT⟩
    have hB := hA.ext hT; clear hF hA hT; have hA := hB; clear hB
    (try simp only [setL, List.set_cons_zero, List.set_cons_succ, List.cons_append, List.nil_append] at hA); (have hF := hA.facts); (try simp only [facts_cons, facts_nil, facts_cells, facts_old, facts_fact, facts_obj, facts_map, facts_iter, and_true, true_and] at hF)
    go_wp2_with (first | (refine wpList_store_at rfl rfl rfl (by (try simp only [Act.eval, Array.getD_eq_getD_getElem?, List.getElem?_toArray, List.getElem?_cons_succ, List.getElem?_cons_zero, Option.getD_some]) <;> exact rfl) (by exact rfl) hA (by with_reducible repeat (first | exact Sel.here | apply Sel.there)) (by kernel_rfl) rfl (by first | decide | (simp; done) | omega) ?_; intro w1 hB; clear hF hA; have hA := hB; clear hB; (try simp only [setL, List.set_cons_zero, List.set_cons_succ, List.cons_append, List.nil_append] at hA); (have hF := hA.facts); (try simp only [facts_cons, facts_nil, facts_cells, facts_old, facts_fact, facts_obj, facts_map, facts_iter, and_true, true_and] at hF)) | (refine wpList_box_at rfl rfl (by (try simp only [Act.eval, Array.getD_eq_getD_getElem?, List.getElem?_toArray, List.getElem?_cons_succ, List.getElem?_cons_zero, Option.getD_some]) <;> exact rfl) (by exact rfl) hA ?_; intro b1 w1 hB hb1; clear hF hA; have hA := hB; clear hB; (try simp only [setL, List.set_cons_zero, List.set_cons_succ, List.cons_append, List.nil_append] at hA); (have hF := hA.facts); (try simp only [facts_cons, facts_nil, facts_cells, facts_old, facts_fact, facts_obj, facts_map, facts_iter, and_true, true_and] at hF)))
    go_ret
    exact ⟨rfl, hA.toExt⟩
  by_cases g1 : 1048576 < ttl
  · obtain ⟨a, cap, rfl, hcell⟩ := hv
    clear hcell
    have hA := At.start (w0 := w) (L0 := []) trivial
    have hF := hA.facts
    have d0 : decide (ttl < 0) = false := by simp; omega
    clear g0
    go_enter Try.func4, Try.ntmps4
    go_wp2_with (first | (refine wpList_store_at rfl rfl rfl (by (try simp only [Act.eval, Array.getD_eq_getD_getElem?, List.getElem?_toArray, List.getElem?_cons_succ, List.getElem?_cons_zero, Option.getD_some]) <;> exact rfl) (by exact rfl) hA (by with_reducible repeat (first | exact Sel.here | apply Sel.there)) (by kernel_rfl) rfl (by first | decide | (simp; done) | omega) ?_; intro w1 hB; clear hF hA; have hA := hB; clear hB; (try simp only [setL, List.set_cons_zero, List.set_cons_succ, List.cons_append, List.nil_append] at hA); (have hF := hA.facts); (try simp only [facts_cons, facts_nil, facts_cells, facts_old, facts_fact, facts_obj, facts_map, facts_iter, and_true, true_and] at hF)) | (refine wpList_box_at rfl rfl (by (try simp only [Act.eval, Array.getD_eq_getD_getElem?, List.getElem?_toArray, List.getElem?_cons_succ, List.getElem?_cons_zero, Option.getD_some]) <;> exact rfl) (by exact rfl) hA ?_; intro b1 w1 hB hb1; clear hF hA; have hA := hB; clear hB; (try simp only [setL, List.set_cons_zero, List.set_cons_succ, List.cons_append, List.nil_append] at hA); (have hF := hA.facts); (try simp only [facts_cons, facts_nil, facts_cells, facts_old, facts_fact, facts_obj, facts_map, facts_iter, and_true, true_and] at hF)))
    refine (anchor_any _).mono ?_
    rintro e w1 ⟨rfl, hT⟩
    have hB := hA.ext hT; clear hF hA hT; have hA := hB; clear hB
    (try simp only [setL, List.set_cons_zero, List.set_cons_succ, List.cons_append, List.nil_append] at hA); (have hF := hA.facts); (try simp only [facts_cons, facts_nil, facts_cells, facts_old, facts_fact, facts_obj, facts_map, facts_iter, and_true, true_and] at hF)
    go_wp2_with (first | (refine wpList_store_at rfl rfl rfl (by (try simp only [Act.eval, Array.getD_eq_getD_getElem?, List.getElem?_toArray, List.getElem?_cons_succ, List.getElem?_cons_zero, Option.getD_some]) <;> exact rfl) (by exact rfl) hA (by with_reducible repeat (first | exact Sel.here | apply Sel.there)) (by kernel_rfl) rfl (by first | decide | (simp; done) | omega) ?_; intro w1 hB; clear hF hA; have hA := hB; clear hB; (try simp only [setL, List.set_cons_zero, List.set_cons_succ, List.cons_append, List.nil_append] at hA); (have hF := hA.facts); (try simp only [facts_cons, facts_nil, facts_cells, facts_old, facts_fact, facts_obj, facts_map, facts_iter, and_true, true_and] at hF)) | (refine wpList_box_at rfl rfl (by (try simp only [Act.eval, Array.getD_eq_getD_getElem?, List.getElem?_toArray, List.getElem?_cons_succ, List.getElem?_cons_zero, Option.getD_some]) <;> exact rfl) (by exact rfl) hA ?_; intro b1 w1 hB hb1; clear hF hA; have hA := hB; clear hB; (try simp only [setL, List.set_cons_zero, List.set_cons_succ, List.cons_append, List.nil_append] at hA); (have hF := hA.facts); (try simp only [facts_cons, facts_nil, facts_cells, facts_old, facts_fact, facts_obj, facts_map, facts_iter, and_true, true_and] at hF)))
    go_ret
    exact ⟨rfl, hA.toExt⟩
  by_cases g2 : opened < 0
  · obtain ⟨a, cap, rfl, hcell⟩ := hv
    clear hcell
    have hA := At.start (w0 := w) (L0 := []) trivial
    have hF := hA.facts
    have d0 : decide (ttl < 0) = false := by simp; omega
    have d1 : decide (1048576 < ttl) = false := by simp; omega
    clear g0 g1
    go_enter Try.func4, Try.ntmps4
    go_wp2_with (first | (refine wpList_store_at rfl rfl rfl (by (try simp only [Act.eval, Array.getD_eq_getD_getElem?, List.getElem?_toArray, List.getElem?_cons_succ, List.getElem?_cons_zero, Option.getD_some]) <;> exact rfl) (by exact rfl) hA (by with_reducible repeat (first | exact Sel.here | apply Sel.there)) (by kernel_rfl) rfl (by first | decide | (simp; done) | omega) ?_; intro w1 hB; clear hF hA; have hA := hB; clear hB; (try simp only [setL, List.set_cons_zero, List.set_cons_succ, List.cons_append, List.nil_append] at hA); (have hF := hA.facts); (try simp only [facts_cons, facts_nil, facts_cells, facts_old, facts_fact, facts_obj, facts_map, facts_iter, and_true, true_and] at hF)) | (refine wpList_box_at rfl rfl (by (try simp only [Act.eval, Array.getD_eq_getD_getElem?, List.getElem?_toArray, List.getElem?_cons_succ, List.getElem?_cons_zero, Option.getD_some]) <;> exact rfl) (by exact rfl) hA ?_; intro b1 w1 hB hb1; clear hF hA; have hA := hB; clear hB; (try simp only [setL, List.set_cons_zero, List.set_cons_succ, List.cons_append, List.nil_append] at hA); (have hF := hA.facts); (try simp only [facts_cons, facts_nil, facts_cells, facts_old, facts_fact, facts_obj, facts_map, facts_iter, and_true, true_and] at hF)))
    refine (anchor_any _).mono ?_
    rintro e w1 ⟨rfl, hT⟩
    have hB := hA.ext hT; clear hF hA hT; have hA := hB; clear hB
    (try simp only [setL, List.set_cons_zero, List.set_cons_succ, List.cons_append, List.nil_append] at hA); (have hF := hA.facts); (try simp only [facts_cons, facts_nil, facts_cells, facts_old, facts_fact, facts_obj, facts_map, facts_iter, and_true, true_and] at hF)
    go_wp2_with (first | (refine wpList_store_at rfl rfl rfl (by (try simp only [Act.eval, Array.getD_eq_getD_getElem?, List.getElem?_toArray, List.getElem?_cons_succ, List.getElem?_cons_zero, Option.getD_some]) <;> exact rfl) (by exact rfl) hA (by with_reducible repeat (first | exact Sel.here | apply Sel.there)) (by kernel_rfl) rfl (by first | decide | (simp; done) | omega) ?_; intro w1 hB; clear hF hA; have hA := hB; clear hB; (try simp only [setL, List.set_cons_zero, List.set_cons_succ, List.cons_append, List.nil_append] at hA); (have hF := hA.facts); (try simp only [facts_cons, facts_nil, facts_cells, facts_old, facts_fact, facts_obj, facts_map, facts_iter, and_true, true_and] at hF)) | (refine wpList_box_at rfl rfl (by (try simp only [Act.eval, Array.getD_eq_getD_getElem?, List.getElem?_toArray, List.getElem?_cons_succ, List.getElem?_cons_zero, Option.getD_some]) <;> exact rfl) (by exact rfl) hA ?_; intro b1 w1 hB hb1; clear hF hA; have hA := hB; clear hB; (try simp only [setL, List.set_cons_zero, List.set_cons_succ, List.cons_append, List.nil_append] at hA); (have hF := hA.facts); (try simp only [facts_cons, facts_nil, facts_cells, facts_old, facts_fact, facts_obj, facts_map, facts_iter, and_true, true_and] at hF)))
    go_ret
    exact ⟨rfl, hA.toExt⟩
  by_cases g3 : 1099511627776 < opened
  · obtain ⟨a, cap, rfl, hcell⟩ := hv
    clear hcell
    have hA := At.start (w0 := w) (L0 := []) trivial
    have hF := hA.facts
    have d0 : decide (ttl < 0) = false := by simp; omega
    have d1 : decide (1048576 < ttl) = false := by simp; omega
    have d2 : decide (opened < 0) = false := by simp; omega
    clear g0 g1 g2
    go_enter Try.func4, Try.ntmps4
    go_wp2_with (first | (refine wpList_store_at rfl rfl rfl (by (try simp only [Act.eval, Array.getD_eq_getD_getElem?, List.getElem?_toArray, List.getElem?_cons_succ, List.getElem?_cons_zero, Option.getD_some]) <;> exact rfl) (by exact rfl) hA (by with_reducible repeat (first | exact Sel.here | apply Sel.there)) (by kernel_rfl) rfl (by first | decide | (simp; done) | omega) ?_; intro w1 hB; clear hF hA; have hA := hB; clear hB; (try simp only [setL, List.set_cons_zero, List.set_cons_succ, List.cons_append, List.nil_append] at hA); (have hF := hA.facts); (try simp only [facts_cons, facts_nil, facts_cells, facts_old, facts_fact, facts_obj, facts_map, facts_iter, and_true, true_and] at hF)) | (refine wpList_box_at rfl rfl (by (try simp only [Act.eval, Array.getD_eq_getD_getElem?, List.getElem?_toArray, List.getElem?_cons_succ, List.getElem?_cons_zero, Option.getD_some]) <;> exact rfl) (by exact rfl) hA ?_; intro b1 w1 hB hb1; clear hF hA; have hA := hB; clear hB; (try simp only [setL, List.set_cons_zero, List.set_cons_succ, List.cons_append, List.nil_append] at hA); (have hF := hA.facts); (try simp only [facts_cons, facts_nil, facts_cells, facts_old, facts_fact, facts_obj, facts_map, facts_iter, and_true, true_and] at hF)))
    refine (anchor_any _).mono ?_
    rintro e w1 ⟨rfl, hT⟩
    have hB := hA.ext hT; clear hF hA hT; have hA := hB; clear hB
    (try simp only [setL, List.set_cons_zero, List.set_cons_succ, List.cons_append, List.nil_append] at hA); (have hF := hA.facts); (try simp only [facts_cons, facts_nil, facts_cells, facts_old, facts_fact, facts_obj, facts_map, facts_iter, and_true, true_and] at hF)
    go_wp2_with (first | (refine wpList_store_at rfl rfl rfl (by (try simp only [Act.eval, Array.getD_eq_getD_getElem?, List.getElem?_toArray, List.getElem?_cons_succ, List.getElem?_cons_zero, Option.getD_some]) <;> exact rfl) (by exact rfl) hA (by with_reducible repeat (first | exact Sel.here | apply Sel.there)) (by kernel_rfl) rfl (by first | decide | (simp; done) | omega) ?_; intro w1 hB; clear hF hA; have hA := hB; clear hB; (try simp only [setL, List.set_cons_zero, List.set_cons_succ, List.cons_append, List.nil_append] at hA); (have hF := hA.facts); (try simp only [facts_cons, facts_nil, facts_cells, facts_old, facts_fact, facts_obj, facts_map, facts_iter, and_true, true_and] at hF)) | (refine wpList_box_at rfl rfl (by (try simp only [Act.eval, Array.getD_eq_getD_getElem?, List.getElem?_toArray, List.getElem?_cons_succ, List.getElem?_cons_zero, Option.getD_some]) <;> exact rfl) (by exact rfl) hA ?_; intro b1 w1 hB hb1; clear hF hA; have hA := hB; clear hB; (try simp only [setL, List.set_cons_zero, List.set_cons_succ, List.cons_append, List.nil_append] at hA); (have hF := hA.facts); (try simp only [facts_cons, facts_nil, facts_cells, facts_old, facts_fact, facts_obj, facts_map, facts_iter, and_true, true_and] at hF)))
    go_ret
    exact ⟨rfl, hA.toExt⟩
  by_cases g4 : 40 < xs.length
  · obtain ⟨a, cap, rfl, hcell⟩ := hv
    clear hcell
    have hA := At.start (w0 := w) (L0 := []) trivial
    have hF := hA.facts
    have d0 : decide (ttl < 0) = false := by simp; omega
    have d1 : decide (1048576 < ttl) = false := by simp; omega
    have d2 : decide (opened < 0) = false := by simp; omega
    have d3 : decide (1099511627776 < opened) = false := by simp; omega
    have g4' : (40 : Int) < (xs.length : Int) := by omega
    clear g0 g1 g2 g3 g4
    go_enter Try.func4, Try.ntmps4
    go_wp2_with (first | (refine wpList_store_at rfl rfl rfl (by (try simp only [Act.eval, Array.getD_eq_getD_getElem?, List.getElem?_toArray, List.getElem?_cons_succ, List.getElem?_cons_zero, Option.getD_some]) <;> exact rfl) (by exact rfl) hA (by with_reducible repeat (first | exact Sel.here | apply Sel.there)) (by kernel_rfl) rfl (by first | decide | (simp; done) | omega) ?_; intro w1 hB; clear hF hA; have hA := hB; clear hB; (try simp only [setL, List.set_cons_zero, List.set_cons_succ, List.cons_append, List.nil_append] at hA); (have hF := hA.facts); (try simp only [facts_cons, facts_nil, facts_cells, facts_old, facts_fact, facts_obj, facts_map, facts_iter, and_true, true_and] at hF)) | (refine wpList_box_at rfl rfl (by (try simp only [Act.eval, Array.getD_eq_getD_getElem?, List.getElem?_toArray, List.getElem?_cons_succ, List.getElem?_cons_zero, Option.getD_some]) <;> exact rfl) (by exact rfl) hA ?_; intro b1 w1 hB hb1; clear hF hA; have hA := hB; clear hB; (try simp only [setL, List.set_cons_zero, List.set_cons_succ, List.cons_append, List.nil_append] at hA); (have hF := hA.facts); (try simp only [facts_cons, facts_nil, facts_cells, facts_old, facts_fact, facts_obj, facts_map, facts_iter, and_true, true_and] at hF)))
    refine (anchor_any _).mono ?_
    rintro e w1 ⟨rfl, hT⟩
    have hB := hA.ext hT; clear hF hA hT; have hA := hB; clear hB
    (try simp only [setL, List.set_cons_zero, List.set_cons_succ, List.cons_append, List.nil_append] at hA); (have hF := hA.facts); (try simp only [facts_cons, facts_nil, facts_cells, facts_old, facts_fact, facts_obj, facts_map, facts_iter, and_true, true_and] at hF)
    go_wp2_with (first | (refine wpList_store_at rfl rfl rfl (by (try simp only [Act.eval, Array.getD_eq_getD_getElem?, List.getElem?_toArray, List.getElem?_cons_succ, List.getElem?_cons_zero, Option.getD_some]) <;> exact rfl) (by exact rfl) hA (by with_reducible repeat (first | exact Sel.here | apply Sel.there)) (by kernel_rfl) rfl (by first | decide | (simp; done) | omega) ?_; intro w1 hB; clear hF hA; have hA := hB; clear hB; (try simp only [setL, List.set_cons_zero, List.set_cons_succ, List.cons_append, List.nil_append] at hA); (have hF := hA.facts); (try simp only [facts_cons, facts_nil, facts_cells, facts_old, facts_fact, facts_obj, facts_map, facts_iter, and_true, true_and] at hF)) | (refine wpList_box_at rfl rfl (by (try simp only [Act.eval, Array.getD_eq_getD_getElem?, List.getElem?_toArray, List.getElem?_cons_succ, List.getElem?_cons_zero, Option.getD_some]) <;> exact rfl) (by exact rfl) hA ?_; intro b1 w1 hB hb1; clear hF hA; have hA := hB; clear hB; (try simp only [setL, List.set_cons_zero, List.set_cons_succ, List.cons_append, List.nil_append] at hA); (have hF := hA.facts); (try simp only [facts_cons, facts_nil, facts_cells, facts_old, facts_fact, facts_obj, facts_map, facts_iter, and_true, true_and] at hF)))
    go_ret
    exact ⟨rfl, hA.toExt⟩
  exact times_in w n f h0 h1 hf ttl opened time again v xs hv (by omega) (by omega) (by omega) (by omega) (by omega)
end Go.Proofs.Yticmopnbfpgaiaa.Lease
