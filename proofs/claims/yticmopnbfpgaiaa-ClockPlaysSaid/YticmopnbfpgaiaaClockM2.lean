/- The document's answer of layer 20 (clock): Forget, before. -/
import Derived.Test.YticmopnbfpgaiaaClockM
namespace Go.Proofs.Yticmopnbfpgaiaa.Clk
open Go.RowKit
open _root_.Go.Proofs.Yticmopnbfpgaiaa.Mark (idV idL ltID)
set_option linter.unusedSimpArgs false
set_option linter.unusedVariables false
attribute [-go_sem] run_eql_struct run_neq_struct run_eqGuard_agg
attribute [local go_sem] guardM eqlM neqM guardR eqlR neqR

theorem infoW : (Try.prog.info? 151).map (fun i => (i.zero, i.size, i.bytes)) = some (some (.agg #[.int .i64 0, .int .i64 0, .int .i64 0]), 3, 24) := by kernel_rfl
theorem row_snoc (v : Value) (l : List WR) (x : WR) : Part.row 151 3 v (l.length + 1) (flatW l ++ wL x) = rowW v (l ++ [x]) := by
  simp [flatW, rowW]
theorem wL_one (x : WR) : ∀ u ∈ wL x, u.oneCell' = true := by
  intro u hu
  simp only [wL, List.mem_cons, List.not_mem_nil, or_false] at hu
  rcases hu with rfl | rfl | rfl <;> rfl
theorem forget_snoc (l : List WR) (id : I2) (i : Nat) (hi : i < l.length) : forgetL (l.take (i + 1)) id = if (l[i].1 == id) = true then forgetL (l.take i) id else forgetL (l.take i) id ++ [l[i]] := by
  unfold forgetL
  rw [List.take_succ_eq_append_getElem hi, List.filter_append]
  by_cases h : (l[i].1 == id) = true
  · simp only [h, if_true]
    simp [h]
    simpa using h
  · simp only [h]
    simp at h
    simp [h]
theorem forget_le (l : List WR) (id : I2) : (forgetL l id).length ≤ l.length := List.length_filter_le _ _

def ForgetRel (w : World) (v : Value) (l : List WR) (id : I2) (b : Nat) (k : Nat) (u5 u6 : Value) (wr : World) : Prop :=
  ∃ i : Nat, u6 = .int .i64 i ∧ i + k = l.length ∧ At [rowW v l] w [rowW u5 (forgetL (l.take i) id), Part.cells b (idL id) 54, rowW v l] wr
def ForgetPost (w : World) (v : Value) (l : List WR) (id : I2) (e : Ending) (w' : World) : Prop := ∃ vo, e = .returned vo ∧ At [rowW v l] w [rowW vo (forgetL l id), rowW v l] w'
set_option maxRecDepth 100000 in
theorem forget_any {w : World} {v : Value} {l : List WR} (h : Sep [rowW v l] w) (id : I2) (hmax : l.length ≤ 1000000) :
    Calls Try.prog 32 #[v, .agg #[.int .i64 id.1, .int .i64 id.2]] w (ForgetPost w v l id) := by
  obtain ⟨i0, hi0, hz0, hz1, hz2⟩ := info_parts infoW
  have hA := At.start h
  have hF := hA.facts
  clear h
  obtain ⟨ax, cap, rfl, hax, hcap, _⟩ := hA.row_form (by with_reducible repeat (first | exact Sel.here | apply Sel.there))
  go_enter Try.func32, Try.ntmps32
  go_wp2_with (first | (refine wpList_store_at rfl rfl rfl (by (try simp only [Act.eval, Array.getD_eq_getD_getElem?, List.getElem?_toArray, List.getElem?_cons_succ, List.getElem?_cons_zero, Option.getD_some]) <;> exact rfl) (by exact rfl) hA (by with_reducible repeat (first | exact Sel.here | apply Sel.there)) (by kernel_rfl) rfl (by first | decide | (simp; done) | omega) ?_; intro w1 hB; clear hF hA; have hA := hB; clear hB; (try simp only [setL, List.set_cons_zero, List.set_cons_succ, List.cons_append, List.nil_append] at hA); (have hF := hA.facts); (try simp only [facts_cons, facts_nil, facts_cells, facts_old, facts_fact, facts_obj, facts_map, facts_iter, and_true, true_and] at hF)) | (refine wpList_box_at rfl rfl (by (try simp only [Act.eval, Array.getD_eq_getD_getElem?, List.getElem?_toArray, List.getElem?_cons_succ, List.getElem?_cons_zero, Option.getD_some]) <;> exact rfl) (by exact rfl) hA ?_; intro b1 w1 hB hb1; clear hF hA; have hA := hB; clear hB; (try simp only [setL, List.set_cons_zero, List.set_cons_succ, List.cons_append, List.nil_append] at hA); (have hF := hA.facts); (try simp only [facts_cons, facts_nil, facts_cells, facts_old, facts_fact, facts_obj, facts_map, facts_iter, and_true, true_and] at hF)))
  try go_frame
  go_loopg [5, 6] l.length (ForgetRel w (.slice ax l.length cap) l id b1)
  case atStart => exact ⟨0, rfl, by simp, (hA.row_nil 151 3).perm (List.Perm.refl _)⟩
  case round =>
    obtain ⟨i, rfl, hik, hB⟩ := hrel
    clear hF hA
    have hA := hB
    clear hB
    by_cases hi : i < l.length
    · obtain ⟨g, c, rfl, _, hcm, hcl, hct, hB⟩ := hA.row_open (ax := ax) (cap := cap) (n := l.length) (xs := flatW l) (by with_reducible repeat (first | exact Sel.here | apply Sel.there)) (by omega)
      have hx : l[i]? = some l[i] := List.getElem?_eq_getElem hi
      have c0 : c[i * 3]? = some (.int .i64 l[i].1.1) := cells_at wL_len hct hx 0 (by omega)
      have c1 : c[i * 3 + 1]? = some (.int .i64 l[i].1.2) := cells_at wL_len hct hx 1 (by omega)
      have c2 : c[i * 3 + 2]? = some (.int .i64 l[i].2) := cells_at wL_len hct hx 2 (by omega)
      have hsn := Lib.hid (forget_snoc l id i hi)
      have hle := forget_le (l.take i) id
      rw [List.length_take] at hle
      clear hA
      have hA := hB
      clear hB
      unfold idL at hA
      (try simp only [setL, List.set_cons_zero, List.set_cons_succ, List.cons_append, List.nil_append] at hA); (have hF := hA.facts); (try simp only [facts_cons, facts_nil, facts_cells, facts_old, facts_fact, facts_obj, facts_map, facts_iter, and_true, true_and] at hF)
      by_cases hq : (l[i].1 == id) = true
      · go_wp2_with fail
        go_quiet (fail)
        have hA := hA.drewN nq; generalize World.drewN _ nq = w1 at *; clear hF; (try simp only [setL, List.set_cons_zero, List.set_cons_succ, List.cons_append, List.nil_append] at hA); (have hF := hA.facts); (try simp only [facts_cons, facts_nil, facts_cells, facts_old, facts_fact, facts_obj, facts_map, facts_iter, and_true, true_and] at hF)
        go_wp2_with fail
        go_roundg (gk - 1)
        case measure => omega
        case rel => exact ⟨i + 1, by simp, by omega, by
          rw [hsn.out, if_pos hq]
          exact (shut_w hA (by with_reducible repeat (first | exact Sel.here | apply Sel.there)) hcl hcap hcm hct).only3 (by repeat (first | exact Sel.here | apply Sel.there)) (by repeat (first | exact Sel.here | apply Sel.there)) (by with_reducible repeat (first | exact Sel.here | apply Sel.there))⟩
      · have hq' : (l[i].1 == id) = false := by simpa using hq
        go_wp2_with fail
        go_quiet (fail)
        have hA := hA.drewN nq; generalize World.drewN _ nq = w1 at *; clear hF; (try simp only [setL, List.set_cons_zero, List.set_cons_succ, List.cons_append, List.nil_append] at hA); (have hF := hA.facts); (try simp only [facts_cons, facts_nil, facts_cells, facts_old, facts_fact, facts_obj, facts_map, facts_iter, and_true, true_and] at hF)
        go_wp2_with (first
          | (refine wpList_one_at (e := 151) (vs := wL l[i]) rfl rfl (by (try simp only [Act.eval, Array.getD_eq_getD_getElem?, List.getElem?_toArray, List.getElem?_cons_succ, List.getElem?_cons_zero, Option.getD_some]) <;> exact rfl) (fun _ => by kernel_rfl) hA ?_; intro b2 w1 hB hb2; clear hF hA; have hA := hB; clear hB; (try simp only [setL, List.set_cons_zero, List.set_cons_succ, List.cons_append, List.nil_append] at hA); (have hF := hA.facts); (try simp only [facts_cons, facts_nil, facts_cells, facts_old, facts_fact, facts_obj, facts_map, facts_iter, and_true, true_and] at hF))
          | (refine wpList_append_at (e := 151) (size := 3) (v := u5) (xs := flatW (forgetL (l.take i) id)) (n := (forgetL (l.take i) id).length) (m := 1) (news := wL l[i]) rfl _ _ 48 rfl Try.underlying48 hi0 hz0 hz1 hz2 rfl (by omega) hA (by with_reducible repeat (first | exact Sel.here | apply Sel.there)) (by (try simp only [Act.eval, Array.getD_eq_getD_getElem?, List.getElem?_toArray, List.getElem?_cons_succ, List.getElem?_cons_zero, Option.getD_some]) <;> exact rfl) (by (try simp only [Act.eval, Array.getD_eq_getD_getElem?, List.getElem?_toArray, List.getElem?_cons_succ, List.getElem?_cons_zero, Option.getD_some]) <;> exact rfl) rfl (hA.cells_reads (by with_reducible repeat (first | exact Sel.here | apply Sel.there)) _ _) (wL_one _) (by unfold maxLen; omega) (by omega) ?_; intro v1 w1 hB; rw [row_snoc] at hB; clear hF hA; have hA := hB; clear hB; (try simp only [setL, List.set_cons_zero, List.set_cons_succ, List.cons_append, List.nil_append] at hA); (have hF := hA.facts); (try simp only [facts_cons, facts_nil, facts_cells, facts_old, facts_fact, facts_obj, facts_map, facts_iter, and_true, true_and] at hF)))
        go_roundg (gk - 1)
        case measure => omega
        case rel => exact ⟨i + 1, by simp, by omega, by
          rw [hsn.out, if_neg hq]
          exact (shut_w hA (by with_reducible repeat (first | exact Sel.here | apply Sel.there)) hcl hcap hcm hct).only3 (by repeat (first | exact Sel.here | apply Sel.there)) (by repeat (first | exact Sel.here | apply Sel.there)) (by with_reducible repeat (first | exact Sel.here | apply Sel.there))⟩
    · have e : l.take i = l := List.take_of_length_le (by omega)
      rw [e] at hA
      go_wp2_with fail
      go_ret
      exact ⟨u5, rfl, hA.only2 (by with_reducible repeat (first | exact Sel.here | apply Sel.there)) (by with_reducible repeat (first | exact Sel.here | apply Sel.there))⟩

theorem twice_at (w : World) (o1 o2 : Obj) : At [] w [] ((w.alloc o1).alloc o2) := (At.start (L0 := []) trivial).ext (((Ext.refl w).alloc _).alloc _)
set_option maxRecDepth 100000 in
theorem before_any (a b : I2) (w : World) : Calls Try.prog 74 #[.agg #[.int .i64 a.1, .int .i64 a.2], .agg #[.int .i64 b.1, .int .i64 b.2]] w fun e w' => e = .returned (.bool (decide (ltID a b))) ∧ At [] w [] w' := by
  unfold ltID
  by_cases h1 : a.1 < b.1
  · go_enter Try.func74, Try.ntmps74
    go_wp2_with fail
    go_ret
    exact ⟨by simp [h1], twice_at _ _ _⟩
  · by_cases h2 : a.1 = b.1
    · have h2' : (a.1 == b.1) = true := by simpa using h2
      go_enter Try.func74, Try.ntmps74
      go_wp2_with fail
      go_ret
      exact ⟨by simp [h1, h2], twice_at _ _ _⟩
    · have h2' : (a.1 == b.1) = false := by simpa using h2
      go_enter Try.func74, Try.ntmps74
      go_wp2_with fail
      go_ret
      exact ⟨by simp [h1, h2], twice_at _ _ _⟩
end Go.Proofs.Yticmopnbfpgaiaa.Clk
