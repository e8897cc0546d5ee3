/- The document's answer of layer 20 (clock): Again. -/
import Derived.Test.YticmopnbfpgaiaaClockM2
import Derived.Test.YticmopnbfpgaiaaRow2
import Derived.BigQuiet
namespace Go.Proofs.Yticmopnbfpgaiaa.Clk
open Go.RowKit
open _root_.Go.Proofs.Yticmopnbfpgaiaa.Mark (idV idL ltID)
set_option linter.unusedSimpArgs false
set_option linter.unusedVariables false
attribute [-go_sem] run_eql_struct run_neq_struct run_eqGuard_agg
attribute [local go_sem] guardM eqlM neqM guardR eqlR neqR

def ahead (id : I2) (x : WR) : Bool := decide (ltID x.1 id)
/-- one in its place -/
def putL (m : List WR) (id : I2) (now : Int) : List WR := m.takeWhile (ahead id) ++ (id, now) :: m.dropWhile (ahead id)
def againL (l : List WR) (id : I2) (now : Int) : List WR := putL (forgetL l id) id now
theorem put_at {m : List WR} {id : I2} {now : Int} {i : Nat} (hi : i ≤ m.length) (h1 : ∀ x ∈ m.take i, ahead id x = true) (h2 : ∀ h : i < m.length, ahead id m[i] = false) : putL m id now = m.take i ++ (id, now) :: m.drop i := by
  have e1 : m.takeWhile (ahead id) = m.take i ∧ m.dropWhile (ahead id) = m.drop i := by
    induction m generalizing i with
    | nil => simp
    | cons y m ih =>
      cases i with
      | zero =>
        have := h2 (by simp)
        simp at this
        simp [this]
      | succ i =>
        have hy := h1 y (by simp)
        have := ih (i := i) (by simpa using hi) (fun x hx => h1 x (by simp [hx])) (fun h => h2 (by simp; exact h))
        simp [hy, this]
  unfold putL
  rw [e1.1, e1.2]
theorem flatW_take (l : List WR) (k : Nat) : (flatW l).take (k * 3) = flatW (l.take k) := by
  induction l generalizing k with
  | nil => simp [flatW]
  | cons x l ih =>
    cases k with
    | zero => simp [flatW]
    | succ k =>
      have := ih k
      unfold flatW at *
      rw [List.take_succ_cons, List.flatMap_cons, List.flatMap_cons, ← this, List.take_append]
      have e : (wL x).length = 3 := rfl
      rw [List.take_of_length_le (by omega), e, show (k + 1) * 3 - 3 = k * 3 by omega]
theorem flatW_drop (l : List WR) (k : Nat) : (flatW l).drop (k * 3) = flatW (l.drop k) := by
  induction l generalizing k with
  | nil => simp [flatW]
  | cons x l ih =>
    cases k with
    | zero => simp [flatW]
    | succ k =>
      have := ih k
      unfold flatW at *
      rw [List.drop_succ_cons, List.flatMap_cons, ← this, List.drop_append]
      have e : (wL x).length = 3 := rfl
      rw [List.drop_eq_nil_of_le (by omega), e, show (k + 1) * 3 - 3 = k * 3 by omega, List.nil_append]
theorem flatW_one (l : List WR) : ∀ u ∈ flatW l, u.oneCell' = true := by
  intro u hu
  obtain ⟨x, _, hx⟩ := List.mem_flatMap.1 hu
  exact wL_one x u hx
theorem flatW_len (l : List WR) : (flatW l).length = l.length * 3 := flat_len wL 3 wL_len l

theorem before_in {L0 L : List Part} {w0 w : World} (h : At L0 w0 L w) (a b : I2) {v : Bool} (hv : decide (ltID a b) = v) :
    Calls Try.prog 74 #[.agg #[.int .i64 a.1, .int .i64 a.2], .agg #[.int .i64 b.1, .int .i64 b.2]] w fun e w' => e = .returned (.bool v) ∧ At L0 w0 L w' := by
  subst hv
  exact (before_any a b w).mono fun _ _ ⟨h1, h2⟩ => ⟨h1, h.call0 h2⟩
theorem take_two {c : List Value} {k : Nat} {a b : Value} (h0 : c[k]? = some a) (h1 : c[k + 1]? = some b) : (c.drop k).take 2 = [a, b] := by
  apply List.ext_getElem?
  intro j
  match j with
  | 0 => simp [h0]
  | 1 => simp [h1]
  | j + 2 =>
    rw [List.getElem?_eq_none (by rw [List.length_take]; omega)]
    simp
theorem row_app (v : Value) (l1 l2 : List WR) : Part.row 151 3 v (l1.length + l2.length) (flatW l1 ++ flatW l2) = rowW v (l1 ++ l2) := by simp [flatW, rowW]
theorem row_nilW {L0 L : List Part} {w0 w : World} (h : At L0 w0 L w) : At L0 w0 (rowW (.slice none 0 0) [] :: L) w := h.row_nil 151 3
def AgainRel (w : World) (v vo : Value) (l m : List WR) (id : I2) (b : Nat) (k : Nat) (u7 : Value) (wr : World) : Prop :=
  ∃ i : Nat, u7 = .int .i64 i ∧ i + k = m.length ∧ At [rowW v l] w [rowW vo m, Part.cells b (idL id) 54, rowW v l] wr ∧ ∀ x ∈ m.take i, ahead id x = true
def AgainPost (w : World) (v : Value) (l : List WR) (id : I2) (now : Int) (e : Ending) (w' : World) : Prop := ∃ vo, e = .returned vo ∧ At [rowW v l] w [rowW vo (againL l id now), rowW v l] w'
set_option maxRecDepth 100000 in
set_option maxHeartbeats 1000000 in
theorem again_any {w : World} {v : Value} {l : List WR} (h : Sep [rowW v l] w) (id : I2) (now : Int) (hmax : l.length ≤ 1000000) :
    Calls Try.prog 28 #[v, .agg #[.int .i64 id.1, .int .i64 id.2], .int .i64 now] w (AgainPost w v l id now) := by
  obtain ⟨i0, hi0, hz0, hz1, hz2⟩ := info_parts infoW
  have hA := At.start h
  have hF := hA.facts
  clear h
  go_enter Try.func28, Try.ntmps28
  go_wp2_with (first | (refine wpList_store_at rfl rfl rfl (by (try simp only [Act.eval, Array.getD_eq_getD_getElem?, List.getElem?_toArray, List.getElem?_cons_succ, List.getElem?_cons_zero, Option.getD_some]) <;> exact rfl) (by exact rfl) hA (by with_reducible repeat (first | exact Sel.here | apply Sel.there)) (by kernel_rfl) rfl (by first | decide | (simp; done) | omega) ?_; intro w1 hB; clear hF hA; have hA := hB; clear hB; (try simp only [setL, List.set_cons_zero, List.set_cons_succ, List.cons_append, List.nil_append] at hA); (have hF := hA.facts); (try simp only [facts_cons, facts_nil, facts_cells, facts_old, facts_fact, facts_obj, facts_map, facts_iter, and_true, true_and] at hF)) | (refine wpList_box_at rfl rfl (by (try simp only [Act.eval, Array.getD_eq_getD_getElem?, List.getElem?_toArray, List.getElem?_cons_succ, List.getElem?_cons_zero, Option.getD_some]) <;> exact rfl) (by exact rfl) hA ?_; intro b1 w1 hB hb1; clear hF hA; have hA := hB; clear hB; (try simp only [setL, List.set_cons_zero, List.set_cons_succ, List.cons_append, List.nil_append] at hA); (have hF := hA.facts); (try simp only [facts_cons, facts_nil, facts_cells, facts_old, facts_fact, facts_obj, facts_map, facts_iter, and_true, true_and] at hF)))
  refine (forget_any (hA.sep1 (by with_reducible repeat (first | exact Sel.here | apply Sel.there))) id hmax).mono ?_
  rintro e w2 ⟨vo, rfl, hT⟩
  have hB := hA.call1 (by with_reducible repeat (first | exact Sel.here | apply Sel.there)) hT
  clear hF hA hT
  have hA := hB
  clear hB
  (try simp only [setL, List.set_cons_zero, List.set_cons_succ, List.cons_append, List.nil_append] at hA); (have hF := hA.facts); (try simp only [facts_cons, facts_nil, facts_cells, facts_old, facts_fact, facts_obj, facts_map, facts_iter, and_true, true_and] at hF)
  have hml := forget_le l id
  generalize hm0 : forgetL l id = m at *
  have hm := Lib.hid hm0
  clear hm0
  obtain ⟨ax, cap, rfl, hax, hcap, _⟩ := hA.row_form (v := vo) (xs := flatW m) (by with_reducible repeat (first | exact Sel.here | apply Sel.there))
  go_wp2_with fail
  go_loopg [7] m.length (AgainRel w v (.slice ax m.length cap) l m id b1)
  case atStart => exact ⟨0, rfl, by simp, hA.only3 (by with_reducible repeat (first | exact Sel.here | apply Sel.there)) (by repeat (first | exact Sel.here | apply Sel.there)) (by with_reducible repeat (first | exact Sel.here | apply Sel.there)), by simp⟩
  case round =>
    obtain ⟨i, rfl, hik, hB, hah⟩ := hrel
    clear hF hA
    have hA := hB
    clear hB
    unfold idL at hA
    by_cases hst : ∃ h : i < m.length, ahead id m[i] = true
    · obtain ⟨hi, hai⟩ := hst
      obtain ⟨g, c, rfl, _, hcm, hcl, hct, hB⟩ := hA.row_open (ax := ax) (cap := cap) (n := m.length) (xs := flatW m) (by with_reducible repeat (first | exact Sel.here | apply Sel.there)) (by omega)
      have hx : m[i]? = some m[i] := List.getElem?_eq_getElem hi
      have c0 : c[i * 3]? = some (.int .i64 m[i].1.1) := cells_at wL_len hct hx 0 (by omega)
      have c1 : c[i * 3 + 1]? = some (.int .i64 m[i].1.2) := cells_at wL_len hct hx 1 (by omega)
      clear hA
      have hA := hB
      clear hB
      (try simp only [setL, List.set_cons_zero, List.set_cons_succ, List.cons_append, List.nil_append] at hA); (have hF := hA.facts); (try simp only [facts_cons, facts_nil, facts_cells, facts_old, facts_fact, facts_obj, facts_map, facts_iter, and_true, true_and] at hF)
      have hah2 : decide (ltID m[i].1 id) = true := hai
      have hd := take_two c0 c1
      go_wp2_with fail
      (refine wp_region_all (Cl _ _ _) (by kernel_rfl) (by kernel_rfl) (Cl.drew hA) ?_); (have hn1 := Cl.none hA); (have hn2 := Cl.none2 hA); (repeat (first | go_big_quiet_skip | (go_big_quiet_want; (first | (refine quiet_loads_at (ty := 54) (n := 2) rfl rfl (by with_reducible repeat (first | exact Sel.here | apply Sel.there)) (by kernel_rfl) (by kernel_rfl) (by first | assumption | ((try simp only [List.drop_succ_cons, List.drop_zero, List.take_succ_cons, List.take_zero]) <;> exact rfl)) (by exact rfl) ?_; go_frame; go_big_quiet_on) | (refine quiet_load_at rfl rfl (by with_reducible repeat (first | exact Sel.here | apply Sel.there)) (by kernel_rfl) (by first | assumption | exact rfl) ?_; go_frame; go_big_quiet_on) | (go_big_quiet_op; (first | go_big_quiet_on | ((apply Exists.intro); (refine ⟨fun w1 hw => ?_, ?_⟩); (focus ((have hw := Cl.out hw); (exact before_in hw _ _ hah2))); (go_big_quiet_on))))))))
      (refine wpQuiet_nil ?_); (intro w1 hB); (clear hF hA hn1 hn2); (have hA := Cl.out hB); (clear hB); (try simp only [setL, List.set_cons_zero, List.set_cons_succ, List.cons_append, List.nil_append] at hA); (have hF := hA.facts); (try simp only [facts_cons, facts_nil, facts_cells, facts_old, facts_fact, facts_obj, facts_map, facts_iter, and_true, true_and] at hF)
      go_wp2_with fail
      go_roundg (gk - 1)
      case measure => omega
      case rel => exact ⟨i + 1, by simp, by omega, (shut_w hA (by with_reducible repeat (first | exact Sel.here | apply Sel.there)) hcl hcap hcm hct).only3 (by repeat (first | exact Sel.here | apply Sel.there)) (by repeat (first | exact Sel.here | apply Sel.there)) (by with_reducible repeat (first | exact Sel.here | apply Sel.there)), fun x hx => by
          rw [List.take_succ_eq_append_getElem hi] at hx
          rcases List.mem_append.1 hx with hx | hx
          · exact hah x hx
          · rw [List.mem_singleton.1 hx]; exact hai⟩
    · have hnot : ∀ h : i < m.length, ahead id m[i] = false := fun h => by
        cases e : ahead id m[i]
        · rfl
        · exact absurd ⟨h, e⟩ hst
      clear hst
      by_cases hi : i < m.length
      · obtain ⟨g, c, rfl, _, hcm, hcl, hct, hB⟩ := hA.row_open (ax := ax) (cap := cap) (n := m.length) (xs := flatW m) (by with_reducible repeat (first | exact Sel.here | apply Sel.there)) (by omega)
        have hx : m[i]? = some m[i] := List.getElem?_eq_getElem hi
        have c0 : c[i * 3]? = some (.int .i64 m[i].1.1) := cells_at wL_len hct hx 0 (by omega)
        have c1 : c[i * 3 + 1]? = some (.int .i64 m[i].1.2) := cells_at wL_len hct hx 1 (by omega)
        clear hA
        have hA := hB
        clear hB
        (try simp only [setL, List.set_cons_zero, List.set_cons_succ, List.cons_append, List.nil_append] at hA); (have hF := hA.facts); (try simp only [facts_cons, facts_nil, facts_cells, facts_old, facts_fact, facts_obj, facts_map, facts_iter, and_true, true_and] at hF)
        have hah2 : decide (ltID m[i].1 id) = false := hnot hi
        have hd := take_two c0 c1
        go_wp2_with fail
        (refine wp_region_all (Cl _ _ _) (by kernel_rfl) (by kernel_rfl) (Cl.drew hA) ?_); (have hn1 := Cl.none hA); (have hn2 := Cl.none2 hA); (repeat (first | go_big_quiet_skip | (go_big_quiet_want; (first | (refine quiet_loads_at (ty := 54) (n := 2) rfl rfl (by with_reducible repeat (first | exact Sel.here | apply Sel.there)) (by kernel_rfl) (by kernel_rfl) (by first | assumption | ((try simp only [List.drop_succ_cons, List.drop_zero, List.take_succ_cons, List.take_zero]) <;> exact rfl)) (by exact rfl) ?_; go_frame; go_big_quiet_on) | (refine quiet_load_at rfl rfl (by with_reducible repeat (first | exact Sel.here | apply Sel.there)) (by kernel_rfl) (by first | assumption | exact rfl) ?_; go_frame; go_big_quiet_on) | (go_big_quiet_op; (first | go_big_quiet_on | ((apply Exists.intro); (refine ⟨fun w1 hw => ?_, ?_⟩); (focus ((have hw := Cl.out hw); (exact before_in hw _ _ hah2))); (go_big_quiet_on))))))))
        (refine wpQuiet_nil ?_); (intro w1 hB); (clear hF hA hn1 hn2); (have hA := Cl.out hB); (clear hB); (try simp only [setL, List.set_cons_zero, List.set_cons_succ, List.cons_append, List.nil_append] at hA); (have hF := hA.facts); (try simp only [facts_cons, facts_nil, facts_cells, facts_old, facts_fact, facts_obj, facts_map, facts_iter, and_true, true_and] at hF)
        have hB := shut_w hA (by with_reducible repeat (first | exact Sel.here | apply Sel.there)) hcl hcap hcm hct
        clear hF hA
        have hA := hB
        clear hB c0 c1 hah2 hd
        clear hct hcl
        generalize hax' : some (⟨g, 0, none⟩ : Addr) = ax at *
        have hput := Lib.hid (put_at (now := now) (by omega) hah hnot)
        have hA := row_nilW hA
        have hl1 : (m.take i).length = i := by rw [List.length_take]; omega
        have hl2 : (m.drop i).length = m.length - i := List.length_drop
        (try simp only [setL, List.set_cons_zero, List.set_cons_succ, List.cons_append, List.nil_append] at hA); (have hF := hA.facts); (try simp only [facts_cons, facts_nil, facts_cells, facts_old, facts_fact, facts_obj, facts_map, facts_iter, and_true, true_and] at hF)
        go_wp2_with (first | (refine wpList_slice_to (e := 151) (size := 3) (n := m.length) (xs := flatW m) (v := .slice ax m.length cap) (k := i) rfl rfl Try.underlying48 hi0 hz1 (by (try simp only [Act.eval, Array.getD_eq_getD_getElem?, List.getElem?_toArray, List.getElem?_cons_succ, List.getElem?_cons_zero, Option.getD_some]) <;> exact rfl) (by (try simp only [Act.eval, Array.getD_eq_getD_getElem?, List.getElem?_toArray, List.getElem?_cons_succ, List.getElem?_cons_zero, Option.getD_some]) <;> exact rfl) (hA.get (A := rowW (.slice ax m.length cap) m) (by with_reducible repeat (first | exact Sel.here | apply Sel.there))) (by omega) ?_; intro xv hxv0; rw [flatW_take] at hxv0; have hxv : Reads _ xv (m.take i).length (flatW (m.take i)) := (by rw [hl1]; exact hxv0); clear hxv0) | (refine wpList_append_at (e := 151) (size := 3) (v := .slice none 0 0) (xs := flatW []) (n := ([] : List WR).length) (m := (m.take i).length) (news := flatW (m.take i)) rfl _ _ 48 rfl Try.underlying48 hi0 hz0 hz1 hz2 rfl (by omega) hA (by with_reducible repeat (first | exact Sel.here | apply Sel.there)) (by (try simp only [Act.eval, Array.getD_eq_getD_getElem?, List.getElem?_toArray, List.getElem?_cons_succ, List.getElem?_cons_zero, Option.getD_some]) <;> exact rfl) (by (try simp only [Act.eval, Array.getD_eq_getD_getElem?, List.getElem?_toArray, List.getElem?_cons_succ, List.getElem?_cons_zero, Option.getD_some]) <;> exact rfl) (flatW_len _) hxv (flatW_one _) (by unfold maxLen; simp; omega) (by simp; omega) ?_; intro v1 w1 hB; rw [row_app] at hB; clear hF hA; have hA := hB; clear hB; (try simp only [setL, List.set_cons_zero, List.set_cons_succ, List.cons_append, List.nil_append] at hA); (have hF := hA.facts); (try simp only [facts_cons, facts_nil, facts_cells, facts_old, facts_fact, facts_obj, facts_map, facts_iter, and_true, true_and] at hF)) | (refine wpList_one_at (e := 151) (vs := wL (id, now)) rfl rfl (by (try simp only [Act.eval, Array.getD_eq_getD_getElem?, List.getElem?_toArray, List.getElem?_cons_succ, List.getElem?_cons_zero, Option.getD_some]) <;> exact rfl) (fun _ => by kernel_rfl) hA ?_; intro b2 w1 hB hb2; clear hF hA; have hA := hB; clear hB; (try simp only [setL, List.set_cons_zero, List.set_cons_succ, List.cons_append, List.nil_append] at hA); (have hF := hA.facts); (try simp only [facts_cons, facts_nil, facts_cells, facts_old, facts_fact, facts_obj, facts_map, facts_iter, and_true, true_and] at hF)) | (refine wpList_append_at (e := 151) (size := 3) (v := v1) (xs := flatW (m.take i)) (n := (m.take i).length) (m := 1) (news := wL (id, now)) rfl _ _ 48 rfl Try.underlying48 hi0 hz0 hz1 hz2 rfl (by omega) hA (by with_reducible repeat (first | exact Sel.here | apply Sel.there)) (by (try simp only [Act.eval, Array.getD_eq_getD_getElem?, List.getElem?_toArray, List.getElem?_cons_succ, List.getElem?_cons_zero, Option.getD_some]) <;> exact rfl) (by (try simp only [Act.eval, Array.getD_eq_getD_getElem?, List.getElem?_toArray, List.getElem?_cons_succ, List.getElem?_cons_zero, Option.getD_some]) <;> exact rfl) (rfl) (hA.cells_reads (by with_reducible repeat (first | exact Sel.here | apply Sel.there)) _ _) (wL_one _) (by unfold maxLen; simp; omega) (by simp; omega) ?_; intro v2 w1 hB; rw [row_snoc] at hB; clear hF hA; have hA := hB; clear hB; (try simp only [setL, List.set_cons_zero, List.set_cons_succ, List.cons_append, List.nil_append] at hA); (have hF := hA.facts); (try simp only [facts_cons, facts_nil, facts_cells, facts_old, facts_fact, facts_obj, facts_map, facts_iter, and_true, true_and] at hF)) | (refine wpList_slice_from (e := 151) (size := 3) (n := m.length) (xs := flatW m) (v := .slice ax m.length cap) (k := i) rfl rfl Try.underlying48 hi0 hz1 (by (try simp only [Act.eval, Array.getD_eq_getD_getElem?, List.getElem?_toArray, List.getElem?_cons_succ, List.getElem?_cons_zero, Option.getD_some]) <;> exact rfl) (by (try simp only [Act.eval, Array.getD_eq_getD_getElem?, List.getElem?_toArray, List.getElem?_cons_succ, List.getElem?_cons_zero, Option.getD_some]) <;> exact rfl) (hA.get (A := rowW (.slice ax m.length cap) m) (by with_reducible repeat (first | exact Sel.here | apply Sel.there))) (by omega) ?_; intro yv hxv0; rw [flatW_drop] at hxv0; have hyv : Reads _ yv (m.drop i).length (flatW (m.drop i)) := (by rw [hl2]; exact hxv0); clear hxv0) | (refine wpList_append_at (e := 151) (size := 3) (v := v2) (xs := flatW (m.take i ++ [(id, now)])) (n := (m.take i ++ [(id, now)]).length) (m := (m.drop i).length) (news := flatW (m.drop i)) rfl _ _ 48 rfl Try.underlying48 hi0 hz0 hz1 hz2 rfl (by omega) hA (by with_reducible repeat (first | exact Sel.here | apply Sel.there)) (by (try simp only [Act.eval, Array.getD_eq_getD_getElem?, List.getElem?_toArray, List.getElem?_cons_succ, List.getElem?_cons_zero, Option.getD_some]) <;> exact rfl) (by (try simp only [Act.eval, Array.getD_eq_getD_getElem?, List.getElem?_toArray, List.getElem?_cons_succ, List.getElem?_cons_zero, Option.getD_some]) <;> exact rfl) (flatW_len _) hyv (flatW_one _) (by unfold maxLen; simp; omega) (by simp; omega) ?_; intro v3 w1 hB; rw [row_app] at hB; clear hF hA; have hA := hB; clear hB; (try simp only [setL, List.set_cons_zero, List.set_cons_succ, List.cons_append, List.nil_append] at hA); (have hF := hA.facts); (try simp only [facts_cons, facts_nil, facts_cells, facts_old, facts_fact, facts_obj, facts_map, facts_iter, and_true, true_and] at hF)))
        go_ret
        refine ⟨v3, rfl, ?_⟩
        show At [rowW v l] w [rowW v3 (putL (forgetL l id) id now), rowW v l] w1
        rw [hm.out, hput.out, show m.take i ++ (id, now) :: m.drop i = (m.take i ++ [(id, now)]) ++ m.drop i by simp]
        exact hA.only2 (by with_reducible repeat (first | exact Sel.here | apply Sel.there)) (by with_reducible repeat (first | exact Sel.here | apply Sel.there))
      · (try simp only [setL, List.set_cons_zero, List.set_cons_succ, List.cons_append, List.nil_append] at hA); (have hF := hA.facts); (try simp only [facts_cons, facts_nil, facts_cells, facts_old, facts_fact, facts_obj, facts_map, facts_iter, and_true, true_and] at hF)
        go_wp2_with fail
        (refine wp_region_all (Cl _ _ _) (by kernel_rfl) (by kernel_rfl) (Cl.drew hA) ?_); (have hn1 := Cl.none hA); (have hn2 := Cl.none2 hA); (repeat (first | go_big_quiet_skip | (go_big_quiet_want; (first | (refine quiet_loads_at (ty := 54) (n := 2) rfl rfl (by with_reducible repeat (first | exact Sel.here | apply Sel.there)) (by kernel_rfl) (by kernel_rfl) (by first | assumption | ((try simp only [List.drop_succ_cons, List.drop_zero, List.take_succ_cons, List.take_zero]) <;> exact rfl)) (by exact rfl) ?_; go_frame; go_big_quiet_on) | (refine quiet_load_at rfl rfl (by with_reducible repeat (first | exact Sel.here | apply Sel.there)) (by kernel_rfl) (by first | assumption | exact rfl) ?_; go_frame; go_big_quiet_on) | (go_big_quiet_op; (first | go_big_quiet_on))))))
        (refine wpQuiet_nil ?_); (intro w1 hB); (clear hF hA hn1 hn2); (have hA := Cl.out hB); (clear hB); (try simp only [setL, List.set_cons_zero, List.set_cons_succ, List.cons_append, List.nil_append] at hA); (have hF := hA.facts); (try simp only [facts_cons, facts_nil, facts_cells, facts_old, facts_fact, facts_obj, facts_map, facts_iter, and_true, true_and] at hF)
        have hput := Lib.hid (put_at (now := now) (by omega) hah hnot)
        have hA := row_nilW hA
        have hl1 : (m.take i).length = i := by rw [List.length_take]; omega
        have hl2 : (m.drop i).length = m.length - i := List.length_drop
        (try simp only [setL, List.set_cons_zero, List.set_cons_succ, List.cons_append, List.nil_append] at hA); (have hF := hA.facts); (try simp only [facts_cons, facts_nil, facts_cells, facts_old, facts_fact, facts_obj, facts_map, facts_iter, and_true, true_and] at hF)
        go_wp2_with (first | (refine wpList_slice_to (e := 151) (size := 3) (n := m.length) (xs := flatW m) (v := .slice ax m.length cap) (k := i) rfl rfl Try.underlying48 hi0 hz1 (by (try simp only [Act.eval, Array.getD_eq_getD_getElem?, List.getElem?_toArray, List.getElem?_cons_succ, List.getElem?_cons_zero, Option.getD_some]) <;> exact rfl) (by (try simp only [Act.eval, Array.getD_eq_getD_getElem?, List.getElem?_toArray, List.getElem?_cons_succ, List.getElem?_cons_zero, Option.getD_some]) <;> exact rfl) (hA.get (A := rowW (.slice ax m.length cap) m) (by with_reducible repeat (first | exact Sel.here | apply Sel.there))) (by omega) ?_; intro xv hxv0; rw [flatW_take] at hxv0; have hxv : Reads _ xv (m.take i).length (flatW (m.take i)) := (by rw [hl1]; exact hxv0); clear hxv0) | (refine wpList_append_at (e := 151) (size := 3) (v := .slice none 0 0) (xs := flatW []) (n := ([] : List WR).length) (m := (m.take i).length) (news := flatW (m.take i)) rfl _ _ 48 rfl Try.underlying48 hi0 hz0 hz1 hz2 rfl (by omega) hA (by with_reducible repeat (first | exact Sel.here | apply Sel.there)) (by (try simp only [Act.eval, Array.getD_eq_getD_getElem?, List.getElem?_toArray, List.getElem?_cons_succ, List.getElem?_cons_zero, Option.getD_some]) <;> exact rfl) (by (try simp only [Act.eval, Array.getD_eq_getD_getElem?, List.getElem?_toArray, List.getElem?_cons_succ, List.getElem?_cons_zero, Option.getD_some]) <;> exact rfl) (flatW_len _) hxv (flatW_one _) (by unfold maxLen; simp; omega) (by simp; omega) ?_; intro v1 w1 hB; rw [row_app] at hB; clear hF hA; have hA := hB; clear hB; (try simp only [setL, List.set_cons_zero, List.set_cons_succ, List.cons_append, List.nil_append] at hA); (have hF := hA.facts); (try simp only [facts_cons, facts_nil, facts_cells, facts_old, facts_fact, facts_obj, facts_map, facts_iter, and_true, true_and] at hF)) | (refine wpList_one_at (e := 151) (vs := wL (id, now)) rfl rfl (by (try simp only [Act.eval, Array.getD_eq_getD_getElem?, List.getElem?_toArray, List.getElem?_cons_succ, List.getElem?_cons_zero, Option.getD_some]) <;> exact rfl) (fun _ => by kernel_rfl) hA ?_; intro b2 w1 hB hb2; clear hF hA; have hA := hB; clear hB; (try simp only [setL, List.set_cons_zero, List.set_cons_succ, List.cons_append, List.nil_append] at hA); (have hF := hA.facts); (try simp only [facts_cons, facts_nil, facts_cells, facts_old, facts_fact, facts_obj, facts_map, facts_iter, and_true, true_and] at hF)) | (refine wpList_append_at (e := 151) (size := 3) (v := v1) (xs := flatW (m.take i)) (n := (m.take i).length) (m := 1) (news := wL (id, now)) rfl _ _ 48 rfl Try.underlying48 hi0 hz0 hz1 hz2 rfl (by omega) hA (by with_reducible repeat (first | exact Sel.here | apply Sel.there)) (by (try simp only [Act.eval, Array.getD_eq_getD_getElem?, List.getElem?_toArray, List.getElem?_cons_succ, List.getElem?_cons_zero, Option.getD_some]) <;> exact rfl) (by (try simp only [Act.eval, Array.getD_eq_getD_getElem?, List.getElem?_toArray, List.getElem?_cons_succ, List.getElem?_cons_zero, Option.getD_some]) <;> exact rfl) (rfl) (hA.cells_reads (by with_reducible repeat (first | exact Sel.here | apply Sel.there)) _ _) (wL_one _) (by unfold maxLen; simp; omega) (by simp; omega) ?_; intro v2 w1 hB; rw [row_snoc] at hB; clear hF hA; have hA := hB; clear hB; (try simp only [setL, List.set_cons_zero, List.set_cons_succ, List.cons_append, List.nil_append] at hA); (have hF := hA.facts); (try simp only [facts_cons, facts_nil, facts_cells, facts_old, facts_fact, facts_obj, facts_map, facts_iter, and_true, true_and] at hF)) | (refine wpList_slice_from (e := 151) (size := 3) (n := m.length) (xs := flatW m) (v := .slice ax m.length cap) (k := i) rfl rfl Try.underlying48 hi0 hz1 (by (try simp only [Act.eval, Array.getD_eq_getD_getElem?, List.getElem?_toArray, List.getElem?_cons_succ, List.getElem?_cons_zero, Option.getD_some]) <;> exact rfl) (by (try simp only [Act.eval, Array.getD_eq_getD_getElem?, List.getElem?_toArray, List.getElem?_cons_succ, List.getElem?_cons_zero, Option.getD_some]) <;> exact rfl) (hA.get (A := rowW (.slice ax m.length cap) m) (by with_reducible repeat (first | exact Sel.here | apply Sel.there))) (by omega) ?_; intro yv hxv0; rw [flatW_drop] at hxv0; have hyv : Reads _ yv (m.drop i).length (flatW (m.drop i)) := (by rw [hl2]; exact hxv0); clear hxv0) | (refine wpList_append_at (e := 151) (size := 3) (v := v2) (xs := flatW (m.take i ++ [(id, now)])) (n := (m.take i ++ [(id, now)]).length) (m := (m.drop i).length) (news := flatW (m.drop i)) rfl _ _ 48 rfl Try.underlying48 hi0 hz0 hz1 hz2 rfl (by omega) hA (by with_reducible repeat (first | exact Sel.here | apply Sel.there)) (by (try simp only [Act.eval, Array.getD_eq_getD_getElem?, List.getElem?_toArray, List.getElem?_cons_succ, List.getElem?_cons_zero, Option.getD_some]) <;> exact rfl) (by (try simp only [Act.eval, Array.getD_eq_getD_getElem?, List.getElem?_toArray, List.getElem?_cons_succ, List.getElem?_cons_zero, Option.getD_some]) <;> exact rfl) (flatW_len _) hyv (flatW_one _) (by unfold maxLen; simp; omega) (by simp; omega) ?_; intro v3 w1 hB; rw [row_app] at hB; clear hF hA; have hA := hB; clear hB; (try simp only [setL, List.set_cons_zero, List.set_cons_succ, List.cons_append, List.nil_append] at hA); (have hF := hA.facts); (try simp only [facts_cons, facts_nil, facts_cells, facts_old, facts_fact, facts_obj, facts_map, facts_iter, and_true, true_and] at hF)))
        go_ret
        refine ⟨v3, rfl, ?_⟩
        show At [rowW v l] w [rowW v3 (putL (forgetL l id) id now), rowW v l] w1
        rw [hm.out, hput.out, show m.take i ++ (id, now) :: m.drop i = (m.take i ++ [(id, now)]) ++ m.drop i by simp]
        exact hA.only2 (by with_reducible repeat (first | exact Sel.here | apply Sel.there)) (by with_reducible repeat (first | exact Sel.here | apply Sel.there))
end Go.Proofs.Yticmopnbfpgaiaa.Clk
