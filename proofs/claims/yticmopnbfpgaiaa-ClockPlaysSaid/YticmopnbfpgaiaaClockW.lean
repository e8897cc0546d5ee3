/- A clock: Watched; slices.Index, slices.Contains at names. -/
import Derived.Test.YticmopnbfpgaiaaClockC
import Derived.Test.YticmopnbfpgaiaaMarkS
namespace Go.Proofs.Yticmopnbfpgaiaa.Clk
open Go.RowKit
open Go.Maps (Keyed)
open _root_.Go.Proofs.Yticmopnbfpgaiaa.Mark (idV idL ltID sortID keys_in sortedFunc_any idL_len sort_len)
set_option linter.unusedSimpArgs false
set_option linter.unusedVariables false
attribute [-go_sem] run_eql_struct run_neq_struct run_eqGuard_agg
attribute [local go_sem] guardM eqlM neqM guardR eqlR neqR

def flatI (l : List I2) : List Value := l.flatMap idL
abbrev rowI (v : Value) (l : List I2) : Part := .row 50 2 v l.length (flatI l)
def keysL (mp : List WR) : List I2 := mp.map (·.1)
theorem ents_keys (mp : List WR) : (ents mp).map (·.1) = (keysL mp).map idV := by simp [ents, ent, keysL, idV]
theorem shut_i {L0 L F : List Part} {w0 w : World} {g cap : Nat} {c : List Value} {l : List I2} (hA : At L0 w0 L w) (s : Sel (Part.cells g c 50) L F) (hcl : c.length = cap * 2) (hcap : l.length ≤ cap) (hcm : cap ≤ maxLen) (hct : c.take (l.length * 2) = flatI l) :
    At L0 w0 (rowI (.slice (some ⟨g, 0, none⟩) l.length cap) l :: F) w := hA.row_shut s hcl hcap hcm hct

def WatchedPost (w : World) (p b : Nat) (now : Int) (mp : List WR) (e : Ending) (w' : World) : Prop := ∃ v, e = .returned v ∧ At [clkH p b now, mapC b mp] w [rowI v (sortID (keysL mp)), clkH p b now, mapC b mp] w'
set_option maxRecDepth 100000 in
theorem watched_any {w : World} {p b : Nat} {now : Int} {mp : List WR} (h : Sep [clkH p b now, mapC b mp] w) (hmax : mp.length ≤ 1000000) :
    Calls Try.prog 78 #[.pointer (some ⟨p, 0, none⟩)] w (WatchedPost w p b now mp) := by
  have hA := At.start h
  have hF := hA.facts
  (try simp only [setL, List.set_cons_zero, List.set_cons_succ, List.cons_append, List.nil_append] at hA); (have hF := hA.facts); (try simp only [facts_cons, facts_nil, facts_cells, facts_old, facts_fact, facts_obj, facts_map, facts_iter, and_true, true_and] at hF)
  clear h
  go_enter Try.func78, Try.ntmps78
  go_wp2_with fail
  refine (callsIn_wide.1 (Mark.keys_in Fence.wide 1 trivial rfl (some b) w)).mono ?_
  rintro e _ ⟨rfl, rfl⟩
  have hB := hA.alloc [.map (some b)] 147
  go_wp2_with fail
  refine (Mark.sortedFunc_any w.heap.size b (ents mp) (keysL mp) (ents_keys mp) _ (by simp) ((BlockIs.alloc w [.map (some b)] 147).cell 0) (hB.get (A := mapC b mp) (by with_reducible repeat (first | exact Sel.here | apply Sel.there))) (by simp [keysL]; omega)).mono ?_
  rintro e w1 ⟨v, rfl, hrow, hb⟩
  go_wp2_with fail
  go_ret
  exact ⟨v, rfl, (hB.row_new hb hrow).only3 (by repeat (first | exact Sel.here | apply Sel.there)) (by with_reducible repeat (first | exact Sel.here | apply Sel.there)) (by with_reducible repeat (first | exact Sel.here | apply Sel.there))⟩

/-! ### slices.Index, slices.Contains -/
/-- a part in which a slice is read -/
def ReadsIn (R : Part) (v : Value) (l : List I2) : Prop := ∀ w, R.holds w → Reads w v l.length (flatI l)
theorem ReadsIn.at {R : Part} {ax : Option Addr} {cap : Nat} {l : List I2} (h : ReadsIn R (.slice ax l.length cap) l) {w : World} (hw : R.holds w) (i : Nat) (hi : i < l.length) :
    ∃ g off, ax = some ⟨g, off, none⟩ ∧ w.cell? ⟨g, off + i * 2, none⟩ = some (.int .i64 l[i].1) ∧ w.cell? ⟨g, off + i * 2 + 1, none⟩ = some (.int .i64 l[i].2) := by
  obtain ⟨ax', c', e, _, hc⟩ := h w hw
  cases e
  have hx : l[i]? = some l[i] := List.getElem?_eq_getElem hi
  obtain ⟨g, off, e0, h0⟩ := hc (i * 2) _ (flat_at idL 2 idL_len l i l[i] hx 0 (by omega))
  obtain ⟨g1, off1, e1, h1⟩ := hc (i * 2 + 1) _ (flat_at idL 2 idL_len l i l[i] hx 1 (by omega))
  rw [e0] at e1
  cases e1
  exact ⟨g, off, e0, h0, h1⟩
theorem ReadsIn.form {R : Part} {v : Value} {l : List I2} (h : ReadsIn R v l) {w : World} (hw : R.holds w) : ∃ ax cap, v = .slice ax l.length cap ∧ (ax = none → l.length = 0) := by
  obtain ⟨ax, c, e, h1, _⟩ := h w hw
  exact ⟨ax, c, e, h1⟩
def IndexRel (L0 : List Part) (w : World) (R : Part) (l : List I2) (id : I2) (b : Nat) (k : Nat) (u : Value) (wr : World) : Prop :=
  ∃ i : Nat, u = .int .i64 i ∧ i + k = l.length ∧ At L0 w [Part.cells b (idL id) 50, R] wr ∧ ∀ x ∈ l.take i, (x == id) = false
def IndexPost (w : World) (R : Part) (l : List I2) (id : I2) (e : Ending) (w' : World) : Prop := ∃ i : Int, e = .returned (.int .i64 i) ∧ decide (0 ≤ i) = l.contains id ∧ At [R] w [R] w'
set_option maxRecDepth 100000 in
theorem index_any {w : World} {R : Part} {v : Value} {l : List I2} (hR : ReadsIn R v l) (h : Sep [R] w) (id : I2) (hmax : l.length ≤ 1000000) :
    Calls Try.prog 108 #[v, .agg #[.int .i64 id.1, .int .i64 id.2]] w (IndexPost w R l id) := by
  have hA := At.start h
  have hF := hA.facts
  clear h
  obtain ⟨ax, cap, rfl, hax⟩ := hR.form (hA.get (A := R) (by with_reducible repeat (first | exact Sel.here | apply Sel.there)))
  have hR' := Lib.hid hR
  clear hR
  go_enter Try.func108, Try.ntmps108
  go_wp2_with (first | (refine wpList_store_at rfl rfl rfl (by (try simp only [Act.eval, Array.getD_eq_getD_getElem?, List.getElem?_toArray, List.getElem?_cons_succ, List.getElem?_cons_zero, Option.getD_some]) <;> exact rfl) (by exact rfl) hA (by with_reducible repeat (first | exact Sel.here | apply Sel.there)) (by kernel_rfl) rfl (by first | decide | (simp; done) | omega) ?_; intro w1 hB; clear hF hA; have hA := hB; clear hB; (try simp only [setL, List.set_cons_zero, List.set_cons_succ, List.cons_append, List.nil_append] at hA); (have hF := hA.facts); (try simp only [facts_cons, facts_nil, facts_cells, facts_old, facts_fact, facts_obj, facts_map, facts_iter, and_true, true_and] at hF)) | (refine wpList_box_at rfl rfl (by (try simp only [Act.eval, Array.getD_eq_getD_getElem?, List.getElem?_toArray, List.getElem?_cons_succ, List.getElem?_cons_zero, Option.getD_some]) <;> exact rfl) (by exact rfl) hA ?_; intro b1 w1 hB hb1; clear hF hA; have hA := hB; clear hB; (try simp only [setL, List.set_cons_zero, List.set_cons_succ, List.cons_append, List.nil_append] at hA); (have hF := hA.facts); (try simp only [facts_cons, facts_nil, facts_cells, facts_old, facts_fact, facts_obj, facts_map, facts_iter, and_true, true_and] at hF)))
  try go_frame
  go_loopg [8] l.length (IndexRel [R] w R l id b1)
  case atStart => exact ⟨0, rfl, by simp, hA, by simp⟩
  case round =>
    obtain ⟨i, rfl, hik, hB, hno⟩ := hrel
    clear hF hA
    have hA := hB
    clear hB
    by_cases hi : i < l.length
    · obtain ⟨g, off, rfl, c0, c1⟩ := hR'.out.at (hA.get (A := R) (by with_reducible repeat (first | exact Sel.here | apply Sel.there))) i hi
      unfold idL at hA
      (try simp only [setL, List.set_cons_zero, List.set_cons_succ, List.cons_append, List.nil_append] at hA); (have hF := hA.facts); (try simp only [facts_cons, facts_nil, facts_cells, facts_old, facts_fact, facts_obj, facts_map, facts_iter, and_true, true_and] at hF)
      by_cases hq : (id == l[i]) = true
      · have hin : l.contains id = true := by
          rw [List.contains_eq_any_beq, List.any_eq_true]
          exact ⟨l[i], List.getElem_mem hi, hq⟩
        go_wp2_with fail
        go_quiet (fail)
        have hA := hA.drewN nq; generalize World.drewN _ nq = w1 at *; clear hF; (try simp only [setL, List.set_cons_zero, List.set_cons_succ, List.cons_append, List.nil_append] at hA); (have hF := hA.facts); (try simp only [facts_cons, facts_nil, facts_cells, facts_old, facts_fact, facts_obj, facts_map, facts_iter, and_true, true_and] at hF)
        go_wp2_with fail
        refine bodyPost_ret (results_tmp rfl _ _ _) rfl ?_
        exact ⟨i, rfl, by rw [hin]; simp, hA.only1 (by with_reducible repeat (first | exact Sel.here | apply Sel.there))⟩
      · have hq' : (id == l[i]) = false := by simpa using hq
        go_wp2_with fail
        go_quiet (fail)
        have hA := hA.drewN nq; generalize World.drewN _ nq = w1 at *; clear hF; (try simp only [setL, List.set_cons_zero, List.set_cons_succ, List.cons_append, List.nil_append] at hA); (have hF := hA.facts); (try simp only [facts_cons, facts_nil, facts_cells, facts_old, facts_fact, facts_obj, facts_map, facts_iter, and_true, true_and] at hF)
        go_wp2_with fail
        go_roundg (gk - 1)
        case measure => omega
        case rel => exact ⟨i + 1, by simp, by omega, hA.only2 (by repeat (first | exact Sel.here | apply Sel.there)) (by with_reducible repeat (first | exact Sel.here | apply Sel.there)), fun x hx => by
          rw [List.take_succ_eq_append_getElem hi] at hx
          rcases List.mem_append.1 hx with hx | hx
          · exact hno x hx
          · rw [List.mem_singleton.1 hx, ← hq']; exact BEq.comm⟩
    · have hin : l.contains id = false := by
        rw [List.contains_eq_any_beq, List.any_eq_false]
        intro x hx
        have := hno x (by rw [List.take_of_length_le (by omega)]; exact hx)
        rw [show (id == x) = (x == id) from BEq.comm, this]
        simp
      go_wp2_with fail
      go_ret
      exact ⟨-1, rfl, by rw [hin]; rfl, hA.only1 (by with_reducible repeat (first | exact Sel.here | apply Sel.there))⟩
set_option maxRecDepth 100000 in
theorem contains_any {w : World} {R : Part} {v : Value} {l : List I2} (hR : ReadsIn R v l) (h : Sep [R] w) (id : I2) (hmax : l.length ≤ 1000000) :
    Calls Try.prog 77 #[v, .agg #[.int .i64 id.1, .int .i64 id.2]] w fun e w' => e = .returned (.bool (l.contains id)) ∧ At [R] w [R] w' := by
  have hA := At.start h
  have hF := hA.facts
  clear h
  go_enter Try.func77, Try.ntmps77
  go_wp2_with (first | (refine wpList_store_at rfl rfl rfl (by (try simp only [Act.eval, Array.getD_eq_getD_getElem?, List.getElem?_toArray, List.getElem?_cons_succ, List.getElem?_cons_zero, Option.getD_some]) <;> exact rfl) (by exact rfl) hA (by with_reducible repeat (first | exact Sel.here | apply Sel.there)) (by kernel_rfl) rfl (by first | decide | (simp; done) | omega) ?_; intro w1 hB; clear hF hA; have hA := hB; clear hB; (try simp only [setL, List.set_cons_zero, List.set_cons_succ, List.cons_append, List.nil_append] at hA); (have hF := hA.facts); (try simp only [facts_cons, facts_nil, facts_cells, facts_old, facts_fact, facts_obj, facts_map, facts_iter, and_true, true_and] at hF)) | (refine wpList_box_at rfl rfl (by (try simp only [Act.eval, Array.getD_eq_getD_getElem?, List.getElem?_toArray, List.getElem?_cons_succ, List.getElem?_cons_zero, Option.getD_some]) <;> exact rfl) (by exact rfl) hA ?_; intro b1 w1 hB hb1; clear hF hA; have hA := hB; clear hB; (try simp only [setL, List.set_cons_zero, List.set_cons_succ, List.cons_append, List.nil_append] at hA); (have hF := hA.facts); (try simp only [facts_cons, facts_nil, facts_cells, facts_old, facts_fact, facts_obj, facts_map, facts_iter, and_true, true_and] at hF)))
  refine (index_any hR (hA.sep1 (by with_reducible repeat (first | exact Sel.here | apply Sel.there))) id hmax).mono ?_
  rintro e w2 ⟨i, rfl, hin, hT⟩
  have hB := hA.call1 (by with_reducible repeat (first | exact Sel.here | apply Sel.there)) hT
  clear hF hA hT
  have hA := hB
  clear hB
  (try simp only [setL, List.set_cons_zero, List.set_cons_succ, List.cons_append, List.nil_append] at hA); (have hF := hA.facts); (try simp only [facts_cons, facts_nil, facts_cells, facts_old, facts_fact, facts_obj, facts_map, facts_iter, and_true, true_and] at hF)
  have hin' := Lib.hid hin
  clear hin
  go_wp2_with fail
  go_ret
  exact ⟨by rw [← hin'.out]; rfl, hA.only1 (by with_reducible repeat (first | exact Sel.here | apply Sel.there))⟩
end Go.Proofs.Yticmopnbfpgaiaa.Clk
