/- The document's answer of layer 20 (clock): what it computes, and its walks. -/
import Derived.Test.YticmopnbfpgaiaaRow
import Derived.Test.YticmopnbfpgaiaaMarkC
import Derived.Test.YticmopnbfpgaiaaChecked
import Derived.Deep.QuietTactic
import Derived.BigQuiet
import Derived.Deep.Cut
import Derived.WalkLawsBesides
import Derived.Laws.StructEq
namespace Go.Proofs.Yticmopnbfpgaiaa.Clk
open Go.RowKit
open _root_.Go.Proofs.Yticmopnbfpgaiaa.Mark (idV idL ltID)
set_option linter.unusedSimpArgs false
set_option linter.unusedVariables false

abbrev I2 := Int × Int
/-- what is watched, and since when -/
abbrev WR := I2 × Int
def wL (x : WR) : List Value := [.int .i64 x.1.1, .int .i64 x.1.2, .int .i64 x.2]
theorem wL_len (x : WR) : (wL x).length = 3 := rfl
def flatW (l : List WR) : List Value := l.flatMap wL
abbrev rowW (v : Value) (l : List WR) : Part := .row 151 3 v l.length (flatW l)
def sinceL (l : List WR) (id : I2) : Int := match l.find? (fun x => x.1 == id) with | some x => x.2 | none => -1
def forgetL (l : List WR) (id : I2) : List WR := l.filter (fun x => x.1 != id)

@[local go_sem] theorem guardM (op : BinOp) (x y : Operand) (a b : I2) (w : World) : (eqGuard op 50 x y (.agg #[.int .i64 a.1, .int .i64 a.2]) (.agg #[.int .i64 b.1, .int .i64 b.2])).run Try.prog w = .ok () w := run_eqGuard_agg _ _ _ _ _ _ _ (by kernel_rfl)
theorem sameM (a b c d : Int) (w : World) : (Op.equalIn 10000 50 (.agg #[.int .i64 a, .int .i64 b]) (.agg #[.int .i64 c, .int .i64 d])).run Try.prog w = .ok ((a, b) == (c, d)) w := by
  rw [run_equalIn_agg _ 9999 _ _ _ (by kernel_rfl) (by kernel_rfl)]
  simp [go_sem, Op.eqFields]
  by_cases h1 : a = c <;> by_cases h2 : b = d <;> simp [h1, h2]
@[local go_sem] theorem eqlM (a b : I2) (w : World) : (binOp .eql 50 (.agg #[.int .i64 a.1, .int .i64 a.2]) (.agg #[.int .i64 b.1, .int .i64 b.2])).run Try.prog w = .ok (.bool (a == b)) w := by
  rw [run_eql_struct, sameM]; rfl
@[local go_sem] theorem neqM (a b : I2) (w : World) : (binOp .neq 50 (.agg #[.int .i64 a.1, .int .i64 a.2]) (.agg #[.int .i64 b.1, .int .i64 b.2])).run Try.prog w = .ok (.bool (!(a == b))) w := by
  rw [run_neq_struct, sameM]; rfl
@[local go_sem] theorem guardR (op : BinOp) (x y : Operand) (a b : I2) (w : World) : (eqGuard op 54 x y (.agg #[.int .i64 a.1, .int .i64 a.2]) (.agg #[.int .i64 b.1, .int .i64 b.2])).run Try.prog w = .ok () w := run_eqGuard_agg _ _ _ _ _ _ _ (by kernel_rfl)
theorem sameR (a b c d : Int) (w : World) : (Op.equalIn 10000 54 (.agg #[.int .i64 a, .int .i64 b]) (.agg #[.int .i64 c, .int .i64 d])).run Try.prog w = .ok ((a, b) == (c, d)) w := by
  rw [run_equalIn_agg _ 9999 _ _ _ (by kernel_rfl) (by kernel_rfl)]
  simp [go_sem, Op.eqFields]
  by_cases h1 : a = c <;> by_cases h2 : b = d <;> simp [h1, h2]
@[local go_sem] theorem eqlR (a b : I2) (w : World) : (binOp .eql 54 (.agg #[.int .i64 a.1, .int .i64 a.2]) (.agg #[.int .i64 b.1, .int .i64 b.2])).run Try.prog w = .ok (.bool (a == b)) w := by
  rw [run_eql_struct, sameR]; rfl
@[local go_sem] theorem neqR (a b : I2) (w : World) : (binOp .neq 54 (.agg #[.int .i64 a.1, .int .i64 a.2]) (.agg #[.int .i64 b.1, .int .i64 b.2])).run Try.prog w = .ok (.bool (!(a == b))) w := by
  rw [run_neq_struct, sameR]; rfl
theorem find_at {α : Type} {p : α → Bool} : ∀ {l : List α} {i : Nat} {y : α}, l[i]? = some y → (∀ x ∈ l.take i, p x = false) → p y = true → l.find? p = some y
  | z :: l, 0, y, h, _, hy => by simp at h; subst h; simp [hy]
  | z :: l, i + 1, y, h, hn, hy => by
    rw [List.find?_cons_of_neg (by rw [hn z (by simp)]; simp)]
    exact find_at (by simpa using h) (fun x hx => hn x (by simp [hx])) hy
  | [], i, y, h, _, _ => by simp at h
theorem since_some {l : List WR} {id : I2} {i : Nat} (h : i < l.length) (hn : ∀ x ∈ l.take i, (x.1 == id) = false) (hy : (l[i].1 == id) = true) : sinceL l id = l[i].2 := by
  unfold sinceL
  rw [find_at (List.getElem?_eq_getElem h) hn hy]
theorem since_none {l : List WR} {id : I2} (hn : ∀ x ∈ l, (x.1 == id) = false) : sinceL l id = -1 := by
  unfold sinceL
  rw [List.find?_eq_none.2 (fun x hx => by rw [hn x hx]; simp)]
theorem shut_w {L0 L F : List Part} {w0 w : World} {g cap : Nat} {c : List Value} {l : List WR} (hA : At L0 w0 L w) (s : Sel (Part.cells g c 151) L F) (hcl : c.length = cap * 3) (hcap : l.length ≤ cap) (hcm : cap ≤ maxLen) (hct : c.take (l.length * 3) = flatW l) :
    At L0 w0 (rowW (.slice (some ⟨g, 0, none⟩) l.length cap) l :: F) w := hA.row_shut s hcl hcap hcm hct
attribute [-go_sem] run_eql_struct run_neq_struct run_eqGuard_agg
def SinceRel (w : World) (v : Value) (l : List WR) (id : I2) (b : Nat) (k : Nat) (u : Value) (wr : World) : Prop :=
  ∃ i : Nat, u = .int .i64 i ∧ i + k = l.length ∧ At [rowW v l] w [Part.cells b (idL id) 54, rowW v l] wr ∧ ∀ x ∈ l.take i, (x.1 == id) = false
set_option maxRecDepth 100000 in
theorem since_any {w : World} {v : Value} {l : List WR} (h : Sep [rowW v l] w) (id : I2) (hmax : l.length ≤ 1000000) :
    Calls Try.prog 27 #[v, .agg #[.int .i64 id.1, .int .i64 id.2]] w fun e w' => e = .returned (.int .i64 (sinceL l id)) ∧ At [rowW v l] w [rowW v l] w' := by
  have hA := At.start h
  have hF := hA.facts
  clear h
  obtain ⟨ax, cap, rfl, hax, hcap, _⟩ := hA.row_form (e := 151) (size := 3) (n := l.length) (xs := flatW l) (by repeat (first | exact Sel.here | apply Sel.there))
  go_enter Try.func27, Try.ntmps27
  go_wp2_with (first | (refine wpList_store_at rfl rfl rfl (by (try simp only [Act.eval, Array.getD_eq_getD_getElem?, List.getElem?_toArray, List.getElem?_cons_succ, List.getElem?_cons_zero, Option.getD_some]) <;> exact rfl) (by exact rfl) hA (by with_reducible repeat (first | exact Sel.here | apply Sel.there)) (by kernel_rfl) rfl (by first | decide | (simp; done) | omega) ?_; intro w1 hB; clear hF hA; have hA := hB; clear hB; (try simp only [setL, List.set_cons_zero, List.set_cons_succ, List.cons_append, List.nil_append] at hA); (have hF := hA.facts); (try simp only [facts_cons, facts_nil, facts_cells, facts_old, facts_fact, facts_obj, facts_map, facts_iter, and_true, true_and] at hF)) | (refine wpList_box_at rfl rfl (by (try simp only [Act.eval, Array.getD_eq_getD_getElem?, List.getElem?_toArray, List.getElem?_cons_succ, List.getElem?_cons_zero, Option.getD_some]) <;> exact rfl) (by exact rfl) hA ?_; intro b1 w1 hB hb1; clear hF hA; have hA := hB; clear hB; (try simp only [setL, List.set_cons_zero, List.set_cons_succ, List.cons_append, List.nil_append] at hA); (have hF := hA.facts); (try simp only [facts_cons, facts_nil, facts_cells, facts_old, facts_fact, facts_obj, facts_map, facts_iter, and_true, true_and] at hF)))
  try go_frame
  go_loopg [5] l.length (SinceRel w (.slice ax l.length cap) l id b1)
  case atStart => exact ⟨0, rfl, by simp, hA, by simp⟩
  case round =>
    obtain ⟨i, rfl, hik, hB, hno⟩ := hrel
    clear hF hA
    have hA := hB
    clear hB
    by_cases hi : i < l.length
    · obtain ⟨g, c, rfl, _, hcm, hcl, hct, hB⟩ := hA.row_open (e := 151) (size := 3) (n := l.length) (xs := flatW l) (by repeat (first | exact Sel.here | apply Sel.there)) (by omega)
      have hx : l[i]? = some l[i] := List.getElem?_eq_getElem hi
      have c0 : c[i * 3]? = some (.int .i64 l[i].1.1) := cells_at wL_len hct hx 0 (by omega)
      have c1 : c[i * 3 + 1]? = some (.int .i64 l[i].1.2) := cells_at wL_len hct hx 1 (by omega)
      have c2 : c[i * 3 + 2]? = some (.int .i64 l[i].2) := cells_at wL_len hct hx 2 (by omega)
      clear hA
      have hA := hB
      clear hB
      unfold idL at hA
      (try simp only [setL, List.set_cons_zero, List.set_cons_succ, List.cons_append, List.nil_append] at hA); (have hF := hA.facts); (try simp only [facts_cons, facts_nil, facts_cells, facts_old, facts_fact, facts_obj, facts_map, facts_iter, and_true, true_and] at hF)
      by_cases hq : (l[i].1 == id) = true
      · go_wp2_with fail
        go_quiet (fail)
        have hA := hA.drewN nq; generalize World.drewN _ nq = w1 at *; clear hF; (try simp only [setL, List.set_cons_zero, List.set_cons_succ, List.cons_append, List.nil_append] at hA); (have hF := hA.facts); (try simp only [facts_cons, facts_nil, facts_cells, facts_old, facts_fact, facts_obj, facts_map, facts_iter, and_true, true_and] at hF)
        go_wp2_with fail
        go_ret
        exact ⟨by rw [since_some hi hno hq]; rfl, (shut_w hA (by with_reducible repeat (first | exact Sel.here | apply Sel.there)) hcl hcap hcm hct).only1 (by with_reducible repeat (first | exact Sel.here | apply Sel.there))⟩
      · have hq' : (l[i].1 == id) = false := by simpa using hq
        go_wp2_with fail
        go_quiet (fail)
        have hA := hA.drewN nq; generalize World.drewN _ nq = w1 at *; clear hF; (try simp only [setL, List.set_cons_zero, List.set_cons_succ, List.cons_append, List.nil_append] at hA); (have hF := hA.facts); (try simp only [facts_cons, facts_nil, facts_cells, facts_old, facts_fact, facts_obj, facts_map, facts_iter, and_true, true_and] at hF)
        go_wp2_with fail
        go_roundg (gk - 1)
        case measure => omega
        case rel => exact ⟨i + 1, by simp, by omega, (shut_w hA (by with_reducible repeat (first | exact Sel.here | apply Sel.there)) hcl hcap hcm hct).only2 (by repeat (first | exact Sel.here | apply Sel.there)) (by with_reducible repeat (first | exact Sel.here | apply Sel.there)), fun x hx => by
          rw [List.take_succ_eq_append_getElem hi] at hx
          rcases List.mem_append.1 hx with hx | hx
          · exact hno x hx
          · rw [List.mem_singleton.1 hx]; exact hq'⟩
    · go_wp2_with fail
      go_ret
      exact ⟨by rw [since_none (fun x hx => hno x (by rw [List.take_of_length_le (by omega)]; exact hx))]; rfl, hA.only1 (by with_reducible repeat (first | exact Sel.here | apply Sel.there))⟩
end Go.Proofs.Yticmopnbfpgaiaa.Clk
