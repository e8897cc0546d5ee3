/- How the ops that come in are read. -/
import Derived.Test.YticmopnbfpgaiaaClockL
import Derived.Deep.Slices
import Derived.DataReads
import Derived.Lib.SmallJoins
namespace Go.Proofs.Yticmopnbfpgaiaa.Clk
open Go.RowKit Go.Joins Go.ChangeShapes
open _root_.Go.Proofs.Yticmopnbfpgaiaa.Mark (idV idL idL_len)
set_option linter.unusedVariables false
set_option linter.unusedSimpArgs false

section
variable {H : Type} {enc : TypeId × Value → H} {W : World} {base : Nat} {spare : Nat → Bool} {held : Bool} {fuel : Nat}
set_option maxRecDepth 100000 in
theorem open_id {cs : List Value} {y : DataW H × List MemPlace} (h : DataW.trod enc Try.prog W base spare held fuel 50 cs = some y) : ∃ x : I2, cs = [.int .i64 x.1, .int .i64 x.2] ∧ okI x := by
  obtain ⟨xs, n, _, _, hl, hxl, hf⟩ := DataW.trod_struct Try.underlying50 h
  have hl2 : cs.length = 2 := hl.trans (by kernel_rfl)
  have hc1 : Try.prog.cellsOf 3 = 1 := by kernel_rfl
  have hx2 : xs.length = 2 := hxl
  match cs, hl2, xs, hx2 with
  | [c0, c1], _, [y0, y1], _ =>
    have f0 : DataW.trod enc Try.prog W base spare held n 3 (([c0, c1].drop 0).take (Try.prog.cellsOf 3)) = some y0 := hf 0 _ rfl
    have f1 : DataW.trod enc Try.prog W base spare held n 3 (([c0, c1].drop 1).take (Try.prog.cellsOf 3)) = some y1 := hf 1 _ rfl
    rw [hc1] at f0 f1
    obtain ⟨k0, e0, _, w0⟩ := DataW.trod_int Try.underlying3 f0
    obtain ⟨k1, e1, _, w1⟩ := DataW.trod_int Try.underlying3 f1
    simp at e0 e1
    subst e0 e1
    exact ⟨(k0, k1), rfl, w0, w1⟩
theorem open_list {v : Value} {y : DataW H × List MemPlace} (hsp : ∀ b, spare b = true) (h : DataW.trod enc Try.prog W base spare held fuel 51 [v] = some y) : ∃ l : List I2, Reads W v l.length (flatI l) ∧ ∀ x ∈ l, okI x := by
  rcases Go.Deep.open_slice Try.underlying51 h with ⟨hcs, _⟩ | ⟨a, len, cap, m, n, D, Pl, hcs, _, hl, hm, hmm, _, hel⟩
  · simp at hcs
    subst hcs
    exact ⟨[], ⟨none, 0, rfl, fun _ => rfl, fun j u hj => by simp [flatI] at hj⟩, nofun⟩
  · simp at hcs
    subst hcs
    have hco : Try.prog.cellsOf 50 = 2 := by kernel_rfl
    rw [hco] at hel
    have hall : ∀ i, i < len → ∃ x : I2, W.cells? base (a.add (i * 2)) 2 = some [.int .i64 x.1, .int .i64 x.2] ∧ okI x := fun i hi => by
      obtain ⟨cs', h1, h2⟩ := hel i (by rw [hmm, hsp, if_pos rfl]; omega)
      obtain ⟨x, rfl, h3⟩ := open_id h2
      exact ⟨x, h1, h3⟩
    obtain ⟨f, hf⟩ := @Go.Deep.choose_lt I2 ⟨(0, 0)⟩ len _ hall
    have hlen : ((List.range len).map f).length = len := by simp
    refine ⟨(List.range len).map f, ⟨some a, cap, by rw [hlen], nofun, fun j u hj => ?_⟩, fun x hx => ?_⟩
    · have hj2 : j < len * 2 := by
        have := (List.getElem?_eq_some_iff.1 hj).1
        unfold flatI at this
        rw [flat_len idL 2 idL_len, hlen] at this
        exact this
      have hi : j / 2 < len := by omega
      obtain ⟨hc, _⟩ := hf (j / 2) hi
      obtain ⟨h4, h5, h6⟩ := World.cells?_some hc
      have hz := (World.cells?_some (hf 0 (by omega)).1).2.2 0 (by omega)
      obtain ⟨b, off, sp⟩ := a
      have hsn : sp = none := by
        have := congrArg Addr.spot (spot_none hz)
        simpa [Addr.add] using this
      subst hsn
      have e := flat_at idL 2 idL_len ((List.range len).map f) (j / 2) (f (j / 2)) (by simp [hi]) (j % 2) (by omega)
      rw [show j / 2 * 2 + j % 2 = j by omega] at e
      unfold flatI at hj
      rw [e] at hj
      have h7 := h6 (j % 2) (by omega)
      rw [Addr.add_lit, Addr.add_lit, show off + j / 2 * 2 + j % 2 = off + j by omega] at h7
      exact ⟨b, off, rfl, h7.trans hj⟩
    · obtain ⟨i, hi, rfl⟩ := List.mem_map.1 hx
      exact (hf i (List.mem_range.1 hi)).2
set_option maxRecDepth 100000 in
theorem open_op {cs : List Value} {y : DataW H × List MemPlace} (hsp : ∀ b, spare b = true) (h : DataW.trod enc Try.prog W base spare held fuel 53 cs = some y) :
    ∃ o : OpC, cs = [.int .i64 o.kind, .int .i64 o.id.1, .int .i64 o.id.2, o.lv] ∧ OpOk W o := by
  obtain ⟨xs, n, _, _, hl, hxl, hf⟩ := DataW.trod_struct Try.underlying53 h
  have hl4 : cs.length = 4 := hl.trans (by kernel_rfl)
  have hc1 : Try.prog.cellsOf 3 = 1 := by kernel_rfl
  have hc2 : Try.prog.cellsOf 50 = 2 := by kernel_rfl
  have hcb : Try.prog.cellsOf 51 = 1 := by kernel_rfl
  have hx3 : xs.length = 3 := hxl
  match cs, hl4, xs, hx3 with
  | [c0, c1, c2, c3], _, [y0, y1, y2], _ =>
    have f0 : DataW.trod enc Try.prog W base spare held n 3 (([c0, c1, c2, c3].drop 0).take (Try.prog.cellsOf 3)) = some y0 := hf 0 _ rfl
    have f1 : DataW.trod enc Try.prog W base spare held n 50 (([c0, c1, c2, c3].drop 1).take (Try.prog.cellsOf 50)) = some y1 := hf 1 _ rfl
    have f2 : DataW.trod enc Try.prog W base spare held n 51 (([c0, c1, c2, c3].drop 3).take (Try.prog.cellsOf 51)) = some y2 := hf 2 _ rfl
    rw [hc1] at f0
    rw [hc2] at f1
    rw [hcb] at f2
    obtain ⟨k0, e0, _, _⟩ := DataW.trod_int Try.underlying3 f0
    obtain ⟨x, e1, hx⟩ := open_id f1
    obtain ⟨l, hr, hok⟩ := open_list hsp f2
    simp at e0 e1
    obtain ⟨e1, e2⟩ := e1
    subst e0 e1 e2
    exact ⟨⟨k0, x, c3, l⟩, rfl, hx, hok, hr⟩
theorem open_ops {v : Value} {y : DataW H × List MemPlace} (hsp : ∀ b, spare b = true) (h : DataW.trod enc Try.prog W base spare held fuel 45 [v] = some y) : ∃ os : List OpC, OpsAt W v os ∧ os.length ≤ 9223372036854775807 := by
  rcases Go.Deep.open_slice Try.underlying45 h with ⟨hcs, _⟩ | ⟨a, len, cap, m, n, D, Pl, hcs, _, hl, hm, hmm, _, hel⟩
  · simp at hcs
    subst hcs
    exact ⟨[], ⟨none, 0, rfl, fun j hj => absurd hj (Nat.not_lt_zero _)⟩, by simp⟩
  · simp at hcs
    subst hcs
    have hco : Try.prog.cellsOf 53 = 4 := by kernel_rfl
    rw [hco] at hel
    have hall : ∀ i, i < len → ∃ o : OpC, W.cells? base (a.add (i * 4)) 4 = some [.int .i64 o.kind, .int .i64 o.id.1, .int .i64 o.id.2, o.lv] ∧ OpOk W o := fun i hi => by
      obtain ⟨cs', h1, h2⟩ := hel i (by rw [hmm, hsp, if_pos rfl]; omega)
      obtain ⟨o, rfl, h3⟩ := open_op hsp h2
      exact ⟨o, h1, h3⟩
    obtain ⟨f, hf⟩ := @Go.Deep.choose_lt OpC ⟨⟨0, (0, 0), .slice none 0 0, []⟩⟩ len _ hall
    have hlen : ((List.range len).map f).length = len := by simp
    refine ⟨(List.range len).map f, ⟨some a, cap, by rw [hlen], fun j hj => ?_⟩, by rw [hlen]; unfold maxLen at hm; omega⟩
    rw [hlen] at hj
    obtain ⟨hc, h3⟩ := hf j hj
    have hget : ((List.range len).map f)[j]'(by rw [hlen]; exact hj) = f j := by simp
    rw [hget]
    obtain ⟨h4, h5, h6⟩ := World.cells?_some hc
    have hz := (World.cells?_some (hf 0 (by omega)).1).2.2 0 (by omega)
    obtain ⟨b, off, sp⟩ := a
    have hsn : sp = none := by
      have := congrArg Addr.spot (spot_none hz)
      simpa [Addr.add] using this
    subst hsn
    have hcell : ∀ t u, t < 4 → ([Value.int .i64 (f j).kind, .int .i64 (f j).id.1, .int .i64 (f j).id.2, (f j).lv] : List Value)[t]? = some u → W.cell? ⟨b, off + j * 4 + t, none⟩ = some u := fun t u ht hu => by
      have := h6 t ht
      rw [Addr.add_lit, Addr.add_lit, hu] at this
      exact this
    exact ⟨b, off, rfl, ⟨hcell 0 _ (by omega) rfl, hcell 1 _ (by omega) rfl, hcell 2 _ (by omega) rfl, hcell 3 _ (by omega) rfl⟩, h3⟩
end
end Go.Proofs.Yticmopnbfpgaiaa.Clk
