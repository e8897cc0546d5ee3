/- How a slice of ops that comes in is read. -/
import Derived.Test.YtdbhndieommkaaaNetP14
import Derived.Test.YtdbhndieommkaaaNetR
import Derived.Deep.Slices
import Derived.DataReads
namespace Go.Proofs.Ytdbhndieommkaaa.NetW
open Go.RowKit Go.Joins Go.ChangeShapes

set_option maxRecDepth 100000 in
theorem open_op {H : Type} {enc : TypeId × Value → H} {W : World} {base : Nat} {spare : Nat → Bool} {held : Bool} {fuel : Nat} {cs : List Value} {y : DataW H × List MemPlace} (hsp : ∀ b, spare b = true)
    (h : DataW.trod enc Try.prog W base spare held fuel 59 cs = some y) :
    ∃ o : OpR, cs = [.int .i64 o.kind, .int .i64 o.i, .int .i64 o.bit, .int .i64 o.fro, .int .i64 o.too, o.dv] ∧ BytesAt W o.dv o.data ∧ (∀ x ∈ o.data, 0 ≤ x ∧ x ≤ 255) ∧ o.data.length ≤ 9223372036854775807 ∧ o.bit ≤ 9223372036854775807 := by
  obtain ⟨xs, n, _, _, hl, hxl, hf⟩ := DataW.trod_struct Try.underlying59 h
  have hl6 : cs.length = 6 := hl.trans (by kernel_rfl)
  have hc1 : Try.prog.cellsOf 3 = 1 := by kernel_rfl
  have hc3 : Try.prog.cellsOf 41 = 3 := by kernel_rfl
  have hcb : Try.prog.cellsOf 39 = 1 := by kernel_rfl
  have hx4 : xs.length = 4 := hxl
  match cs, hl6, xs, hx4 with
  | [c0, c1, c2, c3, c4, c5], _, [y0, y1, y2, y3], _ =>
    have f0 : DataW.trod enc Try.prog W base spare held n 3 (([c0, c1, c2, c3, c4, c5].drop 0).take (Try.prog.cellsOf 3)) = some y0 := hf 0 _ rfl
    have f1 : DataW.trod enc Try.prog W base spare held n 3 (([c0, c1, c2, c3, c4, c5].drop 1).take (Try.prog.cellsOf 3)) = some y1 := hf 1 _ rfl
    have f2 : DataW.trod enc Try.prog W base spare held n 3 (([c0, c1, c2, c3, c4, c5].drop 2).take (Try.prog.cellsOf 3)) = some y2 := hf 2 _ rfl
    have f3 : DataW.trod enc Try.prog W base spare held n 41 (([c0, c1, c2, c3, c4, c5].drop 3).take (Try.prog.cellsOf 41)) = some y3 := hf 3 _ rfl
    rw [hc1] at f0 f1 f2
    rw [hc3] at f3
    obtain ⟨k0, e0, _, _⟩ := DataW.trod_int Try.underlying3 f0
    obtain ⟨k1, e1, _, _⟩ := DataW.trod_int Try.underlying3 f1
    obtain ⟨k2, e2, _, w2⟩ := DataW.trod_int Try.underlying3 f2
    obtain ⟨zs, m, _, _, _, hzl, hg⟩ := DataW.trod_struct Try.underlying41 f3
    have hz3 : zs.length = 3 := hzl
    match zs, hz3 with
    | [z0, z1, z2], _ =>
      have g0 : DataW.trod enc Try.prog W base spare held m 3 (([c3, c4, c5].drop 0).take (Try.prog.cellsOf 3)) = some z0 := hg 0 _ rfl
      have g1 : DataW.trod enc Try.prog W base spare held m 3 (([c3, c4, c5].drop 1).take (Try.prog.cellsOf 3)) = some z1 := hg 1 _ rfl
      have g2 : DataW.trod enc Try.prog W base spare held m 39 (([c3, c4, c5].drop 2).take (Try.prog.cellsOf 39)) = some z2 := hg 2 _ rfl
      rw [hc1] at g0 g1
      rw [hcb] at g2
      obtain ⟨k3, e3, _, _⟩ := DataW.trod_int Try.underlying3 g0
      obtain ⟨k4, e4, _, _⟩ := DataW.trod_int Try.underlying3 g1
      obtain ⟨ds, hd, hdl, hdb, _⟩ := open_bytes hsp g2
      simp at e0 e1 e2 e3 e4
      subst e0 e1 e2 e3 e4
      have hb := bounds_i64 w2
      unfold maxLen at hdl
      exact ⟨⟨k0, k1, k2, k3, k4, c5, ds⟩, rfl, hd, hdb, by omega, by simp only; omega⟩

theorem open_ops {H : Type} {enc : TypeId × Value → H} {W : World} {base : Nat} {spare : Nat → Bool} {held : Bool} {fuel : Nat} {v : Value} {y : DataW H × List MemPlace} (hsp : ∀ b, spare b = true)
    (h : DataW.trod enc Try.prog W base spare held fuel 56 [v] = some y) : ∃ os, OpsAt W v os ∧ os.length ≤ 9223372036854775807 := by
  rcases Go.Deep.open_slice Try.underlying56 h with ⟨hcs, _⟩ | ⟨a, len, cap, m, n, D, Pl, hcs, _, hl, hm, hmm, _, hel⟩
  · simp at hcs
    subst hcs
    exact ⟨[], ⟨none, 0, rfl, fun j hj => absurd hj (Nat.not_lt_zero _)⟩, by simp⟩
  · simp at hcs
    subst hcs
    have hco : Try.prog.cellsOf 59 = 6 := by kernel_rfl
    rw [hco] at hel
    have hall : ∀ i, i < len → ∃ o : OpR, W.cells? base (a.add (i * 6)) 6 = some [.int .i64 o.kind, .int .i64 o.i, .int .i64 o.bit, .int .i64 o.fro, .int .i64 o.too, o.dv] ∧ BytesAt W o.dv o.data ∧ (∀ x ∈ o.data, 0 ≤ x ∧ x ≤ 255) ∧ o.data.length ≤ 9223372036854775807 ∧ o.bit ≤ 9223372036854775807 := fun i hi => by
      obtain ⟨cs', h1, h2⟩ := hel i (by rw [hmm, hsp, if_pos rfl]; omega)
      obtain ⟨o, rfl, h3⟩ := open_op hsp h2
      exact ⟨o, h1, h3⟩
    obtain ⟨f, hf⟩ := @Go.Deep.choose_lt OpR ⟨noOp⟩ len _ hall
    have hlen : ((List.range len).map f).length = len := by simp
    refine ⟨(List.range len).map f, ⟨some a, cap, by rw [hlen], fun j hj => ?_⟩, by rw [hlen]; unfold maxLen at hm; omega⟩
    rw [hlen] at hj
    obtain ⟨hc, h3⟩ := hf j hj
    have hget : ((List.range len).map f)[j]'(by rw [hlen]; exact hj) = f j := by simp
    rw [hget]
    obtain ⟨h4, h5, h6⟩ := World.cells?_some hc
    have hz := (World.cells?_some (hf 0 (by omega)).1).2.2 0 (by omega)
    obtain ⟨b, off, sp⟩ := a
    have hsn : sp = none := by
      have := congrArg Addr.spot (spot_none hz)
      simpa [Addr.add] using this
    subst hsn
    have hcell : ∀ t u, t < 6 → ([Value.int .i64 (f j).kind, .int .i64 (f j).i, .int .i64 (f j).bit, .int .i64 (f j).fro, .int .i64 (f j).too, (f j).dv] : List Value)[t]? = some u → W.cell? ⟨b, off + j * 6 + t, none⟩ = some u := fun t u ht hu => by
      have := h6 t ht
      rw [Addr.add_lit, Addr.add_lit, hu] at this
      exact this
    exact ⟨b, off, rfl, ⟨hcell 0 _ (by omega) rfl, hcell 1 _ (by omega) rfl, hcell 2 _ (by omega) rfl, hcell 3 _ (by omega) rfl, hcell 4 _ (by omega) rfl, hcell 5 _ (by omega) rfl⟩, h3⟩
end Go.Proofs.Ytdbhndieommkaaa.NetW
