/- LeasePlays: how the ops that come in are read. -/
import Derived.Test.YtbdcgadcjgmgbaaLeaseZ2
import Derived.Deep.Slices
import Derived.DataReads
import Derived.Lib.SmallJoins
namespace Go.Proofs.Ytbdcgadcjgmgbaa.Lease
open Go.RowKit Go.Joins Go.ChangeShapes
set_option linter.unusedVariables false
set_option linter.unusedSimpArgs false

section
variable {H : Type} {enc : TypeId × Value → H} {W : World} {base : Nat} {spare : Nat → Bool} {held : Bool} {fuel : Nat}
set_option maxRecDepth 100000 in
theorem open_answer {cs : List Value} {y : DataW H × List MemPlace} (h : DataW.trod enc Try.prog W base spare held fuel 34 cs = some y) : ∃ x : Ans, cs = [.int .i64 x.e, .int .u64 x.n, .bool x.g] := by
  obtain ⟨xs, n, _, _, hl, hxl, hf⟩ := DataW.trod_struct Try.underlying34 h
  have hl3 : cs.length = 3 := hl.trans (by kernel_rfl)
  have hc1 : Try.prog.cellsOf 32 = 1 := by kernel_rfl
  have hc2 : Try.prog.cellsOf 23 = 1 := by kernel_rfl
  have hc3 : Try.prog.cellsOf 4 = 1 := by kernel_rfl
  have hx3 : xs.length = 3 := hxl
  match cs, hl3, xs, hx3 with
  | [c0, c1, c2], _, [y0, y1, y2], _ =>
    have f0 : DataW.trod enc Try.prog W base spare held n 32 (([c0, c1, c2].drop 0).take (Try.prog.cellsOf 32)) = some y0 := hf 0 _ rfl
    have f1 : DataW.trod enc Try.prog W base spare held n 23 (([c0, c1, c2].drop 1).take (Try.prog.cellsOf 23)) = some y1 := hf 1 _ rfl
    have f2 : DataW.trod enc Try.prog W base spare held n 4 (([c0, c1, c2].drop 2).take (Try.prog.cellsOf 4)) = some y2 := hf 2 _ rfl
    rw [hc1] at f0
    rw [hc2] at f1
    rw [hc3] at f2
    obtain ⟨k0, e0, _, _⟩ := DataW.trod_int Try.underlying32 f0
    obtain ⟨k1, e1, _, _⟩ := DataW.trod_int Try.underlying23 f1
    obtain ⟨k2, e2, _⟩ := DataW.trod_bool Try.underlying4 f2
    simp at e0 e1 e2
    subst e0 e1 e2
    exact ⟨⟨k0, k1, k2⟩, rfl⟩
theorem wf64 {n : Int} (h : (Lit.int .u64 n).wf = true) : 0 ≤ n ∧ n < big64 := by
  simp [Lit.wf, IntKind.min, IntKind.max, IntKind.signed, IntKind.bits] at h
  unfold big64
  omega
set_option maxRecDepth 100000 in
theorem open_session {cs : List Value} {y : DataW H × List MemPlace} (h : DataW.trod enc Try.prog W base spare held fuel 25 cs = some y) : ∃ n f, cs = [.int .u64 n, .string f] ∧ 0 ≤ n ∧ n < big64 ∧ f.size ≤ maxLen := by
  obtain ⟨xs, n, _, _, hl, hxl, hf⟩ := DataW.trod_struct Try.underlying25 h
  have hl2 : cs.length = 2 := hl.trans (by kernel_rfl)
  have hc1 : Try.prog.cellsOf 23 = 1 := by kernel_rfl
  have hc2 : Try.prog.cellsOf 9 = 1 := by kernel_rfl
  have hx2 : xs.length = 2 := hxl
  match cs, hl2, xs, hx2 with
  | [c0, c1], _, [y0, y1], _ =>
    have f0 : DataW.trod enc Try.prog W base spare held n 23 (([c0, c1].drop 0).take (Try.prog.cellsOf 23)) = some y0 := hf 0 _ rfl
    have f1 : DataW.trod enc Try.prog W base spare held n 9 (([c0, c1].drop 1).take (Try.prog.cellsOf 9)) = some y1 := hf 1 _ rfl
    rw [hc1] at f0
    rw [hc2] at f1
    obtain ⟨k0, e0, _, w0⟩ := DataW.trod_int Try.underlying23 f0
    obtain ⟨k1, e1, _, w1⟩ := DataW.trod_string Try.underlying9 f1
    simp at e0 e1
    subst e0 e1
    exact ⟨k0, k1, rfl, (wf64 w0).1, (wf64 w0).2, w1⟩
def opC (o : Int × OpR) : List Value := [.int .i64 o.1, .int .i64 o.2.a, .int .i64 o.2.b, .int .i64 o.2.many, .int .u64 o.2.num, .string o.2.foot, .int .u64 o.2.req, .int .i64 o.2.ans.e, .int .u64 o.2.ans.n, .bool o.2.ans.g]
set_option maxRecDepth 100000 in
theorem open_op {cs : List Value} {y : DataW H × List MemPlace} (h : DataW.trod enc Try.prog W base spare held fuel 36 cs = some y) : ∃ o : Int × OpR, cs = opC o ∧ o.2.Ok := by
  obtain ⟨xs, n, _, _, hl, hxl, hf⟩ := DataW.trod_struct Try.underlying36 h
  have hl10 : cs.length = 10 := hl.trans (by kernel_rfl)
  have hc0 : Try.prog.cellsOf 3 = 1 := by kernel_rfl
  have hc4 : Try.prog.cellsOf 25 = 2 := by kernel_rfl
  have hc5 : Try.prog.cellsOf 23 = 1 := by kernel_rfl
  have hc6 : Try.prog.cellsOf 34 = 3 := by kernel_rfl
  have hx7 : xs.length = 7 := hxl
  match cs, hl10, xs, hx7 with
  | [c0, c1, c2, c3, c4, c5, c6, c7, c8, c9], _, [y0, y1, y2, y3, y4, y5, y6], _ =>
    have f0 : DataW.trod enc Try.prog W base spare held n 3 (([c0, c1, c2, c3, c4, c5, c6, c7, c8, c9].drop 0).take (Try.prog.cellsOf 3)) = some y0 := hf 0 _ rfl
    have f1 : DataW.trod enc Try.prog W base spare held n 3 (([c0, c1, c2, c3, c4, c5, c6, c7, c8, c9].drop 1).take (Try.prog.cellsOf 3)) = some y1 := hf 1 _ rfl
    have f2 : DataW.trod enc Try.prog W base spare held n 3 (([c0, c1, c2, c3, c4, c5, c6, c7, c8, c9].drop 2).take (Try.prog.cellsOf 3)) = some y2 := hf 2 _ rfl
    have f3 : DataW.trod enc Try.prog W base spare held n 3 (([c0, c1, c2, c3, c4, c5, c6, c7, c8, c9].drop 3).take (Try.prog.cellsOf 3)) = some y3 := hf 3 _ rfl
    have f4 : DataW.trod enc Try.prog W base spare held n 25 (([c0, c1, c2, c3, c4, c5, c6, c7, c8, c9].drop 4).take (Try.prog.cellsOf 25)) = some y4 := hf 4 _ rfl
    have f5 : DataW.trod enc Try.prog W base spare held n 23 (([c0, c1, c2, c3, c4, c5, c6, c7, c8, c9].drop 6).take (Try.prog.cellsOf 23)) = some y5 := hf 5 _ rfl
    have f6 : DataW.trod enc Try.prog W base spare held n 34 (([c0, c1, c2, c3, c4, c5, c6, c7, c8, c9].drop 7).take (Try.prog.cellsOf 34)) = some y6 := hf 6 _ rfl
    rw [hc0] at f0
    rw [hc0] at f1
    rw [hc0] at f2
    rw [hc0] at f3
    rw [hc4] at f4
    rw [hc5] at f5
    rw [hc6] at f6
    obtain ⟨k0, e0, _, _⟩ := DataW.trod_int Try.underlying3 f0
    obtain ⟨k1, e1, _, _⟩ := DataW.trod_int Try.underlying3 f1
    obtain ⟨k2, e2, _, _⟩ := DataW.trod_int Try.underlying3 f2
    obtain ⟨k3, e3, _, _⟩ := DataW.trod_int Try.underlying3 f3
    obtain ⟨k4, k5, e4, b0, b1, b2⟩ := open_session f4
    obtain ⟨k6, e6, _, w6⟩ := DataW.trod_int Try.underlying23 f5
    obtain ⟨k7, e7⟩ := open_answer f6
    simp at e0 e1 e2 e3 e4 e6 e7
    obtain ⟨e4, e5⟩ := e4
    obtain ⟨e7, e8, e9⟩ := e7
    subst e0 e1 e2 e3 e4 e5 e6 e7 e8 e9
    exact ⟨(k0, ⟨k1, k2, k3, k4, k5, k6, k7⟩), rfl, ⟨b0, b1, b2, (wf64 w6).1, (wf64 w6).2⟩⟩
theorem open_ops {v : Value} {y : DataW H × List MemPlace} (hsp : ∀ b, spare b = true) (h : DataW.trod enc Try.prog W base spare held fuel 22 [v] = some y) : ∃ os : List (Int × OpR), OpsAt W v os ∧ os.length ≤ 9223372036854775807 := by
  rcases Go.Deep.open_slice Try.underlying22 h with ⟨hcs, _⟩ | ⟨a, len, cap, m, n, D, Pl, hcs, _, hl, hm, hmm, _, hel⟩
  · simp at hcs
    subst hcs
    exact ⟨[], ⟨none, 0, rfl, fun j hj => absurd hj (Nat.not_lt_zero _)⟩, by simp⟩
  · simp at hcs
    subst hcs
    have hco : Try.prog.cellsOf 36 = 10 := by kernel_rfl
    rw [hco] at hel
    have hall : ∀ i, i < len → ∃ o : Int × OpR, W.cells? base (a.add (i * 10)) 10 = some (opC o) ∧ o.2.Ok := fun i hi => by
      obtain ⟨cs', h1, h2⟩ := hel i (by rw [hmm, hsp, if_pos rfl]; omega)
      obtain ⟨o, rfl, h3⟩ := open_op h2
      exact ⟨o, h1, h3⟩
    obtain ⟨f, hf⟩ := @Go.Deep.choose_lt (Int × OpR) ⟨(0, ⟨0, 0, 0, 0, .empty, 0, ⟨0, 0, false⟩⟩)⟩ len _ hall
    have hlen : ((List.range len).map f).length = len := by simp
    refine ⟨(List.range len).map f, ⟨some a, cap, by rw [hlen], fun j hj => ?_⟩, by rw [hlen]; unfold maxLen at hm; omega⟩
    rw [hlen] at hj
    obtain ⟨hc, h3⟩ := hf j hj
    have hget : ((List.range len).map f)[j]'(by rw [hlen]; exact hj) = f j := by simp
    rw [hget]
    obtain ⟨h4, h5, h6⟩ := World.cells?_some hc
    have hz := (World.cells?_some (hf 0 (by omega)).1).2.2 0 (by omega)
    obtain ⟨b, off, sp⟩ := a
    have hsn : sp = none := by
      have := congrArg Addr.spot (spot_none hz)
      simpa [Addr.add] using this
    subst hsn
    have hcell : ∀ t u, t < 10 → (opC (f j))[t]? = some u → W.cell? ⟨b, off + j * 10 + t, none⟩ = some u := fun t u ht hu => by
      have := h6 t ht
      rw [Addr.add_lit, Addr.add_lit, hu] at this
      exact this
    exact ⟨b, off, rfl, ⟨hcell 0 _ (by omega) rfl, hcell 1 _ (by omega) rfl, hcell 2 _ (by omega) rfl, hcell 3 _ (by omega) rfl, hcell 4 _ (by omega) rfl, hcell 5 _ (by omega) rfl, hcell 6 _ (by omega) rfl, hcell 7 _ (by omega) rfl, hcell 8 _ (by omega) rfl, hcell 9 _ (by omega) rfl⟩, h3⟩
end
end Go.Proofs.Ytbdcgadcjgmgbaa.Lease
