/- LockBo, joined. -/
import Derived.Test.YtalfoiodejoicaaGreatDoorJ30
import Derived.Deep.Slices
import Derived.DataReads
import Derived.Lib.SmallJoins
import Derived.Test.YtalfoiodejoicaaGreatDoorRows
section
namespace Go.Proofs.YtalfoiodejoicaaGreatDoor.Lock
open Go.RowKit Go.Joins Go.ChangeShapes
set_option linter.unusedVariables false
set_option linter.unusedSimpArgs false

section
variable {H : Type} {enc : TypeId × Value → H} {W : World} {base : Nat} {spare : Nat → Bool} {held : Bool} {fuel : Nat}
theorem wf64 {n : Int} (h : (Lit.int .u64 n).wf = true) : 0 ≤ n ∧ n < big64 := by
  simp [Lit.wf, IntKind.min, IntKind.max, IntKind.signed, IntKind.bits] at h
  unfold big64
  omega
theorem bulk_mem {d : DataW H} : ∀ {l : List (DataW H)}, d ∈ l → Rows.uptoBulk d ≤ Rows.uptoBulkAll l
  | x :: l, h => by
    rw [show Rows.uptoBulkAll (x :: l) = Rows.uptoBulk x + Rows.uptoBulkAll l from by simp only [Rows.uptoBulkAll]]
    rcases List.mem_cons.1 h with rfl | h
    · omega
    · have := bulk_mem h; omega
set_option maxRecDepth 100000 in
theorem open_sessionB {cs : List Value} {y : DataW H × List MemPlace} (h : DataW.trod enc Tryz.prog W base spare held fuel 25 cs = some y) : ∃ n f, cs = [.int .u64 n, .string f] ∧ 0 ≤ n ∧ n < big64 ∧ f.size ≤ maxLen ∧ f.size ≤ Rows.uptoBulk y.1 := by
  obtain ⟨xs, n, _, rfl, hl, hxl, hf⟩ := DataW.trod_struct Tryz.underlying25 h
  have hl2 : cs.length = 2 := hl.trans (by kernel_rfl)
  have hc1 : Tryz.prog.cellsOf 23 = 1 := by kernel_rfl
  have hc2 : Tryz.prog.cellsOf 9 = 1 := by kernel_rfl
  have hx2 : xs.length = 2 := hxl
  match cs, hl2, xs, hx2 with
  | [c0, c1], _, [y0, y1], _ =>
    have f0 : DataW.trod enc Tryz.prog W base spare held n 23 (([c0, c1].drop 0).take (Tryz.prog.cellsOf 23)) = some y0 := hf 0 _ rfl
    have f1 : DataW.trod enc Tryz.prog W base spare held n 9 (([c0, c1].drop 1).take (Tryz.prog.cellsOf 9)) = some y1 := hf 1 _ rfl
    rw [hc1] at f0
    rw [hc2] at f1
    obtain ⟨k0, e0, _, w0⟩ := DataW.trod_int Tryz.underlying23 f0
    obtain ⟨k1, e1, g1, w1⟩ := DataW.trod_string Tryz.underlying9 f1
    simp at e0 e1
    subst e0 e1
    subst g1
    refine ⟨k0, k1, rfl, (wf64 w0).1, (wf64 w0).2, w1, ?_⟩
    simp only [List.map_cons, List.map_nil, Rows.uptoBulk, Rows.uptoBulkAll]
    have : k1.data.toList.length = k1.size := Array.length_toList
    omega
def opCB (o : Op) : List Value := [.int .i64 o.kind, .int .i64 o.mode, .string o.path, .int .u64 o.num, .string o.foot]
set_option maxRecDepth 100000 in
theorem open_opB {cs : List Value} {y : DataW H × List MemPlace} (h : DataW.trod enc Tryz.prog W base spare held fuel 70 cs = some y) (hb : Rows.uptoBulk y.1 ≤ 1048576) : ∃ o : Op, cs = opCB o ∧ ((0 ≤ o.num ∧ o.num < big64 ∧ o.foot.size ≤ maxLen ∧ o.path.size ≤ maxLen) ∧ o.foot.size ≤ 2000000) := by
  obtain ⟨xs, n, _, rfl, hl, hxl, hf⟩ := DataW.trod_struct Tryz.underlying70 h
  have hl5 : cs.length = 5 := hl.trans (by kernel_rfl)
  have hc0 : Tryz.prog.cellsOf 3 = 1 := by kernel_rfl
  have hc2 : Tryz.prog.cellsOf 9 = 1 := by kernel_rfl
  have hc3 : Tryz.prog.cellsOf 25 = 2 := by kernel_rfl
  have hx4 : xs.length = 4 := hxl
  match cs, hl5, xs, hx4 with
  | [c0, c1, c2, c3, c4], _, [y0, y1, y2, y3], _ =>
    have f0 : DataW.trod enc Tryz.prog W base spare held n 3 (([c0, c1, c2, c3, c4].drop 0).take (Tryz.prog.cellsOf 3)) = some y0 := hf 0 _ rfl
    have f1 : DataW.trod enc Tryz.prog W base spare held n 3 (([c0, c1, c2, c3, c4].drop 1).take (Tryz.prog.cellsOf 3)) = some y1 := hf 1 _ rfl
    have f2 : DataW.trod enc Tryz.prog W base spare held n 9 (([c0, c1, c2, c3, c4].drop 2).take (Tryz.prog.cellsOf 9)) = some y2 := hf 2 _ rfl
    have f3 : DataW.trod enc Tryz.prog W base spare held n 25 (([c0, c1, c2, c3, c4].drop 3).take (Tryz.prog.cellsOf 25)) = some y3 := hf 3 _ rfl
    rw [hc0] at f0
    rw [hc0] at f1
    rw [hc2] at f2
    rw [hc3] at f3
    obtain ⟨k0, e0, _, _⟩ := DataW.trod_int Tryz.underlying3 f0
    obtain ⟨k1, e1, _, _⟩ := DataW.trod_int Tryz.underlying3 f1
    obtain ⟨k2, e2, _, w2⟩ := DataW.trod_string Tryz.underlying9 f2
    obtain ⟨k3, k4, e3, b0, b1, b2, b3⟩ := open_sessionB f3
    simp only [List.map_cons, List.map_nil, Rows.uptoBulk, Rows.uptoBulkAll] at hb
    simp at e0 e1 e2 e3
    obtain ⟨e3, e4⟩ := e3
    subst e0 e1 e2 e3 e4
    exact ⟨⟨k0, k1, k2, k3, k4⟩, rfl, ⟨b0, b1, b2, w2⟩, (by show k4.size ≤ _; omega)⟩
theorem open_opsB {v : Value} {y : DataW H × List MemPlace} (hsp : ∀ b, spare b = true) (h : DataW.trod enc Tryz.prog W base spare held fuel 61 [v] = some y) (hb : Rows.uptoBulk y.1 ≤ 1048576) : ∃ os : List Op, OpsAt W v os ∧ os.length ≤ 9223372036854775807 ∧ ∀ o ∈ os, o.foot.size ≤ 2000000 := by
  rcases Go.Deep.open_slice Tryz.underlying61 h with ⟨hcs, _⟩ | ⟨a, len, cap, m, n, D, Pl, hcs, _, hl, hm, hmm, rfl, hel⟩
  · simp at hcs
    subst hcs
    exact ⟨[], ⟨none, 0, rfl, fun j hj => absurd hj (Nat.not_lt_zero _)⟩, by simp, nofun⟩
  · simp at hcs
    subst hcs
    have hco : Tryz.prog.cellsOf 70 = 5 := by kernel_rfl
    rw [hco] at hel
    simp only [Rows.uptoBulk] at hb
    have hall : ∀ i, i < len → ∃ o : Op, W.cells? base (a.add (i * 5)) 5 = some (opCB o) ∧ ((0 ≤ o.num ∧ o.num < big64 ∧ o.foot.size ≤ maxLen ∧ o.path.size ≤ maxLen) ∧ o.foot.size ≤ 2000000) := fun i hi => by
      obtain ⟨cs', h1, h2⟩ := hel i (by rw [hmm, hsp, if_pos rfl]; omega)
      have hbi := bulk_mem (d := D i) (List.mem_map.2 ⟨i, List.mem_range.2 hi, rfl⟩ : D i ∈ (List.range len).map D)
      obtain ⟨o, rfl, h3⟩ := open_opB h2 (by show Rows.uptoBulk (D i) ≤ _; omega)
      exact ⟨o, h1, h3⟩
    obtain ⟨f, hf⟩ := @Go.Deep.choose_lt Op ⟨⟨0, 0, .empty, 0, .empty⟩⟩ len _ hall
    have hlen : ((List.range len).map f).length = len := by simp
    refine ⟨(List.range len).map f, ⟨some a, cap, by rw [hlen], fun j hj => ?_⟩, by rw [hlen]; unfold maxLen at hm; omega, ?feet⟩
    case feet =>
      intro o ho
      obtain ⟨j, hj, rfl⟩ := List.mem_map.1 ho
      exact (hf j (List.mem_range.1 hj)).2.2
    rw [hlen] at hj
    obtain ⟨hc, h3, _⟩ := hf j hj
    have hget : ((List.range len).map f)[j]'(by rw [hlen]; exact hj) = f j := by simp
    rw [hget]
    obtain ⟨h4, h5, h6⟩ := World.cells?_some hc
    have hz := (World.cells?_some (hf 0 (by omega)).1).2.2 0 (by omega)
    obtain ⟨b, off, sp⟩ := a
    have hsn : sp = none := by
      have := congrArg Addr.spot (spot_none hz)
      simpa [Addr.add] using this
    subst hsn
    have hcell : ∀ t u, t < 5 → (opCB (f j))[t]? = some u → W.cell? ⟨b, off + j * 5 + t, none⟩ = some u := fun t u ht hu => by
      have := h6 t ht
      rw [Addr.add_lit, Addr.add_lit, hu] at this
      exact this
    exact ⟨b, off, rfl, ⟨hcell 0 _ (by omega) rfl, hcell 1 _ (by omega) rfl, hcell 2 _ (by omega) rfl, hcell 3 _ (by omega) rfl, hcell 4 _ (by omega) rfl⟩, h3⟩
end
end Go.Proofs.YtalfoiodejoicaaGreatDoor.Lock
end
