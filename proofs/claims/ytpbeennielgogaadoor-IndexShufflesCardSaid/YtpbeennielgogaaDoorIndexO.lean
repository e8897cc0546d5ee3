/- The laws of layer 12: how the steps that come in are read. -/
import Derived.Test.YtpbeennielgogaaDoorIndexT
import Derived.Deep.Slices
import Derived.DataReads
import Derived.OpenShut
import Derived.Lib.SmallJoins
namespace Go.Proofs.YtpbeennielgogaaDoor.Ix
open Go.RowKit Go.Joins Go.ChangeShapes Go.WideShapes
open Attr (A8)
open Cmd (Cm)
set_option linter.unusedVariables false
set_option linter.unusedSimpArgs false

theorem cut_at {α : Type} (l : List α) (a s : Nat) {t : Nat} (h : a + s = t) : l.drop a = (l.drop a).take s ++ l.drop t := by
  subst h
  conv => lhs; rw [← List.take_append_drop s (l.drop a)]
  rw [List.drop_drop]
theorem cut_end {α : Type} (l : List α) {n : Nat} (h : l.length = n) : l.drop n = [] := List.drop_eq_nil_of_le (by omega)
section
variable {H : Type} {enc : TypeId × Value → H} {W : World} {base : Nat} {spare : Nat → Bool} {held : Bool} {fuel : Nat}
theorem wf64 {n : Int} (h : (Lit.int .u64 n).wf = true) : 0 ≤ n ∧ n < big64 := by
  simp [Lit.wf, IntKind.min, IntKind.max, IntKind.signed, IntKind.bits] at h
  unfold big64
  omega
set_option maxRecDepth 100000 in
theorem open_sess {cs : List Value} {y : DataW H × List MemPlace} (h : DataW.trod enc Tryd.prog W base spare held fuel 26 cs = some y) : ∃ n f, cs = [.int .u64 n, .string f] ∧ 0 ≤ n ∧ n < big64 := by
  obtain ⟨xs, n, _, rfl, hl, hxl, hf⟩ := DataW.trod_struct Tryd.underlying26 h
  have hn : cs.length = 2 := hl.trans (by kernel_rfl)
  have hx : xs.length = 2 := hxl
  have hc_string : Tryd.prog.cellsOf 9 = 1 := by kernel_rfl
  have hc_uint64 : Tryd.prog.cellsOf 24 = 1 := by kernel_rfl
  match xs, hx with
  | [y0, y1], _ =>
    have f0 : DataW.trod enc Tryd.prog W base spare held n 24 ((cs.drop 0).take (Tryd.prog.cellsOf 24)) = some y0 := hf 0 _ rfl
    rw [hc_uint64] at f0
    have f1 : DataW.trod enc Tryd.prog W base spare held n 9 ((cs.drop 1).take (Tryd.prog.cellsOf 9)) = some y1 := hf 1 _ rfl
    rw [hc_string] at f1
    obtain ⟨k0, e0, _, w0⟩ := DataW.trod_int Tryd.underlying24 f0
    obtain ⟨k1, e1, _, w1⟩ := DataW.trod_string Tryd.underlying9 f1
    have hcs : cs.drop 0 = (cs.drop 0).take 1 ++ ((cs.drop 1).take 1 ++ []) := (cut_at cs 0 1 (t := 1) rfl).trans (congrArg (_ ++ ·) ((cut_at cs 1 1 (t := 2) rfl).trans (congrArg (_ ++ ·) (cut_end cs hn))))
    rw [e0, e1] at hcs
    exact ⟨k0, k1, hcs, (wf64 w0).1, (wf64 w0).2⟩
set_option maxRecDepth 100000 in
theorem open_cmd {cs : List Value} {y : DataW H × List MemPlace} (h : DataW.trod enc Tryd.prog W base spare held fuel 28 cs = some y) : ∃ c : Cm, cs = c.cells ∧ 0 ≤ c.num ∧ c.num < big64 := by
  obtain ⟨xs, n, _, rfl, hl, hxl, hf⟩ := DataW.trod_struct Tryd.underlying28 h
  have hn : cs.length = 8 := hl.trans (by kernel_rfl)
  have hx : xs.length = 7 := hxl
  have hc_int : Tryd.prog.cellsOf 3 = 1 := by kernel_rfl
  have hc_moothillcmdSession : Tryd.prog.cellsOf 26 = 2 := by kernel_rfl
  have hc_string : Tryd.prog.cellsOf 9 = 1 := by kernel_rfl
  have hc_uint64 : Tryd.prog.cellsOf 24 = 1 := by kernel_rfl
  match xs, hx with
  | [y0, y1, y2, y3, y4, y5, y6], _ =>
    have f0 : DataW.trod enc Tryd.prog W base spare held n 3 ((cs.drop 0).take (Tryd.prog.cellsOf 3)) = some y0 := hf 0 _ rfl
    rw [hc_int] at f0
    have f1 : DataW.trod enc Tryd.prog W base spare held n 26 ((cs.drop 1).take (Tryd.prog.cellsOf 26)) = some y1 := hf 1 _ rfl
    rw [hc_moothillcmdSession] at f1
    have f2 : DataW.trod enc Tryd.prog W base spare held n 24 ((cs.drop 3).take (Tryd.prog.cellsOf 24)) = some y2 := hf 2 _ rfl
    rw [hc_uint64] at f2
    have f3 : DataW.trod enc Tryd.prog W base spare held n 9 ((cs.drop 4).take (Tryd.prog.cellsOf 9)) = some y3 := hf 3 _ rfl
    rw [hc_string] at f3
    have f4 : DataW.trod enc Tryd.prog W base spare held n 3 ((cs.drop 5).take (Tryd.prog.cellsOf 3)) = some y4 := hf 4 _ rfl
    rw [hc_int] at f4
    have f5 : DataW.trod enc Tryd.prog W base spare held n 24 ((cs.drop 6).take (Tryd.prog.cellsOf 24)) = some y5 := hf 5 _ rfl
    rw [hc_uint64] at f5
    have f6 : DataW.trod enc Tryd.prog W base spare held n 3 ((cs.drop 7).take (Tryd.prog.cellsOf 3)) = some y6 := hf 6 _ rfl
    rw [hc_int] at f6
    obtain ⟨k0, e0, _, _⟩ := DataW.trod_int Tryd.underlying3 f0
    obtain ⟨k1, k2, e1, w1, v1⟩ := open_sess f1
    obtain ⟨k3, e2, _, w2⟩ := DataW.trod_int Tryd.underlying24 f2
    obtain ⟨k4, e3, _, w3⟩ := DataW.trod_string Tryd.underlying9 f3
    obtain ⟨k5, e4, _, _⟩ := DataW.trod_int Tryd.underlying3 f4
    obtain ⟨k6, e5, _, w5⟩ := DataW.trod_int Tryd.underlying24 f5
    obtain ⟨k7, e6, _, _⟩ := DataW.trod_int Tryd.underlying3 f6
    have hcs : cs.drop 0 = (cs.drop 0).take 1 ++ ((cs.drop 1).take 2 ++ ((cs.drop 3).take 1 ++ ((cs.drop 4).take 1 ++ ((cs.drop 5).take 1 ++ ((cs.drop 6).take 1 ++ ((cs.drop 7).take 1 ++ [])))))) := (cut_at cs 0 1 (t := 1) rfl).trans (congrArg (_ ++ ·) ((cut_at cs 1 2 (t := 3) rfl).trans (congrArg (_ ++ ·) ((cut_at cs 3 1 (t := 4) rfl).trans (congrArg (_ ++ ·) ((cut_at cs 4 1 (t := 5) rfl).trans (congrArg (_ ++ ·) ((cut_at cs 5 1 (t := 6) rfl).trans (congrArg (_ ++ ·) ((cut_at cs 6 1 (t := 7) rfl).trans (congrArg (_ ++ ·) ((cut_at cs 7 1 (t := 8) rfl).trans (congrArg (_ ++ ·) (cut_end cs hn))))))))))))))
    rw [e0, e1, e2, e3, e4, e5, e6] at hcs
    exact ⟨⟨k0, k1, k2, k3, k4, k5, k6, k7⟩, hcs, w1, v1⟩
set_option maxRecDepth 100000 in
theorem open_id {cs : List Value} {y : DataW H × List MemPlace} (h : DataW.trod enc Tryd.prog W base spare held fuel 30 cs = some y) : ∃ r t, cs = [.int .i64 r, .int .i64 t] := by
  obtain ⟨xs, n, _, rfl, hl, hxl, hf⟩ := DataW.trod_struct Tryd.underlying30 h
  have hn : cs.length = 2 := hl.trans (by kernel_rfl)
  have hx : xs.length = 2 := hxl
  have hc_int : Tryd.prog.cellsOf 3 = 1 := by kernel_rfl
  match xs, hx with
  | [y0, y1], _ =>
    have f0 : DataW.trod enc Tryd.prog W base spare held n 3 ((cs.drop 0).take (Tryd.prog.cellsOf 3)) = some y0 := hf 0 _ rfl
    rw [hc_int] at f0
    have f1 : DataW.trod enc Tryd.prog W base spare held n 3 ((cs.drop 1).take (Tryd.prog.cellsOf 3)) = some y1 := hf 1 _ rfl
    rw [hc_int] at f1
    obtain ⟨k0, e0, _, _⟩ := DataW.trod_int Tryd.underlying3 f0
    obtain ⟨k1, e1, _, _⟩ := DataW.trod_int Tryd.underlying3 f1
    have hcs : cs.drop 0 = (cs.drop 0).take 1 ++ ((cs.drop 1).take 1 ++ []) := (cut_at cs 0 1 (t := 1) rfl).trans (congrArg (_ ++ ·) ((cut_at cs 1 1 (t := 2) rfl).trans (congrArg (_ ++ ·) (cut_end cs hn))))
    rw [e0, e1] at hcs
    exact ⟨k0, k1, hcs⟩
set_option maxRecDepth 100000 in
theorem open_key {cs : List Value} {y : DataW H × List MemPlace} (h : DataW.trod enc Tryd.prog W base spare held fuel 37 cs = some y) : ∃ f n, cs = [.string f, .int .u64 n] ∧ 0 ≤ n ∧ n < big64 := by
  obtain ⟨xs, n, _, rfl, hl, hxl, hf⟩ := DataW.trod_struct Tryd.underlying37 h
  have hn : cs.length = 2 := hl.trans (by kernel_rfl)
  have hx : xs.length = 2 := hxl
  have hc_string : Tryd.prog.cellsOf 9 = 1 := by kernel_rfl
  have hc_uint64 : Tryd.prog.cellsOf 24 = 1 := by kernel_rfl
  match xs, hx with
  | [y0, y1], _ =>
    have f0 : DataW.trod enc Tryd.prog W base spare held n 9 ((cs.drop 0).take (Tryd.prog.cellsOf 9)) = some y0 := hf 0 _ rfl
    rw [hc_string] at f0
    have f1 : DataW.trod enc Tryd.prog W base spare held n 24 ((cs.drop 1).take (Tryd.prog.cellsOf 24)) = some y1 := hf 1 _ rfl
    rw [hc_uint64] at f1
    obtain ⟨k0, e0, _, w0⟩ := DataW.trod_string Tryd.underlying9 f0
    obtain ⟨k1, e1, _, w1⟩ := DataW.trod_int Tryd.underlying24 f1
    have hcs : cs.drop 0 = (cs.drop 0).take 1 ++ ((cs.drop 1).take 1 ++ []) := (cut_at cs 0 1 (t := 1) rfl).trans (congrArg (_ ++ ·) ((cut_at cs 1 1 (t := 2) rfl).trans (congrArg (_ ++ ·) (cut_end cs hn))))
    rw [e0, e1] at hcs
    exact ⟨k0, k1, hcs, (wf64 w1).1, (wf64 w1).2⟩
set_option maxRecDepth 100000 in
theorem open_seven {cs : List Value} {y : DataW H × List MemPlace} (h : DataW.trod enc Tryd.prog W base spare held fuel 38 cs = some y) : ∃ d0 d1 d2 d3 d4 d5 d6, cs = [.int .i64 d0, .int .i64 d1, .int .i64 d2, .int .i64 d3, .int .i64 d4, .int .i64 d5, .int .i64 d6] := by
  obtain ⟨xs, n, _, rfl, hl, hxl, hf⟩ := DataW.trod_array Tryd.underlying38 h
  have hn : cs.length = 7 := hl.trans (by kernel_rfl)
  have hx : xs.length = 7 := hxl
  have hc_int : Tryd.prog.cellsOf 3 = 1 := by kernel_rfl
  match xs, hx with
  | [y0, y1, y2, y3, y4, y5, y6], _ =>
    have f0 : DataW.trod enc Tryd.prog W base spare held n 3 ((cs.drop (0 * Tryd.prog.cellsOf 3)).take (Tryd.prog.cellsOf 3)) = some y0 := hf 0 (by omega)
    rw [hc_int] at f0
    have f1 : DataW.trod enc Tryd.prog W base spare held n 3 ((cs.drop (1 * Tryd.prog.cellsOf 3)).take (Tryd.prog.cellsOf 3)) = some y1 := hf 1 (by omega)
    rw [hc_int] at f1
    have f2 : DataW.trod enc Tryd.prog W base spare held n 3 ((cs.drop (2 * Tryd.prog.cellsOf 3)).take (Tryd.prog.cellsOf 3)) = some y2 := hf 2 (by omega)
    rw [hc_int] at f2
    have f3 : DataW.trod enc Tryd.prog W base spare held n 3 ((cs.drop (3 * Tryd.prog.cellsOf 3)).take (Tryd.prog.cellsOf 3)) = some y3 := hf 3 (by omega)
    rw [hc_int] at f3
    have f4 : DataW.trod enc Tryd.prog W base spare held n 3 ((cs.drop (4 * Tryd.prog.cellsOf 3)).take (Tryd.prog.cellsOf 3)) = some y4 := hf 4 (by omega)
    rw [hc_int] at f4
    have f5 : DataW.trod enc Tryd.prog W base spare held n 3 ((cs.drop (5 * Tryd.prog.cellsOf 3)).take (Tryd.prog.cellsOf 3)) = some y5 := hf 5 (by omega)
    rw [hc_int] at f5
    have f6 : DataW.trod enc Tryd.prog W base spare held n 3 ((cs.drop (6 * Tryd.prog.cellsOf 3)).take (Tryd.prog.cellsOf 3)) = some y6 := hf 6 (by omega)
    rw [hc_int] at f6
    obtain ⟨k0, e0, _, _⟩ := DataW.trod_int Tryd.underlying3 f0
    obtain ⟨k1, e1, _, _⟩ := DataW.trod_int Tryd.underlying3 f1
    obtain ⟨k2, e2, _, _⟩ := DataW.trod_int Tryd.underlying3 f2
    obtain ⟨k3, e3, _, _⟩ := DataW.trod_int Tryd.underlying3 f3
    obtain ⟨k4, e4, _, _⟩ := DataW.trod_int Tryd.underlying3 f4
    obtain ⟨k5, e5, _, _⟩ := DataW.trod_int Tryd.underlying3 f5
    obtain ⟨k6, e6, _, _⟩ := DataW.trod_int Tryd.underlying3 f6
    have hcs : cs.drop 0 = (cs.drop 0).take 1 ++ ((cs.drop 1).take 1 ++ ((cs.drop 2).take 1 ++ ((cs.drop 3).take 1 ++ ((cs.drop 4).take 1 ++ ((cs.drop 5).take 1 ++ ((cs.drop 6).take 1 ++ [])))))) := (cut_at cs 0 1 (t := 1) rfl).trans (congrArg (_ ++ ·) ((cut_at cs 1 1 (t := 2) rfl).trans (congrArg (_ ++ ·) ((cut_at cs 2 1 (t := 3) rfl).trans (congrArg (_ ++ ·) ((cut_at cs 3 1 (t := 4) rfl).trans (congrArg (_ ++ ·) ((cut_at cs 4 1 (t := 5) rfl).trans (congrArg (_ ++ ·) ((cut_at cs 5 1 (t := 6) rfl).trans (congrArg (_ ++ ·) ((cut_at cs 6 1 (t := 7) rfl).trans (congrArg (_ ++ ·) (cut_end cs hn))))))))))))))
    simp only [Nat.zero_mul, Nat.one_mul, Nat.mul_one] at e0 e1 e2 e3 e4 e5 e6
    rw [e0, e1, e2, e3, e4, e5, e6] at hcs
    exact ⟨k0, k1, k2, k3, k4, k5, k6, hcs⟩
set_option maxRecDepth 100000 in
theorem open_attr {cs : List Value} {y : DataW H × List MemPlace} (h : DataW.trod enc Tryd.prog W base spare held fuel 40 cs = some y) : ∃ a : A8, cs = a.cells := by
  obtain ⟨xs, n, _, rfl, hl, hxl, hf⟩ := DataW.trod_struct Tryd.underlying40 h
  have hn : cs.length = 8 := hl.trans (by kernel_rfl)
  have hx : xs.length = 2 := hxl
  have hc_7int : Tryd.prog.cellsOf 38 = 7 := by kernel_rfl
  have hc_int : Tryd.prog.cellsOf 3 = 1 := by kernel_rfl
  match xs, hx with
  | [y0, y1], _ =>
    have f0 : DataW.trod enc Tryd.prog W base spare held n 3 ((cs.drop 0).take (Tryd.prog.cellsOf 3)) = some y0 := hf 0 _ rfl
    rw [hc_int] at f0
    have f1 : DataW.trod enc Tryd.prog W base spare held n 38 ((cs.drop 1).take (Tryd.prog.cellsOf 38)) = some y1 := hf 1 _ rfl
    rw [hc_7int] at f1
    obtain ⟨k0, e0, _, _⟩ := DataW.trod_int Tryd.underlying3 f0
    obtain ⟨d0, d1, d2, d3, d4, d5, d6, e1⟩ := open_seven f1
    have hcs : cs.drop 0 = (cs.drop 0).take 1 ++ ((cs.drop 1).take 7 ++ []) := (cut_at cs 0 1 (t := 1) rfl).trans (congrArg (_ ++ ·) ((cut_at cs 1 7 (t := 8) rfl).trans (congrArg (_ ++ ·) (cut_end cs hn))))
    rw [e0, e1] at hcs
    exact ⟨⟨k0, d0, d1, d2, d3, d4, d5, d6⟩, hcs⟩
set_option maxRecDepth 100000 in
theorem open_entry {cs : List Value} {y : DataW H × List MemPlace} (h : DataW.trod enc Tryd.prog W base spare held fuel 42 cs = some y) : ∃ e : En, cs = [.string e.foot, .int .u64 e.num] ++ e.a.cells ∧ 0 ≤ e.num ∧ e.num < big64 := by
  obtain ⟨xs, n, _, rfl, hl, hxl, hf⟩ := DataW.trod_struct Tryd.underlying42 h
  have hn : cs.length = 10 := hl.trans (by kernel_rfl)
  have hx : xs.length = 2 := hxl
  have hc_moothillattrAttr : Tryd.prog.cellsOf 40 = 8 := by kernel_rfl
  have hc_moothillclashKey : Tryd.prog.cellsOf 37 = 2 := by kernel_rfl
  match xs, hx with
  | [y0, y1], _ =>
    have f0 : DataW.trod enc Tryd.prog W base spare held n 37 ((cs.drop 0).take (Tryd.prog.cellsOf 37)) = some y0 := hf 0 _ rfl
    rw [hc_moothillclashKey] at f0
    have f1 : DataW.trod enc Tryd.prog W base spare held n 40 ((cs.drop 2).take (Tryd.prog.cellsOf 40)) = some y1 := hf 1 _ rfl
    rw [hc_moothillattrAttr] at f1
    obtain ⟨k0, k1, e0, w0, v0⟩ := open_key f0
    obtain ⟨a, e1⟩ := open_attr f1
    have hcs : cs.drop 0 = (cs.drop 0).take 2 ++ ((cs.drop 2).take 8 ++ []) := (cut_at cs 0 2 (t := 2) rfl).trans (congrArg (_ ++ ·) ((cut_at cs 2 8 (t := 10) rfl).trans (congrArg (_ ++ ·) (cut_end cs hn))))
    rw [e0, e1] at hcs
    exact ⟨⟨k0, k1, a⟩, hcs, w0, v0⟩
set_option maxRecDepth 100000 in
theorem open_op {cs : List Value} {y : DataW H × List MemPlace} (h : DataW.trod enc Tryd.prog W base spare held fuel 44 cs = some y) : ∃ o : Op12, cs = o.cells ∧ 0 ≤ o.c.num ∧ o.c.num < big64 ∧ 0 ≤ o.e.num ∧ o.e.num < big64 := by
  obtain ⟨xs, n, _, rfl, hl, hxl, hf⟩ := DataW.trod_struct Tryd.underlying44 h
  have hn : cs.length = 22 := hl.trans (by kernel_rfl)
  have hx : xs.length = 5 := hxl
  have hc_int : Tryd.prog.cellsOf 3 = 1 := by kernel_rfl
  have hc_moothillcmdCmd : Tryd.prog.cellsOf 28 = 8 := by kernel_rfl
  have hc_moothillindexEntry : Tryd.prog.cellsOf 42 = 10 := by kernel_rfl
  have hc_moothillmarkID : Tryd.prog.cellsOf 30 = 2 := by kernel_rfl
  match xs, hx with
  | [y0, y1, y2, y3, y4], _ =>
    have f0 : DataW.trod enc Tryd.prog W base spare held n 3 ((cs.drop 0).take (Tryd.prog.cellsOf 3)) = some y0 := hf 0 _ rfl
    rw [hc_int] at f0
    have f1 : DataW.trod enc Tryd.prog W base spare held n 28 ((cs.drop 1).take (Tryd.prog.cellsOf 28)) = some y1 := hf 1 _ rfl
    rw [hc_moothillcmdCmd] at f1
    have f2 : DataW.trod enc Tryd.prog W base spare held n 30 ((cs.drop 9).take (Tryd.prog.cellsOf 30)) = some y2 := hf 2 _ rfl
    rw [hc_moothillmarkID] at f2
    have f3 : DataW.trod enc Tryd.prog W base spare held n 3 ((cs.drop 11).take (Tryd.prog.cellsOf 3)) = some y3 := hf 3 _ rfl
    rw [hc_int] at f3
    have f4 : DataW.trod enc Tryd.prog W base spare held n 42 ((cs.drop 12).take (Tryd.prog.cellsOf 42)) = some y4 := hf 4 _ rfl
    rw [hc_moothillindexEntry] at f4
    obtain ⟨k0, e0, _, _⟩ := DataW.trod_int Tryd.underlying3 f0
    obtain ⟨c, e1, w1, v1⟩ := open_cmd f1
    obtain ⟨r, t, e2⟩ := open_id f2
    obtain ⟨q, e3, _, _⟩ := DataW.trod_int Tryd.underlying3 f3
    obtain ⟨en, e4, w4, v4⟩ := open_entry f4
    have hcs : cs.drop 0 = (cs.drop 0).take 1 ++ ((cs.drop 1).take 8 ++ ((cs.drop 9).take 2 ++ ((cs.drop 11).take 1 ++ ((cs.drop 12).take 10 ++ [])))) := (cut_at cs 0 1 (t := 1) rfl).trans (congrArg (_ ++ ·) ((cut_at cs 1 8 (t := 9) rfl).trans (congrArg (_ ++ ·) ((cut_at cs 9 2 (t := 11) rfl).trans (congrArg (_ ++ ·) ((cut_at cs 11 1 (t := 12) rfl).trans (congrArg (_ ++ ·) ((cut_at cs 12 10 (t := 22) rfl).trans (congrArg (_ ++ ·) (cut_end cs hn))))))))))
    rw [e0, e1, e2, e3, e4] at hcs
    exact ⟨⟨k0, c, r, t, q, en⟩, hcs, w1, v1, w4, v4⟩
theorem open_ops {v : Value} {y : DataW H × List MemPlace} (hsp : ∀ b, spare b = true) (h : DataW.trod enc Tryd.prog W base spare held fuel 22 [v] = some y) : ∃ os : List Op12, OpsAt W v os ∧ os.length ≤ 9223372036854775807 := by
  rcases Go.Deep.open_slice Tryd.underlying22 h with ⟨hcs, _⟩ | ⟨a, len, cap, m, n, D, Pl, hcs, _, hl, hm, hmm, _, hel⟩
  · simp at hcs
    subst hcs
    exact ⟨[], ⟨none, 0, rfl, fun j hj => absurd hj (Nat.not_lt_zero _)⟩, by simp⟩
  · simp at hcs
    subst hcs
    have hco : Tryd.prog.cellsOf 44 = 22 := by kernel_rfl
    rw [hco] at hel
    have hall : ∀ i, i < len → ∃ o : Op12, W.cells? base (a.add (i * 22)) 22 = some o.cells ∧ (0 ≤ o.c.num ∧ o.c.num < big64 ∧ 0 ≤ o.e.num ∧ o.e.num < big64) := fun i hi => by
      obtain ⟨cs', h1, h2⟩ := hel i (by rw [hmm, hsp, if_pos rfl]; omega)
      obtain ⟨o, rfl, h3⟩ := open_op h2
      exact ⟨o, h1, h3⟩
    obtain ⟨f, hf⟩ := @Go.Deep.choose_lt Op12 ⟨⟨0, ⟨0, 0, .empty, 0, .empty, 0, 0, 0⟩, 0, 0, 0, ⟨.empty, 0, ⟨0, 0, 0, 0, 0, 0, 0, 0⟩⟩⟩⟩ len _ hall
    have hlen : ((List.range len).map f).length = len := by simp
    refine ⟨(List.range len).map f, ⟨some a, cap, by rw [hlen], fun j hj => ?_⟩, by rw [hlen]; unfold maxLen at hm; omega⟩
    rw [hlen] at hj
    obtain ⟨hc, h3⟩ := hf j hj
    have hget : ((List.range len).map f)[j]'(by rw [hlen]; exact hj) = f j := by simp
    rw [hget]
    obtain ⟨h4, h5, h6⟩ := World.cells?_some hc
    have hz := (World.cells?_some (hf 0 (by omega)).1).2.2 0 (by omega)
    obtain ⟨b, off, sp⟩ := a
    have hsn : sp = none := by
      have := congrArg Addr.spot (spot_none hz)
      simpa [Addr.add] using this
    subst hsn
    have hcell : ∀ t u, (f j).cells[t]? = some u → W.cell? ⟨b, off + j * 22 + t, none⟩ = some u := fun t u hu => by
      have ht : t < 22 := by
        rcases Nat.lt_or_ge t 22 with q | q
        · exact q
        · rw [List.getElem?_eq_none (show (f j).cells.length ≤ t from q)] at hu
          cases hu
      have := h6 t ht
      rw [Addr.add_lit, Addr.add_lit, hu] at this
      exact this
    exact ⟨b, off, rfl, hcell, h3⟩
variable {d : DataW H} {ps : List MemPlace} {r : Reach} {b0 : Nat}
set_option maxRecDepth 100000 in
theorem openV_cmd {v : Value} (hv : Value.okWide Tryd.prog W r b0 28 v) (h : DataW.Trod enc Tryd.prog W base spare held 28 v d ps) : ∃ c : Cm, v = c.val ∧ 0 ≤ c.num ∧ c.num < big64 := by
  obtain ⟨cs, rfl, _⟩ := okWide_struct Tryd.underlying28 hv
  obtain ⟨fuel, hf⟩ := h
  obtain ⟨c, hc, h0, h1⟩ := open_cmd (cs := cs.toList) hf
  refine ⟨c, ?_, h0, h1⟩
  rw [show cs = c.cells.toArray from by rw [← hc]]
  rfl
set_option maxRecDepth 100000 in
theorem openV_id {v : Value} (hv : Value.okWide Tryd.prog W r b0 30 v) (h : DataW.Trod enc Tryd.prog W base spare held 30 v d ps) : ∃ r t : Int, v = .agg #[.int .i64 r, .int .i64 t] := by
  obtain ⟨cs, rfl, _⟩ := okWide_struct Tryd.underlying30 hv
  obtain ⟨fuel, hf⟩ := h
  obtain ⟨c0, c1, hc⟩ := open_id (cs := cs.toList) hf
  refine ⟨c0, c1, ?_⟩
  rw [show cs = [Value.int .i64 c0, .int .i64 c1].toArray from by rw [← hc]]
end
end Go.Proofs.YtpbeennielgogaaDoor.Ix
