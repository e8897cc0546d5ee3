/- GrbO, RefO, RefT, joined. -/
import Derived.Test.YtgicohkmfbbbdaaK24
import Derived.Deep.Slices
import Derived.DataReads
import Derived.OpenShut
import Derived.Lib.SmallJoins
import Derived.Test.YtgicohkmfbbbdaaK22
import Derived.Test.YtgicohkmfbbbdaaK20
import Derived.Test.YtgicohkmfbbbdaaK17
section
namespace Go.Proofs.Ytgicohkmfbbbdaa.Gr
open Go.RowKit Go.Joins Go.ChangeShapes Go.WideShapes
open Attr (A8)
open _root_.Go.Proofs.Ytgicohkmfbbbdaa.Ref (flatD cellsD cellsD_len IA)
set_option linter.unusedVariables false
set_option linter.unusedSimpArgs false

theorem cut_at {α : Type} (l : List α) (a s : Nat) {t : Nat} (h : a + s = t) : l.drop a = (l.drop a).take s ++ l.drop t := by
  subst h
  conv => lhs; rw [← List.take_append_drop s (l.drop a)]
  rw [List.drop_drop]
theorem cut_end {α : Type} (l : List α) {n : Nat} (h : l.length = n) : l.drop n = [] := List.drop_eq_nil_of_le (by omega)
theorem old_cell {W w : World} (h : (Part.old W).holds w) {b off : Nat} {u : Value} (hc : W.cell? ⟨b, off, none⟩ = some u) : w.cell? ⟨b, off, none⟩ = some u := by
  have hb : b < W.heap.size := by
    rcases Nat.lt_or_ge b W.heap.size with q | q
    · exact q
    · simp [World.cell?, Array.getElem?_eq_none q] at hc
  have := h b hb
  rw [← hc]
  simp [World.cell?, this]
theorem below_old {w w' : World} {L F : List Part} (h : At [Part.old w] w L w') (s : Sel (Part.old w) L F) : Below w.heap.size w w' := by
  have ho : (Part.old w).holds w' := h.get s
  exact ⟨h.exc.os, h.exc.tape, h.exc.output, h.exc.size, fun b hb => ho b hb⟩
theorem old_start (w : World) : At [Part.old w] w [Part.old w] w := At.start ⟨fun _ _ => rfl, trivial, nofun⟩
theorem old_readsG {W : World} {v : Value} {n : Nat} {xs : List Value} (h : Reads W v n xs) {w : World} (hw : (Part.old W).holds w) : Reads w v n xs := by
  obtain ⟨ax, c, hx, ha, hn⟩ := h
  refine ⟨ax, c, hx, ha, fun j u hj => ?_⟩
  obtain ⟨b, off, h1, h2⟩ := hn j u hj
  exact ⟨b, off, h1, old_cell hw h2⟩
section
variable {H : Type} {enc : TypeId × Value → H} {W : World} {base : Nat} {spare : Nat → Bool} {held : Bool} {fuel : Nat}
theorem wfI {n : Int} (h : (Lit.int .i64 n).wf = true) : okI n := by
  simp [Lit.wf, IntKind.min, IntKind.max, IntKind.signed, IntKind.bits] at h
  unfold okI
  omega
theorem okWide_array {P : Program} {w : World} {r : Reach} {base : Nat} {t e : TypeId} {v : Value} {n : Nat} (ht : P.underlying t = some (.array n e)) (h : Value.okWide P w r base t v) : ∃ cs, v = .agg cs ∧ cs.size = P.cellsOf t := by
  simp only [Value.okWide, ht] at h
  obtain ⟨cs, h1, h2, _⟩ := h
  exact ⟨cs, h1, h2⟩
/-- a row that came in -/
theorem reads_of {α : Type} {encA : α → List Value} {size : Nat} (hs : ∀ x, (encA x).length = size) (h0 : 0 < size) {a : Addr} {len cap : Nat} {f : Nat → α} (h : ∀ i, i < len → W.cells? base (a.add (i * size)) size = some (encA (f i))) :
    Reads W (.slice (some a) len cap) len (((List.range len).map f).flatMap encA) := by
  refine ⟨some a, cap, rfl, nofun, fun j u hj => ?_⟩
  have hj2 : j < len * size := by
    have := (List.getElem?_eq_some_iff.1 hj).1
    rw [flat_len encA size hs] at this
    simpa using this
  have hi : j / size < len := Nat.div_lt_of_lt_mul (by rw [Nat.mul_comm]; exact hj2)
  have hm : j % size < size := Nat.mod_lt _ h0
  obtain ⟨h4, h5, h6⟩ := World.cells?_some (h (j / size) hi)
  have hz := (World.cells?_some (h 0 (Nat.lt_of_le_of_lt (Nat.zero_le _) hi))).2.2 0 h0
  obtain ⟨u0, hu0⟩ : ∃ u, (encA (f 0))[0]? = some u := ⟨_, List.getElem?_eq_getElem (by rw [hs]; exact h0)⟩
  rw [hu0] at hz
  obtain ⟨b, off, sp⟩ := a
  have hsn : sp = none := by
    have := congrArg Addr.spot (spot_none hz)
    simpa [Addr.add] using this
  subst hsn
  have e := flat_at encA size hs ((List.range len).map f) (j / size) (f (j / size)) (by simp [hi]) (j % size) hm
  have hjj : j / size * size + j % size = j := by rw [Nat.mul_comm]; exact Nat.div_add_mod j size
  rw [hjj] at e
  rw [e] at hj
  have h7 := h6 (j % size) hm
  rw [Addr.add_lit, Addr.add_lit, Nat.add_assoc, hjj] at h7
  exact ⟨b, off, rfl, h7.trans hj⟩
set_option maxRecDepth 100000 in
theorem open_id {cs : List Value} {y : DataW H × List MemPlace} (h : DataW.trod enc Try.prog W base spare held fuel 38 cs = some y) : ∃ x : I2, cs = idL x ∧ okD x := by
  obtain ⟨xs, n, _, rfl, hl, hxl, hf⟩ := DataW.trod_struct Try.underlying38 h
  have hn : cs.length = 2 := hl.trans (by kernel_rfl)
  have hx : xs.length = 2 := hxl
  have hc_int : Try.prog.cellsOf 3 = 1 := by kernel_rfl
  match xs, hx with
  | [y0, y1], _ =>
    have f0 : DataW.trod enc Try.prog W base spare held n 3 ((cs.drop 0).take (Try.prog.cellsOf 3)) = some y0 := hf 0 _ rfl
    rw [hc_int] at f0
    have f1 : DataW.trod enc Try.prog W base spare held n 3 ((cs.drop 1).take (Try.prog.cellsOf 3)) = some y1 := hf 1 _ rfl
    rw [hc_int] at f1
    obtain ⟨k0, e0, _, v0⟩ := DataW.trod_int Try.underlying3 f0
    obtain ⟨k1, e1, _, v1⟩ := DataW.trod_int Try.underlying3 f1
    have hcs : cs.drop 0 = (cs.drop 0).take 1 ++ ((cs.drop 1).take 1 ++ []) := (cut_at cs 0 1 (t := 1) rfl).trans (congrArg (_ ++ ·) ((cut_at cs 1 1 (t := 2) rfl).trans (congrArg (_ ++ ·) (cut_end cs hn))))
    rw [e0, e1] at hcs
    exact ⟨(k0, k1), hcs, wfI v0, wfI v1⟩
set_option maxRecDepth 100000 in
theorem open_seven {cs : List Value} {y : DataW H × List MemPlace} (h : DataW.trod enc Try.prog W base spare held fuel 23 cs = some y) : ∃ d0 d1 d2 d3 d4 d5 d6, cs = [.int .i64 d0, .int .i64 d1, .int .i64 d2, .int .i64 d3, .int .i64 d4, .int .i64 d5, .int .i64 d6] := by
  obtain ⟨xs, n, _, rfl, hl, hxl, hf⟩ := DataW.trod_array Try.underlying23 h
  have hn : cs.length = 7 := hl.trans (by kernel_rfl)
  have hx : xs.length = 7 := hxl
  have hc_int : Try.prog.cellsOf 3 = 1 := by kernel_rfl
  match xs, hx with
  | [y0, y1, y2, y3, y4, y5, y6], _ =>
    have f0 : DataW.trod enc Try.prog W base spare held n 3 ((cs.drop (0 * Try.prog.cellsOf 3)).take (Try.prog.cellsOf 3)) = some y0 := hf 0 (by omega)
    rw [hc_int] at f0
    have f1 : DataW.trod enc Try.prog W base spare held n 3 ((cs.drop (1 * Try.prog.cellsOf 3)).take (Try.prog.cellsOf 3)) = some y1 := hf 1 (by omega)
    rw [hc_int] at f1
    have f2 : DataW.trod enc Try.prog W base spare held n 3 ((cs.drop (2 * Try.prog.cellsOf 3)).take (Try.prog.cellsOf 3)) = some y2 := hf 2 (by omega)
    rw [hc_int] at f2
    have f3 : DataW.trod enc Try.prog W base spare held n 3 ((cs.drop (3 * Try.prog.cellsOf 3)).take (Try.prog.cellsOf 3)) = some y3 := hf 3 (by omega)
    rw [hc_int] at f3
    have f4 : DataW.trod enc Try.prog W base spare held n 3 ((cs.drop (4 * Try.prog.cellsOf 3)).take (Try.prog.cellsOf 3)) = some y4 := hf 4 (by omega)
    rw [hc_int] at f4
    have f5 : DataW.trod enc Try.prog W base spare held n 3 ((cs.drop (5 * Try.prog.cellsOf 3)).take (Try.prog.cellsOf 3)) = some y5 := hf 5 (by omega)
    rw [hc_int] at f5
    have f6 : DataW.trod enc Try.prog W base spare held n 3 ((cs.drop (6 * Try.prog.cellsOf 3)).take (Try.prog.cellsOf 3)) = some y6 := hf 6 (by omega)
    rw [hc_int] at f6
    obtain ⟨k0, e0, _, v0⟩ := DataW.trod_int Try.underlying3 f0
    obtain ⟨k1, e1, _, v1⟩ := DataW.trod_int Try.underlying3 f1
    obtain ⟨k2, e2, _, v2⟩ := DataW.trod_int Try.underlying3 f2
    obtain ⟨k3, e3, _, v3⟩ := DataW.trod_int Try.underlying3 f3
    obtain ⟨k4, e4, _, v4⟩ := DataW.trod_int Try.underlying3 f4
    obtain ⟨k5, e5, _, v5⟩ := DataW.trod_int Try.underlying3 f5
    obtain ⟨k6, e6, _, v6⟩ := DataW.trod_int Try.underlying3 f6
    have hcs : cs.drop 0 = (cs.drop 0).take 1 ++ ((cs.drop 1).take 1 ++ ((cs.drop 2).take 1 ++ ((cs.drop 3).take 1 ++ ((cs.drop 4).take 1 ++ ((cs.drop 5).take 1 ++ ((cs.drop 6).take 1 ++ [])))))) := (cut_at cs 0 1 (t := 1) rfl).trans (congrArg (_ ++ ·) ((cut_at cs 1 1 (t := 2) rfl).trans (congrArg (_ ++ ·) ((cut_at cs 2 1 (t := 3) rfl).trans (congrArg (_ ++ ·) ((cut_at cs 3 1 (t := 4) rfl).trans (congrArg (_ ++ ·) ((cut_at cs 4 1 (t := 5) rfl).trans (congrArg (_ ++ ·) ((cut_at cs 5 1 (t := 6) rfl).trans (congrArg (_ ++ ·) ((cut_at cs 6 1 (t := 7) rfl).trans (congrArg (_ ++ ·) (cut_end cs hn))))))))))))))
    simp only [Nat.zero_mul, Nat.one_mul, Nat.mul_one] at e0 e1 e2 e3 e4 e5 e6
    rw [e0, e1, e2, e3, e4, e5, e6] at hcs
    exact ⟨k0, k1, k2, k3, k4, k5, k6, hcs⟩
set_option maxRecDepth 100000 in
theorem open_front {cs : List Value} {y : DataW H × List MemPlace} (h : DataW.trod enc Try.prog W base spare held fuel 24 cs = some y) : ∃ f : F7, cs = f.cells := by
  obtain ⟨xs, n, _, rfl, hl, hxl, hf⟩ := DataW.trod_array Try.underlying24 h
  have hn : cs.length = 7 := hl.trans (by kernel_rfl)
  have hx : xs.length = 7 := hxl
  have hc_int : Try.prog.cellsOf 3 = 1 := by kernel_rfl
  match xs, hx with
  | [y0, y1, y2, y3, y4, y5, y6], _ =>
    have f0 : DataW.trod enc Try.prog W base spare held n 3 ((cs.drop (0 * Try.prog.cellsOf 3)).take (Try.prog.cellsOf 3)) = some y0 := hf 0 (by omega)
    rw [hc_int] at f0
    have f1 : DataW.trod enc Try.prog W base spare held n 3 ((cs.drop (1 * Try.prog.cellsOf 3)).take (Try.prog.cellsOf 3)) = some y1 := hf 1 (by omega)
    rw [hc_int] at f1
    have f2 : DataW.trod enc Try.prog W base spare held n 3 ((cs.drop (2 * Try.prog.cellsOf 3)).take (Try.prog.cellsOf 3)) = some y2 := hf 2 (by omega)
    rw [hc_int] at f2
    have f3 : DataW.trod enc Try.prog W base spare held n 3 ((cs.drop (3 * Try.prog.cellsOf 3)).take (Try.prog.cellsOf 3)) = some y3 := hf 3 (by omega)
    rw [hc_int] at f3
    have f4 : DataW.trod enc Try.prog W base spare held n 3 ((cs.drop (4 * Try.prog.cellsOf 3)).take (Try.prog.cellsOf 3)) = some y4 := hf 4 (by omega)
    rw [hc_int] at f4
    have f5 : DataW.trod enc Try.prog W base spare held n 3 ((cs.drop (5 * Try.prog.cellsOf 3)).take (Try.prog.cellsOf 3)) = some y5 := hf 5 (by omega)
    rw [hc_int] at f5
    have f6 : DataW.trod enc Try.prog W base spare held n 3 ((cs.drop (6 * Try.prog.cellsOf 3)).take (Try.prog.cellsOf 3)) = some y6 := hf 6 (by omega)
    rw [hc_int] at f6
    obtain ⟨k0, e0, _, v0⟩ := DataW.trod_int Try.underlying3 f0
    obtain ⟨k1, e1, _, v1⟩ := DataW.trod_int Try.underlying3 f1
    obtain ⟨k2, e2, _, v2⟩ := DataW.trod_int Try.underlying3 f2
    obtain ⟨k3, e3, _, v3⟩ := DataW.trod_int Try.underlying3 f3
    obtain ⟨k4, e4, _, v4⟩ := DataW.trod_int Try.underlying3 f4
    obtain ⟨k5, e5, _, v5⟩ := DataW.trod_int Try.underlying3 f5
    obtain ⟨k6, e6, _, v6⟩ := DataW.trod_int Try.underlying3 f6
    have hcs : cs.drop 0 = (cs.drop 0).take 1 ++ ((cs.drop 1).take 1 ++ ((cs.drop 2).take 1 ++ ((cs.drop 3).take 1 ++ ((cs.drop 4).take 1 ++ ((cs.drop 5).take 1 ++ ((cs.drop 6).take 1 ++ [])))))) := (cut_at cs 0 1 (t := 1) rfl).trans (congrArg (_ ++ ·) ((cut_at cs 1 1 (t := 2) rfl).trans (congrArg (_ ++ ·) ((cut_at cs 2 1 (t := 3) rfl).trans (congrArg (_ ++ ·) ((cut_at cs 3 1 (t := 4) rfl).trans (congrArg (_ ++ ·) ((cut_at cs 4 1 (t := 5) rfl).trans (congrArg (_ ++ ·) ((cut_at cs 5 1 (t := 6) rfl).trans (congrArg (_ ++ ·) ((cut_at cs 6 1 (t := 7) rfl).trans (congrArg (_ ++ ·) (cut_end cs hn))))))))))))))
    simp only [Nat.zero_mul, Nat.one_mul, Nat.mul_one] at e0 e1 e2 e3 e4 e5 e6
    rw [e0, e1, e2, e3, e4, e5, e6] at hcs
    exact ⟨⟨k0, k1, k2, k3, k4, k5, k6⟩, hcs⟩
set_option maxRecDepth 100000 in
theorem open_attr {cs : List Value} {y : DataW H × List MemPlace} (h : DataW.trod enc Try.prog W base spare held fuel 65 cs = some y) : ∃ a : A8, cs = a.cells := by
  obtain ⟨xs, n, _, rfl, hl, hxl, hf⟩ := DataW.trod_struct Try.underlying65 h
  have hn : cs.length = 8 := hl.trans (by kernel_rfl)
  have hx : xs.length = 2 := hxl
  have hc_7int : Try.prog.cellsOf 23 = 7 := by kernel_rfl
  have hc_int : Try.prog.cellsOf 3 = 1 := by kernel_rfl
  match xs, hx with
  | [y0, y1], _ =>
    have f0 : DataW.trod enc Try.prog W base spare held n 3 ((cs.drop 0).take (Try.prog.cellsOf 3)) = some y0 := hf 0 _ rfl
    rw [hc_int] at f0
    have f1 : DataW.trod enc Try.prog W base spare held n 23 ((cs.drop 1).take (Try.prog.cellsOf 23)) = some y1 := hf 1 _ rfl
    rw [hc_7int] at f1
    obtain ⟨k0, e0, _, v0⟩ := DataW.trod_int Try.underlying3 f0
    obtain ⟨d0, d1, d2, d3, d4, d5, d6, e1⟩ := open_seven f1
    have hcs : cs.drop 0 = (cs.drop 0).take 1 ++ ((cs.drop 1).take 7 ++ []) := (cut_at cs 0 1 (t := 1) rfl).trans (congrArg (_ ++ ·) ((cut_at cs 1 7 (t := 8) rfl).trans (congrArg (_ ++ ·) (cut_end cs hn))))
    rw [e0, e1] at hcs
    exact ⟨⟨k0, d0, d1, d2, d3, d4, d5, d6⟩, hcs⟩
set_option maxRecDepth 100000 in
theorem open_node {cs : List Value} {y : DataW H × List MemPlace} (h : DataW.trod enc Try.prog W base spare held fuel 67 cs = some y) : ∃ n : IA, cs = cellsD n ∧ okD n.1 := by
  obtain ⟨xs, n, _, rfl, hl, hxl, hf⟩ := DataW.trod_struct Try.underlying67 h
  have hn : cs.length = 10 := hl.trans (by kernel_rfl)
  have hx : xs.length = 2 := hxl
  have hc_moothillattrAttr : Try.prog.cellsOf 65 = 8 := by kernel_rfl
  have hc_moothillmarkID : Try.prog.cellsOf 38 = 2 := by kernel_rfl
  match xs, hx with
  | [y0, y1], _ =>
    have f0 : DataW.trod enc Try.prog W base spare held n 38 ((cs.drop 0).take (Try.prog.cellsOf 38)) = some y0 := hf 0 _ rfl
    rw [hc_moothillmarkID] at f0
    have f1 : DataW.trod enc Try.prog W base spare held n 65 ((cs.drop 2).take (Try.prog.cellsOf 65)) = some y1 := hf 1 _ rfl
    rw [hc_moothillattrAttr] at f1
    obtain ⟨x, e0, hx0⟩ := open_id f0
    obtain ⟨a, e1⟩ := open_attr f1
    have hcs : cs.drop 0 = (cs.drop 0).take 2 ++ ((cs.drop 2).take 8 ++ []) := (cut_at cs 0 2 (t := 2) rfl).trans (congrArg (_ ++ ·) ((cut_at cs 2 8 (t := 10) rfl).trans (congrArg (_ ++ ·) (cut_end cs hn))))
    rw [e0, e1] at hcs
    exact ⟨(x, a), hcs, hx0⟩
theorem open_nodes {v : Value} {y : DataW H × List MemPlace} (hsp : ∀ b, spare b = true) (h : DataW.trod enc Try.prog W base spare held fuel 22 [v] = some y) : ∃ l : List IA, (∀ w, (Part.old W).holds w → Reads w v l.length (l.flatMap cellsD)) ∧ (∀ x ∈ l, okD x.1) ∧ l.length ≤ 9223372036854775807 := by
  rcases Go.Deep.open_slice Try.underlying22 h with ⟨hcs, _⟩ | ⟨a, len, cap, m, n, D, Pl, hcs, _, hl, hm, hmm, _, hel⟩
  · simp at hcs
    subst hcs
    exact ⟨[], fun w _ => ⟨none, 0, rfl, fun _ => rfl, fun j u hj => by cases hj⟩, nofun, by simp⟩
  · simp at hcs
    subst hcs
    have hco : Try.prog.cellsOf 67 = 10 := by kernel_rfl
    rw [hco] at hel
    have hall : ∀ i, i < len → ∃ x : IA, W.cells? base (a.add (i * 10)) 10 = some (cellsD x) ∧ okD x.1 := fun i hi => by
      obtain ⟨cs', h1, h2⟩ := hel i (by rw [hmm, hsp, if_pos rfl]; omega)
      obtain ⟨x, rfl, h3⟩ := open_node h2
      exact ⟨x, h1, h3⟩
    obtain ⟨f, hf⟩ := @Go.Deep.choose_lt IA ⟨((0, 0), ⟨0, 0, 0, 0, 0, 0, 0, 0⟩)⟩ len _ hall
    have hlen : ((List.range len).map f).length = len := by simp
    refine ⟨(List.range len).map f, fun w hw => ?_, fun x hx => ?_, by rw [hlen]; unfold maxLen at hm; omega⟩
    · rw [hlen]
      exact old_readsG (reads_of cellsD_len (by omega) fun i hi => (hf i hi).1) hw
    · obtain ⟨i, hi, rfl⟩ := List.mem_map.1 hx
      exact (hf i (List.mem_range.1 hi)).2
theorem open_ids {v : Value} {y : DataW H × List MemPlace} (hsp : ∀ b, spare b = true) (h : DataW.trod enc Try.prog W base spare held fuel 31 [v] = some y) : ∃ l : List I2, (∀ w, (Part.old W).holds w → Reads w v l.length (l.flatMap idL)) ∧ (∀ x ∈ l, okD x) ∧ l.length ≤ 9223372036854775807 := by
  rcases Go.Deep.open_slice Try.underlying31 h with ⟨hcs, _⟩ | ⟨a, len, cap, m, n, D, Pl, hcs, _, hl, hm, hmm, _, hel⟩
  · simp at hcs
    subst hcs
    exact ⟨[], fun w _ => ⟨none, 0, rfl, fun _ => rfl, fun j u hj => by cases hj⟩, nofun, by simp⟩
  · simp at hcs
    subst hcs
    have hco : Try.prog.cellsOf 38 = 2 := by kernel_rfl
    rw [hco] at hel
    have hall : ∀ i, i < len → ∃ x : I2, W.cells? base (a.add (i * 2)) 2 = some (idL x) ∧ okD x := fun i hi => by
      obtain ⟨cs', h1, h2⟩ := hel i (by rw [hmm, hsp, if_pos rfl]; omega)
      obtain ⟨x, rfl, h3⟩ := open_id h2
      exact ⟨x, h1, h3⟩
    obtain ⟨f, hf⟩ := @Go.Deep.choose_lt I2 ⟨(0, 0)⟩ len _ hall
    have hlen : ((List.range len).map f).length = len := by simp
    refine ⟨(List.range len).map f, fun w hw => ?_, fun x hx => ?_, by rw [hlen]; unfold maxLen at hm; omega⟩
    · rw [hlen]
      exact old_readsG (reads_of idL_len (by omega) fun i hi => (hf i hi).1) hw
    · obtain ⟨i, hi, rfl⟩ := List.mem_map.1 hx
      exact (hf i (List.mem_range.1 hi)).2
variable {d : DataW H} {ps : List MemPlace} {r : Reach} {b0 : Nat}
set_option maxRecDepth 100000 in
theorem openV_id {v : Value} (hv : Value.okWide Try.prog W r b0 38 v) (h : DataW.Trod enc Try.prog W base spare held 38 v d ps) : ∃ x : I2, v = idV x ∧ okD x := by
  obtain ⟨cs, rfl, _⟩ := okWide_struct Try.underlying38 hv
  obtain ⟨fuel, hf⟩ := h
  obtain ⟨x, hc, hx⟩ := open_id (cs := cs.toList) hf
  refine ⟨x, ?_, hx⟩
  rw [show cs = (idL x).toArray from by rw [← hc]]
  rfl
set_option maxRecDepth 100000 in
theorem openV_front {v : Value} (hv : Value.okWide Try.prog W r b0 24 v) (h : DataW.Trod enc Try.prog W base spare held 24 v d ps) : ∃ f : F7, v = f.val := by
  obtain ⟨cs, rfl, _⟩ := okWide_array Try.underlying24 hv
  obtain ⟨fuel, hf⟩ := h
  obtain ⟨f, hc⟩ := open_front (cs := cs.toList) hf
  refine ⟨f, ?_⟩
  rw [show cs = f.cells.toArray from by rw [← hc]]
  rfl
end
end Go.Proofs.Ytgicohkmfbbbdaa.Gr
end

section
namespace Go.Proofs.Ytgicohkmfbbbdaa.Ref
open _root_.Go.Proofs.Ytgicohkmfbbbdaa.Gr
open _root_.Go.Proofs.Ytgicohkmfbbbdaa.Mark (ltID)
open _root_.Go.Proofs.Ytgicohkmfbbbdaa.Attr (A8)
set_option linter.unusedSimpArgs false
set_option linter.unusedVariables false

theorem place_le : ∀ (out : List IA) (x : I2), placeD out x ≤ out.length := fun out x => (List.takeWhile_sublist _).length_le
theorem place_ahead : ∀ {out : List IA} {x : I2} {k : Nat} {y : IA}, out[k]? = some y → k < placeD out x → ltID y.1 x
  | z :: out, x, k, y, hy, hk => by
    unfold placeD at hk
    rw [List.takeWhile_cons] at hk
    split at hk
    · rename_i hz
      cases k with
      | zero => cases hy; simpa using hz
      | succ k => exact place_ahead (out := out) (k := k) hy (by simpa [placeD] using hk)
    · simp at hk
theorem place_at : ∀ {out : List IA} {x : I2} {y : IA}, out[placeD out x]? = some y → ¬ ltID y.1 x
  | z :: out, x, y, hy => by
    by_cases hz : decide (ltID z.1 x) = true
    · have e : placeD (z :: out) x = placeD out x + 1 := by unfold placeD; rw [List.takeWhile_cons, if_pos hz]; rfl
      rw [e] at hy
      exact place_at (out := out) hy
    · have e : placeD (z :: out) x = 0 := by unfold placeD; rw [List.takeWhile_cons, if_neg hz]; rfl
      rw [e] at hy
      cases hy
      simpa using hz
def StD (out : List IA) : Prop := (out.map (·.1)).Pairwise ltID
theorem insD_sorted {out : List IA} {e : IA} (h : StD out) : StD (insD out e) := by
  by_cases hq : (out[placeD out e.1]?).map Prod.fst = some e.1
  · unfold insD; rw [if_pos hq]; exact h
  · have hh : insD out e = out.take (placeD out e.1) ++ [e] ++ out.drop (placeD out e.1) := by unfold insD; rw [if_neg hq]
    rw [hh]
    unfold StD at h ⊢
    rw [List.pairwise_map] at h ⊢
    have h0 := h
    rw [← List.take_append_drop (placeD out e.1) out, List.pairwise_append] at h
    obtain ⟨h1, h2, h3⟩ := h
    have ha : ∀ y ∈ out.take (placeD out e.1), ltID y.1 e.1 := fun y hy => by
      obtain ⟨k, hk, hy⟩ := List.mem_iff_getElem.1 hy
      rw [List.length_take] at hk
      exact place_ahead (out := out) (k := k) (by rw [List.getElem_take] at hy; rw [List.getElem?_eq_getElem (by omega), hy]) (by omega)
    have hb : ∀ y ∈ out.drop (placeD out e.1), ltID e.1 y.1 := by
      intro y hy
      obtain ⟨z, hz⟩ : ∃ z, out[placeD out e.1]? = some z := by
        refine ⟨_, List.getElem?_eq_getElem ?_⟩
        have := List.length_pos_of_mem hy
        rw [List.length_drop] at this
        omega
      have hz1 := place_at hz
      have hz2 : z.1 ≠ e.1 := fun q => hq (by rw [hz, Option.map_some, q])
      have hez : ltID e.1 z.1 := by
        rcases lt_tri z.1 e.1 with q | q | q
        · exact absurd q hz1
        · exact absurd q hz2
        · exact q
      have hdr : out.drop (placeD out e.1) = z :: out.drop (placeD out e.1 + 1) := by
        rw [List.drop_eq_getElem?_toList_append, hz]
        rfl
      rw [hdr] at hy h2
      rcases List.mem_cons.1 hy with rfl | hy
      · exact hez
      · exact lt_tr hez ((List.pairwise_cons.1 h2).1 y hy)
    rw [List.append_assoc, List.pairwise_append]
    refine ⟨h1, ?_, fun y hy z hz => ?_⟩
    · rw [List.singleton_append, List.pairwise_cons]
      exact ⟨hb, h2⟩
    · rcases List.mem_append.1 hz with q | q
      · rw [List.mem_singleton.1 q]; exact ha y hy
      · exact h3 y hy z q
theorem sortedD_sorted (l : List IA) : StD (sortedD l) := by
  suffices H : ∀ (l out : List IA), StD out → StD (l.foldl insD out) from H l [] .nil
  intro l
  induction l with
  | nil => exact fun _ h => h
  | cons e l ih => exact fun out h => ih _ (insD_sorted h)
theorem insD_names {out : List IA} {e : IA} {x : I2} : x ∈ (insD out e).map (·.1) ↔ x ∈ out.map (·.1) ∨ x = e.1 := by
  by_cases hq : (out[placeD out e.1]?).map Prod.fst = some e.1
  · unfold insD
    rw [if_pos hq]
    refine ⟨.inl, fun h => h.elim id fun q => ?_⟩
    obtain ⟨y, hy, e2⟩ := Option.map_eq_some_iff.1 hq
    rw [q, ← e2]
    exact List.mem_map_of_mem (List.mem_of_getElem? hy)
  · have hh : insD out e = out.take (placeD out e.1) ++ [e] ++ out.drop (placeD out e.1) := by unfold insD; rw [if_neg hq]
    rw [hh, List.map_append, List.map_append]
    conv => rhs; rw [← List.take_append_drop (placeD out e.1) out, List.map_append]
    simp only [List.mem_append, List.map_cons, List.map_nil, List.mem_singleton]
    constructor
    · rintro ((h | h) | h)
      · exact .inl (.inl h)
      · exact .inr h
      · exact .inl (.inr h)
    · rintro ((h | h) | h)
      · exact .inl (.inl h)
      · exact .inr h
      · exact .inl (.inr h)
theorem insD_sub {out : List IA} {e y : IA} (h : y ∈ insD out e) : y ∈ out ∨ y = e := by
  unfold insD at h
  split at h
  · exact .inl h
  · rcases List.mem_append.1 h with h | h
    · rcases List.mem_append.1 h with h | h
      · exact .inl (List.mem_of_mem_take h)
      · exact .inr (List.mem_singleton.1 h)
    · exact .inl (List.mem_of_mem_drop h)
theorem sortedD_names {l : List IA} {x : I2} : x ∈ (sortedD l).map (·.1) ↔ x ∈ l.map (·.1) := by
  suffices H : ∀ (l out : List IA), x ∈ (l.foldl insD out).map (·.1) ↔ x ∈ out.map (·.1) ∨ x ∈ l.map (·.1) by
    rw [show sortedD l = l.foldl insD [] from rfl, H]; simp
  intro l
  induction l with
  | nil => intro out; simp
  | cons e l ih =>
    intro out
    rw [List.foldl_cons, ih, insD_names, List.map_cons, List.mem_cons, or_assoc]
theorem sortedD_sub {l : List IA} {y : IA} (h : y ∈ sortedD l) : y ∈ l := by
  suffices H : ∀ (l out : List IA), y ∈ l.foldl insD out → y ∈ out ∨ y ∈ l by
    rcases H l [] h with q | q
    · cases q
    · exact q
  intro l
  induction l with
  | nil => exact fun out h => .inl h
  | cons e l ih =>
    intro out h
    rcases ih _ h with q | q
    · rcases insD_sub q with r | r
      · exact .inl r
      · exact .inr (by rw [r]; simp)
    · exact .inr (by simp [q])
theorem StD.uq {out : List IA} (h : StD out) : Uq out := h.imp fun q e => by rw [e] at q; exact lt_irr q
/-- the same attributes -/
theorem sortedD_get {es : List IA} (h : Uq es) (x : I2) : getA (sortedD es) x = getA es x := by
  cases hq : getA es x with
  | none =>
    rw [getA_isNone] at hq ⊢
    exact fun q => hq (sortedD_names.1 q)
  | some a =>
    have hm : x ∈ (sortedD es).map (·.1) := sortedD_names.2 (List.mem_map.2 ⟨_, getA_mem hq, rfl⟩)
    obtain ⟨⟨y, b⟩, hy, e⟩ := List.mem_map.1 hm
    simp only at e
    subst e
    have h1 := getA_of_mem (StD.uq (sortedD_sorted es)) hy
    have h2 := getA_of_mem h (sortedD_sub hy)
    rw [h2] at hq
    rw [h1, hq]
theorem sortedD_own {es : List IA} (h : Gr.Own es) : Gr.Own (sortedD es) :=
  ⟨StD.uq (sortedD_sorted es), fun x a hx => h.deps x a (by rwa [sortedD_get h.uq] at hx), fun e he => h.right e (sortedD_sub he)⟩
theorem leadsG_sorted {es : List IA} (h : Uq es) (f : F7) (x : I2) : leadsG (sortedD es) f x = leadsG es f x := by
  unfold leadsG
  rw [sortedD_get h]
end Go.Proofs.Ytgicohkmfbbbdaa.Ref
end

section
namespace Go.Proofs.Ytgicohkmfbbbdaa.Ref
open _root_.Go.Proofs.Ytgicohkmfbbbdaa.Gr
open Go.RowKit
set_option linter.unusedSimpArgs false
set_option linter.unusedVariables false

/-- a row of truths: its block -/
structure Br where
  g : Nat
  bc : Nat
  bs : List Bool
def Br.v (x : Br) : Value := .slice (some ⟨x.g, 0, none⟩) x.bs.length x.bc
def Br.cells (x : Br) : List Value := [.slice (some ⟨x.g, 0, none⟩) x.bs.length x.bc]
theorem Br.cells_len (x : Br) : x.cells.length = 1 := rfl
theorem Br.one (x : Br) : ∀ u ∈ x.cells, u.oneCell' = true := fun u hu => by rw [List.mem_singleton.1 hu]; rfl
def boolL (l : List Bool) : List Value := l.map Value.bool
theorem boolL_len (l : List Bool) : (boolL l).length = l.length := by simp [boolL]
theorem boolL_flat (l : List Bool) : boolL l = l.flatMap fun b => [Value.bool b] := by
  induction l with
  | nil => rfl
  | cons x l ih => rw [List.flatMap_cons, ← ih]; rfl
theorem boolL_get {l : List Bool} {k : Nat} {b : Bool} (h : l[k]? = some b) : (boolL l)[k]? = some (.bool b) := by unfold boolL; rw [List.getElem?_map, h]; rfl
theorem boolL_set (l : List Bool) (k : Nat) (b : Bool) : (boolL l).set k (.bool b) = boolL (l.set k b) := by unfold boolL; rw [List.map_set]
abbrev rowB (v : Value) (l : List Bool) : Part := Part.row 4 1 v l.length (boolL l)
def flatB (T : List Br) : List Value := T.flatMap Br.cells
theorem flatB_len (T : List Br) : (flatB T).length = T.length * 1 := flat_len _ _ Br.cells_len _
theorem flatB_get {T : List Br} {i : Nat} {x : Br} (h : T[i]? = some x) : (flatB T)[i]? = some x.v := by
  have := flat_at Br.cells 1 Br.cells_len T i x h 0 (by omega)
  rw [Nat.mul_one, Nat.add_zero] at this
  exact this
abbrev rowT (v : Value) (T : List Br) : Part := Part.row 60 1 v T.length (flatB T)
theorem rowT_snoc (v : Value) (T : List Br) (x : Br) : Part.row 60 1 v (T.length + 1) (flatB T ++ x.cells) = rowT v (T ++ [x]) := by
  unfold rowT
  rw [List.length_append]
  simp [flatB]
def restB (T : List Br) : Part := Part.all (T.map fun x => rowB x.v x.bs)
theorem eqvB (l1 l2 : List Br) (d : Br) (F : List Part) : Eqv (restB (l1 ++ d :: l2) :: F) (rowB d.v d.bs :: restB (l1 ++ l2) :: F) := by
  refine (Eqv.all _ F).trans ?_
  have p1 : ((l1 ++ d :: l2).map (fun x => rowB x.v x.bs) ++ F).Perm (rowB d.v d.bs :: ((l1 ++ l2).map (fun x => rowB x.v x.bs) ++ F)) := by
    simp only [List.map_append, List.map_cons, List.append_assoc, List.cons_append]
    exact List.perm_middle
  refine (Eqv.perm p1).trans ?_
  exact (Eqv.all ((l1 ++ l2).map (fun x => rowB x.v x.bs)) F).symm.prepend [rowB d.v d.bs]
theorem outB {L0 L F : List Part} {w0 w : World} {N l1 l2 : List Br} {d : Br} (q : N = l1 ++ d :: l2) (h : At L0 w0 L w) (s : Sel (restB N) L F) : At L0 w0 (rowB d.v d.bs :: restB (l1 ++ l2) :: F) w := (h.take s).to (by rw [q]; exact eqvB l1 l2 d F)
theorem inB {L0 L F G : List Part} {w0 w : World} {N l1 l2 : List Br} {d : Br} (q : N = l1 ++ d :: l2) (h : At L0 w0 L w) (s : Sel (rowB d.v d.bs) L F) (r : Sel (restB (l1 ++ l2)) F G) : At L0 w0 (restB N :: G) w := (h.perm (s.perm.trans (r.perm.cons _))).to (by rw [q]; exact (eqvB l1 l2 d G).symm)
theorem nilT {L0 L : List Part} {w0 w : World} (h : At L0 w0 L w) : At L0 w0 (rowT (.slice none 0 0) [] :: restB [] :: L) w := (h.to (Eqv.all [] L).symm).row_nil 60 1
theorem infoB : (Try.prog.info? 4).map (fun i => (i.zero, i.size, i.bytes)) = some (some (.bool false), 1, 1) := by kernel_rfl
theorem infoBs : (Try.prog.info? 60).map (fun i => (i.zero, i.size, i.bytes)) = some (some (.slice none 0 0), 1, 24) := by kernel_rfl
theorem madeB {L0 F : List Part} {w0 w : World} {v : Value} {n : Nat} (h : At L0 w0 (Part.row 4 1 v n (madeCells (Value.cells (.bool false)) (n * 1)).toList :: F) w) : At L0 w0 (rowB v (List.replicate n false) :: F) w := by
  rw [made_flat (fun b : Bool => [Value.bool b]) 1 (fun _ => rfl) false (Value.cells (.bool false)) rfl n, ← boolL_flat] at h
  have e : rowB v (List.replicate n false) = Part.row 4 1 v n (boolL (List.replicate n false)) := by unfold rowB; rw [List.length_replicate]
  rw [e]
  exact h
section
variable {P : Program} {o : Oper} {a : Act} {L0 L F : List Part} {w0 : World} {K : Act → Prop}
theorem run_load_cell {w : World} {ty : TypeId} {x : Operand} (hop : o.op = .load ty x) {b j : Nat} (hx : a.eval x = .pointer (some ⟨b, j, none⟩)) (hu : (P.underlying ty).map (·.isRow) = some false) {v : Value} (hc : w.cell? ⟨b, j, none⟩ = some v) : (execOp a.eval o).run P w = .ok (.value v) w := by
  obtain ⟨d, hu, hd⟩ := Option.map_eq_some_iff.1 hu
  have hagg : (isAgg ty).run P w = .ok false w := by
    unfold isAgg
    rw [Sem.run_bind, run_underlying hu w]
    cases d <;> simp_all
  simp [execOp, hop, hx, Instr.loadAt, Instr.sureAddr, loadVar, Sem.run_bind, hagg, Result.andThen, run_load, hc]
theorem reads_cell {w : World} {g n cap j : Nat} {xs : List Value} {v : Value} (h : Reads w (.slice (some ⟨g, 0, none⟩) n cap) n xs) (hv : xs[j]? = some v) : w.cell? ⟨g, j, none⟩ = some v := by
  obtain ⟨ax, c, e, _, hr⟩ := h
  cases e
  obtain ⟨b, off, e2, hc⟩ := hr j v hv
  cases e2
  rwa [Nat.zero_add] at hc
/-- a cell of a row -/
theorem quiet_row1_at {ty e : TypeId} {x : Operand} {g n cap j : Nat} {xs : List Value} {v : Value} (hop : o.op = .load ty x) (hx : a.eval x = .pointer (some ⟨g, j, none⟩)) (s : Sel (Part.row e 1 (.slice (some ⟨g, 0, none⟩) n cap) n xs) L F) (hu : (P.underlying ty).map (·.isRow) = some false) (hv : xs[j]? = some v)
    (hk : K (a.put o.dst v)) : o.quiet P a (Cl L0 w0 L) K := quiet_at v (fun w' hw => run_load_cell hop hx hu (reads_cell ((show At L0 w0 L w' from hw).row_reads s) hv)) hk
theorem pool_cell {w : World} {T : List Br} {i k : Nat} {d : Br} {b : Bool} (h : At L0 w0 L w) (s : Sel (restB T) L F) (hi : T[i]? = some d) (hb : d.bs[k]? = some b) : w.cell? ⟨d.g, k, none⟩ = some (.bool b) := by
  have h1 := outB (split_at hi) h s
  exact reads_cell (cap := d.bc) (h1.row_reads (e := 4) (size := 1) (v := d.v) (n := d.bs.length) (xs := boolL d.bs) .here) (boolL_get hb)
/-- a cell of a table -/
theorem quiet_pool_at {ty : TypeId} {x : Operand} {T : List Br} {i k : Nat} {d : Br} {b : Bool} (hop : o.op = .load ty x) (hx : a.eval x = .pointer (some ⟨d.g, k, none⟩)) (s : Sel (restB T) L F) (hu : (P.underlying ty).map (·.isRow) = some false) (hi : T[i]? = some d) (hb : d.bs[k]? = some b)
    (hk : K (a.put o.dst (.bool b))) : o.quiet P a (Cl L0 w0 L) K := quiet_at (.bool b) (fun w' hw => run_load_cell hop hx hu (pool_cell (show At L0 w0 L w' from hw) s hi hb)) hk
end
/-- a table, as a function -/
def tF (T : List Br) (i k : Nat) : Bool := ((T[i]?).bind fun x => x.bs[k]?).getD false
theorem tF_get {T : List Br} {i k : Nat} {x : Br} {b : Bool} (h : T[i]? = some x) (hb : x.bs[k]? = some b) : tF T i k = b := by unfold tF; rw [h]; show (x.bs[k]?).getD false = b; rw [hb]; rfl
/-- a table of so many -/
def Sq (T : List Br) (n : Nat) : Prop := T.length = n ∧ ∀ (i : Nat) (x : Br), T[i]? = some x → x.bs.length = n
theorem Sq.cell {T : List Br} {n i k : Nat} (h : Sq T n) (hi : i < n) (hk : k < n) : ∃ x, T[i]? = some x ∧ x.bs[k]? = some (tF T i k) := by
  obtain ⟨x, hx⟩ : ∃ x, T[i]? = some x := ⟨_, List.getElem?_eq_getElem (by rw [h.1]; exact hi)⟩
  obtain ⟨b, hb⟩ : ∃ b, x.bs[k]? = some b := ⟨_, List.getElem?_eq_getElem (by rw [h.2 i x hx]; exact hk)⟩
  exact ⟨x, hx, by rw [tF_get hx hb]; exact hb⟩
theorem Sq.set {T : List Br} {n i k : Nat} {x : Br} (h : Sq T n) (hx : T[i]? = some x) (hk : k < n) (b : Bool) : Sq (T.set i ⟨x.g, x.bc, x.bs.set k b⟩) n ∧ ∀ p q, p < n → q < n → tF (T.set i ⟨x.g, x.bc, x.bs.set k b⟩) p q = Tar.up2 (tF T) i k b p q := by
  have hi := (List.getElem?_eq_some_iff.1 hx).1
  have hxl := h.2 i x hx
  refine ⟨⟨by rw [List.length_set]; exact h.1, fun j y hy => ?_⟩, fun p q hp hq => ?_⟩
  · by_cases e : i = j
    · subst e
      rw [List.getElem?_set_self hi] at hy
      cases hy
      rw [List.length_set]
      exact hxl
    · rw [List.getElem?_set_ne e] at hy
      exact h.2 j y hy
  · unfold Tar.up2
    obtain ⟨y, hy, hyq⟩ := h.cell hp hq
    by_cases e : p = i
    · subst e
      rw [hx] at hy
      cases hy
      by_cases e2 : q = k
      · subst e2
        rw [if_pos ⟨rfl, rfl⟩]
        exact tF_get (List.getElem?_set_self hi) (List.getElem?_set_self (by omega))
      · rw [if_neg fun q => e2 q.2]
        exact tF_get (List.getElem?_set_self hi) (by rw [show (⟨x.g, x.bc, x.bs.set k b⟩ : Br).bs = x.bs.set k b from rfl, List.getElem?_set_ne (fun z => e2 z.symm)]; exact hyq)
    · rw [if_neg fun q => e q.1]
      exact tF_get (by rw [List.getElem?_set_ne (fun z => e z.symm)]; exact hy) hyq
theorem flatB_set {T : List Br} {i : Nat} {x : Br} (h : T[i]? = some x) (bs : List Bool) (hl : bs.length = x.bs.length) : flatB (T.set i ⟨x.g, x.bc, bs⟩) = flatB T := by
  have e : ∀ K : List Br, flatB K = (K.map Br.v) := fun K => by
    unfold flatB
    induction K with
    | nil => rfl
    | cons y K ih => rw [List.flatMap_cons, ih]; rfl
  rw [e, e, List.map_set, show (⟨x.g, x.bc, bs⟩ : Br).v = x.v from by unfold Br.v; rw [hl], set_same (by rw [List.getElem?_map, h]; rfl)]
theorem fill_congr {nx : Nat → List Nat} {n m i k : Nat} {t s : Nat → Nat → Bool} (h : Tar.Fill nx n m i k t) (e : ∀ p q, p < n → q < n → s p q = t p q) : Tar.Fill nx n m i k s :=
  ⟨fun x y hx hy q => h.ok x y hx hy (by rw [← e x y hx hy]; exact q), fun x y hx hy q => by rw [e x y hx hy]; exact h.low x y hx hy q, fun x y h1 hx hy q => by rw [e x y hx hy]; exact h.row x y h1 hx hy q, fun y h1 hy hi q => by rw [e i y hi hy]; exact h.cell y h1 hy hi q⟩
end Go.Proofs.Ytgicohkmfbbbdaa.Ref
end
