/- GrbO, GrbL, joined. -/
import Derived.Test.YtgicohkmfbbbdaaK29
import Derived.Deep.Slices
import Derived.DataReads
import Derived.OpenShut
import Derived.Lib.SmallJoins
import Derived.Test.YtgicohkmfbbbdaaK17
section
namespace Go.Proofs.Ytgicohkmfbbbdaa.Gr
open Go.RowKit Go.Joins Go.ChangeShapes Go.WideShapes
open Attr (A8)
open _root_.Go.Proofs.Ytgicohkmfbbbdaa.Ref (flatD cellsD cellsD_len IA)
set_option linter.unusedVariables false
set_option linter.unusedSimpArgs false

theorem cut_at {α : Type} (l : List α) (a s : Nat) {t : Nat} (h : a + s = t) : l.drop a = (l.drop a).take s ++ l.drop t := by
  subst h
  conv => lhs; rw [← List.take_append_drop s (l.drop a)]
  rw [List.drop_drop]
theorem cut_end {α : Type} (l : List α) {n : Nat} (h : l.length = n) : l.drop n = [] := List.drop_eq_nil_of_le (by omega)
theorem old_cell {W w : World} (h : (Part.old W).holds w) {b off : Nat} {u : Value} (hc : W.cell? ⟨b, off, none⟩ = some u) : w.cell? ⟨b, off, none⟩ = some u := by
  have hb : b < W.heap.size := by
    rcases Nat.lt_or_ge b W.heap.size with q | q
    · exact q
    · simp [World.cell?, Array.getElem?_eq_none q] at hc
  have := h b hb
  rw [← hc]
  simp [World.cell?, this]
theorem below_old {w w' : World} {L F : List Part} (h : At [Part.old w] w L w') (s : Sel (Part.old w) L F) : Below w.heap.size w w' := by
  have ho : (Part.old w).holds w' := h.get s
  exact ⟨h.exc.os, h.exc.tape, h.exc.output, h.exc.size, fun b hb => ho b hb⟩
theorem old_start (w : World) : At [Part.old w] w [Part.old w] w := At.start ⟨fun _ _ => rfl, trivial, nofun⟩
theorem old_readsG {W : World} {v : Value} {n : Nat} {xs : List Value} (h : Reads W v n xs) {w : World} (hw : (Part.old W).holds w) : Reads w v n xs := by
  obtain ⟨ax, c, hx, ha, hn⟩ := h
  refine ⟨ax, c, hx, ha, fun j u hj => ?_⟩
  obtain ⟨b, off, h1, h2⟩ := hn j u hj
  exact ⟨b, off, h1, old_cell hw h2⟩
section
variable {H : Type} {enc : TypeId × Value → H} {W : World} {base : Nat} {spare : Nat → Bool} {held : Bool} {fuel : Nat}
theorem wfI {n : Int} (h : (Lit.int .i64 n).wf = true) : okI n := by
  simp [Lit.wf, IntKind.min, IntKind.max, IntKind.signed, IntKind.bits] at h
  unfold okI
  omega
theorem okWide_array {P : Program} {w : World} {r : Reach} {base : Nat} {t e : TypeId} {v : Value} {n : Nat} (ht : P.underlying t = some (.array n e)) (h : Value.okWide P w r base t v) : ∃ cs, v = .agg cs ∧ cs.size = P.cellsOf t := by
  simp only [Value.okWide, ht] at h
  obtain ⟨cs, h1, h2, _⟩ := h
  exact ⟨cs, h1, h2⟩
/-- a row that came in -/
theorem reads_of {α : Type} {encA : α → List Value} {size : Nat} (hs : ∀ x, (encA x).length = size) (h0 : 0 < size) {a : Addr} {len cap : Nat} {f : Nat → α} (h : ∀ i, i < len → W.cells? base (a.add (i * size)) size = some (encA (f i))) :
    Reads W (.slice (some a) len cap) len (((List.range len).map f).flatMap encA) := by
  refine ⟨some a, cap, rfl, nofun, fun j u hj => ?_⟩
  have hj2 : j < len * size := by
    have := (List.getElem?_eq_some_iff.1 hj).1
    rw [flat_len encA size hs] at this
    simpa using this
  have hi : j / size < len := Nat.div_lt_of_lt_mul (by rw [Nat.mul_comm]; exact hj2)
  have hm : j % size < size := Nat.mod_lt _ h0
  obtain ⟨h4, h5, h6⟩ := World.cells?_some (h (j / size) hi)
  have hz := (World.cells?_some (h 0 (Nat.lt_of_le_of_lt (Nat.zero_le _) hi))).2.2 0 h0
  obtain ⟨u0, hu0⟩ : ∃ u, (encA (f 0))[0]? = some u := ⟨_, List.getElem?_eq_getElem (by rw [hs]; exact h0)⟩
  rw [hu0] at hz
  obtain ⟨b, off, sp⟩ := a
  have hsn : sp = none := by
    have := congrArg Addr.spot (spot_none hz)
    simpa [Addr.add] using this
  subst hsn
  have e := flat_at encA size hs ((List.range len).map f) (j / size) (f (j / size)) (by simp [hi]) (j % size) hm
  have hjj : j / size * size + j % size = j := by rw [Nat.mul_comm]; exact Nat.div_add_mod j size
  rw [hjj] at e
  rw [e] at hj
  have h7 := h6 (j % size) hm
  rw [Addr.add_lit, Addr.add_lit, Nat.add_assoc, hjj] at h7
  exact ⟨b, off, rfl, h7.trans hj⟩
set_option maxRecDepth 100000 in
theorem open_id {cs : List Value} {y : DataW H × List MemPlace} (h : DataW.trod enc Try.prog W base spare held fuel 38 cs = some y) : ∃ x : I2, cs = idL x ∧ okD x := by
  obtain ⟨xs, n, _, rfl, hl, hxl, hf⟩ := DataW.trod_struct Try.underlying38 h
  have hn : cs.length = 2 := hl.trans (by kernel_rfl)
  have hx : xs.length = 2 := hxl
  have hc_int : Try.prog.cellsOf 3 = 1 := by kernel_rfl
  match xs, hx with
  | [y0, y1], _ =>
    have f0 : DataW.trod enc Try.prog W base spare held n 3 ((cs.drop 0).take (Try.prog.cellsOf 3)) = some y0 := hf 0 _ rfl
    rw [hc_int] at f0
    have f1 : DataW.trod enc Try.prog W base spare held n 3 ((cs.drop 1).take (Try.prog.cellsOf 3)) = some y1 := hf 1 _ rfl
    rw [hc_int] at f1
    obtain ⟨k0, e0, _, v0⟩ := DataW.trod_int Try.underlying3 f0
    obtain ⟨k1, e1, _, v1⟩ := DataW.trod_int Try.underlying3 f1
    have hcs : cs.drop 0 = (cs.drop 0).take 1 ++ ((cs.drop 1).take 1 ++ []) := (cut_at cs 0 1 (t := 1) rfl).trans (congrArg (_ ++ ·) ((cut_at cs 1 1 (t := 2) rfl).trans (congrArg (_ ++ ·) (cut_end cs hn))))
    rw [e0, e1] at hcs
    exact ⟨(k0, k1), hcs, wfI v0, wfI v1⟩
set_option maxRecDepth 100000 in
theorem open_seven {cs : List Value} {y : DataW H × List MemPlace} (h : DataW.trod enc Try.prog W base spare held fuel 23 cs = some y) : ∃ d0 d1 d2 d3 d4 d5 d6, cs = [.int .i64 d0, .int .i64 d1, .int .i64 d2, .int .i64 d3, .int .i64 d4, .int .i64 d5, .int .i64 d6] := by
  obtain ⟨xs, n, _, rfl, hl, hxl, hf⟩ := DataW.trod_array Try.underlying23 h
  have hn : cs.length = 7 := hl.trans (by kernel_rfl)
  have hx : xs.length = 7 := hxl
  have hc_int : Try.prog.cellsOf 3 = 1 := by kernel_rfl
  match xs, hx with
  | [y0, y1, y2, y3, y4, y5, y6], _ =>
    have f0 : DataW.trod enc Try.prog W base spare held n 3 ((cs.drop (0 * Try.prog.cellsOf 3)).take (Try.prog.cellsOf 3)) = some y0 := hf 0 (by omega)
    rw [hc_int] at f0
    have f1 : DataW.trod enc Try.prog W base spare held n 3 ((cs.drop (1 * Try.prog.cellsOf 3)).take (Try.prog.cellsOf 3)) = some y1 := hf 1 (by omega)
    rw [hc_int] at f1
    have f2 : DataW.trod enc Try.prog W base spare held n 3 ((cs.drop (2 * Try.prog.cellsOf 3)).take (Try.prog.cellsOf 3)) = some y2 := hf 2 (by omega)
    rw [hc_int] at f2
    have f3 : DataW.trod enc Try.prog W base spare held n 3 ((cs.drop (3 * Try.prog.cellsOf 3)).take (Try.prog.cellsOf 3)) = some y3 := hf 3 (by omega)
    rw [hc_int] at f3
    have f4 : DataW.trod enc Try.prog W base spare held n 3 ((cs.drop (4 * Try.prog.cellsOf 3)).take (Try.prog.cellsOf 3)) = some y4 := hf 4 (by omega)
    rw [hc_int] at f4
    have f5 : DataW.trod enc Try.prog W base spare held n 3 ((cs.drop (5 * Try.prog.cellsOf 3)).take (Try.prog.cellsOf 3)) = some y5 := hf 5 (by omega)
    rw [hc_int] at f5
    have f6 : DataW.trod enc Try.prog W base spare held n 3 ((cs.drop (6 * Try.prog.cellsOf 3)).take (Try.prog.cellsOf 3)) = some y6 := hf 6 (by omega)
    rw [hc_int] at f6
    obtain ⟨k0, e0, _, v0⟩ := DataW.trod_int Try.underlying3 f0
    obtain ⟨k1, e1, _, v1⟩ := DataW.trod_int Try.underlying3 f1
    obtain ⟨k2, e2, _, v2⟩ := DataW.trod_int Try.underlying3 f2
    obtain ⟨k3, e3, _, v3⟩ := DataW.trod_int Try.underlying3 f3
    obtain ⟨k4, e4, _, v4⟩ := DataW.trod_int Try.underlying3 f4
    obtain ⟨k5, e5, _, v5⟩ := DataW.trod_int Try.underlying3 f5
    obtain ⟨k6, e6, _, v6⟩ := DataW.trod_int Try.underlying3 f6
    have hcs : cs.drop 0 = (cs.drop 0).take 1 ++ ((cs.drop 1).take 1 ++ ((cs.drop 2).take 1 ++ ((cs.drop 3).take 1 ++ ((cs.drop 4).take 1 ++ ((cs.drop 5).take 1 ++ ((cs.drop 6).take 1 ++ [])))))) := (cut_at cs 0 1 (t := 1) rfl).trans (congrArg (_ ++ ·) ((cut_at cs 1 1 (t := 2) rfl).trans (congrArg (_ ++ ·) ((cut_at cs 2 1 (t := 3) rfl).trans (congrArg (_ ++ ·) ((cut_at cs 3 1 (t := 4) rfl).trans (congrArg (_ ++ ·) ((cut_at cs 4 1 (t := 5) rfl).trans (congrArg (_ ++ ·) ((cut_at cs 5 1 (t := 6) rfl).trans (congrArg (_ ++ ·) ((cut_at cs 6 1 (t := 7) rfl).trans (congrArg (_ ++ ·) (cut_end cs hn))))))))))))))
    simp only [Nat.zero_mul, Nat.one_mul, Nat.mul_one] at e0 e1 e2 e3 e4 e5 e6
    rw [e0, e1, e2, e3, e4, e5, e6] at hcs
    exact ⟨k0, k1, k2, k3, k4, k5, k6, hcs⟩
set_option maxRecDepth 100000 in
theorem open_front {cs : List Value} {y : DataW H × List MemPlace} (h : DataW.trod enc Try.prog W base spare held fuel 24 cs = some y) : ∃ f : F7, cs = f.cells := by
  obtain ⟨xs, n, _, rfl, hl, hxl, hf⟩ := DataW.trod_array Try.underlying24 h
  have hn : cs.length = 7 := hl.trans (by kernel_rfl)
  have hx : xs.length = 7 := hxl
  have hc_int : Try.prog.cellsOf 3 = 1 := by kernel_rfl
  match xs, hx with
  | [y0, y1, y2, y3, y4, y5, y6], _ =>
    have f0 : DataW.trod enc Try.prog W base spare held n 3 ((cs.drop (0 * Try.prog.cellsOf 3)).take (Try.prog.cellsOf 3)) = some y0 := hf 0 (by omega)
    rw [hc_int] at f0
    have f1 : DataW.trod enc Try.prog W base spare held n 3 ((cs.drop (1 * Try.prog.cellsOf 3)).take (Try.prog.cellsOf 3)) = some y1 := hf 1 (by omega)
    rw [hc_int] at f1
    have f2 : DataW.trod enc Try.prog W base spare held n 3 ((cs.drop (2 * Try.prog.cellsOf 3)).take (Try.prog.cellsOf 3)) = some y2 := hf 2 (by omega)
    rw [hc_int] at f2
    have f3 : DataW.trod enc Try.prog W base spare held n 3 ((cs.drop (3 * Try.prog.cellsOf 3)).take (Try.prog.cellsOf 3)) = some y3 := hf 3 (by omega)
    rw [hc_int] at f3
    have f4 : DataW.trod enc Try.prog W base spare held n 3 ((cs.drop (4 * Try.prog.cellsOf 3)).take (Try.prog.cellsOf 3)) = some y4 := hf 4 (by omega)
    rw [hc_int] at f4
    have f5 : DataW.trod enc Try.prog W base spare held n 3 ((cs.drop (5 * Try.prog.cellsOf 3)).take (Try.prog.cellsOf 3)) = some y5 := hf 5 (by omega)
    rw [hc_int] at f5
    have f6 : DataW.trod enc Try.prog W base spare held n 3 ((cs.drop (6 * Try.prog.cellsOf 3)).take (Try.prog.cellsOf 3)) = some y6 := hf 6 (by omega)
    rw [hc_int] at f6
    obtain ⟨k0, e0, _, v0⟩ := DataW.trod_int Try.underlying3 f0
    obtain ⟨k1, e1, _, v1⟩ := DataW.trod_int Try.underlying3 f1
    obtain ⟨k2, e2, _, v2⟩ := DataW.trod_int Try.underlying3 f2
    obtain ⟨k3, e3, _, v3⟩ := DataW.trod_int Try.underlying3 f3
    obtain ⟨k4, e4, _, v4⟩ := DataW.trod_int Try.underlying3 f4
    obtain ⟨k5, e5, _, v5⟩ := DataW.trod_int Try.underlying3 f5
    obtain ⟨k6, e6, _, v6⟩ := DataW.trod_int Try.underlying3 f6
    have hcs : cs.drop 0 = (cs.drop 0).take 1 ++ ((cs.drop 1).take 1 ++ ((cs.drop 2).take 1 ++ ((cs.drop 3).take 1 ++ ((cs.drop 4).take 1 ++ ((cs.drop 5).take 1 ++ ((cs.drop 6).take 1 ++ [])))))) := (cut_at cs 0 1 (t := 1) rfl).trans (congrArg (_ ++ ·) ((cut_at cs 1 1 (t := 2) rfl).trans (congrArg (_ ++ ·) ((cut_at cs 2 1 (t := 3) rfl).trans (congrArg (_ ++ ·) ((cut_at cs 3 1 (t := 4) rfl).trans (congrArg (_ ++ ·) ((cut_at cs 4 1 (t := 5) rfl).trans (congrArg (_ ++ ·) ((cut_at cs 5 1 (t := 6) rfl).trans (congrArg (_ ++ ·) ((cut_at cs 6 1 (t := 7) rfl).trans (congrArg (_ ++ ·) (cut_end cs hn))))))))))))))
    simp only [Nat.zero_mul, Nat.one_mul, Nat.mul_one] at e0 e1 e2 e3 e4 e5 e6
    rw [e0, e1, e2, e3, e4, e5, e6] at hcs
    exact ⟨⟨k0, k1, k2, k3, k4, k5, k6⟩, hcs⟩
set_option maxRecDepth 100000 in
theorem open_attr {cs : List Value} {y : DataW H × List MemPlace} (h : DataW.trod enc Try.prog W base spare held fuel 65 cs = some y) : ∃ a : A8, cs = a.cells := by
  obtain ⟨xs, n, _, rfl, hl, hxl, hf⟩ := DataW.trod_struct Try.underlying65 h
  have hn : cs.length = 8 := hl.trans (by kernel_rfl)
  have hx : xs.length = 2 := hxl
  have hc_7int : Try.prog.cellsOf 23 = 7 := by kernel_rfl
  have hc_int : Try.prog.cellsOf 3 = 1 := by kernel_rfl
  match xs, hx with
  | [y0, y1], _ =>
    have f0 : DataW.trod enc Try.prog W base spare held n 3 ((cs.drop 0).take (Try.prog.cellsOf 3)) = some y0 := hf 0 _ rfl
    rw [hc_int] at f0
    have f1 : DataW.trod enc Try.prog W base spare held n 23 ((cs.drop 1).take (Try.prog.cellsOf 23)) = some y1 := hf 1 _ rfl
    rw [hc_7int] at f1
    obtain ⟨k0, e0, _, v0⟩ := DataW.trod_int Try.underlying3 f0
    obtain ⟨d0, d1, d2, d3, d4, d5, d6, e1⟩ := open_seven f1
    have hcs : cs.drop 0 = (cs.drop 0).take 1 ++ ((cs.drop 1).take 7 ++ []) := (cut_at cs 0 1 (t := 1) rfl).trans (congrArg (_ ++ ·) ((cut_at cs 1 7 (t := 8) rfl).trans (congrArg (_ ++ ·) (cut_end cs hn))))
    rw [e0, e1] at hcs
    exact ⟨⟨k0, d0, d1, d2, d3, d4, d5, d6⟩, hcs⟩
set_option maxRecDepth 100000 in
theorem open_node {cs : List Value} {y : DataW H × List MemPlace} (h : DataW.trod enc Try.prog W base spare held fuel 67 cs = some y) : ∃ n : IA, cs = cellsD n ∧ okD n.1 := by
  obtain ⟨xs, n, _, rfl, hl, hxl, hf⟩ := DataW.trod_struct Try.underlying67 h
  have hn : cs.length = 10 := hl.trans (by kernel_rfl)
  have hx : xs.length = 2 := hxl
  have hc_moothillattrAttr : Try.prog.cellsOf 65 = 8 := by kernel_rfl
  have hc_moothillmarkID : Try.prog.cellsOf 38 = 2 := by kernel_rfl
  match xs, hx with
  | [y0, y1], _ =>
    have f0 : DataW.trod enc Try.prog W base spare held n 38 ((cs.drop 0).take (Try.prog.cellsOf 38)) = some y0 := hf 0 _ rfl
    rw [hc_moothillmarkID] at f0
    have f1 : DataW.trod enc Try.prog W base spare held n 65 ((cs.drop 2).take (Try.prog.cellsOf 65)) = some y1 := hf 1 _ rfl
    rw [hc_moothillattrAttr] at f1
    obtain ⟨x, e0, hx0⟩ := open_id f0
    obtain ⟨a, e1⟩ := open_attr f1
    have hcs : cs.drop 0 = (cs.drop 0).take 2 ++ ((cs.drop 2).take 8 ++ []) := (cut_at cs 0 2 (t := 2) rfl).trans (congrArg (_ ++ ·) ((cut_at cs 2 8 (t := 10) rfl).trans (congrArg (_ ++ ·) (cut_end cs hn))))
    rw [e0, e1] at hcs
    exact ⟨(x, a), hcs, hx0⟩
theorem open_nodes {v : Value} {y : DataW H × List MemPlace} (hsp : ∀ b, spare b = true) (h : DataW.trod enc Try.prog W base spare held fuel 22 [v] = some y) : ∃ l : List IA, (∀ w, (Part.old W).holds w → Reads w v l.length (l.flatMap cellsD)) ∧ (∀ x ∈ l, okD x.1) ∧ l.length ≤ 9223372036854775807 := by
  rcases Go.Deep.open_slice Try.underlying22 h with ⟨hcs, _⟩ | ⟨a, len, cap, m, n, D, Pl, hcs, _, hl, hm, hmm, _, hel⟩
  · simp at hcs
    subst hcs
    exact ⟨[], fun w _ => ⟨none, 0, rfl, fun _ => rfl, fun j u hj => by cases hj⟩, nofun, by simp⟩
  · simp at hcs
    subst hcs
    have hco : Try.prog.cellsOf 67 = 10 := by kernel_rfl
    rw [hco] at hel
    have hall : ∀ i, i < len → ∃ x : IA, W.cells? base (a.add (i * 10)) 10 = some (cellsD x) ∧ okD x.1 := fun i hi => by
      obtain ⟨cs', h1, h2⟩ := hel i (by rw [hmm, hsp, if_pos rfl]; omega)
      obtain ⟨x, rfl, h3⟩ := open_node h2
      exact ⟨x, h1, h3⟩
    obtain ⟨f, hf⟩ := @Go.Deep.choose_lt IA ⟨((0, 0), ⟨0, 0, 0, 0, 0, 0, 0, 0⟩)⟩ len _ hall
    have hlen : ((List.range len).map f).length = len := by simp
    refine ⟨(List.range len).map f, fun w hw => ?_, fun x hx => ?_, by rw [hlen]; unfold maxLen at hm; omega⟩
    · rw [hlen]
      exact old_readsG (reads_of cellsD_len (by omega) fun i hi => (hf i hi).1) hw
    · obtain ⟨i, hi, rfl⟩ := List.mem_map.1 hx
      exact (hf i (List.mem_range.1 hi)).2
theorem open_ids {v : Value} {y : DataW H × List MemPlace} (hsp : ∀ b, spare b = true) (h : DataW.trod enc Try.prog W base spare held fuel 31 [v] = some y) : ∃ l : List I2, (∀ w, (Part.old W).holds w → Reads w v l.length (l.flatMap idL)) ∧ (∀ x ∈ l, okD x) ∧ l.length ≤ 9223372036854775807 := by
  rcases Go.Deep.open_slice Try.underlying31 h with ⟨hcs, _⟩ | ⟨a, len, cap, m, n, D, Pl, hcs, _, hl, hm, hmm, _, hel⟩
  · simp at hcs
    subst hcs
    exact ⟨[], fun w _ => ⟨none, 0, rfl, fun _ => rfl, fun j u hj => by cases hj⟩, nofun, by simp⟩
  · simp at hcs
    subst hcs
    have hco : Try.prog.cellsOf 38 = 2 := by kernel_rfl
    rw [hco] at hel
    have hall : ∀ i, i < len → ∃ x : I2, W.cells? base (a.add (i * 2)) 2 = some (idL x) ∧ okD x := fun i hi => by
      obtain ⟨cs', h1, h2⟩ := hel i (by rw [hmm, hsp, if_pos rfl]; omega)
      obtain ⟨x, rfl, h3⟩ := open_id h2
      exact ⟨x, h1, h3⟩
    obtain ⟨f, hf⟩ := @Go.Deep.choose_lt I2 ⟨(0, 0)⟩ len _ hall
    have hlen : ((List.range len).map f).length = len := by simp
    refine ⟨(List.range len).map f, fun w hw => ?_, fun x hx => ?_, by rw [hlen]; unfold maxLen at hm; omega⟩
    · rw [hlen]
      exact old_readsG (reads_of idL_len (by omega) fun i hi => (hf i hi).1) hw
    · obtain ⟨i, hi, rfl⟩ := List.mem_map.1 hx
      exact (hf i (List.mem_range.1 hi)).2
variable {d : DataW H} {ps : List MemPlace} {r : Reach} {b0 : Nat}
set_option maxRecDepth 100000 in
theorem openV_id {v : Value} (hv : Value.okWide Try.prog W r b0 38 v) (h : DataW.Trod enc Try.prog W base spare held 38 v d ps) : ∃ x : I2, v = idV x ∧ okD x := by
  obtain ⟨cs, rfl, _⟩ := okWide_struct Try.underlying38 hv
  obtain ⟨fuel, hf⟩ := h
  obtain ⟨x, hc, hx⟩ := open_id (cs := cs.toList) hf
  refine ⟨x, ?_, hx⟩
  rw [show cs = (idL x).toArray from by rw [← hc]]
  rfl
set_option maxRecDepth 100000 in
theorem openV_front {v : Value} (hv : Value.okWide Try.prog W r b0 24 v) (h : DataW.Trod enc Try.prog W base spare held 24 v d ps) : ∃ f : F7, v = f.val := by
  obtain ⟨cs, rfl, _⟩ := okWide_array Try.underlying24 hv
  obtain ⟨fuel, hf⟩ := h
  obtain ⟨f, hc⟩ := open_front (cs := cs.toList) hf
  refine ⟨f, ?_⟩
  rw [show cs = f.cells.toArray from by rw [← hc]]
  rfl
end
end Go.Proofs.Ytgicohkmfbbbdaa.Gr
end

section
namespace Go.Proofs.Ytgicohkmfbbbdaa.Gr
open _root_.Go.Proofs.Ytgicohkmfbbbdaa.Mark (ltID sortID cmpID)
open _root_.Go.Proofs.Ytgicohkmfbbbdaa.Ref (rowD flatD cellsD cellsD_len IA rowJ rowJ_snoc infoJ)
open Go.RowKit
open Attr (A8 thro)
set_option linter.unusedSimpArgs false
set_option linter.unusedVariables false

theorem ext_cmp (x y : I2) {w : World} {v : Int} (hv : cmpID x y = v) : Calls Try.prog 26 #[.agg #[.int .i64 x.1, .int .i64 x.2], .agg #[.int .i64 y.1, .int .i64 y.2]] w fun e w' => e = .returned (.int .i64 v) ∧ Ext w w' := by
  subst hv
  exact (Mark.compare_exact x y w).mono fun e w' ⟨h1, q, os, h2⟩ => ⟨h1, by rw [h2]; exact grow_ext w q os⟩
theorem cmp_neg {x y : I2} (h : ltID x y) : decide ((0 : Int) ≤ cmpID x y) = false := by
  have h1 := Mark.cmpID_lt x y
  rw [decide_eq_true h] at h1
  unfold ltOf at h1
  have h2 : cmpID x y < 0 := by simpa using h1
  exact decide_eq_false (by omega)
theorem cmp_neg2 {x y : I2} (h : ltID x y) : decide ((0 : Int) < cmpID x y) = false := by
  have h1 := cmp_neg h
  have h2 := of_decide_eq_false h1
  exact decide_eq_false (by omega)
theorem rowJ_app (v : Value) (l m : List I2) : Part.row 45 2 v (l.length + m.length) (flatI l ++ flatI m) = rowJ v (l ++ m) := by
  unfold rowJ
  rw [List.length_append]
  simp [flatI]
section
variable {P : Program} {ops : Array Oper} {rest : List Oper} {o : Oper} {a : Act} {Q : Exit → Act → World → Prop} {w : World}
/-- a beginning of a row -/
theorem wpList_slice_pre {t e : TypeId} {i : TypeInfo} {x hi' : Operand} {g n cap k : Nat} (hg : o.guard = none) (hop : o.op = .slice t x none (some hi') none) (ht : P.underlying t = some (.slice e)) (hi : P.info? e = some i) (hx : a.eval x = .slice (some ⟨g, 0, none⟩) n cap) (hh : a.eval hi' = .int .i64 (k : Int))
    (hk : k ≤ cap) (hK : wpList P ops Q rest (a.put o.dst (.slice (some ⟨g, 0, none⟩) k cap)) w) : wpList P ops Q (o :: rest) a w := by
  have hz : ∀ w, (sizeOf e).run P w = .ok i.size w := fun w => by simp [sizeOf, typeInfo, hi]
  refine wpList_val hg (w' := w) ?_ hK
  have hrun : (Instr.sliceAt t (.slice (some ⟨g, 0, none⟩) n cap) none (some (.int .i64 (k : Int))) none).run P w = .ok (.slice (some ⟨g, 0, none⟩) k cap) w := by
    simp [Instr.sliceAt, Instr.slice, run_underlying ht, Instr.sliceBounds, run_sliceBound, hz, Result.andThen, show (k : Int) ≤ cap by omega, Addr.add]
  simp [execOp, hop, hx, hh, hrun, Result.andThen]
end
end Go.Proofs.Ytgicohkmfbbbdaa.Gr
end
