/- GrbO, GrbH, joined. -/
import Derived.Test.YtgicohkmfbbbdaaJ27
import Derived.Deep.Slices
import Derived.DataReads
import Derived.OpenShut
import Derived.Lib.SmallJoins
import Derived.Test.YtgicohkmfbbbdaaJ22
section
namespace Go.Proofs.Ytgicohkmfbbbdaa.Gr
open Go.RowKit Go.Joins Go.ChangeShapes Go.WideShapes
open Attr (A8)
open _root_.Go.Proofs.Ytgicohkmfbbbdaa.Ref (flatD cellsD cellsD_len IA)
set_option linter.unusedVariables false
set_option linter.unusedSimpArgs false

theorem cut_at {α : Type} (l : List α) (a s : Nat) {t : Nat} (h : a + s = t) : l.drop a = (l.drop a).take s ++ l.drop t := by
  subst h
  conv => lhs; rw [← List.take_append_drop s (l.drop a)]
  rw [List.drop_drop]
theorem cut_end {α : Type} (l : List α) {n : Nat} (h : l.length = n) : l.drop n = [] := List.drop_eq_nil_of_le (by omega)
theorem old_cell {W w : World} (h : (Part.old W).holds w) {b off : Nat} {u : Value} (hc : W.cell? ⟨b, off, none⟩ = some u) : w.cell? ⟨b, off, none⟩ = some u := by
  have hb : b < W.heap.size := by
    rcases Nat.lt_or_ge b W.heap.size with q | q
    · exact q
    · simp [World.cell?, Array.getElem?_eq_none q] at hc
  have := h b hb
  rw [← hc]
  simp [World.cell?, this]
theorem below_old {w w' : World} {L F : List Part} (h : At [Part.old w] w L w') (s : Sel (Part.old w) L F) : Below w.heap.size w w' := by
  have ho : (Part.old w).holds w' := h.get s
  exact ⟨h.exc.os, h.exc.tape, h.exc.output, h.exc.size, fun b hb => ho b hb⟩
theorem old_start (w : World) : At [Part.old w] w [Part.old w] w := At.start ⟨fun _ _ => rfl, trivial, nofun⟩
theorem old_readsG {W : World} {v : Value} {n : Nat} {xs : List Value} (h : Reads W v n xs) {w : World} (hw : (Part.old W).holds w) : Reads w v n xs := by
  obtain ⟨ax, c, hx, ha, hn⟩ := h
  refine ⟨ax, c, hx, ha, fun j u hj => ?_⟩
  obtain ⟨b, off, h1, h2⟩ := hn j u hj
  exact ⟨b, off, h1, old_cell hw h2⟩
section
variable {H : Type} {enc : TypeId × Value → H} {W : World} {base : Nat} {spare : Nat → Bool} {held : Bool} {fuel : Nat}
theorem wfI {n : Int} (h : (Lit.int .i64 n).wf = true) : okI n := by
  simp [Lit.wf, IntKind.min, IntKind.max, IntKind.signed, IntKind.bits] at h
  unfold okI
  omega
theorem okWide_array {P : Program} {w : World} {r : Reach} {base : Nat} {t e : TypeId} {v : Value} {n : Nat} (ht : P.underlying t = some (.array n e)) (h : Value.okWide P w r base t v) : ∃ cs, v = .agg cs ∧ cs.size = P.cellsOf t := by
  simp only [Value.okWide, ht] at h
  obtain ⟨cs, h1, h2, _⟩ := h
  exact ⟨cs, h1, h2⟩
/-- a row that came in -/
theorem reads_of {α : Type} {encA : α → List Value} {size : Nat} (hs : ∀ x, (encA x).length = size) (h0 : 0 < size) {a : Addr} {len cap : Nat} {f : Nat → α} (h : ∀ i, i < len → W.cells? base (a.add (i * size)) size = some (encA (f i))) :
    Reads W (.slice (some a) len cap) len (((List.range len).map f).flatMap encA) := by
  refine ⟨some a, cap, rfl, nofun, fun j u hj => ?_⟩
  have hj2 : j < len * size := by
    have := (List.getElem?_eq_some_iff.1 hj).1
    rw [flat_len encA size hs] at this
    simpa using this
  have hi : j / size < len := Nat.div_lt_of_lt_mul (by rw [Nat.mul_comm]; exact hj2)
  have hm : j % size < size := Nat.mod_lt _ h0
  obtain ⟨h4, h5, h6⟩ := World.cells?_some (h (j / size) hi)
  have hz := (World.cells?_some (h 0 (Nat.lt_of_le_of_lt (Nat.zero_le _) hi))).2.2 0 h0
  obtain ⟨u0, hu0⟩ : ∃ u, (encA (f 0))[0]? = some u := ⟨_, List.getElem?_eq_getElem (by rw [hs]; exact h0)⟩
  rw [hu0] at hz
  obtain ⟨b, off, sp⟩ := a
  have hsn : sp = none := by
    have := congrArg Addr.spot (spot_none hz)
    simpa [Addr.add] using this
  subst hsn
  have e := flat_at encA size hs ((List.range len).map f) (j / size) (f (j / size)) (by simp [hi]) (j % size) hm
  have hjj : j / size * size + j % size = j := by rw [Nat.mul_comm]; exact Nat.div_add_mod j size
  rw [hjj] at e
  rw [e] at hj
  have h7 := h6 (j % size) hm
  rw [Addr.add_lit, Addr.add_lit, Nat.add_assoc, hjj] at h7
  exact ⟨b, off, rfl, h7.trans hj⟩
set_option maxRecDepth 100000 in
theorem open_id {cs : List Value} {y : DataW H × List MemPlace} (h : DataW.trod enc Try.prog W base spare held fuel 38 cs = some y) : ∃ x : I2, cs = idL x ∧ okD x := by
  obtain ⟨xs, n, _, rfl, hl, hxl, hf⟩ := DataW.trod_struct Try.underlying38 h
  have hn : cs.length = 2 := hl.trans (by kernel_rfl)
  have hx : xs.length = 2 := hxl
  have hc_int : Try.prog.cellsOf 3 = 1 := by kernel_rfl
  match xs, hx with
  | [y0, y1], _ =>
    have f0 : DataW.trod enc Try.prog W base spare held n 3 ((cs.drop 0).take (Try.prog.cellsOf 3)) = some y0 := hf 0 _ rfl
    rw [hc_int] at f0
    have f1 : DataW.trod enc Try.prog W base spare held n 3 ((cs.drop 1).take (Try.prog.cellsOf 3)) = some y1 := hf 1 _ rfl
    rw [hc_int] at f1
    obtain ⟨k0, e0, _, v0⟩ := DataW.trod_int Try.underlying3 f0
    obtain ⟨k1, e1, _, v1⟩ := DataW.trod_int Try.underlying3 f1
    have hcs : cs.drop 0 = (cs.drop 0).take 1 ++ ((cs.drop 1).take 1 ++ []) := (cut_at cs 0 1 (t := 1) rfl).trans (congrArg (_ ++ ·) ((cut_at cs 1 1 (t := 2) rfl).trans (congrArg (_ ++ ·) (cut_end cs hn))))
    rw [e0, e1] at hcs
    exact ⟨(k0, k1), hcs, wfI v0, wfI v1⟩
set_option maxRecDepth 100000 in
theorem open_seven {cs : List Value} {y : DataW H × List MemPlace} (h : DataW.trod enc Try.prog W base spare held fuel 23 cs = some y) : ∃ d0 d1 d2 d3 d4 d5 d6, cs = [.int .i64 d0, .int .i64 d1, .int .i64 d2, .int .i64 d3, .int .i64 d4, .int .i64 d5, .int .i64 d6] := by
  obtain ⟨xs, n, _, rfl, hl, hxl, hf⟩ := DataW.trod_array Try.underlying23 h
  have hn : cs.length = 7 := hl.trans (by kernel_rfl)
  have hx : xs.length = 7 := hxl
  have hc_int : Try.prog.cellsOf 3 = 1 := by kernel_rfl
  match xs, hx with
  | [y0, y1, y2, y3, y4, y5, y6], _ =>
    have f0 : DataW.trod enc Try.prog W base spare held n 3 ((cs.drop (0 * Try.prog.cellsOf 3)).take (Try.prog.cellsOf 3)) = some y0 := hf 0 (by omega)
    rw [hc_int] at f0
    have f1 : DataW.trod enc Try.prog W base spare held n 3 ((cs.drop (1 * Try.prog.cellsOf 3)).take (Try.prog.cellsOf 3)) = some y1 := hf 1 (by omega)
    rw [hc_int] at f1
    have f2 : DataW.trod enc Try.prog W base spare held n 3 ((cs.drop (2 * Try.prog.cellsOf 3)).take (Try.prog.cellsOf 3)) = some y2 := hf 2 (by omega)
    rw [hc_int] at f2
    have f3 : DataW.trod enc Try.prog W base spare held n 3 ((cs.drop (3 * Try.prog.cellsOf 3)).take (Try.prog.cellsOf 3)) = some y3 := hf 3 (by omega)
    rw [hc_int] at f3
    have f4 : DataW.trod enc Try.prog W base spare held n 3 ((cs.drop (4 * Try.prog.cellsOf 3)).take (Try.prog.cellsOf 3)) = some y4 := hf 4 (by omega)
    rw [hc_int] at f4
    have f5 : DataW.trod enc Try.prog W base spare held n 3 ((cs.drop (5 * Try.prog.cellsOf 3)).take (Try.prog.cellsOf 3)) = some y5 := hf 5 (by omega)
    rw [hc_int] at f5
    have f6 : DataW.trod enc Try.prog W base spare held n 3 ((cs.drop (6 * Try.prog.cellsOf 3)).take (Try.prog.cellsOf 3)) = some y6 := hf 6 (by omega)
    rw [hc_int] at f6
    obtain ⟨k0, e0, _, v0⟩ := DataW.trod_int Try.underlying3 f0
    obtain ⟨k1, e1, _, v1⟩ := DataW.trod_int Try.underlying3 f1
    obtain ⟨k2, e2, _, v2⟩ := DataW.trod_int Try.underlying3 f2
    obtain ⟨k3, e3, _, v3⟩ := DataW.trod_int Try.underlying3 f3
    obtain ⟨k4, e4, _, v4⟩ := DataW.trod_int Try.underlying3 f4
    obtain ⟨k5, e5, _, v5⟩ := DataW.trod_int Try.underlying3 f5
    obtain ⟨k6, e6, _, v6⟩ := DataW.trod_int Try.underlying3 f6
    have hcs : cs.drop 0 = (cs.drop 0).take 1 ++ ((cs.drop 1).take 1 ++ ((cs.drop 2).take 1 ++ ((cs.drop 3).take 1 ++ ((cs.drop 4).take 1 ++ ((cs.drop 5).take 1 ++ ((cs.drop 6).take 1 ++ [])))))) := (cut_at cs 0 1 (t := 1) rfl).trans (congrArg (_ ++ ·) ((cut_at cs 1 1 (t := 2) rfl).trans (congrArg (_ ++ ·) ((cut_at cs 2 1 (t := 3) rfl).trans (congrArg (_ ++ ·) ((cut_at cs 3 1 (t := 4) rfl).trans (congrArg (_ ++ ·) ((cut_at cs 4 1 (t := 5) rfl).trans (congrArg (_ ++ ·) ((cut_at cs 5 1 (t := 6) rfl).trans (congrArg (_ ++ ·) ((cut_at cs 6 1 (t := 7) rfl).trans (congrArg (_ ++ ·) (cut_end cs hn))))))))))))))
    simp only [Nat.zero_mul, Nat.one_mul, Nat.mul_one] at e0 e1 e2 e3 e4 e5 e6
    rw [e0, e1, e2, e3, e4, e5, e6] at hcs
    exact ⟨k0, k1, k2, k3, k4, k5, k6, hcs⟩
set_option maxRecDepth 100000 in
theorem open_front {cs : List Value} {y : DataW H × List MemPlace} (h : DataW.trod enc Try.prog W base spare held fuel 24 cs = some y) : ∃ f : F7, cs = f.cells := by
  obtain ⟨xs, n, _, rfl, hl, hxl, hf⟩ := DataW.trod_array Try.underlying24 h
  have hn : cs.length = 7 := hl.trans (by kernel_rfl)
  have hx : xs.length = 7 := hxl
  have hc_int : Try.prog.cellsOf 3 = 1 := by kernel_rfl
  match xs, hx with
  | [y0, y1, y2, y3, y4, y5, y6], _ =>
    have f0 : DataW.trod enc Try.prog W base spare held n 3 ((cs.drop (0 * Try.prog.cellsOf 3)).take (Try.prog.cellsOf 3)) = some y0 := hf 0 (by omega)
    rw [hc_int] at f0
    have f1 : DataW.trod enc Try.prog W base spare held n 3 ((cs.drop (1 * Try.prog.cellsOf 3)).take (Try.prog.cellsOf 3)) = some y1 := hf 1 (by omega)
    rw [hc_int] at f1
    have f2 : DataW.trod enc Try.prog W base spare held n 3 ((cs.drop (2 * Try.prog.cellsOf 3)).take (Try.prog.cellsOf 3)) = some y2 := hf 2 (by omega)
    rw [hc_int] at f2
    have f3 : DataW.trod enc Try.prog W base spare held n 3 ((cs.drop (3 * Try.prog.cellsOf 3)).take (Try.prog.cellsOf 3)) = some y3 := hf 3 (by omega)
    rw [hc_int] at f3
    have f4 : DataW.trod enc Try.prog W base spare held n 3 ((cs.drop (4 * Try.prog.cellsOf 3)).take (Try.prog.cellsOf 3)) = some y4 := hf 4 (by omega)
    rw [hc_int] at f4
    have f5 : DataW.trod enc Try.prog W base spare held n 3 ((cs.drop (5 * Try.prog.cellsOf 3)).take (Try.prog.cellsOf 3)) = some y5 := hf 5 (by omega)
    rw [hc_int] at f5
    have f6 : DataW.trod enc Try.prog W base spare held n 3 ((cs.drop (6 * Try.prog.cellsOf 3)).take (Try.prog.cellsOf 3)) = some y6 := hf 6 (by omega)
    rw [hc_int] at f6
    obtain ⟨k0, e0, _, v0⟩ := DataW.trod_int Try.underlying3 f0
    obtain ⟨k1, e1, _, v1⟩ := DataW.trod_int Try.underlying3 f1
    obtain ⟨k2, e2, _, v2⟩ := DataW.trod_int Try.underlying3 f2
    obtain ⟨k3, e3, _, v3⟩ := DataW.trod_int Try.underlying3 f3
    obtain ⟨k4, e4, _, v4⟩ := DataW.trod_int Try.underlying3 f4
    obtain ⟨k5, e5, _, v5⟩ := DataW.trod_int Try.underlying3 f5
    obtain ⟨k6, e6, _, v6⟩ := DataW.trod_int Try.underlying3 f6
    have hcs : cs.drop 0 = (cs.drop 0).take 1 ++ ((cs.drop 1).take 1 ++ ((cs.drop 2).take 1 ++ ((cs.drop 3).take 1 ++ ((cs.drop 4).take 1 ++ ((cs.drop 5).take 1 ++ ((cs.drop 6).take 1 ++ [])))))) := (cut_at cs 0 1 (t := 1) rfl).trans (congrArg (_ ++ ·) ((cut_at cs 1 1 (t := 2) rfl).trans (congrArg (_ ++ ·) ((cut_at cs 2 1 (t := 3) rfl).trans (congrArg (_ ++ ·) ((cut_at cs 3 1 (t := 4) rfl).trans (congrArg (_ ++ ·) ((cut_at cs 4 1 (t := 5) rfl).trans (congrArg (_ ++ ·) ((cut_at cs 5 1 (t := 6) rfl).trans (congrArg (_ ++ ·) ((cut_at cs 6 1 (t := 7) rfl).trans (congrArg (_ ++ ·) (cut_end cs hn))))))))))))))
    simp only [Nat.zero_mul, Nat.one_mul, Nat.mul_one] at e0 e1 e2 e3 e4 e5 e6
    rw [e0, e1, e2, e3, e4, e5, e6] at hcs
    exact ⟨⟨k0, k1, k2, k3, k4, k5, k6⟩, hcs⟩
set_option maxRecDepth 100000 in
theorem open_attr {cs : List Value} {y : DataW H × List MemPlace} (h : DataW.trod enc Try.prog W base spare held fuel 65 cs = some y) : ∃ a : A8, cs = a.cells := by
  obtain ⟨xs, n, _, rfl, hl, hxl, hf⟩ := DataW.trod_struct Try.underlying65 h
  have hn : cs.length = 8 := hl.trans (by kernel_rfl)
  have hx : xs.length = 2 := hxl
  have hc_7int : Try.prog.cellsOf 23 = 7 := by kernel_rfl
  have hc_int : Try.prog.cellsOf 3 = 1 := by kernel_rfl
  match xs, hx with
  | [y0, y1], _ =>
    have f0 : DataW.trod enc Try.prog W base spare held n 3 ((cs.drop 0).take (Try.prog.cellsOf 3)) = some y0 := hf 0 _ rfl
    rw [hc_int] at f0
    have f1 : DataW.trod enc Try.prog W base spare held n 23 ((cs.drop 1).take (Try.prog.cellsOf 23)) = some y1 := hf 1 _ rfl
    rw [hc_7int] at f1
    obtain ⟨k0, e0, _, v0⟩ := DataW.trod_int Try.underlying3 f0
    obtain ⟨d0, d1, d2, d3, d4, d5, d6, e1⟩ := open_seven f1
    have hcs : cs.drop 0 = (cs.drop 0).take 1 ++ ((cs.drop 1).take 7 ++ []) := (cut_at cs 0 1 (t := 1) rfl).trans (congrArg (_ ++ ·) ((cut_at cs 1 7 (t := 8) rfl).trans (congrArg (_ ++ ·) (cut_end cs hn))))
    rw [e0, e1] at hcs
    exact ⟨⟨k0, d0, d1, d2, d3, d4, d5, d6⟩, hcs⟩
set_option maxRecDepth 100000 in
theorem open_node {cs : List Value} {y : DataW H × List MemPlace} (h : DataW.trod enc Try.prog W base spare held fuel 67 cs = some y) : ∃ n : IA, cs = cellsD n ∧ okD n.1 := by
  obtain ⟨xs, n, _, rfl, hl, hxl, hf⟩ := DataW.trod_struct Try.underlying67 h
  have hn : cs.length = 10 := hl.trans (by kernel_rfl)
  have hx : xs.length = 2 := hxl
  have hc_moothillattrAttr : Try.prog.cellsOf 65 = 8 := by kernel_rfl
  have hc_moothillmarkID : Try.prog.cellsOf 38 = 2 := by kernel_rfl
  match xs, hx with
  | [y0, y1], _ =>
    have f0 : DataW.trod enc Try.prog W base spare held n 38 ((cs.drop 0).take (Try.prog.cellsOf 38)) = some y0 := hf 0 _ rfl
    rw [hc_moothillmarkID] at f0
    have f1 : DataW.trod enc Try.prog W base spare held n 65 ((cs.drop 2).take (Try.prog.cellsOf 65)) = some y1 := hf 1 _ rfl
    rw [hc_moothillattrAttr] at f1
    obtain ⟨x, e0, hx0⟩ := open_id f0
    obtain ⟨a, e1⟩ := open_attr f1
    have hcs : cs.drop 0 = (cs.drop 0).take 2 ++ ((cs.drop 2).take 8 ++ []) := (cut_at cs 0 2 (t := 2) rfl).trans (congrArg (_ ++ ·) ((cut_at cs 2 8 (t := 10) rfl).trans (congrArg (_ ++ ·) (cut_end cs hn))))
    rw [e0, e1] at hcs
    exact ⟨(x, a), hcs, hx0⟩
theorem open_nodes {v : Value} {y : DataW H × List MemPlace} (hsp : ∀ b, spare b = true) (h : DataW.trod enc Try.prog W base spare held fuel 22 [v] = some y) : ∃ l : List IA, (∀ w, (Part.old W).holds w → Reads w v l.length (l.flatMap cellsD)) ∧ (∀ x ∈ l, okD x.1) ∧ l.length ≤ 9223372036854775807 := by
  rcases Go.Deep.open_slice Try.underlying22 h with ⟨hcs, _⟩ | ⟨a, len, cap, m, n, D, Pl, hcs, _, hl, hm, hmm, _, hel⟩
  · simp at hcs
    subst hcs
    exact ⟨[], fun w _ => ⟨none, 0, rfl, fun _ => rfl, fun j u hj => by cases hj⟩, nofun, by simp⟩
  · simp at hcs
    subst hcs
    have hco : Try.prog.cellsOf 67 = 10 := by kernel_rfl
    rw [hco] at hel
    have hall : ∀ i, i < len → ∃ x : IA, W.cells? base (a.add (i * 10)) 10 = some (cellsD x) ∧ okD x.1 := fun i hi => by
      obtain ⟨cs', h1, h2⟩ := hel i (by rw [hmm, hsp, if_pos rfl]; omega)
      obtain ⟨x, rfl, h3⟩ := open_node h2
      exact ⟨x, h1, h3⟩
    obtain ⟨f, hf⟩ := @Go.Deep.choose_lt IA ⟨((0, 0), ⟨0, 0, 0, 0, 0, 0, 0, 0⟩)⟩ len _ hall
    have hlen : ((List.range len).map f).length = len := by simp
    refine ⟨(List.range len).map f, fun w hw => ?_, fun x hx => ?_, by rw [hlen]; unfold maxLen at hm; omega⟩
    · rw [hlen]
      exact old_readsG (reads_of cellsD_len (by omega) fun i hi => (hf i hi).1) hw
    · obtain ⟨i, hi, rfl⟩ := List.mem_map.1 hx
      exact (hf i (List.mem_range.1 hi)).2
theorem open_ids {v : Value} {y : DataW H × List MemPlace} (hsp : ∀ b, spare b = true) (h : DataW.trod enc Try.prog W base spare held fuel 31 [v] = some y) : ∃ l : List I2, (∀ w, (Part.old W).holds w → Reads w v l.length (l.flatMap idL)) ∧ (∀ x ∈ l, okD x) ∧ l.length ≤ 9223372036854775807 := by
  rcases Go.Deep.open_slice Try.underlying31 h with ⟨hcs, _⟩ | ⟨a, len, cap, m, n, D, Pl, hcs, _, hl, hm, hmm, _, hel⟩
  · simp at hcs
    subst hcs
    exact ⟨[], fun w _ => ⟨none, 0, rfl, fun _ => rfl, fun j u hj => by cases hj⟩, nofun, by simp⟩
  · simp at hcs
    subst hcs
    have hco : Try.prog.cellsOf 38 = 2 := by kernel_rfl
    rw [hco] at hel
    have hall : ∀ i, i < len → ∃ x : I2, W.cells? base (a.add (i * 2)) 2 = some (idL x) ∧ okD x := fun i hi => by
      obtain ⟨cs', h1, h2⟩ := hel i (by rw [hmm, hsp, if_pos rfl]; omega)
      obtain ⟨x, rfl, h3⟩ := open_id h2
      exact ⟨x, h1, h3⟩
    obtain ⟨f, hf⟩ := @Go.Deep.choose_lt I2 ⟨(0, 0)⟩ len _ hall
    have hlen : ((List.range len).map f).length = len := by simp
    refine ⟨(List.range len).map f, fun w hw => ?_, fun x hx => ?_, by rw [hlen]; unfold maxLen at hm; omega⟩
    · rw [hlen]
      exact old_readsG (reads_of idL_len (by omega) fun i hi => (hf i hi).1) hw
    · obtain ⟨i, hi, rfl⟩ := List.mem_map.1 hx
      exact (hf i (List.mem_range.1 hi)).2
variable {d : DataW H} {ps : List MemPlace} {r : Reach} {b0 : Nat}
set_option maxRecDepth 100000 in
theorem openV_id {v : Value} (hv : Value.okWide Try.prog W r b0 38 v) (h : DataW.Trod enc Try.prog W base spare held 38 v d ps) : ∃ x : I2, v = idV x ∧ okD x := by
  obtain ⟨cs, rfl, _⟩ := okWide_struct Try.underlying38 hv
  obtain ⟨fuel, hf⟩ := h
  obtain ⟨x, hc, hx⟩ := open_id (cs := cs.toList) hf
  refine ⟨x, ?_, hx⟩
  rw [show cs = (idL x).toArray from by rw [← hc]]
  rfl
set_option maxRecDepth 100000 in
theorem openV_front {v : Value} (hv : Value.okWide Try.prog W r b0 24 v) (h : DataW.Trod enc Try.prog W base spare held 24 v d ps) : ∃ f : F7, v = f.val := by
  obtain ⟨cs, rfl, _⟩ := okWide_array Try.underlying24 hv
  obtain ⟨fuel, hf⟩ := h
  obtain ⟨f, hc⟩ := open_front (cs := cs.toList) hf
  refine ⟨f, ?_⟩
  rw [show cs = f.cells.toArray from by rw [← hc]]
  rfl
end
end Go.Proofs.Ytgicohkmfbbbdaa.Gr
end

section
namespace Go.Proofs.Ytgicohkmfbbbdaa.Gr
open _root_.Go.Proofs.Ytgicohkmfbbbdaa.Mark (ltID sortID)
open Attr (A8)
set_option linter.unusedSimpArgs false
set_option linter.unusedVariables false

/-- the law's walk, up to place i: what it found missing, and what it gone through -/
structure MsS (es : List (I2 × A8)) (f : F7) (a : I2) (todo ms ks : List I2) (i : Nat) : Prop where
  head : a ∈ todo
  reach : ∀ y ∈ todo, RI es f a y
  cl : ∀ y ∈ todo.take i, ∀ z ∈ leadsG es f y, z ∈ todo
  msd : ms.Nodup
  msm : ∀ y, y ∈ ms ↔ y ∈ todo.take i ∧ getA es y = none
  ksd : ks.Nodup
  ksm : ∀ y ∈ ks, y ∈ todo.take i ∧ (getA es y).isSome = true
  len : todo.length ≤ 1 + 7 * ks.length
theorem ms_start (es : List (I2 × A8)) (f : F7) (a : I2) : MsS es f a [a] [] [] 0 :=
  ⟨by simp, fun y hy => by rw [List.mem_singleton.1 hy]; exact .refl, by simp, .nil, by simp, .nil, by simp, by simp⟩
theorem MsS.max {es : List (I2 × A8)} {f : F7} {a : I2} {todo ms ks : List I2} {i : Nat} (h : MsS es f a todo ms ks i) : todo.length ≤ 1 + 7 * es.length := by
  have h1 : ks.length ≤ (es.map (·.1)).length := nodup_le h.ksd fun x hx => by
    have := (h.ksm x hx).2
    cases hq : getA es x with
    | none => rw [hq] at this; cases this
    | some b => exact List.mem_map.2 ⟨_, getA_mem hq, rfl⟩
  have := h.len
  rw [List.length_map] at h1
  omega
theorem MsS.msl {es : List (I2 × A8)} {f : F7} {a : I2} {todo ms ks : List I2} {i : Nat} (h : MsS es f a todo ms ks i) : ms.length ≤ todo.length :=
  nodup_le h.msd fun x hx => List.mem_of_mem_take ((h.msm x).1 hx).1
theorem MsS.known {es : List (I2 × A8)} {f : F7} {a : I2} {todo ms ks : List I2} {i : Nat} (h : MsS es f a todo ms ks i) {y : I2} (hy : todo[i]? = some y) (hk : y ∈ todo.take i) : MsS es f a todo ms ks (i + 1) := by
  have htk : todo.take (i + 1) = todo.take i ++ [y] := by rw [List.take_add_one, hy]; rfl
  have hm : ∀ z, z ∈ todo.take (i + 1) ↔ z ∈ todo.take i := fun z => by
    rw [htk, List.mem_append, List.mem_singleton]
    exact ⟨fun q => q.elim id fun e => e ▸ hk, .inl⟩
  exact ⟨h.head, h.reach, fun z hz => h.cl z ((hm z).1 hz), h.msd, fun z => by rw [h.msm z, hm z], h.ksd, fun z hz => by rw [hm z]; exact h.ksm z hz, h.len⟩
theorem MsS.lack {es : List (I2 × A8)} {f : F7} {a : I2} {todo ms ks : List I2} {i : Nat} (h : MsS es f a todo ms ks i) {y : I2} (hy : todo[i]? = some y) (hk : y ∉ todo.take i) (hn : getA es y = none) : MsS es f a todo (ms ++ [y]) ks (i + 1) := by
  have htk : todo.take (i + 1) = todo.take i ++ [y] := by rw [List.take_add_one, hy]; rfl
  refine ⟨h.head, h.reach, fun z hz w hw => ?_, ?_, fun z => ?_, h.ksd, fun z hz => ?_, h.len⟩
  · rw [htk] at hz
    rcases List.mem_append.1 hz with q | q
    · exact h.cl z q w hw
    · rw [List.mem_singleton.1 q] at hw
      unfold leadsG at hw
      rw [hn] at hw
      cases hw
  · rw [List.nodup_append]
    refine ⟨h.msd, by simp, fun p hp q hq e => ?_⟩
    rw [List.mem_singleton] at hq
    subst hq
    exact hk (by rw [← e]; exact ((h.msm p).1 hp).1)
  · rw [htk, List.mem_append, List.mem_append, List.mem_singleton, h.msm z]
    constructor
    · rintro (⟨q1, q2⟩ | rfl)
      · exact ⟨.inl q1, q2⟩
      · exact ⟨.inr rfl, hn⟩
    · rintro ⟨q1 | q1, q2⟩
      · exact .inl ⟨q1, q2⟩
      · exact .inr q1
  · rw [htk]
    exact ⟨List.mem_append_left _ (h.ksm z hz).1, (h.ksm z hz).2⟩
theorem MsS.more {es : List (I2 × A8)} {f : F7} {a : I2} {todo ms ks : List I2} {i : Nat} (h : MsS es f a todo ms ks i) {y : I2} {b : A8} (hy : todo[i]? = some y) (hk : y ∉ todo.take i) (hb : getA es y = some b) : MsS es f a (todo ++ leads f b) ms (ks ++ [y]) (i + 1) := by
  have hi := (List.getElem?_eq_some_iff.1 hy).1
  have htk : (todo ++ leads f b).take (i + 1) = todo.take i ++ [y] := by rw [List.take_append_of_le_length (by omega), List.take_add_one, hy]; rfl
  have hlg : leadsG es f y = leads f b := by unfold leadsG; rw [hb]
  have hyt := List.mem_of_getElem? hy
  refine ⟨List.mem_append_left _ h.head, fun z hz => ?_, fun z hz w hw => ?_, h.msd, fun z => ?_, ?_, fun z hz => ?_, ?_⟩
  · rcases List.mem_append.1 hz with q | q
    · exact h.reach z q
    · exact .step (h.reach y hyt) (by rw [hlg]; exact q)
  · rw [htk] at hz
    rcases List.mem_append.1 hz with q | q
    · exact List.mem_append_left _ (h.cl z q w hw)
    · rw [List.mem_singleton.1 q, hlg] at hw
      exact List.mem_append_right _ hw
  · rw [htk, h.msm z, List.mem_append, List.mem_singleton]
    constructor
    · exact fun ⟨q1, q2⟩ => ⟨.inl q1, q2⟩
    · rintro ⟨q1 | q1, q2⟩
      · exact ⟨q1, q2⟩
      · rw [q1, hb] at q2; cases q2
  · rw [List.nodup_append]
    refine ⟨h.ksd, by simp, fun p hp q hq e => ?_⟩
    rw [List.mem_singleton] at hq
    subst hq
    exact hk (by rw [← e]; exact (h.ksm p hp).1)
  · rw [htk]
    rcases List.mem_append.1 hz with q | q
    · exact ⟨List.mem_append_left _ (h.ksm z q).1, (h.ksm z q).2⟩
    · rw [List.mem_singleton.1 q]
      exact ⟨by simp, by rw [hb]; rfl⟩
  · have h1 := h.len
    have h2 := leads_len f b
    rw [List.length_append, List.length_append, List.length_singleton]
    omega
theorem MsS.done {es : List (I2 × A8)} {f : F7} {a : I2} {todo ms ks : List I2} {i : Nat} (h : MsS es f a todo ms ks i) (hi : todo.length ≤ i) {l : List I2} (hl : MissIs es f a l) : ms.length = l.length := by
  have ht : todo.take i = todo := List.take_of_length_le hi
  have hr : ∀ y, RI es f a y → y ∈ todo := fun y r => by
    induction r with
    | refl => exact h.head
    | step _ hy ih => exact h.cl _ (by rw [ht]; exact ih) _ hy
  have hln : l.Nodup := hl.1.imp fun q e => by rw [e] at q; exact lt_irr q
  refine Nat.le_antisymm (nodup_le h.msd fun x hx => ?_) (nodup_le hln fun x hx => ?_)
  · have := (h.msm x).1 hx
    rw [ht] at this
    exact (hl.2 x).2 ⟨h.reach x this.1, this.2⟩
  · have := (hl.2 x).1 hx
    exact (h.msm x).2 ⟨by rw [ht]; exact hr x this.1, this.2⟩
/-- what is ready lacks nothing; what isn't, and isn't behind the front, lacks something -/
theorem ready_lack {es : List (I2 × A8)} {f : F7} {a : I2} {r : Option (List I2)} {l : List I2} (hn : NeedsIs es f a r) (hl : MissIs es f a l) : r.isSome = (decide (l.length = 0) && !behind f a) := by
  cases r with
  | none =>
    rcases hn with q | ⟨x, hx, hg⟩
    · rw [q]; simp
    · have hm := (hl.2 x).2 ⟨hx, hg⟩
      have : l.length ≠ 0 := fun e => by rw [List.eq_nil_of_length_eq_zero e] at hm; cases hm
      simp [this]
  | some m =>
    obtain ⟨h1, _, h3, h4⟩ := hn
    have : l = [] := List.eq_nil_iff_forall_not_mem.2 fun x hx => by
      have := (hl.2 x).1 hx
      have h5 := h4 x ((h3 x).2 this.1)
      rw [this.2] at h5
      cases h5
    rw [this, h1]
    rfl
end Go.Proofs.Ytgicohkmfbbbdaa.Gr
end
