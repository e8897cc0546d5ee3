/- GraD, GraC, joined. -/
import Derived.Test.YtgicohkmfbbbdaaK9
import Derived.Test.YtgicohkmfbbbdaaK5
import Derived.WalkSpells
section
namespace Go.Proofs.Ytgicohkmfbbbdaa.Gr
open Go.RowKit
open Go.Maps (Keyed)
open Attr (A8 rightI)
set_option linter.unusedSimpArgs false
set_option linter.unusedVariables false

theorem shut_i {L0 K F : List Part} {w0 w : World} {g cap : Nat} {c : List Value} {l : List I2} (hA : At L0 w0 K w) (s : Sel (Part.cells g c 38) K F) (hcl : c.length = cap * 2) (hcap : l.length ≤ cap) (hcm : cap ≤ maxLen) (hct : c.take (l.length * 2) = flatI l) :
    At L0 w0 (rowI2 (.slice (some ⟨g, 0, none⟩) l.length cap) l :: F) w := hA.row_shut s hcl hcap hcm hct
def knownF (es : List (I2 × A8)) (x : I2) : Bool := (getA es x).isSome
def lackF (es : List (I2 × A8)) (x : I2) : Bool := !(getA es x).isSome
theorem has_c {w : World} {p m : Nat} {es : List (I2 × A8)} (h : Sep [GrP p m es] w) {x : I2} (hx : okD x) {c : Bool} (hc : knownF es x = c) :
    Calls Try.prog 16 #[.pointer (some ⟨p, 0, none⟩), .agg #[.int .i64 x.1, .int .i64 x.2]] w fun e w' => e = .returned (.bool c) ∧ At [GrP p m es] w [GrP p m es] w' := by
  subst hc; exact has_any h x hx
abbrev cloL (b3 p m : Nat) (es : List (I2 × A8)) : List Part := [.cells b3 [.pointer (some ⟨p, 0, none⟩)] 27, GrP p m es]
def cloP (b3 p m : Nat) (es : List (I2 × A8)) : Part := .all (cloL b3 p m es)
theorem clo_eqv (b3 p m : Nat) (es : List (I2 × A8)) (F : List Part) : Eqv (cloP b3 p m es :: F) (cloL b3 p m es ++ F) := Eqv.all _ F
set_option maxRecDepth 100000 in
theorem lack_c {w : World} {b3 p m : Nat} {es : List (I2 × A8)} (h : Sep [cloP b3 p m es] w) {x : I2} (hx : okD x) {c : Bool} (hc : lackF es x = c) :
    Calls Try.prog 58 #[.agg #[.int .i64 x.1, .int .i64 x.2], .pointer (some ⟨b3, 0, none⟩)] w fun e w' => e = .returned (.bool c) ∧ At [cloP b3 p m es] w [cloP b3 p m es] w' := by
  have hA : At [cloP b3 p m es] w (cloL b3 p m es) w := (At.start h).to (clo_eqv b3 p m es [])
  have hha := fun (w1 : World) (q : Sep [GrP p m es] w1) => has_any q x hx
  unfold lackF at hc
  have hF := hA.facts
  generalize (getA es x).isSome = z at *
  subst hc
  clear h hx
  obtain ⟨r, t⟩ := x
  simp only [idV] at *
  (try simp only [uA] at hA); have hF := hA.facts; (try simp only [fZ] at hF)
  go_enter Try.func58, Try.ntmps58
  go_wp2_with (first | ((with_reducible refine gbx ?_); refine wX 38 (.agg #[.int .i64 r, .int .i64 t]) [.int .i64 r, .int .i64 t] hA ?_; clear hF hA; intro bX w1 hA hbX; (try simp only [uA] at hA); have hF := hA.facts; (try simp only [fZ] at hF)) | ((with_reducible refine gst ?_); refine wS hA ?_; clear hF hA; intro w1 hA; (try simp only [uA] at hA); have hF := hA.facts; (try simp only [fZ] at hF)) | ((with_reducible refine gbx ?_); refine wB hA ?_; clear hF hA; intro b1 w1 hA hb1; (try simp only [uA] at hA); have hF := hA.facts; (try simp only [fZ] at hF)))
  refine (hha _ (hA.sep1 (A := GrP p m es) sR)).mono ?_
  clear hha
  rintro e w1 ⟨rfl, hT⟩; have hB := hA.call1 sR hT; clear hF hA hT; have hA := hB; clear hB; (try simp only [uA] at hA); have hF := hA.facts; (try simp only [fZ] at hF)
  go_wp2_with (first | ((with_reducible refine gst ?_); refine wS hA ?_; clear hF hA; intro w1 hA; (try simp only [uA] at hA); have hF := hA.facts; (try simp only [fZ] at hF)) | ((with_reducible refine gbx ?_); refine wB hA ?_; clear hF hA; intro b1 w1 hA hb1; (try simp only [uA] at hA); have hF := hA.facts; (try simp only [fZ] at hF)))
  go_ret
  exact ⟨rfl, (hA.only2 sZ sR).to (clo_eqv b3 p m es []).symm⟩
def IdxFRel (w : World) (v : Value) (l : List I2) (E : Part) (f : I2 → Bool) (k : Nat) (u : Value) (wr : World) : Prop :=
  ∃ i : Nat, u = .int .i64 i ∧ i + k = l.length ∧ At [rowI2 v l, E] w [rowI2 v l, E] wr ∧ ∀ x ∈ l.take i, f x = false
def IdxFPost (w : World) (v : Value) (l : List I2) (E : Part) (f : I2 → Bool) (e : Ending) (w' : World) : Prop :=
  ((∃ i : Nat, e = .returned (.int .i64 i) ∧ i < l.length ∧ (∀ h : i < l.length, f l[i] = true) ∧ ∀ x ∈ l.take i, f x = false) ∨ (e = .returned (.int .i64 (-1)) ∧ ∀ x ∈ l, f x = false)) ∧ At [rowI2 v l, E] w [rowI2 v l, E] w'
def keepF (f : I2 → Bool) (l : List I2) : List I2 := l.filter (fun x => !f x)
abbrev rowN (v : Value) (n : Nat) (lc : List I2) : Part := .row 38 2 v n (flatI lc)
theorem keepF_snoc (f : I2 → Bool) (l : List I2) (x : I2) : keepF f (l ++ [x]) = keepF f l ++ (if f x then [] else [x]) := by
  unfold keepF
  rw [List.filter_append]
  cases h : f x <;> simp [h]
theorem flatI_take (l : List I2) (k : Nat) : (flatI l).take (k * 2) = flatI (l.take k) := by
  induction l generalizing k with
  | nil => simp [flatI]
  | cons x l ih =>
    cases k with
    | zero => simp [flatI]
    | succ k =>
      have := ih k
      unfold flatI at *
      rw [List.take_succ_cons, List.flatMap_cons, List.flatMap_cons, ← this, List.take_append]
      have e : (idL x).length = 2 := rfl
      rw [List.take_of_length_le (by omega), e, show (k + 1) * 2 - 2 = k * 2 by omega]
structure Moved (f : I2 → Bool) (l lc : List I2) (i j : Nat) : Prop where
  lt : i < j
  len : lc.length = l.length
  head : lc.take i = keepF f (l.take j)
  tail : lc.drop j = l.drop j
theorem Moved.at {f : I2 → Bool} {l lc : List I2} {i j : Nat} (h : Moved f l lc i j) (hj : j < l.length) : lc[j]? = some l[j] := by
  have := congrArg (fun m => m[0]?) h.tail
  simp only [List.getElem?_drop, Nat.add_zero] at this
  rw [this, List.getElem?_eq_getElem hj]
theorem Moved.tail1 {f : I2 → Bool} {l lc : List I2} {i j : Nat} (h : Moved f l lc i j) : lc.drop (j + 1) = l.drop (j + 1) := by
  have := congrArg (fun m => m.drop 1) h.tail
  simpa [List.drop_drop, Nat.add_comm] using this
theorem Moved.gone {f : I2 → Bool} {l lc : List I2} {i j : Nat} (h : Moved f l lc i j) (hj : j < l.length) (hf : f l[j] = true) : Moved f l lc i (j + 1) :=
  ⟨by have := h.lt; omega, h.len, by rw [h.head, List.take_succ_eq_append_getElem hj, keepF_snoc, hf]; exact (List.append_nil _).symm, h.tail1⟩
theorem Moved.kept {f : I2 → Bool} {l lc : List I2} {i j : Nat} (h : Moved f l lc i j) (hj : j < l.length) (hf : f l[j] = false) : Moved f l (lc.set i l[j]) (i + 1) (j + 1) := by
  have hlt := h.lt
  have hil : i < lc.length := by rw [h.len]; omega
  refine ⟨by omega, by rw [List.length_set, h.len], ?_, ?_⟩
  · rw [List.take_succ_eq_append_getElem hj, List.take_succ_eq_append_getElem (by rw [List.length_set]; exact hil), List.take_set_of_le (Nat.le_refl _), h.head, keepF_snoc, hf, List.getElem_set_self]
    rfl
  · rw [List.drop_set_of_lt (by omega), h.tail1]
theorem Moved.first {f : I2 → Bool} {l : List I2} {i : Nat} (hi : i < l.length) (hf : f l[i] = true) (hn : ∀ x ∈ l.take i, f x = false) : Moved f l l i (i + 1) := by
  refine ⟨by omega, rfl, ?_, rfl⟩
  rw [List.take_succ_eq_append_getElem hi, keepF_snoc, hf]
  unfold keepF
  rw [List.filter_eq_self.2 (fun x hx => by rw [hn x hx]; rfl)]
  exact (List.append_nil _).symm

def DelFRel (w : World) (v : Value) (l : List I2) (E : Part) (f : I2 → Bool) (k : Nat) (u5 u6 : Value) (wr : World) : Prop :=
  ∃ (i j : Nat) (lc : List I2), u5 = .int .i64 i ∧ u6 = .int .i64 j ∧ j + k = l.length ∧ Moved f l lc i j ∧ At [rowI2 v l, E] w [rowN v l.length lc, E] wr
def DelFPost (w : World) (v : Value) (l : List I2) (E : Part) (f : I2 → Bool) (e : Ending) (w' : World) : Prop :=
  ∃ v', e = .returned v' ∧ At [rowI2 v l, E] w [rowI2 v' (keepF f l), E] w'
set_option maxRecDepth 100000 in
theorem idxf_has {w : World} {v : Value} {l : List I2} {p m : Nat} {es : List (I2 × A8)} (h : Sep [rowI2 v l, GrP p m es] w) (hm : ∀ x ∈ l, okD x) (hmax : l.length ≤ 1000000) :
    Calls Try.prog 64 #[v, .func (.func 16) #[.pointer (some ⟨p, 0, none⟩)] #[]] w (IdxFPost w v l (GrP p m es) (knownF es)) := by
  have hA := At.start h
  have hF := hA.facts
  clear h
  obtain ⟨ax, cap, rfl, hax, hcap, _⟩ := hA.row_form (v := v) (xs := flatI l) sR
  have hm' := Lib.hid hm
  clear hm
  go_enter Try.func64, Try.ntmps64
  go_wp2_with fail
  try go_frame
  go_loopg [8] l.length (IdxFRel w (.slice ax l.length cap) l (GrP p m es) (knownF es))
  case atStart => exact ⟨0, rfl, by simp, hA, by simp⟩
  case round =>
    obtain ⟨i, rfl, hik, hB, hno⟩ := hrel
    have hno' := Lib.hid hno
    clear hF hA hno; have hA := hB; clear hB
    by_cases hi : i < l.length
    · obtain ⟨g, c, rfl, _, hcm, hcl, hct, hB⟩ := hA.row_open (ax := ax) (cap := cap) (n := l.length) (xs := flatI l) sR (by omega)
      have hx : l[i]? = some l[i] := List.getElem?_eq_getElem hi
      have c0 : c[i * 2]? = some (.int .i64 l[i].1) := cells_at idL_len hct hx 0 (by omega)
      have c1 : c[i * 2 + 1]? = some (.int .i64 l[i].2) := cells_at idL_len hct hx 1 (by omega)
      clear hA; have hA := hB; clear hB
      (try simp only [uA] at hA); have hF := hA.facts; (try simp only [fZ] at hF)
      cases hy : knownF es l[i]
      · go_wp2_with fail
        refine (has_c (hA.sep1 (A := GrP p m es) sR) (hm'.out _ (List.getElem_mem hi)) hy).mono ?_
        rintro e w2 ⟨rfl, hT⟩
        have hB := hA.call1 sR hT
        clear hF hA hT; have hA := hB; clear hB
        (try simp only [uA] at hA); have hF := hA.facts; (try simp only [fZ] at hF)
        go_wp2_with fail
        go_roundg (gk - 1)
        case measure => omega
        case rel => exact ⟨i + 1, by simp, by omega, (shut_i hA sR hcl hcap hcm hct).only2 sR sR, fun x hx => by
          rw [List.take_succ_eq_append_getElem hi] at hx
          rcases List.mem_append.1 hx with hx | hx
          · exact hno'.out x hx
          · rw [List.mem_singleton.1 hx]; exact hy⟩
      · go_wp2_with fail
        refine (has_c (hA.sep1 (A := GrP p m es) sR) (hm'.out _ (List.getElem_mem hi)) hy).mono ?_
        rintro e w2 ⟨rfl, hT⟩
        have hB := hA.call1 sR hT
        clear hF hA hT; have hA := hB; clear hB
        (try simp only [uA] at hA); have hF := hA.facts; (try simp only [fZ] at hF)
        go_wp2_with fail
        refine bodyPost_ret (results_tmp rfl _ _ _) rfl ?_
        exact ⟨.inl ⟨i, rfl, hi, fun _ => hy, hno'.out⟩, (shut_i hA sR hcl hcap hcm hct).only2 sR sR⟩
    · go_wp2_with fail
      go_ret
      exact ⟨.inr ⟨rfl, fun x hx => hno'.out x (by rw [List.take_of_length_le (by omega)]; exact hx)⟩, hA.only2 sR sR⟩
set_option maxRecDepth 100000 in
set_option maxHeartbeats 1000000 in
theorem delf_has {w : World} {v : Value} {l : List I2} {p m : Nat} {es : List (I2 × A8)} (h : Sep [rowI2 v l, GrP p m es] w) (hm : ∀ x ∈ l, okD x) (hmax : l.length ≤ 1000000) :
    Calls Try.prog 52 #[v, .func (.func 16) #[.pointer (some ⟨p, 0, none⟩)] #[]] w (DelFPost w v l (GrP p m es) (knownF es)) := by
  have hA := At.start h
  have hF := hA.facts
  clear h
  have hm' := Lib.hid hm
  clear hm
  go_enter Try.func52, Try.ntmps52
  go_wp2_with fail
  refine (idxf_has hA.sep hm'.out hmax).mono ?_
  rintro e w2 ⟨hr, hT⟩
  have hB := hA.call2 sR sR hT
  clear hF hA hT; have hA := hB; clear hB
  (try simp only [uA] at hA); have hF := hA.facts; (try simp only [fZ] at hF)
  rcases hr with ⟨i0, rfl, hi0, hf0, hno⟩ | ⟨rfl, hno⟩
  · obtain ⟨ax, cap, rfl, hax, hcap, _⟩ := hA.row_form (v := v) (xs := flatI l) sR
    have hM0 := Lib.hid (Moved.first hi0 (hf0 hi0) hno)
    clear hf0 hno
    have hne : ((i0 : Int) == -1) = false := by simp
    go_wp2_with fail
    try go_frame
    go_loopg [5, 6] (l.length - (i0 + 1)) (DelFRel w (.slice ax l.length cap) l (GrP p m es) (knownF es))
    case atStart => exact ⟨i0, i0 + 1, l, rfl, by simp, by omega, hM0.out, hA.only2 sR sR⟩
    case round =>
      obtain ⟨i, j, lc, rfl, rfl, hjk, hMv, hB⟩ := hrel
      have hMv' := Lib.hid hMv
      have hij := hMv.lt
      have hlen := hMv.len
      clear hF hA hMv; have hA := hB; clear hB
      obtain ⟨g, c, rfl, _, hcm, hcl, hct, hB⟩ := hA.row_open (ax := ax) (cap := cap) (n := l.length) (xs := flatI lc) sR (by omega)
      have hct' : c.take (lc.length * 2) = lc.flatMap idL := by rw [hlen]; exact hct
      clear hA; have hA := hB; clear hB
      by_cases hj : j < l.length
      · have hx : lc[j]? = some l[j] := hMv'.out.at hj
        have c0 : c[j * 2]? = some (.int .i64 l[j].1) := cells_at idL_len hct' hx 0 (by omega)
        have c1 : c[j * 2 + 1]? = some (.int .i64 l[j].2) := cells_at idL_len hct' hx 1 (by omega)
        (try simp only [uA] at hA); have hF := hA.facts; (try simp only [fZ] at hF)
        cases hy : knownF es l[j]
        · have hMn := Lib.hid (hMv'.out.kept hj hy)
          have hwr := Lib.hid (write_row idL_len hct' (i := i) (by omega) l[j])
          go_wp2_with (first | ((with_reducible refine gst ?_); refine wS hA ?_; clear hF hA; intro w1 hA; (try simp only [uA] at hA); have hF := hA.facts; (try simp only [fZ] at hF)) | ((with_reducible refine gbx ?_); refine wB hA ?_; clear hF hA; intro b1 w1 hA hb1; (try simp only [uA] at hA); have hF := hA.facts; (try simp only [fZ] at hF)) | ((with_reducible refine gal ?_); refine wA 38 (.agg #[.int .i64 0, .int .i64 0]) [.int .i64 0, .int .i64 0] hA ?_; clear hF hA; intro b1 w1 hA hb1; (try simp only [uA] at hA); have hF := hA.facts; (try simp only [fZ] at hF)))
          refine (has_c (hA.sep1 (A := GrP p m es) sR) (hm'.out _ (List.getElem_mem hj)) hy).mono ?_
          rintro e w2 ⟨rfl, hT⟩
          have hB := hA.call1 sR hT
          clear hF hA hT; have hA := hB; clear hB
          (try simp only [uA] at hA); have hF := hA.facts; (try simp only [fZ] at hF)
          go_wp2_with (first | (refine wpList_store_at (b := g) (j := i * 2) (c := c) (vs := idL l[j]) rfl rfl rfl (by (try simp only [Act.eval, eV]) <;> exact rfl) (by exact rfl) hA sR (by kernel_rfl) rfl (by show i * 2 + 2 ≤ c.length; omega) ?_; intro w1 hB; clear hF hA; have hA := hB; clear hB))
          go_roundg (gk - 1)
          case measure => omega
          case rel =>
            have hS := hA.row_shut (n := l.length) (cap := cap) (xs := flatI (lc.set i l[j])) sR (by rw [setL_length]; exact hcl) (by omega) hcm (by have := hwr.out; rw [List.length_set, hlen] at this; exact this)
            exact ⟨i + 1, j + 1, _, by simp, by simp, by omega, hMn.out, hS.only2 sR sR⟩
        · have hMn := Lib.hid (hMv'.out.gone hj hy)
          go_wp2_with (first | ((with_reducible refine gst ?_); refine wS hA ?_; clear hF hA; intro w1 hA; (try simp only [uA] at hA); have hF := hA.facts; (try simp only [fZ] at hF)) | ((with_reducible refine gbx ?_); refine wB hA ?_; clear hF hA; intro b1 w1 hA hb1; (try simp only [uA] at hA); have hF := hA.facts; (try simp only [fZ] at hF)) | ((with_reducible refine gal ?_); refine wA 38 (.agg #[.int .i64 0, .int .i64 0]) [.int .i64 0, .int .i64 0] hA ?_; clear hF hA; intro b1 w1 hA hb1; (try simp only [uA] at hA); have hF := hA.facts; (try simp only [fZ] at hF)))
          refine (has_c (hA.sep1 (A := GrP p m es) sR) (hm'.out _ (List.getElem_mem hj)) hy).mono ?_
          rintro e w2 ⟨rfl, hT⟩
          have hB := hA.call1 sR hT
          clear hF hA hT; have hA := hB; clear hB
          (try simp only [uA] at hA); have hF := hA.facts; (try simp only [fZ] at hF)
          go_wp2_with fail
          go_roundg (gk - 1)
          case measure => omega
          case rel =>
            have hS := hA.row_shut (n := l.length) (cap := cap) (xs := flatI lc) sR hcl (by omega) hcm hct
            exact ⟨i, j + 1, lc, rfl, by simp, by omega, hMn.out, hS.only2 sR sR⟩
      · have hci : ¬ cap = i := by omega
        have hil : i ≤ l.length := by omega
        have hkl : (keepF (knownF es) l).length = i := by
          have := congrArg List.length hMv'.out.head
          rw [List.take_of_length_le (l := l) (by omega), List.length_take] at this
          omega
        have hfl : flatI (keepF (knownF es) l) = (flatI lc).take (i * 2) := by
          have := hMv'.out.head
          rw [List.take_of_length_le (l := l) (by omega)] at this
          rw [flatI_take, this]
        have hkl' := Lib.hid hkl
        have hfl' := Lib.hid hfl
        clear hkl hfl
        (try simp only [uA] at hA); have hF := hA.facts; (try simp only [fZ] at hF)
        go_wp2_with (first | (refine wpList_clear_at (e := 38) (z := .agg #[.int .i64 0, .int .i64 0]) (b := g) (off := i * 2) (m := l.length - i) (cp := cap - i) (c := c) (T := 38) rfl rfl Try.underlying31 (fun _ => by kernel_rfl) (idL_one (0, 0)) (by decide) (by (try simp only [Act.eval, eV]) <;> exact rfl) (by omega) hA sR (by show i * 2 + (l.length - i) * 2 ≤ c.length; omega) ?_; intro c' w1 hcl' hct2 hB; clear hF hA; have hA := hB; clear hB; (try simp only [uA] at hA); have hF := hA.facts; (try simp only [fZ] at hF)))
        go_ret
        have hS := hA.row_shut (n := i) (cap := cap) (xs := flatI (keepF (knownF es) l)) sR (hcl'.trans hcl) (by omega) hcm (by
          rw [hfl'.out, hct2, ← hct, List.take_take, Nat.min_eq_left (by omega)])
        refine ⟨.slice (some ⟨g, 0, none⟩) i cap, rfl, ?_⟩
        show At _ _ [Part.row 38 2 (.slice (some ⟨g, 0, none⟩) i cap) (keepF (knownF es) l).length (flatI (keepF (knownF es) l)), GrP p m es] _
        rw [hkl'.out]
        exact hS.only2 sR sR
  · have hk : keepF (knownF es) l = l := List.filter_eq_self.2 (fun x hx => by rw [hno x hx]; rfl)
    clear hno
    go_wp2_with fail
    refine bodyPost_ret (results_tmp rfl _ _ _) rfl ?_
    exact ⟨v, rfl, by rw [hk]; exact hA.only2 sR sR⟩

set_option maxRecDepth 100000 in
theorem idxf_clo {w : World} {v : Value} {l : List I2} {b3 p m : Nat} {es : List (I2 × A8)} (h : Sep [rowI2 v l, cloP b3 p m es] w) (hm : ∀ x ∈ l, okD x) (hmax : l.length ≤ 1000000) :
    Calls Try.prog 64 #[v, .func (.func 58) #[] #[.pointer (some ⟨b3, 0, none⟩)]] w (IdxFPost w v l (cloP b3 p m es) (lackF es)) := by
  have hA := At.start h
  have hF := hA.facts
  clear h
  obtain ⟨ax, cap, rfl, hax, hcap, _⟩ := hA.row_form (v := v) (xs := flatI l) sR
  have hm' := Lib.hid hm
  clear hm
  go_enter Try.func64, Try.ntmps64
  go_wp2_with fail
  try go_frame
  go_loopg [8] l.length (IdxFRel w (.slice ax l.length cap) l (cloP b3 p m es) (lackF es))
  case atStart => exact ⟨0, rfl, by simp, hA, by simp⟩
  case round =>
    obtain ⟨i, rfl, hik, hB, hno⟩ := hrel
    have hno' := Lib.hid hno
    clear hF hA hno; have hA := hB; clear hB
    by_cases hi : i < l.length
    · obtain ⟨g, c, rfl, _, hcm, hcl, hct, hB⟩ := hA.row_open (ax := ax) (cap := cap) (n := l.length) (xs := flatI l) sR (by omega)
      have hx : l[i]? = some l[i] := List.getElem?_eq_getElem hi
      have c0 : c[i * 2]? = some (.int .i64 l[i].1) := cells_at idL_len hct hx 0 (by omega)
      have c1 : c[i * 2 + 1]? = some (.int .i64 l[i].2) := cells_at idL_len hct hx 1 (by omega)
      clear hA; have hA := hB; clear hB
      (try simp only [uA] at hA); have hF := hA.facts; (try simp only [fZ] at hF)
      cases hy : lackF es l[i]
      · go_wp2_with fail
        refine (lack_c (hA.sep1 (A := cloP b3 p m es) sR) (hm'.out _ (List.getElem_mem hi)) hy).mono ?_
        rintro e w2 ⟨rfl, hT⟩
        have hB := hA.call1 sR hT
        clear hF hA hT; have hA := hB; clear hB
        (try simp only [uA] at hA); have hF := hA.facts; (try simp only [fZ] at hF)
        go_wp2_with fail
        go_roundg (gk - 1)
        case measure => omega
        case rel => exact ⟨i + 1, by simp, by omega, (shut_i hA sR hcl hcap hcm hct).only2 sR sR, fun x hx => by
          rw [List.take_succ_eq_append_getElem hi] at hx
          rcases List.mem_append.1 hx with hx | hx
          · exact hno'.out x hx
          · rw [List.mem_singleton.1 hx]; exact hy⟩
      · go_wp2_with fail
        refine (lack_c (hA.sep1 (A := cloP b3 p m es) sR) (hm'.out _ (List.getElem_mem hi)) hy).mono ?_
        rintro e w2 ⟨rfl, hT⟩
        have hB := hA.call1 sR hT
        clear hF hA hT; have hA := hB; clear hB
        (try simp only [uA] at hA); have hF := hA.facts; (try simp only [fZ] at hF)
        go_wp2_with fail
        refine bodyPost_ret (results_tmp rfl _ _ _) rfl ?_
        exact ⟨.inl ⟨i, rfl, hi, fun _ => hy, hno'.out⟩, (shut_i hA sR hcl hcap hcm hct).only2 sR sR⟩
    · go_wp2_with fail
      go_ret
      exact ⟨.inr ⟨rfl, fun x hx => hno'.out x (by rw [List.take_of_length_le (by omega)]; exact hx)⟩, hA.only2 sR sR⟩
set_option maxRecDepth 100000 in
set_option maxHeartbeats 1000000 in
theorem delf_clo {w : World} {v : Value} {l : List I2} {b3 p m : Nat} {es : List (I2 × A8)} (h : Sep [rowI2 v l, cloP b3 p m es] w) (hm : ∀ x ∈ l, okD x) (hmax : l.length ≤ 1000000) :
    Calls Try.prog 52 #[v, .func (.func 58) #[] #[.pointer (some ⟨b3, 0, none⟩)]] w (DelFPost w v l (cloP b3 p m es) (lackF es)) := by
  have hA := At.start h
  have hF := hA.facts
  clear h
  have hm' := Lib.hid hm
  clear hm
  go_enter Try.func52, Try.ntmps52
  go_wp2_with fail
  refine (idxf_clo hA.sep hm'.out hmax).mono ?_
  rintro e w2 ⟨hr, hT⟩
  have hB := hA.call2 sR sR hT
  clear hF hA hT; have hA := hB; clear hB
  (try simp only [uA] at hA); have hF := hA.facts; (try simp only [fZ] at hF)
  rcases hr with ⟨i0, rfl, hi0, hf0, hno⟩ | ⟨rfl, hno⟩
  · obtain ⟨ax, cap, rfl, hax, hcap, _⟩ := hA.row_form (v := v) (xs := flatI l) sR
    have hM0 := Lib.hid (Moved.first hi0 (hf0 hi0) hno)
    clear hf0 hno
    have hne : ((i0 : Int) == -1) = false := by simp
    go_wp2_with fail
    try go_frame
    go_loopg [5, 6] (l.length - (i0 + 1)) (DelFRel w (.slice ax l.length cap) l (cloP b3 p m es) (lackF es))
    case atStart => exact ⟨i0, i0 + 1, l, rfl, by simp, by omega, hM0.out, hA.only2 sR sR⟩
    case round =>
      obtain ⟨i, j, lc, rfl, rfl, hjk, hMv, hB⟩ := hrel
      have hMv' := Lib.hid hMv
      have hij := hMv.lt
      have hlen := hMv.len
      clear hF hA hMv; have hA := hB; clear hB
      obtain ⟨g, c, rfl, _, hcm, hcl, hct, hB⟩ := hA.row_open (ax := ax) (cap := cap) (n := l.length) (xs := flatI lc) sR (by omega)
      have hct' : c.take (lc.length * 2) = lc.flatMap idL := by rw [hlen]; exact hct
      clear hA; have hA := hB; clear hB
      by_cases hj : j < l.length
      · have hx : lc[j]? = some l[j] := hMv'.out.at hj
        have c0 : c[j * 2]? = some (.int .i64 l[j].1) := cells_at idL_len hct' hx 0 (by omega)
        have c1 : c[j * 2 + 1]? = some (.int .i64 l[j].2) := cells_at idL_len hct' hx 1 (by omega)
        (try simp only [uA] at hA); have hF := hA.facts; (try simp only [fZ] at hF)
        cases hy : lackF es l[j]
        · have hMn := Lib.hid (hMv'.out.kept hj hy)
          have hwr := Lib.hid (write_row idL_len hct' (i := i) (by omega) l[j])
          go_wp2_with (first | ((with_reducible refine gst ?_); refine wS hA ?_; clear hF hA; intro w1 hA; (try simp only [uA] at hA); have hF := hA.facts; (try simp only [fZ] at hF)) | ((with_reducible refine gbx ?_); refine wB hA ?_; clear hF hA; intro b1 w1 hA hb1; (try simp only [uA] at hA); have hF := hA.facts; (try simp only [fZ] at hF)) | ((with_reducible refine gal ?_); refine wA 38 (.agg #[.int .i64 0, .int .i64 0]) [.int .i64 0, .int .i64 0] hA ?_; clear hF hA; intro b1 w1 hA hb1; (try simp only [uA] at hA); have hF := hA.facts; (try simp only [fZ] at hF)))
          refine (lack_c (hA.sep1 (A := cloP b3 p m es) sR) (hm'.out _ (List.getElem_mem hj)) hy).mono ?_
          rintro e w2 ⟨rfl, hT⟩
          have hB := hA.call1 sR hT
          clear hF hA hT; have hA := hB; clear hB
          (try simp only [uA] at hA); have hF := hA.facts; (try simp only [fZ] at hF)
          go_wp2_with (first | (refine wpList_store_at (b := g) (j := i * 2) (c := c) (vs := idL l[j]) rfl rfl rfl (by (try simp only [Act.eval, eV]) <;> exact rfl) (by exact rfl) hA sR (by kernel_rfl) rfl (by show i * 2 + 2 ≤ c.length; omega) ?_; intro w1 hB; clear hF hA; have hA := hB; clear hB))
          go_roundg (gk - 1)
          case measure => omega
          case rel =>
            have hS := hA.row_shut (n := l.length) (cap := cap) (xs := flatI (lc.set i l[j])) sR (by rw [setL_length]; exact hcl) (by omega) hcm (by have := hwr.out; rw [List.length_set, hlen] at this; exact this)
            exact ⟨i + 1, j + 1, _, by simp, by simp, by omega, hMn.out, hS.only2 sR sR⟩
        · have hMn := Lib.hid (hMv'.out.gone hj hy)
          go_wp2_with (first | ((with_reducible refine gst ?_); refine wS hA ?_; clear hF hA; intro w1 hA; (try simp only [uA] at hA); have hF := hA.facts; (try simp only [fZ] at hF)) | ((with_reducible refine gbx ?_); refine wB hA ?_; clear hF hA; intro b1 w1 hA hb1; (try simp only [uA] at hA); have hF := hA.facts; (try simp only [fZ] at hF)) | ((with_reducible refine gal ?_); refine wA 38 (.agg #[.int .i64 0, .int .i64 0]) [.int .i64 0, .int .i64 0] hA ?_; clear hF hA; intro b1 w1 hA hb1; (try simp only [uA] at hA); have hF := hA.facts; (try simp only [fZ] at hF)))
          refine (lack_c (hA.sep1 (A := cloP b3 p m es) sR) (hm'.out _ (List.getElem_mem hj)) hy).mono ?_
          rintro e w2 ⟨rfl, hT⟩
          have hB := hA.call1 sR hT
          clear hF hA hT; have hA := hB; clear hB
          (try simp only [uA] at hA); have hF := hA.facts; (try simp only [fZ] at hF)
          go_wp2_with fail
          go_roundg (gk - 1)
          case measure => omega
          case rel =>
            have hS := hA.row_shut (n := l.length) (cap := cap) (xs := flatI lc) sR hcl (by omega) hcm hct
            exact ⟨i, j + 1, lc, rfl, by simp, by omega, hMn.out, hS.only2 sR sR⟩
      · have hci : ¬ cap = i := by omega
        have hil : i ≤ l.length := by omega
        have hkl : (keepF (lackF es) l).length = i := by
          have := congrArg List.length hMv'.out.head
          rw [List.take_of_length_le (l := l) (by omega), List.length_take] at this
          omega
        have hfl : flatI (keepF (lackF es) l) = (flatI lc).take (i * 2) := by
          have := hMv'.out.head
          rw [List.take_of_length_le (l := l) (by omega)] at this
          rw [flatI_take, this]
        have hkl' := Lib.hid hkl
        have hfl' := Lib.hid hfl
        clear hkl hfl
        (try simp only [uA] at hA); have hF := hA.facts; (try simp only [fZ] at hF)
        go_wp2_with (first | (refine wpList_clear_at (e := 38) (z := .agg #[.int .i64 0, .int .i64 0]) (b := g) (off := i * 2) (m := l.length - i) (cp := cap - i) (c := c) (T := 38) rfl rfl Try.underlying31 (fun _ => by kernel_rfl) (idL_one (0, 0)) (by decide) (by (try simp only [Act.eval, eV]) <;> exact rfl) (by omega) hA sR (by show i * 2 + (l.length - i) * 2 ≤ c.length; omega) ?_; intro c' w1 hcl' hct2 hB; clear hF hA; have hA := hB; clear hB; (try simp only [uA] at hA); have hF := hA.facts; (try simp only [fZ] at hF)))
        go_ret
        have hS := hA.row_shut (n := i) (cap := cap) (xs := flatI (keepF (lackF es) l)) sR (hcl'.trans hcl) (by omega) hcm (by
          rw [hfl'.out, hct2, ← hct, List.take_take, Nat.min_eq_left (by omega)])
        refine ⟨.slice (some ⟨g, 0, none⟩) i cap, rfl, ?_⟩
        show At _ _ [Part.row 38 2 (.slice (some ⟨g, 0, none⟩) i cap) (keepF (lackF es) l).length (flatI (keepF (lackF es) l)), cloP b3 p m es] _
        rw [hkl'.out]
        exact hS.only2 sR sR
  · have hk : keepF (lackF es) l = l := List.filter_eq_self.2 (fun x hx => by rw [hno x hx]; rfl)
    clear hno
    go_wp2_with fail
    refine bodyPost_ret (results_tmp rfl _ _ _) rfl ?_
    exact ⟨v, rfl, by rw [hk]; exact hA.only2 sR sR⟩

end Go.Proofs.Ytgicohkmfbbbdaa.Gr
end

section
namespace Go.Proofs.Ytgicohkmfbbbdaa.Gr
open _root_.Go.Proofs.Ytgicohkmfbbbdaa.Mark (ltID sortID)
open _root_.Go.Proofs.Ytgicohkmfbbbdaa.Attr (guardI eqlI_any neqI_any)
open Go.RowKit
set_option linter.unusedSimpArgs false
set_option linter.unusedVariables false

theorem nil_eql (a : Option Addr) (n c : Nat) (w : World) : (binOp .eql 31 (.slice a n c) (.slice none 0 0)).run Try.prog w = .ok (.bool a.isNone) w := Lib.run_eql_slice_nil w _ _ _ _ _ _ _ Try.underlying31
def ReadsIn (R : Part) (v : Value) (l : List I2) : Prop := ∀ w, R.holds w → Reads w v l.length (flatI l)
def RowPost (L0 : List Part) (l : List I2) (L : List Part) (w : World) (e : Ending) (w' : World) : Prop := ∃ v, e = .returned v ∧ At L0 w (rowI2 v l :: L) w'
set_option maxRecDepth 100000 in
theorem clone_any {w : World} {R : Part} {v : Value} {l : List I2} (h : Sep [R] w) (hr : ReadsIn R v l) (hl : l.length ≤ 1000000) :
    Calls Try.prog 57 #[v] w (RowPost [R] l [R] w) := by
  obtain ⟨i0, hi0, hz0, hz1, hz2⟩ := info_parts infoI
  have hA := At.start h
  have hF := hA.facts
  have hR := hr w (hA.get (A := R) .here)
  obtain ⟨ax, cp, rfl, hax, _⟩ := hR
  have hax' := Lib.hid hax
  have hr' := Lib.hid hr
  clear h hax hr
  (try simp only [uA] at hA); have hF := hA.facts; (try simp only [fZ] at hF)
  cases ax with
  | none =>
    have hl0 : l = [] := List.eq_nil_of_length_eq_zero (hax'.out rfl)
    subst hl0
    clear hax'
    have hnl := fun w => nil_eql none 0 cp w
    go_enter Try.func57, Try.ntmps57
    go_wp2_with (first | ((with_reducible refine gst ?_); refine wS hA ?_; clear hF hA; intro w1 hA; (try simp only [uA] at hA); have hF := hA.facts; (try simp only [fZ] at hF)) | ((with_reducible refine gbx ?_); refine wB hA ?_; clear hF hA; intro b1 w1 hA hb1; (try simp only [uA] at hA); have hF := hA.facts; (try simp only [fZ] at hF)))
    go_ret
    exact ⟨_, rfl, hA.row_nil 38 2⟩
  | some ad =>
    clear hax'
    have hnl := fun w => nil_eql (some ad) l.length cp w
    go_enter Try.func57, Try.ntmps57
    go_wp2_with (first | ((with_reducible show wpList _ _ _ ({ dst := _, op := Op.buildSlice _ _ _, type := _, pos := _, after := _, guard := _ } :: _) _ _); refine wpList_zero_at (e := 38) 2 rfl rfl (fun _ => by kernel_rfl) hA ?_; intro b5 w1 hB; clear hF hA; have hA := hB; clear hB; (try simp only [uA] at hA); have hF := hA.facts; (try simp only [fZ] at hF)) | ((with_reducible show wpList _ _ _ ({ dst := _, op := Op.call { callee := Callee.builtin Builtin.append, args := _, argTypes := _ }, type := _, pos := _, after := _, guard := _ } :: _) _ _); refine wpList_append_at (e := 38) (size := 2) (v := .slice (some ⟨b5, 0, none⟩) 0 0) (xs := []) (n := 0) (m := l.length) (news := flatI l) rfl _ _ 31 rfl Try.underlying31 hi0 hz0 hz1 hz2 rfl (by omega) hA sR (by (try simp only [Act.eval, eV]) <;> exact rfl) (by (try simp only [Act.eval, eV]) <;> exact rfl) (flatI_len _) (hr'.out _ (hA.get (A := R) sR)) (flatI_one _) (by unfold maxLen; omega) (by omega) ?_; intro v1 w1 hB; rw [Nat.zero_add, List.nil_append] at hB; clear hF hA; have hA := hB; clear hB; (try simp only [uA] at hA); have hF := hA.facts; (try simp only [fZ] at hF)) | ((with_reducible refine gst ?_); refine wS hA ?_; clear hF hA; intro w1 hA; (try simp only [uA] at hA); have hF := hA.facts; (try simp only [fZ] at hF)) | ((with_reducible refine gbx ?_); refine wB hA ?_; clear hF hA; intro b1 w1 hA hb1; (try simp only [uA] at hA); have hF := hA.facts; (try simp only [fZ] at hF)))
    go_ret
    exact ⟨_, rfl, hA.pick pZ⟩

/-! ### Neighbours that are alike -/
def ddA (p : I2) : List I2 → List I2
  | [] => []
  | y :: t => if y = p then ddA y t else y :: ddA y t
def dd : List I2 → List I2
  | [] => []
  | x :: t => x :: ddA x t
theorem ddA_snoc : ∀ (l : List I2) (p x : I2), ddA p (l ++ [x]) = ddA p l ++ (if x = (p :: l).getLast (by simp) then [] else [x])
  | [], p, x => by
    unfold ddA
    by_cases h : x = p
    · simp [h, ddA]
    · simp [h, ddA]
  | y :: l, p, x => by
    have ih := ddA_snoc l y x
    have e : (p :: y :: l).getLast (by simp) = (y :: l).getLast (by simp) := List.getLast_cons (by simp)
    rw [e]
    simp only [List.cons_append]
    unfold ddA
    split
    · exact ih
    · rw [ih]; rfl
theorem dd_snoc {l : List I2} (hl : l ≠ []) (x : I2) : dd (l ++ [x]) = dd l ++ (if x = l.getLast hl then [] else [x]) := by
  cases l with
  | nil => exact absurd rfl hl
  | cons y l =>
    show y :: ddA y (l ++ [x]) = _
    rw [ddA_snoc]
    rfl
theorem dd_take {l : List I2} {k : Nat} (hk : k + 1 < l.length) : dd (l.take (k + 2)) = dd (l.take (k + 1)) ++ (if l[k + 1] = l[k] then [] else [l[k + 1]]) := by
  have h1 : l.take (k + 2) = l.take (k + 1) ++ [l[k + 1]] := List.take_succ_eq_append_getElem hk
  have hne : l.take (k + 1) ≠ [] := by intro e; have := congrArg List.length e; simp at this; subst this; simp at hk
  have h2 : (l.take (k + 1)).getLast hne = l[k] := by
    rw [List.getLast_eq_getElem]
    simp only [List.getElem_take]
    congr 1
    rw [List.length_take]
    omega
  rw [h1, dd_snoc hne, h2]
theorem dd_len : ∀ l : List I2, (dd l).length ≤ l.length := by
  have H : ∀ (l : List I2) p, (ddA p l).length ≤ l.length := by
    intro l
    induction l with
    | nil => intro p; simp [ddA]
    | cons y l ih =>
      intro p
      unfold ddA
      split
      · have := ih y; simp; omega
      · have := ih y; simp; omega
  intro l
  cases l with
  | nil => simp [dd]
  | cons x t => have := H t x; simp [dd]; omega
theorem dd_mem {x : I2} : ∀ {l : List I2}, x ∈ dd l ↔ x ∈ l := by
  have H : ∀ (l : List I2) p, x ∈ p :: ddA p l ↔ x ∈ p :: l := by
    intro l
    induction l with
    | nil => intro p; simp [ddA]
    | cons y l ih =>
      intro p
      unfold ddA
      split
      · rename_i e
        subst e
        rw [ih y]
        simp
      · have := ih y
        simp only [List.mem_cons] at this ⊢
        rw [this]
  intro l
  cases l with
  | nil => simp [dd]
  | cons y t => exact H t y
theorem dd_strict {l : List I2} (h : l.Pairwise (fun a b => ¬ ltID b a)) : (dd l).Pairwise ltID := by
  have H : ∀ (l : List I2) p, (p :: l).Pairwise (fun a b => ¬ ltID b a) → (p :: ddA p l).Pairwise ltID := by
    intro l
    induction l with
    | nil => intro p _; simp [ddA]
    | cons y l ih =>
      intro p hp
      have h1 := List.pairwise_cons.1 hp
      unfold ddA
      split
      · rename_i e
        subst e
        exact ih y h1.2
      · rename_i hne
        have h2 := ih y h1.2
        have h3 := List.pairwise_cons.1 h2
        have hpy : ltID p y := by
          rcases lt_tri p y with q | q | q
          · exact q
          · exact absurd q.symm hne
          · exact absurd q (h1.1 y (by simp))
        refine List.pairwise_cons.2 ⟨fun z hz => ?_, h2⟩
        rcases List.mem_cons.1 hz with rfl | hz
        · exact hpy
        · exact lt_tr hpy (h3.1 z hz)
  cases l with
  | nil => exact .nil
  | cons x t => exact H t x h
theorem dd_same {l : List I2} (h : l.Pairwise ltID) : dd l = l := strict_eq (dd_strict (h.imp fun q r => lt_irr (lt_tr q r))) h fun x => dd_mem
end Go.Proofs.Ytgicohkmfbbbdaa.Gr
end
