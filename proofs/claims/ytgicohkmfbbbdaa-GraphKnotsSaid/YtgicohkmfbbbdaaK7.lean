/- GraM, Row4, joined. -/
import Derived.Test.YtgicohkmfbbbdaaK5
import Derived.Test.YtgicohkmfbbbdaaK1
import Derived.Test.YtgicohkmfbbbdaaK6
section
namespace Go.Proofs.Ytgicohkmfbbbdaa.Gr
open Go.RowKit
open Go.Maps (Keyed)
open Attr (A8 rightI)
set_option linter.unusedSimpArgs false
set_option linter.unusedVariables false

abbrev I2 := Int × Int
def idV (x : I2) : Value := .agg #[.int .i64 x.1, .int .i64 x.2]
def ent (e : I2 × A8) : Value × Value := (idV e.1, e.2.val)
def ents (l : List (I2 × A8)) : List (Value × Value) := l.map ent
abbrev headC (p m : Nat) : Part := Part.cells p [.map (some m)] 84
abbrev mapC (m : Nat) (es : List (Value × Value)) : Part := Part.map Try.prog 38 m es
def GrP (p m : Nat) (es : List (I2 × A8)) : Part := Part.all [headC p m, mapC m (ents es)]
theorem eqv0 (p m : Nat) (es : List (I2 × A8)) (F : List Part) : Eqv (GrP p m es :: F) (headC p m :: mapC m (ents es) :: F) := Eqv.all [headC p m, mapC m (ents es)] F
theorem begin0 {w : World} {p m : Nat} {es : List (I2 × A8)} (h : Sep [GrP p m es] w) : At [GrP p m es] w [headC p m, mapC m (ents es)] w := (At.start h).to (eqv0 p m es [])
theorem fold0 {L0 L F G : List Part} {w0 w : World} {p m : Nat} {es : List (I2 × A8)} (h : At L0 w0 L w) (s1 : Sel (headC p m) L F) (s2 : Sel (mapC m (ents es)) F G) : At L0 w0 (GrP p m es :: G) w :=
  (h.perm (s1.perm.trans (s2.perm.cons _))).to (eqv0 p m es G).symm
theorem close0 {L0 L F G : List Part} {w0 w : World} {p m : Nat} {es : List (I2 × A8)} (h : At L0 w0 L w) (s1 : Sel (headC p m) L F) (s2 : Sel (mapC m (ents es)) F G) : At L0 w0 [GrP p m es] w := (fold0 h s1 s2).only1 .here

-- the keys
theorem laidOut : laidOutB Try.prog = true := by kernel_rfl
theorem wideI : (match Try.prog.underlying 38 with | some (.array _ _) | some (.struct _) => true | _ => false) = true := by kernel_rfl
theorem rowI : (38 : TypeId) < Try.prog.types.size := of_decide_eq_true (by kernel_rfl)
set_option maxRecDepth 100000 in
theorem lawI : Keyed Try.prog 38 := Keyed.of_law (deep_law_laid laidOut (m := 2) (by omega) rowI (by kernel_rfl) wideI)
theorem keyTypeI : Try.prog.keyType 38 = true := by kernel_rfl
theorem cellsI : Try.prog.cellsOf 38 = 2 := by kernel_rfl
theorem cellsInt : Try.prog.cellsOf 3 = 1 := by kernel_rfl
theorem formedI (c0 c1 : Value) : (Value.agg #[c0, c1]).formed Try.prog 38 = true := by simp [Value.formed, Try.underlying38, cellsI]
/-- a number that fits -/
def okI (n : Int) : Prop := -9223372036854775808 ≤ n ∧ n ≤ 9223372036854775807
def okD (x : I2) : Prop := okI x.1 ∧ okI x.2
theorem keyI {x : I2} (h : okD x) : ∃ l, keyOf Try.prog 38 (idV x) = some l := by
  have hw : ∀ n, okI n → (Lit.int .i64 n).wf = true := fun n hn => by unfold okI at hn; simp [Lit.wf, IntKind.min, IntKind.max, IntKind.signed, IntKind.bits]; omega
  obtain ⟨d, hd⟩ : ∃ d, Try.prog.types.size = d + 1 := Nat.exists_eq_succ_of_ne_zero (Nat.ne_of_gt (Nat.lt_of_le_of_lt (Nat.zero_le _) rowI))
  have hl : Try.prog.keyLits (Try.prog.types.size + 1) 38 [.int .i64 x.1, .int .i64 x.2] = some [.int .i64 x.1, .int .i64 x.2] := by
    rw [hd]
    simp [Program.keyLits, Try.underlying38, Try.underlying3, cellsI, cellsInt, hw _ h.1, hw _ h.2]
  exact ⟨.string (keyBytes [.int .i64 x.1, .int .i64 x.2]), by
    unfold keyOf
    rw [Try.underlying38]
    simp only [keyTypeI, idV, formedI, Bool.and_self, if_true]
    rw [show (Value.agg #[.int .i64 x.1, .int .i64 x.2]).cells.toList = [.int .i64 x.1, .int .i64 x.2] from rfl, hl]
    rfl⟩

/-! ### The plain model -/
def getA (es : List (I2 × A8)) (x : I2) : Option A8 := (es.find? (fun e => decide (e.1 = x))).map (·.2)
theorem getA_none {es : List (I2 × A8)} {x : I2} (h : getA es x = none) : ∀ q ∈ ents es, q.1 ≠ idV x := by
  intro q hq e
  obtain ⟨y, hy, rfl⟩ := List.mem_map.1 hq
  have h1 : es.find? (fun e => decide (e.1 = x)) = none := by simpa [getA] using h
  have h2 := List.find?_eq_none.1 h1 y hy
  obtain ⟨⟨a, b⟩, v⟩ := y
  obtain ⟨c, d⟩ := x
  simp [ent, idV] at e
  simp [e] at h2
theorem getA_mem {es : List (I2 × A8)} {x : I2} {a : A8} (h : getA es x = some a) : (x, a) ∈ es := by
  unfold getA at h
  obtain ⟨y, hy, e⟩ := Option.map_eq_some_iff.1 h
  have h1 := List.find?_some hy
  have h2 := List.mem_of_find?_eq_some hy
  obtain ⟨z, v⟩ := y
  simp only [decide_eq_true_eq] at h1
  simp only at e
  subst h1 e
  exact h2
theorem getA_ent {es : List (I2 × A8)} {x : I2} {a : A8} (h : getA es x = some a) : (idV x, a.val) ∈ ents es := List.mem_map.2 ⟨(x, a), getA_mem h, rfl⟩
theorem getA_isNone {es : List (I2 × A8)} {x : I2} : getA es x = none ↔ x ∉ es.map (·.1) := by
  unfold getA
  rw [Option.map_eq_none_iff, List.find?_eq_none]
  constructor
  · intro h hx
    obtain ⟨e, he, rfl⟩ := List.mem_map.1 hx
    exact h e he (by simp)
  · intro h e he q
    exact h (List.mem_map.2 ⟨e, he, of_decide_eq_true q⟩)
/-- names are each there once -/
def Uq (es : List (I2 × A8)) : Prop := (es.map (·.1)).Nodup
theorem getA_of_mem : ∀ {es : List (I2 × A8)}, Uq es → ∀ {x : I2} {a : A8}, (x, a) ∈ es → getA es x = some a
  | (y, b) :: es, h, x, a, hm => by
    have h' : y ∉ es.map (·.1) ∧ Uq es := by simpa [Uq] using h
    unfold getA
    rw [List.find?_cons]
    rcases List.mem_cons.1 hm with e | hm
    · cases e; simp
    · have : y ≠ x := fun e => h'.1 (List.mem_map.2 ⟨(x, a), hm, e.symm⟩)
      simp only [decide_eq_false this]
      exact getA_of_mem h'.2 hm
/-- an instance is taken in: the entries, and what is told -/
def addG (es : List (I2 × A8)) (x : I2) (a : A8) : List (I2 × A8) × Int :=
  if Attr.ownsB a x.1 x.2 then (match getA es x with
    | some b => if Attr.eqA b a then (es, 0) else (es, 15)
    | none => (es ++ [(x, a)], 0))
  else (es, 10)
/-- a front -/
structure F7 where
  f0 : Int
  f1 : Int
  f2 : Int
  f3 : Int
  f4 : Int
  f5 : Int
  f6 : Int
deriving DecidableEq
def F7.cells (f : F7) : List Value := [.int .i64 f.f0, .int .i64 f.f1, .int .i64 f.f2, .int .i64 f.f3, .int .i64 f.f4, .int .i64 f.f5, .int .i64 f.f6]
def F7.val (f : F7) : Value := .agg #[.int .i64 f.f0, .int .i64 f.f1, .int .i64 f.f2, .int .i64 f.f3, .int .i64 f.f4, .int .i64 f.f5, .int .i64 f.f6]
def F7.at (f : F7) (q : Nat) : Int := match q with
  | 0 => f.f0
  | 1 => f.f1
  | 2 => f.f2
  | 3 => f.f3
  | 4 => f.f4
  | 5 => f.f5
  | _ => f.f6
def F7.set (f : F7) (q : Nat) (v : Int) : F7 := match q with
  | 0 => { f with f0 := v }
  | 1 => { f with f1 := v }
  | 2 => { f with f2 := v }
  | 3 => { f with f3 := v }
  | 4 => { f with f4 := v }
  | 5 => { f with f5 := v }
  | _ => { f with f6 := v }
/-- is a name behind a front? -/
def behind (f : F7) (x : I2) : Bool := rightI x.1 x.2 && decide (x.2 < f.at x.1.toNat)
/-- what attributes lead to, of the first so many replicas -/
def leadsU (f : F7) (a : A8) (m : Nat) : List I2 := ((List.range m).filter fun (q : Nat) => decide (f.at q < a.dep q)).map fun (q : Nat) => ((q : Int), a.dep q - 1)
def leads (f : F7) (a : A8) : List I2 := leadsU f a 7
def leadsG (es : List (I2 × A8)) (f : F7) (x : I2) : List I2 := match getA es x with
  | some a => leads f a
  | none => []
theorem leadsU_succ (f : F7) (a : A8) (m : Nat) : leadsU f a (m + 1) = leadsU f a m ++ (if f.at m < a.dep m then [((m : Int), a.dep m - 1)] else []) := by
  unfold leadsU
  rw [List.range_succ, List.filter_append, List.map_append]
  by_cases h : f.at m < a.dep m
  · simp [h]
  · simp [h]
theorem leadsU_len (f : F7) (a : A8) (m : Nat) : (leadsU f a m).length ≤ m := by
  unfold leadsU
  rw [List.length_map]
  exact Nat.le_trans (List.length_filter_le _ _) (by simp)
theorem leads_len (f : F7) (a : A8) : (leads f a).length ≤ 7 := leadsU_len f a 7
theorem leadsG_len (es : List (I2 × A8)) (f : F7) (x : I2) : (leadsG es f x).length ≤ 7 := by
  unfold leadsG
  split
  · exact leads_len _ _
  · simp
def idL (x : I2) : List Value := [.int .i64 x.1, .int .i64 x.2]
theorem idL_len (x : I2) : (idL x).length = 2 := rfl
theorem idL_one (x : I2) : ∀ v ∈ idL x, v.oneCell' = true := by
  intro u hu
  simp only [idL, List.mem_cons, List.not_mem_nil, or_false] at hu
  rcases hu with rfl | rfl <;> rfl
def flatI (l : List I2) : List Value := l.flatMap idL
theorem flatI_len (l : List I2) : (flatI l).length = l.length * 2 := flat_len _ _ idL_len _
theorem flatI_one (l : List I2) : ∀ u ∈ flatI l, u.oneCell' = true := by
  intro u hu
  obtain ⟨x, _, hx⟩ := List.mem_flatMap.1 hu
  exact idL_one x u hx
theorem flatI_snoc (l : List I2) (x : I2) : flatI l ++ idL x = flatI (l ++ [x]) := by simp [flatI]
/-- a row of names -/
abbrev rowI2 (v : Value) (l : List I2) : Part := Part.row 38 2 v l.length (flatI l)
theorem rowI2_snoc (v : Value) (l : List I2) (x : I2) : Part.row 38 2 v (l.length + 1) (flatI l ++ idL x) = rowI2 v (l ++ [x]) := by
  rw [flatI_snoc]
  unfold rowI2
  rw [List.length_append]
  rfl
theorem infoI : (Try.prog.info? 38).map (fun i => (i.zero, i.size, i.bytes)) = some (some (.agg #[.int .i64 0, .int .i64 0]), 2, 16) := by kernel_rfl
end Go.Proofs.Ytgicohkmfbbbdaa.Gr
end

section
namespace Go.Proofs.Ytgicohkmfbbbdaa
open Go.RowKit
set_option linter.unusedVariables false
set_option linter.unusedSimpArgs false

section
variable {α : Type} {enc : α → List Value} {size : Nat}
theorem flat_take (hs : ∀ x, (enc x).length = size) : ∀ (l : List α) (k : Nat), (l.flatMap enc).take (k * size) = (l.take k).flatMap enc
  | [], k => by simp
  | x :: l, 0 => by simp
  | x :: l, k + 1 => by
    rw [List.take_succ_cons, List.flatMap_cons, List.flatMap_cons, ← flat_take hs l k, List.take_append, List.take_of_length_le (by rw [hs, Nat.add_mul]; omega), hs, show (k + 1) * size - size = k * size by rw [Nat.add_mul]; omega]
theorem flat_drop (hs : ∀ x, (enc x).length = size) : ∀ (l : List α) (k : Nat), (l.flatMap enc).drop (k * size) = (l.drop k).flatMap enc
  | [], k => by simp
  | x :: l, 0 => by simp
  | x :: l, k + 1 => by
    rw [List.drop_succ_cons, List.flatMap_cons, ← flat_drop hs l k, List.drop_append, List.drop_eq_nil_of_le (by rw [hs, Nat.add_mul]; omega), hs, show (k + 1) * size - size = k * size by rw [Nat.add_mul]; omega, List.nil_append]
theorem flat_one (h : ∀ x, ∀ u ∈ enc x, u.oneCell' = true) (l : List α) : ∀ u ∈ l.flatMap enc, u.oneCell' = true := by
  intro u hu
  obtain ⟨x, _, hx⟩ := List.mem_flatMap.1 hu
  exact h x u hx
theorem rows_app (E : TypeId) (v : Value) (l1 l2 : List α) : Part.row E size v (l1.length + l2.length) (l1.flatMap enc ++ l2.flatMap enc) = Part.row E size v (l1 ++ l2).length ((l1 ++ l2).flatMap enc) := by simp
theorem rows_snoc (E : TypeId) (v : Value) (l : List α) (x : α) : Part.row E size v (l.length + 1) (l.flatMap enc ++ enc x) = Part.row E size v (l ++ [x]).length ((l ++ [x]).flatMap enc) := by simp
end

/-- some parts of a list, in this order -/
inductive Picks : List Part → List Part → Prop
  | nil {L : List Part} : Picks L []
  | cons {A : Part} {L F K : List Part} : Sel A L F → Picks F K → Picks L (A :: K)
theorem Picks.perm {L K : List Part} (p : Picks L K) : ∃ F, L.Perm (K ++ F) := by
  induction p with
  | nil => exact ⟨_, .refl _⟩
  | cons s _ ih =>
    obtain ⟨F, hF⟩ := ih
    exact ⟨F, s.perm.trans (hF.cons _)⟩
theorem At.pick {L0 L K : List Part} {w0 w : World} (h : At L0 w0 L w) (p : Picks L K) : At L0 w0 K w := by
  obtain ⟨F, hF⟩ := p.perm
  exact (h.perm hF).sub (List.sublist_append_left _ _)
theorem At.seps {L0 L K : List Part} {w0 w : World} (h : At L0 w0 L w) (p : Picks L K) : Sep K w := (h.pick p).sep
theorem Sep.pick {L K : List Part} {w : World} (h : Sep L w) (p : Picks L K) : Sep K w := (At.start h).seps p
/-- a row's value, its length behind a letter -/
theorem At.row_hid {L0 L F : List Part} {w0 w : World} {e : TypeId} {size n : Nat} {v : Value} {xs : List Value} (h : At L0 w0 L w) (s : Sel (Part.row e size v n xs) L F) : ∃ ax k cap, v = .slice ax k cap ∧ Hid (k = n) := by
  obtain ⟨ax, cap, rfl, _, _, _⟩ := h.row_form s
  exact ⟨ax, n, cap, rfl, Lib.hid rfl⟩
section
variable {α : Type} {p : α → Bool}
theorem while_at : ∀ {l : List α} {i : Nat}, i ≤ l.length → (∀ x ∈ l.take i, p x = true) → (∀ h : i < l.length, p l[i] = false) → l.takeWhile p = l.take i ∧ l.dropWhile p = l.drop i
  | [], i, _, _, _ => by simp
  | y :: l, 0, _, _, h2 => by
    have := h2 (by simp)
    simp at this
    simp [this]
  | y :: l, i + 1, hi, h1, h2 => by
    have hy := h1 y (by simp)
    have := while_at (l := l) (i := i) (by simpa using hi) (fun x hx => h1 x (by simp [hx])) (fun h => h2 (by simp; exact h))
    simp [hy, this]
end
end Go.Proofs.Ytgicohkmfbbbdaa
namespace Go.Proofs.Ytgicohkmfbbbdaa
theorem pZ {L K : List Part} (h : Picks L K := by repeat (first | exact Picks.nil | refine Picks.cons (by repeat (first | exact Sel.here | apply Sel.there)) ?_)) : Picks L K := h
end Go.Proofs.Ytgicohkmfbbbdaa
end
