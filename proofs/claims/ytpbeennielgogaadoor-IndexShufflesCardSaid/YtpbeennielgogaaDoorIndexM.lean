/- An index as the walk sees it: its entries, by what they touch. No program in sight but the numbers of its types. -/
import Derived.Test.YtpbeennielgogaaDoorCmdM
import Derived.Test.YtpbeennielgogaaDoorAttrM
import Derived.Test.YtpbeennielgogaaDoorPathI
import Derived.Test.YtpbeennielgogaaDoorMapW
import Derived.Test.YtpbeennielgogaaDoorChecked
namespace Go.Proofs.YtpbeennielgogaaDoor.Ix
open Go.RowKit
open Go.Maps (Keyed)
open Path (bl rightB overB)
open Attr (A8 rightI)
open Cmd (Cm keyC)
set_option linter.unusedSimpArgs false
set_option linter.unusedVariables false

/-- an entry: what was noted of a key -/
structure En where
  foot : ByteArray
  num : Int
  a : A8
deriving DecidableEq
def keyV (f : ByteArray) (n : Int) : Value := .agg #[.string f, .int .u64 n]
def En.key (e : En) : Value := keyV e.foot e.num
def ent (e : En) : Value × Value := (e.key, e.a.val)
def ents (l : List En) : List (Value × Value) := l.map ent
abbrev headC (p m : Nat) : Part := Part.cells p [.map (some m)] 59
abbrev mapC (m : Nat) (es : List (Value × Value)) : Part := Part.map Tryd.prog 37 m es
def IxP (p m : Nat) (es : List En) : Part := Part.all [headC p m, mapC m (ents es)]
theorem eqv0 (p m : Nat) (es : List En) (F : List Part) : Eqv (IxP p m es :: F) (headC p m :: mapC m (ents es) :: F) := Eqv.all [headC p m, mapC m (ents es)] F
theorem begin0 {w : World} {p m : Nat} {es : List En} (h : Sep [IxP p m es] w) : At [IxP p m es] w [headC p m, mapC m (ents es)] w := (At.start h).to (eqv0 p m es [])
theorem fold0 {L0 L F G : List Part} {w0 w : World} {p m : Nat} {es : List En} (h : At L0 w0 L w) (s1 : Sel (headC p m) L F) (s2 : Sel (mapC m (ents es)) F G) : At L0 w0 (IxP p m es :: G) w :=
  (h.perm (s1.perm.trans (s2.perm.cons _))).to (eqv0 p m es G).symm
theorem close0 {L0 L F G : List Part} {w0 w : World} {p m : Nat} {es : List En} (h : At L0 w0 L w) (s1 : Sel (headC p m) L F) (s2 : Sel (mapC m (ents es)) F G) : At L0 w0 [IxP p m es] w := (fold0 h s1 s2).only1 .here

-- the keys
theorem laidOut : laidOutB Tryd.prog = true := by kernel_rfl
theorem wideK : (match Tryd.prog.underlying 37 with | some (.array _ _) | some (.struct _) => true | _ => false) = true := by kernel_rfl
theorem rowK : (37 : TypeId) < Tryd.prog.types.size := of_decide_eq_true (by kernel_rfl)
set_option maxRecDepth 100000 in
theorem lawK : Keyed Tryd.prog 37 := Keyed.of_law (deep_law_laid laidOut (m := 2) (by omega) rowK (by kernel_rfl) wideK)
theorem keyTypeK : Tryd.prog.keyType 37 = true := by kernel_rfl
theorem cellsK : Tryd.prog.cellsOf 37 = 2 := by kernel_rfl
theorem cellsU : Tryd.prog.cellsOf 24 = 1 := by kernel_rfl
theorem cellsStr : Tryd.prog.cellsOf 9 = 1 := by kernel_rfl
theorem formedK (c0 c1 : Value) : (Value.agg #[c0, c1]).formed Tryd.prog 37 = true := by simp [Value.formed, Tryd.underlying37, cellsK]
def big64 : Int := 18446744073709551616
theorem keyK {f : ByteArray} {n : Int} (hf : f.size ≤ maxLen) (h0 : 0 ≤ n) (h1 : n < big64) : ∃ l, keyOf Tryd.prog 37 (keyV f n) = some l := by
  have hw : (Lit.int .u64 n).wf = true := by simp [Lit.wf, IntKind.min, IntKind.max, IntKind.signed, IntKind.bits]; unfold big64 at h1; omega
  obtain ⟨d, hd⟩ : ∃ d, Tryd.prog.types.size = d + 1 := Nat.exists_eq_succ_of_ne_zero (Nat.ne_of_gt (Nat.lt_of_le_of_lt (Nat.zero_le _) rowK))
  have hl : Tryd.prog.keyLits (Tryd.prog.types.size + 1) 37 [.string f, .int .u64 n] = some [.string f.data.toList, .int .u64 n] := by
    rw [hd]
    simp [Program.keyLits, Tryd.underlying37, Tryd.underlying24, Tryd.underlying9, cellsK, cellsU, cellsStr, hw, hf]
  exact ⟨.string (keyBytes [.string f.data.toList, .int .u64 n]), by
    unfold keyOf
    rw [Tryd.underlying37]
    simp only [keyTypeK, keyV, formedK, Bool.and_self, if_true]
    rw [show (Value.agg #[.string f, .int .u64 n]).cells.toList = [.string f, .int .u64 n] from rfl, hl]
    rfl⟩

/-! ### The plain model -/
def En.is (e : En) (f : ByteArray) (n : Int) : Bool := decide (e.foot = f ∧ e.num = n)
def find (es : List En) (f : ByteArray) (n : Int) : Option En := es.find? (·.is f n)
/-- an entry is merged -/
def mergeE : List En → ByteArray → Int → A8 → List En
  | [], f, n, a => [⟨f, n, A8.zero.merge a⟩]
  | e :: es, f, n, a => if e.is f n then ⟨f, n, e.a.merge a⟩ :: es else e :: mergeE es f n a
/-- what is noted of a command -/
def noteA (r t q : Int) : A8 := ({ A8.zero with s := min (max q 0) 1073741824 }).set r.toNat (t + 1)
def noteE (es : List En) (k : Option (ByteArray × Int)) (r t q : Int) : List En := match k with
  | some (f, n) => if rightI r t then mergeE es f n (noteA r t q) else es
  | none => es
def addE (es : List En) (f : ByteArray) (n : Int) (a : A8) : List En := if rightB (bl f) && a.right then mergeE es f n a else es
def clashK (k o : ByteArray × Int) : Bool := (k.2 == o.2) || overB (bl k.1) (bl o.1)
def askStep (g : Bool) (k : ByteArray × Int) (o : A8) (e : En) : A8 := if g && clashK k (e.foot, e.num) then o.merge (e.a.past e.a.s) else o
def askF (g : Bool) (k : ByteArray × Int) (es : List En) : A8 := es.foldl (askStep g k) A8.zero
/-- what comes ahead of a command -/
def askE (es : List En) (k : Option (ByteArray × Int)) (r t : Int) : A8 := (match k with
  | some k => askF (rightI r t) k es
  | none => A8.zero).own r t

theorem find_split {es : List En} {f : ByteArray} {n : Int} {e : En} (h : find es f n = some e) : ∃ l1 l2, es = l1 ++ e :: l2 ∧ e.foot = f ∧ e.num = n ∧ ∀ x ∈ l1, x.is f n = false := by
  obtain ⟨h1, l1, l2, h2, h3⟩ := List.find?_eq_some_iff_append.1 h
  have h4 : e.foot = f ∧ e.num = n := by simpa [En.is] using h1
  exact ⟨l1, l2, h2, h4.1, h4.2, fun x hx => by simpa using h3 x hx⟩
theorem find_none {es : List En} {f : ByteArray} {n : Int} (h : find es f n = none) : ∀ q ∈ ents es, q.1 ≠ keyV f n := by
  intro q hq
  obtain ⟨e, he, rfl⟩ := List.mem_map.1 hq
  have h1 : ¬ e.is f n = true := List.find?_eq_none.1 h e he
  intro q2
  apply h1
  simp [ent, En.key, keyV] at q2
  simp [En.is, q2]
theorem find_mem {es : List En} {f : ByteArray} {n : Int} {e : En} (h : find es f n = some e) : (keyV f n, e.a.val) ∈ ents es := by
  obtain ⟨l1, l2, rfl, rfl, rfl, _⟩ := find_split h
  simp [ents, ent, En.key]
theorem merge_none {a : A8} {f : ByteArray} {n : Int} : ∀ {es : List En}, find es f n = none → mergeE es f n a = es ++ [⟨f, n, A8.zero.merge a⟩]
  | [], _ => rfl
  | e :: es, h => by
    unfold find at h
    rw [List.find?_cons] at h
    cases he : e.is f n with
    | true => rw [he] at h; cases h
    | false =>
      rw [he] at h
      simp [mergeE, he, merge_none (es := es) h]
theorem merge_mid {a : A8} {f : ByteArray} {n : Int} {e : En} {l2 : List En} (he : e.is f n = true) : ∀ {l1 : List En}, (∀ x ∈ l1, x.is f n = false) → mergeE (l1 ++ e :: l2) f n a = l1 ++ ⟨f, n, e.a.merge a⟩ :: l2
  | [], _ => by simp [mergeE, he]
  | x :: l1, h => by
    have h1 := h x (by simp)
    have h2 := merge_mid (a := a) (l2 := l2) he (l1 := l1) (fun y hy => h y (by simp [hy]))
    simp [mergeE, h1, h2]
theorem ents_one (es : List En) (f : ByteArray) (n : Int) (a : A8) : ents es ++ [(keyV f n, a.val)] = ents (es ++ [⟨f, n, a⟩]) := by simp [ents, ent, En.key]
theorem ents_mid (l1 l2 : List En) (e : En) : ents (l1 ++ e :: l2) = ents l1 ++ (e.key, e.a.val) :: ents l2 := by simp [ents, ent]
theorem ents_snoc (ds : List En) (s : En) : ents ds ++ [ent s] = ents (ds ++ [s]) := by simp [ents]
def unE : Value × Value → En
  | (.agg #[.string f, .int _ n], .agg #[.int _ s, .int _ d0, .int _ d1, .int _ d2, .int _ d3, .int _ d4, .int _ d5, .int _ d6]) => ⟨f, n, ⟨s, d0, d1, d2, d3, d4, d5, d6⟩⟩
  | _ => ⟨.empty, 0, A8.zero⟩
theorem unE_ent (e : En) : unE (ent e) = e := rfl
theorem ents_perm {ss ds : List En} (hp : (ents ss).Perm (ents ds)) : ss.Perm ds := by
  have := hp.map unE
  simpa [ents, List.map_map, Function.comp_def, unE_ent] using this
theorem foldl_perm {α β : Type} {f : β → α → β} (hc : ∀ z x y, f (f z x) y = f (f z y) x) {l m : List α} (h : l.Perm m) : ∀ z, l.foldl f z = m.foldl f z := by
  induction h with
  | nil => intro z; rfl
  | cons x _ ih => intro z; exact ih _
  | swap x y l => intro z; rw [List.foldl_cons, List.foldl_cons, List.foldl_cons, List.foldl_cons, hc]
  | trans _ _ i j => intro z; rw [i, j]
theorem merge_rc (z x y : A8) : (z.merge x).merge y = (z.merge y).merge x := by
  unfold A8.merge
  simp only [A8.mk.injEq]
  refine ⟨?_, ?_, ?_, ?_, ?_, ?_, ?_, ?_⟩ <;> omega
theorem ask_rc (g : Bool) (k : ByteArray × Int) (z : A8) (x y : En) : askStep g k (askStep g k z x) y = askStep g k (askStep g k z y) x := by
  unfold askStep
  split <;> split <;> first | rfl | exact merge_rc _ _ _
theorem askF_perm {g : Bool} {k : ByteArray × Int} {l m : List En} (h : l.Perm m) : askF g k l = askF g k m := foldl_perm (ask_rc g k) h _
theorem askF_snoc (g : Bool) (k : ByteArray × Int) (l : List En) (e : En) : askF g k (l ++ [e]) = askStep g k (askF g k l) e := by unfold askF; rw [List.foldl_append]; rfl
theorem askF_false (k : ByteArray × Int) (l : List En) : askF false k l = A8.zero := by
  unfold askF
  induction l with
  | nil => rfl
  | cons e l ih => rw [List.foldl_cons]; exact ih
end Go.Proofs.YtpbeennielgogaaDoor.Ix
