/- LockM, LockW, LockV, LockC, LockD, LockE, joined. -/
import Derived.Test.YtpebabaigakagaaGreatDoorK8
import Derived.Test.YtpebabaigakagaaGreatDoorK2
import Derived.Test.YtpebabaigakagaaGreatDoorChecked
import Derived.StringKeys
import Derived.Test.YtpebabaigakagaaGreatDoorK5
import Derived.Deep.LoopGhost
section
namespace Go.Proofs.YtpebabaigakagaaGreatDoor.Lock
open Go.RowKit
open Go.Maps (Keyed)
open Path (bl rightB overB)
set_option linter.unusedVariables false
set_option linter.unusedSimpArgs false

/-- an entry -/
structure Ent where
  path : ByteArray
  num : Int
  foot : ByteArray
  mode : Int
  n : Int
  stamp : Int
deriving DecidableEq
def keyV (p : ByteArray) (n : Int) (f : ByteArray) : Value := .agg #[.string p, .int .u64 n, .string f]
def Ent.key (e : Ent) : Value := keyV e.path e.num e.foot
def Ent.cells (e : Ent) : List Value := [.string e.path, .int .u64 e.num, .string e.foot, .int .i64 e.mode, .int .u64 e.n, .int .i64 e.stamp]
def Ent.val (e : Ent) : Value := .agg #[.string e.path, .int .u64 e.num, .string e.foot, .int .i64 e.mode, .int .u64 e.n, .int .i64 e.stamp]
def ent (e : Ent) : Value × Value := (e.key, e.val)
def ents (l : List Ent) : List (Value × Value) := l.map ent
/-- a counter -/
def ctrE (c : ByteArray × Int) : Value × Value := (.string c.1, .int .u64 c.2)
def ctrs (l : List (ByteArray × Int)) : List (Value × Value) := l.map ctrE
abbrev headC (p m c : Nat) (first : Int) : Part := Part.cells p [.int .u64 first, .map (some m), .map (some c)] 93
abbrev mapC (m : Nat) (es : List (Value × Value)) : Part := Part.map Tryz.prog 90 m es
abbrev ctrC (c : Nat) (cs : List (Value × Value)) : Part := Part.map Tryz.prog 9 c cs
/-- the book at p: its entries' map at m, its counters' at c -/
structure Bk where
  p : Nat
  m : Nat
  c : Nat
  first : Int
  es : List Ent
  cs : List (ByteArray × Int)
def BookP (b : Bk) : Part := Part.all [headC b.p b.m b.c b.first, mapC b.m (ents b.es), ctrC b.c (ctrs b.cs)]
theorem eqv0 (b : Bk) (F : List Part) : Eqv (BookP b :: F) (headC b.p b.m b.c b.first :: mapC b.m (ents b.es) :: ctrC b.c (ctrs b.cs) :: F) := Eqv.all [headC b.p b.m b.c b.first, mapC b.m (ents b.es), ctrC b.c (ctrs b.cs)] F
theorem begin0 {w : World} {b : Bk} (h : Sep [BookP b] w) : At [BookP b] w [headC b.p b.m b.c b.first, mapC b.m (ents b.es), ctrC b.c (ctrs b.cs)] w := (At.start h).to (eqv0 b [])
theorem open0 {L0 L F : List Part} {w0 w : World} {b : Bk} (h : At L0 w0 L w) (q : Sel (BookP b) L F) : At L0 w0 (headC b.p b.m b.c b.first :: mapC b.m (ents b.es) :: ctrC b.c (ctrs b.cs) :: F) w := (h.take q).to (eqv0 b F)
theorem fold0 {L0 L F G H : List Part} {w0 w : World} (b : Bk) (h : At L0 w0 L w) (s1 : Sel (headC b.p b.m b.c b.first) L F) (s2 : Sel (mapC b.m (ents b.es)) F G) (s3 : Sel (ctrC b.c (ctrs b.cs)) G H) : At L0 w0 (BookP b :: H) w :=
  (h.perm (s1.perm.trans ((s2.perm.trans (s3.perm.cons _)).cons _))).to (eqv0 b H).symm
theorem close0 {L0 L F G H : List Part} {w0 w : World} (b : Bk) (h : At L0 w0 L w) (s1 : Sel (headC b.p b.m b.c b.first) L F) (s2 : Sel (mapC b.m (ents b.es)) F G) (s3 : Sel (ctrC b.c (ctrs b.cs)) G H) : At L0 w0 [BookP b] w := (fold0 b h s1 s2 s3).only1 .here

-- the keys
theorem laidOut : laidOutB Tryz.prog = true := by kernel_rfl
theorem wideP : (match Tryz.prog.underlying 90 with | some (.array _ _) | some (.struct _) => true | _ => false) = true := by kernel_rfl
theorem rowP : (90 : TypeId) < Tryz.prog.types.size := of_decide_eq_true (by kernel_rfl)
set_option maxRecDepth 100000 in
theorem lawP : Keyed Tryz.prog 90 := Keyed.of_law (deep_law_laid laidOut (m := 3) (by omega) rowP (by kernel_rfl) wideP)
theorem lawT : Keyed Tryz.prog 9 := Go.Maps.string_keyed Tryz.underlying9
theorem keyTypeP : Tryz.prog.keyType 90 = true := by kernel_rfl
theorem cellsP : Tryz.prog.cellsOf 90 = 3 := by kernel_rfl
theorem cellsS : Tryz.prog.cellsOf 25 = 2 := by kernel_rfl
theorem cellsU : Tryz.prog.cellsOf 22 = 1 := by kernel_rfl
theorem cellsStr : Tryz.prog.cellsOf 9 = 1 := by kernel_rfl
theorem formedP (c0 c1 c2 : Value) : (Value.agg #[c0, c1, c2]).formed Tryz.prog 90 = true := by simp [Value.formed, Tryz.underlying90, cellsP]
def big64 : Int := 18446744073709551616
theorem keyP {p : ByteArray} {n : Int} {f : ByteArray} (hp : p.size ≤ maxLen) (h0 : 0 ≤ n) (h1 : n < big64) (hf : f.size ≤ maxLen) : ∃ l, keyOf Tryz.prog 90 (keyV p n f) = some l := by
  have hw : (Lit.int .u64 n).wf = true := by simp [Lit.wf, IntKind.min, IntKind.max, IntKind.signed, IntKind.bits]; unfold big64 at h1; omega
  obtain ⟨d, hd⟩ : ∃ d, Tryz.prog.types.size = d + 2 := ⟨Tryz.prog.types.size - 2, by have : 2 ≤ Tryz.prog.types.size := of_decide_eq_true (by kernel_rfl); omega⟩
  have hl : Tryz.prog.keyLits (Tryz.prog.types.size + 1) 90 [.string p, .int .u64 n, .string f] = some [.string p.data.toList, .int .u64 n, .string f.data.toList] := by
    rw [hd]
    simp [Program.keyLits, Tryz.underlying90, Tryz.underlying25, Tryz.underlying22, Tryz.underlying9, cellsP, cellsS, cellsU, cellsStr, hw, hf, hp]
    rw [if_pos (by decide)]
    rfl
  exact ⟨.string (keyBytes [.string p.data.toList, .int .u64 n, .string f.data.toList]), by
    unfold keyOf
    rw [Tryz.underlying90]
    simp only [keyTypeP, keyV, formedP, Bool.and_self, if_true]
    rw [show (Value.agg #[.string p, .int .u64 n, .string f]).cells.toList = [.string p, .int .u64 n, .string f] from rfl, hl]
    rfl⟩
theorem keyT {p : ByteArray} (hp : p.size ≤ maxLen) : ∃ l, keyOf Tryz.prog 9 (.string p) = some l := ⟨_, WideMaps.keyOf_string_mk Tryz.underlying9 hp⟩

/-- the entry of a place -/
def Ent.is (e : Ent) (p : ByteArray) (n : Int) (f : ByteArray) : Bool := decide (e.path = p ∧ e.num = n ∧ e.foot = f)
def find (es : List Ent) (p : ByteArray) (n : Int) (f : ByteArray) : Option Ent := es.find? (·.is p n f)
theorem find_split {es : List Ent} {p : ByteArray} {n : Int} {f : ByteArray} {e : Ent} (h : find es p n f = some e) : ∃ l1 l2, es = l1 ++ e :: l2 ∧ e.path = p ∧ e.num = n ∧ e.foot = f ∧ ∀ x ∈ l1, x.is p n f = false := by
  obtain ⟨h1, l1, l2, h2, h3⟩ := List.find?_eq_some_iff_append.1 h
  have h4 : e.path = p ∧ e.num = n ∧ e.foot = f := by simpa [Ent.is] using h1
  exact ⟨l1, l2, h2, h4.1, h4.2.1, h4.2.2, fun x hx => by simpa using h3 x hx⟩
theorem find_none {es : List Ent} {p : ByteArray} {n : Int} {f : ByteArray} (h : find es p n f = none) : ∀ q ∈ ents es, q.1 ≠ keyV p n f := by
  intro q hq
  obtain ⟨e, he, rfl⟩ := List.mem_map.1 hq
  have h1 : ¬ e.is p n f = true := List.find?_eq_none.1 h e he
  intro q2
  apply h1
  simp [ent, Ent.key, keyV] at q2
  simp [Ent.is, q2]
theorem find_mem {es : List Ent} {p : ByteArray} {n : Int} {f : ByteArray} {e : Ent} (h : find es p n f = some e) : (keyV p n f, e.val) ∈ ents es := by
  obtain ⟨l1, l2, rfl, rfl, rfl, rfl, _⟩ := find_split h
  simp [ents, ent, Ent.key]
/-- a path's counter -/
def ctr (cs : List (ByteArray × Int)) (p : ByteArray) : Option Int := (cs.find? (·.1 = p)).map (·.2)
def counter (first : Int) (cs : List (ByteArray × Int)) (p : ByteArray) : Int := (ctr cs p).getD first
theorem ctr_none {cs : List (ByteArray × Int)} {p : ByteArray} (h : ctr cs p = none) : ∀ q ∈ ctrs cs, q.1 ≠ .string p := by
  intro q hq
  obtain ⟨s, hs, rfl⟩ := List.mem_map.1 hq
  unfold ctr at h
  simp at h
  intro e
  simp [ctrE] at e
  exact h s.1 s.2 hs e
theorem ctr_mem {cs : List (ByteArray × Int)} {p : ByteArray} {n : Int} (h : ctr cs p = some n) : (.string p, .int .u64 n) ∈ ctrs cs := by
  unfold ctr at h
  simp only [Option.map_eq_some_iff] at h
  obtain ⟨q, h1, h2⟩ := h
  have h3 := List.find?_some h1
  have h4 := List.mem_of_find?_eq_some h1
  refine List.mem_map.2 ⟨q, h4, ?_⟩
  simp at h3
  simp [ctrE, h3, h2]
/-- are two in each other's way? -/
def wayB (a b : Ent) : Bool := (decide (a.mode = 2) || decide (b.mode = 2)) && overB (bl a.path) (bl b.path)
end Go.Proofs.YtpebabaigakagaaGreatDoor.Lock
end

section
namespace Go.Proofs.YtpebabaigakagaaGreatDoor.Lock
open Go.RowKit
open Go.Maps (Keyed)
open Path (bl rightB overB)
set_option linter.unusedSimpArgs false
set_option linter.unusedVariables false

/-- a book, new -/
def NewPost (first : Int) (w : World) (e : Ending) (w' : World) : Prop := ∃ b : Bk, e = .returned (.pointer (some ⟨b.p, 0, none⟩)) ∧ b.first = first ∧ b.es = [] ∧ b.cs = [] ∧ At [] w [BookP b] w'
set_option maxRecDepth 100000 in
theorem new_any (w : World) (first : Int) : Calls Tryz.prog 55 #[.int .u64 first] w (NewPost first w) := by
  have hA : At [] w [] w := At.start (L0 := []) trivial
  have hF := hA.facts
  go_enter Tryz.func55, Tryz.ntmps55
  go_wp2_with (first | ((with_reducible refine gst ?_); refine wS hA ?_; clear hF hA; intro w1 hA; (try simp only [uA] at hA); have hF := hA.facts; (try simp only [fA, and_true, true_and] at hF)) | ((with_reducible refine gbx ?_); refine wB hA ?_; clear hF hA; intro b1 w1 hA hb1; (try simp only [uA] at hA); have hF := hA.facts; (try simp only [fA, and_true, true_and] at hF)) | (refine wpList_makeMap_at Tryz.prog 90 rfl rfl hA ?_; intro b1 w1 hB hb1; clear hF hA; have hA := hB; clear hB; (try simp only [uA] at hA); have hF := hA.facts; (try simp only [fA, and_true, true_and] at hF); refine wpList_makeMap_at Tryz.prog 9 rfl rfl hA ?_; intro b2 w1 hB hb2; clear hF hA; have hA := hB; clear hB; (try simp only [uA] at hA); have hF := hA.facts; (try simp only [fA, and_true, true_and] at hF)))
  go_ret
  exact ⟨⟨_, _, _, first, [], []⟩, rfl, rfl, rfl, rfl, close0 ⟨_, _, _, first, [], []⟩ hA sR sZ sZ⟩
set_option maxRecDepth 100000 in
theorem counter_none {w : World} {b : Bk} (h : Sep [BookP b] w) {p : ByteArray} (hp : p.size ≤ maxLen) (hn : ctr b.cs p = none) :
    Calls Tryz.prog 156 #[.pointer (some ⟨b.p, 0, none⟩), .string p] w fun e w' => e = .returned (.int .u64 b.first) ∧ At [BookP b] w [BookP b] w' := by
  obtain ⟨kl, hk⟩ := keyT hp
  have hmiss := Lib.hid (ctr_none hn)
  have hA := begin0 h
  have hF := hA.facts
  clear h hn
  (try simp only [uA] at hA); have hF := hA.facts; (try simp only [fA, and_true, true_and] at hF)
  go_enter Tryz.func156, Tryz.ntmps156
  go_wp2_with (first | ((with_reducible refine gst ?_); refine wS hA ?_; clear hF hA; intro w1 hA; (try simp only [uA] at hA); have hF := hA.facts; (try simp only [fA, and_true, true_and] at hF)) | ((with_reducible refine gbx ?_); refine wB hA ?_; clear hF hA; intro b1 w1 hA hb1; (try simp only [uA] at hA); have hF := hA.facts; (try simp only [fA, and_true, true_and] at hF)) | (refine wpList_look_none_at rfl rfl rfl (by (try simp only [Act.eval, eV]) <;> exact rfl) hA (k := 9) (es := ctrs b.cs) sR lawT Tryz.underlying91 hk hmiss.out (z := .int .u64 0) (fun _ => by kernel_rfl) ?_))
  go_ret
  exact ⟨rfl, close0 b hA sR sR sR⟩
set_option maxRecDepth 100000 in
theorem counter_some {w : World} {b : Bk} (h : Sep [BookP b] w) {p : ByteArray} (hp : p.size ≤ maxLen) {n : Int} (hn : ctr b.cs p = some n) :
    Calls Tryz.prog 156 #[.pointer (some ⟨b.p, 0, none⟩), .string p] w fun e w' => e = .returned (.int .u64 n) ∧ At [BookP b] w [BookP b] w' := by
  obtain ⟨kl, hk⟩ := keyT hp
  have hmem := Lib.hid (ctr_mem hn)
  have hA := begin0 h
  have hF := hA.facts
  clear h hn
  (try simp only [uA] at hA); have hF := hA.facts; (try simp only [fA, and_true, true_and] at hF)
  go_enter Tryz.func156, Tryz.ntmps156
  go_wp2_with (first | ((with_reducible refine gst ?_); refine wS hA ?_; clear hF hA; intro w1 hA; (try simp only [uA] at hA); have hF := hA.facts; (try simp only [fA, and_true, true_and] at hF)) | ((with_reducible refine gbx ?_); refine wB hA ?_; clear hF hA; intro b1 w1 hA hb1; (try simp only [uA] at hA); have hF := hA.facts; (try simp only [fA, and_true, true_and] at hF)) | (refine wpList_look_some_at rfl rfl rfl (by (try simp only [Act.eval, eV]) <;> exact rfl) hA (k := 9) (es := ctrs b.cs) sR lawT Tryz.underlying91 hk hmem.out ?_))
  go_ret
  exact ⟨rfl, close0 b hA sR sR sR⟩
theorem counter_any {w : World} {b : Bk} (h : Sep [BookP b] w) {p : ByteArray} (hp : p.size ≤ maxLen) :
    Calls Tryz.prog 156 #[.pointer (some ⟨b.p, 0, none⟩), .string p] w fun e w' => e = .returned (.int .u64 (counter b.first b.cs p)) ∧ At [BookP b] w [BookP b] w' := by
  cases hn : ctr b.cs p with
  | none => have := counter_none h hp hn; unfold counter; rw [hn]; exact this
  | some n => have := counter_some h hp hn; unfold counter; rw [hn]; exact this

/-- may there be such an entry? -/
def rightM (p : ByteArray) (mode : Int) : Bool := rightB (bl p) && (decide (mode = 1) || decide (mode = 2))
set_option maxRecDepth 100000 in
theorem right_any (p : ByteArray) (mode : Int) (w : World) (hp : p.size ≤ 1000000) : Calls Tryz.prog 154 #[.string p, .int .i64 mode] w fun e w' => e = .returned (.bool (rightM p mode)) ∧ Ext w w' := by
  have hr := Path.right_any p w (by omega)
  unfold rightM
  generalize rightB (bl p) = rb at *
  go_enter Tryz.func154, Tryz.ntmps154
  go_wp2_with fail
  refine hr.mono ?_
  clear hr
  rintro e w1 ⟨rfl, hx⟩
  by_cases h1 : mode = 1
  · subst h1
    cases rb
    all_goals
      go_wp2_with fail
      go_ret
      exact ⟨rfl, hx⟩
  · have e1 : (mode == 1) = false := by simpa using h1
    by_cases h2 : mode = 2
    · subst h2
      cases rb
      all_goals
        go_wp2_with fail
        go_ret
        exact ⟨rfl, hx⟩
    · have e2 : (mode == 2) = false := by simpa using h2
      have d1 := decide_eq_false h1
      have d2 := decide_eq_false h2
      clear h1 h2
      cases rb
      all_goals
        go_wp2_with fail
        go_ret
        exact ⟨by simp [d1, d2], hx⟩
set_option maxRecDepth 100000 in
theorem way_any (x y : Ent) (w : World) (hx : x.path.size ≤ 1000000) (hy : y.path.size ≤ 1000000) : Calls Tryz.prog 158 #[x.val, y.val] w fun e w' => e = .returned (.bool (wayB x y)) ∧ Ext w w' := by
  have ho := fun w => Path.overlap_any x.path y.path w (by omega) (by omega)
  unfold wayB
  generalize overB (bl x.path) (bl y.path) = ob at *
  have hA : At [] w [] w := At.start (L0 := []) trivial
  have hF := hA.facts
  obtain ⟨p1, n1, f1, m1, k1, s1⟩ := x
  obtain ⟨p2, n2, f2, m2, k2, s2⟩ := y
  simp only [Ent.val] at *
  by_cases h1 : m1 = 2
  · subst h1
    go_enter Tryz.func158, Tryz.ntmps158
    go_wp2_with (first | ((with_reducible refine gst ?_); refine wS hA ?_; clear hF hA; intro w1 hA; (try simp only [uA] at hA); have hF := hA.facts; (try simp only [fA, and_true, true_and] at hF)) | ((with_reducible refine gbx ?_); refine wB hA ?_; clear hF hA; intro b1 w1 hA hb1; (try simp only [uA] at hA); have hF := hA.facts; (try simp only [fA, and_true, true_and] at hF)))
    refine (ho _).mono ?_
    clear ho
    rintro e w2 ⟨rfl, hx2⟩
    cases ob
    all_goals
      go_wp2_with fail
      go_ret
      exact ⟨rfl, hA.toExt.trans hx2⟩
  · have e1 : (m1 == 2) = false := by simpa using h1
    have d1 := Lib.hid (decide_eq_false h1)
    clear h1
    by_cases h2 : m2 = 2
    · subst h2
      go_enter Tryz.func158, Tryz.ntmps158
      go_wp2_with (first | ((with_reducible refine gst ?_); refine wS hA ?_; clear hF hA; intro w1 hA; (try simp only [uA] at hA); have hF := hA.facts; (try simp only [fA, and_true, true_and] at hF)) | ((with_reducible refine gbx ?_); refine wB hA ?_; clear hF hA; intro b1 w1 hA hb1; (try simp only [uA] at hA); have hF := hA.facts; (try simp only [fA, and_true, true_and] at hF)))
      refine (ho _).mono ?_
      clear ho
      rintro e w2 ⟨rfl, hx2⟩
      cases ob
      all_goals
        go_wp2_with fail
        go_ret
        exact ⟨by rw [d1.out]; rfl, hA.toExt.trans hx2⟩
    · have e2 : (m2 == 2) = false := by simpa using h2
      have d2 := Lib.hid (decide_eq_false h2)
      clear h2 ho
      go_enter Tryz.func158, Tryz.ntmps158
      go_wp2_with (first | ((with_reducible refine gst ?_); refine wS hA ?_; clear hF hA; intro w1 hA; (try simp only [uA] at hA); have hF := hA.facts; (try simp only [fA, and_true, true_and] at hF)) | ((with_reducible refine gbx ?_); refine wB hA ?_; clear hF hA; intro b1 w1 hA hb1; (try simp only [uA] at hA); have hF := hA.facts; (try simp only [fA, and_true, true_and] at hF)))
      go_ret
      exact ⟨by rw [d1.out, d2.out]; rfl, hA.toExt⟩
end Go.Proofs.YtpebabaigakagaaGreatDoor.Lock
end

section
namespace Go.Proofs.YtpebabaigakagaaGreatDoor.Lock
open Go.RowKit
open Go.Maps (Keyed)
open Path (bl rightB overB)
set_option linter.unusedSimpArgs false
set_option linter.unusedVariables false

/-- no entry -/
def nullE : Ent := ⟨.empty, 0, .empty, 0, 0, 0⟩
set_option maxRecDepth 100000 in
theorem find_no {w : World} {b : Bk} (h : Sep [BookP b] w) {p : ByteArray} {n : Int} {f : ByteArray} (hp : p.size ≤ maxLen) (h0 : 0 ≤ n) (h1 : n < big64) (hf : f.size ≤ maxLen) (hn : find b.es p n f = none) :
    Calls Tryz.prog 18 #[.pointer (some ⟨b.p, 0, none⟩), .string p, .agg #[.int .u64 n, .string f]] w fun e w' => e = .returned (.tuple #[nullE.val, .bool false]) ∧ At [BookP b] w [BookP b] w' := by
  obtain ⟨kl, hk⟩ := keyP hp h0 h1 hf
  have hmiss := Lib.hid (find_none hn)
  have hA := begin0 h
  have hF := hA.facts
  clear h hn
  (try simp only [uA] at hA); have hF := hA.facts; (try simp only [fA, and_true, true_and] at hF)
  unfold keyV at *
  go_enter Tryz.func18, Tryz.ntmps18
  go_wp2_with (first | ((with_reducible refine gst ?_); refine wS hA ?_; clear hF hA; intro w1 hA; (try simp only [uA] at hA); have hF := hA.facts; (try simp only [fA, and_true, true_and] at hF)) | ((with_reducible refine gbx ?_); refine wB hA ?_; clear hF hA; intro b1 w1 hA hb1; (try simp only [uA] at hA); have hF := hA.facts; (try simp only [fA, and_true, true_and] at hF)) | ((with_reducible refine gal ?_); refine wA 51 (.agg #[.string .empty, .int .u64 0, .string .empty, .int .i64 0, .int .u64 0, .int .i64 0]) [.string .empty, .int .u64 0, .string .empty, .int .i64 0, .int .u64 0, .int .i64 0] hA ?_; clear hF hA; intro b1 w1 hA hb1; (try simp only [uA] at hA); have hF := hA.facts; (try simp only [fA, and_true, true_and] at hF)))
  have hB := hA.alloc [.string ⟨#[]⟩, .int .u64 0, .string ⟨#[]⟩, .int .i64 0, .int .u64 0, .int .i64 0] 51
  have hl0 : (Instr.lookup 88 (.map (some b.m)) (.agg #[.string p, .int .u64 n, .string f]) true).run Tryz.prog w1.drew = .ok (.tuple #[nullE.val, .bool false]) w1.drew :=
    MapAt.look_none (hA.drew.get (A := mapC b.m (ents b.es)) sR) lawP Tryz.underlying88 hk hmiss.out (by kernel_rfl) true
  have hl1 : (Instr.lookup 88 (.map (some b.m)) (.agg #[.string p, .int .u64 n, .string f]) true).run Tryz.prog (w1.alloc (.cells #[.string ⟨#[]⟩, .int .u64 0, .string ⟨#[]⟩, .int .i64 0, .int .u64 0, .int .i64 0] 51)).drew = .ok (.tuple #[nullE.val, .bool false]) (w1.alloc (.cells #[.string ⟨#[]⟩, .int .u64 0, .string ⟨#[]⟩, .int .i64 0, .int .u64 0, .int .i64 0] 51)).drew :=
    MapAt.look_none (hB.drew.get (A := mapC b.m (ents b.es)) sR) lawP Tryz.underlying88 hk hmiss.out (by kernel_rfl) true
  unfold nullE Ent.val at hl0 hl1
  clear hB
  go_region
  all_goals
    have hB : At [BookP b] w _ (w1.alloc (.cells #[.string .empty, .int .u64 0, .string .empty, .int .i64 0, .int .u64 0, .int .i64 0] 51)).drew := (hA.alloc [.string .empty, .int .u64 0, .string .empty, .int .i64 0, .int .u64 0, .int .i64 0] 51).drew
    clear hF hA hl0 hl1
    generalize (w1.alloc (.cells #[.string .empty, .int .u64 0, .string .empty, .int .i64 0, .int .u64 0, .int .i64 0] 51)).drew = w2 at *
    have hA := hB
    clear hB
    (try simp only [uA] at hA); have hF := hA.facts; (try simp only [fA, and_true, true_and] at hF)
    go_wp2_with (first | ((with_reducible refine gst ?_); refine wS hA ?_; clear hF hA; intro w1 hA; (try simp only [uA] at hA); have hF := hA.facts; (try simp only [fA, and_true, true_and] at hF)) | ((with_reducible refine gbx ?_); refine wB hA ?_; clear hF hA; intro b1 w1 hA hb1; (try simp only [uA] at hA); have hF := hA.facts; (try simp only [fA, and_true, true_and] at hF)))
    refine bodyPost_ret (v := .tuple #[nullE.val, .bool false]) (by simp [results, Tryz.results18, go_sem, hF, nullE, Ent.val]) rfl ⟨rfl, ?_⟩
    exact close0 b hA sR sR sR
set_option maxRecDepth 100000 in
theorem find_yes {w : World} {b : Bk} (h : Sep [BookP b] w) {p : ByteArray} {n : Int} {f : ByteArray} (hp : p.size ≤ maxLen) (h0 : 0 ≤ n) (h1 : n < big64) (hf : f.size ≤ maxLen) {x : Ent} (hn : find b.es p n f = some x) :
    Calls Tryz.prog 18 #[.pointer (some ⟨b.p, 0, none⟩), .string p, .agg #[.int .u64 n, .string f]] w fun e w' => e = .returned (.tuple #[x.val, .bool true]) ∧ At [BookP b] w [BookP b] w' := by
  obtain ⟨kl, hk⟩ := keyP hp h0 h1 hf
  have hmem := Lib.hid (find_mem hn)
  have hA := begin0 h
  have hF := hA.facts
  clear h hn
  (try simp only [uA] at hA); have hF := hA.facts; (try simp only [fA, and_true, true_and] at hF)
  unfold keyV Ent.val at *
  go_enter Tryz.func18, Tryz.ntmps18
  go_wp2_with (first | ((with_reducible refine gst ?_); refine wS hA ?_; clear hF hA; intro w1 hA; (try simp only [uA] at hA); have hF := hA.facts; (try simp only [fA, and_true, true_and] at hF)) | ((with_reducible refine gbx ?_); refine wB hA ?_; clear hF hA; intro b1 w1 hA hb1; (try simp only [uA] at hA); have hF := hA.facts; (try simp only [fA, and_true, true_and] at hF)) | ((with_reducible refine gal ?_); refine wA 51 (.agg #[.string .empty, .int .u64 0, .string .empty, .int .i64 0, .int .u64 0, .int .i64 0]) [.string .empty, .int .u64 0, .string .empty, .int .i64 0, .int .u64 0, .int .i64 0] hA ?_; clear hF hA; intro b1 w1 hA hb1; (try simp only [uA] at hA); have hF := hA.facts; (try simp only [fA, and_true, true_and] at hF)))
  (have hl0 : (Instr.lookup 88 (.map (some b.m)) (.agg #[.string p, .int .u64 n, .string f]) true).run Tryz.prog w1.drew = .ok (.tuple #[.agg #[.string x.path, .int .u64 x.num, .string x.foot, .int .i64 x.mode, .int .u64 x.n, .int .i64 x.stamp], .bool true]) w1.drew := MapAt.look_some (hA.drew.get (A := mapC b.m (ents b.es)) sR) lawP Tryz.underlying88 hk hmem.out true); (have hl1 : (Instr.lookup 88 (.map (some b.m)) (.agg #[.string p, .int .u64 n, .string f]) true).run Tryz.prog (w1.alloc (.cells #[.string ⟨#[]⟩, .int .u64 0, .string ⟨#[]⟩, .int .i64 0, .int .u64 0, .int .i64 0] 51)).drew = .ok (.tuple #[.agg #[.string x.path, .int .u64 x.num, .string x.foot, .int .i64 x.mode, .int .u64 x.n, .int .i64 x.stamp], .bool true]) (w1.alloc (.cells #[.string ⟨#[]⟩, .int .u64 0, .string ⟨#[]⟩, .int .i64 0, .int .u64 0, .int .i64 0] 51)).drew := MapAt.look_some ((hA.alloc [.string ⟨#[]⟩, .int .u64 0, .string ⟨#[]⟩, .int .i64 0, .int .u64 0, .int .i64 0] 51).drew.get (A := mapC b.m (ents b.es)) sR) lawP Tryz.underlying88 hk hmem.out true); go_region; all_goals ((have hB : At [BookP b] w _ (w1.alloc (.cells #[.string x.path, .int .u64 x.num, .string x.foot, .int .i64 x.mode, .int .u64 x.n, .int .i64 x.stamp] 51)).drew := (hA.alloc [.string x.path, .int .u64 x.num, .string x.foot, .int .i64 x.mode, .int .u64 x.n, .int .i64 x.stamp] 51).drew); (clear hF hA hl0 hl1); (generalize (w1.alloc (.cells #[.string x.path, .int .u64 x.num, .string x.foot, .int .i64 x.mode, .int .u64 x.n, .int .i64 x.stamp] 51)).drew = w2 at *); (have hA := hB); (clear hB); (try simp only [uA] at hA); have hF := hA.facts; (try simp only [fA, and_true, true_and] at hF))
  all_goals
    go_wp2_with (first | ((with_reducible refine gst ?_); refine wS hA ?_; clear hF hA; intro w1 hA; (try simp only [uA] at hA); have hF := hA.facts; (try simp only [fA, and_true, true_and] at hF)) | ((with_reducible refine gbx ?_); refine wB hA ?_; clear hF hA; intro b1 w1 hA hb1; (try simp only [uA] at hA); have hF := hA.facts; (try simp only [fA, and_true, true_and] at hF)))
    refine bodyPost_ret (v := .tuple #[.agg #[.string x.path, .int .u64 x.num, .string x.foot, .int .i64 x.mode, .int .u64 x.n, .int .i64 x.stamp], .bool true]) (by simp [results, Tryz.results18, go_sem, hF]) rfl ⟨rfl, ?_⟩
    exact close0 b hA sR sR sR
end Go.Proofs.YtpebabaigakagaaGreatDoor.Lock
end

section
namespace Go.Proofs.YtpebabaigakagaaGreatDoor.Lock
open Go.RowKit
open Go.Maps (Keyed)
open Path (bl rightB overB)
set_option linter.unusedSimpArgs false
set_option linter.unusedVariables false

/-- an entry, read back -/
def unE : Value × Value → Ent
  | (_, .agg #[.string p, .int _ n, .string f, .int _ m, .int _ k, .int _ s]) => ⟨p, n, f, m, k, s⟩
  | _ => nullE
theorem unE_ent (e : Ent) : unE (ent e) = e := rfl
theorem un_ents (l : List Ent) : (ents l).map unE = l := by
  unfold ents
  rw [List.map_map]
  conv => rhs; rw [← List.map_id l]
  rfl
theorem ents_perm {l r : List Ent} (h : (ents l).Perm (ents r)) : l.Perm r := by
  have := h.map unE
  rwa [un_ents, un_ents] at this
theorem ents_snoc (ds : List Ent) (s : Ent) : ents ds ++ [ent s] = ents (ds ++ [s]) := by simp [ents]
theorem ent_mem {e : Ent} {l : List Ent} (h : ent e ∈ ents l) : e ∈ l := by
  have := List.mem_map_of_mem (f := unE) h
  rwa [un_ents] at this
/-- the greatest stamp of those that overlap a path -/
def maxS (l : List Ent) (p : ByteArray) : Int := l.foldl (fun m e => if overB (bl e.path) (bl p) then max m e.stamp else m) 0
theorem maxS_snoc (l : List Ent) (e : Ent) (p : ByteArray) : maxS (l ++ [e]) p = if overB (bl e.path) (bl p) then max (maxS l p) e.stamp else maxS l p := by simp [maxS, List.foldl_append]
theorem maxS_perm {l r : List Ent} (h : l.Perm r) (p : ByteArray) : maxS l p = maxS r p := by
  unfold maxS
  refine h.foldl_eq' (fun x _ y _ z => ?_) 0
  split <;> split <;> omega
theorem maxS_le {l : List Ent} {p : ByteArray} {B : Int} (hB : 0 ≤ B) (h : ∀ e ∈ l, e.stamp ≤ B) : 0 ≤ maxS l p ∧ maxS l p ≤ B := by
  have : ∀ (l : List Ent) (m : Int), (∀ e ∈ l, e.stamp ≤ B) → 0 ≤ m → m ≤ B → 0 ≤ l.foldl (fun m e => if overB (bl e.path) (bl p) then max m e.stamp else m) m ∧ l.foldl (fun m e => if overB (bl e.path) (bl p) then max m e.stamp else m) m ≤ B := by
    intro l
    induction l with
    | nil => intro m _ h1 h2; exact ⟨h1, h2⟩
    | cons e l ih =>
      intro m hl h1 h2
      have := hl e (by simp)
      rw [List.foldl_cons]
      refine ih _ (fun x hx => hl x (by simp [hx])) ?_ ?_ <;> split <;> omega
  exact this l 0 h (Int.le_refl 0) hB
/-- is nothing with a lower stamp in an entry's way? -/
def clearB (l : List Ent) (e : Ent) : Bool := l.all (fun x => !(decide (x.stamp < e.stamp) && wayB x e))
theorem clearB_perm {l r : List Ent} (h : l.Perm r) (e : Ent) : clearB l e = clearB r e := h.all_eq

def StRel (b : Bk) (r : Nat) (p : ByteArray) (w : World) (k : Nat) (v : Value) (wr : World) : Prop :=
  ∃ ds : List Ent, At [BookP b] w [Part.iter Tryz.prog 90 r b.m (ents b.es) (ents ds), headC b.p b.m b.c b.first, ctrC b.c (ctrs b.cs)] wr ∧ (∀ s ∈ ds, s ∈ b.es) ∧ v = .int .i64 (maxS ds p) ∧ ds.length + k = b.es.length
set_option maxRecDepth 100000 in
theorem stamp_any {w : World} {b : Bk} (h : Sep [BookP b] w) (p : ByteArray) (hp : p.size ≤ 1000000) (hok : ∀ x ∈ b.es, x.path.size ≤ 1000000 ∧ x.stamp ≤ 1000000000) :
    Calls Tryz.prog 155 #[.pointer (some ⟨b.p, 0, none⟩), .string p] w fun e w' => e = .returned (.int .i64 (maxS b.es p + 1)) ∧ At [BookP b] w [BookP b] w' := by
  have hA := begin0 h
  (try simp only [uA] at hA); have hF := hA.facts; (try simp only [fA, and_true, true_and] at hF)
  clear h
  go_enter Tryz.func155, Tryz.ntmps155
  go_wp2_with (first | ((with_reducible refine gst ?_); refine wS hA ?_; clear hF hA; intro w1 hA; (try simp only [uA] at hA); have hF := hA.facts; (try simp only [fA, and_true, true_and] at hF)) | ((with_reducible refine gbx ?_); refine wB hA ?_; clear hF hA; intro b1 w1 hA hb1; (try simp only [uA] at hA); have hF := hA.facts; (try simp only [fA, and_true, true_and] at hF)) | (refine wpList_range_at rfl rfl rfl hA sR Tryz.underlying88 ?_; intro r w1 hB hr; clear hF hA; have hA := hB; clear hB; (try simp only [uA] at hA); have hF := hA.facts; (try simp only [fA, and_true, true_and] at hF)))
  go_frame
  go_loopg [5] b.es.length (StRel b r p w)
  case atStart => exact ⟨[], hA, nofun, by simp [maxS], by simp⟩
  case round =>
    obtain ⟨ds, hA2, hds, rfl, hk⟩ := hrel
    clear hF hA
    have hA := hA2
    clear hA2
    (try simp only [uA] at hA); have hF := hA.facts; (try simp only [fA, and_true, true_and] at hF)
    go_step
    go_step
    refine wpList_next_at rfl rfl rfl hA sR (fun hp => ?_) (fun q w1 hq hd hB => ?_)
    · have hc := Lib.hid (maxS_perm (ents_perm hp) p)
      have hb := maxS_le (p := p) (B := 1000000000) (by omega) (fun e he => (hok e (hds e he)).2)
      have hM := At.ranged hA sR
      clear hp
      go_wp2_with fail
      go_ret
      exact ⟨by rw [hc.out]; rfl, close0 b hM sR sR sR⟩
    · obtain ⟨s, hs, rfl⟩ := List.mem_map.1 hq
      have hI : IterAt Tryz.prog 90 w1 r b.m (ents b.es) (ents ds ++ [ent s]) := hB.get (A := Part.iter _ _ r b.m (ents b.es) (ents ds ++ [ent s])) sR
      have hen := hI.entry
      have hlen : (ds ++ [s]).length ≤ b.es.length := by have := hI.len; simpa [ents] using this
      have hsub : ∀ x ∈ ds ++ [s], x ∈ b.es := fun x hx => by
        rcases List.mem_append.1 hx with hx | hx
        · exact hds x hx
        · have : x = s := by simpa using hx
          rw [this]; exact hs
      rw [ents_snoc] at hB
      have hb := maxS_le (p := p) (B := 1000000000) (by omega) (fun e he => (hok e (hds e he)).2)
      obtain ⟨hs1, hs2⟩ := hok s hs
      clear hF hA
      have hA := hB
      have hk' := Lib.hid hk
      have hsub' := Lib.hid hsub
      have hsn := maxS_snoc ds s p
      have ho := fun w => Path.overlap_any s.path p w (by omega) (by omega)
      simp only [List.length_append, List.length_cons, List.length_nil, Nat.zero_add] at hlen
      clear hI hB hk hsub hds hq hd hs
      (try simp only [uA] at hA); have hF := hA.facts; (try simp only [fA, and_true, true_and] at hF)
      simp only [ent, Ent.key, Ent.val, keyV] at hen
      generalize overB (bl s.path) (bl p) = ob at *
      generalize maxS ds p = mx at *
      have hsn' := Lib.hid hsn
      clear hsn
      go_wp2_with (first | ((with_reducible refine gst ?_); refine wS hA ?_; clear hF hA; intro w1 hA; (try simp only [uA] at hA); have hF := hA.facts; (try simp only [fA, and_true, true_and] at hF)) | ((with_reducible refine gbx ?_); refine wB hA ?_; clear hF hA; intro b1 w1 hA hb1; (try simp only [uA] at hA); have hF := hA.facts; (try simp only [fA, and_true, true_and] at hF)) | ((with_reducible refine gal ?_); refine wA 51 (.agg #[.string .empty, .int .u64 0, .string .empty, .int .i64 0, .int .u64 0, .int .i64 0]) [.string .empty, .int .u64 0, .string .empty, .int .i64 0, .int .u64 0, .int .i64 0] hA ?_; clear hF hA; intro b1 w1 hA hb1; (try simp only [uA] at hA); have hF := hA.facts; (try simp only [fA, and_true, true_and] at hF)))
      refine (ho _).mono ?_
      clear ho
      rintro e w2 ⟨rfl, hx⟩
      have hB := hA.ext hx
      clear hF hA hx; have hA := hB; clear hB
      (try simp only [uA] at hA); have hF := hA.facts; (try simp only [fA, and_true, true_and] at hF)
      cases ob
      all_goals
        go_wp2_with (first | ((with_reducible refine gst ?_); refine wS hA ?_; clear hF hA; intro w1 hA; (try simp only [uA] at hA); have hF := hA.facts; (try simp only [fA, and_true, true_and] at hF)) | ((with_reducible refine gbx ?_); refine wB hA ?_; clear hF hA; intro b1 w1 hA hb1; (try simp only [uA] at hA); have hF := hA.facts; (try simp only [fA, and_true, true_and] at hF)) | ((with_reducible refine gal ?_); refine wA 51 (.agg #[.string .empty, .int .u64 0, .string .empty, .int .i64 0, .int .u64 0, .int .i64 0]) [.string .empty, .int .u64 0, .string .empty, .int .i64 0, .int .u64 0, .int .i64 0] hA ?_; clear hF hA; intro b1 w1 hA hb1; (try simp only [uA] at hA); have hF := hA.facts; (try simp only [fA, and_true, true_and] at hF)))
        go_roundg (gk - 1)
        case measure => have := hk'.out; omega
        case rel => exact ⟨ds ++ [s], hA.only3 sR sR sR, hsub'.out, by rw [hsn'.out]; rfl, by have := hk'.out; simp; omega⟩
end Go.Proofs.YtpebabaigakagaaGreatDoor.Lock
end

section
namespace Go.Proofs.YtpebabaigakagaaGreatDoor.Lock
open Go.RowKit
open Go.Maps (Keyed)
open Path (bl rightB overB)
set_option linter.unusedSimpArgs false
set_option linter.unusedVariables false

theorem clearB_mem {l : List Ent} {x e : Ent} (h : x ∈ l) (h1 : x.stamp < e.stamp) (h2 : wayB x e = true) : clearB l e = false := by
  unfold clearB
  rw [List.all_eq_false]
  exact ⟨x, h, by simp [h1, h2]⟩
theorem clearB_snoc (l : List Ent) (x e : Ent) : clearB (l ++ [x]) e = (clearB l e && !(decide (x.stamp < e.stamp) && wayB x e)) := by simp [clearB]
def ClRel (b : Bk) (r bE : Nat) (e : Ent) (w : World) (k : Nat) (wr : World) : Prop :=
  ∃ ds : List Ent, At [BookP b] w [Part.iter Tryz.prog 90 r b.m (ents b.es) (ents ds), headC b.p b.m b.c b.first, ctrC b.c (ctrs b.cs), Part.cells bE [.string e.path, .int .u64 e.num, .string e.foot, .int .i64 e.mode, .int .u64 e.n, .int .i64 e.stamp] 51] wr ∧ (∀ s ∈ ds, s ∈ b.es) ∧ clearB ds e = true ∧ ds.length + k = b.es.length
set_option maxRecDepth 100000 in
theorem clear_any {w : World} {b : Bk} (h : Sep [BookP b] w) (e : Ent) (he : e.path.size ≤ 1000000) (hok : ∀ x ∈ b.es, x.path.size ≤ 1000000) :
    Calls Tryz.prog 133 #[.pointer (some ⟨b.p, 0, none⟩), .agg #[.string e.path, .int .u64 e.num, .string e.foot, .int .i64 e.mode, .int .u64 e.n, .int .i64 e.stamp]] w fun o w' => o = .returned (.bool (clearB b.es e)) ∧ At [BookP b] w [BookP b] w' := by
  have hA := begin0 h
  (try simp only [uA] at hA); have hF := hA.facts; (try simp only [fA, and_true, true_and] at hF)
  clear h
  go_enter Tryz.func133, Tryz.ntmps133
  go_wp2_with (first | ((with_reducible refine gbx ?_); refine wB (E := 51) hA ?_; clear hF hA; intro bE w1 hA hbE; (try simp only [uA] at hA); have hF := hA.facts; (try simp only [fA, and_true, true_and] at hF)) | ((with_reducible refine gst ?_); refine wS hA ?_; clear hF hA; intro w1 hA; (try simp only [uA] at hA); have hF := hA.facts; (try simp only [fA, and_true, true_and] at hF)) | ((with_reducible refine gbx ?_); refine wB hA ?_; clear hF hA; intro b1 w1 hA hb1; (try simp only [uA] at hA); have hF := hA.facts; (try simp only [fA, and_true, true_and] at hF)) | (refine wpList_range_at rfl rfl rfl hA sR Tryz.underlying88 ?_; intro r w1 hB hr; clear hF hA; have hA := hB; clear hB; (try simp only [uA] at hA); have hF := hA.facts; (try simp only [fA, and_true, true_and] at hF)))
  go_frame
  go_loopg [] b.es.length (ClRel b r bE e w)
  case atStart => exact ⟨[], hA.pick pZ, nofun, rfl, by simp⟩
  case round =>
    obtain ⟨ds, hA2, hds, hcl, hk⟩ := hrel
    clear hF hA
    have hA := hA2
    clear hA2
    (try simp only [uA] at hA); have hF := hA.facts; (try simp only [fA, and_true, true_and] at hF)
    go_step
    go_step
    refine wpList_next_at rfl rfl rfl hA sR (fun hp => ?_) (fun q w1 hq hd hB => ?_)
    · have hc := Lib.hid ((clearB_perm (ents_perm hp) e).trans hcl)
      have hM := At.ranged hA sR
      clear hp hcl
      go_wp2_with fail
      go_ret
      exact ⟨by rw [hc.out]; rfl, close0 b hM sR sR sR⟩
    · obtain ⟨s, hs, rfl⟩ := List.mem_map.1 hq
      have hI : IterAt Tryz.prog 90 w1 r b.m (ents b.es) (ents ds ++ [ent s]) := hB.get (A := Part.iter _ _ r b.m (ents b.es) (ents ds ++ [ent s])) sR
      have hen := hI.entry
      have hlen : (ds ++ [s]).length ≤ b.es.length := by have := hI.len; simpa [ents] using this
      have hsub : ∀ x ∈ ds ++ [s], x ∈ b.es := fun x hx => by
        rcases List.mem_append.1 hx with hx | hx
        · exact hds x hx
        · have : x = s := by simpa using hx
          rw [this]; exact hs
      rw [ents_snoc] at hB
      have hs1 := hok s hs
      clear hF hA
      have hA := hB
      have hk' := Lib.hid hk
      have hsub' := Lib.hid hsub
      have hsn := Lib.hid (clearB_snoc ds s e)
      have hcl' := Lib.hid hcl
      have hbad := Lib.hid (fun h1 h2 => clearB_mem (e := e) hs h1 h2)
      have ho := fun w => way_any s e w hs1 he
      simp only [List.length_append, List.length_cons, List.length_nil, Nat.zero_add] at hlen
      clear hI hB hk hsub hds hq hd hs hcl
      (try simp only [uA] at hA); have hF := hA.facts; (try simp only [fA, and_true, true_and] at hF)
      simp only [ent, Ent.key, Ent.val, keyV] at hen ho
      by_cases hlt : s.stamp < e.stamp
      · have hlt' := Lib.hid hlt
        obtain ⟨wb, hwb⟩ : ∃ wb, wayB s e = wb := ⟨_, rfl⟩
        rw [hwb] at ho
        have hwb' := Lib.hid hwb
        clear hwb
        go_wp2_with (first | ((with_reducible refine gst ?_); refine wS hA ?_; clear hF hA; intro w1 hA; (try simp only [uA] at hA); have hF := hA.facts; (try simp only [fA, and_true, true_and] at hF)) | ((with_reducible refine gbx ?_); refine wB hA ?_; clear hF hA; intro b1 w1 hA hb1; (try simp only [uA] at hA); have hF := hA.facts; (try simp only [fA, and_true, true_and] at hF)) | ((with_reducible refine gal ?_); refine wA 51 (.agg #[.string .empty, .int .u64 0, .string .empty, .int .i64 0, .int .u64 0, .int .i64 0]) [.string .empty, .int .u64 0, .string .empty, .int .i64 0, .int .u64 0, .int .i64 0] hA ?_; clear hF hA; intro b1 w1 hA hb1; (try simp only [uA] at hA); have hF := hA.facts; (try simp only [fA, and_true, true_and] at hF)))
        refine (ho _).mono ?_
        clear ho
        rintro o w2 ⟨rfl, hx⟩
        have hB := hA.ext hx
        clear hF hA hx; have hA := hB; clear hB
        (try simp only [uA] at hA); have hF := hA.facts; (try simp only [fA, and_true, true_and] at hF)
        cases wb
        · go_wp2_with (first | ((with_reducible refine gst ?_); refine wS hA ?_; clear hF hA; intro w1 hA; (try simp only [uA] at hA); have hF := hA.facts; (try simp only [fA, and_true, true_and] at hF)) | ((with_reducible refine gbx ?_); refine wB hA ?_; clear hF hA; intro b1 w1 hA hb1; (try simp only [uA] at hA); have hF := hA.facts; (try simp only [fA, and_true, true_and] at hF)) | ((with_reducible refine gal ?_); refine wA 51 (.agg #[.string .empty, .int .u64 0, .string .empty, .int .i64 0, .int .u64 0, .int .i64 0]) [.string .empty, .int .u64 0, .string .empty, .int .i64 0, .int .u64 0, .int .i64 0] hA ?_; clear hF hA; intro b1 w1 hA hb1; (try simp only [uA] at hA); have hF := hA.facts; (try simp only [fA, and_true, true_and] at hF)))
          go_roundg (gk - 1)
          case measure => have := hk'.out; omega
          case rel => exact ⟨ds ++ [s], hA.pick (by with_reducible repeat (first | exact Picks.nil | refine Picks.cons sR ?_)), hsub'.out, by rw [hsn.out, hcl'.out, hwb'.out]; simp, by have := hk'.out; simp; omega⟩
        · have hM := At.ranged hA sR
          have hc := Lib.hid (hbad.out hlt'.out hwb'.out)
          go_wp2_with fail
          go_ret
          exact ⟨by rw [hc.out]; rfl, close0 b hM sR sR sR⟩
      · have hlt' := Lib.hid hlt
        go_wp2_with (first | ((with_reducible refine gst ?_); refine wS hA ?_; clear hF hA; intro w1 hA; (try simp only [uA] at hA); have hF := hA.facts; (try simp only [fA, and_true, true_and] at hF)) | ((with_reducible refine gbx ?_); refine wB hA ?_; clear hF hA; intro b1 w1 hA hb1; (try simp only [uA] at hA); have hF := hA.facts; (try simp only [fA, and_true, true_and] at hF)) | ((with_reducible refine gal ?_); refine wA 51 (.agg #[.string .empty, .int .u64 0, .string .empty, .int .i64 0, .int .u64 0, .int .i64 0]) [.string .empty, .int .u64 0, .string .empty, .int .i64 0, .int .u64 0, .int .i64 0] hA ?_; clear hF hA; intro b1 w1 hA hb1; (try simp only [uA] at hA); have hF := hA.facts; (try simp only [fA, and_true, true_and] at hF)))
        go_roundg (gk - 1)
        case measure => have := hk'.out; omega
        case rel => exact ⟨ds ++ [s], hA.pick (by with_reducible repeat (first | exact Picks.nil | refine Picks.cons sR ?_)), hsub'.out, by rw [hsn.out, hcl'.out, decide_eq_false (show ¬ s.stamp < e.stamp by have := hlt'.out; omega)]; simp, by have := hk'.out; simp; omega⟩
end Go.Proofs.YtpebabaigakagaaGreatDoor.Lock
end

section
namespace Go.Proofs.YtpebabaigakagaaGreatDoor.Lock
open Go.RowKit
open Go.Maps (Keyed)
open Path (bl rightB overB)
set_option linter.unusedSimpArgs false
set_option linter.unusedVariables false

theorem same_ba (f g : ByteArray) : (f.toList == g.toList) = decide (f = g) := by
  rw [Path.eqB]
  by_cases h : f = g
  · subst h; simp
  · rw [decide_eq_false h, decide_eq_false]
    intro e
    apply h
    unfold bl at e
    have : f.data = g.data := by rw [← Array.toList_inj]; exact e
    cases f; cases g; simp_all
theorem sameS (a c : Int) (f g : ByteArray) (w : World) : (Op.equalIn 10000 25 (.agg #[.int .u64 a, .string f]) (.agg #[.int .u64 c, .string g])).run Tryz.prog w = .ok (decide (a = c ∧ f = g)) w := by
  rw [run_equalIn_agg _ 9999 _ _ _ (by kernel_rfl) (by kernel_rfl)]
  simp [go_sem, Op.eqFields, same_ba]
  by_cases h1 : a = c <;> by_cases h2 : f = g <;> simp [h1, h2]
@[local go_sem] theorem guardS (op : BinOp) (x y : Operand) (a c : Int) (f g : ByteArray) (w : World) : (eqGuard op 25 x y (.agg #[.int .u64 a, .string f]) (.agg #[.int .u64 c, .string g])).run Tryz.prog w = .ok () w := run_eqGuard_agg _ _ _ _ _ _ _ (by kernel_rfl)
@[local go_sem] theorem eqlS (a c : Int) (f g : ByteArray) (w : World) : (binOp .eql 25 (.agg #[.int .u64 a, .string f]) (.agg #[.int .u64 c, .string g])).run Tryz.prog w = .ok (.bool (decide (a = c ∧ f = g))) w := by
  rw [run_eql_struct, sameS]; rfl
theorem sameE (x y : Ent) (w : World) : (Op.equalIn 10000 51 x.val y.val).run Tryz.prog w = .ok (decide (x = y)) w := by
  unfold Ent.val
  rw [run_equalIn_agg _ 9999 _ _ _ (by kernel_rfl) (by kernel_rfl)]
  obtain ⟨p1, n1, f1, m1, k1, s1⟩ := x
  obtain ⟨p2, n2, f2, m2, k2, s2⟩ := y
  simp [go_sem, Op.eqFields, same_ba]
  by_cases h1 : p1 = p2 <;> by_cases h2 : n1 = n2 <;> by_cases h3 : f1 = f2 <;> by_cases h4 : m1 = m2 <;> by_cases h5 : k1 = k2 <;> by_cases h6 : s1 = s2 <;> simp [h1, h2, h3, h4, h5, h6]
@[local go_sem] theorem guardE (op : BinOp) (x y : Operand) (c1 c2 c3 c4 c5 c6 d1 d2 d3 d4 d5 d6 : Value) (w : World) : (eqGuard op 51 x y (.agg #[c1, c2, c3, c4, c5, c6]) (.agg #[d1, d2, d3, d4, d5, d6])).run Tryz.prog w = .ok () w := run_eqGuard_agg _ _ _ _ _ _ _ (by kernel_rfl)
theorem eqlE (x y : Ent) (w : World) : (binOp .eql 51 x.val y.val).run Tryz.prog w = .ok (.bool (decide (x = y))) w := by
  have := sameE x y w
  unfold Ent.val at *
  rw [run_eql_struct, this]; rfl
end Go.Proofs.YtpebabaigakagaaGreatDoor.Lock
end
