/- A book of sessions as the walk sees it: its parts; how a session is taken out of them. No program in sight but the numbers of its types. -/
import Derived.Test.YtnkddjomanaadaaMap
import Derived.Test.YtnkddjomanaadaaSepW
import Derived.Test.YtnkddjomanaadaaChecked
namespace Go.Proofs.Ytnkddjomanaadaa.Lease
open Go.RowKit
set_option linter.unusedVariables false
set_option linter.unusedSimpArgs false

/-- an answer -/
structure Ans where
  e : Int
  n : Int
  g : Bool
def Ans.val (a : Ans) : Value := .agg #[.int .i64 a.e, .int .u64 a.n, .bool a.g]
/-- a session: blk its block, tm its map of answers -/
structure Ses where
  num : Int
  foot : ByteArray
  op : Bool
  dead : Bool
  dl : Int
  ttl : Int
  told : List (Int × Ans)
  blk : Nat
  tm : Nat
/-- is it this session? -/
def Ses.is (s : Ses) (n : Int) (f : ByteArray) : Bool := decide (s.num = n ∧ s.foot = f)
def keyV (n : Int) (f : ByteArray) : Value := .agg #[.int .u64 n, .string f]
def Ses.key (s : Ses) : Value := keyV s.num s.foot
def Ses.ptr (s : Ses) : Value := .pointer (some ⟨s.blk, 0, none⟩)
def Ses.cells (s : Ses) : List Value := [.bool s.op, .bool s.dead, .int .i64 s.dl, .int .i64 s.ttl, .int .i64 0, .map (some s.tm)]
def ent (s : Ses) : Value × Value := (s.key, s.ptr)
def saidE (p : Int × Ans) : Value × Value := (.int .u64 p.1, p.2.val)
def ents (ss : List Ses) : List (Value × Value) := ss.map ent
def saids (l : List (Int × Ans)) : List (Value × Value) := l.map saidE
def sesL (s : Ses) : List Part := [Part.cells s.blk s.cells 84, Part.map Try.prog 29 s.tm (saids s.told)]
def sesP (s : Ses) : Part := Part.all (sesL s)
def headP (p m : Nat) : Part := Part.cells p [.map (some m)] 58
def mapP (m : Nat) (ss : List Ses) : Part := Part.map Try.prog 31 m (ents ss)
def restP (ss : List Ses) : Part := Part.all (ss.map sesP)
/-- the book at p, its map at m, its sessions in the order in which they came -/
def BookP (p m : Nat) (ss : List Ses) : Part := Part.all [headP p m, mapP m ss, restP ss]

abbrev headC (p m : Nat) : Part := Part.cells p [.map (some m)] 58
abbrev mapC (m : Nat) (es : List (Value × Value)) : Part := Part.map Try.prog 31 m es
abbrev toldC (m : Nat) (es : List (Value × Value)) : Part := Part.map Try.prog 29 m es
abbrev sesC (b : Nat) (c : List Value) : Part := Part.cells b c 84
theorem eqv0 (p m : Nat) (ss : List Ses) (F : List Part) : Eqv (BookP p m ss :: F) (headC p m :: mapC m (ents ss) :: restP ss :: F) := Eqv.all [headC p m, mapC m (ents ss), restP ss] F
theorem eqvR (l1 l2 : List Ses) (s : Ses) (F : List Part) : Eqv (restP (l1 ++ s :: l2) :: F) (sesC s.blk s.cells :: toldC s.tm (saids s.told) :: restP (l1 ++ l2) :: F) := by
  refine (Eqv.all _ F).trans ?_
  have p1 : ((l1 ++ s :: l2).map sesP ++ F).Perm (sesP s :: ((l1 ++ l2).map sesP ++ F)) := by
    simp only [List.map_append, List.map_cons, List.append_assoc, List.cons_append]
    exact List.perm_middle
  refine (Eqv.perm p1).trans ((Eqv.all (sesL s) _).trans ?_)
  exact (Eqv.all ((l1 ++ l2).map sesP) F).symm.prepend (sesL s)
theorem eqvR' {ss l1 l2 : List Ses} {s : Ses} (e : ss = l1 ++ s :: l2) (F : List Part) : Eqv (restP ss :: F) (sesC s.blk s.cells :: toldC s.tm (saids s.told) :: restP (l1 ++ l2) :: F) := by rw [e]; exact eqvR l1 l2 s F
theorem out' {L0 L F : List Part} {w0 w : World} {ss l1 l2 : List Ses} {s : Ses} (e : ss = l1 ++ s :: l2) (h : At L0 w0 L w) (q : Sel (restP ss) L F) : At L0 w0 (sesC s.blk s.cells :: toldC s.tm (saids s.told) :: restP (l1 ++ l2) :: F) w := (h.take q).to (eqvR' e F)
theorem in' {L0 L F G H : List Part} {w0 w : World} {ss l1 l2 : List Ses} {s : Ses} (e : ss = l1 ++ s :: l2) (h : At L0 w0 L w) (q1 : Sel (sesC s.blk s.cells) L F) (q2 : Sel (toldC s.tm (saids s.told)) F G) (q3 : Sel (restP (l1 ++ l2)) G H) : At L0 w0 (restP ss :: H) w :=
  (h.perm (q1.perm.trans ((q2.perm.trans (q3.perm.cons _)).cons _))).to (eqvR' e H).symm
/-- the book, a session of it taken out -/
theorem eqv1 (p m : Nat) (l1 l2 : List Ses) (s : Ses) (F : List Part) : Eqv (BookP p m (l1 ++ s :: l2) :: F) (sesC s.blk s.cells :: toldC s.tm (saids s.told) :: restP (l1 ++ l2) :: headC p m :: mapC m (ents (l1 ++ s :: l2)) :: F) :=
  (eqv0 p m _ F).trans ((Eqv.perm ((List.Perm.cons _ (List.Perm.swap _ _ _)).trans (List.Perm.swap _ _ _))).trans (eqvR l1 l2 s _))
theorem begin0 {w : World} {p m : Nat} {ss : List Ses} (h : Sep [BookP p m ss] w) : At [BookP p m ss] w [headC p m, mapC m (ents ss), restP ss] w := (At.start h).to (eqv0 p m ss [])
theorem begin1 {w : World} {p m : Nat} {l1 l2 : List Ses} {s : Ses} (h : Sep [BookP p m (l1 ++ s :: l2)] w) :
    At [BookP p m (l1 ++ s :: l2)] w [sesC s.blk s.cells, toldC s.tm (saids s.told), restP (l1 ++ l2), headC p m, mapC m (ents (l1 ++ s :: l2))] w :=
  (At.start h).to (eqv1 p m l1 l2 s [])
theorem open1 {L0 L F : List Part} {w0 w : World} {p m : Nat} {l1 l2 : List Ses} {s : Ses} (h : At L0 w0 L w) (q : Sel (BookP p m (l1 ++ s :: l2)) L F) :
    At L0 w0 (sesC s.blk s.cells :: toldC s.tm (saids s.told) :: restP (l1 ++ l2) :: headC p m :: mapC m (ents (l1 ++ s :: l2)) :: F) w := (h.take q).to (eqv1 p m l1 l2 s F)
theorem fold0 {L0 L F G H : List Part} {w0 w : World} {p m : Nat} {ss : List Ses} (h : At L0 w0 L w) (s1 : Sel (headC p m) L F) (s2 : Sel (mapC m (ents ss)) F G) (s3 : Sel (restP ss) G H) : At L0 w0 (BookP p m ss :: H) w :=
  (h.perm (s1.perm.trans ((s2.perm.trans (s3.perm.cons _)).cons _))).to (eqv0 p m ss H).symm
theorem perm1 {L F G H I J : List Part} {A B C D E : Part} (s1 : Sel A L F) (s2 : Sel B F G) (s3 : Sel C G H) (s4 : Sel D H I) (s5 : Sel E I J) : L.Perm (C :: D :: E :: A :: B :: J) :=
  (s1.perm.trans ((s2.perm.trans ((s3.perm.trans ((s4.perm.trans (s5.perm.cons D)).cons C)).cons B)).cons A)).trans (List.perm_append_comm (l₁ := [A, B]) (l₂ := [C, D, E]) |>.append_right J)
theorem fold1 {L0 L F G H I J : List Part} {w0 w : World} {p m : Nat} {l1 l2 : List Ses} {s : Ses} (h : At L0 w0 L w) (s1 : Sel (headC p m) L F) (s2 : Sel (mapC m (ents (l1 ++ s :: l2))) F G)
    (s3 : Sel (sesC s.blk s.cells) G H) (s4 : Sel (toldC s.tm (saids s.told)) H I) (s5 : Sel (restP (l1 ++ l2)) I J) : At L0 w0 (BookP p m (l1 ++ s :: l2) :: J) w :=
  (h.perm (perm1 s1 s2 s3 s4 s5)).to (eqv1 p m l1 l2 s J).symm
theorem fold_new {L0 L F G H I J : List Part} {w0 w : World} {p m : Nat} {ss : List Ses} (s : Ses) (h : At L0 w0 L w) (s1 : Sel (headC p m) L F) (s2 : Sel (mapC m (ents ss ++ [(s.key, s.ptr)])) F G)
    (s3 : Sel (sesC s.blk s.cells) G H) (s4 : Sel (toldC s.tm (saids s.told)) H I) (s5 : Sel (restP ss) I J) : At L0 w0 (BookP p m (ss ++ [s]) :: J) w := by
  have e : ents ss ++ [(s.key, s.ptr)] = ents (ss ++ s :: []) := by simp [ents, ent]
  rw [e] at s2
  exact fold1 (l1 := ss) (l2 := []) h s1 s2 s3 s4 (by rw [List.append_nil]; exact s5)
theorem close0 {L0 L F G H : List Part} {w0 w : World} {p m : Nat} {ss : List Ses} (h : At L0 w0 L w) (s1 : Sel (headC p m) L F) (s2 : Sel (mapC m (ents ss)) F G) (s3 : Sel (restP ss) G H) : At L0 w0 [BookP p m ss] w := (fold0 h s1 s2 s3).only1 .here
theorem close1 {L0 L F G H I J : List Part} {w0 w : World} {p m : Nat} {l1 l2 : List Ses} {s : Ses} (h : At L0 w0 L w) (s1 : Sel (headC p m) L F) (s2 : Sel (mapC m (ents (l1 ++ s :: l2))) F G)
    (s3 : Sel (sesC s.blk s.cells) G H) (s4 : Sel (toldC s.tm (saids s.told)) H I) (s5 : Sel (restP (l1 ++ l2)) I J) : At L0 w0 [BookP p m (l1 ++ s :: l2)] w := (fold1 h s1 s2 s3 s4 s5).only1 .here
theorem close_new {L0 L F G H I J : List Part} {w0 w : World} {p m : Nat} {ss : List Ses} (s : Ses) (h : At L0 w0 L w) (s1 : Sel (headC p m) L F) (s2 : Sel (mapC m (ents ss ++ [(s.key, s.ptr)])) F G)
    (s3 : Sel (sesC s.blk s.cells) G H) (s4 : Sel (toldC s.tm (saids s.told)) H I) (s5 : Sel (restP ss) I J) : At L0 w0 [BookP p m (ss ++ [s])] w := (fold_new s h s1 s2 s3 s4 s5).only1 .here
/-- a call that leaves the book as it is, a session being out -/
theorem opened {L0 L F G H I J : List Part} {w0 w : World} {p m : Nat} {l1 l2 : List Ses} {s : Ses} {f : FuncId} {args : Array Value} {v : Value} (h : At L0 w0 L w) (s1 : Sel (headC p m) L F) (s2 : Sel (mapC m (ents (l1 ++ s :: l2))) F G)
    (s3 : Sel (sesC s.blk s.cells) G H) (s4 : Sel (toldC s.tm (saids s.told)) H I) (s5 : Sel (restP (l1 ++ l2)) I J)
    (hc : Sep [BookP p m (l1 ++ s :: l2)] w → Calls Try.prog f args w fun e w' => e = .returned v ∧ At [BookP p m (l1 ++ s :: l2)] w [BookP p m (l1 ++ s :: l2)] w') :
    Calls Try.prog f args w fun e w' => e = .returned v ∧ At L0 w0 L w' :=
  At.through h ((Eqv.perm (perm1 s1 s2 s3 s4 s5)).trans (eqv1 p m l1 l2 s J).symm) hc

/-- the session of a number and a footprint -/
def find (ss : List Ses) (n : Int) (f : ByteArray) : Option Ses := ss.find? (·.is n f)
theorem find_split {ss : List Ses} {n : Int} {f : ByteArray} {s : Ses} (h : find ss n f = some s) : ∃ l1 l2, ss = l1 ++ s :: l2 ∧ s.num = n ∧ s.foot = f ∧ ∀ x ∈ l1, x.is n f = false := by
  obtain ⟨h1, l1, l2, h2, h3⟩ := List.find?_eq_some_iff_append.1 h
  have h4 : s.num = n ∧ s.foot = f := by simpa [Ses.is] using h1
  exact ⟨l1, l2, h2, h4.1, h4.2, fun x hx => by simpa using h3 x hx⟩
theorem find_none {ss : List Ses} {n : Int} {f : ByteArray} (h : find ss n f = none) : ∀ p ∈ ents ss, p.1 ≠ keyV n f := by
  intro p hp
  obtain ⟨s, hs, rfl⟩ := List.mem_map.1 hp
  have h1 : ¬ s.is n f = true := List.find?_eq_none.1 h s hs
  intro e
  apply h1
  simp [ent, Ses.key, keyV] at e
  simp [Ses.is, e]
theorem find_mem {ss : List Ses} {n : Int} {f : ByteArray} {s : Ses} (h : find ss n f = some s) : (keyV n f, s.ptr) ∈ ents ss := by
  obtain ⟨l1, l2, rfl, rfl, rfl, _⟩ := find_split h
  simp [ents, ent, Ses.key]
def said (told : List (Int × Ans)) (r : Int) : Option Ans := (told.find? (·.1 = r)).map (·.2)
theorem said_none {told : List (Int × Ans)} {r : Int} (h : said told r = none) : ∀ p ∈ saids told, p.1 ≠ .int .u64 r := by
  intro p hp
  obtain ⟨s, hs, rfl⟩ := List.mem_map.1 hp
  unfold said at h
  simp at h
  intro e
  simp [saidE] at e
  exact h s.1 s.2 hs e
theorem said_mem {told : List (Int × Ans)} {r : Int} {a : Ans} (h : said told r = some a) : (.int .u64 r, a.val) ∈ saids told := by
  unfold said at h
  simp only [Option.map_eq_some_iff] at h
  obtain ⟨q, h1, h2⟩ := h
  have h3 := List.find?_some h1
  have h4 := List.mem_of_find?_eq_some h1
  refine List.mem_map.2 ⟨q, h4, ?_⟩
  simp at h3
  simp [saidE, h3, h2]
end Go.Proofs.Ytnkddjomanaadaa.Lease
