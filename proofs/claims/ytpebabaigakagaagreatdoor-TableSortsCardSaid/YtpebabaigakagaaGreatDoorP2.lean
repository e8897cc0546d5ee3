/- LeaseM, LeaseK, MapW, LeaseW, LeaseW2, LeaseW3, joined. -/
import Derived.Test.YtpebabaigakagaaGreatDoorP1
import Derived.Test.YtpebabaigakagaaGreatDoorChecked
import Derived.Deep.Cut
import Derived.Deep.QuietTactic
import Derived.BigQuiet
import Derived.Deep.LoopGhost
set_option linter.unusedSimpArgs false
set_option linter.unusedVariables false
set_option maxRecDepth 100000
set_option maxHeartbeats 16000000
section
namespace Go.Proofs.YtpebabaigakagaaGreatDoor.Lease
open Go.RowKit
structure Ans where
 e : Int
 n : Int
 g : Bool
def Ans.val (a : Ans) : Value := .agg #[.int .i64 a.e, .int .u64 a.n, .bool a.g]
structure Ses where
 num : Int
 foot : ByteArray
 op : Bool
 dead : Bool
 dl : Int
 ttl : Int
 told : List (Int × Ans)
 blk : Nat
 tm : Nat
def Ses.is (s : Ses) (n : Int) (f : ByteArray) : Bool := decide (s.num = n ∧ s.foot = f)
def keyV (n : Int) (f : ByteArray) : Value := .agg #[.int .u64 n, .string f]
def Ses.key (s : Ses) : Value := keyV s.num s.foot
def Ses.ptr (s : Ses) : Value := .pointer (some ⟨s.blk, 0, none⟩)
def Ses.cells (s : Ses) : List Value := [.bool s.op, .bool s.dead, .int .i64 s.dl, .int .i64 s.ttl, .int .i64 0, .map (some s.tm)]
def ent (s : Ses) : Value × Value := (s.key, s.ptr)
def saidE (p : Int × Ans) : Value × Value := (.int .u64 p.1, p.2.val)
def ents (ss : List Ses) : List (Value × Value) := ss.map ent
def saids (l : List (Int × Ans)) : List (Value × Value) := l.map saidE
def sesL (s : Ses) : List Part := [Part.cells s.blk s.cells 83, Part.map Tryz.prog 22 s.tm (saids s.told)]
def sesP (s : Ses) : Part := Part.all (sesL s)
def headP (p m : Nat) : Part := Part.cells p [.map (some m)] 80
def mapP (m : Nat) (ss : List Ses) : Part := Part.map Tryz.prog 25 m (ents ss)
def restP (ss : List Ses) : Part := Part.all (ss.map sesP)
def BookP (p m : Nat) (ss : List Ses) : Part := Part.all [headP p m, mapP m ss, restP ss]
abbrev headC (p m : Nat) : Part := Part.cells p [.map (some m)] 80
abbrev mapC (m : Nat) (es : List (Value × Value)) : Part := Part.map Tryz.prog 25 m es
abbrev toldC (m : Nat) (es : List (Value × Value)) : Part := Part.map Tryz.prog 22 m es
abbrev sesC (b : Nat) (c : List Value) : Part := Part.cells b c 83
theorem eqv0 (p m : Nat) (ss : List Ses) (F : List Part) : Eqv (BookP p m ss :: F) (headC p m :: mapC m (ents ss) :: restP ss :: F) := Eqv.all [headC p m, mapC m (ents ss), restP ss] F
theorem eqvR (l1 l2 : List Ses) (s : Ses) (F : List Part) : Eqv (restP (l1 ++ s :: l2) :: F) (sesC s.blk s.cells :: toldC s.tm (saids s.told) :: restP (l1 ++ l2) :: F) := by
 refine (Eqv.all _ F).trans ?_
 have p1 : ((l1 ++ s :: l2).map sesP ++ F).Perm (sesP s :: ((l1 ++ l2).map sesP ++ F)) := by
  simp only [List.map_append, List.map_cons, List.append_assoc, List.cons_append]
  exact List.perm_middle
 refine (Eqv.perm p1).trans ((Eqv.all (sesL s) _).trans ?_)
 exact (Eqv.all ((l1 ++ l2).map sesP) F).symm.prepend (sesL s)
theorem eqvR' {ss l1 l2 : List Ses} {s : Ses} (e : ss = l1 ++ s :: l2) (F : List Part) : Eqv (restP ss :: F) (sesC s.blk s.cells :: toldC s.tm (saids s.told) :: restP (l1 ++ l2) :: F) := by rw [e]; exact eqvR l1 l2 s F
theorem out' {L0 L F : List Part} {w0 w : World} {ss l1 l2 : List Ses} {s : Ses} (e : ss = l1 ++ s :: l2) (h : At L0 w0 L w) (q : Sel (restP ss) L F) : At L0 w0 (sesC s.blk s.cells :: toldC s.tm (saids s.told) :: restP (l1 ++ l2) :: F) w := (h.take q).to (eqvR' e F)
theorem in' {L0 L F G H : List Part} {w0 w : World} {ss l1 l2 : List Ses} {s : Ses} (e : ss = l1 ++ s :: l2) (h : At L0 w0 L w) (q1 : Sel (sesC s.blk s.cells) L F) (q2 : Sel (toldC s.tm (saids s.told)) F G) (q3 : Sel (restP (l1 ++ l2)) G H) : At L0 w0 (restP ss :: H) w :=
 (h.perm (q1.perm.trans ((q2.perm.trans (q3.perm.cons _)).cons _))).to (eqvR' e H).symm
theorem eqv1 (p m : Nat) (l1 l2 : List Ses) (s : Ses) (F : List Part) : Eqv (BookP p m (l1 ++ s :: l2) :: F) (sesC s.blk s.cells :: toldC s.tm (saids s.told) :: restP (l1 ++ l2) :: headC p m :: mapC m (ents (l1 ++ s :: l2)) :: F) :=
 (eqv0 p m _ F).trans ((Eqv.perm ((List.Perm.cons _ (List.Perm.swap _ _ _)).trans (List.Perm.swap _ _ _))).trans (eqvR l1 l2 s _))
theorem begin0 {w : World} {p m : Nat} {ss : List Ses} (h : Sep [BookP p m ss] w) : At [BookP p m ss] w [headC p m, mapC m (ents ss), restP ss] w := (At.start h).to (eqv0 p m ss [])
theorem begin1 {w : World} {p m : Nat} {l1 l2 : List Ses} {s : Ses} (h : Sep [BookP p m (l1 ++ s :: l2)] w) :
 At [BookP p m (l1 ++ s :: l2)] w [sesC s.blk s.cells, toldC s.tm (saids s.told), restP (l1 ++ l2), headC p m, mapC m (ents (l1 ++ s :: l2))] w :=
 (At.start h).to (eqv1 p m l1 l2 s [])
theorem open1 {L0 L F : List Part} {w0 w : World} {p m : Nat} {l1 l2 : List Ses} {s : Ses} (h : At L0 w0 L w) (q : Sel (BookP p m (l1 ++ s :: l2)) L F) :
 At L0 w0 (sesC s.blk s.cells :: toldC s.tm (saids s.told) :: restP (l1 ++ l2) :: headC p m :: mapC m (ents (l1 ++ s :: l2)) :: F) w := (h.take q).to (eqv1 p m l1 l2 s F)
theorem fold0 {L0 L F G H : List Part} {w0 w : World} {p m : Nat} {ss : List Ses} (h : At L0 w0 L w) (s1 : Sel (headC p m) L F) (s2 : Sel (mapC m (ents ss)) F G) (s3 : Sel (restP ss) G H) : At L0 w0 (BookP p m ss :: H) w :=
 (h.perm (s1.perm.trans ((s2.perm.trans (s3.perm.cons _)).cons _))).to (eqv0 p m ss H).symm
theorem perm1 {L F G H I J : List Part} {A B C D E : Part} (s1 : Sel A L F) (s2 : Sel B F G) (s3 : Sel C G H) (s4 : Sel D H I) (s5 : Sel E I J) : L.Perm (C :: D :: E :: A :: B :: J) :=
 (s1.perm.trans ((s2.perm.trans ((s3.perm.trans ((s4.perm.trans (s5.perm.cons D)).cons C)).cons B)).cons A)).trans (List.perm_append_comm (l₁ := [A, B]) (l₂ := [C, D, E]) |>.append_right J)
theorem fold1 {L0 L F G H I J : List Part} {w0 w : World} {p m : Nat} {l1 l2 : List Ses} {s : Ses} (h : At L0 w0 L w) (s1 : Sel (headC p m) L F) (s2 : Sel (mapC m (ents (l1 ++ s :: l2))) F G)
 (s3 : Sel (sesC s.blk s.cells) G H) (s4 : Sel (toldC s.tm (saids s.told)) H I) (s5 : Sel (restP (l1 ++ l2)) I J) : At L0 w0 (BookP p m (l1 ++ s :: l2) :: J) w :=
 (h.perm (perm1 s1 s2 s3 s4 s5)).to (eqv1 p m l1 l2 s J).symm
theorem fold_new {L0 L F G H I J : List Part} {w0 w : World} {p m : Nat} {ss : List Ses} (s : Ses) (h : At L0 w0 L w) (s1 : Sel (headC p m) L F) (s2 : Sel (mapC m (ents ss ++ [(s.key, s.ptr)])) F G)
 (s3 : Sel (sesC s.blk s.cells) G H) (s4 : Sel (toldC s.tm (saids s.told)) H I) (s5 : Sel (restP ss) I J) : At L0 w0 (BookP p m (ss ++ [s]) :: J) w := by
 have e : ents ss ++ [(s.key, s.ptr)] = ents (ss ++ s :: []) := by simp [ents, ent]
 rw [e] at s2
 exact fold1 (l1 := ss) (l2 := []) h s1 s2 s3 s4 (by rw [List.append_nil]; exact s5)
theorem close0 {L0 L F G H : List Part} {w0 w : World} {p m : Nat} {ss : List Ses} (h : At L0 w0 L w) (s1 : Sel (headC p m) L F) (s2 : Sel (mapC m (ents ss)) F G) (s3 : Sel (restP ss) G H) : At L0 w0 [BookP p m ss] w := (fold0 h s1 s2 s3).only1 .here
theorem close1 {L0 L F G H I J : List Part} {w0 w : World} {p m : Nat} {l1 l2 : List Ses} {s : Ses} (h : At L0 w0 L w) (s1 : Sel (headC p m) L F) (s2 : Sel (mapC m (ents (l1 ++ s :: l2))) F G)
 (s3 : Sel (sesC s.blk s.cells) G H) (s4 : Sel (toldC s.tm (saids s.told)) H I) (s5 : Sel (restP (l1 ++ l2)) I J) : At L0 w0 [BookP p m (l1 ++ s :: l2)] w := (fold1 h s1 s2 s3 s4 s5).only1 .here
theorem close_new {L0 L F G H I J : List Part} {w0 w : World} {p m : Nat} {ss : List Ses} (s : Ses) (h : At L0 w0 L w) (s1 : Sel (headC p m) L F) (s2 : Sel (mapC m (ents ss ++ [(s.key, s.ptr)])) F G)
 (s3 : Sel (sesC s.blk s.cells) G H) (s4 : Sel (toldC s.tm (saids s.told)) H I) (s5 : Sel (restP ss) I J) : At L0 w0 [BookP p m (ss ++ [s])] w := (fold_new s h s1 s2 s3 s4 s5).only1 .here
theorem opened {L0 L F G H I J : List Part} {w0 w : World} {p m : Nat} {l1 l2 : List Ses} {s : Ses} {f : FuncId} {args : Array Value} {v : Value} (h : At L0 w0 L w) (s1 : Sel (headC p m) L F) (s2 : Sel (mapC m (ents (l1 ++ s :: l2))) F G)
 (s3 : Sel (sesC s.blk s.cells) G H) (s4 : Sel (toldC s.tm (saids s.told)) H I) (s5 : Sel (restP (l1 ++ l2)) I J)
 (hc : Sep [BookP p m (l1 ++ s :: l2)] w → Calls Tryz.prog f args w fun e w' => e = .returned v ∧ At [BookP p m (l1 ++ s :: l2)] w [BookP p m (l1 ++ s :: l2)] w') :
 Calls Tryz.prog f args w fun e w' => e = .returned v ∧ At L0 w0 L w' :=
 At.through h ((Eqv.perm (perm1 s1 s2 s3 s4 s5)).trans (eqv1 p m l1 l2 s J).symm) hc
def find (ss : List Ses) (n : Int) (f : ByteArray) : Option Ses := ss.find? (·.is n f)
theorem find_split {ss : List Ses} {n : Int} {f : ByteArray} {s : Ses} (h : find ss n f = some s) : ∃ l1 l2, ss = l1 ++ s :: l2 ∧ s.num = n ∧ s.foot = f ∧ ∀ x ∈ l1, x.is n f = false := by
 obtain ⟨h1, l1, l2, h2, h3⟩ := List.find?_eq_some_iff_append.1 h
 have h4 : s.num = n ∧ s.foot = f := by simpa [Ses.is] using h1
 exact ⟨l1, l2, h2, h4.1, h4.2, fun x hx => by simpa using h3 x hx⟩
theorem find_none {ss : List Ses} {n : Int} {f : ByteArray} (h : find ss n f = none) : ∀ p ∈ ents ss, p.1 ≠ keyV n f := by
 intro p hp
 obtain ⟨s, hs, rfl⟩ := List.mem_map.1 hp
 have h1 : ¬ s.is n f = true := List.find?_eq_none.1 h s hs
 intro e
 apply h1
 simp [ent, Ses.key, keyV] at e
 simp [Ses.is, e]
theorem find_mem {ss : List Ses} {n : Int} {f : ByteArray} {s : Ses} (h : find ss n f = some s) : (keyV n f, s.ptr) ∈ ents ss := by
 obtain ⟨l1, l2, rfl, rfl, rfl, _⟩ := find_split h
 simp [ents, ent, Ses.key]
def said (told : List (Int × Ans)) (r : Int) : Option Ans := (told.find? (·.1 = r)).map (·.2)
theorem said_none {told : List (Int × Ans)} {r : Int} (h : said told r = none) : ∀ p ∈ saids told, p.1 ≠ .int .u64 r := by
 intro p hp
 obtain ⟨s, hs, rfl⟩ := List.mem_map.1 hp
 unfold said at h
 simp at h
 intro e
 simp [saidE] at e
 exact h s.1 s.2 hs e
theorem said_mem {told : List (Int × Ans)} {r : Int} {a : Ans} (h : said told r = some a) : (.int .u64 r, a.val) ∈ saids told := by
 unfold said at h
 simp only [Option.map_eq_some_iff] at h
 obtain ⟨q, h1, h2⟩ := h
 have h3 := List.find?_some h1
 have h4 := List.mem_of_find?_eq_some h1
 refine List.mem_map.2 ⟨q, h4, ?_⟩
 simp at h3
 simp [saidE, h3, h2]
end Go.Proofs.YtpebabaigakagaaGreatDoor.Lease
end
section
namespace Go.Proofs.YtpebabaigakagaaGreatDoor.Lease
open Go.RowKit
open Go.Maps (Keyed)
theorem laidOut : laidOutB Tryz.prog = true := by kernel_rfl
theorem wideS : (match Tryz.prog.underlying 25 with | some (.array _ _) | some (.struct _) => true | _ => false) = true := by kernel_rfl
theorem rowS : (25 : TypeId) < Tryz.prog.types.size := of_decide_eq_true (by kernel_rfl)
theorem lawS : Keyed Tryz.prog 25 := Keyed.of_law (deep_law_laid laidOut (m := 2) (by omega) rowS (by kernel_rfl) wideS)
theorem lawU : Keyed Tryz.prog 22 := Go.Maps.int_keyed Tryz.underlying22
theorem keyTypeS : Tryz.prog.keyType 25 = true := by kernel_rfl
theorem cellsS : Tryz.prog.cellsOf 25 = 2 := by kernel_rfl
theorem cellsU : Tryz.prog.cellsOf 22 = 1 := by kernel_rfl
theorem cellsStr : Tryz.prog.cellsOf 9 = 1 := by kernel_rfl
theorem formedS (c0 c1 : Value) : (Value.agg #[c0, c1]).formed Tryz.prog 25 = true := by simp [Value.formed, Tryz.underlying25, cellsS]
def big64 : Int := 18446744073709551616
theorem keyS {n : Int} {f : ByteArray} (h0 : 0 ≤ n) (h1 : n < big64) (hf : f.size ≤ maxLen) : ∃ l, keyOf Tryz.prog 25 (keyV n f) = some l := by
 have hw : (Lit.int .u64 n).wf = true := by simp [Lit.wf, IntKind.min, IntKind.max, IntKind.signed, IntKind.bits]; unfold big64 at h1; omega
 obtain ⟨d, hd⟩ : ∃ d, Tryz.prog.types.size = d + 1 := Nat.exists_eq_succ_of_ne_zero (Nat.ne_of_gt (Nat.lt_of_le_of_lt (Nat.zero_le _) rowS))
 have hl : Tryz.prog.keyLits (Tryz.prog.types.size + 1) 25 [.int .u64 n, .string f] = some [.int .u64 n, .string f.data.toList] := by
  rw [hd]
  simp [Program.keyLits, Tryz.underlying25, Tryz.underlying22, Tryz.underlying9, cellsS, cellsU, cellsStr, hw, hf]
 exact ⟨.string (keyBytes [.int .u64 n, .string f.data.toList]), by
  unfold keyOf
  rw [Tryz.underlying25]
  simp only [keyTypeS, keyV, formedS, Bool.and_self, if_true]
  rw [show (Value.agg #[.int .u64 n, .string f]).cells.toList = [.int .u64 n, .string f] from rfl, hl]
  rfl⟩
theorem keyU {n : Int} (h0 : 0 ≤ n) (h1 : n < big64) : ∃ l, keyOf Tryz.prog 22 (.int .u64 n) = some l :=
 ⟨_, Go.Maps.keyOf_int_mk Tryz.underlying22 (by simp [Lit.wf, IntKind.min, IntKind.max, IntKind.signed, IntKind.bits]; unfold big64 at h1; omega)⟩
end Go.Proofs.YtpebabaigakagaaGreatDoor.Lease
end
section
namespace Go.Proofs.YtpebabaigakagaaGreatDoor
open Go.RowKit
open Go.Maps (Keyed)
section
variable {P : Program} {k : TypeId} {w : World} {b : Nat} {es : List (Value × Value)}
theorem MapAt.run_len (h : MapAt P k w b es) {t e : TypeId} (ht : P.underlying t = some (.map k e)) (ty : TypeId) : (Builtin.len_ #[t] ty #[.map (some b)]).run P w = .ok (.int .i64 es.length) w := by
 obtain ⟨ents, clock, hb, hl⟩ := h.len
 simp [Builtin.len_, run_underlying ht, MapKept.run_getObj_map hb, Result.andThen, goInt, hl]
variable {ops : Array Oper} {rest : List Oper} {o : Oper} {a : Act} {Q : Exit → Act → World → Prop} {L0 L F : List Part} {w0 : World}
theorem wpList_len_map_at {t : TypeId} {m : Operand} (hg : o.guard = none) (hop : o.op = Op.call { callee := Callee.builtin Builtin.len, args := #[m], argTypes := #[t] }) (hm : a.eval m = .map (some b))
 (h : At L0 w0 L w) (s : Sel (Part.map P k b es) L F) {e : TypeId} (ht : P.underlying t = some (.map k e))
 (hK : wpList P ops Q rest (a.put o.dst (.int .i64 es.length)) w) : wpList P ops Q (o :: rest) a w := by
 have hM : MapAt P k w b es := h.get s
 refine wpList_val hg ?_ hK
 simp [execOp, hop, resolve, invoke, builtin, hm, hM.run_len ht o.type, Result.andThen]
theorem wpList_look_none_at {t : TypeId} {m x : Operand} (hg : o.guard = none) (hop : o.op = .lookup t m x true) (hm : a.eval m = .map (some b)) {key : Value} (hx : a.eval x = key)
 (h : At L0 w0 L w) (s : Sel (Part.map P k b es) L F) {e : TypeId} (K : Keyed P k) (ht : P.underlying t = some (.map k e)) {kl : Lit} (hk : keyOf P k key = some kl) (hn : ∀ p ∈ es, p.1 ≠ key) {z : Value} (hz : ∀ w, (zeroValue e).run P w = .ok z w)
 (hK : wpList P ops Q rest (a.put o.dst (.tuple #[z, .bool false])) w) : wpList P ops Q (o :: rest) a w := by
 have hM : MapAt P k w b es := h.get s
 refine wpList_val hg ?_ hK
 simp [execOp, hop, hm, hx, hM.look_none K ht hk hn (hz w) true, Result.andThen]
theorem wpList_look_some_at {t : TypeId} {m x : Operand} (hg : o.guard = none) (hop : o.op = .lookup t m x true) (hm : a.eval m = .map (some b)) {key : Value} (hx : a.eval x = key)
 (h : At L0 w0 L w) (s : Sel (Part.map P k b es) L F) {e : TypeId} (K : Keyed P k) (ht : P.underlying t = some (.map k e)) {kl : Lit} (hk : keyOf P k key = some kl) {v : Value} (hn : (key, v) ∈ es)
 (hK : wpList P ops Q rest (a.put o.dst (.tuple #[v, .bool true])) w) : wpList P ops Q (o :: rest) a w := by
 have hM : MapAt P k w b es := h.get s
 refine wpList_val hg ?_ hK
 simp [execOp, hop, hm, hx, hM.look_some K ht hk hn true, Result.andThen]
theorem wpList_put_new_at {t : TypeId} {m x y : Operand} (hg : o.guard = none) (hop : o.op = .mapUpdate t m x y) (hm : a.eval m = .map (some b)) {key val : Value} (hx : a.eval x = key) (hy : a.eval y = val)
 (h : At L0 w0 L w) (s : Sel (Part.map P k b es) L F) {e : TypeId} (K : Keyed P k) (ht : P.underlying t = some (.map k e)) {kl : Lit} (hk : keyOf P k key = some kl) (hn : ∀ p ∈ es, p.1 ≠ key)
 (hK : ∀ w', At L0 w0 (Part.map P k b (es ++ [(key, val)]) :: F) w' → wpList P ops Q rest (a.put o.dst undef) w') : wpList P ops Q (o :: rest) a w := by
 have hM : MapAt P k w b es := h.get s
 obtain ⟨w', h1, h2, h3⟩ := hM.put_new K ht hk hn val
 refine wpList_unit hg ?_ (hK w' (h.turn s _ h2 (fun _ e => .inl e) h3))
 simp [execOp, hop, hm, hx, hy, h1, Result.andThen]
theorem wpList_put_there_at {t : TypeId} {m x y : Operand} (hg : o.guard = none) (hop : o.op = .mapUpdate t m x y) (hm : a.eval m = .map (some b)) {key val u : Value} {l1 l2 : List (Value × Value)} (hx : a.eval x = key) (hy : a.eval y = val)
 (h : At L0 w0 L w) (s : Sel (Part.map P k b (l1 ++ (key, u) :: l2)) L F) {e : TypeId} (K : Keyed P k) (ht : P.underlying t = some (.map k e)) {kl : Lit} (hk : keyOf P k key = some kl)
 (hK : ∀ w', At L0 w0 (Part.map P k b (l1 ++ (key, val) :: l2) :: F) w' → wpList P ops Q rest (a.put o.dst undef) w') : wpList P ops Q (o :: rest) a w := by
 have hM : MapAt P k w b (l1 ++ (key, u) :: l2) := h.get s
 obtain ⟨w', h1, h2, h3⟩ := hM.put_there K ht hk val
 refine wpList_unit hg ?_ (hK w' (h.turn s _ h2 (fun _ e => .inl e) h3))
 simp [execOp, hop, hm, hx, hy, h1, Result.andThen]
theorem wpList_makeMap_at {t : TypeId} (P : Program) (k : TypeId) (hg : o.guard = none) (hop : o.op = .makeMap t none) (h : At L0 w0 L w)
 (hK : ∀ b w', At L0 w0 (Part.map P k b [] :: L) w' → w0.heap.size ≤ b → wpList P ops Q rest (a.put o.dst (.map (some b))) w') : wpList P ops Q (o :: rest) a w := by
 refine wpList_val hg ?_ (hK _ _ (h.new ((Ext.refl w).alloc (.map #[] 0)) _ (MapAt.made P k w) (fun _ e => by cases e; exact Nat.le_refl _)) h.size)
 simp [execOp, hop, run_makeMap, Result.andThen]
theorem wpList_range_at {t : TypeId} {m : Operand} (hg : o.guard = none) (hop : o.op = .range t m) (hm : a.eval m = .map (some b)) (h : At L0 w0 L w) (s : Sel (Part.map P k b es) L F) {e : TypeId} (ht : P.underlying t = some (.map k e))
 (hK : ∀ r w', At L0 w0 (Part.iter P k r b es [] :: F) w' → w0.heap.size ≤ r → wpList P ops Q rest (a.put o.dst (.pointer (some ⟨r, 0, none⟩))) w') : wpList P ops Q (o :: rest) a w := by
 have hM : MapAt P k w b es := h.get s
 obtain ⟨w', h1, h2, h3⟩ := hM |> fun q => IterAt.start q ht
 refine wpList_val hg ?_ (hK _ w' (h.turn s (Part.iter P k w.heap.size b es []) h3 (fun q e => ?_) (h2.exc _)) h.size)
 · simp [execOp, hop, hm, h1, Result.andThen]
 · rcases e with e | e
   · exact .inl e
   · exact .inr (by omega)
theorem wpList_next_at {r : Nat} {done : List (Value × Value)} {it : Operand} (hg : o.guard = none) (hop : o.op = .next it false) (hi : a.eval it = .pointer (some ⟨r, 0, none⟩)) (h : At L0 w0 L w) (s : Sel (Part.iter P k r b es done) L F)
 (hEnd : es.Perm done → wpList P ops Q rest (a.put o.dst (.tuple #[.bool false])) w)
 (hK : ∀ p w', p ∈ es → (∀ q ∈ done, q.1 ≠ p.1) → At L0 w0 (Part.iter P k r b es (done ++ [p]) :: F) w' → wpList P ops Q rest (a.put o.dst (.tuple #[.bool true, p.1, p.2])) w') : wpList P ops Q (o :: rest) a w := by
 have hI : IterAt P k w r b es done := h.get s
 rcases hI.next o.type with ⟨h1, h2⟩ | ⟨p, w', h1, h2, h3, h4, h5⟩
 · refine wpList_val hg ?_ (hEnd h1)
   simp [execOp, hop, hi, h2, Result.andThen]
 · refine wpList_val hg ?_ (hK p w' h1 h2 (h.turn s (Part.iter P k r b es (done ++ [p])) h4 (fun q e => .inl e) (h5.mono (fun _ _ e => .inr e))))
   simp [execOp, hop, hi, h3, Result.andThen]
theorem At.ranged {r : Nat} {done : List (Value × Value)} (h : At L0 w0 L w) (s : Sel (Part.iter P k r b es done) L F) : At L0 w0 (Part.map P k b es :: F) w := by
 have hI : IterAt P k w r b es done := h.get s
 exact h.turn s (Part.map P k b es) hI.1 (fun _ e => .inl (.inl e)) (Exc.refl _ _)
end
end Go.Proofs.YtpebabaigakagaaGreatDoor
end
section
namespace Go.Proofs.YtpebabaigakagaaGreatDoor.Lease
open Go.RowKit
open Go.Maps (Keyed)
def infoOf (o : Option Ses) : Value :=
 match o with
 | none => .agg #[.bool false, .bool false, .int .i64 0, .int .i64 0, .int .i64 0]
 | some s => .agg #[.bool s.op, .bool s.dead, .int .i64 s.dl, .int .i64 s.ttl, .int .i64 s.told.length]
theorem info_none {w : World} {p m : Nat} {ss : List Ses} (h : Sep [BookP p m ss] w) {n : Int} {f : ByteArray} (h0 : 0 ≤ n) (h1 : n < big64) (hf : f.size ≤ maxLen) (hn : find ss n f = none) :
 Calls Tryz.prog 14 #[.pointer (some ⟨p, 0, none⟩), keyV n f] w fun e w' => e = .returned (infoOf none) ∧ At [BookP p m ss] w [BookP p m ss] w' := by
 obtain ⟨kl, hk⟩ := keyS h0 h1 hf
 have hmiss := Lib.hid (find_none hn)
 have hA := begin0 h
 have hF := hA.facts
 clear h
 unfold keyV at *
 go_enter Tryz.func14, Tryz.ntmps14
 go_wp2_with (first | ((with_reducible refine gbx ?_); refine wC hA ?_; clear hF hA; intro b1 w1 hA hb1 hF; (try simp only [uY] at hA hF)) | ((with_reducible refine gal ?_); refine wG 38 [.bool false, .bool false, .int .i64 0, .int .i64 0, .int .i64 0] hA ?_; clear hF hA; intro b1 w1 hA hb1 hF; (try simp only [uY] at hA hF)))
 have hl : ∀ q, (Instr.lookup 78 (.map (some m)) (.agg #[.int .u64 n, .string f]) true).run Tryz.prog (w1.drewN q) = .ok (.tuple #[.pointer none, .bool false]) (w1.drewN q) := fun q =>
  MapAt.look_none (w := w1.drewN q) ((hA.drewN q).get (A := Part.map Tryz.prog 25 m (ents ss)) sR) lawS Tryz.underlying78 hk hmiss.out (by kernel_rfl) true
 go_quiet (fail)
 have hA := hA.drewN nq; generalize World.drewN _ nq = w1 at *; clear hF; have hF := hA.facts; (try simp only [uY] at hA hF)
 go_wp2_with ((with_reducible refine gst ?_); refine wT hA ?_; clear hF hA; intro w1 hA hF; (try simp only [uY] at hA hF))
 refine bodyPost_ret (v := infoOf none) (by simp [infoOf, results, Tryz.results14, go_sem, hF]) rfl ⟨rfl, ?_⟩
 exact close0 (m := m) (ss := ss) hA sR sR sR
theorem info_some {w : World} {p m : Nat} {ss : List Ses} (h : Sep [BookP p m ss] w) {n : Int} {f : ByteArray} (h0 : 0 ≤ n) (h1 : n < big64) (hf : f.size ≤ maxLen) {s : Ses} (hn : find ss n f = some s) :
 Calls Tryz.prog 14 #[.pointer (some ⟨p, 0, none⟩), keyV n f] w fun e w' => e = .returned (infoOf (some s)) ∧ At [BookP p m ss] w [BookP p m ss] w' := by
 obtain ⟨kl, hk⟩ := keyS h0 h1 hf
 have hmem := Lib.hid (find_mem hn)
 obtain ⟨l1, l2, rfl, _, _, _⟩ := find_split hn
 have hA := begin1 h
 simp only [Ses.cells] at hA
 have hF := hA.facts; (try simp only [uY] at hA hF)
 clear h hn
 unfold keyV at *
 go_enter Tryz.func14, Tryz.ntmps14
 go_wp2_with (first | ((with_reducible refine gbx ?_); refine wC hA ?_; clear hF hA; intro b1 w1 hA hb1 hF; (try simp only [uY] at hA hF)) | ((with_reducible refine gal ?_); refine wG 38 [.bool false, .bool false, .int .i64 0, .int .i64 0, .int .i64 0] hA ?_; clear hF hA; intro b1 w1 hA hb1 hF; (try simp only [uY] at hA hF)))
 have hl : ∀ q, (Instr.lookup 78 (.map (some m)) (.agg #[.int .u64 n, .string f]) true).run Tryz.prog (w1.drewN q) = .ok (.tuple #[s.ptr, .bool true]) (w1.drewN q) := fun q =>
  MapAt.look_some (w := w1.drewN q) ((hA.drewN q).get (A := Part.map Tryz.prog 25 m (ents (l1 ++ s :: l2))) sR) lawS Tryz.underlying78 hk hmem.out true
 unfold Ses.ptr at hl
 go_quiet (fail)
 have hA := hA.drewN nq; generalize World.drewN _ nq = w1 at *; clear hF; have hF := hA.facts; (try simp only [uY] at hA hF)
 go_wp2_with (first | ((with_reducible refine gst ?_); refine wT hA ?_; clear hF hA; intro w1 hA hF; (try simp only [uY] at hA hF)) | ((with_reducible refine gal ?_); refine wG 38 [.bool false, .bool false, .int .i64 0, .int .i64 0, .int .i64 0] hA ?_; clear hF hA; intro b1 w1 hA hb1 hF; (try simp only [uY] at hA hF)) | (refine wpList_len_map_at rfl rfl rfl hA sR Tryz.underlying81 ?_))
 refine bodyPost_ret (v := infoOf (some s)) (by simp [infoOf, saids, results, Tryz.results14, go_sem, hF]) rfl ⟨rfl, ?_⟩
 exact close1 (m := m) (s := s) hA sR sR sZ sR sR
end Go.Proofs.YtpebabaigakagaaGreatDoor.Lease
end
section
namespace Go.Proofs.YtpebabaigakagaaGreatDoor.Lease
open Go.RowKit
open Go.Maps (Keyed)
def fresh (n : Int) (f : ByteArray) (b t : Nat) : Ses := ⟨n, f, false, false, 0, 0, [], b, t⟩
def look (ss : List Ses) (n : Int) (f : ByteArray) : Ses := (find ss n f).getD (fresh n f 0 0)
def Ses.info (s : Ses) : Value := .agg #[.bool s.op, .bool s.dead, .int .i64 s.dl, .int .i64 s.ttl, .int .i64 s.told.length]
theorem info_any {w : World} {p m : Nat} {ss : List Ses} (h : Sep [BookP p m ss] w) {n : Int} {f : ByteArray} (h0 : 0 ≤ n) (h1 : n < big64) (hf : f.size ≤ maxLen) :
 Calls Tryz.prog 14 #[.pointer (some ⟨p, 0, none⟩), .agg #[.int .u64 n, .string f]] w fun e w' => e = .returned ((look ss n f).info) ∧ At [BookP p m ss] w [BookP p m ss] w' := by
 cases hn : find ss n f with
 | none => have := info_none h h0 h1 hf hn; unfold look; rw [hn]; exact this
 | some s => have := info_some h h0 h1 hf hn; unfold look; rw [hn]; exact this
def KnownPost (p m : Nat) (ss : List Ses) (n : Int) (f : ByteArray) (w : World) (e : Ending) (w' : World) : Prop :=
 ∃ b t, e = .returned (.pointer (some ⟨b, 0, none⟩)) ∧ At [BookP p m ss] w [BookP p m (ss ++ [fresh n f b t])] w'
theorem known_none {w : World} {p m : Nat} {ss : List Ses} (h : Sep [BookP p m ss] w) {n : Int} {f : ByteArray} (h0 : 0 ≤ n) (h1 : n < big64) (hf : f.size ≤ maxLen) (hn : find ss n f = none) :
 Calls Tryz.prog 69 #[.pointer (some ⟨p, 0, none⟩), .agg #[.int .u64 n, .string f]] w (KnownPost p m ss n f w) := by
 obtain ⟨kl, hk⟩ := keyS h0 h1 hf
 have hmiss := Lib.hid (find_none hn)
 have hA := begin0 h
 have hF := hA.facts
 clear h
 unfold keyV at *
 go_enter Tryz.func69, Tryz.ntmps69
 go_wp2_with ((with_reducible refine gbx ?_); refine wC hA ?_; clear hF hA; intro b1 w1 hA hb1 hF; (try simp only [uY] at hA hF))
 have hl : ∀ q, (Instr.lookup 78 (.map (some m)) (.agg #[.int .u64 n, .string f]) true).run Tryz.prog (w1.drewN q) = .ok (.tuple #[.pointer none, .bool false]) (w1.drewN q) := fun q =>
  MapAt.look_none (w := w1.drewN q) ((hA.drewN q).get (A := mapC m (ents ss)) sR) lawS Tryz.underlying78 hk hmiss.out (by kernel_rfl) true
 go_quiet (fail)
 have hA := hA.drewN nq; generalize World.drewN _ nq = w1 at *; clear hF; have hF := hA.facts; (try simp only [uY] at hA hF)
 go_wp2_with (first | ((with_reducible refine gbx ?_); refine wC hA ?_; clear hF hA; intro b1 w1 hA hb1 hF; (try simp only [uY] at hA hF)) | (refine wpList_makeMap_at Tryz.prog 22 rfl rfl hA ?_; intro b2 w1 hB hb2; clear hF hA; have hA := hB; clear hB; have hF := hA.facts; (try simp only [uY] at hA hF)))
 (refine wp_region_head 6 (fun w' => ∃ n, w' = World.drewN _ n) (by kernel_rfl) (by kernel_rfl) ⟨1, rfl⟩ ?_); (simp only [List.take_succ_cons, List.take_zero, List.drop_succ_cons, List.drop_zero]); (repeat (first | go_big_quiet_step (fail) | quiet_step (fail))); (refine wpQuiet_nil ?_); (rintro _ ⟨nq, rfl⟩)
 have hA := hA.drewN nq; generalize World.drewN _ nq = w1 at *; clear hF; have hF := hA.facts; (try simp only [uY] at hA hF)
 refine wpList_put_new_at rfl rfl rfl (by (try simp only [Act.eval, eV]) <;> exact rfl) (by (try simp only [Act.eval, eV]) <;> exact rfl) hA sR lawS Tryz.underlying78 hk hmiss.out ?_
 intro w1 hB; clear hF hA; have hA := hB; clear hB; have hF := hA.facts; (try simp only [uY] at hA hF)
 go_wp2_with fail
 go_ret
 exact ⟨_, _, rfl, close_new (fresh n f _ _) hA sR sZ sZ sZ sR⟩
theorem known_some {w : World} {p m : Nat} {ss : List Ses} (h : Sep [BookP p m ss] w) {n : Int} {f : ByteArray} (h0 : 0 ≤ n) (h1 : n < big64) (hf : f.size ≤ maxLen) {s : Ses} (hn : find ss n f = some s) :
 Calls Tryz.prog 69 #[.pointer (some ⟨p, 0, none⟩), .agg #[.int .u64 n, .string f]] w fun e w' => e = .returned (.pointer (some ⟨s.blk, 0, none⟩)) ∧ At [BookP p m ss] w [BookP p m ss] w' := by
 obtain ⟨kl, hk⟩ := keyS h0 h1 hf
 have hmem := Lib.hid (find_mem hn)
 have hA := begin0 h
 have hF := hA.facts
 clear h
 unfold keyV at *
 go_enter Tryz.func69, Tryz.ntmps69
 go_wp2_with ((with_reducible refine gbx ?_); refine wC hA ?_; clear hF hA; intro b1 w1 hA hb1 hF; (try simp only [uY] at hA hF))
 have hl : ∀ q, (Instr.lookup 78 (.map (some m)) (.agg #[.int .u64 n, .string f]) true).run Tryz.prog (w1.drewN q) = .ok (.tuple #[s.ptr, .bool true]) (w1.drewN q) := fun q =>
  MapAt.look_some (w := w1.drewN q) ((hA.drewN q).get (A := mapC m (ents ss)) sR) lawS Tryz.underlying78 hk hmem.out true
 unfold Ses.ptr at hl
 go_quiet (fail)
 have hA := hA.drewN nq; generalize World.drewN _ nq = w1 at *; clear hF; have hF := hA.facts; (try simp only [uY] at hA hF)
 go_wp2_with fail
 go_ret
 exact ⟨rfl, close0 (m := m) (ss := ss) hA sR sR sR⟩
theorem told_none {w : World} {p m : Nat} {ss : List Ses} (h : Sep [BookP p m ss] w) {n r : Int} {f : ByteArray} (h0 : 0 ≤ n) (h1 : n < big64) (hf : f.size ≤ maxLen) (hn : find ss n f = none) :
 Calls Tryz.prog 23 #[.pointer (some ⟨p, 0, none⟩), .agg #[.int .u64 n, .string f], .int .u64 r] w fun e w' => e = .returned (.tuple #[.agg #[.int .i64 0, .int .u64 0, .bool false], .bool false]) ∧ At [BookP p m ss] w [BookP p m ss] w' := by
 obtain ⟨kl, hk⟩ := keyS h0 h1 hf
 have hmiss := Lib.hid (find_none hn)
 have hA := begin0 h
 have hF := hA.facts
 clear h
 unfold keyV at *
 go_enter Tryz.func23, Tryz.ntmps23
 go_wp2_with (first | ((with_reducible refine gbx ?_); refine wC hA ?_; clear hF hA; intro b1 w1 hA hb1 hF; (try simp only [uY] at hA hF)) | ((with_reducible refine gal ?_); refine wG 48 [.int .i64 0, .int .u64 0, .bool false] hA ?_; clear hF hA; intro b1 w1 hA hb1 hF; (try simp only [uY] at hA hF)))
 have hl : ∀ q, (Instr.lookup 78 (.map (some m)) (.agg #[.int .u64 n, .string f]) true).run Tryz.prog (w1.drewN q) = .ok (.tuple #[.pointer none, .bool false]) (w1.drewN q) := fun q =>
  MapAt.look_none (w := w1.drewN q) ((hA.drewN q).get (A := mapC m (ents ss)) sR) lawS Tryz.underlying78 hk hmiss.out (by kernel_rfl) true
 go_quiet (fail)
 have hA := hA.drewN nq; generalize World.drewN _ nq = w1 at *; clear hF; have hF := hA.facts; (try simp only [uY] at hA hF)
 go_wp2_with ((with_reducible refine gst ?_); refine wT hA ?_; clear hF hA; intro w1 hA hF; (try simp only [uY] at hA hF))
 refine bodyPost_ret (v := .tuple #[.agg #[.int .i64 0, .int .u64 0, .bool false], .bool false]) (by simp [results, Tryz.results23, go_sem, hF]) rfl ⟨rfl, ?_⟩
 exact close0 (m := m) (ss := ss) hA sR sR sR
theorem told_new {w : World} {p m : Nat} {ss : List Ses} (h : Sep [BookP p m ss] w) {n r : Int} {f : ByteArray} (h0 : 0 ≤ n) (h1 : n < big64) (hf : f.size ≤ maxLen) {s : Ses} (hn : find ss n f = some s) (r0 : 0 ≤ r) (r1 : r < big64) (hr : said s.told r = none) :
 Calls Tryz.prog 23 #[.pointer (some ⟨p, 0, none⟩), .agg #[.int .u64 n, .string f], .int .u64 r] w fun e w' => e = .returned (.tuple #[.agg #[.int .i64 0, .int .u64 0, .bool false], .bool false]) ∧ At [BookP p m ss] w [BookP p m ss] w' := by
 obtain ⟨kl, hk⟩ := keyS h0 h1 hf
 obtain ⟨ku, hu⟩ := keyU r0 r1
 have hmem := Lib.hid (find_mem hn)
 have hmiss := Lib.hid (said_none hr)
 obtain ⟨l1, l2, rfl, _, _, _⟩ := find_split hn
 have hA := begin1 h
 simp only [Ses.cells] at hA
 have hF := hA.facts; (try simp only [uY] at hA hF)
 clear h hn
 unfold keyV at *
 go_enter Tryz.func23, Tryz.ntmps23
 go_wp2_with (first | ((with_reducible refine gbx ?_); refine wC hA ?_; clear hF hA; intro b1 w1 hA hb1 hF; (try simp only [uY] at hA hF)) | ((with_reducible refine gal ?_); refine wG 48 [.int .i64 0, .int .u64 0, .bool false] hA ?_; clear hF hA; intro b1 w1 hA hb1 hF; (try simp only [uY] at hA hF)))
 have hl : ∀ q, (Instr.lookup 78 (.map (some m)) (.agg #[.int .u64 n, .string f]) true).run Tryz.prog (w1.drewN q) = .ok (.tuple #[s.ptr, .bool true]) (w1.drewN q) := fun q =>
  MapAt.look_some (w := w1.drewN q) ((hA.drewN q).get (A := mapC m (ents (l1 ++ s :: l2))) sR) lawS Tryz.underlying78 hk hmem.out true
 unfold Ses.ptr at hl
 go_quiet (fail)
 have hA := hA.drewN nq; generalize World.drewN _ nq = w1 at *; clear hF; have hF := hA.facts; (try simp only [uY] at hA hF)
 go_wp2_with (first | ((with_reducible refine gst ?_); refine wT hA ?_; clear hF hA; intro w1 hA hF; (try simp only [uY] at hA hF)) | ((with_reducible refine gal ?_); refine wG 48 [.int .i64 0, .int .u64 0, .bool false] hA ?_; clear hF hA; intro b1 w1 hA hb1 hF; (try simp only [uY] at hA hF)) | (refine wpList_look_none_at rfl rfl rfl (by (try simp only [Act.eval, eV]) <;> exact rfl) hA (k := 22) (es := saids s.told) sR lawU Tryz.underlying81 hu hmiss.out (z := .agg #[.int .i64 0, .int .u64 0, .bool false]) (fun _ => by kernel_rfl) ?_))
 refine bodyPost_ret (v := .tuple #[.agg #[.int .i64 0, .int .u64 0, .bool false], .bool false]) (by simp [results, Tryz.results23, go_sem, hF]) rfl ⟨rfl, ?_⟩
 exact close1 (m := m) (s := s) hA sR sR sZ sR sR
theorem told_old {w : World} {p m : Nat} {ss : List Ses} (h : Sep [BookP p m ss] w) {n r : Int} {f : ByteArray} (h0 : 0 ≤ n) (h1 : n < big64) (hf : f.size ≤ maxLen) {s : Ses} (hn : find ss n f = some s) (r0 : 0 ≤ r) (r1 : r < big64) {a : Ans} (hr : said s.told r = some a) :
 Calls Tryz.prog 23 #[.pointer (some ⟨p, 0, none⟩), .agg #[.int .u64 n, .string f], .int .u64 r] w fun e w' => e = .returned (.tuple #[.agg #[.int .i64 a.e, .int .u64 a.n, .bool a.g], .bool true]) ∧ At [BookP p m ss] w [BookP p m ss] w' := by
 obtain ⟨kl, hk⟩ := keyS h0 h1 hf
 obtain ⟨ku, hu⟩ := keyU r0 r1
 have hmem := Lib.hid (find_mem hn)
 have hthere := Lib.hid (said_mem hr)
 obtain ⟨l1, l2, rfl, _, _, _⟩ := find_split hn
 have hA := begin1 h
 simp only [Ses.cells] at hA
 have hF := hA.facts; (try simp only [uY] at hA hF)
 clear h hn
 unfold keyV Ans.val at *
 go_enter Tryz.func23, Tryz.ntmps23
 go_wp2_with (first | ((with_reducible refine gbx ?_); refine wC hA ?_; clear hF hA; intro b1 w1 hA hb1 hF; (try simp only [uY] at hA hF)) | ((with_reducible refine gal ?_); refine wG 48 [.int .i64 0, .int .u64 0, .bool false] hA ?_; clear hF hA; intro b1 w1 hA hb1 hF; (try simp only [uY] at hA hF)))
 have hl : ∀ q, (Instr.lookup 78 (.map (some m)) (.agg #[.int .u64 n, .string f]) true).run Tryz.prog (w1.drewN q) = .ok (.tuple #[s.ptr, .bool true]) (w1.drewN q) := fun q =>
  MapAt.look_some (w := w1.drewN q) ((hA.drewN q).get (A := mapC m (ents (l1 ++ s :: l2))) sR) lawS Tryz.underlying78 hk hmem.out true
 unfold Ses.ptr at hl
 go_quiet (fail)
 have hA := hA.drewN nq; generalize World.drewN _ nq = w1 at *; clear hF; have hF := hA.facts; (try simp only [uY] at hA hF)
 go_wp2_with (first | ((with_reducible refine gst ?_); refine wT hA ?_; clear hF hA; intro w1 hA hF; (try simp only [uY] at hA hF)) | ((with_reducible refine gal ?_); refine wG 48 [.int .i64 0, .int .u64 0, .bool false] hA ?_; clear hF hA; intro b1 w1 hA hb1 hF; (try simp only [uY] at hA hF)) | (refine wpList_look_some_at rfl rfl rfl (by (try simp only [Act.eval, eV]) <;> exact rfl) hA (k := 22) (es := saids s.told) sR lawU Tryz.underlying81 hu hthere.out ?_))
 refine bodyPost_ret (v := .tuple #[.agg #[.int .i64 a.e, .int .u64 a.n, .bool a.g], .bool true]) (by simp [results, Tryz.results23, go_sem, hF]) rfl ⟨rfl, ?_⟩
 exact close1 (m := m) (s := s) hA sR sR sZ sR sR
end Go.Proofs.YtpebabaigakagaaGreatDoor.Lease
end
section
namespace Go.Proofs.YtpebabaigakagaaGreatDoor.Lease
open Go.RowKit
open Go.Maps (Keyed)
theorem room_yes {w : World} {p m : Nat} {ss : List Ses} (h : Sep [BookP p m ss] w) {n : Int} {f : ByteArray} (h0 : 0 ≤ n) (h1 : n < big64) (hf : f.size ≤ maxLen) (hr : (look ss n f).told.length < 256) :
 Calls Tryz.prog 22 #[.pointer (some ⟨p, 0, none⟩), .agg #[.int .u64 n, .string f]] w fun e w' => e = .returned (.bool true) ∧ At [BookP p m ss] w [BookP p m ss] w' := by
 have hA := At.start h
 have hF := hA.facts
 have hlt : ((look ss n f).told.length : Int) < 256 := by omega
 clear h
 have hfd : ∀ a b c d e w, (Instr.field 38 (.agg #[a, b, c, d, e]) 4).run Tryz.prog w = .ok e w := fun _ _ _ _ _ _ => by kernel_rfl
 go_enter Tryz.func22, Tryz.ntmps22
 go_wp2_with ((with_reducible refine gbx ?_); refine wC hA ?_; clear hF hA; intro b1 w1 hA hb1 hF; (try simp only [uY] at hA hF))
 refine (info_any (hA.sep1 sR) h0 h1 hf).mono ?_
 unfold Ses.info
 rintro e w1 ⟨rfl, hT⟩; have hB := hA.call1 sR hT; clear hF hA hT; have hA := hB; clear hB; have hF := hA.facts; (try simp only [uY] at hA hF)
 go_wp2_with fail
 go_ret
 exact ⟨rfl, hA.only1 sR⟩
theorem room_no {w : World} {p m : Nat} {ss : List Ses} (h : Sep [BookP p m ss] w) {n : Int} {f : ByteArray} (h0 : 0 ≤ n) (h1 : n < big64) (hf : f.size ≤ maxLen) (hr : ¬ (look ss n f).told.length < 256) :
 Calls Tryz.prog 22 #[.pointer (some ⟨p, 0, none⟩), .agg #[.int .u64 n, .string f]] w fun e w' => e = .returned (.bool false) ∧ At [BookP p m ss] w [BookP p m ss] w' := by
 have hA := At.start h
 have hF := hA.facts
 have hlt : decide (((look ss n f).told.length : Int) < 256) = false := by simp; omega
 clear h
 have hfd : ∀ a b c d e w, (Instr.field 38 (.agg #[a, b, c, d, e]) 4).run Tryz.prog w = .ok e w := fun _ _ _ _ _ _ => by kernel_rfl
 go_enter Tryz.func22, Tryz.ntmps22
 go_wp2_with ((with_reducible refine gbx ?_); refine wC hA ?_; clear hF hA; intro b1 w1 hA hb1 hF; (try simp only [uY] at hA hF))
 refine (info_any (hA.sep1 sR) h0 h1 hf).mono ?_
 unfold Ses.info
 rintro e w1 ⟨rfl, hT⟩; have hB := hA.call1 sR hT; clear hF hA hT; have hA := hB; clear hB; have hF := hA.facts; (try simp only [uY] at hA hF)
 go_wp2_with fail
 go_ret
 exact ⟨rfl, hA.only1 sR⟩
theorem tell_old {w : World} {p m : Nat} {ss : List Ses} (h : Sep [BookP p m ss] w) {n r : Int} {f : ByteArray} (h0 : 0 ≤ n) (h1 : n < big64) (hf : f.size ≤ maxLen) {s : Ses} (hn : find ss n f = some s) (r0 : 0 ≤ r) (r1 : r < big64) {a : Ans} (hr : said s.told r = some a) (c : Ans) :
 Calls Tryz.prog 41 #[.pointer (some ⟨p, 0, none⟩), .agg #[.int .u64 n, .string f], .int .u64 r, .agg #[.int .i64 c.e, .int .u64 c.n, .bool c.g]] w fun e w' => e = .returned (.tuple #[]) ∧ At [BookP p m ss] w [BookP p m ss] w' := by
 have hA := At.start h
 have hF := hA.facts
 clear h
 go_enter Tryz.func41, Tryz.ntmps41
 go_wp2_with ((with_reducible refine gbx ?_); refine wC hA ?_; clear hF hA; intro b1 w1 hA hb1 hF; (try simp only [uY] at hA hF))
 refine (told_old (hA.sep1 sR) h0 h1 hf hn r0 r1 hr).mono ?_
 rintro e w1 ⟨rfl, hT⟩; have hB := hA.call1 sR hT; clear hF hA hT; have hA := hB; clear hB; have hF := hA.facts; (try simp only [uY] at hA hF)
 go_wp2_with (first | ((with_reducible refine gst ?_); refine wT hA ?_; clear hF hA; intro w1 hA hF; (try simp only [uY] at hA hF)) | ((with_reducible refine gal ?_); refine wG 48 [.int .i64 0, .int .u64 0, .bool false] hA ?_; clear hF hA; intro b1 w1 hA hb1 hF; (try simp only [uY] at hA hF)))
 refine bodyPost_ret (results_none rfl _ _ _) rfl ?_
 exact ⟨rfl, hA.only1 sR⟩
theorem tell_full {w : World} {p m : Nat} {ss : List Ses} (h : Sep [BookP p m ss] w) {n r : Int} {f : ByteArray} (h0 : 0 ≤ n) (h1 : n < big64) (hf : f.size ≤ maxLen) {s : Ses} (hn : find ss n f = some s) (r0 : 0 ≤ r) (r1 : r < big64) (hr : said s.told r = none) (hl : ¬ s.told.length < 256) (c : Ans) :
 Calls Tryz.prog 41 #[.pointer (some ⟨p, 0, none⟩), .agg #[.int .u64 n, .string f], .int .u64 r, .agg #[.int .i64 c.e, .int .u64 c.n, .bool c.g]] w fun e w' => e = .returned (.tuple #[]) ∧ At [BookP p m ss] w [BookP p m ss] w' := by
 have hA := At.start h
 have hF := hA.facts
 have hl' : ¬ (look ss n f).told.length < 256 := by unfold look; rw [hn]; exact hl
 clear h
 go_enter Tryz.func41, Tryz.ntmps41
 go_wp2_with ((with_reducible refine gbx ?_); refine wC hA ?_; clear hF hA; intro b1 w1 hA hb1 hF; (try simp only [uY] at hA hF))
 refine (told_new (hA.sep1 sR) h0 h1 hf hn r0 r1 hr).mono ?_
 rintro e w1 ⟨rfl, hT⟩; have hB := hA.call1 sR hT; clear hF hA hT; have hA := hB; clear hB; have hF := hA.facts; (try simp only [uY] at hA hF)
 go_wp2_with (first | ((with_reducible refine gst ?_); refine wT hA ?_; clear hF hA; intro w1 hA hF; (try simp only [uY] at hA hF)) | ((with_reducible refine gal ?_); refine wG 48 [.int .i64 0, .int .u64 0, .bool false] hA ?_; clear hF hA; intro b1 w1 hA hb1 hF; (try simp only [uY] at hA hF)))
 refine (room_no (hA.sep1 sR) h0 h1 hf hl').mono ?_
 rintro e w1 ⟨rfl, hT⟩; have hB := hA.call1 sR hT; clear hF hA hT; have hA := hB; clear hB; have hF := hA.facts; (try simp only [uY] at hA hF)
 go_wp2_with fail
 refine bodyPost_ret (results_none rfl _ _ _) rfl ?_
 exact ⟨rfl, hA.only1 sR⟩
theorem tell_new {w : World} {p m : Nat} {l1 l2 : List Ses} {s : Ses} (h : Sep [BookP p m (l1 ++ s :: l2)] w) {n r : Int} {f : ByteArray} (h0 : 0 ≤ n) (h1 : n < big64) (hf : f.size ≤ maxLen) (hn : find (l1 ++ s :: l2) n f = some s) (r0 : 0 ≤ r) (r1 : r < big64) (hr : said s.told r = none) (hl : s.told.length < 256) (c : Ans) :
 Calls Tryz.prog 41 #[.pointer (some ⟨p, 0, none⟩), .agg #[.int .u64 n, .string f], .int .u64 r, .agg #[.int .i64 c.e, .int .u64 c.n, .bool c.g]] w
  fun e w' => e = .returned (.tuple #[]) ∧ At [BookP p m (l1 ++ s :: l2)] w [BookP p m (l1 ++ { s with told := s.told ++ [(r, c)] } :: l2)] w' := by
 obtain ⟨ku, hu⟩ := keyU r0 r1
 have hmiss := Lib.hid (said_none hr)
 have hA := At.start h
 have hF := hA.facts
 have hl' : (look (l1 ++ s :: l2) n f).told.length < 256 := by unfold look; rw [hn]; exact hl
 clear h
 go_enter Tryz.func41, Tryz.ntmps41
 go_wp2_with ((with_reducible refine gbx ?_); refine wC hA ?_; clear hF hA; intro b1 w1 hA hb1 hF; (try simp only [uY] at hA hF))
 refine (told_new (hA.sep1 sR) h0 h1 hf hn r0 r1 hr).mono ?_
 rintro e w1 ⟨rfl, hT⟩; have hB := hA.call1 sR hT; clear hF hA hT; have hA := hB; clear hB; have hF := hA.facts; (try simp only [uY] at hA hF)
 go_wp2_with (first | ((with_reducible refine gst ?_); refine wT hA ?_; clear hF hA; intro w1 hA hF; (try simp only [uY] at hA hF)) | ((with_reducible refine gal ?_); refine wG 48 [.int .i64 0, .int .u64 0, .bool false] hA ?_; clear hF hA; intro b1 w1 hA hb1 hF; (try simp only [uY] at hA hF)))
 refine (room_yes (hA.sep1 sR) h0 h1 hf hl').mono ?_
 rintro e w1 ⟨rfl, hT⟩; have hB := hA.call1 sR hT; clear hF hA hT; have hA := hB; clear hB; have hF := hA.facts; (try simp only [uY] at hA hF)
 go_wp2_with fail
 have hA := open1 hA sR
 simp only [Ses.cells] at hA
 have hF := hA.facts; (try simp only [uY] at hA hF)
 (refine wp_region_head 8 (Cl _ _ _) (by kernel_rfl) (by kernel_rfl) (Cl.drew hA) ?_); (simp only [List.take_succ_cons, List.take_zero, List.drop_succ_cons, List.drop_zero]); (have hn1 := Cl.none hA); (have hn2 := Cl.none2 hA); (repeat (first | go_big_quiet_skip | (go_big_quiet_want; (first | (refine qM 48 3 ?_; go_frame; go_big_quiet_on) | (refine qM 25 2 ?_; go_frame; go_big_quiet_on) | (refine qL ?_; go_frame; go_big_quiet_on) | (go_big_quiet_op; (first | go_big_quiet_on | ((apply Exists.intro); (refine ⟨fun w1 hw => ?_, ?_⟩); (focus ((have hw := Cl.out hw); (exact opened hw sR sR sZ sR sR (fun q => known_some q h0 h1 hf hn)))); (go_big_quiet_on))))))))
 (refine wpQuiet_nil ?_); (intro w1 hB); (clear hF hA hn1 hn2); (have hA := Cl.out hB); (clear hB); have hF := hA.facts; (try simp only [uY] at hA hF)
 refine wpList_put_new_at rfl rfl rfl (by (try simp only [Act.eval, eV]) <;> exact rfl) (by (try simp only [Act.eval, eV]) <;> exact rfl) hA (k := 22) (es := saids s.told) sR lawU Tryz.underlying81 hu hmiss.out ?_
 intro w1 hB; clear hF hA; have hA := hB; clear hB; have hF := hA.facts; (try simp only [uY] at hA hF)
 go_wp2_with fail
 go_end0
 refine ⟨rfl, ?_⟩
 have e1 : saids s.told ++ [(Value.int .u64 r, Value.agg #[.int .i64 c.e, .int .u64 c.n, .bool c.g])] = saids (s.told ++ [(r, c)]) := by simp [saids, saidE, Ans.val]
 have e2 : ents (l1 ++ s :: l2) = ents (l1 ++ { s with told := s.told ++ [(r, c)] } :: l2) := by simp [ents, ent, Ses.key, Ses.ptr]
 rw [e1, e2] at hA
 exact close1 (m := m) (s := { s with told := s.told ++ [(r, c)] }) hA sR sR sZ sR sR
end Go.Proofs.YtpebabaigakagaaGreatDoor.Lease
end
