/- LeasePlays: any step; what a book and the document tell of a session are one. -/
import Derived.Test.YtbdcgadcjgmgbaaLeaseJ
import Derived.Laws.StructEq
namespace Go.Proofs.Ytbdcgadcjgmgbaa.Lease
open Go.RowKit
open _root_.Go.Proofs.Ytbdcgadcjgmgbaa.SortU (rowI sortI sortI_perm)
set_option linter.unusedSimpArgs false
set_option linter.unusedVariables false

theorem step_any {w : World} {p m : Nat} {ss : List Ses} {v : Value} {L : List SR} {PL : List (Value × List AR)} (h : Sep [BookP p m ss, rowR v L, poolP PL] w) (hI : Inv ss L PL) (o : OpR) (ho : o.Ok) (hmax : L.length ≤ 100000) (k : Int) :
    Calls Try.prog 7 #[.pointer (some ⟨p, 0, none⟩), .agg #[v], opV k o] w (StepOut w p m ss v L PL) := by
  by_cases h1 : k = 1
  · subst h1; exact step_1 h hI o ho hmax
  by_cases h2 : k = 2
  · subst h2; exact step_2 h hI o ho hmax
  by_cases h3 : k = 3
  · subst h3; exact step_3 h hI o ho hmax
  by_cases h4 : k = 4
  · subst h4; exact step_4 h hI o ho hmax
  by_cases h5 : k = 5
  · subst h5; exact step_5 h hI o ho hmax
  by_cases h6 : k = 6
  · subst h6; exact step_6 h hI o ho hmax
  by_cases h7 : k = 7
  · subst h7; exact step_7 h hI o ho hmax
  exact step_none h hI o ho hmax k h1 h2 h3 h4 h5 h6 h7

/-- a book's information, by the document's session -/
theorem info_look {w : World} {p m : Nat} {ss : List Ses} (h : Sep [BookP p m ss] w) {n : Int} {f : ByteArray} (h0 : 0 ≤ n) (h1 : n < big64) (hf : f.size ≤ maxLen) {s : SR} (hrs : RelS (look ss n f) s) :
    Calls Try.prog 20 #[.pointer (some ⟨p, 0, none⟩), .agg #[.int .u64 n, .string f]] w fun e w' => e = .returned (.agg #[.bool s.op, .bool s.dead, .int .i64 s.dl, .int .i64 s.ttl, .int .i64 s.told.length]) ∧ At [BookP p m ss] w [BookP p m ss] w' := by
  cases hn : find ss n f with
  | none =>
    have hlk : look ss n f = fresh n f 0 0 := by unfold look; rw [hn]; rfl
    rw [hlk] at hrs
    have e := info_none h h0 h1 hf hn
    simp only [infoOf] at e
    rw [← hrs.op, ← hrs.dead, ← hrs.dl, ← hrs.ttl, ← hrs.told.size]
    exact e
  | some t =>
    have hlk : look ss n f = t := by unfold look; rw [hn]; rfl
    rw [hlk] at hrs
    have e := info_some h h0 h1 hf hn
    simp only [infoOf] at e
    rw [← hrs.op, ← hrs.dead, ← hrs.dl, ← hrs.ttl, ← hrs.told.size]
    exact e
theorem room_look {w : World} {p m : Nat} {ss : List Ses} (h : Sep [BookP p m ss] w) {n : Int} {f : ByteArray} (h0 : 0 ≤ n) (h1 : n < big64) (hf : f.size ≤ maxLen) {s : SR} (hrs : RelS (look ss n f) s) {b : Bool} (hb : decide ((s.told.length : Int) < 256) = b) :
    Calls Try.prog 32 #[.pointer (some ⟨p, 0, none⟩), .agg #[.int .u64 n, .string f]] w fun e w' => e = .returned (.bool b) ∧ At [BookP p m ss] w [BookP p m ss] w' := by
  have hl := hrs.told.size
  cases b
  · exact room_no h h0 h1 hf (by have := of_decide_eq_false hb; omega)
  · exact room_yes h h0 h1 hf (by have := of_decide_eq_true hb; omega)
theorem RelT.reqs {told : List (Int × Ans)} {l : List AR} (h : RelT told l) : sortI (told.map (·.1)) = l.map (·.r) := by
  have h1 : (told.map (·.1)).Perm (l.map (·.r)) := by
    have := h.perm.map (·.1)
    rw [List.map_map] at this
    exact this
  rw [sortI_perm h1]
  unfold sortI
  refine List.mergeSort_of_pairwise ?_
  rw [List.pairwise_map]
  exact h.srt.imp fun h => by simp; omega
theorem requests_look {w : World} {p m : Nat} {ss : List Ses} (h : Sep [BookP p m ss] w) {n : Int} {f : ByteArray} (h0 : 0 ≤ n) (h1 : n < big64) (hf : f.size ≤ maxLen) {s : SR} (hrs : RelS (look ss n f) s) :
    Calls Try.prog 33 #[.pointer (some ⟨p, 0, none⟩), .agg #[.int .u64 n, .string f]] w fun e w' => ∃ v, e = .returned v ∧ At [BookP p m ss] w [rowI v (s.told.map (·.r)), BookP p m ss] w' := by
  have hl := hrs.told.size
  have hb := hrs.told.len
  have e := requests_any h h0 h1 hf (by omega)
  unfold ReqPost at e
  rw [show Lease.reqs (look ss n f) = (look ss n f).told.map (·.1) from rfl, hrs.told.reqs] at e
  exact e
theorem told_look {w : World} {p m : Nat} {ss : List Ses} (h : Sep [BookP p m ss] w) {n : Int} {f : ByteArray} (h0 : 0 ≤ n) (h1 : n < big64) (hf : f.size ≤ maxLen) {s : SR} (hrs : RelS (look ss n f) s) {x : AR} (hx : x ∈ s.told) :
    Calls Try.prog 13 #[.pointer (some ⟨p, 0, none⟩), .agg #[.int .u64 n, .string f], .int .u64 x.r] w fun e w' => e = .returned (.tuple #[.agg #[.int .i64 x.e, .int .u64 x.n, .bool x.g], .bool true]) ∧ At [BookP p m ss] w [BookP p m ss] w' := by
  have e := told_any h (n := n) (f := f) h0 h1 hf (hrs.told.bd x hx).1 (hrs.told.bd x hx).2
  rw [hrs.told.said, show saidA s.told x.r = some x from ?_] at e
  · exact e
  · unfold saidA
    cases hq : s.told.find? (fun y => y.r == x.r) with
    | none => exact absurd (List.find?_eq_none.1 hq x hx) (by simp)
    | some y =>
      have h2 := List.find?_some hq
      rw [hrs.told.uniq (List.mem_of_find?_eq_some hq) hx (by simpa using h2)]

@[local go_sem] theorem guardI (op : BinOp) (x y : Operand) (a b : Bool) (c d e : Int) (w : World) : (eqGuard op 66 x y (.agg #[.bool a, .bool b, .int .i64 c, .int .i64 d, .int .i64 e]) (.agg #[.bool a, .bool b, .int .i64 c, .int .i64 d, .int .i64 e])).run Try.prog w = .ok () w := run_eqGuard_agg _ _ _ _ _ _ _ (by kernel_rfl)
theorem sameIn (a b : Bool) (c d e : Int) (w : World) : (Op.equalIn 10000 66 (.agg #[.bool a, .bool b, .int .i64 c, .int .i64 d, .int .i64 e]) (.agg #[.bool a, .bool b, .int .i64 c, .int .i64 d, .int .i64 e])).run Try.prog w = .ok true w := by
  rw [run_equalIn_agg _ 9999 _ _ _ (by kernel_rfl) (by kernel_rfl)]
  simp [go_sem, Op.eqFields]
theorem neqI (a b : Bool) (c d e : Int) (w : World) : (binOp .neq 66 (.agg #[.bool a, .bool b, .int .i64 c, .int .i64 d, .int .i64 e]) (.agg #[.bool a, .bool b, .int .i64 c, .int .i64 d, .int .i64 e])).run Try.prog w = .ok (.bool false) w := by
  rw [run_neq_struct, sameIn]; rfl
theorem guardA (op : BinOp) (x y : Operand) (a b : Int) (c : Bool) (w : World) : (eqGuard op 34 x y (.agg #[.int .i64 a, .int .u64 b, .bool c]) (.agg #[.int .i64 a, .int .u64 b, .bool c])).run Try.prog w = .ok () w := run_eqGuard_agg _ _ _ _ _ _ _ (by kernel_rfl)
theorem sameAn (a b : Int) (c : Bool) (w : World) : (Op.equalIn 10000 34 (.agg #[.int .i64 a, .int .u64 b, .bool c]) (.agg #[.int .i64 a, .int .u64 b, .bool c])).run Try.prog w = .ok true w := by
  rw [run_equalIn_agg _ 9999 _ _ _ (by kernel_rfl) (by kernel_rfl)]
  simp [go_sem, Op.eqFields]
theorem neqA (a b : Int) (c : Bool) (w : World) : (binOp .neq 34 (.agg #[.int .i64 a, .int .u64 b, .bool c]) (.agg #[.int .i64 a, .int .u64 b, .bool c])).run Try.prog w = .ok (.bool false) w := by
  rw [run_neq_struct, sameAn]; rfl
theorem guardS (op : BinOp) (x y : Operand) (a : Int) (b : ByteArray) (w : World) : (eqGuard op 25 x y (.agg #[.int .u64 a, .string b]) (.agg #[.int .u64 a, .string b])).run Try.prog w = .ok () w := run_eqGuard_agg _ _ _ _ _ _ _ (by kernel_rfl)
theorem sameS (a : Int) (b : ByteArray) (w : World) : (Op.equalIn 10000 25 (.agg #[.int .u64 a, .string b]) (.agg #[.int .u64 a, .string b])).run Try.prog w = .ok true w := by
  rw [run_equalIn_agg _ 9999 _ _ _ (by kernel_rfl) (by kernel_rfl)]
  simp [go_sem, Op.eqFields]
theorem neqS (a : Int) (b : ByteArray) (w : World) : (binOp .neq 25 (.agg #[.int .u64 a, .string b]) (.agg #[.int .u64 a, .string b])).run Try.prog w = .ok (.bool false) w := by
  rw [run_neq_struct, sameS]; rfl
end Go.Proofs.Ytbdcgadcjgmgbaa.Lease
