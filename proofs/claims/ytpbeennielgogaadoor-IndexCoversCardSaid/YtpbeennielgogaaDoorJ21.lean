/- IndexP, AttrC, joined. -/
import Derived.Test.YtpbeennielgogaaDoorJ18
import Derived.Test.YtpbeennielgogaaDoorJ11
import Derived.Test.YtpbeennielgogaaDoorJ8
section
namespace Go.Proofs.YtpbeennielgogaaDoor.Ix
open Path (bl rightB overB)
open Attr (A8 rightI)
open Cmd (Cm keyC footC)
set_option linter.unusedSimpArgs false
set_option linter.unusedVariables false

/-- none of the numbers is greater -/
structure Le (a b : A8) : Prop where
  s : a.s ≤ b.s
  d0 : a.d0 ≤ b.d0
  d1 : a.d1 ≤ b.d1
  d2 : a.d2 ≤ b.d2
  d3 : a.d3 ≤ b.d3
  d4 : a.d4 ≤ b.d4
  d5 : a.d5 ≤ b.d5
  d6 : a.d6 ≤ b.d6
theorem Le.refl (a : A8) : Le a a := ⟨Int.le_refl _, Int.le_refl _, Int.le_refl _, Int.le_refl _, Int.le_refl _, Int.le_refl _, Int.le_refl _, Int.le_refl _⟩
theorem Le.trans {a b c : A8} (h : Le a b) (k : Le b c) : Le a c :=
  ⟨Int.le_trans h.s k.s, Int.le_trans h.d0 k.d0, Int.le_trans h.d1 k.d1, Int.le_trans h.d2 k.d2, Int.le_trans h.d3 k.d3, Int.le_trans h.d4 k.d4, Int.le_trans h.d5 k.d5, Int.le_trans h.d6 k.d6⟩
theorem le_left (a b : A8) : Le a (a.merge b) := by constructor <;> (simp only [A8.merge]; omega)
theorem le_right (a b : A8) : Le b (a.merge b) := by constructor <;> (simp only [A8.merge]; omega)
theorem merge_le {a b c : A8} (h : Le a c) (k : Le b c) : Le (a.merge b) c := by
  obtain ⟨h0, h1, h2, h3, h4, h5, h6, h7⟩ := h
  obtain ⟨k0, k1, k2, k3, k4, k5, k6, k7⟩ := k
  constructor <;> (simp only [A8.merge]; omega)
theorem past_le {a b : A8} (h : Le a b) (ha : 0 ≤ a.s) : Le (a.past a.s) (b.past b.s) := by
  obtain ⟨h0, h1, h2, h3, h4, h5, h6, h7⟩ := h
  have hb : 0 ≤ b.s := Int.le_trans ha h0
  unfold A8.past
  rw [if_pos ha, if_pos hb]
  constructor <;> simp only <;> omega

/-! ### What comes ahead -/
theorem fold_ge (g : Bool) (k : ByteArray × Int) : ∀ (l : List En) (z : A8), Le z (l.foldl (askStep g k) z)
  | [], z => Le.refl z
  | e :: l, z => by
    rw [List.foldl_cons]
    refine Le.trans ?_ (fold_ge g k l _)
    unfold askStep
    split
    · exact le_left _ _
    · exact Le.refl _
theorem ask_ge {k : ByteArray × Int} {e : En} (hc : clashK k (e.foot, e.num) = true) : ∀ {l : List En}, e ∈ l → ∀ z, Le (e.a.past e.a.s) (l.foldl (askStep true k) z)
  | x :: l, he, z => by
    rw [List.foldl_cons]
    rcases List.mem_cons.1 he with rfl | he
    · refine Le.trans ?_ (fold_ge true k l _)
      unfold askStep
      rw [hc]
      exact le_right _ _
    · exact ask_ge hc he _
theorem ask_le {g : Bool} {k : ByteArray × Int} {c : A8} : ∀ {l : List En} {z : A8}, Le z c → (∀ e ∈ l, clashK k (e.foot, e.num) = true → Le (e.a.past e.a.s) c) → Le (l.foldl (askStep g k) z) c
  | [], z, hz, _ => hz
  | x :: l, z, hz, h => by
    rw [List.foldl_cons]
    refine ask_le ?_ (fun e he => h e (by simp [he]))
    unfold askStep
    split
    · rename_i q
      simp only [Bool.and_eq_true] at q
      exact merge_le hz (h x (by simp) q.2)
    · exact hz
/-- whatever was noted is noted still -/
def Grow (l m : List En) : Prop := ∀ e ∈ l, ∃ x ∈ m, x.foot = e.foot ∧ x.num = e.num ∧ Le e.a x.a
theorem Grow.refl (l : List En) : Grow l l := fun e he => ⟨e, he, rfl, rfl, Le.refl _⟩
theorem Grow.trans {l m n : List En} (h : Grow l m) (k : Grow m n) : Grow l n := fun e he => by
  obtain ⟨x, hx, x1, x2, x3⟩ := h e he
  obtain ⟨y, hy, y1, y2, y3⟩ := k x hx
  exact ⟨y, hy, y1.trans x1, y2.trans x2, x3.trans y3⟩
theorem grow_merge (f : ByteArray) (n : Int) (v : A8) : ∀ es : List En, Grow es (mergeE es f n v)
  | [] => nofun
  | e :: es => by
    intro x hx
    unfold mergeE
    by_cases hq : e.is f n = true
    · rw [if_pos hq]
      have hq2 : e.foot = f ∧ e.num = n := by simpa [En.is] using hq
      rcases List.mem_cons.1 hx with rfl | hx
      · exact ⟨⟨f, n, x.a.merge v⟩, by simp, hq2.1.symm, hq2.2.symm, le_left _ _⟩
      · exact ⟨x, by simp [hx], rfl, rfl, Le.refl _⟩
    · rw [if_neg hq]
      rcases List.mem_cons.1 hx with rfl | hx
      · exact ⟨x, by simp, rfl, rfl, Le.refl _⟩
      · obtain ⟨y, hy, h⟩ := grow_merge f n v es x hx
        exact ⟨y, by simp [hy], h⟩
theorem grow_note (es : List En) (k : Option (ByteArray × Int)) (r t q : Int) : Grow es (noteE es k r t q) := by
  unfold noteE
  split
  · split
    · exact grow_merge _ _ _ _
    · exact Grow.refl _
  · exact Grow.refl _
theorem grow_add (es : List En) (f : ByteArray) (n : Int) (v : A8) : Grow es (addE es f n v) := by
  unfold addE
  split
  · exact grow_merge _ _ _ _
  · exact Grow.refl _
theorem grow_step (es : List En) (o : Op12) : Grow es (stepE es o) := by
  unfold stepE
  split
  · exact grow_note _ _ _ _ _
  split
  · exact grow_add _ _ _ _
  · exact Grow.refl _
theorem grow_steps : ∀ (os : List Op12) (es : List En), Grow es (os.foldl stepE es)
  | [], es => Grow.refl es
  | o :: os, es => (grow_step es o).trans (grow_steps os _)
theorem merge_has (f : ByteArray) (n : Int) (v : A8) : ∀ es : List En, ∃ x ∈ mergeE es f n v, x.foot = f ∧ x.num = n ∧ Le v x.a
  | [] => ⟨⟨f, n, A8.zero.merge v⟩, by simp [mergeE], rfl, rfl, le_right _ _⟩
  | e :: es => by
    unfold mergeE
    by_cases hq : e.is f n = true
    · rw [if_pos hq]
      exact ⟨⟨f, n, e.a.merge v⟩, by simp, rfl, rfl, le_right _ _⟩
    · rw [if_neg hq]
      obtain ⟨x, hx, h⟩ := merge_has f n v es
      exact ⟨x, by simp [hx], h⟩

/-! ### The entries may be -/
structure Fine (a : A8) : Prop where
  s0 : 0 ≤ a.s
  s1 : a.s ≤ 1073741824
  d0 : 0 ≤ a.d0 ∧ a.d0 ≤ 1024
  d1 : 0 ≤ a.d1 ∧ a.d1 ≤ 1024
  d2 : 0 ≤ a.d2 ∧ a.d2 ≤ 1024
  d3 : 0 ≤ a.d3 ∧ a.d3 ≤ 1024
  d4 : 0 ≤ a.d4 ∧ a.d4 ≤ 1024
  d5 : 0 ≤ a.d5 ∧ a.d5 ≤ 1024
  d6 : 0 ≤ a.d6 ∧ a.d6 ≤ 1024
theorem fine_iff {a : A8} : a.right = true ↔ Fine a := by
  unfold A8.right Attr.badD
  simp only [Bool.and_eq_true, Bool.not_eq_true', Bool.or_eq_false_iff, decide_eq_false_iff_not, decide_eq_true_iff]
  constructor
  · rintro ⟨⟨⟨⟨⟨⟨⟨h0, h1⟩, h2⟩, h3⟩, h4⟩, h5⟩, h6⟩, h7⟩
    constructor <;> omega
  · rintro ⟨s0, s1, h0, h1, h2, h3, h4, h5, h6⟩
    omega
theorem fine_zero : Fine A8.zero := by constructor <;> (simp only [A8.zero]; omega)
theorem fine_merge {a b : A8} (h : Fine a) (k : Fine b) : Fine (a.merge b) := by
  obtain ⟨h0, h1, h2, h3, h4, h5, h6, h7, h8⟩ := h
  obtain ⟨k0, k1, k2, k3, k4, k5, k6, k7, k8⟩ := k
  constructor <;> (simp only [A8.merge]; omega)
theorem fine_past {a : A8} (h : Fine a) : Fine (a.past a.s) := by
  obtain ⟨h0, h1, h2, h3, h4, h5, h6, h7, h8⟩ := h
  unfold A8.past
  rw [if_pos h0]
  constructor <;> simp only <;> omega
theorem fine_set {a : A8} (h : Fine a) (q : Nat) {v : Int} (h0 : 0 ≤ v) (h1 : v ≤ 1024) : Fine (a.set q v) := by
  obtain ⟨k0, k1, k2, k3, k4, k5, k6, k7, k8⟩ := h
  unfold A8.set
  split <;> constructor <;> (try simp only) <;> omega
theorem fine_note {r t q : Int} (h : rightI r t = true) : Fine (noteA r t q) := by
  have h := Attr.rightI_iff.1 h
  unfold noteA
  refine fine_set ?_ _ (by omega) (by omega)
  constructor <;> (simp only [A8.zero]; omega)
def FineL (es : List En) : Prop := ∀ e ∈ es, Fine e.a ∧ e.foot.size ≤ 1000
theorem fineL_merge {f : ByteArray} {n : Int} {v : A8} (hv : Fine v) (hf : f.size ≤ 1000) : ∀ {es : List En}, FineL es → FineL (mergeE es f n v)
  | [], _ => by
    intro x hx
    simp only [mergeE, List.mem_singleton] at hx
    subst hx
    exact ⟨fine_merge fine_zero hv, hf⟩
  | e :: es, h => by
    intro x hx
    unfold mergeE at hx
    by_cases hq : e.is f n = true
    · rw [if_pos hq] at hx
      rcases List.mem_cons.1 hx with rfl | hx
      · exact ⟨fine_merge (h e (by simp)).1 hv, hf⟩
      · exact h x (by simp [hx])
    · rw [if_neg hq] at hx
      rcases List.mem_cons.1 hx with rfl | hx
      · exact h x (by simp)
      · exact fineL_merge hv hf (fun y hy => h y (by simp [hy])) x hx
theorem fineL_step {es : List En} (h : FineL es) {o : Op12} (ho : o.ok) : FineL (stepE es o) := by
  unfold stepE
  split
  · unfold noteE keyC
    split
    · rename_i f n hk
      split at hk
      · simp only [Option.some.injEq, Prod.mk.injEq] at hk
        obtain ⟨rfl, rfl⟩ := hk
        split
        · rename_i hr
          exact fineL_merge (fine_note hr) (Cmd.foot_size _ ho.cf ho.cp) h
        · exact h
      · cases hk
    · exact h
  split
  · unfold addE
    split
    · rename_i hq
      simp only [Bool.and_eq_true] at hq
      exact fineL_merge (fine_iff.1 hq.2) ho.ef h
    · exact h
  · exact h
theorem fine_ask {g : Bool} {k : ByteArray × Int} : ∀ {l : List En}, FineL l → ∀ {z : A8}, Fine z → Fine (l.foldl (askStep g k) z)
  | [], _, z, hz => hz
  | x :: l, h, z, hz => by
    rw [List.foldl_cons]
    refine fine_ask (fun e he => h e (by simp [he])) ?_
    unfold askStep
    split
    · exact fine_merge hz (fine_past (h x (by simp)).1)
    · exact hz
/-- what comes ahead grows with what is noted -/
theorem askF_grow {g : Bool} {k : ByteArray × Int} {l m : List En} (h : Grow l m) (hl : FineL l) : Le (askF g k l) (askF g k m) := by
  cases g with
  | false => rw [askF_false, askF_false]; exact Le.refl _
  | true =>
    refine ask_le (fold_ge _ _ _ _) (fun e he hc => ?_)
    obtain ⟨x, hx, x1, x2, x3⟩ := h e he
    exact (past_le x3 (hl e he).1.s0).trans (ask_ge (by rw [x1, x2]; exact hc) hx _)
end Go.Proofs.YtpbeennielgogaaDoor.Ix
end

section
namespace Go.Proofs.YtpbeennielgogaaDoor.Attr
open Go.RowKit
open Cmd (through0)
set_option linter.unusedSimpArgs false
set_option linter.unusedVariables false
attribute [-go_sem] run_eql_struct run_neq_struct run_eqGuard_agg

theorem guardA (op : BinOp) (x y : Operand) (c1 c2 c3 c4 c5 c6 c7 c8 e1 e2 e3 e4 e5 e6 e7 e8 : Value) (w : World) : (eqGuard op 40 x y (.agg #[c1, c2, c3, c4, c5, c6, c7, c8]) (.agg #[e1, e2, e3, e4, e5, e6, e7, e8])).run Tryd.prog w = .ok () w := run_eqGuard_agg _ _ _ _ _ _ _ (by kernel_rfl)
theorem guardA7 (op : BinOp) (x y : Operand) (c1 c2 c3 c4 c5 c6 c7 e1 e2 e3 e4 e5 e6 e7 : Value) (w : World) : (eqGuard op 38 x y (.agg #[c1, c2, c3, c4, c5, c6, c7]) (.agg #[e1, e2, e3, e4, e5, e6, e7])).run Tryd.prog w = .ok () w := run_eqGuard_agg _ _ _ _ _ _ _ (by kernel_rfl)
set_option maxRecDepth 100000 in
theorem same7g (d : Nat) (d0 d1 d2 d3 d4 d5 d6 : Int) (w : World) : (Go.Op.equalIn (d + 2) 38 (.agg #[.int .i64 d0, .int .i64 d1, .int .i64 d2, .int .i64 d3, .int .i64 d4, .int .i64 d5, .int .i64 d6]) (.agg #[.int .i64 d0, .int .i64 d1, .int .i64 d2, .int .i64 d3, .int .i64 d4, .int .i64 d5, .int .i64 d6])).run Tryd.prog w = .ok true w := by
  obtain ⟨i, hi⟩ : ∃ i, Tryd.prog.info? 3 = some i := by
    have h : (Tryd.prog.info? 3).isSome = true := by kernel_rfl
    exact Option.isSome_iff_exists.1 h
  have hc : Tryd.prog.cellsOf 3 = 1 := by kernel_rfl
  rw [Go.run_equalIn_array _ (d + 1) _ _ Tryd.underlying38 hi, hc, show List.range 7 = [0, 1, 2, 3, 4, 5, 6] from rfl]
  simp [Go.Op.eqItems, go_sem, hi]
theorem same7 (d0 d1 d2 d3 d4 d5 d6 : Int) (w : World) : (Go.Op.equalIn 10000 38 (.agg #[.int .i64 d0, .int .i64 d1, .int .i64 d2, .int .i64 d3, .int .i64 d4, .int .i64 d5, .int .i64 d6]) (.agg #[.int .i64 d0, .int .i64 d1, .int .i64 d2, .int .i64 d3, .int .i64 d4, .int .i64 d5, .int .i64 d6])).run Tryd.prog w = .ok true w := same7g 9998 d0 d1 d2 d3 d4 d5 d6 w
theorem same7b (d0 d1 d2 d3 d4 d5 d6 : Int) (w : World) : (Go.Op.equalIn 9999 38 (.agg #[.int .i64 d0, .int .i64 d1, .int .i64 d2, .int .i64 d3, .int .i64 d4, .int .i64 d5, .int .i64 d6]) (.agg #[.int .i64 d0, .int .i64 d1, .int .i64 d2, .int .i64 d3, .int .i64 d4, .int .i64 d5, .int .i64 d6])).run Tryd.prog w = .ok true w := same7g 9997 d0 d1 d2 d3 d4 d5 d6 w
theorem eql7 (d0 d1 d2 d3 d4 d5 d6 : Int) (w : World) : (binOp .eql 38 (.agg #[.int .i64 d0, .int .i64 d1, .int .i64 d2, .int .i64 d3, .int .i64 d4, .int .i64 d5, .int .i64 d6]) (.agg #[.int .i64 d0, .int .i64 d1, .int .i64 d2, .int .i64 d3, .int .i64 d4, .int .i64 d5, .int .i64 d6])).run Tryd.prog w = .ok (.bool true) w := by
  rw [run_eql_struct, same7]; rfl
theorem sameA (s d0 d1 d2 d3 d4 d5 d6 : Int) (w : World) : (Go.Op.equalIn 10000 40 (.agg #[.int .i64 s, .int .i64 d0, .int .i64 d1, .int .i64 d2, .int .i64 d3, .int .i64 d4, .int .i64 d5, .int .i64 d6]) (.agg #[.int .i64 s, .int .i64 d0, .int .i64 d1, .int .i64 d2, .int .i64 d3, .int .i64 d4, .int .i64 d5, .int .i64 d6])).run Tryd.prog w = .ok true w := by
  rw [run_equalIn_agg _ 9999 _ _ _ (by kernel_rfl) (by kernel_rfl)]
  simp [go_sem, Go.Op.eqFields, same7b]
theorem eqlA (s d0 d1 d2 d3 d4 d5 d6 : Int) (w : World) : (binOp .eql 40 (.agg #[.int .i64 s, .int .i64 d0, .int .i64 d1, .int .i64 d2, .int .i64 d3, .int .i64 d4, .int .i64 d5, .int .i64 d6]) (.agg #[.int .i64 s, .int .i64 d0, .int .i64 d1, .int .i64 d2, .int .i64 d3, .int .i64 d4, .int .i64 d5, .int .i64 d6])).run Tryd.prog w = .ok (.bool true) w := by
  rw [run_eql_struct, sameA]; rfl
attribute [local go_sem] guardA guardA7 eql7 eqlA
set_option maxRecDepth 100000 in
set_option maxHeartbeats 1000000 in
theorem within_yes (a b : A8) (h : a.merge b = b) (w : World) : Calls Tryd.prog 12 #[a.val, b.val] w fun e w' => e = .returned (.bool true) ∧ Ext w w' := by
  have hA : At [] w [] w := At.start (L0 := []) trivial
  have hF := hA.facts
  have hmg := fun w => merge_any a b w
  rw [h] at hmg
  clear h
  obtain ⟨s, d0, d1, d2, d3, d4, d5, d6⟩ := a
  obtain ⟨u, f0, f1, f2, f3, f4, f5, f6⟩ := b
  simp only [A8.val] at *
  (try simp only [uA] at hA); have hF := hA.facts; (try simp only [fA, and_true, true_and] at hF)
  go_enter Tryd.func12, Tryd.ntmps12
  go_wp2_with (first | ((with_reducible show wpList _ _ _ ({ dst := some 2, op := Op.box _ _, type := _, pos := _, after := _, guard := _ } :: _) _ _); ((with_reducible refine gbx ?_); refine wX 40 (.agg #[.int .i64 s, .int .i64 d0, .int .i64 d1, .int .i64 d2, .int .i64 d3, .int .i64 d4, .int .i64 d5, .int .i64 d6]) [.int .i64 s, .int .i64 d0, .int .i64 d1, .int .i64 d2, .int .i64 d3, .int .i64 d4, .int .i64 d5, .int .i64 d6] hA ?_; clear hF hA; intro bA w1 hA hbA; (try simp only [uA] at hA); have hF := hA.facts; (try simp only [fA, and_true, true_and] at hF))) | ((with_reducible show wpList _ _ _ ({ dst := some 3, op := Op.box _ _, type := _, pos := _, after := _, guard := _ } :: _) _ _); ((with_reducible refine gbx ?_); refine wX 40 (.agg #[.int .i64 u, .int .i64 f0, .int .i64 f1, .int .i64 f2, .int .i64 f3, .int .i64 f4, .int .i64 f5, .int .i64 f6]) [.int .i64 u, .int .i64 f0, .int .i64 f1, .int .i64 f2, .int .i64 f3, .int .i64 f4, .int .i64 f5, .int .i64 f6] hA ?_; clear hF hA; intro bB w1 hA hbB; (try simp only [uA] at hA); have hF := hA.facts; (try simp only [fA, and_true, true_and] at hF))) | ((with_reducible refine gst ?_); refine wS hA ?_; clear hF hA; intro w1 hA; (try simp only [uA] at hA); have hF := hA.facts; (try simp only [fA, and_true, true_and] at hF)) | ((with_reducible refine gbx ?_); refine wB hA ?_; clear hF hA; intro b1 w1 hA hb1; (try simp only [uA] at hA); have hF := hA.facts; (try simp only [fA, and_true, true_and] at hF)))
  refine (hmg _).mono ?_
  clear hmg
  rintro e w1 ⟨rfl, hx⟩
  have hB := hA.ext hx
  clear hF hA hx
  have hA := hB
  clear hB
  have hF := hA.facts
  (try simp only [uA] at hA); have hF := hA.facts; (try simp only [fA, and_true, true_and] at hF)
  go_wp2_with (first | ((with_reducible refine gal ?_); refine wA 40 (.agg #[.int .i64 0, .int .i64 0, .int .i64 0, .int .i64 0, .int .i64 0, .int .i64 0, .int .i64 0, .int .i64 0]) [.int .i64 0, .int .i64 0, .int .i64 0, .int .i64 0, .int .i64 0, .int .i64 0, .int .i64 0, .int .i64 0] hA ?_; clear hF hA; intro bM w1 hA hbM; (try simp only [uA] at hA); have hF := hA.facts; (try simp only [fA, and_true, true_and] at hF)) | ((with_reducible refine gst ?_); refine wS hA ?_; clear hF hA; intro w1 hA; (try simp only [uA] at hA); have hF := hA.facts; (try simp only [fA, and_true, true_and] at hF)) | ((with_reducible refine gbx ?_); refine wB hA ?_; clear hF hA; intro b1 w1 hA hb1; (try simp only [uA] at hA); have hF := hA.facts; (try simp only [fA, and_true, true_and] at hF)))
  go_ret
  exact ⟨rfl, hA.toExt⟩
set_option maxRecDepth 100000 in
set_option maxHeartbeats 2000000 in
theorem covers_yes (a : A8) (r t : Int) (h : rightI r t = true) (hd : t < a.dep r.toNat) (w : World) : Calls Tryd.prog 17 #[a.val, .agg #[.int .i64 r, .int .i64 t]] w fun e w' => e = .returned (.bool true) ∧ Ext w w' := by
  have hA : At [] w [] w := At.start (L0 := []) trivial
  have hF := hA.facts
  have hri := fun w => idRight_any r t w
  rw [h] at hri
  obtain ⟨s, d0, d1, d2, d3, d4, d5, d6⟩ := a
  simp only [A8.val] at *
  (try simp only [uA] at hA); have hF := hA.facts; (try simp only [fA, and_true, true_and] at hF)
  rcases (show r = 0 ∨ r = 1 ∨ r = 2 ∨ r = 3 ∨ r = 4 ∨ r = 5 ∨ r = 6 by have := rightI_iff.1 h; omega) with rfl | rfl | rfl | rfl | rfl | rfl | rfl
  · have hd' : t < d0 := hd
    clear hd h
    have hd2 : decide (t < d0) = true := decide_eq_true hd'
    go_enter Tryd.func17, Tryd.ntmps17
    go_wp2_with (first | ((with_reducible refine gbx ?_); refine wX 40 (.agg #[.int .i64 s, .int .i64 d0, .int .i64 d1, .int .i64 d2, .int .i64 d3, .int .i64 d4, .int .i64 d5, .int .i64 d6]) [.int .i64 s, .int .i64 d0, .int .i64 d1, .int .i64 d2, .int .i64 d3, .int .i64 d4, .int .i64 d5, .int .i64 d6] hA ?_; clear hF hA; intro bA w1 hA hbA; (try simp only [uA] at hA); have hF := hA.facts; (try simp only [fA, and_true, true_and] at hF)) | ((with_reducible refine gbx ?_); refine wX 30 (.agg #[.int .i64 0, .int .i64 t]) [.int .i64 0, .int .i64 t] hA ?_; clear hF hA; intro bI w1 hA hbI; (try simp only [uA] at hA); have hF := hA.facts; (try simp only [fA, and_true, true_and] at hF)) | ((with_reducible refine gst ?_); refine wS hA ?_; clear hF hA; intro w1 hA; (try simp only [uA] at hA); have hF := hA.facts; (try simp only [fA, and_true, true_and] at hF)) | ((with_reducible refine gbx ?_); refine wB hA ?_; clear hF hA; intro b1 w1 hA hb1; (try simp only [uA] at hA); have hF := hA.facts; (try simp only [fA, and_true, true_and] at hF)))
    try go_frame
    (refine wp_region_all (Cl _ _ _) (by kernel_rfl) (by kernel_rfl) (Cl.drew hA) ?_); (have hn1 := Cl.none hA); (have hn2 := Cl.none2 hA); (repeat (first | go_big_quiet_skip | (go_big_quiet_want; (first | (refine quiet_loads_at (ty := 30) (n := 2) rfl rfl (by with_reducible repeat (first | exact Sel.here | apply Sel.there)) (by kernel_rfl) (by kernel_rfl) (by first | assumption | ((try simp only [List.drop_succ_cons, List.drop_zero, List.take_succ_cons, List.take_zero]) <;> exact rfl)) (by exact rfl) ?_; go_frame; go_big_quiet_on) | (refine quiet_load_at rfl rfl (by with_reducible repeat (first | exact Sel.here | apply Sel.there)) (by kernel_rfl) (by first | assumption | exact rfl) ?_; go_frame; go_big_quiet_on) | (go_big_quiet_op; (first | go_big_quiet_on | ((apply Exists.intro); (refine ⟨fun w1 hw => ?_, ?_⟩); (focus ((have hw := Cl.out hw); (exact through0 hw (hri _)))); (go_big_quiet_on))))))))
    (refine wpQuiet_nil ?_); (intro w1 hB); (clear hF hA hn1 hn2); (have hA := Cl.out hB); (clear hB); (try simp only [uA] at hA); have hF := hA.facts; (try simp only [fA, and_true, true_and] at hF)
    go_wp2_with (first | ((with_reducible refine gst ?_); refine wS hA ?_; clear hF hA; intro w1 hA; (try simp only [uA] at hA); have hF := hA.facts; (try simp only [fA, and_true, true_and] at hF)) | ((with_reducible refine gbx ?_); refine wB hA ?_; clear hF hA; intro b1 w1 hA hb1; (try simp only [uA] at hA); have hF := hA.facts; (try simp only [fA, and_true, true_and] at hF)))
    go_ret
    exact ⟨rfl, hA.toExt⟩
  · have hd' : t < d1 := hd
    clear hd h
    have hd2 : decide (t < d1) = true := decide_eq_true hd'
    go_enter Tryd.func17, Tryd.ntmps17
    go_wp2_with (first | ((with_reducible refine gbx ?_); refine wX 40 (.agg #[.int .i64 s, .int .i64 d0, .int .i64 d1, .int .i64 d2, .int .i64 d3, .int .i64 d4, .int .i64 d5, .int .i64 d6]) [.int .i64 s, .int .i64 d0, .int .i64 d1, .int .i64 d2, .int .i64 d3, .int .i64 d4, .int .i64 d5, .int .i64 d6] hA ?_; clear hF hA; intro bA w1 hA hbA; (try simp only [uA] at hA); have hF := hA.facts; (try simp only [fA, and_true, true_and] at hF)) | ((with_reducible refine gbx ?_); refine wX 30 (.agg #[.int .i64 1, .int .i64 t]) [.int .i64 1, .int .i64 t] hA ?_; clear hF hA; intro bI w1 hA hbI; (try simp only [uA] at hA); have hF := hA.facts; (try simp only [fA, and_true, true_and] at hF)) | ((with_reducible refine gst ?_); refine wS hA ?_; clear hF hA; intro w1 hA; (try simp only [uA] at hA); have hF := hA.facts; (try simp only [fA, and_true, true_and] at hF)) | ((with_reducible refine gbx ?_); refine wB hA ?_; clear hF hA; intro b1 w1 hA hb1; (try simp only [uA] at hA); have hF := hA.facts; (try simp only [fA, and_true, true_and] at hF)))
    try go_frame
    (refine wp_region_all (Cl _ _ _) (by kernel_rfl) (by kernel_rfl) (Cl.drew hA) ?_); (have hn1 := Cl.none hA); (have hn2 := Cl.none2 hA); (repeat (first | go_big_quiet_skip | (go_big_quiet_want; (first | (refine quiet_loads_at (ty := 30) (n := 2) rfl rfl (by with_reducible repeat (first | exact Sel.here | apply Sel.there)) (by kernel_rfl) (by kernel_rfl) (by first | assumption | ((try simp only [List.drop_succ_cons, List.drop_zero, List.take_succ_cons, List.take_zero]) <;> exact rfl)) (by exact rfl) ?_; go_frame; go_big_quiet_on) | (refine quiet_load_at rfl rfl (by with_reducible repeat (first | exact Sel.here | apply Sel.there)) (by kernel_rfl) (by first | assumption | exact rfl) ?_; go_frame; go_big_quiet_on) | (go_big_quiet_op; (first | go_big_quiet_on | ((apply Exists.intro); (refine ⟨fun w1 hw => ?_, ?_⟩); (focus ((have hw := Cl.out hw); (exact through0 hw (hri _)))); (go_big_quiet_on))))))))
    (refine wpQuiet_nil ?_); (intro w1 hB); (clear hF hA hn1 hn2); (have hA := Cl.out hB); (clear hB); (try simp only [uA] at hA); have hF := hA.facts; (try simp only [fA, and_true, true_and] at hF)
    go_wp2_with (first | ((with_reducible refine gst ?_); refine wS hA ?_; clear hF hA; intro w1 hA; (try simp only [uA] at hA); have hF := hA.facts; (try simp only [fA, and_true, true_and] at hF)) | ((with_reducible refine gbx ?_); refine wB hA ?_; clear hF hA; intro b1 w1 hA hb1; (try simp only [uA] at hA); have hF := hA.facts; (try simp only [fA, and_true, true_and] at hF)))
    go_ret
    exact ⟨rfl, hA.toExt⟩
  · have hd' : t < d2 := hd
    clear hd h
    have hd2 : decide (t < d2) = true := decide_eq_true hd'
    go_enter Tryd.func17, Tryd.ntmps17
    go_wp2_with (first | ((with_reducible refine gbx ?_); refine wX 40 (.agg #[.int .i64 s, .int .i64 d0, .int .i64 d1, .int .i64 d2, .int .i64 d3, .int .i64 d4, .int .i64 d5, .int .i64 d6]) [.int .i64 s, .int .i64 d0, .int .i64 d1, .int .i64 d2, .int .i64 d3, .int .i64 d4, .int .i64 d5, .int .i64 d6] hA ?_; clear hF hA; intro bA w1 hA hbA; (try simp only [uA] at hA); have hF := hA.facts; (try simp only [fA, and_true, true_and] at hF)) | ((with_reducible refine gbx ?_); refine wX 30 (.agg #[.int .i64 2, .int .i64 t]) [.int .i64 2, .int .i64 t] hA ?_; clear hF hA; intro bI w1 hA hbI; (try simp only [uA] at hA); have hF := hA.facts; (try simp only [fA, and_true, true_and] at hF)) | ((with_reducible refine gst ?_); refine wS hA ?_; clear hF hA; intro w1 hA; (try simp only [uA] at hA); have hF := hA.facts; (try simp only [fA, and_true, true_and] at hF)) | ((with_reducible refine gbx ?_); refine wB hA ?_; clear hF hA; intro b1 w1 hA hb1; (try simp only [uA] at hA); have hF := hA.facts; (try simp only [fA, and_true, true_and] at hF)))
    try go_frame
    (refine wp_region_all (Cl _ _ _) (by kernel_rfl) (by kernel_rfl) (Cl.drew hA) ?_); (have hn1 := Cl.none hA); (have hn2 := Cl.none2 hA); (repeat (first | go_big_quiet_skip | (go_big_quiet_want; (first | (refine quiet_loads_at (ty := 30) (n := 2) rfl rfl (by with_reducible repeat (first | exact Sel.here | apply Sel.there)) (by kernel_rfl) (by kernel_rfl) (by first | assumption | ((try simp only [List.drop_succ_cons, List.drop_zero, List.take_succ_cons, List.take_zero]) <;> exact rfl)) (by exact rfl) ?_; go_frame; go_big_quiet_on) | (refine quiet_load_at rfl rfl (by with_reducible repeat (first | exact Sel.here | apply Sel.there)) (by kernel_rfl) (by first | assumption | exact rfl) ?_; go_frame; go_big_quiet_on) | (go_big_quiet_op; (first | go_big_quiet_on | ((apply Exists.intro); (refine ⟨fun w1 hw => ?_, ?_⟩); (focus ((have hw := Cl.out hw); (exact through0 hw (hri _)))); (go_big_quiet_on))))))))
    (refine wpQuiet_nil ?_); (intro w1 hB); (clear hF hA hn1 hn2); (have hA := Cl.out hB); (clear hB); (try simp only [uA] at hA); have hF := hA.facts; (try simp only [fA, and_true, true_and] at hF)
    go_wp2_with (first | ((with_reducible refine gst ?_); refine wS hA ?_; clear hF hA; intro w1 hA; (try simp only [uA] at hA); have hF := hA.facts; (try simp only [fA, and_true, true_and] at hF)) | ((with_reducible refine gbx ?_); refine wB hA ?_; clear hF hA; intro b1 w1 hA hb1; (try simp only [uA] at hA); have hF := hA.facts; (try simp only [fA, and_true, true_and] at hF)))
    go_ret
    exact ⟨rfl, hA.toExt⟩
  · have hd' : t < d3 := hd
    clear hd h
    have hd2 : decide (t < d3) = true := decide_eq_true hd'
    go_enter Tryd.func17, Tryd.ntmps17
    go_wp2_with (first | ((with_reducible refine gbx ?_); refine wX 40 (.agg #[.int .i64 s, .int .i64 d0, .int .i64 d1, .int .i64 d2, .int .i64 d3, .int .i64 d4, .int .i64 d5, .int .i64 d6]) [.int .i64 s, .int .i64 d0, .int .i64 d1, .int .i64 d2, .int .i64 d3, .int .i64 d4, .int .i64 d5, .int .i64 d6] hA ?_; clear hF hA; intro bA w1 hA hbA; (try simp only [uA] at hA); have hF := hA.facts; (try simp only [fA, and_true, true_and] at hF)) | ((with_reducible refine gbx ?_); refine wX 30 (.agg #[.int .i64 3, .int .i64 t]) [.int .i64 3, .int .i64 t] hA ?_; clear hF hA; intro bI w1 hA hbI; (try simp only [uA] at hA); have hF := hA.facts; (try simp only [fA, and_true, true_and] at hF)) | ((with_reducible refine gst ?_); refine wS hA ?_; clear hF hA; intro w1 hA; (try simp only [uA] at hA); have hF := hA.facts; (try simp only [fA, and_true, true_and] at hF)) | ((with_reducible refine gbx ?_); refine wB hA ?_; clear hF hA; intro b1 w1 hA hb1; (try simp only [uA] at hA); have hF := hA.facts; (try simp only [fA, and_true, true_and] at hF)))
    try go_frame
    (refine wp_region_all (Cl _ _ _) (by kernel_rfl) (by kernel_rfl) (Cl.drew hA) ?_); (have hn1 := Cl.none hA); (have hn2 := Cl.none2 hA); (repeat (first | go_big_quiet_skip | (go_big_quiet_want; (first | (refine quiet_loads_at (ty := 30) (n := 2) rfl rfl (by with_reducible repeat (first | exact Sel.here | apply Sel.there)) (by kernel_rfl) (by kernel_rfl) (by first | assumption | ((try simp only [List.drop_succ_cons, List.drop_zero, List.take_succ_cons, List.take_zero]) <;> exact rfl)) (by exact rfl) ?_; go_frame; go_big_quiet_on) | (refine quiet_load_at rfl rfl (by with_reducible repeat (first | exact Sel.here | apply Sel.there)) (by kernel_rfl) (by first | assumption | exact rfl) ?_; go_frame; go_big_quiet_on) | (go_big_quiet_op; (first | go_big_quiet_on | ((apply Exists.intro); (refine ⟨fun w1 hw => ?_, ?_⟩); (focus ((have hw := Cl.out hw); (exact through0 hw (hri _)))); (go_big_quiet_on))))))))
    (refine wpQuiet_nil ?_); (intro w1 hB); (clear hF hA hn1 hn2); (have hA := Cl.out hB); (clear hB); (try simp only [uA] at hA); have hF := hA.facts; (try simp only [fA, and_true, true_and] at hF)
    go_wp2_with (first | ((with_reducible refine gst ?_); refine wS hA ?_; clear hF hA; intro w1 hA; (try simp only [uA] at hA); have hF := hA.facts; (try simp only [fA, and_true, true_and] at hF)) | ((with_reducible refine gbx ?_); refine wB hA ?_; clear hF hA; intro b1 w1 hA hb1; (try simp only [uA] at hA); have hF := hA.facts; (try simp only [fA, and_true, true_and] at hF)))
    go_ret
    exact ⟨rfl, hA.toExt⟩
  · have hd' : t < d4 := hd
    clear hd h
    have hd2 : decide (t < d4) = true := decide_eq_true hd'
    go_enter Tryd.func17, Tryd.ntmps17
    go_wp2_with (first | ((with_reducible refine gbx ?_); refine wX 40 (.agg #[.int .i64 s, .int .i64 d0, .int .i64 d1, .int .i64 d2, .int .i64 d3, .int .i64 d4, .int .i64 d5, .int .i64 d6]) [.int .i64 s, .int .i64 d0, .int .i64 d1, .int .i64 d2, .int .i64 d3, .int .i64 d4, .int .i64 d5, .int .i64 d6] hA ?_; clear hF hA; intro bA w1 hA hbA; (try simp only [uA] at hA); have hF := hA.facts; (try simp only [fA, and_true, true_and] at hF)) | ((with_reducible refine gbx ?_); refine wX 30 (.agg #[.int .i64 4, .int .i64 t]) [.int .i64 4, .int .i64 t] hA ?_; clear hF hA; intro bI w1 hA hbI; (try simp only [uA] at hA); have hF := hA.facts; (try simp only [fA, and_true, true_and] at hF)) | ((with_reducible refine gst ?_); refine wS hA ?_; clear hF hA; intro w1 hA; (try simp only [uA] at hA); have hF := hA.facts; (try simp only [fA, and_true, true_and] at hF)) | ((with_reducible refine gbx ?_); refine wB hA ?_; clear hF hA; intro b1 w1 hA hb1; (try simp only [uA] at hA); have hF := hA.facts; (try simp only [fA, and_true, true_and] at hF)))
    try go_frame
    (refine wp_region_all (Cl _ _ _) (by kernel_rfl) (by kernel_rfl) (Cl.drew hA) ?_); (have hn1 := Cl.none hA); (have hn2 := Cl.none2 hA); (repeat (first | go_big_quiet_skip | (go_big_quiet_want; (first | (refine quiet_loads_at (ty := 30) (n := 2) rfl rfl (by with_reducible repeat (first | exact Sel.here | apply Sel.there)) (by kernel_rfl) (by kernel_rfl) (by first | assumption | ((try simp only [List.drop_succ_cons, List.drop_zero, List.take_succ_cons, List.take_zero]) <;> exact rfl)) (by exact rfl) ?_; go_frame; go_big_quiet_on) | (refine quiet_load_at rfl rfl (by with_reducible repeat (first | exact Sel.here | apply Sel.there)) (by kernel_rfl) (by first | assumption | exact rfl) ?_; go_frame; go_big_quiet_on) | (go_big_quiet_op; (first | go_big_quiet_on | ((apply Exists.intro); (refine ⟨fun w1 hw => ?_, ?_⟩); (focus ((have hw := Cl.out hw); (exact through0 hw (hri _)))); (go_big_quiet_on))))))))
    (refine wpQuiet_nil ?_); (intro w1 hB); (clear hF hA hn1 hn2); (have hA := Cl.out hB); (clear hB); (try simp only [uA] at hA); have hF := hA.facts; (try simp only [fA, and_true, true_and] at hF)
    go_wp2_with (first | ((with_reducible refine gst ?_); refine wS hA ?_; clear hF hA; intro w1 hA; (try simp only [uA] at hA); have hF := hA.facts; (try simp only [fA, and_true, true_and] at hF)) | ((with_reducible refine gbx ?_); refine wB hA ?_; clear hF hA; intro b1 w1 hA hb1; (try simp only [uA] at hA); have hF := hA.facts; (try simp only [fA, and_true, true_and] at hF)))
    go_ret
    exact ⟨rfl, hA.toExt⟩
  · have hd' : t < d5 := hd
    clear hd h
    have hd2 : decide (t < d5) = true := decide_eq_true hd'
    go_enter Tryd.func17, Tryd.ntmps17
    go_wp2_with (first | ((with_reducible refine gbx ?_); refine wX 40 (.agg #[.int .i64 s, .int .i64 d0, .int .i64 d1, .int .i64 d2, .int .i64 d3, .int .i64 d4, .int .i64 d5, .int .i64 d6]) [.int .i64 s, .int .i64 d0, .int .i64 d1, .int .i64 d2, .int .i64 d3, .int .i64 d4, .int .i64 d5, .int .i64 d6] hA ?_; clear hF hA; intro bA w1 hA hbA; (try simp only [uA] at hA); have hF := hA.facts; (try simp only [fA, and_true, true_and] at hF)) | ((with_reducible refine gbx ?_); refine wX 30 (.agg #[.int .i64 5, .int .i64 t]) [.int .i64 5, .int .i64 t] hA ?_; clear hF hA; intro bI w1 hA hbI; (try simp only [uA] at hA); have hF := hA.facts; (try simp only [fA, and_true, true_and] at hF)) | ((with_reducible refine gst ?_); refine wS hA ?_; clear hF hA; intro w1 hA; (try simp only [uA] at hA); have hF := hA.facts; (try simp only [fA, and_true, true_and] at hF)) | ((with_reducible refine gbx ?_); refine wB hA ?_; clear hF hA; intro b1 w1 hA hb1; (try simp only [uA] at hA); have hF := hA.facts; (try simp only [fA, and_true, true_and] at hF)))
    try go_frame
    (refine wp_region_all (Cl _ _ _) (by kernel_rfl) (by kernel_rfl) (Cl.drew hA) ?_); (have hn1 := Cl.none hA); (have hn2 := Cl.none2 hA); (repeat (first | go_big_quiet_skip | (go_big_quiet_want; (first | (refine quiet_loads_at (ty := 30) (n := 2) rfl rfl (by with_reducible repeat (first | exact Sel.here | apply Sel.there)) (by kernel_rfl) (by kernel_rfl) (by first | assumption | ((try simp only [List.drop_succ_cons, List.drop_zero, List.take_succ_cons, List.take_zero]) <;> exact rfl)) (by exact rfl) ?_; go_frame; go_big_quiet_on) | (refine quiet_load_at rfl rfl (by with_reducible repeat (first | exact Sel.here | apply Sel.there)) (by kernel_rfl) (by first | assumption | exact rfl) ?_; go_frame; go_big_quiet_on) | (go_big_quiet_op; (first | go_big_quiet_on | ((apply Exists.intro); (refine ⟨fun w1 hw => ?_, ?_⟩); (focus ((have hw := Cl.out hw); (exact through0 hw (hri _)))); (go_big_quiet_on))))))))
    (refine wpQuiet_nil ?_); (intro w1 hB); (clear hF hA hn1 hn2); (have hA := Cl.out hB); (clear hB); (try simp only [uA] at hA); have hF := hA.facts; (try simp only [fA, and_true, true_and] at hF)
    go_wp2_with (first | ((with_reducible refine gst ?_); refine wS hA ?_; clear hF hA; intro w1 hA; (try simp only [uA] at hA); have hF := hA.facts; (try simp only [fA, and_true, true_and] at hF)) | ((with_reducible refine gbx ?_); refine wB hA ?_; clear hF hA; intro b1 w1 hA hb1; (try simp only [uA] at hA); have hF := hA.facts; (try simp only [fA, and_true, true_and] at hF)))
    go_ret
    exact ⟨rfl, hA.toExt⟩
  · have hd' : t < d6 := hd
    clear hd h
    have hd2 : decide (t < d6) = true := decide_eq_true hd'
    go_enter Tryd.func17, Tryd.ntmps17
    go_wp2_with (first | ((with_reducible refine gbx ?_); refine wX 40 (.agg #[.int .i64 s, .int .i64 d0, .int .i64 d1, .int .i64 d2, .int .i64 d3, .int .i64 d4, .int .i64 d5, .int .i64 d6]) [.int .i64 s, .int .i64 d0, .int .i64 d1, .int .i64 d2, .int .i64 d3, .int .i64 d4, .int .i64 d5, .int .i64 d6] hA ?_; clear hF hA; intro bA w1 hA hbA; (try simp only [uA] at hA); have hF := hA.facts; (try simp only [fA, and_true, true_and] at hF)) | ((with_reducible refine gbx ?_); refine wX 30 (.agg #[.int .i64 6, .int .i64 t]) [.int .i64 6, .int .i64 t] hA ?_; clear hF hA; intro bI w1 hA hbI; (try simp only [uA] at hA); have hF := hA.facts; (try simp only [fA, and_true, true_and] at hF)) | ((with_reducible refine gst ?_); refine wS hA ?_; clear hF hA; intro w1 hA; (try simp only [uA] at hA); have hF := hA.facts; (try simp only [fA, and_true, true_and] at hF)) | ((with_reducible refine gbx ?_); refine wB hA ?_; clear hF hA; intro b1 w1 hA hb1; (try simp only [uA] at hA); have hF := hA.facts; (try simp only [fA, and_true, true_and] at hF)))
    try go_frame
    (refine wp_region_all (Cl _ _ _) (by kernel_rfl) (by kernel_rfl) (Cl.drew hA) ?_); (have hn1 := Cl.none hA); (have hn2 := Cl.none2 hA); (repeat (first | go_big_quiet_skip | (go_big_quiet_want; (first | (refine quiet_loads_at (ty := 30) (n := 2) rfl rfl (by with_reducible repeat (first | exact Sel.here | apply Sel.there)) (by kernel_rfl) (by kernel_rfl) (by first | assumption | ((try simp only [List.drop_succ_cons, List.drop_zero, List.take_succ_cons, List.take_zero]) <;> exact rfl)) (by exact rfl) ?_; go_frame; go_big_quiet_on) | (refine quiet_load_at rfl rfl (by with_reducible repeat (first | exact Sel.here | apply Sel.there)) (by kernel_rfl) (by first | assumption | exact rfl) ?_; go_frame; go_big_quiet_on) | (go_big_quiet_op; (first | go_big_quiet_on | ((apply Exists.intro); (refine ⟨fun w1 hw => ?_, ?_⟩); (focus ((have hw := Cl.out hw); (exact through0 hw (hri _)))); (go_big_quiet_on))))))))
    (refine wpQuiet_nil ?_); (intro w1 hB); (clear hF hA hn1 hn2); (have hA := Cl.out hB); (clear hB); (try simp only [uA] at hA); have hF := hA.facts; (try simp only [fA, and_true, true_and] at hF)
    go_wp2_with (first | ((with_reducible refine gst ?_); refine wS hA ?_; clear hF hA; intro w1 hA; (try simp only [uA] at hA); have hF := hA.facts; (try simp only [fA, and_true, true_and] at hF)) | ((with_reducible refine gbx ?_); refine wB hA ?_; clear hF hA; intro b1 w1 hA hb1; (try simp only [uA] at hA); have hF := hA.facts; (try simp only [fA, and_true, true_and] at hF)))
    go_ret
    exact ⟨rfl, hA.toExt⟩
set_option maxRecDepth 100000 in
set_option maxHeartbeats 2000000 in
theorem owns_yes (a : A8) (r t : Int) (h : rightI r t = true) (ha : a.right = true) (ho : a.own r t = a) (w : World) : Calls Tryd.prog 18 #[a.val, .agg #[.int .i64 r, .int .i64 t]] w fun e w' => e = .returned (.bool true) ∧ Ext w w' := by
  have hA : At [] w [] w := At.start (L0 := []) trivial
  have hF := hA.facts
  have hri := fun w => idRight_any r t w
  rw [h] at hri
  have har := fun w => right_any a w
  rw [ha] at har
  have how := fun w => own_any a r t w
  rw [ho] at how
  clear h ha ho
  obtain ⟨s, d0, d1, d2, d3, d4, d5, d6⟩ := a
  simp only [A8.val] at *
  (try simp only [uA] at hA); have hF := hA.facts; (try simp only [fA, and_true, true_and] at hF)
  go_enter Tryd.func18, Tryd.ntmps18
  go_wp2_with (first | ((with_reducible refine gbx ?_); refine wX 40 (.agg #[.int .i64 s, .int .i64 d0, .int .i64 d1, .int .i64 d2, .int .i64 d3, .int .i64 d4, .int .i64 d5, .int .i64 d6]) [.int .i64 s, .int .i64 d0, .int .i64 d1, .int .i64 d2, .int .i64 d3, .int .i64 d4, .int .i64 d5, .int .i64 d6] hA ?_; clear hF hA; intro bA w1 hA hbA; (try simp only [uA] at hA); have hF := hA.facts; (try simp only [fA, and_true, true_and] at hF)) | ((with_reducible refine gbx ?_); refine wX 30 (.agg #[.int .i64 r, .int .i64 t]) [.int .i64 r, .int .i64 t] hA ?_; clear hF hA; intro bI w1 hA hbI; (try simp only [uA] at hA); have hF := hA.facts; (try simp only [fA, and_true, true_and] at hF)) | ((with_reducible refine gst ?_); refine wS hA ?_; clear hF hA; intro w1 hA; (try simp only [uA] at hA); have hF := hA.facts; (try simp only [fA, and_true, true_and] at hF)) | ((with_reducible refine gbx ?_); refine wB hA ?_; clear hF hA; intro b1 w1 hA hb1; (try simp only [uA] at hA); have hF := hA.facts; (try simp only [fA, and_true, true_and] at hF)))
  try go_frame
  (refine wp_region_all (Cl _ _ _) (by kernel_rfl) (by kernel_rfl) (Cl.drew hA) ?_); (have hn1 := Cl.none hA); (have hn2 := Cl.none2 hA); (repeat (first | go_big_quiet_skip | (go_big_quiet_want; (first | (refine quiet_loads_at (ty := 30) (n := 2) rfl rfl (by with_reducible repeat (first | exact Sel.here | apply Sel.there)) (by kernel_rfl) (by kernel_rfl) (by first | assumption | ((try simp only [List.drop_succ_cons, List.drop_zero, List.take_succ_cons, List.take_zero]) <;> exact rfl)) (by exact rfl) ?_; go_frame; go_big_quiet_on) | (refine quiet_loads_at (ty := 40) (n := 8) rfl rfl (by with_reducible repeat (first | exact Sel.here | apply Sel.there)) (by kernel_rfl) (by kernel_rfl) (by first | assumption | ((try simp only [List.drop_succ_cons, List.drop_zero, List.take_succ_cons, List.take_zero]) <;> exact rfl)) (by exact rfl) ?_; go_frame; go_big_quiet_on) | (refine quiet_load_at rfl rfl (by with_reducible repeat (first | exact Sel.here | apply Sel.there)) (by kernel_rfl) (by first | assumption | exact rfl) ?_; go_frame; go_big_quiet_on) | (go_big_quiet_op; (first | go_big_quiet_on | ((apply Exists.intro); (refine ⟨fun w1 hw => ?_, ?_⟩); (focus ((have hw := Cl.out hw); (first | exact through0 hw (hri _) | exact through0 hw (har _) | exact through0 hw (how _)))); (go_big_quiet_on))))))))
  (refine wpQuiet_nil ?_); (intro w1 hB); (clear hF hA hn1 hn2); (have hA := Cl.out hB); (clear hB); (try simp only [uA] at hA); have hF := hA.facts; (try simp only [fA, and_true, true_and] at hF)
  go_wp2_with (first | ((with_reducible refine gst ?_); refine wS hA ?_; clear hF hA; intro w1 hA; (try simp only [uA] at hA); have hF := hA.facts; (try simp only [fA, and_true, true_and] at hF)) | ((with_reducible refine gbx ?_); refine wB hA ?_; clear hF hA; intro b1 w1 hA hb1; (try simp only [uA] at hA); have hF := hA.facts; (try simp only [fA, and_true, true_and] at hF)))
  go_ret
  exact ⟨rfl, hA.toExt⟩
end Go.Proofs.YtpbeennielgogaaDoor.Attr
end
