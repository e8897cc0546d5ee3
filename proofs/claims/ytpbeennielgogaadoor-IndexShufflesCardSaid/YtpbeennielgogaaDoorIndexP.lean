/- The plain law of an index: what comes ahead grows with what is noted, covers it, and may be. No program in sight. -/
import Derived.Test.YtpbeennielgogaaDoorIndexS
namespace Go.Proofs.YtpbeennielgogaaDoor.Ix
open Path (bl rightB overB)
open Attr (A8 rightI)
open Cmd (Cm keyC footC)
set_option linter.unusedSimpArgs false
set_option linter.unusedVariables false

/-- none of the numbers is greater -/
structure Le (a b : A8) : Prop where
  s : a.s ≤ b.s
  d0 : a.d0 ≤ b.d0
  d1 : a.d1 ≤ b.d1
  d2 : a.d2 ≤ b.d2
  d3 : a.d3 ≤ b.d3
  d4 : a.d4 ≤ b.d4
  d5 : a.d5 ≤ b.d5
  d6 : a.d6 ≤ b.d6
theorem Le.refl (a : A8) : Le a a := ⟨Int.le_refl _, Int.le_refl _, Int.le_refl _, Int.le_refl _, Int.le_refl _, Int.le_refl _, Int.le_refl _, Int.le_refl _⟩
theorem Le.trans {a b c : A8} (h : Le a b) (k : Le b c) : Le a c :=
  ⟨Int.le_trans h.s k.s, Int.le_trans h.d0 k.d0, Int.le_trans h.d1 k.d1, Int.le_trans h.d2 k.d2, Int.le_trans h.d3 k.d3, Int.le_trans h.d4 k.d4, Int.le_trans h.d5 k.d5, Int.le_trans h.d6 k.d6⟩
theorem le_left (a b : A8) : Le a (a.merge b) := by constructor <;> (simp only [A8.merge]; omega)
theorem le_right (a b : A8) : Le b (a.merge b) := by constructor <;> (simp only [A8.merge]; omega)
theorem merge_le {a b c : A8} (h : Le a c) (k : Le b c) : Le (a.merge b) c := by
  obtain ⟨h0, h1, h2, h3, h4, h5, h6, h7⟩ := h
  obtain ⟨k0, k1, k2, k3, k4, k5, k6, k7⟩ := k
  constructor <;> (simp only [A8.merge]; omega)
theorem past_le {a b : A8} (h : Le a b) (ha : 0 ≤ a.s) : Le (a.past a.s) (b.past b.s) := by
  obtain ⟨h0, h1, h2, h3, h4, h5, h6, h7⟩ := h
  have hb : 0 ≤ b.s := Int.le_trans ha h0
  unfold A8.past
  rw [if_pos ha, if_pos hb]
  constructor <;> simp only <;> omega

/-! ### What comes ahead -/
theorem fold_ge (g : Bool) (k : ByteArray × Int) : ∀ (l : List En) (z : A8), Le z (l.foldl (askStep g k) z)
  | [], z => Le.refl z
  | e :: l, z => by
    rw [List.foldl_cons]
    refine Le.trans ?_ (fold_ge g k l _)
    unfold askStep
    split
    · exact le_left _ _
    · exact Le.refl _
theorem ask_ge {k : ByteArray × Int} {e : En} (hc : clashK k (e.foot, e.num) = true) : ∀ {l : List En}, e ∈ l → ∀ z, Le (e.a.past e.a.s) (l.foldl (askStep true k) z)
  | x :: l, he, z => by
    rw [List.foldl_cons]
    rcases List.mem_cons.1 he with rfl | he
    · refine Le.trans ?_ (fold_ge true k l _)
      unfold askStep
      rw [hc]
      exact le_right _ _
    · exact ask_ge hc he _
theorem ask_le {g : Bool} {k : ByteArray × Int} {c : A8} : ∀ {l : List En} {z : A8}, Le z c → (∀ e ∈ l, clashK k (e.foot, e.num) = true → Le (e.a.past e.a.s) c) → Le (l.foldl (askStep g k) z) c
  | [], z, hz, _ => hz
  | x :: l, z, hz, h => by
    rw [List.foldl_cons]
    refine ask_le ?_ (fun e he => h e (by simp [he]))
    unfold askStep
    split
    · rename_i q
      simp only [Bool.and_eq_true] at q
      exact merge_le hz (h x (by simp) q.2)
    · exact hz
/-- whatever was noted is noted still -/
def Grow (l m : List En) : Prop := ∀ e ∈ l, ∃ x ∈ m, x.foot = e.foot ∧ x.num = e.num ∧ Le e.a x.a
theorem Grow.refl (l : List En) : Grow l l := fun e he => ⟨e, he, rfl, rfl, Le.refl _⟩
theorem Grow.trans {l m n : List En} (h : Grow l m) (k : Grow m n) : Grow l n := fun e he => by
  obtain ⟨x, hx, x1, x2, x3⟩ := h e he
  obtain ⟨y, hy, y1, y2, y3⟩ := k x hx
  exact ⟨y, hy, y1.trans x1, y2.trans x2, x3.trans y3⟩
theorem grow_merge (f : ByteArray) (n : Int) (v : A8) : ∀ es : List En, Grow es (mergeE es f n v)
  | [] => nofun
  | e :: es => by
    intro x hx
    unfold mergeE
    by_cases hq : e.is f n = true
    · rw [if_pos hq]
      have hq2 : e.foot = f ∧ e.num = n := by simpa [En.is] using hq
      rcases List.mem_cons.1 hx with rfl | hx
      · exact ⟨⟨f, n, x.a.merge v⟩, by simp, hq2.1.symm, hq2.2.symm, le_left _ _⟩
      · exact ⟨x, by simp [hx], rfl, rfl, Le.refl _⟩
    · rw [if_neg hq]
      rcases List.mem_cons.1 hx with rfl | hx
      · exact ⟨x, by simp, rfl, rfl, Le.refl _⟩
      · obtain ⟨y, hy, h⟩ := grow_merge f n v es x hx
        exact ⟨y, by simp [hy], h⟩
theorem grow_note (es : List En) (k : Option (ByteArray × Int)) (r t q : Int) : Grow es (noteE es k r t q) := by
  unfold noteE
  split
  · split
    · exact grow_merge _ _ _ _
    · exact Grow.refl _
  · exact Grow.refl _
theorem grow_add (es : List En) (f : ByteArray) (n : Int) (v : A8) : Grow es (addE es f n v) := by
  unfold addE
  split
  · exact grow_merge _ _ _ _
  · exact Grow.refl _
theorem grow_step (es : List En) (o : Op12) : Grow es (stepE es o) := by
  unfold stepE
  split
  · exact grow_note _ _ _ _ _
  split
  · exact grow_add _ _ _ _
  · exact Grow.refl _
theorem grow_steps : ∀ (os : List Op12) (es : List En), Grow es (os.foldl stepE es)
  | [], es => Grow.refl es
  | o :: os, es => (grow_step es o).trans (grow_steps os _)
theorem merge_has (f : ByteArray) (n : Int) (v : A8) : ∀ es : List En, ∃ x ∈ mergeE es f n v, x.foot = f ∧ x.num = n ∧ Le v x.a
  | [] => ⟨⟨f, n, A8.zero.merge v⟩, by simp [mergeE], rfl, rfl, le_right _ _⟩
  | e :: es => by
    unfold mergeE
    by_cases hq : e.is f n = true
    · rw [if_pos hq]
      exact ⟨⟨f, n, e.a.merge v⟩, by simp, rfl, rfl, le_right _ _⟩
    · rw [if_neg hq]
      obtain ⟨x, hx, h⟩ := merge_has f n v es
      exact ⟨x, by simp [hx], h⟩

/-! ### The entries may be -/
structure Fine (a : A8) : Prop where
  s0 : 0 ≤ a.s
  s1 : a.s ≤ 1073741824
  d0 : 0 ≤ a.d0 ∧ a.d0 ≤ 1024
  d1 : 0 ≤ a.d1 ∧ a.d1 ≤ 1024
  d2 : 0 ≤ a.d2 ∧ a.d2 ≤ 1024
  d3 : 0 ≤ a.d3 ∧ a.d3 ≤ 1024
  d4 : 0 ≤ a.d4 ∧ a.d4 ≤ 1024
  d5 : 0 ≤ a.d5 ∧ a.d5 ≤ 1024
  d6 : 0 ≤ a.d6 ∧ a.d6 ≤ 1024
theorem fine_iff {a : A8} : a.right = true ↔ Fine a := by
  unfold A8.right Attr.badD
  simp only [Bool.and_eq_true, Bool.not_eq_true', Bool.or_eq_false_iff, decide_eq_false_iff_not, decide_eq_true_iff]
  constructor
  · rintro ⟨⟨⟨⟨⟨⟨⟨h0, h1⟩, h2⟩, h3⟩, h4⟩, h5⟩, h6⟩, h7⟩
    constructor <;> omega
  · rintro ⟨s0, s1, h0, h1, h2, h3, h4, h5, h6⟩
    omega
theorem fine_zero : Fine A8.zero := by constructor <;> (simp only [A8.zero]; omega)
theorem fine_merge {a b : A8} (h : Fine a) (k : Fine b) : Fine (a.merge b) := by
  obtain ⟨h0, h1, h2, h3, h4, h5, h6, h7, h8⟩ := h
  obtain ⟨k0, k1, k2, k3, k4, k5, k6, k7, k8⟩ := k
  constructor <;> (simp only [A8.merge]; omega)
theorem fine_past {a : A8} (h : Fine a) : Fine (a.past a.s) := by
  obtain ⟨h0, h1, h2, h3, h4, h5, h6, h7, h8⟩ := h
  unfold A8.past
  rw [if_pos h0]
  constructor <;> simp only <;> omega
theorem fine_set {a : A8} (h : Fine a) (q : Nat) {v : Int} (h0 : 0 ≤ v) (h1 : v ≤ 1024) : Fine (a.set q v) := by
  obtain ⟨k0, k1, k2, k3, k4, k5, k6, k7, k8⟩ := h
  unfold A8.set
  split <;> constructor <;> (try simp only) <;> omega
theorem fine_note {r t q : Int} (h : rightI r t = true) : Fine (noteA r t q) := by
  have h := Attr.rightI_iff.1 h
  unfold noteA
  refine fine_set ?_ _ (by omega) (by omega)
  constructor <;> (simp only [A8.zero]; omega)
def FineL (es : List En) : Prop := ∀ e ∈ es, Fine e.a ∧ e.foot.size ≤ 1000
theorem fineL_merge {f : ByteArray} {n : Int} {v : A8} (hv : Fine v) (hf : f.size ≤ 1000) : ∀ {es : List En}, FineL es → FineL (mergeE es f n v)
  | [], _ => by
    intro x hx
    simp only [mergeE, List.mem_singleton] at hx
    subst hx
    exact ⟨fine_merge fine_zero hv, hf⟩
  | e :: es, h => by
    intro x hx
    unfold mergeE at hx
    by_cases hq : e.is f n = true
    · rw [if_pos hq] at hx
      rcases List.mem_cons.1 hx with rfl | hx
      · exact ⟨fine_merge (h e (by simp)).1 hv, hf⟩
      · exact h x (by simp [hx])
    · rw [if_neg hq] at hx
      rcases List.mem_cons.1 hx with rfl | hx
      · exact h x (by simp)
      · exact fineL_merge hv hf (fun y hy => h y (by simp [hy])) x hx
theorem fineL_step {es : List En} (h : FineL es) {o : Op12} (ho : o.ok) : FineL (stepE es o) := by
  unfold stepE
  split
  · unfold noteE keyC
    split
    · rename_i f n hk
      split at hk
      · simp only [Option.some.injEq, Prod.mk.injEq] at hk
        obtain ⟨rfl, rfl⟩ := hk
        split
        · rename_i hr
          exact fineL_merge (fine_note hr) (Cmd.foot_size _ ho.cf ho.cp) h
        · exact h
      · cases hk
    · exact h
  split
  · unfold addE
    split
    · rename_i hq
      simp only [Bool.and_eq_true] at hq
      exact fineL_merge (fine_iff.1 hq.2) ho.ef h
    · exact h
  · exact h
theorem fine_ask {g : Bool} {k : ByteArray × Int} : ∀ {l : List En}, FineL l → ∀ {z : A8}, Fine z → Fine (l.foldl (askStep g k) z)
  | [], _, z, hz => hz
  | x :: l, h, z, hz => by
    rw [List.foldl_cons]
    refine fine_ask (fun e he => h e (by simp [he])) ?_
    unfold askStep
    split
    · exact fine_merge hz (fine_past (h x (by simp)).1)
    · exact hz
/-- what comes ahead grows with what is noted -/
theorem askF_grow {g : Bool} {k : ByteArray × Int} {l m : List En} (h : Grow l m) (hl : FineL l) : Le (askF g k l) (askF g k m) := by
  cases g with
  | false => rw [askF_false, askF_false]; exact Le.refl _
  | true =>
    refine ask_le (fold_ge _ _ _ _) (fun e he hc => ?_)
    obtain ⟨x, hx, x1, x2, x3⟩ := h e he
    exact (past_le x3 (hl e he).1.s0).trans (ask_ge (by rw [x1, x2]; exact hc) hx _)
end Go.Proofs.YtpbeennielgogaaDoor.Ix
