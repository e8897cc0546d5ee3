/- IndexCovers: its plain law. No program in sight. -/
import Derived.Test.YtpbeennielgogaaDoorIndexC
namespace Go.Proofs.YtpbeennielgogaaDoor.Ix
open Path (bl rightB overB)
open Attr (A8 rightI)
open Cmd (Cm keyC footC clashB)
set_option linter.unusedSimpArgs false
set_option linter.unusedVariables false

theorem le_merge {a b : A8} (h : Le a b) : a.merge b = b := by
  obtain ⟨h0, h1, h2, h3, h4, h5, h6, h7⟩ := h
  obtain ⟨s, d0, d1, d2, d3, d4, d5, d6⟩ := a
  obtain ⟨u, f0, f1, f2, f3, f4, f5, f6⟩ := b
  simp only [A8.merge, A8.mk.injEq] at *
  omega
theorem seven {q : Nat} (h : q < 7) : q = 0 ∨ q = 1 ∨ q = 2 ∨ q = 3 ∨ q = 4 ∨ q = 5 ∨ q = 6 := by omega
theorem le_dep {a b : A8} (h : Le a b) {q : Nat} (hq : q < 7) : a.dep q ≤ b.dep q := by
  obtain ⟨h0, h1, h2, h3, h4, h5, h6, h7⟩ := h
  rcases seven hq with rfl | rfl | rfl | rfl | rfl | rfl | rfl <;> simpa only [A8.dep]
theorem le_set {a b : A8} (h : Le a b) {q : Nat} (hq : q < 7) (v : Int) : Le (a.set q v) (b.set q v) := by
  obtain ⟨h0, h1, h2, h3, h4, h5, h6, h7⟩ := h
  rcases seven hq with rfl | rfl | rfl | rfl | rfl | rfl | rfl <;> constructor <;> simp only [A8.set] <;> first | assumption | exact Int.le_refl _
theorem set_s (a : A8) {q : Nat} (hq : q < 7) (v : Int) : (a.set q v).s = a.s := by
  rcases seven hq with rfl | rfl | rfl | rfl | rfl | rfl | rfl <;> rfl
theorem dep_same (a : A8) {q : Nat} (hq : q < 7) (v : Int) : (a.set q v).dep q = v := by
  rcases seven hq with rfl | rfl | rfl | rfl | rfl | rfl | rfl <;> rfl
theorem dep_other (a : A8) {p q : Nat} (hp : p < 7) (hq : q < 7) (hne : p ≠ q) (v : Int) : (a.set q v).dep p = a.dep p := by
  rcases seven hp with rfl | rfl | rfl | rfl | rfl | rfl | rfl <;> rcases seven hq with rfl | rfl | rfl | rfl | rfl | rfl | rfl <;> first | rfl | exact absurd rfl hne
theorem set_twice (a : A8) {q : Nat} (hq : q < 7) (v : Int) : (a.set q v).set q v = a.set q v := by
  rcases seven hq with rfl | rfl | rfl | rfl | rfl | rfl | rfl <;> rfl
theorem own_right {a : A8} {r t : Int} (h : rightI r t = true) : a.own r t = a.set r.toNat t := by unfold A8.own; rw [if_pos h]
theorem covers_good {a b : Cm} {es0 es2 : List En} {ir it seq kr kt : Int} (hF0 : FineL es0) (hF1 : FineL (noteE es0 (keyC a) ir it seq)) (hG : Grow (noteE es0 (keyC a) ir it seq) es2) (hF2 : FineL es2) (hcl : clashB a b = true) (hi : rightI ir it = true) (hk : rightI kr kt = true) (hne : ir ≠ kr) (hs0 : 0 ≤ seq) (hs1 : seq < 1073741824) :
    Good a b ir it seq kr kt (askE (noteE es0 (keyC a) ir it seq) (keyC b) kr kt) (askE es2 (keyC b) kr kt) := by
  have qi := Attr.rightI_iff.1 hi
  have qk := Attr.rightI_iff.1 hk
  unfold clashB at hcl
  simp only [Bool.and_eq_true] at hcl
  obtain ⟨⟨ha, hb⟩, hc⟩ := hcl
  have ka : keyC a = some ((footC a).1, a.num) := by unfold keyC; rw [if_pos ha]
  have kb : keyC b = some ((footC b).1, b.num) := by unfold keyC; rw [if_pos hb]
  have hn : noteE es0 (keyC a) ir it seq = mergeE es0 (footC a).1 a.num (noteA ir it seq) := by rw [ka]; unfold noteE; simp only [hi, if_true]
  obtain ⟨x, hx, x1, x2, x3⟩ := merge_has (footC a).1 a.num (noteA ir it seq) es0
  rw [← hn] at hx
  generalize noteE es0 (keyC a) ir it seq = es1 at *
  have hck : clashK ((footC b).1, b.num) (x.foot, x.num) = true := by
    unfold clashK
    rw [x1, x2]
    simp only [Bool.or_eq_true, beq_iff_eq] at hc ⊢
    rcases hc with h | h
    · exact .inl h.symm
    · right; rw [Path.over_comm]; exact h
  have e1 : askE es1 (keyC b) kr kt = (askF true ((footC b).1, b.num) es1).set kr.toNat kt := by rw [kb]; unfold askE; simp only [hk]; exact own_right hk
  have e2 : askE es2 (keyC b) kr kt = (askF true ((footC b).1, b.num) es2).set kr.toNat kt := by rw [kb]; unfold askE; simp only [hk]; exact own_right hk
  have hge : Le (x.a.past x.a.s) (askF true ((footC b).1, b.num) es1) := ask_ge hck hx _
  have hle : Le (askF true ((footC b).1, b.num) es1) (askF true ((footC b).1, b.num) es2) := askF_grow hG hF1
  have hfi : Fine (askF true ((footC b).1, b.num) es2) := fine_ask hF2 fine_zero
  have hx0 := (hF1 x hx).1.s0
  rw [e1, e2]
  generalize askF true ((footC b).1, b.num) es1 = A at *
  generalize askF true ((footC b).1, b.num) es2 = B at *
  have ri : ir.toNat < 7 := by omega
  have rk : kr.toNat < 7 := by omega
  have rne : ir.toNat ≠ kr.toNat := by omega
  have hvd : (noteA ir it seq).dep ir.toNat = it + 1 := by unfold noteA; exact dep_same _ ri _
  have hvs : (noteA ir it seq).s = seq := by unfold noteA; rw [set_s _ ri]; show min (max seq 0) 1073741824 = seq; omega
  have hpd : ∀ q : Nat, q < 7 → (x.a.past x.a.s).dep q = x.a.dep q := fun q hq => by
    unfold A8.past
    rw [if_pos hx0]
    rcases seven hq with rfl | rfl | rfl | rfl | rfl | rfl | rfl <;> rfl
  constructor
  · rw [dep_other _ ri rk rne]
    have h1 := le_dep x3 ri
    have h2 := le_dep hge ri
    rw [hpd _ ri] at h2
    rw [hvd] at h1
    omega
  · rw [set_s _ rk]
    have h1 := x3.s
    have h2 := hge.s
    rw [hvs] at h1
    unfold A8.past at h2
    rw [if_pos hx0] at h2
    simp only at h2
    omega
  · exact le_merge (le_set hle rk kt)
  · exact fine_iff.2 (fine_set hfi _ (by omega) (by omega))
  · rw [own_right hk, set_twice _ rk]
end Go.Proofs.YtpbeennielgogaaDoor.Ix
