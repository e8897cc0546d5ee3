/- The walk of the law's step, where nothing is to be done, and where Send refuses. -/
import Derived.Test.YtdbhndieommkaaaNetP6
namespace Go.Proofs.Ytdbhndieommkaaa.NetW
open Go.RowKit

theorem block_six {w : World} {b : Nat} {c0 c1 c2 c3 c4 c5 : Value} {T : TypeId} (h : BlockIs w b [c0, c1, c2, c3, c4, c5] T) :
    w.cell? ⟨b, 0, none⟩ = some c0 ∧ w.cell? ⟨b, 1, none⟩ = some c1 ∧ w.cell? ⟨b, 2, none⟩ = some c2 ∧ w.cell? ⟨b, 3, none⟩ = some c3 ∧ w.cell? ⟨b, 4, none⟩ = some c4 ∧ w.cell? ⟨b, 5, none⟩ = some c5 :=
  ⟨h.cell 0, h.cell 1, h.cell 2, h.cell 3, h.cell 4, h.cell 5⟩

/-- an op's value -/
def opV (kind i bit fro too : Int) (dv : Value) : Value := .agg #[.int .i64 kind, .int .i64 i, .int .i64 bit, .int .i64 fro, .int .i64 too, dv]

set_option maxRecDepth 100000 in
theorem step_other {B : Nat} {w : World} {p : Nat} {limit : Int} {fs rs : List Fr} {lv v : Value} (h : St B w p limit fs rs lv v) (kind i bit fro too : Int) (dv : Value) (hdv : ∃ a n c, dv = .slice a n c)
    (hk : kind ≠ 1 ∧ kind ≠ 2 ∧ kind ≠ 3 ∧ kind ≠ 4 ∧ kind ≠ 5) :
    Calls Try.prog 33 #[.pointer (some ⟨p, 0, none⟩), v, .int .i64 limit, opV kind i bit fro too dv] w (StepPost B p limit fs lv w) := by
  obtain ⟨a, n, c, rfl⟩ := hdv
  have HV : Hid (∃ va vc, v = .slice va fs.length vc) := by
    obtain ⟨va, vc, e⟩ := row_form h.row
    rw [h.len] at e
    exact ⟨va, vc, e⟩
  have HS : Hid (St B (w.alloc (.cells #[.int .i64 kind, .int .i64 i, .int .i64 bit, .int .i64 fro, .int .i64 too, .slice a n c] 59)) p limit fs rs lv v) := h.ext ((Ext.refl _).alloc _)
  have HE : Hid (Ext w (w.alloc (.cells #[.int .i64 kind, .int .i64 i, .int .i64 bit, .int .i64 fro, .int .i64 too, .slice a n c] 59))) := (Ext.refl _).alloc _
  have BO : BlockIs (w.alloc (.cells #[.int .i64 kind, .int .i64 i, .int .i64 bit, .int .i64 fro, .int .i64 too, .slice a n c] 59)) w.heap.size [.int .i64 kind, .int .i64 i, .int .i64 bit, .int .i64 fro, .int .i64 too, .slice a n c] 59 := BlockIs.alloc w _ _
  obtain ⟨va, vc, rfl⟩ := HV.out
  clear HV
  clear h
  unfold opV
  have HMM2 : Hid (fs.length ≤ fs.length + 1) := by show _ ≤ _; omega
  generalize fs.length = m at HS ⊢
  obtain ⟨k1, k2, k3, k4, k5⟩ := hk
  have b1 : (kind == 1) = false := by simpa using k1
  have b2 : (kind == 2) = false := by simpa using k2
  have b3 : (kind == 3) = false := by simpa using k3
  have b4 : (kind == 4) = false := by simpa using k4
  have b5 : (kind == 5) = false := by simpa using k5
  clear k1 k2 k3 k4 k5
  go_enter Try.func33, Try.ntmps33
  go_upto_region 1 with (fail)
  generalize World.alloc w _ = W at *
  generalize w.heap.size = b at *
  obtain ⟨x0, x1, x2, x3, x4, x5⟩ := block_six BO
  clear BO
  by_cases hi : 0 ≤ i
  all_goals
    go_wp2_with fail
    go_ret2
    exact ⟨_, lv, fs, rs, rfl, HS.out, HE.out.exc _, HMM2.out⟩

set_option maxRecDepth 100000 in
set_option maxHeartbeats 2000000 in
/-- what Send answers is what the document wants -/
theorem step_send_no {B : Nat} {w : World} {p : Nat} {limit : Int} {fs rs : List Fr} {lv v : Value} (h : St B w p limit fs rs lv v) (hmax : fs.length ≤ 1000) (i bit fro too : Int) (dv : Value) (xs : List Int) (hdv : BytesAv (fun k => B ≤ k) w dv xs) (hxm : xs.length ≤ 9223372036854775807)
    (hs : sendE limit fs.length fro too xs.length ≠ 0) :
    Calls Try.prog 33 #[.pointer (some ⟨p, 0, none⟩), v, .int .i64 limit, opV 1 i bit fro too dv] w (StepPost B p limit fs lv w) := by
  have HX : Hid (BytesAt w dv xs) := hdv.at
  obtain ⟨a, c, rfl, _⟩ := hdv
  generalize hn : xs.length = n at *
  have HN : Hid (xs.length = n) := hn
  clear hn
  have HV : Hid (∃ va vc, v = .slice va fs.length vc) := by
    obtain ⟨va, vc, e⟩ := row_form h.row
    rw [h.len] at e
    exact ⟨va, vc, e⟩
  have HS : Hid (St B (w.alloc (.cells #[.int .i64 1, .int .i64 i, .int .i64 bit, .int .i64 fro, .int .i64 too, .slice a n c] 59)) p limit fs rs lv v) := h.ext ((Ext.refl _).alloc _)
  have HE : Hid (Ext w (w.alloc (.cells #[.int .i64 1, .int .i64 i, .int .i64 bit, .int .i64 fro, .int .i64 too, .slice a n c] 59))) := (Ext.refl _).alloc _
  have BO : BlockIs (w.alloc (.cells #[.int .i64 1, .int .i64 i, .int .i64 bit, .int .i64 fro, .int .i64 too, .slice a n c] 59)) w.heap.size [.int .i64 1, .int .i64 i, .int .i64 bit, .int .i64 fro, .int .i64 too, .slice a n c] 59 := BlockIs.alloc w _ _
  obtain ⟨va, vc, rfl⟩ := HV.out
  clear HV
  unfold opV
  have HC : Hid (∀ W, Ext w W → Calls Try.prog 27 #[.pointer (some ⟨p, 0, none⟩), .agg #[.int .i64 fro, .int .i64 too, .slice a n c]] W fun e w' => e = .returned (.int .i64 (sendE limit fs.length fro too n)) ∧ Ext W w') := fun W e => by
    have := send_no (h.net.ext e) fro too (.slice a n c) xs (HX.out.ext e) (by rw [HN.out]; exact hxm) (by omega) (by rw [HN.out]; exact hs)
    rw [HN.out] at this
    exact this
  clear h HX HN
  have HSD : Hid (sendE limit fs.length fro too n = if !repB fro || !repB too then 12 else if 512 < n then 11 else if limit ≤ (fs.length : Int) then 14 else 0) := rfl
  have HMM2 : Hid (fs.length ≤ fs.length + 1) := by show _ ≤ _; omega
  generalize fs.length = m at HC HSD HS hmax hs ⊢
  go_enter Try.func33, Try.ntmps33
  go_upto_region 1 with (fail)
  generalize World.alloc w _ = W at *
  generalize w.heap.size = b at *
  obtain ⟨x0, x1, x2, x3, x4, x5⟩ := block_six BO
  clear BO
  have hcs : (fro < 0 ∧ sendE limit m fro too n = 12) ∨ (0 ≤ fro ∧ 6 < fro ∧ sendE limit m fro too n = 12) ∨ (0 ≤ fro ∧ fro ≤ 6 ∧ too < 0 ∧ sendE limit m fro too n = 12) ∨ (0 ≤ fro ∧ fro ≤ 6 ∧ 0 ≤ too ∧ 6 < too ∧ sendE limit m fro too n = 12) ∨
      (0 ≤ fro ∧ fro ≤ 6 ∧ 0 ≤ too ∧ too ≤ 6 ∧ 512 < n ∧ sendE limit m fro too n = 11) ∨ (0 ≤ fro ∧ fro ≤ 6 ∧ 0 ≤ too ∧ too ≤ 6 ∧ n ≤ 512 ∧ limit ≤ (m : Int) ∧ sendE limit m fro too n = 14) := by
    have e := HSD.out
    unfold repB at e
    by_cases a1 : 0 ≤ fro
    · by_cases a2 : fro < 7
      · by_cases a3 : 0 ≤ too
        · by_cases a4 : too < 7
          · by_cases a5 : 512 < n
            · simp [a1, a2, a3, a4, a5] at e
              omega
            · by_cases a6 : limit ≤ (m : Int)
              · simp [a1, a2, a3, a4, a5, a6] at e
                omega
              · simp [a1, a2, a3, a4, a5, a6] at e
                exact absurd e hs
          · simp [a1, a2, a3, a4] at e
            omega
        · simp [a1, a2, a3] at e
          omega
      · simp [a1, a2] at e
        omega
    · simp [a1] at e
      omega
  clear HSD hs
  rcases hcs with ⟨q1, hE⟩ | ⟨q1, q2, hE⟩ | ⟨q1, q2, q3, hE⟩ | ⟨q1, q2, q3, q4, hE⟩ | ⟨q1, q2, q3, q4, q5, hE⟩ | ⟨q1, q2, q3, q4, q5, q6, hE⟩
  all_goals
    rw [hE] at HC
    clear hE
    by_cases hi : 0 ≤ i
    all_goals
      go_upto_region 5 with (fail)
      have BF : BlockIs (W.alloc (.cells #[.int .i64 fro, .int .i64 too, .slice a n c] 41)) W.heap.size [.int .i64 fro, .int .i64 too, .slice a n c] 41 := BlockIs.alloc W _ _
      have HE2 : Hid (Ext W (W.alloc (.cells #[.int .i64 fro, .int .i64 too, .slice a n c] 41))) := (Ext.refl _).alloc _
      clear x0 x1 x2 x3 x4 x5
      generalize World.alloc W _ = U at *
      generalize W.heap.size = bf at *
      obtain ⟨y0, y1, y2, _, _, _, _⟩ := BF.three
      go_wp2_with fail
      refine (HC.out _ (HE.out.trans HE2.out)).mono ?_
      rintro e w1 ⟨rfl, e1⟩
      clear y0 y1 y2
      obtain ⟨y0, y1, y2, _, _, _, _⟩ := (BF.ext e1).three
      go_wp2_with fail
      go_ret2
      exact ⟨_, lv, fs, rs, rfl, HS.out.ext (HE2.out.trans e1), ((HE.out.trans HE2.out).trans e1).exc _, HMM2.out⟩
end Go.Proofs.Ytdbhndieommkaaa.NetW
