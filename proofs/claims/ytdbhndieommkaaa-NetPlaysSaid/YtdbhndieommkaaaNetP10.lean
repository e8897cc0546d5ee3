/- The walk of the law's step where Take, Drop and Spoil find nothing. -/
import Derived.Test.YtdbhndieommkaaaNetP9
namespace Go.Proofs.Ytdbhndieommkaaa.NetW
open Go.RowKit

set_option maxRecDepth 100000 in
set_option maxHeartbeats 2000000 in
theorem step_none2 {B : Nat} {w : World} {p : Nat} {limit : Int} {fs rs : List Fr} {lv v : Value} (h : St B w p limit fs rs lv v) (i bit fro too : Int) (dv : Value) (hdv : ∃ a n c, dv = .slice a n c) (hi : hasN i fs.length = false) :
    Calls Try.prog 33 #[.pointer (some ⟨p, 0, none⟩), v, .int .i64 limit, opV 2 i bit fro too dv] w (StepPost B p limit fs lv w) := by
  obtain ⟨a, n, c, rfl⟩ := hdv
  have HV : Hid (∃ va vc, v = .slice va fs.length vc) := by
    obtain ⟨va, vc, e⟩ := row_form h.row
    rw [h.len] at e
    exact ⟨va, vc, e⟩
  have HS : Hid (St B (w.alloc (.cells #[.int .i64 2, .int .i64 i, .int .i64 bit, .int .i64 fro, .int .i64 too, .slice a n c] 59)) p limit fs rs lv v) := h.ext ((Ext.refl _).alloc _)
  have HE : Hid (Ext w (w.alloc (.cells #[.int .i64 2, .int .i64 i, .int .i64 bit, .int .i64 fro, .int .i64 too, .slice a n c] 59))) := (Ext.refl _).alloc _
  have BO : BlockIs (w.alloc (.cells #[.int .i64 2, .int .i64 i, .int .i64 bit, .int .i64 fro, .int .i64 too, .slice a n c] 59)) w.heap.size [.int .i64 2, .int .i64 i, .int .i64 bit, .int .i64 fro, .int .i64 too, .slice a n c] 59 := BlockIs.alloc w _ _
  obtain ⟨va, vc, rfl⟩ := HV.out
  clear HV
  unfold opV
  have HC : Hid (∀ W, Ext w W → Calls Try.prog 30 #[.pointer (some ⟨p, 0, none⟩), .int .i64 i] W fun e w' => e = .returned (.tuple #[.agg #[.int .i64 0, .int .i64 0, .slice none 0 0], .int .i64 13]) ∧ Ext W w') := fun W e => take_no (h.net.ext e) i hi
  have HST : Hid (St B w p limit fs rs lv (.slice va fs.length vc)) := h
  clear h HS
  have HMM2 : Hid (fs.length ≤ fs.length + 1) := by show _ ≤ _; omega
  generalize fs.length = m at HST hi ⊢
  have hi' : i < 0 ∨ (0 ≤ i ∧ decide (i < (m : Int)) = false) := by
    simp only [hasN, Bool.and_eq_false_iff, decide_eq_false_iff_not] at hi ⊢
    omega
  clear hi
  go_enter Try.func33, Try.ntmps33
  go_upto_region 1 with (fail)
  generalize World.alloc w _ = W at *
  generalize w.heap.size = b at *
  obtain ⟨x0, x1, x2, x3, x4, x5⟩ := block_six BO
  rcases hi' with hi | ⟨hi0, hi⟩
  all_goals
    go_upto_region 26 with (fail)
    have B15 : BlockIs ((W.alloc (.cells #[.int .i64 0, .int .i64 0, .slice none 0 0] 41)).alloc (.cells #[.int .i64 0, .int .i64 0, .slice none 0 0] 53)) W.heap.size [.int .i64 0, .int .i64 0, .slice none 0 0] 41 := (BlockIs.alloc W _ _).ext ((Ext.refl _).alloc _)
    have B17 : BlockIs ((W.alloc (.cells #[.int .i64 0, .int .i64 0, .slice none 0 0] 41)).alloc (.cells #[.int .i64 0, .int .i64 0, .slice none 0 0] 53)) (W.heap.size + 1) [.int .i64 0, .int .i64 0, .slice none 0 0] 53 := BlockIs.new (by simp)
    have HE2 : Hid (Ext W ((W.alloc (.cells #[.int .i64 0, .int .i64 0, .slice none 0 0] 41)).alloc (.cells #[.int .i64 0, .int .i64 0, .slice none 0 0] 53))) := ((Ext.refl _).alloc _).alloc _
    have BO2 := BO.ext HE2.out
    clear x0 x1 x2 x3 x4 x5 BO
    generalize World.alloc (World.alloc W _) _ = U at *
    have hb15 : w.heap.size ≤ W.heap.size := HE.out.size
    generalize W.heap.size = b15 at *
    obtain ⟨x0, x1, x2, x3, x4, x5⟩ := block_six BO2
    go_wp2_with fail
    refine (HC.out _ (HE.out.trans HE2.out)).mono ?_
    rintro e w1 ⟨rfl, e1⟩
    have C15 := B15.ext e1
    have C17 := B17.ext e1
    have CO := BO2.ext e1
    have HE3 : Hid (Ext w w1) := (HE.out.trans HE2.out).trans e1
    clear B15 B17 BO2 x0 x1 x2 x3 x4 x5 e1
    obtain ⟨x0, x1, x2, x3, x4, x5⟩ := block_six CO
    obtain ⟨y0, y1, y2, yf0, yf1, yf2, yl⟩ := C15.three
    obtain ⟨z0, z1, z2, _, _, _, _⟩ := C17.three
    go_upto_region 33 with (fail)
    have D15 : BlockIs (((w1.setCell ⟨b15, 0, none⟩ (.int .i64 0)).setCell ⟨b15, 1, none⟩ (.int .i64 0)).setCell ⟨b15, 2, none⟩ (.slice none 0 0)) b15 [.int .i64 0, .int .i64 0, .slice none 0 0] 41 := ((C15.set 0 _).set 1 _).set 2 _
    have D17 : BlockIs (((w1.setCell ⟨b15, 0, none⟩ (.int .i64 0)).setCell ⟨b15, 1, none⟩ (.int .i64 0)).setCell ⟨b15, 2, none⟩ (.slice none 0 0)) (b15 + 1) [.int .i64 0, .int .i64 0, .slice none 0 0] 53 := ((C17.other (p := ⟨b15, 0, none⟩) (by simp) _).other (p := ⟨b15, 1, none⟩) (by simp) _).other (p := ⟨b15, 2, none⟩) (by simp) _
    have HE4 : Hid (Ext w (((w1.setCell ⟨b15, 0, none⟩ (.int .i64 0)).setCell ⟨b15, 1, none⟩ (.int .i64 0)).setCell ⟨b15, 2, none⟩ (.slice none 0 0))) := ((HE3.out.setCell (by simp only; omega) _).setCell (by simp only; omega) _).setCell (by simp only; omega) _
    clear C15 C17 y0 y1 y2 yf0 yf1 yf2 yl z0 z1 z2
    generalize World.setCell (World.setCell (World.setCell w1 _ _) _ _) _ _ = V at *
    obtain ⟨y0, y1, y2, yf0, yf1, yf2, yl⟩ := D15.three
    obtain ⟨z0, z1, z2, _, _, _, _⟩ := D17.three
    have sX : Hid (∀ X, Ext V X → (((X.cell? ⟨b15, 0, none⟩ = some (.int .i64 0) ∧ X.cell? ⟨b15, 1, none⟩ = some (.int .i64 0) ∧ X.cell? ⟨b15, 2, none⟩ = some (.slice none 0 0)) ∧ X.cell? ⟨b15 + 1, 0, none⟩ = some (.int .i64 0) ∧ X.cell? ⟨b15 + 1, 1, none⟩ = some (.int .i64 0) ∧ X.cell? ⟨b15 + 1, 2, none⟩ = some (.slice none 0 0)) ∧ Hid (Ext V X))) := fun X e => ⟨⟨⟨e.cell_of y0, e.cell_of y1, e.cell_of y2⟩, e.cell_of z0, e.cell_of z1, e.cell_of z2⟩, e⟩
    have sE : Hid (∀ X : World, (((X.cell? ⟨b15, 0, none⟩ = some (.int .i64 0) ∧ X.cell? ⟨b15, 1, none⟩ = some (.int .i64 0) ∧ X.cell? ⟨b15, 2, none⟩ = some (.slice none 0 0)) ∧ X.cell? ⟨b15 + 1, 0, none⟩ = some (.int .i64 0) ∧ X.cell? ⟨b15 + 1, 1, none⟩ = some (.int .i64 0) ∧ X.cell? ⟨b15 + 1, 2, none⟩ = some (.slice none 0 0)) ∧ Hid (Ext V X)) → Ext V X) := fun X s => s.2.out
    go_region_held3 (fun X => ((X.cell? ⟨b15, 0, none⟩ = some (.int .i64 0) ∧ X.cell? ⟨b15, 1, none⟩ = some (.int .i64 0) ∧ X.cell? ⟨b15, 2, none⟩ = some (.slice none 0 0)) ∧ X.cell? ⟨b15 + 1, 0, none⟩ = some (.int .i64 0) ∧ X.cell? ⟨b15 + 1, 1, none⟩ = some (.int .i64 0) ∧ X.cell? ⟨b15 + 1, 2, none⟩ = some (.slice none 0 0)) ∧ Hid (Ext V X))
      (first
        | exact sX.out _ (Ext.refl _)
        | exact sX.out _ (Ext.drew (Ext.refl _))
        | exact sX.out _ (Ext.trans (sE.out _ (by assumption)) eO))
      (first
        | (go_at_call 32; refine (of_any 0 0 _ 0 _ ⟨_, _, rfl⟩).mono ?_; rintro e w' ⟨rfl, eO⟩)
        | (go_at_call 31; refine (same_true 0 0 (.slice none 0 0) (.slice none 0 0) [] _ (nil_bytes _) (nil_bytes _) (by simp)).mono ?_; rintro e w' ⟨rfl, eO⟩))
    have hfin := sE.out _ (by assumption)
    go_wp2_with fail
    go_ret2
    exact ⟨_, lv, fs, rs, rfl, HST.out.ext (HE4.out.trans hfin), (HE4.out.trans hfin).exc _, HMM2.out⟩

set_option maxRecDepth 100000 in
set_option maxHeartbeats 2000000 in
theorem step_none3 {B : Nat} {w : World} {p : Nat} {limit : Int} {fs rs : List Fr} {lv v : Value} (h : St B w p limit fs rs lv v) (i bit fro too : Int) (dv : Value) (hdv : ∃ a n c, dv = .slice a n c) (hi : hasN i fs.length = false) :
    Calls Try.prog 33 #[.pointer (some ⟨p, 0, none⟩), v, .int .i64 limit, opV 3 i bit fro too dv] w (StepPost B p limit fs lv w) := by
  obtain ⟨a, n, c, rfl⟩ := hdv
  have HV : Hid (∃ va vc, v = .slice va fs.length vc) := by
    obtain ⟨va, vc, e⟩ := row_form h.row
    rw [h.len] at e
    exact ⟨va, vc, e⟩
  have HS : Hid (St B (w.alloc (.cells #[.int .i64 3, .int .i64 i, .int .i64 bit, .int .i64 fro, .int .i64 too, .slice a n c] 59)) p limit fs rs lv v) := h.ext ((Ext.refl _).alloc _)
  have HE : Hid (Ext w (w.alloc (.cells #[.int .i64 3, .int .i64 i, .int .i64 bit, .int .i64 fro, .int .i64 too, .slice a n c] 59))) := (Ext.refl _).alloc _
  have BO : BlockIs (w.alloc (.cells #[.int .i64 3, .int .i64 i, .int .i64 bit, .int .i64 fro, .int .i64 too, .slice a n c] 59)) w.heap.size [.int .i64 3, .int .i64 i, .int .i64 bit, .int .i64 fro, .int .i64 too, .slice a n c] 59 := BlockIs.alloc w _ _
  obtain ⟨va, vc, rfl⟩ := HV.out
  clear HV
  unfold opV
  have HC : Hid (∀ W, Ext w W → Calls Try.prog 52 #[.pointer (some ⟨p, 0, none⟩), .int .i64 i] W fun e w' => e = .returned (.int .i64 13) ∧ Ext W w') := fun W e => drop_no (h.net.ext e) i hi
  have HST : Hid (St B w p limit fs rs lv (.slice va fs.length vc)) := h
  clear h HS
  have HMM2 : Hid (fs.length ≤ fs.length + 1) := by show _ ≤ _; omega
  generalize fs.length = m at HST hi ⊢
  have hi' : i < 0 ∨ (0 ≤ i ∧ decide (i < (m : Int)) = false) := by
    simp only [hasN, Bool.and_eq_false_iff, decide_eq_false_iff_not] at hi ⊢
    omega
  clear hi
  go_enter Try.func33, Try.ntmps33
  go_upto_region 1 with (fail)
  generalize World.alloc w _ = W at *
  generalize w.heap.size = b at *
  obtain ⟨x0, x1, x2, x3, x4, x5⟩ := block_six BO
  rcases hi' with hi | ⟨hi0, hi⟩
  all_goals
    go_upto_region 26 with (fail)
    have B15 : BlockIs ((W.alloc (.cells #[.int .i64 0, .int .i64 0, .slice none 0 0] 41)).alloc (.cells #[.int .i64 0, .int .i64 0, .slice none 0 0] 53)) W.heap.size [.int .i64 0, .int .i64 0, .slice none 0 0] 41 := (BlockIs.alloc W _ _).ext ((Ext.refl _).alloc _)
    have B17 : BlockIs ((W.alloc (.cells #[.int .i64 0, .int .i64 0, .slice none 0 0] 41)).alloc (.cells #[.int .i64 0, .int .i64 0, .slice none 0 0] 53)) (W.heap.size + 1) [.int .i64 0, .int .i64 0, .slice none 0 0] 53 := BlockIs.new (by simp)
    have HE2 : Hid (Ext W ((W.alloc (.cells #[.int .i64 0, .int .i64 0, .slice none 0 0] 41)).alloc (.cells #[.int .i64 0, .int .i64 0, .slice none 0 0] 53))) := ((Ext.refl _).alloc _).alloc _
    have BO2 := BO.ext HE2.out
    clear x0 x1 x2 x3 x4 x5 BO
    generalize World.alloc (World.alloc W _) _ = U at *
    have hb15 : w.heap.size ≤ W.heap.size := HE.out.size
    generalize W.heap.size = b15 at *
    obtain ⟨x0, x1, x2, x3, x4, x5⟩ := block_six BO2
    go_wp2_with fail
    refine (HC.out _ (HE.out.trans HE2.out)).mono ?_
    rintro e w1 ⟨rfl, e1⟩
    have C15 := B15.ext e1
    have C17 := B17.ext e1
    have CO := BO2.ext e1
    have HE3 : Hid (Ext w w1) := (HE.out.trans HE2.out).trans e1
    clear B15 B17 BO2 x0 x1 x2 x3 x4 x5 e1
    obtain ⟨x0, x1, x2, x3, x4, x5⟩ := block_six CO
    obtain ⟨y0, y1, y2, yf0, yf1, yf2, yl⟩ := C15.three
    obtain ⟨z0, z1, z2, _, _, _, _⟩ := C17.three
    have HE4 : Hid (Ext w w1) := HE3
    go_upto_region 33 with (fail)
    generalize hV : w1 = V at *
    clear hV
    have sX : Hid (∀ X, Ext V X → (((X.cell? ⟨b15, 0, none⟩ = some (.int .i64 0) ∧ X.cell? ⟨b15, 1, none⟩ = some (.int .i64 0) ∧ X.cell? ⟨b15, 2, none⟩ = some (.slice none 0 0)) ∧ X.cell? ⟨b15 + 1, 0, none⟩ = some (.int .i64 0) ∧ X.cell? ⟨b15 + 1, 1, none⟩ = some (.int .i64 0) ∧ X.cell? ⟨b15 + 1, 2, none⟩ = some (.slice none 0 0)) ∧ Hid (Ext V X))) := fun X e => ⟨⟨⟨e.cell_of y0, e.cell_of y1, e.cell_of y2⟩, e.cell_of z0, e.cell_of z1, e.cell_of z2⟩, e⟩
    have sE : Hid (∀ X : World, (((X.cell? ⟨b15, 0, none⟩ = some (.int .i64 0) ∧ X.cell? ⟨b15, 1, none⟩ = some (.int .i64 0) ∧ X.cell? ⟨b15, 2, none⟩ = some (.slice none 0 0)) ∧ X.cell? ⟨b15 + 1, 0, none⟩ = some (.int .i64 0) ∧ X.cell? ⟨b15 + 1, 1, none⟩ = some (.int .i64 0) ∧ X.cell? ⟨b15 + 1, 2, none⟩ = some (.slice none 0 0)) ∧ Hid (Ext V X)) → Ext V X) := fun X s => s.2.out
    go_region_held3 (fun X => ((X.cell? ⟨b15, 0, none⟩ = some (.int .i64 0) ∧ X.cell? ⟨b15, 1, none⟩ = some (.int .i64 0) ∧ X.cell? ⟨b15, 2, none⟩ = some (.slice none 0 0)) ∧ X.cell? ⟨b15 + 1, 0, none⟩ = some (.int .i64 0) ∧ X.cell? ⟨b15 + 1, 1, none⟩ = some (.int .i64 0) ∧ X.cell? ⟨b15 + 1, 2, none⟩ = some (.slice none 0 0)) ∧ Hid (Ext V X))
      (first
        | exact sX.out _ (Ext.refl _)
        | exact sX.out _ (Ext.drew (Ext.refl _))
        | exact sX.out _ (Ext.trans (sE.out _ (by assumption)) eO))
      (first
        | (go_at_call 32; refine (of_any 0 0 _ 0 _ ⟨_, _, rfl⟩).mono ?_; rintro e w' ⟨rfl, eO⟩)
        | (go_at_call 31; refine (same_true 0 0 (.slice none 0 0) (.slice none 0 0) [] _ (nil_bytes _) (nil_bytes _) (by simp)).mono ?_; rintro e w' ⟨rfl, eO⟩))
    have hfin := sE.out _ (by assumption)
    go_wp2_with fail
    go_ret2
    exact ⟨_, lv, fs, rs, rfl, HST.out.ext (HE4.out.trans hfin), (HE4.out.trans hfin).exc _, HMM2.out⟩

set_option maxRecDepth 100000 in
set_option maxHeartbeats 2000000 in
theorem step_none5 {B : Nat} {w : World} {p : Nat} {limit : Int} {fs rs : List Fr} {lv v : Value} (h : St B w p limit fs rs lv v) (i bit fro too : Int) (dv : Value) (hdv : ∃ a n c, dv = .slice a n c) (hi : hasN i fs.length = false) :
    Calls Try.prog 33 #[.pointer (some ⟨p, 0, none⟩), v, .int .i64 limit, opV 5 i bit fro too dv] w (StepPost B p limit fs lv w) := by
  obtain ⟨a, n, c, rfl⟩ := hdv
  have HV : Hid (∃ va vc, v = .slice va fs.length vc) := by
    obtain ⟨va, vc, e⟩ := row_form h.row
    rw [h.len] at e
    exact ⟨va, vc, e⟩
  have HS : Hid (St B (w.alloc (.cells #[.int .i64 5, .int .i64 i, .int .i64 bit, .int .i64 fro, .int .i64 too, .slice a n c] 59)) p limit fs rs lv v) := h.ext ((Ext.refl _).alloc _)
  have HE : Hid (Ext w (w.alloc (.cells #[.int .i64 5, .int .i64 i, .int .i64 bit, .int .i64 fro, .int .i64 too, .slice a n c] 59))) := (Ext.refl _).alloc _
  have BO : BlockIs (w.alloc (.cells #[.int .i64 5, .int .i64 i, .int .i64 bit, .int .i64 fro, .int .i64 too, .slice a n c] 59)) w.heap.size [.int .i64 5, .int .i64 i, .int .i64 bit, .int .i64 fro, .int .i64 too, .slice a n c] 59 := BlockIs.alloc w _ _
  obtain ⟨va, vc, rfl⟩ := HV.out
  clear HV
  unfold opV
  have HC : Hid (∀ W, Ext w W → Calls Try.prog 53 #[.pointer (some ⟨p, 0, none⟩), .int .i64 i, .int .i64 bit] W fun e w' => e = .returned (.tuple #[.agg #[.int .i64 0, .int .i64 0, .slice none 0 0], .int .i64 13]) ∧ Ext W w') := fun W e => spoil_no (h.net.ext e) i bit hi
  have HST : Hid (St B w p limit fs rs lv (.slice va fs.length vc)) := h
  clear h HS
  have HMM2 : Hid (fs.length ≤ fs.length + 1) := by show _ ≤ _; omega
  generalize fs.length = m at HST hi ⊢
  have hi' : i < 0 ∨ (0 ≤ i ∧ decide (i < (m : Int)) = false) := by
    simp only [hasN, Bool.and_eq_false_iff, decide_eq_false_iff_not] at hi ⊢
    omega
  clear hi
  go_enter Try.func33, Try.ntmps33
  go_upto_region 1 with (fail)
  generalize World.alloc w _ = W at *
  generalize w.heap.size = b at *
  obtain ⟨x0, x1, x2, x3, x4, x5⟩ := block_six BO
  rcases hi' with hi | ⟨hi0, hi⟩
  all_goals
    go_upto_region 26 with (fail)
    have B15 : BlockIs ((W.alloc (.cells #[.int .i64 0, .int .i64 0, .slice none 0 0] 41)).alloc (.cells #[.int .i64 0, .int .i64 0, .slice none 0 0] 53)) W.heap.size [.int .i64 0, .int .i64 0, .slice none 0 0] 41 := (BlockIs.alloc W _ _).ext ((Ext.refl _).alloc _)
    have B17 : BlockIs ((W.alloc (.cells #[.int .i64 0, .int .i64 0, .slice none 0 0] 41)).alloc (.cells #[.int .i64 0, .int .i64 0, .slice none 0 0] 53)) (W.heap.size + 1) [.int .i64 0, .int .i64 0, .slice none 0 0] 53 := BlockIs.new (by simp)
    have HE2 : Hid (Ext W ((W.alloc (.cells #[.int .i64 0, .int .i64 0, .slice none 0 0] 41)).alloc (.cells #[.int .i64 0, .int .i64 0, .slice none 0 0] 53))) := ((Ext.refl _).alloc _).alloc _
    have BO2 := BO.ext HE2.out
    clear x0 x1 x2 x3 x4 x5 BO
    generalize World.alloc (World.alloc W _) _ = U at *
    have hb15 : w.heap.size ≤ W.heap.size := HE.out.size
    generalize W.heap.size = b15 at *
    obtain ⟨x0, x1, x2, x3, x4, x5⟩ := block_six BO2
    go_wp2_with fail
    refine (HC.out _ (HE.out.trans HE2.out)).mono ?_
    rintro e w1 ⟨rfl, e1⟩
    have C15 := B15.ext e1
    have C17 := B17.ext e1
    have CO := BO2.ext e1
    have HE3 : Hid (Ext w w1) := (HE.out.trans HE2.out).trans e1
    clear B15 B17 BO2 x0 x1 x2 x3 x4 x5 e1
    obtain ⟨x0, x1, x2, x3, x4, x5⟩ := block_six CO
    obtain ⟨y0, y1, y2, yf0, yf1, yf2, yl⟩ := C15.three
    obtain ⟨z0, z1, z2, _, _, _, _⟩ := C17.three
    go_upto_region 33 with (fail)
    have D15 : BlockIs (((w1.setCell ⟨b15, 0, none⟩ (.int .i64 0)).setCell ⟨b15, 1, none⟩ (.int .i64 0)).setCell ⟨b15, 2, none⟩ (.slice none 0 0)) b15 [.int .i64 0, .int .i64 0, .slice none 0 0] 41 := ((C15.set 0 _).set 1 _).set 2 _
    have D17 : BlockIs (((w1.setCell ⟨b15, 0, none⟩ (.int .i64 0)).setCell ⟨b15, 1, none⟩ (.int .i64 0)).setCell ⟨b15, 2, none⟩ (.slice none 0 0)) (b15 + 1) [.int .i64 0, .int .i64 0, .slice none 0 0] 53 := ((C17.other (p := ⟨b15, 0, none⟩) (by simp) _).other (p := ⟨b15, 1, none⟩) (by simp) _).other (p := ⟨b15, 2, none⟩) (by simp) _
    have HE4 : Hid (Ext w (((w1.setCell ⟨b15, 0, none⟩ (.int .i64 0)).setCell ⟨b15, 1, none⟩ (.int .i64 0)).setCell ⟨b15, 2, none⟩ (.slice none 0 0))) := ((HE3.out.setCell (by simp only; omega) _).setCell (by simp only; omega) _).setCell (by simp only; omega) _
    clear C15 C17 y0 y1 y2 yf0 yf1 yf2 yl z0 z1 z2
    generalize World.setCell (World.setCell (World.setCell w1 _ _) _ _) _ _ = V at *
    obtain ⟨y0, y1, y2, yf0, yf1, yf2, yl⟩ := D15.three
    obtain ⟨z0, z1, z2, _, _, _, _⟩ := D17.three
    have sX : Hid (∀ X, Ext V X → (((X.cell? ⟨b15, 0, none⟩ = some (.int .i64 0) ∧ X.cell? ⟨b15, 1, none⟩ = some (.int .i64 0) ∧ X.cell? ⟨b15, 2, none⟩ = some (.slice none 0 0)) ∧ X.cell? ⟨b15 + 1, 0, none⟩ = some (.int .i64 0) ∧ X.cell? ⟨b15 + 1, 1, none⟩ = some (.int .i64 0) ∧ X.cell? ⟨b15 + 1, 2, none⟩ = some (.slice none 0 0)) ∧ Hid (Ext V X))) := fun X e => ⟨⟨⟨e.cell_of y0, e.cell_of y1, e.cell_of y2⟩, e.cell_of z0, e.cell_of z1, e.cell_of z2⟩, e⟩
    have sE : Hid (∀ X : World, (((X.cell? ⟨b15, 0, none⟩ = some (.int .i64 0) ∧ X.cell? ⟨b15, 1, none⟩ = some (.int .i64 0) ∧ X.cell? ⟨b15, 2, none⟩ = some (.slice none 0 0)) ∧ X.cell? ⟨b15 + 1, 0, none⟩ = some (.int .i64 0) ∧ X.cell? ⟨b15 + 1, 1, none⟩ = some (.int .i64 0) ∧ X.cell? ⟨b15 + 1, 2, none⟩ = some (.slice none 0 0)) ∧ Hid (Ext V X)) → Ext V X) := fun X s => s.2.out
    go_region_held3 (fun X => ((X.cell? ⟨b15, 0, none⟩ = some (.int .i64 0) ∧ X.cell? ⟨b15, 1, none⟩ = some (.int .i64 0) ∧ X.cell? ⟨b15, 2, none⟩ = some (.slice none 0 0)) ∧ X.cell? ⟨b15 + 1, 0, none⟩ = some (.int .i64 0) ∧ X.cell? ⟨b15 + 1, 1, none⟩ = some (.int .i64 0) ∧ X.cell? ⟨b15 + 1, 2, none⟩ = some (.slice none 0 0)) ∧ Hid (Ext V X))
      (first
        | exact sX.out _ (Ext.refl _)
        | exact sX.out _ (Ext.drew (Ext.refl _))
        | exact sX.out _ (Ext.trans (sE.out _ (by assumption)) eO))
      (first
        | (go_at_call 32; refine (of_any 0 0 _ 0 _ ⟨_, _, rfl⟩).mono ?_; rintro e w' ⟨rfl, eO⟩)
        | (go_at_call 31; refine (same_true 0 0 (.slice none 0 0) (.slice none 0 0) [] _ (nil_bytes _) (nil_bytes _) (by simp)).mono ?_; rintro e w' ⟨rfl, eO⟩))
    have hfin := sE.out _ (by assumption)
    go_wp2_with fail
    go_ret2
    exact ⟨_, lv, fs, rs, rfl, HST.out.ext (HE4.out.trans hfin), (HE4.out.trans hfin).exc _, HMM2.out⟩
end Go.Proofs.Ytdbhndieommkaaa.NetW
