/- The walk of the law's step where Take, Drop and Spoil take a frame. -/
import Derived.Test.YtdbhndieommkaaaNetP10
namespace Go.Proofs.Ytdbhndieommkaaa.NetW
open Go.RowKit

set_option maxRecDepth 100000 in
set_option maxHeartbeats 4000000 in
theorem step_ok2 {B : Nat} {w : World} {p : Nat} {limit : Int} {fs rs : List Fr} {lv v : Value} (h : St B w p limit fs rs lv v) (hmax : fs.length ≤ 1000) (hB : B ≤ w.heap.size) (i : Nat) (hi : i < fs.length) (bit fro too : Int) (dv : Value) (hdv : ∃ a n c, dv = .slice a n c) :
    Calls Try.prog 33 #[.pointer (some ⟨p, 0, none⟩), v, .int .i64 limit, opV 2 i bit fro too dv] w (StepPost B p limit fs lv w) := by
  obtain ⟨a, n, c, rfl⟩ := hdv
  have HV : Hid (∃ gl vc, v = .slice (some ⟨gl, 0, none⟩) fs.length vc) := by
    obtain ⟨gl, vc, e, _⟩ := h.row.form (by have := h.len; omega)
    rw [h.len] at e
    exact ⟨gl, vc, e⟩
  have HS : Hid (St B (w.alloc (.cells #[.int .i64 2, .int .i64 i, .int .i64 bit, .int .i64 fro, .int .i64 too, .slice a n c] 59)) p limit fs rs lv v) := h.ext ((Ext.refl _).alloc _)
  have HE : Hid (Ext w (w.alloc (.cells #[.int .i64 2, .int .i64 i, .int .i64 bit, .int .i64 fro, .int .i64 too, .slice a n c] 59))) := (Ext.refl _).alloc _
  have BO : BlockIs (w.alloc (.cells #[.int .i64 2, .int .i64 i, .int .i64 bit, .int .i64 fro, .int .i64 too, .slice a n c] 59)) w.heap.size [.int .i64 2, .int .i64 i, .int .i64 bit, .int .i64 fro, .int .i64 too, .slice a n c] 59 := BlockIs.alloc w _ _
  obtain ⟨gl, vc, rfl⟩ := HV.out
  clear HV
  unfold opV
  have hir : i < rs.length := by have := h.len; omega
  obtain ⟨hat0, hat1, hat2⟩ := h.at i hi hir
  obtain ⟨hok0, hok1, hok2⟩ := h.ok _ (List.getElem_mem hi)
  have hbd := h.bd _ (List.getElem_mem hi)
  have hfd := row_form (h.net.data _ (List.getElem_mem hi))
  obtain ⟨fa, fc, hfd⟩ := hfd
  have hav : ∃ ra rc, rs[i].dv = .slice ra rs[i].data.length rc := by
    obtain ⟨ra, rc, e, _⟩ := h.data _ (List.getElem_mem hir)
    exact ⟨ra, rc, e⟩
  obtain ⟨ra, rc, hrd⟩ := hav
  rw [hat2] at hrd
  -- what the call does
  have HC : Hid (∀ W, Ext w W → Calls Try.prog 30 #[.pointer (some ⟨p, 0, none⟩), .int .i64 i] W fun e w' => e = .returned (.tuple #[.agg #[.int .i64 fs[i].fro, .int .i64 fs[i].too, .slice fa fs[i].data.length fc], .int .i64 0]) ∧ Hid (∃ lv', NetIs w' p limit (fs.eraseIdx i) lv' ∧ Exc (NB p lv fs) W w' ∧ lv'.ownBlock = lv.ownBlock ∧ Bytes w' (.slice fa fs[i].data.length fc) fs[i].data)) := fun W e => by
    have hn := h.net.ext e
    have hmem := List.getElem_mem hi
    refine (take_ok hn i hi (by omega)).mono ?_
    rintro e w' hp
    obtain ⟨lv', rfl, n1, x1, l1⟩ := hp
    have hb := (taken hn i hi x1).1
    rw [hfd] at hb ⊢
    exact ⟨rfl, lv', n1, x1.mono fun k _ q => NB.foot fs q, l1, hb⟩
  have HRM : Hid (∀ W : World, W.ownsRow 0 53 3 (.slice (some ⟨gl, 0, none⟩) rs.length vc) rs.length (flat rs) → W.cell? ⟨gl, i * 3, none⟩ = some (.int .i64 fs[i].fro) ∧ W.cell? ⟨gl, i * 3 + 1, none⟩ = some (.int .i64 fs[i].too) ∧ W.cell? ⟨gl, i * 3 + 2, none⟩ = some (.slice ra fs[i].data.length rc)) := fun W hr => by
    have := row_at3 hr i hir
    rw [hat0, hat1, hrd] at this
    exact this
  have HAV : Hid (BytesAv (NB p lv fs) w (.slice ra fs[i].data.length rc) fs[i].data) := by
    have := h.data _ (List.getElem_mem hir)
    rw [hrd, hat2] at this
    exact this
  have HLEN : Hid (rs.length = fs.length) := h.len
  have HST : Hid (St B w p limit fs rs lv (.slice (some ⟨gl, 0, none⟩) fs.length vc)) := h
  have HNB : Hid (∀ k, NB p lv fs k → k < w.heap.size) := NB.lt h.net
  have HOWN : Hid (∀ g, (Value.slice fa fs[i].data.length fc).ownBlock = some g → g < w.heap.size) := fun g hg => by
    have := (h.net.data _ (List.getElem_mem hi)).lt (g := g)
    rw [hfd] at this
    exact this hg
  have HGL : Hid (gl < w.heap.size) := ownsRow_lt h.row rfl
  have HIL : Hid (i < rs.length) := hir
  have HB : Hid (∀ X, Ext w X → B ≤ X.heap.size) := fun X e => Nat.le_trans hB e.size
  clear h hB hir hat0 hat1 hat2 hrd hfd hok0 hok1 HS
  have HFL : Hid ((fs.eraseIdx i).length ≤ fs.length + 1) := by rw [Hid, List.length_eraseIdx]; split <;> omega
  generalize fs[i].fro = ff at *
  generalize fs[i].too = ft at *
  generalize fs[i].data = xs at *
  generalize hfn : xs.length = fn at *
  have HFN : Hid (xs.length = fn) := hfn
  have HBD : Hid (∀ x ∈ xs, 0 ≤ x ∧ x ≤ 255) := hbd
  have HDL : Hid (xs.length ≤ 100000000) := by rw [Hid, hfn]; omega
  clear hfn hbd
  generalize hmm : fs.length = m at HC HLEN hmax HST hi ⊢
  clear hmm
  have hil : (i : Int) < (m : Int) := by omega
  go_enter Try.func33, Try.ntmps33
  go_upto_region 1 with (fail)
  generalize World.alloc w _ = W at *
  generalize hbw : w.heap.size = b at *
  have HBW : Hid (w.heap.size = b) := hbw
  clear hbw
  obtain ⟨x0, x1, x2, x3, x4, x5⟩ := block_six BO
  have hWb : b < W.heap.size := BO.lt
  go_upto_region 26 with (fail)
  have B15 : BlockIs ((W.alloc (.cells #[.int .i64 0, .int .i64 0, .slice none 0 0] 41)).alloc (.cells #[.int .i64 0, .int .i64 0, .slice none 0 0] 53)) W.heap.size [.int .i64 0, .int .i64 0, .slice none 0 0] 41 := (BlockIs.alloc W _ _).ext ((Ext.refl _).alloc _)
  have B17 : BlockIs ((W.alloc (.cells #[.int .i64 0, .int .i64 0, .slice none 0 0] 41)).alloc (.cells #[.int .i64 0, .int .i64 0, .slice none 0 0] 53)) (W.heap.size + 1) [.int .i64 0, .int .i64 0, .slice none 0 0] 53 := BlockIs.new (by simp)
  have HE2 : Hid (Ext W ((W.alloc (.cells #[.int .i64 0, .int .i64 0, .slice none 0 0] 41)).alloc (.cells #[.int .i64 0, .int .i64 0, .slice none 0 0] 53))) := ((Ext.refl _).alloc _).alloc _
  have BO2 := BO.ext HE2.out
  clear x0 x1 x2 x3 x4 x5 BO
  generalize World.alloc (World.alloc W _) _ = U at *
  generalize W.heap.size = b15 at *
  obtain ⟨x0, x1, x2, x3, x4, x5⟩ := block_six BO2
  go_wp2_with fail
  refine (HC.out _ (HE.out.trans HE2.out)).mono ?_
  rintro e w1 ⟨rfl, hp⟩
  have C15 := B15.exc hp.out.choose_spec.2.1 (fun q => by have := HNB.out _ q; omega)
  have C17 := B17.exc hp.out.choose_spec.2.1 (fun q => by have := HNB.out _ q; omega)
  have CO := BO2.exc hp.out.choose_spec.2.1 (fun q => by have := HNB.out _ q; omega)
  have HRW : Hid (w1.ownsRow 0 53 3 (.slice (some ⟨gl, 0, none⟩) rs.length vc) rs.length (flat rs)) := by
    have hst := HST.out.ext (HE.out.trans HE2.out)
    have hrow := ownsRow_same hst.row fun g hg => hp.out.choose_spec.2.1.block g (ownsRow_lt hst.row hg) fun hq => hst.rowN g hg hq
    rw [← HLEN.out] at hrow
    exact hrow
  have hbw : ∀ X, Exc (fun q => b < q) w1 X → Hid (BytesAv (fun q => q = b15 + 1) X (.slice ra fn rc) xs) := fun X hx => by
    obtain ⟨lv', n1, ex1, l1, hb⟩ := hp.out
    have hall : Exc (fun q => NB p lv fs q ∨ b < q) w X := ((HE.out.trans HE2.out).exc _).trans ((ex1.mono fun k _ q => .inl q).trans (hx.mono fun k _ q => .inr q))
    exact BytesAv.step (M := fun q => q = b15 + 1) HAV.out hall (fun k hk q => by
      rcases q with q | q
      · exact q
      · have := HBW.out; omega) (fun k hk q => by
      have := HBW.out
      omega)
  clear B15 B17 BO2 x0 x1 x2 x3 x4 x5 HC
  obtain ⟨x0, x1, x2, x3, x4, x5⟩ := block_six CO
  obtain ⟨y0, y1, y2, yf0, yf1, yf2, yl⟩ := C15.three
  obtain ⟨z0, z1, z2, zf0, zf1, zf2, zl⟩ := C17.three
  go_upto_region 34 with (fail)
  have hgl := HGL.out
  have D15 : BlockIs (((w1.setCell ⟨b15, 0, none⟩ (.int .i64 ff)).setCell ⟨b15, 1, none⟩ (.int .i64 ft)).setCell ⟨b15, 2, none⟩ (.slice fa fn fc)) b15 [.int .i64 ff, .int .i64 ft, .slice fa fn fc] 41 := ((C15.set 0 _).set 1 _).set 2 _
  have D17 : BlockIs (((w1.setCell ⟨b15, 0, none⟩ (.int .i64 ff)).setCell ⟨b15, 1, none⟩ (.int .i64 ft)).setCell ⟨b15, 2, none⟩ (.slice fa fn fc)) (b15 + 1) [.int .i64 0, .int .i64 0, .slice none 0 0] 53 := (((C17.other (p := ⟨b15, 0, none⟩) (by simp only; omega) (.int .i64 ff)).other (p := ⟨b15, 1, none⟩) (by simp only; omega) (.int .i64 ft)).other (p := ⟨b15, 2, none⟩) (by simp only; omega) (.slice fa fn fc))
  have DO := (((CO.other (p := ⟨b15, 0, none⟩) (by simp only; omega) (.int .i64 ff)).other (p := ⟨b15, 1, none⟩) (by simp only; omega) (.int .i64 ft)).other (p := ⟨b15, 2, none⟩) (by simp only; omega) (.slice fa fn fc))
  have HX1 : Hid (Exc (fun q => b < q) w1 (((w1.setCell ⟨b15, 0, none⟩ (.int .i64 ff)).setCell ⟨b15, 1, none⟩ (.int .i64 ft)).setCell ⟨b15, 2, none⟩ (.slice fa fn fc))) := (((Exc.refl _ _).setCell (.inl hWb) _).setCell (.inl hWb) _).setCell (.inl hWb) _
  clear C15 C17 CO y0 y1 y2 yf0 yf1 yf2 yl z0 z1 z2 zf0 zf1 zf2 zl x0 x1 x2 x3 x4 x5
  generalize World.setCell (World.setCell (World.setCell w1 _ _) _ _) _ _ = V1 at *
  obtain ⟨x0, x1, x2, x3, x4, x5⟩ := block_six DO
  obtain ⟨z0, z1, z2, zf0, zf1, zf2, zl⟩ := D17.three
  have HRV : Hid (V1.ownsRow 0 53 3 (.slice (some ⟨gl, 0, none⟩) rs.length vc) rs.length (flat rs)) := ownsRow_same HRW.out fun g hg => by
    cases hg
    exact HX1.out.block gl (ownsRow_lt HRW.out rfl) (by omega)
  obtain ⟨e0, e1, e2⟩ := HRM.out V1 HRV.out
  go_upto_region 36 with (fail)
  have E15 : BlockIs (((V1.setCell ⟨b15 + 1, 0, none⟩ (.int .i64 ff)).setCell ⟨b15 + 1, 1, none⟩ (.int .i64 ft)).setCell ⟨b15 + 1, 2, none⟩ (.slice ra fn rc)) b15 [.int .i64 ff, .int .i64 ft, .slice fa fn fc] 41 := (((D15.other (p := ⟨b15 + 1, 0, none⟩) (by simp only; omega) (.int .i64 ff)).other (p := ⟨b15 + 1, 1, none⟩) (by simp only; omega) (.int .i64 ft)).other (p := ⟨b15 + 1, 2, none⟩) (by simp only; omega) (.slice ra fn rc))
  have E17 : BlockIs (((V1.setCell ⟨b15 + 1, 0, none⟩ (.int .i64 ff)).setCell ⟨b15 + 1, 1, none⟩ (.int .i64 ft)).setCell ⟨b15 + 1, 2, none⟩ (.slice ra fn rc)) (b15 + 1) [.int .i64 ff, .int .i64 ft, .slice ra fn rc] 53 := ((D17.set 0 _).set 1 _).set 2 _
  have EO := (((DO.other (p := ⟨b15 + 1, 0, none⟩) (by simp only; omega) (.int .i64 ff)).other (p := ⟨b15 + 1, 1, none⟩) (by simp only; omega) (.int .i64 ft)).other (p := ⟨b15 + 1, 2, none⟩) (by simp only; omega) (.slice ra fn rc))
  have HX2 : Hid (Exc (fun q => b < q) w1 (((V1.setCell ⟨b15 + 1, 0, none⟩ (.int .i64 ff)).setCell ⟨b15 + 1, 1, none⟩ (.int .i64 ft)).setCell ⟨b15 + 1, 2, none⟩ (.slice ra fn rc))) := ((HX1.out.setCell (.inl (by simp only; omega)) _).setCell (.inl (by simp only; omega)) _).setCell (.inl (by simp only; omega)) _
  clear D15 D17 DO z0 z1 z2 zf0 zf1 zf2 zl x0 x1 x2 x3 x4 x5 e0 e1 e2 HRV
  generalize World.setCell (World.setCell (World.setCell V1 _ _) _ _) _ _ = V at *
  obtain ⟨x0, x1, x2, x3, x4, x5⟩ := block_six EO
  obtain ⟨y0, y1, y2, yf0, yf1, yf2, yl⟩ := E15.three
  obtain ⟨z0, z1, z2, zf0, zf1, zf2, zl⟩ := E17.three
  go_upto_region 38 with (fail)
  have hHA : Hid (BytesAt V (.slice fa fn fc) xs) := by
    obtain ⟨lv', n1, ex1, l1, hb⟩ := hp.out
    exact (hb.same fun g hg => HX2.out.block g (hb.lt hg) (by have := HOWN.out g hg; omega)).at
  have hHW : Hid (BytesAt V (.slice ra fn rc) xs) := (hbw V HX2.out).at
  -- the call of Without, and of Same
  have HWV : Hid (V.ownsRow 0 53 3 (.slice (some ⟨gl, 0, none⟩) rs.length vc) rs.length (flat rs)) := ownsRow_same HRW.out fun g hg => by
    cases hg
    exact HX2.out.block gl (ownsRow_lt HRW.out rfl) (by omega)
  have HWI : Hid (∀ X, Ext V X → Calls Try.prog 55 #[.slice (some ⟨gl, 0, none⟩) m vc, .int .i64 i] X (WithoutPost rs i X)) := fun X e => by
    have := without_any (own_ext HWV.out e) i HIL.out (by rw [HLEN.out]; omega) (fun r hr => av_one (HST.out.data r hr))
    rw [HLEN.out] at this
    exact this
  have HSM : Hid (∀ X, Ext V X → Calls Try.prog 31 #[.agg #[.int .i64 (ff), .int .i64 (ft), .slice fa fn fc], .agg #[.int .i64 (ff), .int .i64 (ft), .slice ra fn rc]] X fun e w' => e = .returned (.bool true) ∧ Ext X w') := fun X e =>
    same_true ff ft (.slice fa fn fc) (.slice ra fn rc) xs X (hHA.out.ext e) (hHW.out.ext e) HDL.out
  have sX : Hid (∀ X, Ext V X → ((X.cell? ⟨b, 1, none⟩ = some (.int .i64 i) ∧ (X.cell? ⟨b15, 0, none⟩ = some (.int .i64 (ff)) ∧ X.cell? ⟨b15, 1, none⟩ = some (.int .i64 (ft)) ∧ X.cell? ⟨b15, 2, none⟩ = some (.slice fa fn fc)) ∧ X.cell? ⟨b15 + 1, 0, none⟩ = some (.int .i64 (ff)) ∧ X.cell? ⟨b15 + 1, 1, none⟩ = some (.int .i64 (ft)) ∧ X.cell? ⟨b15 + 1, 2, none⟩ = some (.slice ra fn rc)) ∧ Hid (Ext V X))) := fun X e => ⟨⟨e.cell_of x1, ⟨e.cell_of y0, e.cell_of y1, e.cell_of y2⟩, e.cell_of z0, e.cell_of z1, e.cell_of z2⟩, e⟩
  go_region_held3 (fun X => ((X.cell? ⟨b, 1, none⟩ = some (.int .i64 i) ∧ (X.cell? ⟨b15, 0, none⟩ = some (.int .i64 (ff)) ∧ X.cell? ⟨b15, 1, none⟩ = some (.int .i64 (ft)) ∧ X.cell? ⟨b15, 2, none⟩ = some (.slice fa fn fc)) ∧ X.cell? ⟨b15 + 1, 0, none⟩ = some (.int .i64 (ff)) ∧ X.cell? ⟨b15 + 1, 1, none⟩ = some (.int .i64 (ft)) ∧ X.cell? ⟨b15 + 1, 2, none⟩ = some (.slice ra fn rc)) ∧ Hid (Ext V X)))
      (exact sX.out _ (by (repeat (first | exact Ext.refl _ | apply Ext.drew | refine Ext.trans ?_ eS | refine Ext.trans ?_ eO | refine Ext.trans ?_ eW))))
      (first
        | (go_at_call 55; refine (HWI.out _ (by (repeat (first | exact Ext.refl _ | apply Ext.drew | refine Ext.trans ?_ eS | refine Ext.trans ?_ eO | refine Ext.trans ?_ eW)))).mono ?_; intro e w' hq; obtain ⟨v', rfl, hr, eW⟩ := hq)
        | (go_at_call 32; refine (of_any _ _ _ _ _ ⟨_, _, rfl⟩).mono ?_; rintro e w' ⟨rfl, eO⟩)
        | (go_at_call 31; refine (HSM.out _ (by (repeat (first | exact Ext.refl _ | apply Ext.drew | refine Ext.trans ?_ eS | refine Ext.trans ?_ eO | refine Ext.trans ?_ eW)))).mono ?_; rintro e w' ⟨rfl, eS⟩))
  go_wp2_with fail
  go_ret2
  obtain ⟨lv', n1, ex1, l1, hb⟩ := hp.out
  have hnp := HNB.out p (.inl rfl)
  have hNV : NetIs V p limit (fs.eraseIdx i) lv' := n1.exc HX2.out (by omega) (fun g hg => by
    have := HNB.out g (.inr (.inl (l1 ▸ hg)))
    omega) (fun q hq g hg => by
    have := HNB.out g (.inr (.inr ⟨q, List.mem_of_mem_eraseIdx hq, hg⟩))
    omega)
  have hall : Exc (fun q => NB p lv fs q ∨ b < q) w V := ((HE.out.trans HE2.out).exc _).trans ((ex1.mono fun k _ q => .inl q).trans (HX2.out.mono fun k _ q => .inr q))
  have hall2 : Exc (NB p lv fs) w V := hall.mono fun k hk q => by
    rcases q with q | q
    · exact q
    · have := HBW.out; omega
  have hbe := HBW.out
  refine ⟨_, lv', fs.eraseIdx i, rs.eraseIdx i, rfl, St.drop HST.out hNV hall2 (fun _ q => q) l1 (by (repeat (first | exact Ext.refl _ | apply Ext.drew | refine Ext.trans ?_ eS | refine Ext.trans ?_ eO | refine Ext.trans ?_ eW))) ?_, hall2.trans (Ext.exc (by (repeat (first | exact Ext.refl _ | apply Ext.drew | refine Ext.trans ?_ eS | refine Ext.trans ?_ eO | refine Ext.trans ?_ eW))) _), HFL.out⟩
  have e9 : (rs.eraseIdx i).length = rs.length - 1 := by rw [List.length_eraseIdx, if_pos HIL.out]
  rw [e9]
  exact own_ext (own_base hr (Ext.size (by (repeat (first | exact Ext.refl _ | apply Ext.drew | refine Ext.trans ?_ eS | refine Ext.trans ?_ eO | refine Ext.trans ?_ eW))))) (by (repeat (first | exact Ext.refl _ | apply Ext.drew | refine Ext.trans ?_ eS | refine Ext.trans ?_ eO | refine Ext.trans ?_ eW)))

set_option maxRecDepth 100000 in
set_option maxHeartbeats 4000000 in
theorem step_ok3 {B : Nat} {w : World} {p : Nat} {limit : Int} {fs rs : List Fr} {lv v : Value} (h : St B w p limit fs rs lv v) (hmax : fs.length ≤ 1000) (hB : B ≤ w.heap.size) (i : Nat) (hi : i < fs.length) (bit fro too : Int) (dv : Value) (hdv : ∃ a n c, dv = .slice a n c) :
    Calls Try.prog 33 #[.pointer (some ⟨p, 0, none⟩), v, .int .i64 limit, opV 3 i bit fro too dv] w (StepPost B p limit fs lv w) := by
  obtain ⟨a, n, c, rfl⟩ := hdv
  have HV : Hid (∃ gl vc, v = .slice (some ⟨gl, 0, none⟩) fs.length vc) := by
    obtain ⟨gl, vc, e, _⟩ := h.row.form (by have := h.len; omega)
    rw [h.len] at e
    exact ⟨gl, vc, e⟩
  have HS : Hid (St B (w.alloc (.cells #[.int .i64 3, .int .i64 i, .int .i64 bit, .int .i64 fro, .int .i64 too, .slice a n c] 59)) p limit fs rs lv v) := h.ext ((Ext.refl _).alloc _)
  have HE : Hid (Ext w (w.alloc (.cells #[.int .i64 3, .int .i64 i, .int .i64 bit, .int .i64 fro, .int .i64 too, .slice a n c] 59))) := (Ext.refl _).alloc _
  have BO : BlockIs (w.alloc (.cells #[.int .i64 3, .int .i64 i, .int .i64 bit, .int .i64 fro, .int .i64 too, .slice a n c] 59)) w.heap.size [.int .i64 3, .int .i64 i, .int .i64 bit, .int .i64 fro, .int .i64 too, .slice a n c] 59 := BlockIs.alloc w _ _
  obtain ⟨gl, vc, rfl⟩ := HV.out
  clear HV
  unfold opV
  have hir : i < rs.length := by have := h.len; omega
  obtain ⟨hat0, hat1, hat2⟩ := h.at i hi hir
  obtain ⟨hok0, hok1, hok2⟩ := h.ok _ (List.getElem_mem hi)
  have hbd := h.bd _ (List.getElem_mem hi)
  have hfd := row_form (h.net.data _ (List.getElem_mem hi))
  obtain ⟨fa, fc, hfd⟩ := hfd
  have hav : ∃ ra rc, rs[i].dv = .slice ra rs[i].data.length rc := by
    obtain ⟨ra, rc, e, _⟩ := h.data _ (List.getElem_mem hir)
    exact ⟨ra, rc, e⟩
  obtain ⟨ra, rc, hrd⟩ := hav
  rw [hat2] at hrd
  -- what the call does
  have HC : Hid (∀ W, Ext w W → Calls Try.prog 52 #[.pointer (some ⟨p, 0, none⟩), .int .i64 i] W fun e w' => e = .returned (.int .i64 0) ∧ Hid (∃ lv', NetIs w' p limit (fs.eraseIdx i) lv' ∧ Exc (NB p lv fs) W w' ∧ lv'.ownBlock = lv.ownBlock ∧ Bytes w' (.slice fa fs[i].data.length fc) fs[i].data)) := fun W e => by
    have hn := h.net.ext e
    have hmem := List.getElem_mem hi
    refine (drop_ok hn i hi (by omega)).mono ?_
    rintro e w' hp
    obtain ⟨lv', rfl, n1, x1, l1⟩ := hp
    have hb := (taken hn i hi x1).1
    rw [hfd] at hb
    exact ⟨rfl, lv', n1, x1.mono fun k _ q => NB.foot fs q, l1, hb⟩
  have HRM : Hid (∀ W : World, W.ownsRow 0 53 3 (.slice (some ⟨gl, 0, none⟩) rs.length vc) rs.length (flat rs) → W.cell? ⟨gl, i * 3, none⟩ = some (.int .i64 fs[i].fro) ∧ W.cell? ⟨gl, i * 3 + 1, none⟩ = some (.int .i64 fs[i].too) ∧ W.cell? ⟨gl, i * 3 + 2, none⟩ = some (.slice ra fs[i].data.length rc)) := fun W hr => by
    have := row_at3 hr i hir
    rw [hat0, hat1, hrd] at this
    exact this
  have HAV : Hid (BytesAv (NB p lv fs) w (.slice ra fs[i].data.length rc) fs[i].data) := by
    have := h.data _ (List.getElem_mem hir)
    rw [hrd, hat2] at this
    exact this
  have HLEN : Hid (rs.length = fs.length) := h.len
  have HST : Hid (St B w p limit fs rs lv (.slice (some ⟨gl, 0, none⟩) fs.length vc)) := h
  have HNB : Hid (∀ k, NB p lv fs k → k < w.heap.size) := NB.lt h.net
  have HOWN : Hid (∀ g, (Value.slice fa fs[i].data.length fc).ownBlock = some g → g < w.heap.size) := fun g hg => by
    have := (h.net.data _ (List.getElem_mem hi)).lt (g := g)
    rw [hfd] at this
    exact this hg
  have HGL : Hid (gl < w.heap.size) := ownsRow_lt h.row rfl
  have HIL : Hid (i < rs.length) := hir
  have HB : Hid (∀ X, Ext w X → B ≤ X.heap.size) := fun X e => Nat.le_trans hB e.size
  clear h hB hir hat0 hat1 hat2 hrd hfd hok0 hok1 HS
  have HFL : Hid ((fs.eraseIdx i).length ≤ fs.length + 1) := by rw [Hid, List.length_eraseIdx]; split <;> omega
  generalize fs[i].fro = ff at *
  generalize fs[i].too = ft at *
  generalize fs[i].data = xs at *
  generalize hfn : xs.length = fn at *
  have HFN : Hid (xs.length = fn) := hfn
  have HBD : Hid (∀ x ∈ xs, 0 ≤ x ∧ x ≤ 255) := hbd
  have HDL : Hid (([] : List Int).length ≤ 100000000) := by simp [Hid]
  clear hfn hbd
  generalize hmm : fs.length = m at HC HLEN hmax HST hi ⊢
  clear hmm
  have hil : (i : Int) < (m : Int) := by omega
  go_enter Try.func33, Try.ntmps33
  go_upto_region 1 with (fail)
  generalize World.alloc w _ = W at *
  generalize hbw : w.heap.size = b at *
  have HBW : Hid (w.heap.size = b) := hbw
  clear hbw
  obtain ⟨x0, x1, x2, x3, x4, x5⟩ := block_six BO
  have hWb : b < W.heap.size := BO.lt
  go_upto_region 26 with (fail)
  have B15 : BlockIs ((W.alloc (.cells #[.int .i64 0, .int .i64 0, .slice none 0 0] 41)).alloc (.cells #[.int .i64 0, .int .i64 0, .slice none 0 0] 53)) W.heap.size [.int .i64 0, .int .i64 0, .slice none 0 0] 41 := (BlockIs.alloc W _ _).ext ((Ext.refl _).alloc _)
  have B17 : BlockIs ((W.alloc (.cells #[.int .i64 0, .int .i64 0, .slice none 0 0] 41)).alloc (.cells #[.int .i64 0, .int .i64 0, .slice none 0 0] 53)) (W.heap.size + 1) [.int .i64 0, .int .i64 0, .slice none 0 0] 53 := BlockIs.new (by simp)
  have HE2 : Hid (Ext W ((W.alloc (.cells #[.int .i64 0, .int .i64 0, .slice none 0 0] 41)).alloc (.cells #[.int .i64 0, .int .i64 0, .slice none 0 0] 53))) := ((Ext.refl _).alloc _).alloc _
  have BO2 := BO.ext HE2.out
  clear x0 x1 x2 x3 x4 x5 BO
  generalize World.alloc (World.alloc W _) _ = U at *
  generalize W.heap.size = b15 at *
  obtain ⟨x0, x1, x2, x3, x4, x5⟩ := block_six BO2
  go_wp2_with fail
  refine (HC.out _ (HE.out.trans HE2.out)).mono ?_
  rintro e w1 ⟨rfl, hp⟩
  have C15 := B15.exc hp.out.choose_spec.2.1 (fun q => by have := HNB.out _ q; omega)
  have C17 := B17.exc hp.out.choose_spec.2.1 (fun q => by have := HNB.out _ q; omega)
  have CO := BO2.exc hp.out.choose_spec.2.1 (fun q => by have := HNB.out _ q; omega)
  have HRW : Hid (w1.ownsRow 0 53 3 (.slice (some ⟨gl, 0, none⟩) rs.length vc) rs.length (flat rs)) := by
    have hst := HST.out.ext (HE.out.trans HE2.out)
    have hrow := ownsRow_same hst.row fun g hg => hp.out.choose_spec.2.1.block g (ownsRow_lt hst.row hg) fun hq => hst.rowN g hg hq
    rw [← HLEN.out] at hrow
    exact hrow
  have hbw : ∀ X, Exc (fun q => b < q) w1 X → Hid (BytesAv (fun q => q = b15 + 1) X (.slice ra fn rc) xs) := fun X hx => by
    obtain ⟨lv', n1, ex1, l1, hb⟩ := hp.out
    have hall : Exc (fun q => NB p lv fs q ∨ b < q) w X := ((HE.out.trans HE2.out).exc _).trans ((ex1.mono fun k _ q => .inl q).trans (hx.mono fun k _ q => .inr q))
    exact BytesAv.step (M := fun q => q = b15 + 1) HAV.out hall (fun k hk q => by
      rcases q with q | q
      · exact q
      · have := HBW.out; omega) (fun k hk q => by
      have := HBW.out
      omega)
  clear B15 B17 BO2 x0 x1 x2 x3 x4 x5 HC
  obtain ⟨x0, x1, x2, x3, x4, x5⟩ := block_six CO
  obtain ⟨y0, y1, y2, yf0, yf1, yf2, yl⟩ := C15.three
  obtain ⟨z0, z1, z2, zf0, zf1, zf2, zl⟩ := C17.three
  have hgl := HGL.out
  go_upto_region 38 with (fail)
  have HX2 : Hid (Exc (fun q => b < q) w1 w1) := Exc.refl _ _
  have HWID : Hid (∃ V, V = w1) := ⟨w1, rfl⟩
  have hHA : Hid (BytesAt w1 (.slice none 0 0) []) := nil_bytes _
  have hHW : Hid (BytesAt w1 (.slice none 0 0) []) := nil_bytes _
  clear HWID
  -- the call of Without, and of Same
  have HWV : Hid (w1.ownsRow 0 53 3 (.slice (some ⟨gl, 0, none⟩) rs.length vc) rs.length (flat rs)) := ownsRow_same HRW.out fun g hg => by
    cases hg
    exact HX2.out.block gl (ownsRow_lt HRW.out rfl) (by omega)
  have HWI : Hid (∀ X, Ext w1 X → Calls Try.prog 55 #[.slice (some ⟨gl, 0, none⟩) m vc, .int .i64 i] X (WithoutPost rs i X)) := fun X e => by
    have := without_any (own_ext HWV.out e) i HIL.out (by rw [HLEN.out]; omega) (fun r hr => av_one (HST.out.data r hr))
    rw [HLEN.out] at this
    exact this
  have HSM : Hid (∀ X, Ext w1 X → Calls Try.prog 31 #[.agg #[.int .i64 (0), .int .i64 (0), .slice none 0 0], .agg #[.int .i64 (0), .int .i64 (0), .slice none 0 0]] X fun e w' => e = .returned (.bool true) ∧ Ext X w') := fun X e =>
    same_true 0 0 (.slice none 0 0) (.slice none 0 0) [] X (hHA.out.ext e) (hHW.out.ext e) HDL.out
  have sX : Hid (∀ X, Ext w1 X → ((X.cell? ⟨b, 1, none⟩ = some (.int .i64 i) ∧ (X.cell? ⟨b15, 0, none⟩ = some (.int .i64 (0)) ∧ X.cell? ⟨b15, 1, none⟩ = some (.int .i64 (0)) ∧ X.cell? ⟨b15, 2, none⟩ = some (.slice none 0 0)) ∧ X.cell? ⟨b15 + 1, 0, none⟩ = some (.int .i64 (0)) ∧ X.cell? ⟨b15 + 1, 1, none⟩ = some (.int .i64 (0)) ∧ X.cell? ⟨b15 + 1, 2, none⟩ = some (.slice none 0 0)) ∧ Hid (Ext w1 X))) := fun X e => ⟨⟨e.cell_of x1, ⟨e.cell_of y0, e.cell_of y1, e.cell_of y2⟩, e.cell_of z0, e.cell_of z1, e.cell_of z2⟩, e⟩
  go_region_held3 (fun X => ((X.cell? ⟨b, 1, none⟩ = some (.int .i64 i) ∧ (X.cell? ⟨b15, 0, none⟩ = some (.int .i64 (0)) ∧ X.cell? ⟨b15, 1, none⟩ = some (.int .i64 (0)) ∧ X.cell? ⟨b15, 2, none⟩ = some (.slice none 0 0)) ∧ X.cell? ⟨b15 + 1, 0, none⟩ = some (.int .i64 (0)) ∧ X.cell? ⟨b15 + 1, 1, none⟩ = some (.int .i64 (0)) ∧ X.cell? ⟨b15 + 1, 2, none⟩ = some (.slice none 0 0)) ∧ Hid (Ext w1 X)))
      (exact sX.out _ (by (repeat (first | exact Ext.refl _ | apply Ext.drew | refine Ext.trans ?_ eS | refine Ext.trans ?_ eO | refine Ext.trans ?_ eW))))
      (first
        | (go_at_call 55; refine (HWI.out _ (by (repeat (first | exact Ext.refl _ | apply Ext.drew | refine Ext.trans ?_ eS | refine Ext.trans ?_ eO | refine Ext.trans ?_ eW)))).mono ?_; intro e w' hq; obtain ⟨v', rfl, hr, eW⟩ := hq)
        | (go_at_call 32; refine (of_any _ _ _ _ _ ⟨_, _, rfl⟩).mono ?_; rintro e w' ⟨rfl, eO⟩)
        | (go_at_call 31; refine (HSM.out _ (by (repeat (first | exact Ext.refl _ | apply Ext.drew | refine Ext.trans ?_ eS | refine Ext.trans ?_ eO | refine Ext.trans ?_ eW)))).mono ?_; rintro e w' ⟨rfl, eS⟩))
  go_wp2_with fail
  go_ret2
  obtain ⟨lv', n1, ex1, l1, hb⟩ := hp.out
  have hnp := HNB.out p (.inl rfl)
  have hNV : NetIs w1 p limit (fs.eraseIdx i) lv' := n1.exc HX2.out (by omega) (fun g hg => by
    have := HNB.out g (.inr (.inl (l1 ▸ hg)))
    omega) (fun q hq g hg => by
    have := HNB.out g (.inr (.inr ⟨q, List.mem_of_mem_eraseIdx hq, hg⟩))
    omega)
  have hall : Exc (fun q => NB p lv fs q ∨ b < q) w w1 := ((HE.out.trans HE2.out).exc _).trans ((ex1.mono fun k _ q => .inl q).trans (HX2.out.mono fun k _ q => .inr q))
  have hall2 : Exc (NB p lv fs) w w1 := hall.mono fun k hk q => by
    rcases q with q | q
    · exact q
    · have := HBW.out; omega
  have hbe := HBW.out
  refine ⟨_, lv', fs.eraseIdx i, rs.eraseIdx i, rfl, St.drop HST.out hNV hall2 (fun _ q => q) l1 (by (repeat (first | exact Ext.refl _ | apply Ext.drew | refine Ext.trans ?_ eS | refine Ext.trans ?_ eO | refine Ext.trans ?_ eW))) ?_, hall2.trans (Ext.exc (by (repeat (first | exact Ext.refl _ | apply Ext.drew | refine Ext.trans ?_ eS | refine Ext.trans ?_ eO | refine Ext.trans ?_ eW))) _), HFL.out⟩
  have e9 : (rs.eraseIdx i).length = rs.length - 1 := by rw [List.length_eraseIdx, if_pos HIL.out]
  rw [e9]
  exact own_ext (own_base hr (Ext.size (by (repeat (first | exact Ext.refl _ | apply Ext.drew | refine Ext.trans ?_ eS | refine Ext.trans ?_ eO | refine Ext.trans ?_ eW))))) (by (repeat (first | exact Ext.refl _ | apply Ext.drew | refine Ext.trans ?_ eS | refine Ext.trans ?_ eO | refine Ext.trans ?_ eW)))

set_option maxRecDepth 100000 in
set_option maxHeartbeats 4000000 in
theorem step_ok5 {B : Nat} {w : World} {p : Nat} {limit : Int} {fs rs : List Fr} {lv v : Value} (h : St B w p limit fs rs lv v) (hmax : fs.length ≤ 1000) (hB : B ≤ w.heap.size) (i : Nat) (hi : i < fs.length) (bit fro too : Int) (dv : Value) (hdv : ∃ a n c, dv = .slice a n c) (hbm : bit ≤ 9223372036854775807) :
    Calls Try.prog 33 #[.pointer (some ⟨p, 0, none⟩), v, .int .i64 limit, opV 5 i bit fro too dv] w (StepPost B p limit fs lv w) := by
  obtain ⟨a, n, c, rfl⟩ := hdv
  have HV : Hid (∃ gl vc, v = .slice (some ⟨gl, 0, none⟩) fs.length vc) := by
    obtain ⟨gl, vc, e, _⟩ := h.row.form (by have := h.len; omega)
    rw [h.len] at e
    exact ⟨gl, vc, e⟩
  have HS : Hid (St B (w.alloc (.cells #[.int .i64 5, .int .i64 i, .int .i64 bit, .int .i64 fro, .int .i64 too, .slice a n c] 59)) p limit fs rs lv v) := h.ext ((Ext.refl _).alloc _)
  have HE : Hid (Ext w (w.alloc (.cells #[.int .i64 5, .int .i64 i, .int .i64 bit, .int .i64 fro, .int .i64 too, .slice a n c] 59))) := (Ext.refl _).alloc _
  have BO : BlockIs (w.alloc (.cells #[.int .i64 5, .int .i64 i, .int .i64 bit, .int .i64 fro, .int .i64 too, .slice a n c] 59)) w.heap.size [.int .i64 5, .int .i64 i, .int .i64 bit, .int .i64 fro, .int .i64 too, .slice a n c] 59 := BlockIs.alloc w _ _
  obtain ⟨gl, vc, rfl⟩ := HV.out
  clear HV
  unfold opV
  have hir : i < rs.length := by have := h.len; omega
  obtain ⟨hat0, hat1, hat2⟩ := h.at i hi hir
  obtain ⟨hok0, hok1, hok2⟩ := h.ok _ (List.getElem_mem hi)
  have hbd := h.bd _ (List.getElem_mem hi)
  have hfd := row_form (h.net.data _ (List.getElem_mem hi))
  obtain ⟨fa, fc, hfd⟩ := hfd
  have hav : ∃ ra rc, rs[i].dv = .slice ra rs[i].data.length rc := by
    obtain ⟨ra, rc, e, _⟩ := h.data _ (List.getElem_mem hir)
    exact ⟨ra, rc, e⟩
  obtain ⟨ra, rc, hrd⟩ := hav
  rw [hat2] at hrd
  -- what the call does
  have HC : Hid (∀ W, Ext w W → Calls Try.prog 53 #[.pointer (some ⟨p, 0, none⟩), .int .i64 i, .int .i64 bit] W fun e w' => e = .returned (.tuple #[.agg #[.int .i64 fs[i].fro, .int .i64 fs[i].too, .slice fa fs[i].data.length fc], .int .i64 0]) ∧ Hid (∃ lv', NetIs w' p limit (fs.eraseIdx i) lv' ∧ Exc (NB p lv fs) W w' ∧ lv'.ownBlock = lv.ownBlock ∧ Bytes w' (.slice fa fs[i].data.length fc) (turned fs[i].data bit))) := fun W e => by
    have hn := h.net.ext e
    have hmem := List.getElem_mem hi
    have hsp : Calls Try.prog 53 #[.pointer (some ⟨p, 0, none⟩), .int .i64 i, .int .i64 bit] W (SpoilPost p limit fs lv i bit fs[i] W) := by
      by_cases q : bit < 0 ∨ (fs[i].data.length : Int) ≤ bit / 8
      · exact spoil_out hn i hi (by omega) (by omega) bit q
      · exact spoil_in hn i hi (by omega) (by omega) bit (by omega) (by omega)
    refine hsp.mono ?_
    rintro e w' hp
    obtain ⟨lv', rfl, n1, x1, l1, hb⟩ := hp
    rw [hfd] at hb ⊢
    exact ⟨rfl, lv', n1, x1.mono fun k _ q => by
      rcases q with q | q
      · exact NB.foot fs q
      · exact .inr (.inr ⟨_, hmem, q⟩), l1, hb⟩
  have HRM : Hid (∀ W : World, W.ownsRow 0 53 3 (.slice (some ⟨gl, 0, none⟩) rs.length vc) rs.length (flat rs) → W.cell? ⟨gl, i * 3, none⟩ = some (.int .i64 fs[i].fro) ∧ W.cell? ⟨gl, i * 3 + 1, none⟩ = some (.int .i64 fs[i].too) ∧ W.cell? ⟨gl, i * 3 + 2, none⟩ = some (.slice ra fs[i].data.length rc)) := fun W hr => by
    have := row_at3 hr i hir
    rw [hat0, hat1, hrd] at this
    exact this
  have HAV : Hid (BytesAv (NB p lv fs) w (.slice ra fs[i].data.length rc) fs[i].data) := by
    have := h.data _ (List.getElem_mem hir)
    rw [hrd, hat2] at this
    exact this
  have HLEN : Hid (rs.length = fs.length) := h.len
  have HST : Hid (St B w p limit fs rs lv (.slice (some ⟨gl, 0, none⟩) fs.length vc)) := h
  have HNB : Hid (∀ k, NB p lv fs k → k < w.heap.size) := NB.lt h.net
  have HOWN : Hid (∀ g, (Value.slice fa fs[i].data.length fc).ownBlock = some g → g < w.heap.size) := fun g hg => by
    have := (h.net.data _ (List.getElem_mem hi)).lt (g := g)
    rw [hfd] at this
    exact this hg
  have HGL : Hid (gl < w.heap.size) := ownsRow_lt h.row rfl
  have HIL : Hid (i < rs.length) := hir
  have HB : Hid (∀ X, Ext w X → B ≤ X.heap.size) := fun X e => Nat.le_trans hB e.size
  clear h hB hir hat0 hat1 hat2 hrd hfd hok0 hok1 HS
  have HFL : Hid ((fs.eraseIdx i).length ≤ fs.length + 1) := by rw [Hid, List.length_eraseIdx]; split <;> omega
  generalize fs[i].fro = ff at *
  generalize fs[i].too = ft at *
  generalize fs[i].data = xs at *
  generalize hfn : xs.length = fn at *
  have HFN : Hid (xs.length = fn) := hfn
  have HBD : Hid (∀ x ∈ xs, 0 ≤ x ∧ x ≤ 255) := hbd
  have HDL : Hid ((turned xs bit).length ≤ 100000000) := by rw [Hid, turned_length, hfn]; omega
  clear hfn hbd
  generalize hmm : fs.length = m at HC HLEN hmax HST hi ⊢
  clear hmm
  have hil : (i : Int) < (m : Int) := by omega
  go_enter Try.func33, Try.ntmps33
  go_upto_region 1 with (fail)
  generalize World.alloc w _ = W at *
  generalize hbw : w.heap.size = b at *
  have HBW : Hid (w.heap.size = b) := hbw
  clear hbw
  obtain ⟨x0, x1, x2, x3, x4, x5⟩ := block_six BO
  have hWb : b < W.heap.size := BO.lt
  go_upto_region 26 with (fail)
  have B15 : BlockIs ((W.alloc (.cells #[.int .i64 0, .int .i64 0, .slice none 0 0] 41)).alloc (.cells #[.int .i64 0, .int .i64 0, .slice none 0 0] 53)) W.heap.size [.int .i64 0, .int .i64 0, .slice none 0 0] 41 := (BlockIs.alloc W _ _).ext ((Ext.refl _).alloc _)
  have B17 : BlockIs ((W.alloc (.cells #[.int .i64 0, .int .i64 0, .slice none 0 0] 41)).alloc (.cells #[.int .i64 0, .int .i64 0, .slice none 0 0] 53)) (W.heap.size + 1) [.int .i64 0, .int .i64 0, .slice none 0 0] 53 := BlockIs.new (by simp)
  have HE2 : Hid (Ext W ((W.alloc (.cells #[.int .i64 0, .int .i64 0, .slice none 0 0] 41)).alloc (.cells #[.int .i64 0, .int .i64 0, .slice none 0 0] 53))) := ((Ext.refl _).alloc _).alloc _
  have BO2 := BO.ext HE2.out
  clear x0 x1 x2 x3 x4 x5 BO
  generalize World.alloc (World.alloc W _) _ = U at *
  generalize W.heap.size = b15 at *
  obtain ⟨x0, x1, x2, x3, x4, x5⟩ := block_six BO2
  go_wp2_with fail
  refine (HC.out _ (HE.out.trans HE2.out)).mono ?_
  rintro e w1 ⟨rfl, hp⟩
  have C15 := B15.exc hp.out.choose_spec.2.1 (fun q => by have := HNB.out _ q; omega)
  have C17 := B17.exc hp.out.choose_spec.2.1 (fun q => by have := HNB.out _ q; omega)
  have CO := BO2.exc hp.out.choose_spec.2.1 (fun q => by have := HNB.out _ q; omega)
  have HRW : Hid (w1.ownsRow 0 53 3 (.slice (some ⟨gl, 0, none⟩) rs.length vc) rs.length (flat rs)) := by
    have hst := HST.out.ext (HE.out.trans HE2.out)
    have hrow := ownsRow_same hst.row fun g hg => hp.out.choose_spec.2.1.block g (ownsRow_lt hst.row hg) fun hq => hst.rowN g hg hq
    rw [← HLEN.out] at hrow
    exact hrow
  have hbw : ∀ X, Exc (fun q => b < q) w1 X → Hid (BytesAv (fun q => q = b15 + 1) X (.slice ra fn rc) xs) := fun X hx => by
    obtain ⟨lv', n1, ex1, l1, hb⟩ := hp.out
    have hall : Exc (fun q => NB p lv fs q ∨ b < q) w X := ((HE.out.trans HE2.out).exc _).trans ((ex1.mono fun k _ q => .inl q).trans (hx.mono fun k _ q => .inr q))
    exact BytesAv.step (M := fun q => q = b15 + 1) HAV.out hall (fun k hk q => by
      rcases q with q | q
      · exact q
      · have := HBW.out; omega) (fun k hk q => by
      have := HBW.out
      omega)
  clear B15 B17 BO2 x0 x1 x2 x3 x4 x5 HC
  obtain ⟨x0, x1, x2, x3, x4, x5⟩ := block_six CO
  obtain ⟨y0, y1, y2, yf0, yf1, yf2, yl⟩ := C15.three
  obtain ⟨z0, z1, z2, zf0, zf1, zf2, zl⟩ := C17.three
  go_upto_region 34 with (fail)
  have hgl := HGL.out
  have D15 : BlockIs (((w1.setCell ⟨b15, 0, none⟩ (.int .i64 ff)).setCell ⟨b15, 1, none⟩ (.int .i64 ft)).setCell ⟨b15, 2, none⟩ (.slice fa fn fc)) b15 [.int .i64 ff, .int .i64 ft, .slice fa fn fc] 41 := ((C15.set 0 _).set 1 _).set 2 _
  have D17 : BlockIs (((w1.setCell ⟨b15, 0, none⟩ (.int .i64 ff)).setCell ⟨b15, 1, none⟩ (.int .i64 ft)).setCell ⟨b15, 2, none⟩ (.slice fa fn fc)) (b15 + 1) [.int .i64 0, .int .i64 0, .slice none 0 0] 53 := (((C17.other (p := ⟨b15, 0, none⟩) (by simp only; omega) (.int .i64 ff)).other (p := ⟨b15, 1, none⟩) (by simp only; omega) (.int .i64 ft)).other (p := ⟨b15, 2, none⟩) (by simp only; omega) (.slice fa fn fc))
  have DO := (((CO.other (p := ⟨b15, 0, none⟩) (by simp only; omega) (.int .i64 ff)).other (p := ⟨b15, 1, none⟩) (by simp only; omega) (.int .i64 ft)).other (p := ⟨b15, 2, none⟩) (by simp only; omega) (.slice fa fn fc))
  have HX1 : Hid (Exc (fun q => b < q) w1 (((w1.setCell ⟨b15, 0, none⟩ (.int .i64 ff)).setCell ⟨b15, 1, none⟩ (.int .i64 ft)).setCell ⟨b15, 2, none⟩ (.slice fa fn fc))) := (((Exc.refl _ _).setCell (.inl hWb) _).setCell (.inl hWb) _).setCell (.inl hWb) _
  clear C15 C17 CO y0 y1 y2 yf0 yf1 yf2 yl z0 z1 z2 zf0 zf1 zf2 zl x0 x1 x2 x3 x4 x5
  generalize World.setCell (World.setCell (World.setCell w1 _ _) _ _) _ _ = V1 at *
  obtain ⟨x0, x1, x2, x3, x4, x5⟩ := block_six DO
  obtain ⟨z0, z1, z2, zf0, zf1, zf2, zl⟩ := D17.three
  have HRV : Hid (V1.ownsRow 0 53 3 (.slice (some ⟨gl, 0, none⟩) rs.length vc) rs.length (flat rs)) := ownsRow_same HRW.out fun g hg => by
    cases hg
    exact HX1.out.block gl (ownsRow_lt HRW.out rfl) (by omega)
  obtain ⟨e0, e1, e2⟩ := HRM.out V1 HRV.out
  go_upto_region 36 with (fail)
  have E15 : BlockIs (((V1.setCell ⟨b15 + 1, 0, none⟩ (.int .i64 ff)).setCell ⟨b15 + 1, 1, none⟩ (.int .i64 ft)).setCell ⟨b15 + 1, 2, none⟩ (.slice ra fn rc)) b15 [.int .i64 ff, .int .i64 ft, .slice fa fn fc] 41 := (((D15.other (p := ⟨b15 + 1, 0, none⟩) (by simp only; omega) (.int .i64 ff)).other (p := ⟨b15 + 1, 1, none⟩) (by simp only; omega) (.int .i64 ft)).other (p := ⟨b15 + 1, 2, none⟩) (by simp only; omega) (.slice ra fn rc))
  have E17 : BlockIs (((V1.setCell ⟨b15 + 1, 0, none⟩ (.int .i64 ff)).setCell ⟨b15 + 1, 1, none⟩ (.int .i64 ft)).setCell ⟨b15 + 1, 2, none⟩ (.slice ra fn rc)) (b15 + 1) [.int .i64 ff, .int .i64 ft, .slice ra fn rc] 53 := ((D17.set 0 _).set 1 _).set 2 _
  have EO := (((DO.other (p := ⟨b15 + 1, 0, none⟩) (by simp only; omega) (.int .i64 ff)).other (p := ⟨b15 + 1, 1, none⟩) (by simp only; omega) (.int .i64 ft)).other (p := ⟨b15 + 1, 2, none⟩) (by simp only; omega) (.slice ra fn rc))
  have HX2 : Hid (Exc (fun q => b < q) w1 (((V1.setCell ⟨b15 + 1, 0, none⟩ (.int .i64 ff)).setCell ⟨b15 + 1, 1, none⟩ (.int .i64 ft)).setCell ⟨b15 + 1, 2, none⟩ (.slice ra fn rc))) := ((HX1.out.setCell (.inl (by simp only; omega)) _).setCell (.inl (by simp only; omega)) _).setCell (.inl (by simp only; omega)) _
  clear D15 D17 DO z0 z1 z2 zf0 zf1 zf2 zl x0 x1 x2 x3 x4 x5 e0 e1 e2 HRV
  generalize World.setCell (World.setCell (World.setCell V1 _ _) _ _) _ _ = V at *
  obtain ⟨x0, x1, x2, x3, x4, x5⟩ := block_six EO
  obtain ⟨z0, z1, z2, zf0, zf1, zf2, zl⟩ := E17.three
  have hT : Hid (Calls Try.prog 54 #[.agg #[.int .i64 ff, .int .i64 ft, .slice ra fn rc], .int .i64 bit] V (TurnPost (fun q => q = b15 + 1) ff ft xs bit V)) := by
    have hv : BytesAv (fun q => q = b15 + 1) V (.slice ra fn rc) xs := hbw V HX2.out
    by_cases q : bit < 0 ∨ (xs.length : Int) ≤ bit / 8
    · exact turn_same _ ff ft _ xs bit V hv q hbm
    · exact turn_in _ ff ft _ xs bit V (fun k hk => by subst hk; exact zl) hv (by omega) (by omega) hbm (by rw [HFN.out]; omega) HBD.out
  go_wp2_with fail
  refine hT.out.mono ?_
  rintro e w4 hq
  obtain ⟨tv, rfl, htv, e4⟩ := hq
  have htf : Hid (∃ ta tc, tv = .slice ta fn tc) := by
    obtain ⟨ta, tc, e, _⟩ := htv
    rw [turned_length, HFN.out] at e
    exact ⟨ta, tc, e⟩
  have HTV : Hid (BytesAv (fun q => q = b15 + 1) w4 tv (turned xs bit)) := htv
  clear htv
  obtain ⟨ta, tc, rfl⟩ := htf.out
  have F15 := E15.ext e4
  have F17 := E17.ext e4
  have FO := EO.ext e4
  have HX3 : Hid (Exc (fun q => b < q) w1 w4) := HX2.out.trans (e4.exc _)
  clear E15 E17 EO HX2 x0 x1 x2 x3 x4 x5 z0 z1 z2 zf0 zf1 zf2 zl e4 htf hT
  obtain ⟨x0, x1, x2, x3, x4, x5⟩ := block_six FO
  obtain ⟨y0, y1, y2, yf0, yf1, yf2, yl⟩ := F15.three
  obtain ⟨z0, z1, z2, zf0, zf1, zf2, zl⟩ := F17.three
  go_upto_region 38 with (fail)
  have G15 : BlockIs (((w4.setCell ⟨b15 + 1, 0, none⟩ (.int .i64 ff)).setCell ⟨b15 + 1, 1, none⟩ (.int .i64 ft)).setCell ⟨b15 + 1, 2, none⟩ (.slice ta fn tc)) b15 [.int .i64 ff, .int .i64 ft, .slice fa fn fc] 41 := (((F15.other (p := ⟨b15 + 1, 0, none⟩) (by simp only; omega) (.int .i64 ff)).other (p := ⟨b15 + 1, 1, none⟩) (by simp only; omega) (.int .i64 ft)).other (p := ⟨b15 + 1, 2, none⟩) (by simp only; omega) (.slice ta fn tc))
  have G17 : BlockIs (((w4.setCell ⟨b15 + 1, 0, none⟩ (.int .i64 ff)).setCell ⟨b15 + 1, 1, none⟩ (.int .i64 ft)).setCell ⟨b15 + 1, 2, none⟩ (.slice ta fn tc)) (b15 + 1) [.int .i64 ff, .int .i64 ft, .slice ta fn tc] 53 := ((F17.set 0 _).set 1 _).set 2 _
  have GO := (((FO.other (p := ⟨b15 + 1, 0, none⟩) (by simp only; omega) (.int .i64 ff)).other (p := ⟨b15 + 1, 1, none⟩) (by simp only; omega) (.int .i64 ft)).other (p := ⟨b15 + 1, 2, none⟩) (by simp only; omega) (.slice ta fn tc))
  have HX2 : Hid (Exc (fun q => b < q) w1 (((w4.setCell ⟨b15 + 1, 0, none⟩ (.int .i64 ff)).setCell ⟨b15 + 1, 1, none⟩ (.int .i64 ft)).setCell ⟨b15 + 1, 2, none⟩ (.slice ta fn tc))) := ((HX3.out.setCell (.inl (by simp only; omega)) _).setCell (.inl (by simp only; omega)) _).setCell (.inl (by simp only; omega)) _
  have HX9 : Hid (Exc (fun q => q = b15 + 1) w4 (((w4.setCell ⟨b15 + 1, 0, none⟩ (.int .i64 ff)).setCell ⟨b15 + 1, 1, none⟩ (.int .i64 ft)).setCell ⟨b15 + 1, 2, none⟩ (.slice ta fn tc))) := (((Exc.refl (fun q => q = b15 + 1) w4).setCell (.inl rfl) _).setCell (.inl rfl) _).setCell (.inl rfl) _
  clear F15 F17 FO y0 y1 y2 yf0 yf1 yf2 yl z0 z1 z2 zf0 zf1 zf2 zl x0 x1 x2 x3 x4 x5
  generalize World.setCell (World.setCell (World.setCell w4 _ _) _ _) _ _ = V5 at *
  obtain ⟨x0, x1, x2, x3, x4, x5⟩ := block_six GO
  obtain ⟨y0, y1, y2, yf0, yf1, yf2, yl⟩ := G15.three
  obtain ⟨z0, z1, z2, zf0, zf1, zf2, zl⟩ := G17.three
  have hHW : Hid (BytesAt V5 (.slice ta fn tc) (turned xs bit)) := (BytesAv.exc HTV.out HX9.out (fun k _ q => q)).at
  have hHA : Hid (BytesAt V5 (.slice fa fn fc) (turned xs bit)) := by
    obtain ⟨lv', n1, ex1, l1, hb⟩ := hp.out
    exact (hb.same fun g hg => HX2.out.block g (hb.lt hg) (by have := HOWN.out g hg; omega)).at
  -- the call of Without, and of Same
  have HWV : Hid (V5.ownsRow 0 53 3 (.slice (some ⟨gl, 0, none⟩) rs.length vc) rs.length (flat rs)) := ownsRow_same HRW.out fun g hg => by
    cases hg
    exact HX2.out.block gl (ownsRow_lt HRW.out rfl) (by omega)
  have HWI : Hid (∀ X, Ext V5 X → Calls Try.prog 55 #[.slice (some ⟨gl, 0, none⟩) m vc, .int .i64 i] X (WithoutPost rs i X)) := fun X e => by
    have := without_any (own_ext HWV.out e) i HIL.out (by rw [HLEN.out]; omega) (fun r hr => av_one (HST.out.data r hr))
    rw [HLEN.out] at this
    exact this
  have HSM : Hid (∀ X, Ext V5 X → Calls Try.prog 31 #[.agg #[.int .i64 (ff), .int .i64 (ft), .slice fa fn fc], .agg #[.int .i64 (ff), .int .i64 (ft), .slice ta fn tc]] X fun e w' => e = .returned (.bool true) ∧ Ext X w') := fun X e =>
    same_true ff ft (.slice fa fn fc) (.slice ta fn tc) (turned xs bit) X (hHA.out.ext e) (hHW.out.ext e) HDL.out
  have sX : Hid (∀ X, Ext V5 X → ((X.cell? ⟨b, 1, none⟩ = some (.int .i64 i) ∧ (X.cell? ⟨b15, 0, none⟩ = some (.int .i64 (ff)) ∧ X.cell? ⟨b15, 1, none⟩ = some (.int .i64 (ft)) ∧ X.cell? ⟨b15, 2, none⟩ = some (.slice fa fn fc)) ∧ X.cell? ⟨b15 + 1, 0, none⟩ = some (.int .i64 (ff)) ∧ X.cell? ⟨b15 + 1, 1, none⟩ = some (.int .i64 (ft)) ∧ X.cell? ⟨b15 + 1, 2, none⟩ = some (.slice ta fn tc)) ∧ Hid (Ext V5 X))) := fun X e => ⟨⟨e.cell_of x1, ⟨e.cell_of y0, e.cell_of y1, e.cell_of y2⟩, e.cell_of z0, e.cell_of z1, e.cell_of z2⟩, e⟩
  go_region_held3 (fun X => ((X.cell? ⟨b, 1, none⟩ = some (.int .i64 i) ∧ (X.cell? ⟨b15, 0, none⟩ = some (.int .i64 (ff)) ∧ X.cell? ⟨b15, 1, none⟩ = some (.int .i64 (ft)) ∧ X.cell? ⟨b15, 2, none⟩ = some (.slice fa fn fc)) ∧ X.cell? ⟨b15 + 1, 0, none⟩ = some (.int .i64 (ff)) ∧ X.cell? ⟨b15 + 1, 1, none⟩ = some (.int .i64 (ft)) ∧ X.cell? ⟨b15 + 1, 2, none⟩ = some (.slice ta fn tc)) ∧ Hid (Ext V5 X)))
      (exact sX.out _ (by (repeat (first | exact Ext.refl _ | apply Ext.drew | refine Ext.trans ?_ eS | refine Ext.trans ?_ eO | refine Ext.trans ?_ eW))))
      (first
        | (go_at_call 55; refine (HWI.out _ (by (repeat (first | exact Ext.refl _ | apply Ext.drew | refine Ext.trans ?_ eS | refine Ext.trans ?_ eO | refine Ext.trans ?_ eW)))).mono ?_; intro e w' hq; obtain ⟨v', rfl, hr, eW⟩ := hq)
        | (go_at_call 32; refine (of_any _ _ _ _ _ ⟨_, _, rfl⟩).mono ?_; rintro e w' ⟨rfl, eO⟩)
        | (go_at_call 31; refine (HSM.out _ (by (repeat (first | exact Ext.refl _ | apply Ext.drew | refine Ext.trans ?_ eS | refine Ext.trans ?_ eO | refine Ext.trans ?_ eW)))).mono ?_; rintro e w' ⟨rfl, eS⟩))
  go_wp2_with fail
  go_ret2
  obtain ⟨lv', n1, ex1, l1, hb⟩ := hp.out
  have hnp := HNB.out p (.inl rfl)
  have hNV : NetIs V5 p limit (fs.eraseIdx i) lv' := n1.exc HX2.out (by omega) (fun g hg => by
    have := HNB.out g (.inr (.inl (l1 ▸ hg)))
    omega) (fun q hq g hg => by
    have := HNB.out g (.inr (.inr ⟨q, List.mem_of_mem_eraseIdx hq, hg⟩))
    omega)
  have hall : Exc (fun q => NB p lv fs q ∨ b < q) w V5 := ((HE.out.trans HE2.out).exc _).trans ((ex1.mono fun k _ q => .inl q).trans (HX2.out.mono fun k _ q => .inr q))
  have hall2 : Exc (NB p lv fs) w V5 := hall.mono fun k hk q => by
    rcases q with q | q
    · exact q
    · have := HBW.out; omega
  have hbe := HBW.out
  refine ⟨_, lv', fs.eraseIdx i, rs.eraseIdx i, rfl, St.drop HST.out hNV hall2 (fun _ q => q) l1 (by (repeat (first | exact Ext.refl _ | apply Ext.drew | refine Ext.trans ?_ eS | refine Ext.trans ?_ eO | refine Ext.trans ?_ eW))) ?_, hall2.trans (Ext.exc (by (repeat (first | exact Ext.refl _ | apply Ext.drew | refine Ext.trans ?_ eS | refine Ext.trans ?_ eO | refine Ext.trans ?_ eW))) _), HFL.out⟩
  have e9 : (rs.eraseIdx i).length = rs.length - 1 := by rw [List.length_eraseIdx, if_pos HIL.out]
  rw [e9]
  exact own_ext (own_base hr (Ext.size (by (repeat (first | exact Ext.refl _ | apply Ext.drew | refine Ext.trans ?_ eS | refine Ext.trans ?_ eO | refine Ext.trans ?_ eW))))) (by (repeat (first | exact Ext.refl _ | apply Ext.drew | refine Ext.trans ?_ eS | refine Ext.trans ?_ eO | refine Ext.trans ?_ eW)))
end Go.Proofs.Ytdbhndieommkaaa.NetW
