/- The walk of the law's step at Twice. -/
import Derived.Test.YtdbhndieommkaaaNetP8
namespace Go.Proofs.Ytdbhndieommkaaa.NetW
open Go.RowKit

theorem row_at3 {w : World} {base : Nat} {T : TypeId} {g n cap : Nat} {rs : List Fr} (h : w.ownsRow base T 3 (.slice (some ⟨g, 0, none⟩) n cap) n (flat rs)) (k : Nat) (hk : k < rs.length) :
    w.cell? ⟨g, k * 3, none⟩ = some (.int .i64 rs[k].fro) ∧ w.cell? ⟨g, k * 3 + 1, none⟩ = some (.int .i64 rs[k].too) ∧ w.cell? ⟨g, k * 3 + 2, none⟩ = some rs[k].dv := by
  have hc : ∀ j, j < 3 → w.cell? ⟨g, k * 3 + j, none⟩ = (rs[k].cells)[j]? := fun j hj => by
    have h2 := flat_at rs k j hk hj
    rw [← h2]
    have h3 : (flat rs)[k * 3 + j]? = some ((flat rs)[k * 3 + j]'(by rw [flat_length]; omega)) := List.getElem?_eq_getElem _
    have := h.cells (g := g) rfl _ _ h3
    rw [Addr.add_lit, Nat.zero_add] at this
    rw [h3, this]
  exact ⟨hc 0 (by omega), hc 1 (by omega), hc 2 (by omega)⟩

theorem reads_newAt (w : World) (c : List Value) (T : TypeId) (m cap b : Nat) (hb : b = w.heap.size) : Reads (w.alloc (.cells c.toArray T)) (.slice (some ⟨b, 0, none⟩) m cap) m c := by
  subst hb
  exact Reads.new w c T m cap
theorem own_newAt (w : World) (T : TypeId) (size b : Nat) (hb : b = w.heap.size) : (w.alloc (.cells #[] T)).ownsRow b T size (.slice (some ⟨b, 0, none⟩) 0 0) 0 [] := by
  subst hb
  exact own_new0 w T size
theorem reads_grown {w w' : World} {row : Option Nat} {b m c : Nat} {news : List Value} (h : Reads w (.slice (some ⟨b, 0, none⟩) m c) m news) (hg : w.grownBy w' row) (hne : ¬ row = some b) : Reads w' (.slice (some ⟨b, 0, none⟩) m c) m news := by
  obtain ⟨ax, cc, e, hn, hr⟩ := h
  cases e
  refine ⟨_, _, rfl, nofun, fun j u hj => ?_⟩
  obtain ⟨b', off, e, hc⟩ := hr j u hj
  cases e
  refine ⟨b, 0, rfl, ?_⟩
  rw [hg.cell_far (a := ⟨b, 0 + j, none⟩) (cell_lt hc) (fun e => hne e.symm)]
  exact hc

set_option maxRecDepth 100000 in
theorem step_twice_none {B : Nat} {w : World} {p : Nat} {limit : Int} {fs rs : List Fr} {lv v : Value} (h : St B w p limit fs rs lv v) (i bit fro too : Int) (dv : Value) (hdv : ∃ a n c, dv = .slice a n c) (hi : hasN i fs.length = false) :
    Calls Try.prog 33 #[.pointer (some ⟨p, 0, none⟩), v, .int .i64 limit, opV 4 i bit fro too dv] w (StepPost B p limit fs lv w) := by
  obtain ⟨a, n, c, rfl⟩ := hdv
  have HV : Hid (∃ va vc, v = .slice va fs.length vc) := by
    obtain ⟨va, vc, e⟩ := row_form h.row
    rw [h.len] at e
    exact ⟨va, vc, e⟩
  have HS : Hid (St B (w.alloc (.cells #[.int .i64 4, .int .i64 i, .int .i64 bit, .int .i64 fro, .int .i64 too, .slice a n c] 59)) p limit fs rs lv v) := h.ext ((Ext.refl _).alloc _)
  have HE : Hid (Ext w (w.alloc (.cells #[.int .i64 4, .int .i64 i, .int .i64 bit, .int .i64 fro, .int .i64 too, .slice a n c] 59))) := (Ext.refl _).alloc _
  have BO : BlockIs (w.alloc (.cells #[.int .i64 4, .int .i64 i, .int .i64 bit, .int .i64 fro, .int .i64 too, .slice a n c] 59)) w.heap.size [.int .i64 4, .int .i64 i, .int .i64 bit, .int .i64 fro, .int .i64 too, .slice a n c] 59 := BlockIs.alloc w _ _
  obtain ⟨va, vc, rfl⟩ := HV.out
  clear HV
  unfold opV
  have HC : Hid (∀ W, Ext w W → Calls Try.prog 28 #[.pointer (some ⟨p, 0, none⟩), .int .i64 i] W fun e w' => e = .returned (.int .i64 13) ∧ Ext W w') := fun W e => twice_none (h.net.ext e) i hi
  clear h
  have HMM2 : Hid (fs.length ≤ fs.length + 1) := by show _ ≤ _; omega
  generalize fs.length = m at HS hi ⊢
  have hi' : i < 0 ∨ (0 ≤ i ∧ (m : Int) ≤ i) := by
    simp only [hasN, Bool.and_eq_false_iff, decide_eq_false_iff_not] at hi
    omega
  clear hi
  go_enter Try.func33, Try.ntmps33
  go_upto_region 1 with (fail)
  generalize World.alloc w _ = W at *
  generalize w.heap.size = b at *
  obtain ⟨x0, x1, x2, x3, x4, x5⟩ := block_six BO
  clear BO
  rcases hi' with hi | ⟨hi0, hi⟩
  all_goals
    go_wp2_with (go_at_call 28; refine (HC.out _ HE.out).mono ?_; rintro e w1 ⟨rfl, e1⟩)
    go_ret2
    exact ⟨_, lv, fs, rs, rfl, HS.out.ext e1, (HE.out.trans e1).exc _, HMM2.out⟩

set_option maxRecDepth 100000 in
theorem step_twice_full {B : Nat} {w : World} {p : Nat} {limit : Int} {fs rs : List Fr} {lv v : Value} (h : St B w p limit fs rs lv v) (hmax : fs.length ≤ 1000) (i : Nat) (hi : i < fs.length) (hlim : limit ≤ (fs.length : Int)) (bit fro too : Int) (dv : Value) (hdv : ∃ a n c, dv = .slice a n c) :
    Calls Try.prog 33 #[.pointer (some ⟨p, 0, none⟩), v, .int .i64 limit, opV 4 i bit fro too dv] w (StepPost B p limit fs lv w) := by
  obtain ⟨a, n, c, rfl⟩ := hdv
  have HV : Hid (∃ va vc, v = .slice va fs.length vc) := by
    obtain ⟨va, vc, e⟩ := row_form h.row
    rw [h.len] at e
    exact ⟨va, vc, e⟩
  have HS : Hid (St B (w.alloc (.cells #[.int .i64 4, .int .i64 i, .int .i64 bit, .int .i64 fro, .int .i64 too, .slice a n c] 59)) p limit fs rs lv v) := h.ext ((Ext.refl _).alloc _)
  have HE : Hid (Ext w (w.alloc (.cells #[.int .i64 4, .int .i64 i, .int .i64 bit, .int .i64 fro, .int .i64 too, .slice a n c] 59))) := (Ext.refl _).alloc _
  have BO : BlockIs (w.alloc (.cells #[.int .i64 4, .int .i64 i, .int .i64 bit, .int .i64 fro, .int .i64 too, .slice a n c] 59)) w.heap.size [.int .i64 4, .int .i64 i, .int .i64 bit, .int .i64 fro, .int .i64 too, .slice a n c] 59 := BlockIs.alloc w _ _
  obtain ⟨va, vc, rfl⟩ := HV.out
  clear HV
  unfold opV
  have HC : Hid (∀ W, Ext w W → Calls Try.prog 28 #[.pointer (some ⟨p, 0, none⟩), .int .i64 i] W fun e w' => e = .returned (.int .i64 14) ∧ Ext W w') := fun W e => twice_full (h.net.ext e) i hi (h.ok _ (List.getElem_mem hi)) (by omega) hlim
  clear h
  have HMM2 : Hid (fs.length ≤ fs.length + 1) := by show _ ≤ _; omega
  generalize fs.length = m at HS hi hlim ⊢
  go_enter Try.func33, Try.ntmps33
  go_upto_region 1 with (fail)
  generalize World.alloc w _ = W at *
  generalize w.heap.size = b at *
  obtain ⟨x0, x1, x2, x3, x4, x5⟩ := block_six BO
  clear BO
  go_wp2_with (go_at_call 28; refine (HC.out _ HE.out).mono ?_; rintro e w1 ⟨rfl, e1⟩)
  go_ret2
  exact ⟨_, lv, fs, rs, rfl, HS.out.ext e1, (HE.out.trans e1).exc _, HMM2.out⟩

set_option maxRecDepth 100000 in
set_option maxHeartbeats 4000000 in
theorem step_twice_ok {B : Nat} {w : World} {p : Nat} {limit : Int} {fs rs : List Fr} {lv v : Value} (h : St B w p limit fs rs lv v) (hmax : fs.length ≤ 1000) (hB : B ≤ w.heap.size) (i : Nat) (hi : i < fs.length) (hlim : (fs.length : Int) < limit) (bit fro too : Int) (dv : Value) (hdv : ∃ a n c, dv = .slice a n c) :
    Calls Try.prog 33 #[.pointer (some ⟨p, 0, none⟩), v, .int .i64 limit, opV 4 i bit fro too dv] w (StepPost B p limit fs lv w) := by
  obtain ⟨a, n, c, rfl⟩ := hdv
  obtain ⟨i0, hi0, hz0, hz1, hz2⟩ := info_parts infoF
  have HV : Hid (∃ gl vc, v = .slice (some ⟨gl, 0, none⟩) fs.length vc) := by
    obtain ⟨gl, vc, e, _⟩ := h.row.form (by have := h.len; omega)
    rw [h.len] at e
    exact ⟨gl, vc, e⟩
  have HS : Hid (St B (w.alloc (.cells #[.int .i64 4, .int .i64 i, .int .i64 bit, .int .i64 fro, .int .i64 too, .slice a n c] 59)) p limit fs rs lv v) := h.ext ((Ext.refl _).alloc _)
  have HE : Hid (Ext w (w.alloc (.cells #[.int .i64 4, .int .i64 i, .int .i64 bit, .int .i64 fro, .int .i64 too, .slice a n c] 59))) := (Ext.refl _).alloc _
  have BO : BlockIs (w.alloc (.cells #[.int .i64 4, .int .i64 i, .int .i64 bit, .int .i64 fro, .int .i64 too, .slice a n c] 59)) w.heap.size [.int .i64 4, .int .i64 i, .int .i64 bit, .int .i64 fro, .int .i64 too, .slice a n c] 59 := BlockIs.alloc w _ _
  obtain ⟨gl, vc, rfl⟩ := HV.out
  clear HV
  unfold opV
  have HC : Hid (∀ W, Ext w W → Calls Try.prog 28 #[.pointer (some ⟨p, 0, none⟩), .int .i64 i] W (SendPost p limit fs lv fs[i].fro fs[i].too fs[i].data W)) := fun W e => twice_ok (h.net.ext e) i hi (h.ok _ (List.getElem_mem hi)) (by omega) hlim
  have HB : Hid (∀ X, Ext w X → B ≤ X.heap.size) := fun X e => Nat.le_trans hB e.size
  have HLEN : Hid (rs.length = fs.length) := h.len
  have hir : i < rs.length := by have := h.len; omega
  have HAT : Hid (rs[i].fro = fs[i].fro ∧ rs[i].too = fs[i].too ∧ rs[i].data = fs[i].data) := h.at i hi hir
  have HST : Hid (St B w p limit fs rs lv (.slice (some ⟨gl, 0, none⟩) fs.length vc)) := h
  have HOK : Hid (fs[i].ok ∧ ∀ x ∈ fs[i].data, 0 ≤ x ∧ x ≤ 255) := ⟨h.ok _ (List.getElem_mem hi), h.bd _ (List.getElem_mem hi)⟩
  have HAV : Hid (BytesAv (NB p lv fs) w rs[i].dv rs[i].data) := h.data _ (List.getElem_mem hir)
  have HRM : Hid (∀ W : World, W.ownsRow 0 53 3 (.slice (some ⟨gl, 0, none⟩) rs.length vc) rs.length (flat rs) → W.cell? ⟨gl, i * 3, none⟩ = some (.int .i64 rs[i].fro) ∧ W.cell? ⟨gl, i * 3 + 1, none⟩ = some (.int .i64 rs[i].too) ∧ W.cell? ⟨gl, i * 3 + 2, none⟩ = some rs[i].dv) := fun W hr => row_at3 hr i hir
  have HBN : Hid (¬ Foot p lv w.heap.size) := fun hq => Nat.lt_irrefl _ (NB.lt h.net _ (NB.foot fs hq))
  clear h hB
  generalize fs[i] = f at *
  generalize rs[i] = r at *
  obtain ⟨ra, rc, hrd, _⟩ := HAV.out
  generalize hrn : r.data.length = rn at *
  have HRD : Hid (r.dv = .slice ra rn rc) := hrd
  clear hrd
  generalize hmm : fs.length = m at HC HS HLEN hmax hlim HST hi ⊢
  have HM : Hid (fs.length = m) := hmm
  clear hmm
  clear hir hrn
  go_enter Try.func33, Try.ntmps33
  go_upto_region 1 with (fail)
  generalize World.alloc w _ = W at *
  generalize w.heap.size = b at *
  obtain ⟨x0, x1, x2, x3, x4, x5⟩ := block_six BO
  have hBW : b < W.heap.size := BO.lt
  go_wp2_with fail
  refine (HC.out _ HE.out).mono ?_
  rintro e w1 hp
  obtain ⟨lv', dv', rfl, n1, nx1, l1, f1⟩ := hp
  clear x0 x1 x2 x3 x4 x5
  have HBO : BlockIs w1 b [.int .i64 4, .int .i64 i, .int .i64 bit, .int .i64 fro, .int .i64 too, .slice a n c] 59 := BO.exc nx1 HBN.out
  obtain ⟨x0, x1, x2, x3, x4, x5⟩ := block_six HBO
  go_upto_region 19 with (fail)
  have H1 : Hid (NetIs w1 p limit (fs ++ [⟨f.fro, f.too, dv', f.data⟩]) lv' ∧ Exc (Foot p lv) W w1 ∧ (∀ g, lv'.ownBlock = some g → lv.ownBlock = some g ∨ W.heap.size ≤ g) ∧ ∀ g, dv'.ownBlock = some g → W.heap.size ≤ g) := ⟨n1, nx1, l1, f1⟩
  clear n1 nx1 l1 f1
  have HRW : Hid (w1.ownsRow 0 53 3 (.slice (some ⟨gl, 0, none⟩) rs.length vc) rs.length (flat rs)) := by
    have hst := HST.out.ext HE.out
    have hrow := ownsRow_same hst.row fun g hg => H1.out.2.1.block g (ownsRow_lt hst.row hg) fun hq => hst.rowN g hg (NB.foot fs hq)
    rw [← HLEN.out] at hrow
    exact hrow
  obtain ⟨e0, e1, e2⟩ := HRM.out w1 HRW.out
  rw [HRD.out] at e2
  have HR1 : Hid (∀ X, Ext w1 X → (flat rs).length = m * 3 ∧ Reads X (.slice (some ⟨gl, 0, none⟩) m vc) m (flat rs) ∧ ∀ u ∈ flat rs, u.oneCell' = true) := fun X e => by
    have := own_flat (own_ext HRW.out e) (fun r hr => av_one (HST.out.data r hr))
    rw [HLEN.out] at this
    exact this
  have sX : Hid (∀ X, Ext w1 X → ((X.cell? ⟨b, 1, none⟩ = some (.int .i64 i) ∧ X.cell? ⟨gl, i * 3, none⟩ = some (.int .i64 r.fro) ∧ X.cell? ⟨gl, i * 3 + 1, none⟩ = some (.int .i64 r.too) ∧ X.cell? ⟨gl, i * 3 + 2, none⟩ = some (.slice ra rn rc)) ∧ Hid (Ext w1 X))) := fun X e => ⟨⟨e.cell_of x1, e.cell_of e0, e.cell_of e1, e.cell_of e2⟩, e⟩
  go_region_held3 (fun w' => ((w'.cell? ⟨b, 1, none⟩ = some (.int .i64 i) ∧ w'.cell? ⟨gl, i * 3, none⟩ = some (.int .i64 r.fro) ∧ w'.cell? ⟨gl, i * 3 + 1, none⟩ = some (.int .i64 r.too) ∧ w'.cell? ⟨gl, i * 3 + 2, none⟩ = some (.slice ra rn rc)) ∧ Hid (Ext w1 w')))
      (exact sX.out _ (by (repeat (first | exact Ext.refl _ | exact hg2 | apply Ext.drew | apply Ext.alloc | refine Ext.trans ?_ eO | refine Ext.trans ?_ hg1))))
      (first
        | (refine step_append_all _ (by rfl) _ _ 57 (by rfl) w1.heap.size 53 i0 _ 3 40 Try.underlying57 hi0 hz0 hz1 hz2 rfl (by omega) _ 0 [] (by rfl) ?_ (.slice (some ⟨gl, 0, none⟩) m vc) m (flat rs) (by rfl) (HR1.out _ (Ext.refl _)).1 ?_ (HR1.out _ (Ext.refl _)).2.2 (by unfold maxLen; omega) (by omega) ?_ ?_
           · first
             | (show World.ownsRow _ _ _ _ (.slice (some ⟨w1.heap.size, 0, none⟩) 0 0) 0 []; exact own_ext (own_new0 w1 _ _) (by (repeat (first | exact Ext.refl _ | apply Ext.drew | apply Ext.alloc | refine Ext.trans ?_ eO | refine Ext.trans ?_ hg1))))
             | (show World.ownsRow _ _ _ _ (.slice (some ⟨w1.heap.size + 1, 0, none⟩) 0 0) 0 []; exact own_ext (own_base (own_newAt (w1.alloc (.cells #[.int .i64 r.fro, .int .i64 r.too, .slice ra rn rc] 53)) _ _ (w1.heap.size + 1) (by simp)) (Nat.le_succ _)) (by (repeat (first | exact Ext.refl _ | apply Ext.drew | apply Ext.alloc | refine Ext.trans ?_ eO | refine Ext.trans ?_ hg1))))
           · exact (HR1.out _ (by (repeat (first | exact Ext.refl _ | apply Ext.drew | apply Ext.alloc | refine Ext.trans ?_ eO | refine Ext.trans ?_ hg1)))).2.1
           · exact Ext.size (by (repeat (first | exact Ext.refl _ | apply Ext.drew | apply Ext.alloc | refine Ext.trans ?_ eO | refine Ext.trans ?_ hg1)))
           intro v1 w2 hown1 hgrow1 _
           have hg1 := Ext.grown (a := w1) (by (repeat (first | exact Ext.refl _ | apply Ext.drew | apply Ext.alloc | refine Ext.trans ?_ eO | refine Ext.trans ?_ hg1))) hgrow1 (fun k hk => by cases hk; first | exact Nat.le_refl _ | exact Nat.le_succ _))
        | (refine step_append_all _ (by rfl) _ _ 57 (by rfl) w1.heap.size 53 i0 _ 3 40 Try.underlying57 hi0 hz0 hz1 hz2 rfl (by omega) v1 m (flat rs) (by rfl) ?_ _ 1 [.int .i64 r.fro, .int .i64 r.too, .slice ra rn rc] (by rfl) rfl ?_ ?_ (by unfold maxLen; omega) (by omega) ?_ ?_
           · exact own_ext (by simpa using hown1) (by (repeat (first | exact Ext.refl _ | apply Ext.drew | apply Ext.alloc | refine Ext.trans ?_ eO | refine Ext.trans ?_ hg1)))
           · first
             | (show Reads _ (.slice (some ⟨w2.heap.size, 0, none⟩) 1 1) 1 _; exact Reads.ext (Reads.new w2 [.int .i64 r.fro, .int .i64 r.too, .slice ra rn rc] _ 1 1) (by (repeat (first | exact Ext.refl _ | apply Ext.drew | apply Ext.alloc | refine Ext.trans ?_ eO | refine Ext.trans ?_ hg1))))
             | (show Reads _ (.slice (some ⟨w1.heap.size + 1, 0, none⟩) 1 1) 1 _; exact reads_grown (Reads.ext (reads_newAt (w1.alloc (.cells #[] 53)) [.int .i64 r.fro, .int .i64 r.too, .slice ra rn rc] _ 1 1 (w1.heap.size + 1) (by simp)) (by (repeat (first | exact Ext.refl _ | apply Ext.drew | apply Ext.alloc | refine Ext.trans ?_ eO | refine Ext.trans ?_ hg1)))) hgrow1 (fun e => by
                 have e2 : (some w1.heap.size : Option Nat) = some (w1.heap.size + 1) := e
                 simp at e2))
             | (show Reads _ (.slice (some ⟨w1.heap.size, 0, none⟩) 1 1) 1 _; exact reads_grown (Reads.ext (Reads.new w1 [.int .i64 r.fro, .int .i64 r.too, .slice ra rn rc] _ 1 1) (by (repeat (first | exact Ext.refl _ | apply Ext.drew | apply Ext.alloc | refine Ext.trans ?_ eO | refine Ext.trans ?_ hg1)))) hgrow1 (fun e => by
                 have e2 : (some (w1.heap.size + 1) : Option Nat) = some w1.heap.size := e
                 simp at e2))
           · simp [Value.oneCell']
           · exact Ext.size (by (repeat (first | exact Ext.refl _ | apply Ext.drew | apply Ext.alloc | refine Ext.trans ?_ eO | refine Ext.trans ?_ hg1)))
           intro v2 w3 hown2 hgrow2 _
           have hg2 := Ext.grown (a := w1) (by (repeat (first | exact Ext.refl _ | apply Ext.drew | apply Ext.alloc | refine Ext.trans ?_ eO | refine Ext.trans ?_ hg1))) hgrow2 (own_ge hown1)))
  all_goals
    have HW : Hid (w3.ownsRow w1.heap.size 53 3 v2 (m + 1) (flat rs ++ [.int .i64 r.fro, .int .i64 r.too, .slice ra rn rc])) := by
      show w3.ownsRow _ _ _ _ _ _
      simpa using hown2
    have HG : Hid (Ext w1 w3) := hg2
    clear hown1 hgrow1 hg1 hown2 hgrow2 hg2 HBO x0 x1 x2 x3 x4 x5 e0 e1 e2
    go_wp2_with fail
    go_ret2
    have hst := HST.out.ext HE.out
    refine ⟨_, lv', fs ++ [⟨f.fro, f.too, dv', f.data⟩], rs ++ [r], rfl, St.push hst (HB.out _ HE.out) H1.out.1 H1.out.2.1 H1.out.2.2.1 H1.out.2.2.2 (HAV.out.ext HE.out) ?_ HOK.out.1 HOK.out.2 HG.out ?_, ?_, ?_⟩
    · unfold Fr.key
      rw [HAT.out.1, HAT.out.2.1, HAT.out.2.2]
    · rw [flat_snoc, HLEN.out]
      have e : r.cells = [.int .i64 r.fro, .int .i64 r.too, .slice ra rn rc] := by rw [Fr.cells, HRD.out]
      rw [e]
      exact HW.out
    · exact (HE.out.exc _).trans ((H1.out.2.1.mono fun k _ hq => NB.foot fs hq).trans (HG.out.exc _))
    · rw [List.length_append]; simp
end Go.Proofs.Ytdbhndieommkaaa.NetW
