/- The walk of the law's step, where Send does it. -/
import Derived.Test.YtdbhndieommkaaaNetP7
namespace Go.Proofs.Ytdbhndieommkaaa.NetW
open Go.RowKit

theorem own_flat {w : World} {v : Value} {rs : List Fr} {base : Nat} {T : TypeId} (h : w.ownsRow base T 3 v rs.length (flat rs)) (hd : ∀ r ∈ rs, r.dv.oneCell' = true) : (flat rs).length = rs.length * 3 ∧ Reads w v rs.length (flat rs) ∧ ∀ u ∈ flat rs, u.oneCell' = true := by
  refine ⟨flat_length rs, own_reads h, fun u hu => ?_⟩
  obtain ⟨r, hr, hu⟩ := List.mem_flatMap.1 hu
  simp only [Fr.cells, List.mem_cons, List.not_mem_nil, or_false] at hu
  rcases hu with e | e | e
  · subst e; rfl
  · subst e; rfl
  · subst e; exact hd r hr
theorem av_one {N : Nat → Prop} {w : World} {v : Value} {xs : List Int} (h : BytesAv N w v xs) : v.oneCell' = true := by
  obtain ⟨a, cap, rfl, _⟩ := h
  rfl

set_option maxRecDepth 100000 in
set_option maxHeartbeats 4000000 in
theorem step_send_ok {B : Nat} {w : World} {p : Nat} {limit : Int} {fs rs : List Fr} {lv v : Value} (h : St B w p limit fs rs lv v) (hmax : fs.length ≤ 1000) (hB : B ≤ w.heap.size) (i bit fro too : Int) (dv : Value) (xs : List Int) (hdv : BytesAv (fun k => B ≤ k) w dv xs) (hbd : ∀ x ∈ xs, 0 ≤ x ∧ x ≤ 255)
    (hf : repB fro = true) (ht : repB too = true) (hxl : xs.length ≤ 512) (hlim : (fs.length : Int) < limit) :
    Calls Try.prog 33 #[.pointer (some ⟨p, 0, none⟩), v, .int .i64 limit, opV 1 i bit fro too dv] w (StepPost B p limit fs lv w) := by
  have HAV : Hid (BytesAv (NB p lv fs) w dv xs) := hdv.mono fun k _ hk => h.low k hk
  have HX : Hid (BytesAt w dv xs) := hdv.at
  obtain ⟨a, c, rfl, _⟩ := hdv
  generalize hn : xs.length = n at *
  have HN : Hid (xs.length = n) := hn
  clear hn
  obtain ⟨i0, hi0, hz0, hz1, hz2⟩ := info_parts infoF
  have HV : Hid (∃ va vc, v = .slice va fs.length vc) := by
    obtain ⟨va, vc, e⟩ := row_form h.row
    rw [h.len] at e
    exact ⟨va, vc, e⟩
  have HS : Hid (St B (w.alloc (.cells #[.int .i64 1, .int .i64 i, .int .i64 bit, .int .i64 fro, .int .i64 too, .slice a n c] 59)) p limit fs rs lv v) := h.ext ((Ext.refl _).alloc _)
  have HE : Hid (Ext w (w.alloc (.cells #[.int .i64 1, .int .i64 i, .int .i64 bit, .int .i64 fro, .int .i64 too, .slice a n c] 59))) := (Ext.refl _).alloc _
  have BO : BlockIs (w.alloc (.cells #[.int .i64 1, .int .i64 i, .int .i64 bit, .int .i64 fro, .int .i64 too, .slice a n c] 59)) w.heap.size [.int .i64 1, .int .i64 i, .int .i64 bit, .int .i64 fro, .int .i64 too, .slice a n c] 59 := BlockIs.alloc w _ _
  obtain ⟨va, vc, rfl⟩ := HV.out
  clear HV
  unfold opV
  have HC : Hid (∀ W, Ext w W → Calls Try.prog 27 #[.pointer (some ⟨p, 0, none⟩), .agg #[.int .i64 fro, .int .i64 too, .slice a n c]] W (SendPost p limit fs lv fro too xs W)) := fun W e =>
    send_ok (h.net.ext e) fro too (.slice a n c) xs (HX.out.ext e) (by omega) hf ht (by rw [HN.out]; exact hxl) hlim
  -- the document's row, in any world behind
  have HR : Hid (∀ W, Ext w W → (flat rs).length = fs.length * 3 ∧ Reads W (.slice va fs.length vc) fs.length (flat rs) ∧ ∀ u ∈ flat rs, u.oneCell' = true) := fun W e => by
    have := own_flat (own_ext h.row e) (fun r hr => av_one (h.data r hr))
    rw [h.len] at this
    exact this
  have q : 0 ≤ fro ∧ fro ≤ 6 ∧ 0 ≤ too ∧ too ≤ 6 := by
    simp only [repB, Bool.and_eq_true, decide_eq_true_eq] at hf ht
    omega
  obtain ⟨q1, q2, q3, q4⟩ := q
  have HOK : Hid (Fr.ok ⟨fro, too, .slice none 0 0, xs⟩) := ⟨hf, ht, by rw [HN.out]; exact hxl⟩
  have HB : Hid (∀ X, Ext w X → B ≤ X.heap.size) := fun X e => Nat.le_trans hB e.size
  clear hf ht hB
  have HLEN : Hid (rs.length = fs.length) := h.len
  have HST : Hid (St B w p limit fs rs lv (.slice va fs.length vc)) := h
  clear h
  generalize hmm : fs.length = m at HC HS HR HLEN hmax hlim HST ⊢
  have HM : Hid (fs.length = m) := hmm
  clear hmm
  go_enter Try.func33, Try.ntmps33
  go_upto_region 1 with (fail)
  generalize World.alloc w _ = W at *
  generalize w.heap.size = b at *
  obtain ⟨x0, x1, x2, x3, x4, x5⟩ := block_six BO
  clear BO
  by_cases hi : 0 ≤ i
  all_goals
    go_upto_region 5 with (fail)
    have BF : BlockIs (W.alloc (.cells #[.int .i64 fro, .int .i64 too, .slice a n c] 41)) W.heap.size [.int .i64 fro, .int .i64 too, .slice a n c] 41 := BlockIs.alloc W _ _
    have HE2 : Hid (Ext W (W.alloc (.cells #[.int .i64 fro, .int .i64 too, .slice a n c] 41))) := (Ext.refl _).alloc _
    have hBW : w.heap.size ≤ W.heap.size := HE.out.size
    clear x0 x1 x2 x3 x4 x5
    generalize World.alloc W _ = U at *
    generalize hbf : W.heap.size = bf at *
    obtain ⟨y0, y1, y2, _, _, _, _⟩ := BF.three
    go_wp2_with fail
    refine (HC.out _ (HE.out.trans HE2.out)).mono ?_
    rintro e w1 hp
    obtain ⟨lv', dv', rfl, n1, x1, l1, f1⟩ := hp
    have hbn : ¬ Foot p lv bf := fun hq => by
      have hw := NB.lt HST.out.net bf (NB.foot fs hq)
      omega
    clear y0 y1 y2
    have HBF : BlockIs w1 bf [.int .i64 fro, .int .i64 too, .slice a n c] 41 := BF.exc x1 hbn
    obtain ⟨y0, y1, y2, _, _, _, _⟩ := HBF.three
    clear BF hbn
    have H1 : Hid (NetIs w1 p limit (fs ++ [⟨fro, too, dv', xs⟩]) lv' ∧ Exc (Foot p lv) U w1 ∧ (∀ g, lv'.ownBlock = some g → lv.ownBlock = some g ∨ U.heap.size ≤ g) ∧ ∀ g, dv'.ownBlock = some g → U.heap.size ≤ g) := ⟨n1, x1, l1, f1⟩
    clear n1 x1 l1 f1
    go_upto_region 7 with (fail)
    -- the document's old row, in w1
    have HR1 : Hid (∀ X, Ext w1 X → (flat rs).length = m * 3 ∧ Reads X (.slice va m vc) m (flat rs) ∧ ∀ u ∈ flat rs, u.oneCell' = true) := fun X e => by
      have hst := HST.out.ext (HE.out.trans HE2.out)
      have hrow := ownsRow_same hst.row fun g hg => H1.out.2.1.block g (ownsRow_lt hst.row hg) fun hq => hst.rowN g hg (NB.foot fs hq)
      have := own_flat (own_ext hrow e) (fun r hr => av_one (hst.data r hr))
      rw [HLEN.out] at this
      exact this
    have sX : Hid (∀ X, Ext w1 X → ((X.cell? ⟨bf, 0, none⟩ = some (.int .i64 fro) ∧ X.cell? ⟨bf, 1, none⟩ = some (.int .i64 too) ∧ X.cell? ⟨bf, 2, none⟩ = some (.slice a n c)) ∧ Hid (Ext w1 X))) := fun X e => ⟨⟨e.cell_of y0, e.cell_of y1, e.cell_of y2⟩, e⟩
    have sE : Hid (∀ X, ((X.cell? ⟨bf, 0, none⟩ = some (.int .i64 fro) ∧ X.cell? ⟨bf, 1, none⟩ = some (.int .i64 too) ∧ X.cell? ⟨bf, 2, none⟩ = some (.slice a n c)) ∧ Hid (Ext w1 X)) → Ext w1 X) := fun X s => s.2.out
    go_region_held3 (fun w' => ((w'.cell? ⟨bf, 0, none⟩ = some (.int .i64 fro) ∧ w'.cell? ⟨bf, 1, none⟩ = some (.int .i64 too) ∧ w'.cell? ⟨bf, 2, none⟩ = some (.slice a n c)) ∧ Hid (Ext w1 w')))
      (exact sX.out _ (by (repeat (first | exact Ext.refl _ | exact hg2 | apply Ext.drew | apply Ext.alloc | refine Ext.trans ?_ eO | refine Ext.trans ?_ hg1))))
      (first
        | (go_at_call 32; refine (of_any _ _ _ n _ ⟨_, _, rfl⟩).mono ?_; rintro e w' ⟨rfl, eO⟩)
        | (refine step_append_all _ (by rfl) _ _ 57 (by rfl) w1.heap.size 53 i0 _ 3 40 Try.underlying57 hi0 hz0 hz1 hz2 rfl (by omega) _ 0 [] (by rfl) ?_ (.slice va m vc) m (flat rs) (by rfl) (HR1.out _ (Ext.refl _)).1 ?_ (HR1.out _ (Ext.refl _)).2.2 (by unfold maxLen; omega) (by omega) ?_ ?_
           · exact own_ext (own_base (own_new0 _ _ _) (Ext.size (by (repeat (first | exact Ext.refl _ | apply Ext.drew | apply Ext.alloc | refine Ext.trans ?_ eO | refine Ext.trans ?_ hg1))))) (by (repeat (first | exact Ext.refl _ | apply Ext.drew | apply Ext.alloc | refine Ext.trans ?_ eO | refine Ext.trans ?_ hg1)))
           · exact (HR1.out _ (by (repeat (first | exact Ext.refl _ | apply Ext.drew | apply Ext.alloc | refine Ext.trans ?_ eO | refine Ext.trans ?_ hg1)))).2.1
           · exact Ext.size (by (repeat (first | exact Ext.refl _ | apply Ext.drew | apply Ext.alloc | refine Ext.trans ?_ eO | refine Ext.trans ?_ hg1)))
           intro v1 w2 hown1 hgrow1 _
           have hg1 := Ext.grown (a := w1) (by (repeat (first | exact Ext.refl _ | apply Ext.drew | apply Ext.alloc | refine Ext.trans ?_ eO | refine Ext.trans ?_ hg1))) hgrow1 (fun k hk => by cases hk; exact Ext.size (by (repeat (first | exact Ext.refl _ | apply Ext.drew | apply Ext.alloc | refine Ext.trans ?_ eO | refine Ext.trans ?_ hg1)))))
        | (refine step_append_all _ (by rfl) _ _ 57 (by rfl) w1.heap.size 53 i0 _ 3 40 Try.underlying57 hi0 hz0 hz1 hz2 rfl (by omega) v1 m (flat rs) (by rfl) ?_ _ 1 [.int .i64 fro, .int .i64 too, .slice a n c] (by rfl) rfl ?_ ?_ (by unfold maxLen; omega) (by omega) ?_ ?_
           · exact own_ext (by simpa using hown1) (by (repeat (first | exact Ext.refl _ | apply Ext.drew | apply Ext.alloc | refine Ext.trans ?_ eO | refine Ext.trans ?_ hg1)))
           · exact Reads.ext (Reads.new _ [.int .i64 fro, .int .i64 too, .slice a n c] _ 1 1) (by (repeat (first | exact Ext.refl _ | apply Ext.drew | apply Ext.alloc | refine Ext.trans ?_ eO | refine Ext.trans ?_ hg1)))
           · simp [Value.oneCell']
           · exact Ext.size (by (repeat (first | exact Ext.refl _ | apply Ext.drew | apply Ext.alloc | refine Ext.trans ?_ eO | refine Ext.trans ?_ hg1)))
           intro v2 w3 hown2 hgrow2 _
           have hg2 := Ext.grown (a := w1) (by (repeat (first | exact Ext.refl _ | apply Ext.drew | apply Ext.alloc | refine Ext.trans ?_ eO | refine Ext.trans ?_ hg1))) hgrow2 (own_ge hown1)))
    clear HR1 sX sE
    have HW : Hid (w3.ownsRow w1.heap.size 53 3 v2 (m + 1) (flat rs ++ [.int .i64 fro, .int .i64 too, .slice a n c])) := by
      show w3.ownsRow _ _ _ _ _ _
      simpa using hown2
    have HG : Hid (Ext w1 w3) := hg2
    clear hown1 hgrow1 hg1 hown2 hgrow2 hg2 HBF y0 y1 y2
    go_wp2_with fail
    go_ret2
    have hst := HST.out.ext (HE.out.trans HE2.out)
    have hsz := (HE.out.trans HE2.out).size
    refine ⟨_, lv', fs ++ [⟨fro, too, dv', xs⟩], rs ++ [⟨fro, too, .slice a n c, xs⟩], rfl, St.push hst (HB.out _ (HE.out.trans HE2.out)) H1.out.1 H1.out.2.1 H1.out.2.2.1 H1.out.2.2.2 (HAV.out.ext (HE.out.trans HE2.out)) rfl ?_ hbd HG.out ?_, ?_, ?_⟩
    · exact HOK.out
    · rw [flat_snoc, HLEN.out]
      exact HW.out
    · exact ((HE.out.trans HE2.out).exc _).trans ((H1.out.2.1.mono fun k _ hq => NB.foot fs hq).trans (HG.out.exc _))
    · rw [List.length_append]; simp
end Go.Proofs.Ytdbhndieommkaaa.NetW
