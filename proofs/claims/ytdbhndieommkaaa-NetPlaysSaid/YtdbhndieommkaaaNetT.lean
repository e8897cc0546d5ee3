/- The walk of Send where it takes the frame. -/
import Derived.Test.YtdbhndieommkaaaNetS
namespace Go.Proofs.Ytdbhndieommkaaa.NetW
open Go.RowKit

theorem infoFrame : (Try.prog.info? 41).map (fun i => (i.zero, i.size, i.bytes)) = some (some (.agg #[.int .i64 0, .int .i64 0, .slice none 0 0]), 3, 40) := by kernel_rfl

theorem cellA {w : World} (a : Addr) (v : Value) (o : Obj) (h : w.cell? a = some v) : (w.alloc o).cell? a = some v := by
  have e := spot_none h
  rw [e] at h ⊢
  exact ((Ext.refl w).alloc o).cell_of h
theorem frozA {w : World} (a : Addr) (b : Bool) (o : Obj) (hb : a.block < w.heap.size) (h : w.frozen? a = b) : (w.alloc o).frozen? a = b := by
  rw [((Ext.refl w).alloc o).frozen hb]; exact h
/-- what Send leaves -/
def SendPost (p : Nat) (limit : Int) (fs : List Fr) (lv : Value) (fro too : Int) (xs : List Int) (w : World) (e : Ending) (w' : World) : Prop :=
  ∃ lv' dv, e = .returned (.int .i64 0) ∧ NetIs w' p limit (fs ++ [⟨fro, too, dv, xs⟩]) lv' ∧ Exc (Foot p lv) w w' ∧ (∀ g, lv'.ownBlock = some g → lv.ownBlock = some g ∨ w.heap.size ≤ g) ∧ (∀ g, dv.ownBlock = some g → w.heap.size ≤ g)

/-- what stands behind the append and the store -/
theorem send_close {w V w1 w2 : World} {p : Nat} {limit : Int} {fs : List Fr} {lv dv : Value} {fro too : Int} {xs : List Int} {gg gcap : Nat} {o : Obj} (hw : Ext w V) (hN : NetIs V p limit fs lv) (hpw : p < w.heap.size) (he : Ext V w1) (hb : Bytes w1 dv xs)
    (hfr : ∀ g, dv.ownBlock = some g → V.heap.size ≤ g) (hown : w2.ownsRow 0 41 3 (.slice (some ⟨gg, 0, none⟩) (fs.length + 1) gcap) (fs.length + 1) (flat fs ++ [.int .i64 fro, .int .i64 too, dv]))
    (hgrow : (w1.alloc o).grownBy w2 lv.ownBlock) (hat : lv.ownBlock = some gg ∨ gg = w1.heap.size + 1) :
    NetIs (w2.setCell ⟨p, 1, none⟩ (.slice (some ⟨gg, 0, none⟩) (fs.length + 1) gcap)) p limit (fs ++ [⟨fro, too, dv, xs⟩]) (.slice (some ⟨gg, 0, none⟩) (fs.length + 1) gcap) ∧
    Exc (Foot p lv) w (w2.setCell ⟨p, 1, none⟩ (.slice (some ⟨gg, 0, none⟩) (fs.length + 1) gcap)) ∧ (∀ g, (Value.slice (some ⟨gg, 0, none⟩) (fs.length + 1) gcap).ownBlock = some g → lv.ownBlock = some g ∨ w.heap.size ≤ g) := by
  have s1 := hw.size
  have s2 := he.size
  have hpV := hN.head.lt
  have sA : (w1.alloc o).heap.size = w1.heap.size + 1 := by simp
  have hlV : ∀ g, lv.ownBlock = some g → g < V.heap.size := fun g hg => ownsRow_lt hN.row hg
  -- what is below w1's end and not lv's row is in w2 as it was in w1
  have keep : ∀ k, k < w1.heap.size → lv.ownBlock ≠ some k → w2.heap[k]? = w1.heap[k]? := fun k hk hne => by
    rw [hgrow.block k (by omega) (fun h => hne h.symm), Below.heap_alloc _ _ _ hk]
  have hgp : gg ≠ p := by
    rcases hat with h | h
    · intro e; subst e; exact hN.lp h
    · omega
  have keep2 : ∀ k, k ≠ p → (w2.setCell ⟨p, 1, none⟩ (.slice (some ⟨gg, 0, none⟩) (fs.length + 1) gcap)).heap[k]? = w2.heap[k]? := fun k hk => Below.heap_setCell _ _ _ _ hk
  have hdw1 : ∀ g, dv.ownBlock = some g → g < w1.heap.size := fun g hg => hb.lt hg
  have hdg : ∀ g, dv.ownBlock = some g → g ≠ gg := fun g hg e => by
    subst e
    rcases hat with h | h
    · have := hlV _ h; have := hfr _ hg; omega
    · have := hdw1 _ hg; omega
  refine ⟨⟨?_, ?_, ?_, ?_, ?_, ?_, ?_⟩, ?_, ?_⟩
  · have h1 : BlockIs w2 p [.int .i64 limit, lv] 85 := (hN.head.ext he).same (keep p (by omega) hN.lp)
    exact h1.set 1 _
  · rw [List.length_append, flat_snoc]
    refine ownsRow_same hown fun g hg => keep2 g ?_
    simp [Value.ownBlock] at hg
    omega
  · intro f hf
    rcases List.mem_append.1 hf with hf | hf
    · have h1 := (hN.data f hf).ext he
      refine h1.same fun g hg => ?_
      rw [keep2 g (fun e => hN.dp f hf (by rw [← e]; exact hg)), keep g (h1.lt hg) (hN.dl f hf g hg)]
    · simp at hf
      subst hf
      refine hb.same fun g hg => ?_
      have h1 := hfr g hg
      have h2 := hdw1 g hg
      rw [keep2 g (by omega), keep g h2 (fun e => by have := hlV _ e; omega)]
  · simp [Value.ownBlock]; exact hgp
  · intro f hf
    rcases List.mem_append.1 hf with hf | hf
    · exact hN.dp f hf
    · simp at hf
      subst hf
      intro e
      have := hfr p e
      omega
  · intro f hf g hg e
    simp [Value.ownBlock] at e
    subst e
    rcases List.mem_append.1 hf with hf | hf
    · rcases hat with h | h
      · exact hN.dl f hf _ hg h
      · have := ((hN.data f hf).ext he).lt hg; omega
    · simp at hf
      subst hf
      exact hdg _ hg rfl
  · rw [List.pairwise_append]
    refine ⟨hN.dd, List.pairwise_singleton _ _, fun f hf b hb' g hg e => ?_⟩
    simp at hb'
    subst hb'
    have := (hN.data f hf).lt hg
    have := hfr g e
    omega
  · have h0 : Exc (Foot p lv) w (w1.alloc o) := (((hw.trans he).alloc o).exc _)
    have h1 : Exc (Foot p lv) (w1.alloc o) w2 := ⟨hgrow.os, hgrow.tape, hgrow.output, hgrow.size, fun k hk hn => hgrow.block k hk (fun e => hn (.inr e.symm))⟩
    exact (h0.trans h1).setCell (.inl (.inl rfl)) _
  · intro g hg
    simp [Value.ownBlock] at hg
    subst hg
    rcases hat with h | h
    · exact .inl h
    · right; omega

set_option maxRecDepth 100000 in
set_option maxHeartbeats 1000000 in
theorem send_ok {w : World} {p : Nat} {limit : Int} {fs : List Fr} {lv : Value} (h : NetIs w p limit fs lv) (fro too : Int) (v : Value) (xs : List Int) (hv : BytesAt w v xs) (hn : fs.length ≤ 1000000)
    (hf : repB fro = true) (ht : repB too = true) (hl : xs.length ≤ 512) (hlim : (fs.length : Int) < limit) :
    Calls Try.prog 27 #[.pointer (some ⟨p, 0, none⟩), .agg #[.int .i64 fro, .int .i64 too, v]] w (SendPost p limit fs lv fro too xs w) := by
  have HV : Hid (BytesAt w v xs) := hv
  obtain ⟨a, cap, rfl, _⟩ := hv
  have HL : Hid (∃ la lcap, lv = .slice la fs.length lcap) := row_form h.row
  have hpw : p < w.heap.size := h.head.lt
  have BP : BlockIs (w.alloc (.cells #[.int .i64 fro, .int .i64 too, .slice a xs.length cap] 41)) p [.int .i64 limit, lv] 85 := h.head.ext ((Ext.refl _).alloc _)
  have B1 : BlockIs (w.alloc (.cells #[.int .i64 fro, .int .i64 too, .slice a xs.length cap] 41)) w.heap.size [.int .i64 fro, .int .i64 too, .slice a xs.length cap] 41 := BlockIs.alloc w _ _
  have HE : Hid (Ext w (w.alloc (.cells #[.int .i64 fro, .int .i64 too, .slice a xs.length cap] 41))) := (Ext.refl _).alloc _
  have HW : Hid (NetIs w p limit fs lv) := h
  obtain ⟨la, lcap, rfl⟩ := HL.out
  obtain ⟨p0, p1, q0, q1, lp⟩ := BP.two
  obtain ⟨x0, x1, x2, f0, f1, f2, l1⟩ := B1.three
  clear h HL
  go_enter Try.func27, Try.ntmps27
  go_upto_region 1 with (fail)
  generalize World.alloc w _ = W at *
  generalize hB : w.heap.size = B at *
  have HB : Hid (BlockIs W p [.int .i64 limit, .slice la fs.length lcap] 85) := BP
  have HX : Hid (BlockIs W B [.int .i64 fro, .int .i64 too, .slice a xs.length cap] 41) := B1
  clear BP B1
  go_wp2_with fail
  refine (replica_any _ _).mono ?_
  rw [hf]
  rintro e _ ⟨rfl, rfl⟩
  go_wp2_with fail
  refine (replica_any _ _).mono ?_
  rw [ht]
  rintro e _ ⟨rfl, rfl⟩
  go_wp2_with fail
  go_quiet (fail)
  go_upto_region 7 with (fail)
  have HV2 : Hid (BytesAt (W.drewN nq).drew (.slice a xs.length cap) xs) := HV.out.ext ((HE.out.drewN nq).drew)
  have HE2 : Hid (Ext w (W.drewN nq).drew) := (HE.out.drewN nq).drew
  have HR2 : Hid (NetIs (W.drewN nq).drew p limit fs (.slice la fs.length lcap)) := HW.out.ext HE2.out
  have hBV : B < (W.drewN nq).heap.size := HX.out.lt
  clear p0 p1 q0 q1 x0 x1 x2 f0 f1 f2 lp l1
  have BV : BlockIs (W.drewN nq) p [.int .i64 limit, .slice la fs.length lcap] 85 := HB.out
  have XV : BlockIs (W.drewN nq) B [.int .i64 fro, .int .i64 too, .slice a xs.length cap] 41 := HX.out
  obtain ⟨p0, p1, q0, q1, lp⟩ := BV.two
  obtain ⟨x0, x1, x2, f0, f1, f2, l1⟩ := XV.three
  clear BV XV HB HX HE HV
  generalize World.drewN W nq = V at *
  obtain ⟨i0, hi, hz0, hz1, hz2⟩ := info_parts infoFrame
  go_region_law (first
    | (refine step_append_lies _ (by rfl) _ _ _ (by rfl) 0 41 i0 _ 3 40 Try.underlying48 hi hz0 hz1 hz2 rfl (by omega) (.slice la fs.length lcap) fs.length (flat fs) (by rfl) (hrow.alloc _)
        ⟨w1.heap.size, 0, none⟩ 1 1 [.int .i64 fro, .int .i64 too, .slice da xs.length dcap] (by rfl) (by rfl) (World.news_of_block (cs := #[.int .i64 fro, .int .i64 too, .slice da xs.length dcap]) (t := 41) (fr := (0, 0)) (heap_alloc_new w1 _)) (by simp [Value.oneCell'])
        (by omega) (by unfold maxLen; omega) (by omega) (by simp) (w1.heap.size + 1) (by simp) ?_; intro gg gcap w2 hown2 hgrow hat hlt; have p2 := (hgrow.cell_far (a := ⟨p, 1, none⟩) (by simp; omega) (fun h => HR2.out.lp h.symm)).trans ((cellA _ _ _ p1w)); have q2 := (hgrow.frozen_far (a := ⟨p, 1, none⟩) (by simp; omega) (fun h => HR2.out.lp h.symm)).trans (frozA _ _ _ pw1 q1w))
    | (go_simp; go_at_call 49; refine (copied_any fro too _ xs _ HV2.out (by omega)).mono ?_; rintro e w1 ⟨dv, rfl, hb, hfr, he⟩; obtain ⟨da, dcap, rfl⟩ := row_form hb; have p1w : w1.cell? ⟨p, 1, none⟩ = some (.slice la fs.length lcap) := he.cell_of p1; have pw1 : p < w1.heap.size := Nat.lt_of_lt_of_le lp he.size; have q1w : w1.frozen? ⟨p, 1, none⟩ = false := (he.frozen (p := ⟨p, 1, none⟩) lp).trans q1; have hrow := ownsRow_same (HR2.out.ext he).row (fun g _ => rfl)))
  all_goals
    go_wp2_with fail
    go_ret
    obtain ⟨c1, c2, c3⟩ := send_close HE2.out HR2.out (by omega) he hb hfr hown2 hgrow hat
    exact ⟨_, _, rfl, c1, c2, c3, fun g hg => Nat.le_trans HE2.out.size (hfr g hg)⟩
end Go.Proofs.Ytdbhndieommkaaa.NetW
