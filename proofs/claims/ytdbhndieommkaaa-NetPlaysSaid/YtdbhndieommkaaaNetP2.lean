/- The walk of Spoil where it takes a frame. -/
import Derived.Test.YtdbhndieommkaaaNetP1
namespace Go.Proofs.Ytdbhndieommkaaa.NetW
open Go.RowKit

theorem bytes_set {w : World} {g n cap : Nat} {xs : List Int} (h : Bytes w (.slice (some ⟨g, 0, none⟩) n cap) xs) (hn : xs.length = n) (j : Nat) (y : Int) : Bytes (w.setCell ⟨g, j, none⟩ (.int .u8 y)) (.slice (some ⟨g, 0, none⟩) n cap) (xs.set j y) := by
  subst hn
  obtain ⟨c, hB, hcl, hnc, hcm, ht, hl⟩ := own_block h
  have := own_of (size := 1) (n := xs.length) (cap := cap) (hB.set j (.int .u8 y)) (by simpa using hcl) hnc hcm
  unfold Bytes
  rw [List.length_set]
  have e : (c.set j (.int .u8 y)).take (xs.length * 1) = (xs.set j y).map (Value.int .u8) := by
    rw [List.take_set, ht, List.map_set]
  rw [e] at this
  exact this

def SpoilPost (p : Nat) (limit : Int) (fs : List Fr) (lv : Value) (i : Nat) (bit : Int) (f : Fr) (w : World) (e : Ending) (w' : World) : Prop :=
  ∃ lv', e = .returned (.tuple #[.agg #[.int .i64 f.fro, .int .i64 f.too, f.dv], .int .i64 0]) ∧ NetIs w' p limit (fs.eraseIdx i) lv' ∧ Exc (fun k => Foot p lv k ∨ f.dv.ownBlock = some k) w w' ∧ lv'.ownBlock = lv.ownBlock ∧ Bytes w' f.dv (turned f.data bit)

set_option maxRecDepth 100000 in
theorem spoil_in {w : World} {p : Nat} {limit : Int} {fs : List Fr} {lv : Value} (h : NetIs w p limit fs lv) (i : Nat) (hi : i < fs.length) (hmax : fs.length ≤ 1000000) (hdl : fs[i].data.length ≤ 1000000) (bit : Int) (h0 : 0 ≤ bit) (h1 : bit / 8 < (fs[i].data.length : Int)) :
    Calls Try.prog 53 #[.pointer (some ⟨p, 0, none⟩), .int .i64 i, .int .i64 bit] w (SpoilPost p limit fs lv i bit fs[i] w) := by
  have hN := h.ext ((Ext.refl w).alloc (.cells #[.int .i64 0, .int .i64 0, .slice none 0 0] 41))
  have ht := take_ok hN i hi hmax
  have HN : Hid (NetIs w p limit fs lv) := h
  have HNA : Hid (NetIs (w.alloc (.cells #[.int .i64 0, .int .i64 0, .slice none 0 0] 41)) p limit fs lv) := hN
  have HTK : Hid (∀ w', Exc (Foot p lv) (w.alloc (.cells #[.int .i64 0, .int .i64 0, .slice none 0 0] 41)) w' → _) := fun w' hx => taken hN i hi hx
  have hdw : ∀ g, fs[i].dv.ownBlock = some g → g < w.heap.size := fun g hg => (h.data _ (List.getElem_mem hi)).lt hg
  have hpw := h.head.lt
  have hlw : ∀ g, lv.ownBlock = some g → g < w.heap.size := fun g hg => ownsRow_lt h.row hg
  have HLW : Hid ((∀ g, lv.ownBlock = some g → g < w.heap.size) ∧ ∀ g, fs[i].dv.ownBlock = some g → g < w.heap.size) := ⟨hlw, hdw⟩
  clear h hN hdw hlw
  generalize fs[i] = f at *
  generalize hn : f.data.length = n at *
  have HNL : Hid (f.data.length = n) := hn
  clear hn
  go_enter Try.func53, Try.ntmps53
  go_wp2_with fail
  refine ht.mono ?_
  rintro e w1 hp
  obtain ⟨lv', rfl, n1, x1, l1⟩ := hp
  obtain ⟨hb, hdp, hdl2, hde⟩ := HTK.out w1 x1
  obtain ⟨g, cap, hdv, hgl, hgc, hgf⟩ := bytes_open hb (by rw [HNL.out]; omega)
  rw [HNL.out] at hdv
  rw [hdv]
  have B1 : BlockIs w1 w.heap.size [.int .i64 0, .int .i64 0, .slice none 0 0] 41 := (BlockIs.alloc w _ _).exc x1 (by
    rintro (e | e)
    · omega
    · have := HLW.out.1 _ e; omega)
  have e2 : Ext w1 (w1.alloc (.cells #[.int .i64 f.fro, .int .i64 f.too, .slice (some ⟨g, 0, none⟩) n cap] 41)) := (Ext.refl _).alloc _
  have B2 : BlockIs (w1.alloc (.cells #[.int .i64 f.fro, .int .i64 f.too, .slice (some ⟨g, 0, none⟩) n cap] 41)) w.heap.size [.int .i64 0, .int .i64 0, .slice none 0 0] 41 := B1.ext e2
  have C2 : BlockIs (w1.alloc (.cells #[.int .i64 f.fro, .int .i64 f.too, .slice (some ⟨g, 0, none⟩) n cap] 41)) w1.heap.size [.int .i64 f.fro, .int .i64 f.too, .slice (some ⟨g, 0, none⟩) n cap] 41 := BlockIs.alloc _ _ _
  have hcell := fun j hj => e2.cell_of (hgc j hj)
  have hfree := (e2.frozen (p := ⟨g, (bit / 8).toNat, none⟩) hgl).trans (hgf (bit / 8).toNat)
  have hCB : w.heap.size < w1.heap.size := B1.lt
  go_upto_region 2 with (fail)
  generalize World.alloc w1 _ = W at *
  generalize w1.heap.size = C at *
  obtain ⟨b0, b1, b2, f0, f1, f2, _⟩ := B2.three
  obtain ⟨c0, c1, c2, _, _, _, _⟩ := C2.three
  have hk := hcell (bit / 8).toNat (by rw [HNL.out]; omega)
  have h8 : 0 ≤ bit / 8 := by omega
  clear hcell
  go_upto_region 5 with (fail)
  generalize hU : World.setCell W _ _ = U
  have xU : Exc (fun k => k = g) W U := by rw [← hU]; exact Exc.setB (fun k => k = g) rfl (Exc.refl _ _) _ _
  have bU : Bytes U (.slice (some ⟨g, 0, none⟩) n cap) (turned f.data bit) := by
    rw [← hU]
    have := bytes_set (j := (bit / 8).toNat) (y := turnI (f.data.getD (bit / 8).toNat 0) bit) (by have := hb.ext e2; rw [hdv] at this; exact this) HNL.out
    unfold turned
    rw [if_pos ⟨h0, by rw [HNL.out]; exact h1⟩]
    exact this
  have nU : NetIs U p limit (fs.eraseIdx i) lv' := (n1.ext e2).exc xU (fun e => hdp (by rw [hdv, e]; rfl)) (fun q hq e => hdl2 q (by rw [hdv, e]; rfl) (by rw [← l1]; exact hq)) (fun f' hf' q hq e => hde f' hf' g (by rw [hdv]; rfl) (by rw [← e]; exact hq))
  clear hU
  have hgw : g < w.heap.size := HLW.out.2 g (by rw [hdv]; rfl)
  have b0' := (xU.cell (p := ⟨w.heap.size, 0, none⟩) B2.lt (by simp; omega)).trans b0
  have b1' := (xU.cell (p := ⟨w.heap.size, 1, none⟩) B2.lt (by simp; omega)).trans b1
  have b2' := (xU.cell (p := ⟨w.heap.size, 2, none⟩) B2.lt (by simp; omega)).trans b2
  have f0' := (B2.exc xU (by omega)).free 0
  have f1' := (B2.exc xU (by omega)).free 1
  have f2' := (B2.exc xU (by omega)).free 2
  have c0' := (xU.cell (p := ⟨C, 0, none⟩) C2.lt (by simp; omega)).trans c0
  have c1' := (xU.cell (p := ⟨C, 1, none⟩) C2.lt (by simp; omega)).trans c1
  have c2' := (xU.cell (p := ⟨C, 2, none⟩) C2.lt (by simp; omega)).trans c2
  have X : Hid (Exc (fun k => Foot p lv k ∨ f.dv.ownBlock = some k) w U) :=
    (((((Ext.refl w).alloc _).exc _).trans (x1.mono fun k _ h => .inl h)).trans (e2.exc _)).trans (xU.mono fun k _ e => .inr (by rw [hdv, e]; rfl))
  have HB : Hid (Bytes U (.slice (some ⟨g, 0, none⟩) n cap) (turned f.data bit)) := bU
  have HNU : Hid (NetIs U p limit (fs.eraseIdx i) lv') := nU
  have HE : Hid ((∀ g, lv'.ownBlock = some g → g < w.heap.size) ∧ ∀ f' ∈ fs.eraseIdx i, ∀ g, f'.dv.ownBlock = some g → g < w.heap.size) := ⟨fun q hq => HLW.out.1 q (by rw [← l1]; exact hq), fun f' hf' q hq => (HN.out.data f' (List.mem_of_mem_eraseIdx hf')).lt hq⟩
  have HDV : Hid (f.dv = .slice (some ⟨g, 0, none⟩) n cap) := hdv
  clear b0 b1 b2 f0 f1 f2 c0 c1 c2 hk hfree xU bU nU B1 B2 C2 e2 x1 n1 hb hdp hdl2 hde hgc hgf ht HTK HNA HLW hdv
  go_wp2_with fail
  refine bodyPost_ret (v := .tuple #[.agg #[.int .i64 f.fro, .int .i64 f.too, .slice (some ⟨g, 0, none⟩) n cap], .int .i64 0]) (by simp [results, Try.results53, go_sem, b0', b1', b2']) rfl ⟨lv', by rw [HDV.out], ?_, ?_, l1, ?_⟩
  · have hxx : Exc (fun k => k = w.heap.size) U (((U.setCell ⟨w.heap.size, 0, none⟩ (.int .i64 f.fro)).setCell ⟨w.heap.size, 1, none⟩ (.int .i64 f.too)).setCell ⟨w.heap.size, 2, none⟩ (.slice (some ⟨g, 0, none⟩) n cap)) :=
      Exc.setB (fun k => k = w.heap.size) rfl (Exc.setB (fun k => k = w.heap.size) rfl (Exc.setB (fun k => k = w.heap.size) rfl (Exc.refl _ U) 0 _) 1 _) 2 _
    exact HNU.out.exc hxx (by omega) (fun q hq => by have := HE.out.1 q hq; omega) (fun f' hf' q hq => by have := HE.out.2 f' hf' q hq; omega)
  · exact ((X.out.setCell (.inr (by simp)) _).setCell (.inr (by simp)) _).setCell (.inr (by simp)) _
  · rw [HDV.out]
    refine HB.out.same fun q hq => ?_
    simp [Value.ownBlock] at hq
    rw [Below.heap_setCell _ _ _ _ (by simp; omega), Below.heap_setCell _ _ _ _ (by simp; omega), Below.heap_setCell _ _ _ _ (by simp; omega)]
set_option maxRecDepth 100000 in
theorem spoil_out {w : World} {p : Nat} {limit : Int} {fs : List Fr} {lv : Value} (h : NetIs w p limit fs lv) (i : Nat) (hi : i < fs.length) (hmax : fs.length ≤ 1000000) (hdl : fs[i].data.length ≤ 1000000) (bit : Int) (hb' : bit < 0 ∨ (fs[i].data.length : Int) ≤ bit / 8) :
    Calls Try.prog 53 #[.pointer (some ⟨p, 0, none⟩), .int .i64 i, .int .i64 bit] w (SpoilPost p limit fs lv i bit fs[i] w) := by
  have hN := h.ext ((Ext.refl w).alloc (.cells #[.int .i64 0, .int .i64 0, .slice none 0 0] 41))
  have ht := take_ok hN i hi hmax
  have HN : Hid (NetIs w p limit fs lv) := h
  have HNA : Hid (NetIs (w.alloc (.cells #[.int .i64 0, .int .i64 0, .slice none 0 0] 41)) p limit fs lv) := hN
  have HTK : Hid (∀ w', Exc (Foot p lv) (w.alloc (.cells #[.int .i64 0, .int .i64 0, .slice none 0 0] 41)) w' → _) := fun w' hx => taken hN i hi hx
  have hdw : ∀ g, fs[i].dv.ownBlock = some g → g < w.heap.size := fun g hg => (h.data _ (List.getElem_mem hi)).lt hg
  have hpw := h.head.lt
  have hlw : ∀ g, lv.ownBlock = some g → g < w.heap.size := fun g hg => ownsRow_lt h.row hg
  have HLW : Hid ((∀ g, lv.ownBlock = some g → g < w.heap.size) ∧ ∀ g, fs[i].dv.ownBlock = some g → g < w.heap.size) := ⟨hlw, hdw⟩
  clear h hN hdw hlw
  generalize fs[i] = f at *
  generalize hn : f.data.length = n at *
  have HNL : Hid (f.data.length = n) := hn
  clear hn
  go_enter Try.func53, Try.ntmps53
  go_wp2_with fail
  refine ht.mono ?_
  rintro e w1 hp
  obtain ⟨lv', rfl, n1, x1, l1⟩ := hp
  obtain ⟨hb, hdp, hdl2, hde⟩ := HTK.out w1 x1
  obtain ⟨da, cap, hdv⟩ := row_form hb
  rw [HNL.out] at hdv
  rw [hdv]
  have B1 : BlockIs w1 w.heap.size [.int .i64 0, .int .i64 0, .slice none 0 0] 41 := (BlockIs.alloc w _ _).exc x1 (by
    rintro (e | e)
    · omega
    · have := HLW.out.1 _ e; omega)
  have e2 : Ext w1 (w1.alloc (.cells #[.int .i64 f.fro, .int .i64 f.too, .slice da n cap] 41)) := (Ext.refl _).alloc _
  have B2 : BlockIs (w1.alloc (.cells #[.int .i64 f.fro, .int .i64 f.too, .slice da n cap] 41)) w.heap.size [.int .i64 0, .int .i64 0, .slice none 0 0] 41 := B1.ext e2
  have C2 : BlockIs (w1.alloc (.cells #[.int .i64 f.fro, .int .i64 f.too, .slice da n cap] 41)) w1.heap.size [.int .i64 f.fro, .int .i64 f.too, .slice da n cap] 41 := BlockIs.alloc _ _ _
  have hCB : w.heap.size < w1.heap.size := B1.lt
  go_upto_region 2 with (fail)
  generalize World.alloc w1 _ = W at *
  generalize w1.heap.size = C at *
  obtain ⟨b0, b1, b2, f0, f1, f2, _⟩ := B2.three
  obtain ⟨c0, c1, c2, _, _, _, _⟩ := C2.three
  have bU : Bytes W (.slice da n cap) (turned f.data bit) := by
    have := hb.ext e2
    rw [hdv] at this
    unfold turned
    rw [if_neg (by rw [HNL.out]; omega)]
    exact this
  have nU : NetIs W p limit (fs.eraseIdx i) lv' := n1.ext e2
  have X : Hid (Exc (fun k => Foot p lv k ∨ f.dv.ownBlock = some k) w W) :=
    ((((Ext.refl w).alloc _).exc _).trans (x1.mono fun k _ h => .inl h)).trans (e2.exc _)
  have HB : Hid (Bytes W (.slice da n cap) (turned f.data bit)) := bU
  have HNU : Hid (NetIs W p limit (fs.eraseIdx i) lv') := nU
  have HE : Hid ((∀ g, lv'.ownBlock = some g → g < w.heap.size) ∧ ∀ f' ∈ fs.eraseIdx i, ∀ g, f'.dv.ownBlock = some g → g < w.heap.size) := ⟨fun q hq => HLW.out.1 q (by rw [← l1]; exact hq), fun f' hf' q hq => (HN.out.data f' (List.mem_of_mem_eraseIdx hf')).lt hq⟩
  have HDV : Hid (f.dv = .slice da n cap) := hdv
  clear bU nU B1 B2 C2 e2 x1 n1 hb hdp hdl2 hde ht HTK HNA hdv
  rcases hb' with hb' | hb'
  all_goals
    go_wp2_with fail
    refine bodyPost_ret (v := .tuple #[.agg #[.int .i64 f.fro, .int .i64 f.too, .slice da n cap], .int .i64 0]) (by simp [results, Try.results53, go_sem, b0, b1, b2]) rfl ⟨lv', by rw [HDV.out], ?_, ?_, l1, ?_⟩
    · have hxx : Exc (fun k => k = w.heap.size) W (((W.setCell ⟨w.heap.size, 0, none⟩ (.int .i64 f.fro)).setCell ⟨w.heap.size, 1, none⟩ (.int .i64 f.too)).setCell ⟨w.heap.size, 2, none⟩ (.slice da n cap)) :=
        Exc.setB (fun k => k = w.heap.size) rfl (Exc.setB (fun k => k = w.heap.size) rfl (Exc.setB (fun k => k = w.heap.size) rfl (Exc.refl _ W) 0 _) 1 _) 2 _
      exact HNU.out.exc hxx (by omega) (fun q hq => by have := HE.out.1 q hq; omega) (fun f' hf' q hq => by have := HE.out.2 f' hf' q hq; omega)
    · exact ((X.out.setCell (.inr (by simp)) _).setCell (.inr (by simp)) _).setCell (.inr (by simp)) _
    · rw [HDV.out]
      refine HB.out.same fun q hq => ?_
      have hqw : q < w.heap.size := HLW.out.2 q (by rw [HDV.out]; exact hq)
      rw [Below.heap_setCell _ _ _ _ (by simp; omega), Below.heap_setCell _ _ _ _ (by simp; omega), Below.heap_setCell _ _ _ _ (by simp; omega)]
end Go.Proofs.Ytdbhndieommkaaa.NetW
