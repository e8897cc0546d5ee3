/- The walk of Take. -/
import Derived.Test.YtdbhndieommkaaaNetD
namespace Go.Proofs.Ytdbhndieommkaaa.NetW
open Go.RowKit

theorem take_no {w : World} {p : Nat} {limit : Int} {fs : List Fr} {lv : Value} (h : NetIs w p limit fs lv) (i : Int) (hi : hasN i fs.length = false) :
    Calls Try.prog 30 #[.pointer (some ⟨p, 0, none⟩), .int .i64 i] w fun e w' => e = .returned (.tuple #[.agg #[.int .i64 0, .int .i64 0, .slice none 0 0], .int .i64 13]) ∧ Ext w w' := by
  have hn : NetIs (w.alloc (.cells #[.int .i64 0, .int .i64 0, .slice none 0 0] 41)) p limit fs lv := h.ext ((Ext.refl _).alloc _)
  have hh := has_any i hn
  rw [hi] at hh
  go_enter Try.func30, Try.ntmps30
  go_wp2_with fail
  refine hh.mono ?_
  rintro e _ ⟨rfl, rfl⟩
  go_wp2_with fail
  refine bodyPost_ret (v := .tuple #[.agg #[.int .i64 0, .int .i64 0, .slice none 0 0], .int .i64 13]) (by simp [results, Try.results30, go_sem]) rfl ⟨rfl, ?_⟩
  exact (Ext.refl _).alloc _

def TakePost (p : Nat) (limit : Int) (fs : List Fr) (lv : Value) (i : Nat) (f : Fr) (w : World) (e : Ending) (w' : World) : Prop :=
  ∃ lv', e = .returned (.tuple #[.agg #[.int .i64 f.fro, .int .i64 f.too, f.dv], .int .i64 0]) ∧ NetIs w' p limit (fs.eraseIdx i) lv' ∧ Exc (Foot p lv) w w' ∧ lv'.ownBlock = lv.ownBlock

theorem take_close {V w2 : World} {p : Nat} {limit : Int} {fs : List Fr} {g n cap i : Nat} (hN : NetIs V p limit fs (.slice (some ⟨g, 0, none⟩) n cap)) (hn : fs.length = n) (hi : i < n)
    (hrow : w2.ownsRow 0 41 3 (.slice (some ⟨g, 0, none⟩) (n - 1) cap) (n - 1) (flat (fs.eraseIdx i))) (he : Exc (fun k => k = g) V w2) :
    NetIs (w2.setCell ⟨p, 1, none⟩ (.slice (some ⟨g, 0, none⟩) (n - 1) cap)) p limit (fs.eraseIdx i) (.slice (some ⟨g, 0, none⟩) (n - 1) cap) := by
  have hgp : g ≠ p := fun e => hN.lp (by simp [Value.ownBlock, e])
  have keep2 : ∀ k, k ≠ p → (w2.setCell ⟨p, 1, none⟩ (.slice (some ⟨g, 0, none⟩) (n - 1) cap)).heap[k]? = w2.heap[k]? := fun k hk => Below.heap_setCell _ _ _ _ hk
  have hel : (fs.eraseIdx i).length = n - 1 := by rw [List.length_eraseIdx_of_lt (by omega), hn]
  refine ⟨?_, ?_, ?_, ?_, ?_, ?_, ?_⟩
  · exact (hN.head.exc he (fun e => hgp e.symm)).set 1 _
  · rw [hel]
    exact ownsRow_same hrow fun k hk => keep2 k (by simp [Value.ownBlock] at hk; omega)
  · intro f hf
    have hf' := List.mem_of_mem_eraseIdx hf
    refine (hN.data f hf').same fun k hk => ?_
    rw [keep2 k (fun e => hN.dp f hf' (by rw [← e]; exact hk)), he.block k ((hN.data f hf').lt hk) (fun e => hN.dl f hf' k hk (by simp [Value.ownBlock, e]))]
  · simpa [Value.ownBlock] using hgp
  · exact fun f hf => hN.dp f (List.mem_of_mem_eraseIdx hf)
  · intro f hf k hk e
    exact hN.dl f (List.mem_of_mem_eraseIdx hf) k hk (by simpa [Value.ownBlock] using e)
  · exact hN.dd.sublist (List.eraseIdx_sublist _ _)

theorem dv_one {w : World} {v : Value} {xs : List Int} (h : Bytes w v xs) : v.oneCell' = true := by
  obtain ⟨a, cap, rfl⟩ := row_form h
  rfl

set_option maxRecDepth 100000 in
theorem take_ok {w : World} {p : Nat} {limit : Int} {fs : List Fr} {lv : Value} (h : NetIs w p limit fs lv) (i : Nat) (hi : i < fs.length) (hmax : fs.length ≤ 1000000) :
    Calls Try.prog 30 #[.pointer (some ⟨p, 0, none⟩), .int .i64 i] w (TakePost p limit fs lv i fs[i] w) := by
  obtain ⟨g, cap, rfl, _, hgl⟩ := h.row.form (by omega)
  obtain ⟨c, hB, hcl, hnc, hcm, ht, hfl⟩ := own_block h.row
  have hcell : ∀ j, j < 3 → w.cell? ⟨g, i * 3 + j, none⟩ = (fs[i].cells)[j]? := fun j hj => by
    rw [hB.cell, ← flat_at fs i j hi hj, ← ht, List.getElem?_take, if_pos (by omega)]
  have k0 : w.cell? ⟨g, i * 3, none⟩ = some (.int .i64 fs[i].fro) := by have := hcell 0 (by omega); rw [Nat.add_zero] at this; rw [this]; rfl
  have k1 : w.cell? ⟨g, i * 3 + 1, none⟩ = some (.int .i64 fs[i].too) := by rw [hcell 1 (by omega)]; rfl
  have k2 : w.cell? ⟨g, i * 3 + 2, none⟩ = some fs[i].dv := by rw [hcell 2 (by omega)]; rfl
  obtain ⟨da, dcap, hdv⟩ := row_form (h.data fs[i] (List.getElem_mem hi))
  rw [hdv] at k2
  have HD : Hid (fs[i].dv = .slice da fs[i].data.length dcap) := hdv
  have hh := has_any (i : Int) (h.ext ((Ext.refl w).alloc (.cells #[.int .i64 0, .int .i64 0, .slice none 0 0] 41)))
  have hht : hasN (i : Int) fs.length = true := by simp [hasN]; omega
  rw [hht] at hh
  have HN : Hid (NetIs w p limit fs (.slice (some ⟨g, 0, none⟩) fs.length cap)) := h
  have HDL : Hid (∀ f ∈ fs, ∀ k, f.dv.ownBlock = some k → k < w.heap.size) := fun f hf k hk => (h.data f hf).lt hk
  have HDV : Hid (∀ f ∈ fs, f.dv.oneCell' = true) := fun f hf => dv_one (h.data f hf)
  have e1 : Ext w (w.alloc (.cells #[.int .i64 0, .int .i64 0, .slice none 0 0] 41)) := (Ext.refl w).alloc _
  have B0 : BlockIs (w.alloc (.cells #[.int .i64 0, .int .i64 0, .slice none 0 0] 41)) w.heap.size [.int .i64 0, .int .i64 0, .slice none 0 0] 41 := BlockIs.alloc w _ _
  have m0 := e1.cell_of k0
  have m1 := e1.cell_of k1
  have m2 := e1.cell_of k2
  have p1 : (w.alloc (.cells #[.int .i64 0, .int .i64 0, .slice none 0 0] 41)).cell? ⟨p, 1, none⟩ = some (.slice (some ⟨g, 0, none⟩) fs.length cap) := by
    rw [(h.head.ext e1).cell]; rfl
  have hlt : (i : Int) < (fs.length : Int) := by omega
  have HE1 : Hid (Ext w (w.alloc (.cells #[.int .i64 0, .int .i64 0, .slice none 0 0] 41))) := e1
  have HB0 : Hid (BlockIs (w.alloc (.cells #[.int .i64 0, .int .i64 0, .slice none 0 0] 41)) w.heap.size [.int .i64 0, .int .i64 0, .slice none 0 0] 41) := B0
  have hpw := h.head.lt
  clear hcell hdv k0 k1 k2 hB ht hfl hcl e1 B0
  generalize hf : fs[i] = f at *
  clear hf
  generalize hdl : f.data.length = dl at *
  clear hdl
  generalize hn : fs.length = n at *
  have HFN : Hid (fs.length = n) := hn
  clear hn h
  go_enter Try.func30, Try.ntmps30
  go_upto_region 1 with (fail)
  generalize World.alloc w _ = W at *
  generalize hB : w.heap.size = B at *
  go_wp2_with fail
  refine hh.mono ?_
  rintro e _ ⟨rfl, rfl⟩
  go_upto_region 4 with (fail)
  have hWB : B < W.heap.size := HB0.out.lt
  have hE2 : Ext w (W.alloc (.cells #[.int .i64 f.fro, .int .i64 f.too, .slice da dl dcap] 41)) := HE1.out.alloc _
  have hN2 := HN.out.ext hE2
  have BY : BlockIs (W.alloc (.cells #[.int .i64 f.fro, .int .i64 f.too, .slice da dl dcap] 41)) W.heap.size [.int .i64 f.fro, .int .i64 f.too, .slice da dl dcap] 41 := BlockIs.alloc W _ _
  have BB : BlockIs (W.alloc (.cells #[.int .i64 f.fro, .int .i64 f.too, .slice da dl dcap] 41)) B [.int .i64 0, .int .i64 0, .slice none 0 0] 41 := HB0.out.ext ((Ext.refl _).alloc _)
  have hgY : g < W.heap.size := Nat.lt_of_lt_of_le hgl (by rw [← hB]; exact HE1.out.size)
  have hpY : p < W.heap.size := Nat.lt_of_lt_of_le hpw (by rw [← hB]; exact HE1.out.size)
  have hgp : g ≠ p := fun e => HN.out.lp (by simp [Value.ownBlock, e])
  have hdel := delete_any g n cap i fs _ HFN.out (by have := hN2.row; rw [HFN.out] at this; exact this) hi HDV.out hmax
  have p1' : (W.alloc (.cells #[.int .i64 f.fro, .int .i64 f.too, .slice da dl dcap] 41)).cell? ⟨p, 1, none⟩ = some (.slice (some ⟨g, 0, none⟩) n cap) := by rw [hN2.head.cell]; rfl
  have hE2' : Hid (Ext w (W.alloc (.cells #[.int .i64 f.fro, .int .i64 f.too, .slice da dl dcap] 41))) := hE2
  have hN2' : Hid (NetIs (W.alloc (.cells #[.int .i64 f.fro, .int .i64 f.too, .slice da dl dcap] 41)) p limit fs (.slice (some ⟨g, 0, none⟩) n cap)) := hN2
  have BY' : Hid (BlockIs (W.alloc (.cells #[.int .i64 f.fro, .int .i64 f.too, .slice da dl dcap] 41)) W.heap.size [.int .i64 f.fro, .int .i64 f.too, .slice da dl dcap] 41) := BY
  have BB' : Hid (BlockIs (W.alloc (.cells #[.int .i64 f.fro, .int .i64 f.too, .slice da dl dcap] 41)) B [.int .i64 0, .int .i64 0, .slice none 0 0] 41) := BB
  clear m0 m1 m2 p1 BY BB hN2 hE2 HB0 HN HE1 hh
  generalize World.alloc W _ = V at *
  generalize W.heap.size = Y at *
  go_wp2_with fail
  refine hdel.mono ?_
  rintro e w2 hpost
  obtain ⟨rfl, hrow2, hx⟩ := hpost
  have q1 : w2.cell? ⟨p, 1, none⟩ = some (.slice (some ⟨g, 0, none⟩) n cap) := by
    rw [hx.cell (p := ⟨p, 1, none⟩) hN2'.out.head.lt (fun e => hgp e.symm)]; exact p1'
  have q2 : w2.frozen? ⟨p, 1, none⟩ = false := (hN2'.out.head.exc hx (fun e => hgp e.symm)).free 1
  have hN3 : Hid (NetIs (w2.setCell ⟨p, 1, none⟩ (.slice (some ⟨g, 0, none⟩) (n - 1) cap)) p limit (fs.eraseIdx i) (.slice (some ⟨g, 0, none⟩) (n - 1) cap)) := take_close hN2'.out HFN.out hi hrow2 hx
  have hx3 : Hid (Exc (Foot p (.slice (some ⟨g, 0, none⟩) n cap)) w (w2.setCell ⟨p, 1, none⟩ (.slice (some ⟨g, 0, none⟩) (n - 1) cap))) :=
    ((hE2'.out.exc _).trans (hx.mono (fun k _ e => .inr (by simp [Value.ownBlock, e])))).setCell (.inl (.inl rfl)) _
  have BY3 : BlockIs (w2.setCell ⟨p, 1, none⟩ (.slice (some ⟨g, 0, none⟩) (n - 1) cap)) Y [.int .i64 f.fro, .int .i64 f.too, .slice da dl dcap] 41 := (BY'.out.exc hx (by omega)).other (by simp; omega) _
  have BB3 : BlockIs (w2.setCell ⟨p, 1, none⟩ (.slice (some ⟨g, 0, none⟩) (n - 1) cap)) B [.int .i64 0, .int .i64 0, .slice none 0 0] 41 := (BB'.out.exc hx (by omega)).other (by simp; omega) _
  clear hrow2 hx p1'
  go_upto_region 5 with (fail)
  clear q1 q2
  generalize World.setCell w2 _ _ = U at *
  obtain ⟨y0, y1, y2, _, _, _, _⟩ := BY3.three
  obtain ⟨b0, b1, b2, f0, f1, f2, _⟩ := BB3.three
  clear BY3 BB3
  go_wp2_with fail
  refine bodyPost_ret (v := .tuple #[.agg #[.int .i64 f.fro, .int .i64 f.too, .slice da dl dcap], .int .i64 0]) (by simp [results, Try.results30, go_sem, b0, b1, b2]) rfl ⟨.slice (some ⟨g, 0, none⟩) (n - 1) cap, by rw [HD.out], ?_, ?_, rfl⟩
  · have hxx : Exc (fun k => k = B) U (((U.setCell ⟨B, 0, none⟩ (.int .i64 f.fro)).setCell ⟨B, 1, none⟩ (.int .i64 f.too)).setCell ⟨B, 2, none⟩ (.slice da dl dcap)) :=
      Exc.setB (fun k => k = B) rfl (Exc.setB (fun k => k = B) rfl (Exc.setB (fun k => k = B) rfl (Exc.refl _ U) 0 _) 1 _) 2 _
    refine hN3.out.exc hxx (by omega) (fun k hk => by simp [Value.ownBlock] at hk; omega) (fun f' hf' k hk => by
      have := HDL.out f' (List.mem_of_mem_eraseIdx hf') k hk; omega)
  · exact ((hx3.out.setCell (.inr (by simp; omega)) _).setCell (.inr (by simp; omega)) _).setCell (.inr (by simp; omega)) _
end Go.Proofs.Ytdbhndieommkaaa.NetW
