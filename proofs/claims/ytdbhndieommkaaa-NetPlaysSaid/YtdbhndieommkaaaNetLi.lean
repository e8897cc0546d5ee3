/- The walks of Twice and List. -/
import Derived.Test.YtdbhndieommkaaaNetTk
namespace Go.Proofs.Ytdbhndieommkaaa.NetW
open Go.RowKit

def Fr.ok (f : Fr) : Prop := repB f.fro = true ∧ repB f.too = true ∧ f.data.length ≤ 512

theorem twice_none {w : World} {p : Nat} {limit : Int} {fs : List Fr} {lv : Value} (h : NetIs w p limit fs lv) (i : Int) (hi : hasN i fs.length = false) :
    Calls Try.prog 28 #[.pointer (some ⟨p, 0, none⟩), .int .i64 i] w fun e w' => e = .returned (.int .i64 13) ∧ Ext w w' := by
  have hh := has_any i h
  rw [hi] at hh
  go_enter Try.func28, Try.ntmps28
  go_wp2_with fail
  refine hh.mono ?_
  rintro e _ ⟨rfl, rfl⟩
  go_wp2_with fail
  go_ret
  exact ⟨rfl, Ext.refl _⟩

/-- a frame's cells in the net's row -/
theorem frame_cells {w : World} {p : Nat} {limit : Int} {fs : List Fr} {g n cap : Nat} (h : NetIs w p limit fs (.slice (some ⟨g, 0, none⟩) n cap)) (hn : fs.length = n) (i : Nat) (hi : i < fs.length) :
    w.cell? ⟨g, i * 3, none⟩ = some (.int .i64 fs[i].fro) ∧ w.cell? ⟨g, i * 3 + 1, none⟩ = some (.int .i64 fs[i].too) ∧ w.cell? ⟨g, i * 3 + 2, none⟩ = some fs[i].dv := by
  have hr := h.row
  rw [hn] at hr
  obtain ⟨c, hB, hcl, hnc, hcm, ht, hfl⟩ := own_block hr
  have hcell : ∀ j, j < 3 → w.cell? ⟨g, i * 3 + j, none⟩ = (fs[i].cells)[j]? := fun j hj => by
    rw [hB.cell, ← flat_at fs i j hi hj, ← ht, List.getElem?_take, if_pos (by omega)]
  refine ⟨?_, ?_, ?_⟩
  · have := hcell 0 (by omega); rw [Nat.add_zero] at this; rw [this]; rfl
  · rw [hcell 1 (by omega)]; rfl
  · rw [hcell 2 (by omega)]; rfl

theorem twice_full {w : World} {p : Nat} {limit : Int} {fs : List Fr} {lv : Value} (h : NetIs w p limit fs lv) (i : Nat) (hi : i < fs.length) (hok : fs[i].ok) (hmax : fs.length ≤ 1000000) (hl : limit ≤ (fs.length : Int)) :
    Calls Try.prog 28 #[.pointer (some ⟨p, 0, none⟩), .int .i64 i] w fun e w' => e = .returned (.int .i64 14) ∧ Ext w w' := by
  have hh := has_any (i : Int) h
  have hht : hasN (i : Int) fs.length = true := by simp [hasN]; omega
  rw [hht] at hh
  obtain ⟨g, cap, rfl, _, hgl⟩ := h.row.form (by omega)
  obtain ⟨k0, k1, k2⟩ := frame_cells h rfl i hi
  obtain ⟨o1, o2, o3⟩ := hok
  have hsd : sendE limit fs.length fs[i].fro fs[i].too fs[i].data.length = 14 := by
    simp only [sendE, o1, o2, Bool.not_true, Bool.or_self, Bool.false_eq_true, if_false]
    rw [if_neg (by omega), if_pos hl]
  have hs := send_no h fs[i].fro fs[i].too fs[i].dv fs[i].data (h.data _ (List.getElem_mem hi)).at (by omega) hmax (by rw [hsd]; omega)
  rw [hsd] at hs
  have p1 : w.cell? ⟨p, 1, none⟩ = some (.slice (some ⟨g, 0, none⟩) fs.length cap) := by rw [h.head.cell]; rfl
  obtain ⟨da, dcap, hdv⟩ := row_form (h.data fs[i] (List.getElem_mem hi))
  rw [hdv] at k2 hs
  have hlt : (i : Int) < (fs.length : Int) := by omega
  clear h hsd hdv o1 o2 o3 hht
  generalize hf : fs[i] = f at *
  clear hf
  generalize f.data.length = dl at *
  generalize fs.length = n at *
  go_enter Try.func28, Try.ntmps28
  go_wp2_with fail
  refine hh.mono ?_
  rintro e _ ⟨rfl, rfl⟩
  go_wp2_with fail
  refine hs.mono ?_
  rintro e w' ⟨rfl, he⟩
  go_wp2_with fail
  go_ret
  exact ⟨rfl, he⟩

theorem twice_ok {w : World} {p : Nat} {limit : Int} {fs : List Fr} {lv : Value} (h : NetIs w p limit fs lv) (i : Nat) (hi : i < fs.length) (hok : fs[i].ok) (hmax : fs.length ≤ 1000000) (hl : (fs.length : Int) < limit) :
    Calls Try.prog 28 #[.pointer (some ⟨p, 0, none⟩), .int .i64 i] w (SendPost p limit fs lv fs[i].fro fs[i].too fs[i].data w) := by
  have hh := has_any (i : Int) h
  have hht : hasN (i : Int) fs.length = true := by simp [hasN]; omega
  rw [hht] at hh
  obtain ⟨g, cap, rfl, _, hgl⟩ := h.row.form (by omega)
  obtain ⟨k0, k1, k2⟩ := frame_cells h rfl i hi
  obtain ⟨o1, o2, o3⟩ := hok
  have hs := send_ok h fs[i].fro fs[i].too fs[i].dv fs[i].data (h.data _ (List.getElem_mem hi)).at hmax o1 o2 o3 hl
  have p1 : w.cell? ⟨p, 1, none⟩ = some (.slice (some ⟨g, 0, none⟩) fs.length cap) := by rw [h.head.cell]; rfl
  obtain ⟨da, dcap, hdv⟩ := row_form (h.data fs[i] (List.getElem_mem hi))
  rw [hdv] at k2 hs
  have hlt : (i : Int) < (fs.length : Int) := by omega
  clear h hdv o1 o2 o3 hht
  generalize hf : fs[i] = f at *
  clear hf
  generalize hdl : f.data.length = dl at *
  clear hdl
  generalize fs.length = n at *
  go_enter Try.func28, Try.ntmps28
  go_wp2_with fail
  refine hh.mono ?_
  rintro e _ ⟨rfl, rfl⟩
  go_wp2_with fail
  refine hs.mono ?_
  rintro e w' hp
  obtain ⟨lv', dv, rfl, h1, h2, h3, h4⟩ := hp
  go_wp2_with fail
  go_ret
  exact ⟨lv', dv, rfl, h1, h2, h3, h4⟩

def Fr.key (f : Fr) : Int × Int × List Int := (f.fro, f.too, f.data)
/-- frames in a row v of a call's own, each with data of its own, none that was there at w -/
structure Told (w wr : World) (v : Value) (src gs : List Fr) : Prop where
  row : wr.ownsRow w.heap.size 41 3 v src.length (flat gs)
  key : gs.map Fr.key = src.map Fr.key
  data : ∀ f ∈ gs, Bytes wr f.dv f.data
  fresh : ∀ f ∈ gs, ∀ k, f.dv.ownBlock = some k → w.heap.size ≤ k ∧ v.ownBlock ≠ some k
theorem Told.snoc {w W w1 w2 : World} {v dv : Value} {src gs : List Fr} {f : Fr} {gg gcap : Nat} {o : Obj} (h : Told w W v src gs) (hw : Ext w W) (he : Ext W w1) (hb : Bytes w1 dv f.data) (hfr : ∀ g, dv.ownBlock = some g → W.heap.size ≤ g)
    (hown : w2.ownsRow w.heap.size 41 3 (.slice (some ⟨gg, 0, none⟩) (src.length + 1) gcap) (src.length + 1) (flat gs ++ [.int .i64 f.fro, .int .i64 f.too, dv]))
    (hgrow : (w1.alloc o).grownBy w2 v.ownBlock) (hat : v.ownBlock = some gg ∨ gg = w1.heap.size + 1) :
    Told w w2 (.slice (some ⟨gg, 0, none⟩) (src.length + 1) gcap) (src ++ [f]) (gs ++ [⟨f.fro, f.too, dv, f.data⟩]) := by
  have s1 := hw.size
  have s2 := he.size
  have sA : (w1.alloc o).heap.size = w1.heap.size + 1 := by simp
  have hv : ∀ g, v.ownBlock = some g → g < W.heap.size := fun g hg => ownsRow_lt h.row hg
  have keep : ∀ k, k < w1.heap.size → v.ownBlock ≠ some k → w2.heap[k]? = w1.heap[k]? := fun k hk hne => by
    rw [hgrow.block k (by omega) (fun h => hne h.symm), Below.heap_alloc _ _ _ hk]
  refine ⟨?_, ?_, ?_, ?_⟩
  · rw [List.length_append, flat_snoc]; exact hown
  · rw [List.map_append, List.map_append, h.key]; rfl
  · intro g hg
    rcases List.mem_append.1 hg with hg | hg
    · have h1 := (h.data g hg).ext he
      exact h1.same fun k hk => keep k (h1.lt hk) (h.fresh g hg k hk).2
    · simp at hg
      subst hg
      exact hb.same fun k hk => keep k (hb.lt hk) (fun e => by have := hv _ e; have := hfr k hk; omega)
  · intro g hg k hk
    simp only [Value.ownBlock, ne_eq, Option.some.injEq]
    rcases List.mem_append.1 hg with hg | hg
    · refine ⟨(h.fresh g hg k hk).1, fun e => ?_⟩
      subst e
      rcases hat with h5 | h5
      · exact (h.fresh g hg _ hk).2 h5
      · have := ((h.data g hg).ext he).lt hk; omega
    · simp at hg
      subst hg
      have h6 := hfr k hk
      have h7 := hb.lt hk
      refine ⟨by omega, fun e => ?_⟩
      subst e
      rcases hat with h5 | h5
      · have := hv _ h5; omega
      · omega

def NetListPost (fs : List Fr) (w : World) (e : Ending) (w' : World) : Prop := ∃ v gs, e = .returned v ∧ Told w w' v fs gs ∧ Ext w w'
set_option maxRecDepth 100000 in
theorem list_any {w : World} {p : Nat} {limit : Int} {fs : List Fr} {lv : Value} (h : NetIs w p limit fs lv) (hmax : fs.length ≤ 1000000) (hok : ∀ f ∈ fs, f.data.length ≤ 1000000) :
    Calls Try.prog 29 #[.pointer (some ⟨p, 0, none⟩)] w (NetListPost fs w) := by
  obtain ⟨i0, hi0, hz0, hz1, hz2⟩ := info_parts infoFrame
  have p1 : w.cell? ⟨p, 1, none⟩ = some lv := by rw [h.head.cell]; rfl
  have HN : Hid (NetIs w p limit fs lv) := h
  have HOK : Hid (∀ f ∈ fs, f.data.length ≤ 1000000) := hok
  obtain ⟨la, lcap, rfl⟩ := row_form h.row
  clear h hok
  generalize hn : fs.length = n at *
  have HF : Hid (fs.length = n) := hn
  clear hn
  go_enter Try.func29, Try.ntmps29
  go_wp2_with fail
  go_loopw [3, 11] (fun v i wr => ∃ (k : Nat) (gs : List Fr), k ≤ n ∧ i = .int .i64 k ∧ Hid (Told w wr v (fs.take k) gs) ∧ Hid (Ext w wr)) (fun _ i _ => n - (intOf i).toNat)
  case atStart => exact ⟨0, [], by omega, rfl, ⟨⟨rfl, .inl ⟨rfl, rfl⟩⟩, rfl, (fun f hf => by cases hf), (fun f hf => by cases hf)⟩, Ext.refl _⟩
  case round =>
    obtain ⟨k, gs, hk, rfl, hT, hE⟩ := hrel
    by_cases hlt : k < n
    · have hkf : k < fs.length := by rw [HF.out]; exact hlt
      have hNr := HN.out.ext hE.out
      obtain ⟨g, cap, hlv, _, _⟩ := hNr.row.form (by omega)
      cases hlv
      obtain ⟨k0, k1, k2⟩ := frame_cells hNr HF.out k hkf
      obtain ⟨da, dcap, hdv⟩ := row_form (hNr.data fs[k] (List.getElem_mem hkf))
      rw [hdv] at k2
      have hbk := (hNr.data fs[k] (List.getElem_mem hkf)).at
      rw [hdv] at hbk
      have hcp := fun (W : World) (he : Ext wr W) => copied_any fs[k].fro fs[k].too _ _ W (hbk.ext he) (HOK.out _ (List.getElem_mem hkf))
      have HTK : Hid (fs.take (k + 1) = fs.take k ++ [fs[k]]) := List.take_succ_eq_append_getElem hkf
      have hltk : (fs.take k).length = k := by rw [List.length_take]; omega
      have hrow : wr.ownsRow w.heap.size 41 3 u3 k (flat gs) := by have := hT.out.row; rw [hltk] at this; exact this
      have hbase : w.heap.size ≤ wr.heap.size := hE.out.size
      have HLT : Hid ((fs.take k).length = k) := hltk
      have HCP : Hid (∀ W : World, Ext wr W → _) := hcp
      clear hNr hbk hdv hltk hcp
      generalize fs[k] = f at *
      generalize f.data.length = dl at *
      clear hkf
      go_wp2_with fail
      refine (HCP.out _ ((Ext.refl _).alloc _)).mono ?_
      rintro e w1 hp
      obtain ⟨dv, rfl, hb, hfr, he⟩ := hp
      obtain ⟨da', dcap', rfl⟩ := row_form hb
      have he1 : Ext wr w1 := ((Ext.refl _).alloc _).trans he
      have hrow1 : (w1.alloc (.cells #[.int .i64 f.fro, .int .i64 f.too, .slice da' f.data.length dcap'] 41)).ownsRow w.heap.size 41 3 u3 k (flat gs) := by
        refine ownsRow_same hrow fun q hq => ?_
        have h1 := ownsRow_lt hrow hq
        rw [Below.heap_alloc _ _ _ (Nat.lt_of_lt_of_le h1 he1.size), Below.block he1 q h1]
      have hbase1 : w.heap.size ≤ w1.heap.size := Nat.le_trans hbase he1.size
      have HB : Hid (Bytes w1 (.slice da' f.data.length dcap') f.data) := hb
      have HFR : Hid (∀ g, (Value.slice da' f.data.length dcap').ownBlock = some g → wr.heap.size ≤ g) := fun g hg => by have := hfr g hg; simp at this; omega
      have HE1 : Hid (Ext wr w1) := he1
      clear he he1 hb hfr hrow p1 k0 k1 k2
      generalize hdl : f.data.length = dl at *
      have HDL : Hid (f.data.length = dl) := hdl
      clear hdl
      go_wp2_with (at_builtin; refine wpList_append_lies _ rfl _ _ 48 rfl w.heap.size 41 i0 _ 3 40 Try.underlying48 hi0 hz0 hz1 hz2 rfl (by omega) _ k (flat gs) rfl hrow1 ⟨w1.heap.size, 0, none⟩ 1 1 [.int .i64 f.fro, .int .i64 f.too, .slice da' dl dcap'] rfl rfl (World.news_of_block (cs := #[.int .i64 f.fro, .int .i64 f.too, .slice da' dl dcap']) (t := 41) (fr := (0, 0)) (heap_alloc_new w1 _)) (by simp [Value.oneCell']) (by omega) (by unfold maxLen; omega) (by omega) (by simp; omega) (w1.heap.size + 1) (by simp) ?_)
      intro gg gcap w2 hown2 hgrow hat _
      have HT2 : Hid (Told w w2 (.slice (some ⟨gg, 0, none⟩) (k + 1) gcap) (fs.take (k + 1)) (gs ++ [⟨f.fro, f.too, .slice da' dl dcap', f.data⟩])) := by
        have := Told.snoc (f := f) (gg := gg) (gcap := gcap) hT.out hE.out HE1.out HB.out HFR.out (by rw [HLT.out]; exact hown2) hgrow hat
        rw [HLT.out, ← HTK.out] at this
        exact this
      have HE2 : Hid (Ext w w2) := ((hE.out.trans HE1.out).alloc _).grown hgrow (fun q hq => by have := own_block_le hT.out.row q hq; exact this)
      clear hown2 hgrow hat hrow1
      go_wp2_with fail
      go_roundw
      case rel => exact ⟨k + 1, _, by omega, by go_num, HT2, HE2⟩
      case measure => simp [intOf]; omega
    · obtain rfl : k = n := by omega
      have e : fs.take k = fs := List.take_of_length_le (by rw [HF.out]; exact Nat.le_refl _)
      rw [e] at hT
      go_wp2_with fail
      go_ret
      exact ⟨_, gs, rfl, hT.out, hE.out⟩
end Go.Proofs.Ytdbhndieommkaaa.NetW
