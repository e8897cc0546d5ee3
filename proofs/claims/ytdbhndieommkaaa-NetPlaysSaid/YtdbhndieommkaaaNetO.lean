/- The walk of the law NetOwns: the main way. -/
import Derived.Test.YtdbhndieommkaaaNetOb
import Derived.Deep.DeepCutAuto
namespace Go.Proofs.Ytdbhndieommkaaa.NetW
open Go.RowKit

theorem bytes_fresh {V w' : World} {g gcap n : Nat} {xs : List Int} {o : Obj} (hlen : xs.length = n) (hown : w'.ownsRow 0 5 1 (.slice (some ⟨g, 0, none⟩) n gcap) n (xs.map (Value.int .u8)))
    (hgrow : (V.alloc o).grownBy w' (some V.heap.size)) (hat : some V.heap.size = some g ∨ g = V.heap.size + 1) :
    Bytes w' (.slice (some ⟨g, 0, none⟩) n gcap) xs ∧ Ext V w' ∧ V.heap.size ≤ g := by
  subst hlen
  refine ⟨hown, ((Ext.refl V).alloc o).grown hgrow (fun k hk => by cases hk; exact Nat.le_refl _), ?_⟩
  rcases hat with h | h
  · cases h; exact Nat.le_refl _
  · omega

theorem empty_row (V : World) : (V.alloc (.cells #[] 5)).ownsRow 0 5 1 (.slice (some ⟨V.heap.size, 0, none⟩) 0 0) 0 [] :=
  ⟨rfl, .inr ⟨V.heap.size, 0, #[], rfl, Nat.zero_le _, BlockIs.alloc V [] _, Nat.le_refl _, Nat.zero_le _, rfl, rfl⟩⟩

set_option maxRecDepth 100000 in
set_option maxHeartbeats 4000000 in
theorem owns_good (fro too : Int) (i : Nat) (v : Value) (xs : List Int) (w : World) (hv : BytesAt w v xs)
    (h1 : 0 ≤ fro) (h2 : fro ≤ 6) (h3 : 0 ≤ too) (h4 : too ≤ 6) (h5 : xs.length ≤ 512) (h6 : i < xs.length) :
    Calls Try.prog 6 #[.agg #[.int .i64 fro, .int .i64 too, v], .int .i64 i] w fun e w' => e = .returned (.bool true) ∧ Ext w w' := by
  obtain ⟨i0, hi0, hz0, hz1, hz2⟩ := info_parts infoByte
  have HV : Hid (BytesAt w v xs) := hv
  obtain ⟨a, cap, rfl, _, hxs⟩ := hv
  have B0 : Hid (BlockIs (w.alloc (.cells #[.int .i64 fro, .int .i64 too, .slice a xs.length cap] 41)) w.heap.size [.int .i64 fro, .int .i64 too, .slice a xs.length cap] 41) := BlockIs.alloc w _ _
  have HE : Hid (Ext w (w.alloc (.cells #[.int .i64 fro, .int .i64 too, .slice a xs.length cap] 41))) := (Ext.refl _).alloc _
  generalize hn : xs.length = n at *
  have HNL : Hid (xs.length = n) := hn
  obtain ⟨ab, aoff, rfl, _⟩ := hxs 0 (by omega)
  clear hn
  have HX : Hid (∀ j, j < n → w.cell? ⟨ab, aoff + j, none⟩ = some (.int .u8 (xs.getD j 0))) := fun j hj => by
    obtain ⟨b', o', e, hx⟩ := hxs j hj
    cases e
    exact hx
  clear hxs
  have hi7 : (i : Int) < (n : Int) := by omega
  go_enter Try.func6, Try.ntmps6
  go_upto_region 1 with (fail)
  generalize World.alloc w _ = W at *
  generalize hB : w.heap.size = B at *
  go_wp2_with fail
  refine (anchor_any _).mono ?_
  rintro e w1 ⟨rfl, e1⟩
  go_wp2_with fail
  refine (new_ok 4 (by omega) (by omega) _).mono ?_
  rintro e w2 hp
  obtain ⟨p, rfl, n2, e2, hp2⟩ := hp
  have B2 : Hid (BlockIs w2 B [.int .i64 fro, .int .i64 too, .slice (some ⟨ab, aoff, none⟩) n cap] 41) := (B0.out.ext e1).ext e2
  have HE2 : Hid (Ext w w2) := (HE.out.trans e1).trans e2
  have hBp : B < p := Nat.lt_of_lt_of_le (B0.out.ext e1).lt hp2
  have N2 : Hid (NetIs w2 p 4 [] (.slice none 0 0)) := n2
  clear e1 e2 hp2 n2 B0 HE
  obtain ⟨x0, x1, x2, _, _, _, _⟩ := B2.out.three
  go_upto_region 7 with (fail)
  clear x0 x1 x2
  have B3 : Hid (BlockIs (w2.alloc (.cells #[.int .i64 fro, .int .i64 too, .slice (some ⟨ab, aoff, none⟩) n cap] 41)) B [.int .i64 fro, .int .i64 too, .slice (some ⟨ab, aoff, none⟩) n cap] 41) := B2.out.ext ((Ext.refl _).alloc _)
  have C3 : Hid (BlockIs (w2.alloc (.cells #[.int .i64 fro, .int .i64 too, .slice (some ⟨ab, aoff, none⟩) n cap] 41)) w2.heap.size [.int .i64 fro, .int .i64 too, .slice (some ⟨ab, aoff, none⟩) n cap] 41) := BlockIs.alloc _ _ _
  have HE3 : Hid (Ext w (w2.alloc (.cells #[.int .i64 fro, .int .i64 too, .slice (some ⟨ab, aoff, none⟩) n cap] 41))) := HE2.out.alloc _
  have N3 : Hid (NetIs (w2.alloc (.cells #[.int .i64 fro, .int .i64 too, .slice (some ⟨ab, aoff, none⟩) n cap] 41)) p 4 [] (.slice none 0 0)) := N2.out.ext ((Ext.refl _).alloc _)
  have hpC : p < w2.heap.size := N2.out.head.lt
  clear B2 N2 HE2
  generalize World.alloc w2 _ = V at *
  generalize w2.heap.size = C at *
  obtain ⟨x0, x1, x2, _, _, _, _⟩ := B3.out.three
  have hnews : ∀ (U : World), Ext w U → ∀ j u, (xs.map (Value.int .u8))[j]? = some u → U.cell? ((⟨ab, aoff, none⟩ : Addr).add j) = some u := fun U hU j u hu => by
    have hj : j < n := by
      have := (List.getElem?_eq_some_iff.1 hu).1
      rw [← HNL.out]; simpa using this
    rw [Addr.add_lit, hU.cell_of (HX.out j hj)]
    rw [List.getElem?_map, List.getElem?_eq_getElem (by rw [HNL.out]; exact hj)] at hu
    simp at hu
    rw [← hu]
    simp [List.getD, List.getElem?_eq_getElem (show j < xs.length by rw [HNL.out]; exact hj)]
  have HNEWS : Hid (∀ (U : World), Ext w U → ∀ j u, (xs.map (Value.int .u8))[j]? = some u → U.cell? ((⟨ab, aoff, none⟩ : Addr).add j) = some u) := hnews
  have HLEN : Hid ((xs.map (Value.int .u8)).length = n * 1) := by rw [Hid, List.length_map, Nat.mul_one]; exact HNL.out
  have HONE : Hid (∀ u ∈ xs.map (Value.int .u8), u.oneCell' = true) := fun u hu => by
    obtain ⟨x, _, rfl⟩ := List.mem_map.1 hu
    rfl
  clear hnews HX
  go_wp2_with (at_builtin; refine wpList_append_lies _ rfl _ _ 39 rfl 0 5 i0 _ 1 1 Try.underlying39 hi0 hz0 hz1 hz2 rfl (by omega) _ 0 [] rfl (empty_row V) ⟨ab, aoff, none⟩ n cap (xs.map (Value.int .u8)) rfl HLEN.out (HNEWS.out _ (HE3.out.alloc _)) HONE.out (by omega) (by unfold maxLen; omega) (by omega) (by omega) (V.heap.size + 1) (by simp) ?_)
  intro g7 c7 w4 hown hgrow hat _
  obtain ⟨b4, e4, hg7⟩ := bytes_fresh HNL.out hown hgrow hat
  have B5 : BlockIs w4 B [.int .i64 fro, .int .i64 too, .slice (some ⟨ab, aoff, none⟩) n cap] 41 := B3.out.ext e4
  have C5 : BlockIs w4 C [.int .i64 fro, .int .i64 too, .slice (some ⟨ab, aoff, none⟩) n cap] 41 := C3.out.ext e4
  have N5 : Hid (NetIs w4 p 4 [] (.slice none 0 0)) := N3.out.ext e4
  have HE5 : Hid (Ext w w4) := HE3.out.trans e4
  have BB5 : Hid (Bytes w4 (.slice (some ⟨g7, 0, none⟩) n c7) xs) := b4
  have hV : C < V.heap.size := C3.out.lt
  have hV4 : V.heap.size ≤ w4.heap.size := e4.size
  have hg7l : g7 < w4.heap.size := b4.lt rfl
  obtain ⟨_, _, c2, _, _, f2, _⟩ := C5.three
  have C6 : Hid (BlockIs (w4.setCell ⟨C, 2, none⟩ (.slice (some ⟨g7, 0, none⟩) n c7)) C [.int .i64 fro, .int .i64 too, .slice (some ⟨g7, 0, none⟩) n c7] 41) := C5.set 2 _
  have B6 : Hid (BlockIs (w4.setCell ⟨C, 2, none⟩ (.slice (some ⟨g7, 0, none⟩) n c7)) B [.int .i64 fro, .int .i64 too, .slice (some ⟨ab, aoff, none⟩) n cap] 41) := B5.other (by simp; omega) _
  have X6 : Exc (fun k => k = C) w4 (w4.setCell ⟨C, 2, none⟩ (.slice (some ⟨g7, 0, none⟩) n c7)) := Exc.setB (fun k => k = C) rfl (Exc.refl _ _) 2 _
  have N6 : Hid (NetIs (w4.setCell ⟨C, 2, none⟩ (.slice (some ⟨g7, 0, none⟩) n c7)) p 4 [] (.slice none 0 0)) := N5.out.exc X6 (by omega) (fun q hq => by simp [Value.ownBlock] at hq) (fun f hf => by cases hf)
  have HE6 : Hid (Ext w (w4.setCell ⟨C, 2, none⟩ (.slice (some ⟨g7, 0, none⟩) n c7))) := HE5.out.setCell (by simp; omega) _
  have BB6 : Hid (Bytes (w4.setCell ⟨C, 2, none⟩ (.slice (some ⟨g7, 0, none⟩) n c7)) (.slice (some ⟨g7, 0, none⟩) n c7) xs) := b4.same (fun q hq => X6.block q (b4.lt hq) (by simp [Value.ownBlock] at hq; omega))
  clear x0 x1 x2 hown hgrow hat b4 e4 B5 C5 N5 HE5 BB5 B3 C3 N3 HE3 X6
  go_upto_region 8 with (fail)
  have s6 : w4.heap.size ≤ (w4.setCell ⟨C, 2, none⟩ (.slice (some ⟨g7, 0, none⟩) n c7)).heap.size := by simp
  generalize World.setCell w4 _ _ = U at *
  clear c2 f2
  -- mine
  obtain ⟨x0, x1, x2, _, _, _, _⟩ := B6.out.three
  go_upto_region 9 with (fail)
  clear x0 x1 x2
  have B3 : Hid (BlockIs (U.alloc (.cells #[.int .i64 fro, .int .i64 too, .slice (some ⟨ab, aoff, none⟩) n cap] 41)) B [.int .i64 fro, .int .i64 too, .slice (some ⟨ab, aoff, none⟩) n cap] 41) := B6.out.ext ((Ext.refl _).alloc _)
  have C3 : Hid (BlockIs (U.alloc (.cells #[.int .i64 fro, .int .i64 too, .slice (some ⟨ab, aoff, none⟩) n cap] 41)) C [.int .i64 fro, .int .i64 too, .slice (some ⟨g7, 0, none⟩) n c7] 41) := C6.out.ext ((Ext.refl _).alloc _)
  have D3 : Hid (BlockIs (U.alloc (.cells #[.int .i64 fro, .int .i64 too, .slice (some ⟨ab, aoff, none⟩) n cap] 41)) U.heap.size [.int .i64 fro, .int .i64 too, .slice (some ⟨ab, aoff, none⟩) n cap] 41) := BlockIs.alloc _ _ _
  have HE3 : Hid (Ext w (U.alloc (.cells #[.int .i64 fro, .int .i64 too, .slice (some ⟨ab, aoff, none⟩) n cap] 41))) := HE6.out.alloc _
  have N3 : Hid (NetIs (U.alloc (.cells #[.int .i64 fro, .int .i64 too, .slice (some ⟨ab, aoff, none⟩) n cap] 41)) p 4 [] (.slice none 0 0)) := N6.out.ext ((Ext.refl _).alloc _)
  have BB3 : Hid (Bytes (U.alloc (.cells #[.int .i64 fro, .int .i64 too, .slice (some ⟨ab, aoff, none⟩) n cap] 41)) (.slice (some ⟨g7, 0, none⟩) n c7) xs) := BB6.out.ext ((Ext.refl _).alloc _)
  have hUD : g7 < U.heap.size ∧ C < U.heap.size := by omega
  clear B6 C6 N6 HE6 BB6 s6
  generalize World.alloc U _ = V2 at *
  generalize U.heap.size = D at *
  obtain ⟨x0, x1, x2, _, _, _, _⟩ := B3.out.three
  go_wp2_with (at_builtin; refine wpList_append_lies _ rfl _ _ 39 rfl 0 5 i0 _ 1 1 Try.underlying39 hi0 hz0 hz1 hz2 rfl (by omega) _ 0 [] rfl (empty_row V2) ⟨ab, aoff, none⟩ n cap (xs.map (Value.int .u8)) rfl HLEN.out (HNEWS.out _ (HE3.out.alloc _)) HONE.out (by omega) (by unfold maxLen; omega) (by omega) (by omega) (V2.heap.size + 1) (by simp) ?_)
  intro g8 c8 w5 hown hgrow hat _
  obtain ⟨b5, e5, hg8⟩ := bytes_fresh HNL.out hown hgrow hat
  have C5 : BlockIs w5 C [.int .i64 fro, .int .i64 too, .slice (some ⟨g7, 0, none⟩) n c7] 41 := C3.out.ext e5
  have D5 : BlockIs w5 D [.int .i64 fro, .int .i64 too, .slice (some ⟨ab, aoff, none⟩) n cap] 41 := D3.out.ext e5
  have N5 : NetIs w5 p 4 [] (.slice none 0 0) := N3.out.ext e5
  have HE5 : Hid (Ext w w5) := HE3.out.trans e5
  have BB5 : Bytes w5 (.slice (some ⟨g7, 0, none⟩) n c7) xs := BB3.out.ext e5
  have hV : D < V2.heap.size := D3.out.lt
  have hV4 : V2.heap.size ≤ w5.heap.size := e5.size
  have hg8l : g8 < w5.heap.size := b5.lt rfl
  obtain ⟨_, _, c2, _, _, f2, _⟩ := D5.three
  have X6 : Exc (fun k => k = D) w5 (w5.setCell ⟨D, 2, none⟩ (.slice (some ⟨g8, 0, none⟩) n c8)) := Exc.setB (fun k => k = D) rfl (Exc.refl _ _) 2 _
  have D6 : Hid (BlockIs (w5.setCell ⟨D, 2, none⟩ (.slice (some ⟨g8, 0, none⟩) n c8)) D [.int .i64 fro, .int .i64 too, .slice (some ⟨g8, 0, none⟩) n c8] 41) := D5.set 2 _
  have C6 : Hid (BlockIs (w5.setCell ⟨D, 2, none⟩ (.slice (some ⟨g8, 0, none⟩) n c8)) C [.int .i64 fro, .int .i64 too, .slice (some ⟨g7, 0, none⟩) n c7] 41) := C5.exc X6 (by omega)
  have N6 : Hid (NetIs (w5.setCell ⟨D, 2, none⟩ (.slice (some ⟨g8, 0, none⟩) n c8)) p 4 [] (.slice none 0 0)) := N5.exc X6 (by omega) (fun q hq => by simp [Value.ownBlock] at hq) (fun f hf => by cases hf)
  have HE6 : Hid (Ext w (w5.setCell ⟨D, 2, none⟩ (.slice (some ⟨g8, 0, none⟩) n c8))) := HE5.out.setCell (by simp; omega) _
  have BB6 : Hid (Bytes (w5.setCell ⟨D, 2, none⟩ (.slice (some ⟨g8, 0, none⟩) n c8)) (.slice (some ⟨g7, 0, none⟩) n c7) xs) := BB5.same (fun q hq => X6.block q (BB5.lt hq) (by simp [Value.ownBlock] at hq; omega))
  have BM6 : Hid (Bytes (w5.setCell ⟨D, 2, none⟩ (.slice (some ⟨g8, 0, none⟩) n c8)) (.slice (some ⟨g8, 0, none⟩) n c8) xs) := b5.same (fun q hq => X6.block q (b5.lt hq) (by simp [Value.ownBlock] at hq; omega))
  clear x0 x1 x2 hown hgrow hat b5 e5 C5 D5 N5 HE5 BB5 B3 C3 D3 N3 HE3 BB3 X6
  go_upto_region 10 with (fail)
  have s6 : w5.heap.size ≤ (w5.setCell ⟨D, 2, none⟩ (.slice (some ⟨g8, 0, none⟩) n c8)).heap.size := by simp
  generalize World.setCell w5 _ _ = U2 at *
  clear c2 f2
  obtain ⟨x0, x1, x2, _, _, _, _⟩ := D6.out.three
  go_wp2_with fail
  have hrf : repB fro = true := by simp [repB]; omega
  have hrt : repB too = true := by simp [repB]; omega
  have hpU : p < U2.heap.size := N6.out.head.lt
  refine (send_ok N6.out fro too _ xs (by have := BM6.out.at; exact this) (by simp) hrf hrt (by rw [HNL.out]; exact h5) (by simp)).mono ?_
  rintro e w6 hp
  obtain ⟨l6, d6, rfl, n6, y6, fl6, fd6⟩ := hp
  have fl6' : Hid (∀ g, l6.ownBlock = some g → U2.heap.size ≤ g) := fun g hg => by
    rcases fl6 g hg with h | h
    · simp [Value.ownBlock] at h
    · exact h
  have nf : ∀ k, k ≠ p → ¬ Foot p (.slice none 0 0) k := fun k hk h => by
    rcases h with h | h
    · exact hk h
    · simp [Value.ownBlock] at h
  have C7 : Hid (BlockIs w6 C [.int .i64 fro, .int .i64 too, .slice (some ⟨g7, 0, none⟩) n c7] 41) := C6.out.exc y6 (nf C (by omega))
  have D7 : Hid (BlockIs w6 D [.int .i64 fro, .int .i64 too, .slice (some ⟨g8, 0, none⟩) n c8] 41) := D6.out.exc y6 (nf D (by omega))
  have BB7 : Hid (Bytes w6 (.slice (some ⟨g7, 0, none⟩) n c7) xs) := BB6.out.same (fun q hq => y6.block q (BB6.out.lt hq) (nf q (by simp [Value.ownBlock] at hq; omega)))
  have BM7 : Hid (Bytes w6 (.slice (some ⟨g8, 0, none⟩) n c8) xs) := BM6.out.same (fun q hq => y6.block q (BM6.out.lt hq) (nf q (by simp [Value.ownBlock] at hq; omega)))
  have hB0 : w.heap.size ≤ B := by omega
  have X7 : Hid (Exc (fun k => w.heap.size ≤ k) w w6) := (HE6.out.exc _).trans (y6.mono fun k _ h => by
    rcases h with rfl | h
    · omega
    · simp [Value.ownBlock] at h)
  have hU6 : U2.heap.size ≤ w6.heap.size := y6.size
  have FD6 : Hid (∀ g, d6.ownBlock = some g → U2.heap.size ≤ g) := fd6
  have N7 : Hid (NetIs w6 p 4 [⟨fro, too, d6, xs⟩] l6) := n6
  clear fl6 fd6 y6 n6 nf x0 x1 x2 C6 D6 N6 BB6 BM6 HE6
  go_wp2_with fail
  refine (twice_ok N7.out 0 (by simp) ⟨hrf, hrt, by simp only [List.getElem_cons_zero]; rw [HNL.out]; exact h5⟩ (by simp) (by simp)).mono ?_
  rintro e w7 hp
  obtain ⟨l7, d7, rfl, n7, y7, fl7, fd7⟩ := hp
  have nf : ∀ k, k < U2.heap.size → k ≠ p → ¬ Foot p l6 k := fun k hk hp h => by
    rcases h with h | h
    · exact hp h
    · have := fl6'.out k h; omega
  have fl7' : Hid (∀ g, l7.ownBlock = some g → U2.heap.size ≤ g) := fun g hg => by
    rcases fl7 g hg with h | h
    · exact fl6'.out g h
    · omega
  have C8 : Hid (BlockIs w7 C [.int .i64 fro, .int .i64 too, .slice (some ⟨g7, 0, none⟩) n c7] 41) := C7.out.exc y7 (nf C (by omega) (by omega))
  have D8 : Hid (BlockIs w7 D [.int .i64 fro, .int .i64 too, .slice (some ⟨g8, 0, none⟩) n c8] 41) := D7.out.exc y7 (nf D (by omega) (by omega))
  have BB8 : Hid (Bytes w7 (.slice (some ⟨g7, 0, none⟩) n c7) xs) := BB7.out.same (fun q hq => y7.block q (BB7.out.lt hq) (nf q (by simp [Value.ownBlock] at hq; omega) (by simp [Value.ownBlock] at hq; omega)))
  have BM8 : Hid (Bytes w7 (.slice (some ⟨g8, 0, none⟩) n c8) xs) := BM7.out.same (fun q hq => y7.block q (BM7.out.lt hq) (nf q (by simp [Value.ownBlock] at hq; omega) (by simp [Value.ownBlock] at hq; omega)))
  have X8 : Hid (Exc (fun k => w.heap.size ≤ k) w w7) := X7.out.trans (y7.mono fun k _ h => by
    rcases h with rfl | h
    · omega
    · have := fl6'.out k h; omega)
  have hU7 : w6.heap.size ≤ w7.heap.size := y7.size
  have FD7 : Hid (∀ g, d7.ownBlock = some g → U2.heap.size ≤ g) := fun g hg => Nat.le_trans hU6 (fd7 g hg)
  have N8 : Hid (NetIs w7 p 4 [⟨fro, too, d6, xs⟩, ⟨fro, too, d7, xs⟩] l7) := n7
  clear fl7 fd7 y7 n7 nf C7 D7 BB7 BM7 N7 X7 fl6'
  -- mine.Data[at]++
  obtain ⟨x0, x1, x2, _, _, _, _⟩ := D8.out.three
  have mcell : w7.cell? ⟨g8, i, none⟩ = some (.int .u8 (xs.getD i 0)) := by
    obtain ⟨g', c', hv, _, hc, _⟩ := bytes_open BM8.out (by rw [HNL.out]; omega)
    cases hv
    exact hc i (by rw [HNL.out]; exact h6)
  have mfree : w7.frozen? ⟨g8, i, none⟩ = false := by
    obtain ⟨g', c', hv, _, _, hf⟩ := bytes_open BM8.out (by rw [HNL.out]; omega)
    cases hv
    exact hf i
  generalize xs.getD i 0 = xi at *
  go_upto_region 13 with (fail)
  generalize hU3 : World.setCell w7 _ _ = U3
  have y9 : Exc (fun k => k = g8) w7 U3 := by rw [← hU3]; exact Exc.setB (fun k => k = g8) rfl (Exc.refl _ _) i _
  clear hU3 mcell mfree x0 x1 x2
  have hl7 := fl7'.out
  have C9 : Hid (BlockIs U3 C [.int .i64 fro, .int .i64 too, .slice (some ⟨g7, 0, none⟩) n c7] 41) := C8.out.exc y9 (by omega)
  have BB9 : Hid (Bytes U3 (.slice (some ⟨g7, 0, none⟩) n c7) xs) := BB8.out.same (fun q hq => y9.block q (BB8.out.lt hq) (by simp [Value.ownBlock] at hq; omega))
  have X9 : Hid (Exc (fun k => w.heap.size ≤ k) w U3) := X8.out.trans (y9.mono fun k _ h => by omega)
  have N9 : Hid (NetIs U3 p 4 [⟨fro, too, d6, xs⟩, ⟨fro, too, d7, xs⟩] l7) := N8.out.exc y9 (by omega) (fun q hq => by have := hl7 q hq; omega) (fun f hf q hq => by
    simp at hf
    rcases hf with rfl | rfl
    · have := FD6.out q hq; omega
    · have := FD7.out q hq; omega)
  have hU8 : w7.heap.size ≤ U3.heap.size := y9.size
  clear y9 C8 D8 BB8 BM8 X8 N8 hl7
  have hlen : ∀ f ∈ [(⟨fro, too, d6, xs⟩ : Fr), ⟨fro, too, d7, xs⟩], f.data.length ≤ 1000000 := fun f hf => by
    simp at hf
    rcases hf with rfl | rfl <;> (show xs.length ≤ _; rw [HNL.out]; omega)
  have hlist := list_any N9.out (by simp) hlen
  clear hlen
  go_wp2_with fail
  refine hlist.mono ?_
  rintro e w8 hp
  obtain ⟨lv, gs, rfl, ht, e8⟩ := hp
  obtain ⟨ga, gb, hgs⟩ : ∃ ga gb, gs = [ga, gb] := by
    have := congrArg List.length ht.key
    simp at this
    match gs, this with
    | [x, y], _ => exact ⟨x, y, rfl⟩
  subst hgs
  have hk := ht.key
  simp [Fr.key] at hk
  obtain ⟨⟨ka1, ka2, ka3⟩, kb1, kb2, kb3⟩ := hk
  obtain ⟨gl, cl, rfl, hgl, _⟩ := ht.row.form (by simp)
  obtain ⟨cc, hcB, _, _, _, hct, _⟩ := own_block ht.row
  have hcells : ∀ j, j < 6 → w8.cell? ⟨gl, j, none⟩ = ([.int .i64 ga.fro, .int .i64 ga.too, ga.dv, .int .i64 gb.fro, .int .i64 gb.too, gb.dv] : List Value)[j]? := fun j hj => by
    rw [hcB.cell]
    have : (cc.take (2 * 3))[j]? = cc[j]? := by rw [List.getElem?_take, if_pos (by omega)]
    rw [← this, show cc.take (2 * 3) = flat [ga, gb] from hct]
    rfl
  have la := ht.data ga (by simp)
  have lb := ht.data gb (by simp)
  rw [ka3] at la
  rw [kb3] at lb
  obtain ⟨qa, ca, hda, hqa, hqc, hqf⟩ := bytes_open la (by rw [HNL.out]; omega)
  obtain ⟨qb, cb, hdb, _, _, _⟩ := bytes_open lb (by rw [HNL.out]; omega)
  have hfa := ht.fresh ga (by simp) qa (by rw [hda]; rfl)
  have z2 : w8.cell? ⟨gl, 2, none⟩ = some (.slice (some ⟨qa, 0, none⟩) n ca) := by rw [hcells 2 (by omega), ← HNL.out, ← hda]; rfl
  have z5 : w8.cell? ⟨gl, 5, none⟩ = some (.slice (some ⟨qb, 0, none⟩) n cb) := by rw [hcells 5 (by omega), ← HNL.out, ← hdb]; rfl
  have zq : w8.cell? ⟨qa, i, none⟩ = some (.int .u8 (xs.getD i 0)) := hqc i (by rw [HNL.out]; exact h6)
  have zf := hqf i
  have C10 : Hid (BlockIs w8 C [.int .i64 fro, .int .i64 too, .slice (some ⟨g7, 0, none⟩) n c7] 41) := C9.out.ext e8
  have BB10 : Hid (Bytes w8 (.slice (some ⟨g7, 0, none⟩) n c7) xs) := BB9.out.ext e8
  have X10 : Hid (Exc (fun k => w.heap.size ≤ k) w w8) := X9.out.trans (e8.exc _)
  have N10 : Hid (NetIs w8 p 4 [⟨fro, too, d6, xs⟩, ⟨fro, too, d7, xs⟩] l7) := N9.out.ext e8
  have hqa3 : U3.heap.size ≤ qa := hfa.1
  have hlt3 : ∀ g, l7.ownBlock = some g → g < U3.heap.size := fun g hg => ownsRow_lt N9.out.row hg
  have hd6 : ∀ g, d6.ownBlock = some g → g < U3.heap.size := fun g hg => (N9.out.data ⟨fro, too, d6, xs⟩ (by simp)).lt hg
  have hd7 : ∀ g, d7.ownBlock = some g → g < U3.heap.size := fun g hg => (N9.out.data ⟨fro, too, d7, xs⟩ (by simp)).lt hg
  have hp3 : p < U3.heap.size := N9.out.head.lt
  have hg73 : g7 < U3.heap.size := BB9.out.lt rfl
  have HK : Hid ((∀ g, l7.ownBlock = some g → g < U3.heap.size) ∧ (∀ g, d6.ownBlock = some g → g < U3.heap.size) ∧ (∀ g, d7.ownBlock = some g → g < U3.heap.size)) := ⟨hlt3, hd6, hd7⟩
  have hC3 : C < U3.heap.size := C9.out.lt
  clear ht hcB hct hcells la lb hda hdb hqc hqf hfa ka1 ka2 ka3 kb1 kb2 kb3 C9 BB9 X9 N9 hlt3 hd6 hd7 hlist e8 hgl
  generalize xs.getD i 0 = xi2 at *
  go_upto_region 17 with (fail)
  generalize hU4 : World.setCell w8 _ _ = U4
  have y11 : Exc (fun k => k = qa) w8 U4 := by rw [← hU4]; exact Exc.setB (fun k => k = qa) rfl (Exc.refl _ _) i _
  clear hU4 z2 z5 zq zf
  have hK := HK.out
  have C11 : Hid (BlockIs U4 C [.int .i64 fro, .int .i64 too, .slice (some ⟨g7, 0, none⟩) n c7] 41) := C10.out.exc y11 (by omega)
  have BB11 : Hid (Bytes U4 (.slice (some ⟨g7, 0, none⟩) n c7) xs) := BB10.out.same (fun q hq => y11.block q (BB10.out.lt hq) (by simp [Value.ownBlock] at hq; omega))
  have hwU3 : w.heap.size ≤ U3.heap.size := by omega
  have X11 : Hid (Exc (fun k => w.heap.size ≤ k) w U4) := X10.out.trans (y11.mono fun k _ h => by omega)
  have N11 : Hid (NetIs U4 p 4 [⟨fro, too, d6, xs⟩, ⟨fro, too, d7, xs⟩] l7) := N10.out.exc y11 (by omega) (fun q hq => by have := hK.1 q hq; omega) (fun f hf q hq => by
    simp at hf
    rcases hf with rfl | rfl
    · have := hK.2.1 q hq; omega
    · have := hK.2.2 q hq; omega)
  clear y11 C10 BB10 X10 N10
  -- the first Take
  go_wp2_with fail
  refine (take_ok N11.out 0 (by simp) (by simp)).mono ?_
  rintro e w12 hp
  obtain ⟨l12, rfl, n12, y12, fl12⟩ := hp
  have nfoot : ∀ k, k ≠ p → (∀ g, l7.ownBlock = some g → k ≠ g) → ¬ Foot p l7 k := fun k h1 h2 h => by
    rcases h with h | h
    · exact h1 h
    · exact h2 k h rfl
  have hl7 := fl7'.out
  have hf6 := FD6.out
  have hf7 := FD7.out
  have C12 : BlockIs w12 C [.int .i64 fro, .int .i64 too, .slice (some ⟨g7, 0, none⟩) n c7] 41 := C11.out.exc y12 (nfoot C (by omega) (fun g hg => by have := hl7 g hg; omega))
  have BB12 : Bytes w12 (.slice (some ⟨g7, 0, none⟩) n c7) xs := BB11.out.same (fun q hq => y12.block q (BB11.out.lt hq) (by simp [Value.ownBlock] at hq; subst hq; exact nfoot _ (by omega) (fun g hg => by have := hl7 g hg; omega)))
  have X12 : Exc (fun k => w.heap.size ≤ k) w w12 := X11.out.trans (y12.mono fun k _ h => by
    rcases h with rfl | h
    · omega
    · have := hl7 k h; omega)
  have b6 : Bytes w12 d6 xs := (N11.out.data ⟨fro, too, d6, xs⟩ (by simp)).same (fun q hq => y12.block q ((N11.out.data ⟨fro, too, d6, xs⟩ (by simp)).lt hq) (nfoot q (by
      have := N11.out.dp ⟨fro, too, d6, xs⟩ (by simp); intro e; subst e; exact this hq) (fun g hg e => by
      subst e; exact N11.out.dl ⟨fro, too, d6, xs⟩ (by simp) _ hq hg)))
  have hdd : ∀ g, d6.ownBlock = some g → d7.ownBlock ≠ some g := by
    have := N11.out.dd
    simp at this
    exact this
  have HDD : Hid (∀ g, d6.ownBlock = some g → d7.ownBlock ≠ some g) := hdd
  obtain ⟨q6, c6, hd6, hq6, _, _⟩ := bytes_open b6 (by rw [HNL.out]; omega)
  rw [HNL.out] at hd6
  simp only [List.getElem_cons_zero]
  have n12' : NetIs w12 p 4 [⟨fro, too, d7, xs⟩] l12 := n12
  subst hd6
  have hq6U : U2.heap.size ≤ q6 := hf6 q6 rfl
  have hd7q : d7.ownBlock ≠ some q6 := hdd q6 rfl
  have hl12 : ∀ g, l12.ownBlock = some g → U2.heap.size ≤ g := fun g hg => hl7 g (by rw [← fl12]; exact hg)
  have hl12q : l12.ownBlock ≠ some q6 := fun h => N11.out.dl ⟨fro, too, .slice (some ⟨q6, 0, none⟩) n c6, xs⟩ (by simp) q6 rfl (by rw [← fl12]; exact h)
  have hpq : p ≠ q6 := fun h => N11.out.dp ⟨fro, too, .slice (some ⟨q6, 0, none⟩) n c6, xs⟩ (by simp) (by rw [h]; rfl)
  clear y12 n12 C11 BB11 X11 N11 nfoot hdd fl12
  have e13 : Ext w12 (w12.alloc (.cells #[.int .i64 fro, .int .i64 too, .slice (some ⟨q6, 0, none⟩) n c6] 41)) := (Ext.refl _).alloc _
  have E13 : Hid (BlockIs (w12.alloc (.cells #[.int .i64 fro, .int .i64 too, .slice (some ⟨q6, 0, none⟩) n c6] 41)) w12.heap.size [.int .i64 fro, .int .i64 too, .slice (some ⟨q6, 0, none⟩) n c6] 41) := BlockIs.alloc _ _ _
  have C13 : Hid (BlockIs (w12.alloc (.cells #[.int .i64 fro, .int .i64 too, .slice (some ⟨q6, 0, none⟩) n c6] 41)) C [.int .i64 fro, .int .i64 too, .slice (some ⟨g7, 0, none⟩) n c7] 41) := C12.ext e13
  have BB13 : Hid (Bytes (w12.alloc (.cells #[.int .i64 fro, .int .i64 too, .slice (some ⟨q6, 0, none⟩) n c6] 41)) (.slice (some ⟨g7, 0, none⟩) n c7) xs) := BB12.ext e13
  have B613 : Hid (Bytes (w12.alloc (.cells #[.int .i64 fro, .int .i64 too, .slice (some ⟨q6, 0, none⟩) n c6] 41)) (.slice (some ⟨q6, 0, none⟩) n c6) xs) := b6.ext e13
  have X13 : Hid (Exc (fun k => w.heap.size ≤ k) w (w12.alloc (.cells #[.int .i64 fro, .int .i64 too, .slice (some ⟨q6, 0, none⟩) n c6] 41))) := X12.trans (e13.exc _)
  have N13 : Hid (NetIs (w12.alloc (.cells #[.int .i64 fro, .int .i64 too, .slice (some ⟨q6, 0, none⟩) n c6] 41)) p 4 [⟨fro, too, d7, xs⟩] l12) := n12'.ext e13
  have hpE : p < w12.heap.size := n12'.head.lt
  have hCE : C < w12.heap.size := C12.lt
  clear e13 C12 BB12 X12 b6 n12'
  go_upto_region 18 with (fail)
  generalize World.alloc w12 _ = V5 at *
  generalize w12.heap.size = E5 at *
  obtain ⟨u0, u1, u2, _, _, _, _⟩ := E13.out.three
  obtain ⟨v0, v1, v2, _, _, _, _⟩ := C13.out.three
  have HS : Hid (Ext V5 V5.drew) := (Ext.refl V5).drew
  have OF : Hid (∀ (W' : World) (v : Value), (∃ a cap, v = .slice a n cap) → Calls Try.prog 32 #[.agg #[.int .i64 fro, .int .i64 too, v]] W' fun e w' => e = .returned (.agg #[.int .i64 fro, .int .i64 too, v]) ∧ Ext W' w') := fun W' v h => of_any fro too v n W' h
  have SM : Hid (∀ (W' : World), Ext V5 W' → Calls Try.prog 31 #[.agg #[.int .i64 fro, .int .i64 too, .slice (some ⟨q6, 0, none⟩) n c6], .agg #[.int .i64 fro, .int .i64 too, .slice (some ⟨g7, 0, none⟩) n c7]] W' fun e w' => e = .returned (.bool true) ∧ Ext W' w') := fun W' h =>
    same_true fro too _ _ xs W' (by have := (B613.out.ext h).at; exact this) (by have := (BB13.out.ext h).at; exact this) (by rw [HNL.out]; omega)
  have sK : Hid (∀ x y : World, Ext x y → (((x.cell? ⟨E5, 0, none⟩ = some (.int .i64 fro) ∧ x.cell? ⟨E5, 1, none⟩ = some (.int .i64 too) ∧ x.cell? ⟨E5, 2, none⟩ = some (.slice (some ⟨q6, 0, none⟩) n c6)) ∧ (x.cell? ⟨C, 0, none⟩ = some (.int .i64 fro) ∧ x.cell? ⟨C, 1, none⟩ = some (.int .i64 too) ∧ x.cell? ⟨C, 2, none⟩ = some (.slice (some ⟨g7, 0, none⟩) n c7))) ∧ Hid (Ext V5 x)) → (((y.cell? ⟨E5, 0, none⟩ = some (.int .i64 fro) ∧ y.cell? ⟨E5, 1, none⟩ = some (.int .i64 too) ∧ y.cell? ⟨E5, 2, none⟩ = some (.slice (some ⟨q6, 0, none⟩) n c6)) ∧ (y.cell? ⟨C, 0, none⟩ = some (.int .i64 fro) ∧ y.cell? ⟨C, 1, none⟩ = some (.int .i64 too) ∧ y.cell? ⟨C, 2, none⟩ = some (.slice (some ⟨g7, 0, none⟩) n c7))) ∧ Hid (Ext V5 y))) := fun x y h s =>
    ⟨⟨⟨h.cell_of s.1.1.1, h.cell_of s.1.1.2.1, h.cell_of s.1.1.2.2⟩, h.cell_of s.1.2.1, h.cell_of s.1.2.2.1, h.cell_of s.1.2.2.2⟩, s.2.out.trans h⟩
  have sE : Hid (∀ x : World, (((x.cell? ⟨E5, 0, none⟩ = some (.int .i64 fro) ∧ x.cell? ⟨E5, 1, none⟩ = some (.int .i64 too) ∧ x.cell? ⟨E5, 2, none⟩ = some (.slice (some ⟨q6, 0, none⟩) n c6)) ∧ (x.cell? ⟨C, 0, none⟩ = some (.int .i64 fro) ∧ x.cell? ⟨C, 1, none⟩ = some (.int .i64 too) ∧ x.cell? ⟨C, 2, none⟩ = some (.slice (some ⟨g7, 0, none⟩) n c7))) ∧ Hid (Ext V5 x)) → Ext V5 x) := fun x s => s.2.out
  go_cut [143] (fun s wc => s = .bool false ∧ Hid (Ext V5 wc))
  case first =>
    go_region_held3 (fun w' => ((w'.cell? ⟨E5, 0, none⟩ = some (.int .i64 fro) ∧ w'.cell? ⟨E5, 1, none⟩ = some (.int .i64 too) ∧ w'.cell? ⟨E5, 2, none⟩ = some (.slice (some ⟨q6, 0, none⟩) n c6)) ∧ (w'.cell? ⟨C, 0, none⟩ = some (.int .i64 fro) ∧ w'.cell? ⟨C, 1, none⟩ = some (.int .i64 too) ∧ w'.cell? ⟨C, 2, none⟩ = some (.slice (some ⟨g7, 0, none⟩) n c7))) ∧ Hid (Ext V5 w'))
      (first | exact ⟨⟨⟨u0, u1, u2⟩, v0, v1, v2⟩, HS⟩ | exact sK.out _ _ eO (by assumption))
      (first
        | (go_at_call 32; refine (OF.out _ _ ⟨_, _, rfl⟩).mono ?_; rintro e w' ⟨rfl, eO⟩)
        | (go_at_call 31; refine (SM.out _ (sE.out _ (by assumption))).mono ?_; rintro e w' ⟨rfl, eO⟩))
    go_wp2_with fail
    go_meet
    case rel => exact ⟨rfl, sE.out _ (by assumption)⟩
  case rest =>
    obtain ⟨rfl, hE6'⟩ := hcut
    have hE6 := hE6'.out
    clear hE6'
    clear sK sE u0 u1 u2 v0 v1 v2 HS
    have E14 := E13.out.ext hE6
    have C14 := C13.out.ext hE6
    have BB14 := BB13.out.ext hE6
    have B614 := B613.out.ext hE6
    have X14 := X13.out.trans (hE6.exc _)
    have N14 := N13.out.ext hE6
    obtain ⟨g', c', hv', hql, hqc, hqf⟩ := bytes_open B614 (by rw [HNL.out]; omega)
    have hqe : g' = q6 := by have := congrArg Value.ownBlock hv'; simp [Value.ownBlock] at this; omega
    clear hv'
    subst hqe
    have zq := hqc i (by rw [HNL.out]; exact h6)
    have zf := hqf i
    obtain ⟨u0, u1, u2, _, _, _, _⟩ := E14.three
    have C14' : Hid (BlockIs _ C [.int .i64 fro, .int .i64 too, .slice (some ⟨g7, 0, none⟩) n c7] 41) := C14
    have BB14' : Hid (Bytes _ (.slice (some ⟨g7, 0, none⟩) n c7) xs) := BB14
    have X14' : Hid (Exc (fun k => w.heap.size ≤ k) w _) := X14
    have N14' : Hid (NetIs _ p 4 [⟨fro, too, d7, xs⟩] l12) := N14
    clear hqc hqf E14 C14 BB14 B614 X14 N14 E13 C13 BB13 B613 X13 N13 OF SM
    generalize xs.getD i 0 = xi3 at *
    go_upto_region 21 with (fail)
    generalize hU6 : World.setCell _ _ _ = U6
    have y15 : Exc (fun k => k = g') wc U6 := by rw [← hU6]; exact Exc.setB (fun k => k = g') rfl (Exc.refl _ _) i _
    clear hU6 zq zf u0 u1 u2
    have C15 := C14'.out.exc y15 (by omega)
    have BB15 := BB14'.out.same (fun q hq => y15.block q (BB14'.out.lt hq) (by simp [Value.ownBlock] at hq; omega))
    have X15 := X14'.out.trans (y15.mono (T := fun k => w.heap.size ≤ k) fun k _ h => by omega)
    have N15 := N14'.out.exc y15 hpq (fun q hq e => hl12q (by rw [← e]; exact hq)) (fun f hf q hq e => by
      simp at hf
      subst hf
      exact hd7q (by rw [← e]; exact hq))
    clear y15 C14' BB14' X14' N14'
    go_wp2_with fail
    refine (take_ok N15 0 (by simp) (by simp)).mono ?_
    rintro e w16 hp
    obtain ⟨l16, rfl, n16, y16, fl16⟩ := hp
    have nfoot : ∀ k, k ≠ p → (∀ g, l12.ownBlock = some g → k ≠ g) → ¬ Foot p l12 k := fun k h1 h2 h => by
      rcases h with h | h
      · exact h1 h
      · exact h2 k h rfl
    have C16 := C15.exc y16 (nfoot C (by omega) (fun g hg => by have := hl12 g hg; omega))
    have BB16 := BB15.same (fun q hq => y16.block q (BB15.lt hq) (by simp [Value.ownBlock] at hq; subst hq; exact nfoot _ (by omega) (fun g hg => by have := hl12 g hg; omega)))
    have X16 := X15.trans (y16.mono (T := fun k => w.heap.size ≤ k) fun k _ h => by
      rcases h with rfl | h
      · omega
      · have := hl12 k h; omega)
    have b7 : Bytes w16 d7 xs := (N15.data ⟨fro, too, d7, xs⟩ (by simp)).same (fun q hq => y16.block q ((N15.data ⟨fro, too, d7, xs⟩ (by simp)).lt hq) (nfoot q (by
        have := N15.dp ⟨fro, too, d7, xs⟩ (by simp); intro e; subst e; exact this hq) (fun g hg e => by
        subst e; exact N15.dl ⟨fro, too, d7, xs⟩ (by simp) _ hq hg)))
    obtain ⟨q9, c9, hd9, _, _, _⟩ := bytes_open b7 (by rw [HNL.out]; omega)
    rw [HNL.out] at hd9
    simp only [List.getElem_cons_zero]
    subst hd9
    have e17 : Ext w16 (w16.alloc (.cells #[.int .i64 fro, .int .i64 too, .slice (some ⟨q9, 0, none⟩) n c9] 41)) := (Ext.refl _).alloc _
    have E13 : Hid (BlockIs (w16.alloc (.cells #[.int .i64 fro, .int .i64 too, .slice (some ⟨q9, 0, none⟩) n c9] 41)) w16.heap.size [.int .i64 fro, .int .i64 too, .slice (some ⟨q9, 0, none⟩) n c9] 41) := BlockIs.alloc _ _ _
    have C13 : Hid (BlockIs (w16.alloc (.cells #[.int .i64 fro, .int .i64 too, .slice (some ⟨q9, 0, none⟩) n c9] 41)) C [.int .i64 fro, .int .i64 too, .slice (some ⟨g7, 0, none⟩) n c7] 41) := C16.ext e17
    have BB13 : Hid (Bytes (w16.alloc (.cells #[.int .i64 fro, .int .i64 too, .slice (some ⟨q9, 0, none⟩) n c9] 41)) (.slice (some ⟨g7, 0, none⟩) n c7) xs) := BB16.ext e17
    have B913 : Hid (Bytes (w16.alloc (.cells #[.int .i64 fro, .int .i64 too, .slice (some ⟨q9, 0, none⟩) n c9] 41)) (.slice (some ⟨q9, 0, none⟩) n c9) xs) := b7.ext e17
    have X13 : Hid (Exc (fun k => w.heap.size ≤ k) w (w16.alloc (.cells #[.int .i64 fro, .int .i64 too, .slice (some ⟨q9, 0, none⟩) n c9] 41))) := X16.trans (e17.exc _)
    clear y16 n16 fl16 nfoot C16 BB16 X16 b7 e17 C15 BB15 X15 N15
    go_upto_region 22 with (fail)
    generalize World.alloc w16 _ = V6 at *
    generalize w16.heap.size = F5 at *
    obtain ⟨u0, u1, u2, _, _, _, _⟩ := E13.out.three
    obtain ⟨v0, v1, v2, _, _, _, _⟩ := C13.out.three
    have HS : Hid (Ext V6 V6.drew) := (Ext.refl V6).drew
    have OF : Hid (∀ (W' : World) (v : Value), (∃ a cap, v = .slice a n cap) → Calls Try.prog 32 #[.agg #[.int .i64 fro, .int .i64 too, v]] W' fun e w' => e = .returned (.agg #[.int .i64 fro, .int .i64 too, v]) ∧ Ext W' w') := fun W' v h => of_any fro too v n W' h
    have SM : Hid (∀ (W' : World), Ext V6 W' → Calls Try.prog 31 #[.agg #[.int .i64 fro, .int .i64 too, .slice (some ⟨q9, 0, none⟩) n c9], .agg #[.int .i64 fro, .int .i64 too, .slice (some ⟨g7, 0, none⟩) n c7]] W' fun e w' => e = .returned (.bool true) ∧ Ext W' w') := fun W' h =>
      same_true fro too _ _ xs W' (by have := (B913.out.ext h).at; rw [HNL.out] at *; exact this) (by have := (BB13.out.ext h).at; exact this) (by rw [HNL.out]; omega)
    have sK : Hid (∀ x y : World, Ext x y → (((x.cell? ⟨F5, 0, none⟩ = some (.int .i64 fro) ∧ x.cell? ⟨F5, 1, none⟩ = some (.int .i64 too) ∧ x.cell? ⟨F5, 2, none⟩ = some (.slice (some ⟨q9, 0, none⟩) n c9)) ∧ (x.cell? ⟨C, 0, none⟩ = some (.int .i64 fro) ∧ x.cell? ⟨C, 1, none⟩ = some (.int .i64 too) ∧ x.cell? ⟨C, 2, none⟩ = some (.slice (some ⟨g7, 0, none⟩) n c7))) ∧ Hid (Ext V6 x)) → (((y.cell? ⟨F5, 0, none⟩ = some (.int .i64 fro) ∧ y.cell? ⟨F5, 1, none⟩ = some (.int .i64 too) ∧ y.cell? ⟨F5, 2, none⟩ = some (.slice (some ⟨q9, 0, none⟩) n c9)) ∧ (y.cell? ⟨C, 0, none⟩ = some (.int .i64 fro) ∧ y.cell? ⟨C, 1, none⟩ = some (.int .i64 too) ∧ y.cell? ⟨C, 2, none⟩ = some (.slice (some ⟨g7, 0, none⟩) n c7))) ∧ Hid (Ext V6 y))) := fun x y h s =>
      ⟨⟨⟨h.cell_of s.1.1.1, h.cell_of s.1.1.2.1, h.cell_of s.1.1.2.2⟩, h.cell_of s.1.2.1, h.cell_of s.1.2.2.1, h.cell_of s.1.2.2.2⟩, s.2.out.trans h⟩
    have sE : Hid (∀ x : World, (((x.cell? ⟨F5, 0, none⟩ = some (.int .i64 fro) ∧ x.cell? ⟨F5, 1, none⟩ = some (.int .i64 too) ∧ x.cell? ⟨F5, 2, none⟩ = some (.slice (some ⟨q9, 0, none⟩) n c9)) ∧ (x.cell? ⟨C, 0, none⟩ = some (.int .i64 fro) ∧ x.cell? ⟨C, 1, none⟩ = some (.int .i64 too) ∧ x.cell? ⟨C, 2, none⟩ = some (.slice (some ⟨g7, 0, none⟩) n c7))) ∧ Hid (Ext V6 x)) → Ext V6 x) := fun x s => s.2.out
    go_region_held3 (fun w' => ((w'.cell? ⟨F5, 0, none⟩ = some (.int .i64 fro) ∧ w'.cell? ⟨F5, 1, none⟩ = some (.int .i64 too) ∧ w'.cell? ⟨F5, 2, none⟩ = some (.slice (some ⟨q9, 0, none⟩) n c9)) ∧ (w'.cell? ⟨C, 0, none⟩ = some (.int .i64 fro) ∧ w'.cell? ⟨C, 1, none⟩ = some (.int .i64 too) ∧ w'.cell? ⟨C, 2, none⟩ = some (.slice (some ⟨g7, 0, none⟩) n c7))) ∧ Hid (Ext V6 w'))
      (first | exact ⟨⟨⟨u0, u1, u2⟩, v0, v1, v2⟩, HS⟩ | exact sK.out _ _ eO (by assumption))
      (first
        | (go_at_call 32; refine (OF.out _ _ ⟨_, _, rfl⟩).mono ?_; rintro e w' ⟨rfl, eO⟩)
        | (go_at_call 31; refine (SM.out _ (sE.out _ (by assumption))).mono ?_; rintro e w' ⟨rfl, eO⟩))
    have hE6 := sE.out _ (by assumption)
    go_wp2_with fail
    go_ret
    exact ⟨rfl, (X13.out.trans (hE6.exc _)).ext (fun k hk => by omega)⟩

theorem owns_any (fro too at_ : Int) (v : Value) (xs : List Int) (w : World) (hv : BytesAt w v xs) (hm : xs.length ≤ 9223372036854775807) :
    Calls Try.prog 6 #[.agg #[.int .i64 fro, .int .i64 too, v], .int .i64 at_] w fun e w' => e = .returned (.bool true) ∧ Below w.heap.size w w' := by
  by_cases h : fro < 0 ∨ 6 < fro ∨ too < 0 ∨ 6 < too ∨ 512 < xs.length ∨ at_ < 0 ∨ (xs.length : Int) ≤ at_
  · exact owns_bad fro too at_ v xs w hv hm h
  · obtain ⟨i, rfl⟩ := Int.eq_ofNat_of_zero_le (by omega : 0 ≤ at_)
    exact owns_good fro too i v xs w hv (by omega) (by omega) (by omega) (by omega) (by omega) (by omega)
end Go.Proofs.Ytdbhndieommkaaa.NetW
