/- The walk of the document's Turned. -/
import Derived.Test.YtdbhndieommkaaaNetP2
namespace Go.Proofs.Ytdbhndieommkaaa.NetW
open Go.RowKit

/-- bytes that lie in none of the blocks N -/
def BytesAv (N : Nat → Prop) (w : World) (v : Value) (xs : List Int) : Prop :=
  ∃ a cap, v = .slice a xs.length cap ∧ (a = none → cap = 0) ∧ ∀ j, j < xs.length → ∃ b off, a = some ⟨b, off, none⟩ ∧ ¬ N b ∧ w.cell? ⟨b, off + j, none⟩ = some (.int .u8 (xs.getD j 0))
theorem BytesAv.at {N : Nat → Prop} {w : World} {v : Value} {xs : List Int} (h : BytesAv N w v xs) : BytesAt w v xs := by
  obtain ⟨a, cap, hv, hn, hc⟩ := h
  refine ⟨a, cap, hv, hn, fun j hj => ?_⟩
  obtain ⟨b, off, ha, _, hx⟩ := hc j hj
  exact ⟨b, off, ha, hx⟩
theorem BytesAv.ext {N : Nat → Prop} {w w' : World} {v : Value} {xs : List Int} (h : BytesAv N w v xs) (he : Ext w w') : BytesAv N w' v xs := by
  obtain ⟨a, cap, hv, hn, hc⟩ := h
  refine ⟨a, cap, hv, hn, fun j hj => ?_⟩
  obtain ⟨b, off, ha, hq, hx⟩ := hc j hj
  exact ⟨b, off, ha, hq, he.cell_of hx⟩
/-- where only blocks of S are written, and these lie in N -/
theorem BytesAv.exc {N S : Nat → Prop} {w w' : World} {v : Value} {xs : List Int} (h : BytesAv N w v xs) (he : Exc S w w') (hs : ∀ k, k < w.heap.size → S k → N k) : BytesAv N w' v xs := by
  obtain ⟨a, cap, hv, hn, hc⟩ := h
  refine ⟨a, cap, hv, hn, fun j hj => ?_⟩
  obtain ⟨b, off, ha, hq, hx⟩ := hc j hj
  refine ⟨b, off, ha, hq, ?_⟩
  rw [he.cell (p := ⟨b, off + j, none⟩) (cell_lt hx) (fun s => hq (hs b (cell_lt hx) s))]
  exact hx
theorem BytesAv.mono {N M : Nat → Prop} {w : World} {v : Value} {xs : List Int} (h : BytesAv N w v xs) (hm : ∀ k, k < w.heap.size → M k → N k) : BytesAv M w v xs := by
  obtain ⟨a, cap, hv, hn, hc⟩ := h
  refine ⟨a, cap, hv, hn, fun j hj => ?_⟩
  obtain ⟨b, off, ha, hq, hx⟩ := hc j hj
  exact ⟨b, off, ha, fun s => hq (hm b (cell_lt hx) s), hx⟩
theorem Bytes.av {N : Nat → Prop} {w : World} {v : Value} {xs : List Int} (h : Bytes w v xs) (hn : ∀ g, v.ownBlock = some g → ¬ N g) : BytesAv N w v xs := by
  obtain ⟨a, cap, hv, h0, hc⟩ := h.at
  refine ⟨a, cap, hv, h0, fun j hj => ?_⟩
  obtain ⟨b, off, ha, hx⟩ := hc j hj
  exact ⟨b, off, ha, hn b (by rw [hv, ha]; rfl), hx⟩

theorem own_block_at {U : World} {g gc : Nat} {xs : List Int} (h : Bytes U (.slice (some ⟨g, 0, none⟩) xs.length gc) xs) (j : Nat) (hj : j < xs.length) : U.cell? ⟨g, j, none⟩ = some (.int .u8 (xs.getD j 0)) ∧ U.frozen? ⟨g, j, none⟩ = false := by
  obtain ⟨a, cap, e, _, hc⟩ := h.at
  cases e
  obtain ⟨b, off, e, hx⟩ := hc j hj
  cases e
  rw [Nat.zero_add] at hx
  obtain ⟨c, hB, _⟩ := own_block h
  exact ⟨hx, hB.free j⟩
theorem turnR_bd (x : Int) (m : Nat) (hx0 : 0 ≤ x) (hx1 : x ≤ 255) (hm : m < 8) : 0 ≤ turnR x m ∧ turnR x m ≤ 255 := by
  have h := turn_eq x (m : Int) hx0 (by omega) (by omega) (by omega)
  have e : ((m : Int) % 8).toNat = m := by omega
  rw [e] at h
  rw [← h]
  exact turnI_bd _ _
theorem Bytes.ext_other {w : World} {p : Addr} {v x : Value} {xs : List Int} (h : Bytes w x xs) (hp : ∀ g, x.ownBlock = some g → g ≠ p.block) : Bytes (w.setCell p v) x xs := by
  refine h.same fun g hg => ?_
  exact ((Exc.refl (fun k => k = p.block) w).setCell (.inl rfl) v).block g (h.lt hg) (hp g hg)
theorem pw_bd (k : Nat) (h : k < 8) : (1 : Int) ≤ 2 ^ k ∧ (2 : Int) ^ k ≤ 128 := by
  have : k = 0 ∨ k = 1 ∨ k = 2 ∨ k = 3 ∨ k = 4 ∨ k = 5 ∨ k = 6 ∨ k = 7 := by omega
  rcases this with e | e | e | e | e | e | e | e <;> subst e <;> decide

def TurnPost (N : Nat → Prop) (fro too : Int) (xs : List Int) (bit : Int) (w : World) (e : Ending) (w' : World) : Prop :=
  ∃ v, e = .returned (.agg #[.int .i64 fro, .int .i64 too, v]) ∧ BytesAv N w' v (turned xs bit) ∧ Ext w w'

theorem turn_same (N : Nat → Prop) (fro too : Int) (v : Value) (xs : List Int) (bit : Int) (w : World) (hv : BytesAv N w v xs) (hb : bit < 0 ∨ (xs.length : Int) ≤ bit / 8) (hbm : bit ≤ 9223372036854775807) :
    Calls Try.prog 54 #[.agg #[.int .i64 fro, .int .i64 too, v], .int .i64 bit] w (TurnPost N fro too xs bit w) := by
  have HT : Hid (turned xs bit = xs) := by unfold turned; exact if_neg (by omega)
  have HV : Hid (BytesAv N w v xs) := hv
  obtain ⟨a, cap, rfl, _⟩ := hv
  generalize hn : xs.length = n at *
  clear hn
  have hb' : bit < 0 ∨ (0 ≤ bit ∧ (n : Int) ≤ bit / 8) := by omega
  clear hb
  rcases hb' with hb | ⟨h0, hb⟩
  all_goals
    go_enter Try.func54, Try.ntmps54
    go_wp2_with fail
    refine bodyPost_ret (v := .agg #[.int .i64 fro, .int .i64 too, .slice a n cap]) (by simp [results, Try.results54, go_sem]) rfl ⟨_, rfl, ?_, ?_⟩
    · rw [HT.out]; exact HV.out.ext (((Ext.refl _).alloc _).alloc _)
    · exact ((Ext.refl _).alloc _).alloc _

set_option maxRecDepth 100000 in
theorem turn_in (N : Nat → Prop) (fro too : Int) (v : Value) (xs : List Int) (bit : Int) (w : World) (hN : ∀ k, N k → k < w.heap.size) (hv : BytesAv N w v xs) (h0 : 0 ≤ bit) (h1 : bit / 8 < (xs.length : Int)) (hbm : bit ≤ 9223372036854775807) (hm : xs.length ≤ 1000000) (hx : ∀ x ∈ xs, 0 ≤ x ∧ x ≤ 255) :
    Calls Try.prog 54 #[.agg #[.int .i64 fro, .int .i64 too, v], .int .i64 bit] w (TurnPost N fro too xs bit w) := by
  obtain ⟨i0, hi0, hz0, hz1, hz2⟩ := info_parts infoByte
  obtain ⟨a, cap, rfl, _, hc⟩ := hv
  obtain ⟨ab, aoff, rfl, _, _⟩ := hc 0 (by omega)
  have hxi := hx (xs.getD (bit / 8).toNat 0) (by
    have : (bit / 8).toNat < xs.length := by omega
    rw [List.getD, List.getElem?_eq_getElem this]; exact List.getElem_mem this)
  have HT : Hid (turned xs bit = xs.set (bit / 8).toNat (turnR (xs.getD (bit / 8).toNat 0) (bit % 8).toNat)) := by
    unfold turned
    rw [Hid, if_pos ⟨h0, h1⟩, turn_eq _ bit hxi.1 (by omega) h0 hbm]
  have hnews : ∀ (U : World), Ext w U → ∀ j u, (xs.map (Value.int .u8))[j]? = some u → U.cell? ((⟨ab, aoff, none⟩ : Addr).add j) = some u := fun U hU j u hu => by
    have hj : j < xs.length := by
      have := (List.getElem?_eq_some_iff.1 hu).1
      simpa using this
    obtain ⟨b', o', e, _, hq⟩ := hc j hj
    cases e
    rw [Addr.add_lit, hU.cell_of hq]
    rw [List.getElem?_map, List.getElem?_eq_getElem hj] at hu
    simp at hu
    rw [← hu]
    simp [List.getD, List.getElem?_eq_getElem hj]
  have HNEWS : Hid (∀ (U : World), Ext w U → ∀ j u, (xs.map (Value.int .u8))[j]? = some u → U.cell? ((⟨ab, aoff, none⟩ : Addr).add j) = some u) := hnews
  have HONE : Hid (∀ u ∈ xs.map (Value.int .u8), u.oneCell' = true) := fun u hu => by
    obtain ⟨x, _, rfl⟩ := List.mem_map.1 hu
    rfl
  clear hnews hc
  generalize hn : xs.length = n at *
  have HNL : Hid (xs.length = n) := hn
  have HCL : Hid (∀ (U : World) (g gc : Nat), Bytes U (.slice (some ⟨g, 0, none⟩) n gc) xs → U.cell? ⟨g, (bit / 8).toNat, none⟩ = some (.int .u8 (xs.getD (bit / 8).toNat 0)) ∧ U.frozen? ⟨g, (bit / 8).toNat, none⟩ = false) := fun U g gc hU => by
    have hb := own_block_at (hn ▸ hU) (bit / 8).toNat (by omega)
    exact hb
  clear hx
  have HLEN : Hid ((xs.map (Value.int .u8)).length = n * 1) := by rw [Hid, List.length_map, Nat.mul_one]; exact hn
  clear hn
  have B1 : Hid (BlockIs ((w.alloc (.cells #[.int .i64 fro, .int .i64 too, .slice (some ⟨ab, aoff, none⟩) n cap] 53)).alloc (.cells #[.int .i64 0, .int .i64 0, .slice none 0 0] 53)) w.heap.size [.int .i64 fro, .int .i64 too, .slice (some ⟨ab, aoff, none⟩) n cap] 53) := (BlockIs.alloc w _ _).ext ((Ext.refl _).alloc _)
  have B2 : Hid (BlockIs ((w.alloc (.cells #[.int .i64 fro, .int .i64 too, .slice (some ⟨ab, aoff, none⟩) n cap] 53)).alloc (.cells #[.int .i64 0, .int .i64 0, .slice none 0 0] 53)) (w.heap.size + 1) [.int .i64 0, .int .i64 0, .slice none 0 0] 53) := BlockIs.new (by simp)
  have HE : Hid (Ext w ((w.alloc (.cells #[.int .i64 fro, .int .i64 too, .slice (some ⟨ab, aoff, none⟩) n cap] 53)).alloc (.cells #[.int .i64 0, .int .i64 0, .slice none 0 0] 53))) := ((Ext.refl _).alloc _).alloc _
  have hdiv : (bit / 8).toNat < n := by omega
  have h8 : 0 ≤ bit / 8 := by omega
  go_enter Try.func54, Try.ntmps54
  go_upto_region 1 with (fail)
  generalize World.alloc (World.alloc w _) _ = W at *
  generalize hB : w.heap.size = B at *
  obtain ⟨x0, x1, x2, xf0, xf1, xf2, xl⟩ := B1.out.three
  go_upto_region 4 with (fail)
  have hrow : W.ownsRow 0 5 1 (.slice none 0 0) 0 [] := ⟨rfl, .inl ⟨rfl, rfl⟩⟩
  go_wp2_with (at_builtin; refine wpList_append_lies _ rfl _ _ 39 rfl 0 5 i0 _ 1 1 Try.underlying39 hi0 hz0 hz1 hz2 rfl (by omega) _ 0 [] rfl hrow ⟨ab, aoff, none⟩ n cap (xs.map (Value.int .u8)) rfl HLEN.out (HNEWS.out _ HE.out) HONE.out (by omega) (by unfold maxLen; omega) (by omega) (by omega) W.heap.size rfl ?_)
  intro g gc w1 hown hgrow hat _
  have hgB : W.heap.size ≤ g := by
    rcases hat with q | q
    · exact nomatch q
    · omega
  have e1 : Ext W w1 := Ext.grown (Ext.refl W) hgrow (fun k hk => nomatch hk)
  have HBY : Hid (Bytes w1 (.slice (some ⟨g, 0, none⟩) n gc) xs) := by
    show w1.ownsRow _ _ _ _ _ _
    rw [HNL.out]
    simpa using hown
  have D1 := B1.out.ext e1
  have D2 := B2.out.ext e1
  have hBW := B1.out.lt
  clear hown hgrow hat x0 x1 x2 xf0 xf1 xf2 xl hrow
  have hBW1 := B2.out.lt
  have hgne : ¬ g = B := by omega
  have hgne1 : ¬ g = B + 1 := by omega
  clear B1 B2
  obtain ⟨x0, x1, x2, xf0, xf1, xf2, xl⟩ := D1.three
  obtain ⟨y0, y1, y2, yf0, yf1, yf2, yl⟩ := D2.three
  go_wp2_with fail
  have hk := HCL.out w1 _ _ HBY.out
  clear HCL
  obtain ⟨hcell, hfree⟩ := hk
  generalize xs.getD (bit / 8).toNat 0 = x at *
  obtain ⟨hx0, hx1⟩ := hxi
  have hm8 : 0 ≤ bit % 8 ∧ bit % 8 < 8 := by omega
  obtain ⟨m, hm, hmm⟩ : ∃ m : Nat, bit % 8 = (m : Int) ∧ m < 8 := ⟨(bit % 8).toNat, by omega, by omega⟩
  go_loop [6, 7] (fun p i => ∃ k : Nat, k ≤ m ∧ i = .int .i64 k ∧ p = .int .i64 ((2 : Int) ^ k)) (fun _ i => m - (intOf i).toNat)
  case atStart => exact ⟨0, by omega, rfl, rfl⟩
  case round =>
    obtain ⟨k, hk, rfl, rfl⟩ := hrel
    have hpw : (1 : Int) ≤ 2 ^ k ∧ (2 : Int) ^ k ≤ 128 := pw_bd k (by omega)
    have HPS : Hid ((2 : Int) ^ (k + 1) = 2 ^ k * 2) := Int.pow_succ _ _
    by_cases hlt : k < m
    · generalize (2 : Int) ^ k = P at *
      obtain ⟨hP0, hP1⟩ := hpw
      go_wp2_with fail
      go_round
      case rel => exact ⟨k + 1, by omega, by go_num, by rw [HPS.out]⟩
      case measure => simp [intOf]; omega
    · have hkm : k = m := by omega
      subst hkm
      have htb := turnR_bd x k hx0 hx1 hmm
      have htr : turnR x k = if x / 2 ^ k % 2 = 1 then x - 2 ^ k else x + 2 ^ k := rfl
      generalize (2 : Int) ^ k = P at *
      obtain ⟨hP0, hP1⟩ := hpw
      have hq0 : 0 ≤ x / P := Int.ediv_nonneg hx0 (by omega)
      have hqd : (bit % 8).toNat = k := by omega
      rw [hqd] at HT
      by_cases hodd : x / P % 2 = 1
      · rw [if_pos hodd] at htr
        rw [htr] at htb
        rw [htr] at HT
        clear htr
        obtain ⟨hb0, hb1⟩ := htb
        have hoddb : (x / P % 2 == 1) = true := by simp [hodd]
        go_upto_region 15 with (fail)
        generalize hU : World.setCell w1 _ _ = U at *
        have E1 := D1.other (p := ⟨g, (bit / 8).toNat, none⟩) (v := .int .u8 (x - P)) (fun e => hgne e.symm)
        have E2 := D2.other (p := ⟨g, (bit / 8).toNat, none⟩) (v := .int .u8 (x - P)) (fun e => hgne1 e.symm)
        rw [hU] at E1 E2
        have bU : Hid (Bytes U (.slice (some ⟨g, 0, none⟩) n gc) (turned xs bit)) := by
          rw [← hU, HT.out]
          exact bytes_set HBY.out HNL.out _ _
        have eU : Hid (Ext w U) := by
          rw [← hU]
          exact (HE.out.trans e1).setCell (by simp only; omega) _
        clear hU x0 x1 x2 xf0 xf1 xf2 xl y0 y1 y2 yf0 yf1 yf2 yl hcell hfree
        obtain ⟨x0, x1, x2, xf0, xf1, xf2, xl⟩ := E1.three
        obtain ⟨y0, y1, y2, yf0, yf1, yf2, yl⟩ := E2.three
        go_upto_region 16 with (fail)
        generalize hV : World.setCell U _ _ = V at *
        have F1 := E1.set 2 (.slice (some ⟨g, 0, none⟩) n gc)
        have F2 := E2.other (p := ⟨B, 2, none⟩) (v := .slice (some ⟨g, 0, none⟩) n gc) (by simp only; omega)
        rw [hV] at F1 F2
        have bV : Hid (Bytes V (.slice (some ⟨g, 0, none⟩) n gc) (turned xs bit)) := by
          have := Bytes.ext_other (p := ⟨B, 2, none⟩) (v := .slice (some ⟨g, 0, none⟩) n gc) bU.out (fun q hq => by cases hq; exact hgne)
          rw [hV] at this
          exact this
        have eV : Hid (Ext w V) := by
          rw [← hV]
          exact eU.out.setCell (by simp only; omega) _
        clear hV x0 x1 x2 xf0 xf1 xf2 xl y0 y1 y2 yf0 yf1 yf2 yl
        obtain ⟨x0, x1, x2, xf0, xf1, xf2, xl⟩ := F1.three
        obtain ⟨y0, y1, y2, yf0, yf1, yf2, yl⟩ := F2.three
        go_wp2_with fail
        refine bodyPost_ret (v := .agg #[.int .i64 fro, .int .i64 too, .slice (some ⟨g, 0, none⟩) n gc]) (by simp [results, Try.results54, go_sem, y0, y1, y2]) rfl ⟨_, rfl, ?_, ?_⟩
        · refine Bytes.av (Bytes.ext_other (Bytes.ext_other (Bytes.ext_other bV.out ?_) ?_) ?_) ?_
          · intro q hq; cases hq; exact hgne1
          · intro q hq; cases hq; exact hgne1
          · intro q hq; cases hq; exact hgne1
          · intro q hq hn
            cases hq
            have hlt : g < B := hN _ hn
            omega
        · exact ((eV.out.setCell (by simp only; omega) _).setCell (by simp only; omega) _).setCell (by simp only; omega) _
      · rw [if_neg hodd] at htr
        rw [htr] at htb
        rw [htr] at HT
        clear htr
        obtain ⟨hb0, hb1⟩ := htb
        have hoddb : (x / P % 2 == 1) = false := by simp [hodd]
        go_upto_region 15 with (fail)
        generalize hU : World.setCell w1 _ _ = U at *
        have E1 := D1.other (p := ⟨g, (bit / 8).toNat, none⟩) (v := .int .u8 (x + P)) (fun e => hgne e.symm)
        have E2 := D2.other (p := ⟨g, (bit / 8).toNat, none⟩) (v := .int .u8 (x + P)) (fun e => hgne1 e.symm)
        rw [hU] at E1 E2
        have bU : Hid (Bytes U (.slice (some ⟨g, 0, none⟩) n gc) (turned xs bit)) := by
          rw [← hU, HT.out]
          exact bytes_set HBY.out HNL.out _ _
        have eU : Hid (Ext w U) := by
          rw [← hU]
          exact (HE.out.trans e1).setCell (by simp only; omega) _
        clear hU x0 x1 x2 xf0 xf1 xf2 xl y0 y1 y2 yf0 yf1 yf2 yl hcell hfree
        obtain ⟨x0, x1, x2, xf0, xf1, xf2, xl⟩ := E1.three
        obtain ⟨y0, y1, y2, yf0, yf1, yf2, yl⟩ := E2.three
        go_upto_region 16 with (fail)
        generalize hV : World.setCell U _ _ = V at *
        have F1 := E1.set 2 (.slice (some ⟨g, 0, none⟩) n gc)
        have F2 := E2.other (p := ⟨B, 2, none⟩) (v := .slice (some ⟨g, 0, none⟩) n gc) (by simp only; omega)
        rw [hV] at F1 F2
        have bV : Hid (Bytes V (.slice (some ⟨g, 0, none⟩) n gc) (turned xs bit)) := by
          have := Bytes.ext_other (p := ⟨B, 2, none⟩) (v := .slice (some ⟨g, 0, none⟩) n gc) bU.out (fun q hq => by cases hq; exact hgne)
          rw [hV] at this
          exact this
        have eV : Hid (Ext w V) := by
          rw [← hV]
          exact eU.out.setCell (by simp only; omega) _
        clear hV x0 x1 x2 xf0 xf1 xf2 xl y0 y1 y2 yf0 yf1 yf2 yl
        obtain ⟨x0, x1, x2, xf0, xf1, xf2, xl⟩ := F1.three
        obtain ⟨y0, y1, y2, yf0, yf1, yf2, yl⟩ := F2.three
        go_wp2_with fail
        refine bodyPost_ret (v := .agg #[.int .i64 fro, .int .i64 too, .slice (some ⟨g, 0, none⟩) n gc]) (by simp [results, Try.results54, go_sem, y0, y1, y2]) rfl ⟨_, rfl, ?_, ?_⟩
        · refine Bytes.av (Bytes.ext_other (Bytes.ext_other (Bytes.ext_other bV.out ?_) ?_) ?_) ?_
          · intro q hq; cases hq; exact hgne1
          · intro q hq; cases hq; exact hgne1
          · intro q hq; cases hq; exact hgne1
          · intro q hq hn
            cases hq
            have hlt : g < B := hN _ hn
            omega
        · exact ((eV.out.setCell (by simp only; omega) _).setCell (by simp only; omega) _).setCell (by simp only; omega) _
end Go.Proofs.Ytdbhndieommkaaa.NetW
