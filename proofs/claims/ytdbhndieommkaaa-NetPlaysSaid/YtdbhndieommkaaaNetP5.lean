/- The walk of First. -/
import Derived.Test.YtdbhndieommkaaaNetP4
import Derived.Test.YtdbhndieommkaaaCrewL
namespace Go.Proofs.Ytdbhndieommkaaa.NetW
open Go.RowKit
open CrewW (hasB)

/-- is a frame among some replicas? -/
def Fr.among (up : Int) (f : Fr) : Bool := hasB up f.fro && hasB up f.too
def idxF (up : Int) (fs : List Fr) : Int := if fs.any (Fr.among up) then (fs.findIdx (Fr.among up) : Nat) else -1
def noFr : Fr := ⟨0, 0, .slice none 0 0, []⟩
theorem getFr (fs : List Fr) (k : Nat) (h : k < fs.length) : fs.getD k noFr = fs[k] := by simp [List.getD, List.getElem?_eq_getElem h]
theorem idxF_at (up : Int) (fs : List Fr) (k : Nat) (h : k < fs.length) (ha : ∀ j, j < k → (fs.getD j noFr).among up = false) (hk : (fs.getD k noFr).among up = true) : idxF up fs = (k : Int) := by
  rw [getFr fs k h] at hk
  replace ha : ∀ j (hj : j < k), fs[j].among up = false := fun j hj => by
    have := ha j hj
    rwa [getFr fs j (by omega)] at this
  have e : fs.findIdx (Fr.among up) = k := by
    rw [List.findIdx_eq h]
    exact ⟨hk, fun j hj => ha j hj⟩
  have n : fs.any (Fr.among up) = true := List.any_eq_true.2 ⟨_, List.getElem_mem h, hk⟩
  unfold idxF
  rw [n, e]; simp
theorem idxF_none (up : Int) (fs : List Fr) (h : ∀ j, j < fs.length → (fs.getD j noFr).among up = false) : idxF up fs = -1 := by
  have n : fs.any (Fr.among up) = false := by
    rw [List.any_eq_false]
    intro f hf
    obtain ⟨j, hj, rfl⟩ := List.getElem_of_mem hf
    have := h j hj
    rw [getFr fs j hj] at this
    rw [this]; simp
  unfold idxF
  rw [n]; simp

theorem first1_any (up fro too : Int) (v : Value) (hv : ∃ a n c, v = .slice a n c) (q : Nat) (w : World) (hq : w.cell? ⟨q, 0, none⟩ = some (.int .u8 up)) :
    Calls Try.prog 57 #[.agg #[.int .i64 fro, .int .i64 too, v], .pointer (some ⟨q, 0, none⟩)] w fun e w' => e = .returned (.bool (hasB up fro && hasB up too)) ∧ Ext w w' := by
  obtain ⟨a, n, c, rfl⟩ := hv
  have B : BlockIs (w.alloc (.cells #[.int .i64 fro, .int .i64 too, .slice a n c] 41)) w.heap.size [.int .i64 fro, .int .i64 too, .slice a n c] 41 := BlockIs.alloc w _ _
  have HE : Hid (Ext w (w.alloc (.cells #[.int .i64 fro, .int .i64 too, .slice a n c] 41))) := (Ext.refl _).alloc _
  have hq2 := HE.out.cell_of hq
  go_enter Try.func57, Try.ntmps57
  go_upto_region 1 with (fail)
  generalize World.alloc w _ = W at *
  generalize w.heap.size = b at *
  obtain ⟨x0, x1, x2, _, _, _, _⟩ := B.three
  clear B hq
  cases hA : hasB up fro
  all_goals
    go_wp2_with (go_at_call 19; refine (CrewW.has_any _ _ _).mono ?_; rintro e w' ⟨rfl, rfl⟩)
    go_ret
    exact ⟨by rw [hA]; rfl, HE.out⟩

theorem indexF_any (up : Int) (q : Nat) {w : World} {v : Value} {fs : List Fr} (h : w.ownsRow 0 41 3 v fs.length (flat fs)) (hm : fs.length ≤ 1000000) (hd : ∀ f ∈ fs, ∃ a n c, f.dv = .slice a n c) (hq : w.cell? ⟨q, 0, none⟩ = some (.int .u8 up)) :
    Calls Try.prog 56 #[v, .func (.func 57) #[] #[.pointer (some ⟨q, 0, none⟩)]] w fun e w' => e = .returned (.int .i64 (idxF up fs)) ∧ Ext w w' := by
  have HC : Hid (∀ k, k < fs.length → ∃ g cap, v = .slice (some ⟨g, 0, none⟩) fs.length cap ∧ w.cell? ⟨g, k * 3, none⟩ = some (.int .i64 (fs.getD k noFr).fro) ∧ w.cell? ⟨g, k * 3 + 1, none⟩ = some (.int .i64 (fs.getD k noFr).too) ∧ w.cell? ⟨g, k * 3 + 2, none⟩ = some (fs.getD k noFr).dv) := fun k hk => by
    obtain ⟨g, cap, rfl, _, hgl⟩ := h.form (by omega)
    have hc : ∀ j, j < 3 → w.cell? ⟨g, k * 3 + j, none⟩ = (fs[k].cells)[j]? := fun j hj => by
      have h2 := flat_at fs k j hk hj
      rw [← h2]
      have h3 : (flat fs)[k * 3 + j]? = some ((flat fs)[k * 3 + j]'(by rw [flat_length]; omega)) := List.getElem?_eq_getElem _
      have := h.cells (g := g) rfl _ _ h3
      rw [Addr.add_lit, Nat.zero_add] at this
      rw [h3, this]
    rw [getFr fs k hk]
    exact ⟨g, cap, rfl, hc 0 (by omega), hc 1 (by omega), hc 2 (by omega)⟩
  have HD : Hid (∀ k, k < fs.length → ∃ a n c, (fs.getD k noFr).dv = .slice a n c) := fun k hk => by rw [getFr fs k hk]; exact hd _ (List.getElem_mem hk)
  have HI : Hid (∀ k, k < fs.length → (∀ j, j < k → (fs.getD j noFr).among up = false) → (fs.getD k noFr).among up = true → idxF up fs = (k : Int)) := fun k hk => idxF_at up fs k hk
  have HZ : Hid ((∀ j, j < fs.length → (fs.getD j noFr).among up = false) → idxF up fs = -1) := idxF_none up fs
  obtain ⟨va, vc, rfl⟩ := row_form h
  clear h hd
  generalize fs.length = n at *
  go_enter Try.func56, Try.ntmps56
  go_wp2_with fail
  go_loopw [8] (fun i wr => ∃ k : Nat, k ≤ n ∧ i = .int .i64 k ∧ Hid (Ext w wr ∧ ∀ j, j < k → (fs.getD j noFr).among up = false)) (fun i _ => n - (intOf i).toNat)
  case atStart => exact ⟨0, Nat.zero_le _, rfl, Ext.refl _, fun j hj => by omega⟩
  case round =>
    obtain ⟨k, hk, rfl, H⟩ := hrel
    by_cases hlt : k < n
    · obtain ⟨g, cap, e, k0, k1, k2⟩ := HC.out k hlt
      obtain ⟨da, dn, dc, hdv⟩ := HD.out k hlt
      cases e
      have HI2 := HI.out k hlt H.out.2
      have HM : Hid (∀ j, j < k → (fs.getD j noFr).among up = false) := H.out.2
      have c0 := H.out.1.cell_of k0
      have c1 := H.out.1.cell_of k1
      have c2 := H.out.1.cell_of k2
      rw [hdv] at c2
      have hq2 := H.out.1.cell_of hq
      have HF := first1_any up (fs.getD k noFr).fro (fs.getD k noFr).too (.slice da dn dc) ⟨_, _, _, rfl⟩ q wr hq2
      have HY : Hid ((fs.getD k noFr).among up = (hasB up (fs.getD k noFr).fro && hasB up (fs.getD k noFr).too)) := rfl
      clear k0 k1 k2 hdv
      generalize hF : fs.getD k noFr = f at *
      have HF0 : Hid (fs.getD k noFr = f) := hF
      clear hF
      have HE := H.out.1
      cases hb : (hasB up f.fro && hasB up f.too)
      · rw [hb] at HF HY
        clear HI2
        go_wp2_with (go_at_call 57; refine HF.mono ?_; rintro e w1 ⟨rfl, e1⟩)
        go_roundw
        case rel => exact ⟨k + 1, by omega, by go_num, HE.trans e1, fun j hj => by
          rcases Nat.lt_or_ge j k with q | q
          · exact HM.out j q
          · have : j = k := by omega
            subst this
            rw [HF0.out]
            exact HY.out⟩
        case measure => simp [intOf]; omega
      · have HI3 : Hid (idxF up fs = (k : Int)) := HI2 (by rw [← hb]; exact HY.out)
        rw [hb] at HF
        clear HI2
        go_wp2_with (go_at_call 57; refine HF.mono ?_; rintro e w1 ⟨rfl, e1⟩)
        go_ret
        exact ⟨by rw [HI3.out]; rfl, HE.trans e1⟩
    · have hkn : k = n := by omega
      subst hkn
      have HX : Hid (idxF up fs = -1) := HZ.out H.out.2
      have HE := H.out.1
      go_wp2_with fail
      go_ret
      exact ⟨by rw [HX.out]; rfl, HE⟩

theorem first_any (up : Int) {w : World} {p : Nat} {limit : Int} {fs : List Fr} {lv : Value} (h : NetIs w p limit fs lv) (hmax : fs.length ≤ 1000000) :
    Calls Try.prog 35 #[.pointer (some ⟨p, 0, none⟩), .int .u8 up] w fun e w' => e = .returned (.tuple #[.int .i64 (max (idxF up fs) 0), .bool (decide (0 ≤ idxF up fs))]) ∧ Ext w w' := by
  have hmf : ∀ (fn : Fn) (first cap : Array Value) (w : World), (Instr.makeFunc fn first cap).run Try.prog w = .ok (.func fn first cap) w := fun _ _ _ _ => rfl
  have hN := h.ext ((Ext.refl w).alloc (.cells #[.int .u8 up] 27))
  have BQ : BlockIs (w.alloc (.cells #[.int .u8 up] 27)) w.heap.size [.int .u8 up] 27 := BlockIs.alloc w _ _
  have HE : Hid (Ext w (w.alloc (.cells #[.int .u8 up] 27))) := (Ext.refl _).alloc _
  have hI := indexF_any up w.heap.size hN.row hmax (fun f hf => by obtain ⟨a, c, e⟩ := row_form (hN.data f hf); exact ⟨a, _, c, e⟩) (BQ.cell 0)
  obtain ⟨p0, p1, _, _, _⟩ := hN.head.two
  obtain ⟨a, cap, rfl⟩ := row_form h.row
  clear hN h BQ
  generalize idxF up fs = ix at *
  go_enter Try.func35, Try.ntmps35
  go_upto_region 1 with (fail)
  go_wp2_with (go_at_call 56; refine hI.mono ?_; rintro e w1 ⟨rfl, e1⟩)
  go_ret2
  exact ⟨rfl, HE.out.trans e1⟩
end Go.Proofs.Ytdbhndieommkaaa.NetW
