/- GraJ, Drawn, Grow, joined. -/
import Derived.Test.YtgicohkmfbbbdaaK14
import Derived.Lone
import Derived.RunT
import Derived.Calls
import Derived.Test.YtgicohkmfbbbdaaK1
import Derived.Test.YtgicohkmfbbbdaaK3
import Derived.Lib.QuietBelow
import Derived.Sort.Grow
section
namespace Go.Proofs.Ytgicohkmfbbbdaa.Gr
open Go.RowKit
open Tar (TS up up_same up_other)
set_option linter.unusedSimpArgs false
set_option linter.unusedVariables false
attribute [-go_sem] run_eql_struct run_neq_struct run_eqGuard_agg

theorem white_le {nx : Nat → List Nat} {num : Nat → Nat} (h : ∀ x, (nx x).length ≤ 7) : ∀ n, Tar.white nx num n ≤ 9 * n
  | 0 => by simp [Tar.white]
  | n + 1 => by
    have ih := white_le (num := num) h n
    unfold Tar.white at *
    rw [List.range_succ, List.map_append, List.sum_append]
    simp only [List.map_cons, List.map_nil, List.sum_cons, List.sum_nil, Nat.add_zero]
    have := h n
    split <;> omega
theorem nx7 {N : List Nd} (h : ∀ (i : Nat) (d : Nd), N[i]? = some d → d.nx.length ≤ 7) (x : Nat) : (nxF N x).length ≤ 7 := by
  unfold nxF
  split
  · rename_i d hd; exact h x d hd
  · simp
/-- what is so while all knots are found -/
structure Going (N : List Nd) (s : TS) (i : Nat) : Prop where
  inv : Tar.Inv (nxF N) N.length s
  seen : ∀ j, j < i → s.num j ≠ 0
  most : s.count + s.found + Tar.M (nxF N) N.length s ≤ 9 * N.length
theorem Going.sm {N : List Nd} {s : TS} {i : Nat} (h : Going N s i) (hn : N.length ≤ 1000) : Sm N s := by
  have h1 := h.most
  have h2 := h.inv.stl
  have h3 := h.inv.wkl
  exact ⟨hn, by omega, by omega, by omega, by omega⟩
def RnRel (w : World) (kp : Nat) (ax : Option Addr) (cap : Nat) (sv0 wv0 : Value) (N : List Nd) (k : Nat) (u : Value) (wr : World) : Prop :=
  ∃ (i : Nat) (s : TS) (sv wv : Value), u = .int .i64 i ∧ i + k = N.length ∧ Going N s i ∧ s.wk = [] ∧ At [KnP kp ax cap sv0 wv0 N TS.start] w [KnP kp ax cap sv wv N s] wr
def RmRel (w : World) (kp : Nat) (ax : Option Addr) (cap : Nat) (sv0 wv0 : Value) (N : List Nd) (i : Nat) (k : Nat) (wr : World) : Prop :=
  ∃ (s : TS) (sv wv : Value), Tar.M (nxF N) N.length s ≤ k ∧ Going N s (i + 1) ∧ At [KnP kp ax cap sv0 wv0 N TS.start] w [KnP kp ax cap sv wv N s] wr
def RunPost (kp : Nat) (ax : Option Addr) (cap : Nat) (sv0 wv0 : Value) (N : List Nd) (w : World) (e : Ending) (w' : World) : Prop :=
  ∃ (s : TS) (sv wv : Value), e = .returned (.tuple #[]) ∧ Tar.Kn (nxF N) N.length s.knot s.found ∧ s.found ≤ 9 * N.length ∧ At [KnP kp ax cap sv0 wv0 N TS.start] w [KnP kp ax cap sv wv N s] w'
set_option maxRecDepth 100000 in
set_option maxHeartbeats 4000000 in
theorem run_any {w : World} {kp : Nat} {ax : Option Addr} {cap : Nat} {sv0 wv0 : Value} {N : List Nd} (h : Sep [KnP kp ax cap sv0 wv0 N TS.start] w) (hnn : ∀ x, x < N.length → ∀ y ∈ nxF N x, y < N.length) (hn : N.length ≤ 1000) (hnx : ∀ (i : Nat) (d : Nd), N[i]? = some d → d.nx.length ≤ 7) :
    Calls Try.prog 43 #[.pointer (some ⟨kp, 0, none⟩)] w (RunPost kp ax cap sv0 wv0 N w) := by
  have hA := kn_begin h
  have hg0 : Going N TS.start 0 := ⟨Tar.inv_start _ _, nofun, by
    have := white_le (num := fun _ => 0) (nx7 hnx) N.length
    show 0 + 0 + (Tar.white (nxF N) (fun _ => 0) N.length + 0) ≤ _
    omega⟩
  have hnn' := Lib.hid hnn
  have hnx' := Lib.hid hnx
  have hg0' := Lib.hid hg0
  clear h hnn hnx hg0
  (try simp only [uA] at hA); have hF := hA.facts; (try simp only [fZ] at hF)
  go_enter Try.func43, Try.ntmps43
  go_wp2_with (first | ((with_reducible refine gst ?_); refine wS hA ?_; clear hF hA; intro w1 hA; (try simp only [uA] at hA); have hF := hA.facts; (try simp only [fZ] at hF)) | ((with_reducible refine gbx ?_); refine wB hA ?_; clear hF hA; intro b1 w1 hA hb1; (try simp only [uA] at hA); have hF := hA.facts; (try simp only [fZ] at hF)))
  try go_frame
  have hB := kn_end (hA.pick pZ)
  clear hF hA; have hA := hB; clear hB
  go_loopg [8] N.length (RnRel w kp ax cap sv0 wv0 N)
  case atStart => exact ⟨0, TS.start, sv0, wv0, rfl, by omega, hg0'.out, rfl, hA⟩
  case round =>
    obtain ⟨i, s, sv, wv, rfl, hik, hgo, hwk, hB⟩ := hrel
    have hgo' := Lib.hid hgo
    have hwk' := Lib.hid hwk
    have hsm := Lib.hid (hgo.sm hn)
    clear hA hgo hwk; have hA := hB; clear hB
    by_cases hi : i < N.length
    · obtain ⟨d, hd⟩ : ∃ d, N[i]? = some d := ⟨_, List.getElem?_eq_getElem hi⟩
      have hB : At _ w [kHead kp ax cap sv wv N s, kRow ax cap N s, restX N, rowX sv s.stk.reverse, rowF wv s.wk.reverse] wr := hA.to (kn_eqv kp ax cap sv wv N s [])
      clear hA
      obtain ⟨bN, c, hax, hc1, hc2, hc3, hc4, hA⟩ := hB.row_open (e := 100) (size := 7) (ax := ax) (cap := cap) (n := N.length) (xs := flatN (ndL N s)) sZ (by omega)
      clear hB
      have hc4' : c.take ((ndL N s).length * 7) = flatN (ndL N s) := by rw [ndL_len]; exact hc4
      have hnm : c[i * 7 + 4]? = some (.int .i64 (s.num i)) := cells_at Nd.cells_len hc4' (ndL_get hd s) 4 (by omega)
      have hd' := Lib.hid hd
      have hc4h := Lib.hid hc4
      have hax' := Lib.hid hax
      clear hc4 hc4' hd
      obtain ⟨pn, hpn⟩ : ∃ z, decide (0 < s.num i) = z := ⟨_, rfl⟩
      have hpn' := Lib.hid hpn
      have hpi : decide ((0 : Int) < (s.num i : Int)) = pn := by rw [← hpn, Bool.eq_iff_iff]; simp
      subst hax
      (try simp only [uA] at hA); have hF := hA.facts; (try simp only [fZ] at hF)
      cases pn
      · have hz := Lib.hid (show s.num i = 0 from by have := hpn'.out; simp at this; omega)
        go_wp2_with (first | ((with_reducible refine gst ?_); refine wS hA ?_; clear hF hA; intro w1 hA; (try simp only [uA] at hA); have hF := hA.facts; (try simp only [fZ] at hF)) | ((with_reducible refine gbx ?_); refine wB hA ?_; clear hF hA; intro b1 w1 hA hb1; (try simp only [uA] at hA); have hF := hA.facts; (try simp only [fZ] at hF)))
        have hR := hA.row_shut (e := 100) (size := 7) (g := bN) (c := c) (n := N.length) (cap := cap) (xs := flatN (ndL N s)) sZ hc3 hc1 hc2 hc4h.out
        have hB := kn_end (hR.pick pZ)
        clear hF hA hR; have hA := hB; clear hB
        refine (enter_any (hA.sep1 .here) hd'.out hsm.out).mono ?_
        rintro e w1 ⟨sv1, wv1, rfl, hT⟩
        have hB := hA.call1 .here hT
        clear hA hT; have hA := hB; clear hB
        simp only [List.cons_append, List.nil_append] at hA
        have hg1 : Going N (Tar.enter s i) (i + 1) := by
          have hgg := hgo'.out
          have hm := Tar.M_enter (nx := nxF N) (n := N.length) (s := s) hi hz.out
          refine ⟨Tar.inv_enter hgg.inv hi hz.out (fun u b w' e => by rw [hwk'.out] at e; cases e), fun j hj => ?_, ?_⟩
          · show up s.num i (s.count + 1) j ≠ 0
            by_cases e : j = i
            · subst e; rw [up_same]; omega
            · rw [up_other _ _ e]; exact hgg.seen j (by omega)
          · have := hgg.most
            show s.count + 1 + s.found + Tar.M (nxF N) N.length (Tar.enter s i) ≤ _
            omega
        have hg1' := Lib.hid hg1
        clear hg1
        go_wp2_with (first | ((with_reducible refine gst ?_); refine wS hA ?_; clear hF hA; intro w1 hA; (try simp only [uA] at hA); have hF := hA.facts; (try simp only [fZ] at hF)) | ((with_reducible refine gbx ?_); refine wB hA ?_; clear hF hA; intro b1 w1 hA hb1; (try simp only [uA] at hA); have hF := hA.facts; (try simp only [fZ] at hF)))
        try go_frame
        have hikG : i + 1 + (gk - 1) = N.length := by omega
        obtain ⟨G, hG⟩ : ∃ G, gk - 1 = G := ⟨_, rfl⟩
        rw [hG] at hikG
        have hGk := Lib.hid (show G < gk by omega)
        clear hG hik hnm
        go_loopg [] (Tar.M (nxF N) N.length (Tar.enter s i)) (RmRel w kp (some ⟨bN, 0, none⟩) cap sv0 wv0 N i)
        case atStart => exact ⟨Tar.enter s i, sv1, wv1, Nat.le_refl _, hg1'.out, hA⟩
        case round =>
          obtain ⟨s2, sv2, wv2, hM, hgo2, hB⟩ := hrel
          have hgo2' := Lib.hid hgo2
          have hM' := Lib.hid hM
          clear hA hgo2 hM
          have hA : At _ w [kHead kp (some ⟨bN, 0, none⟩) cap sv2 wv2 N s2, kRow (some ⟨bN, 0, none⟩) cap N s2, restX N, rowX sv2 s2.stk.reverse, rowF wv2 s2.wk.reverse] _ := hB.to (kn_eqv kp (some ⟨bN, 0, none⟩) cap sv2 wv2 N s2 [])
          clear hB
          obtain ⟨axw, capw, hwv, _, _, _⟩ := hA.row_form (e := 131) (size := 2) (n := s2.wk.reverse.length) (v := wv2) (xs := flatF s2.wk.reverse) sZ
          subst hwv
          have hwlen : s2.wk.reverse.length = s2.wk.length := List.length_reverse
          rw [hwlen] at hA
          clear hwlen
          (try simp only [uA] at hA); have hF := hA.facts; (try simp only [fZ] at hF)
          by_cases hwz : 0 < s2.wk.length
          · have hwz' := Lib.hid (show s2.wk ≠ [] from fun e => by rw [e] at hwz; simp at hwz)
            go_wp2_with (first | ((with_reducible refine gst ?_); refine wS hA ?_; clear hF hA; intro w1 hA; (try simp only [uA] at hA); have hF := hA.facts; (try simp only [fZ] at hF)) | ((with_reducible refine gbx ?_); refine wB hA ?_; clear hF hA; intro b1 w1 hA hb1; (try simp only [uA] at hA); have hF := hA.facts; (try simp only [fZ] at hF)))
            have hB := kn_end (hA.pick pZ)
            clear hF hA; have hA := hB; clear hB
            have hwt := Lib.hid (Tar.went_step hnn'.out hgo2'.out.inv hwz'.out)
            have hsm2 := hgo2'.out.sm hn
            refine (step_any (s := s2) (sv := sv2) (wv := .slice axw s2.wk.length capw) (hA.sep1 .here) hgo2'.out.inv hnn'.out hwz'.out hsm2 (fun i d h => Nat.le_trans (hnx'.out i d h) (by omega))).mono ?_
            rintro e w1 ⟨sv3, wv3, rfl, hT⟩
            have hB := hA.call1 .here hT
            clear hA hT hsm2; have hA := hB; clear hB
            simp only [List.cons_append, List.nil_append] at hA
            go_wp2_with (first | ((with_reducible refine gst ?_); refine wS hA ?_; clear hF hA; intro w1 hA; (try simp only [uA] at hA); have hF := hA.facts; (try simp only [fZ] at hF)) | ((with_reducible refine gbx ?_); refine wB hA ?_; clear hF hA; intro b1 w1 hA hb1; (try simp only [uA] at hA); have hF := hA.facts; (try simp only [fZ] at hF)))
            go_roundg (Tar.M (nxF N) N.length (Tar.step (nxF N) s2))
            case measure => exact Nat.lt_of_lt_of_le hwt.out.less hM'.out
            case rel => exact ⟨_, sv3, wv3, Nat.le_refl _, ⟨hwt.out.inv, fun j hj => hwt.out.seen j (hgo2'.out.seen j hj), Nat.le_trans hwt.out.most hgo2'.out.most⟩, hA⟩
          · have hwe : s2.wk = [] := List.eq_nil_of_length_eq_zero (by omega)
            have hwe' := Lib.hid hwe
            clear hwe
            go_wp2_with (first | ((with_reducible refine gst ?_); refine wS hA ?_; clear hF hA; intro w1 hA; (try simp only [uA] at hA); have hF := hA.facts; (try simp only [fZ] at hF)) | ((with_reducible refine gbx ?_); refine wB hA ?_; clear hF hA; intro b1 w1 hA hb1; (try simp only [uA] at hA); have hF := hA.facts; (try simp only [fZ] at hF)))
            go_roundg G
            case measure => exact hGk.out
            case rel => exact ⟨i + 1, s2, sv2, .slice axw s2.wk.length capw, by simp, hikG, hgo2'.out, hwe'.out, kn_end (hA.pick pZ)⟩
      · have hz := Lib.hid (show s.num i ≠ 0 from by have := hpn'.out; simp at this; omega)
        go_wp2_with (first | ((with_reducible refine gst ?_); refine wS hA ?_; clear hF hA; intro w1 hA; (try simp only [uA] at hA); have hF := hA.facts; (try simp only [fZ] at hF)) | ((with_reducible refine gbx ?_); refine wB hA ?_; clear hF hA; intro b1 w1 hA hb1; (try simp only [uA] at hA); have hF := hA.facts; (try simp only [fZ] at hF)))
        go_roundg (gk - 1)
        case measure => omega
        case rel =>
          have hR := hA.row_shut (e := 100) (size := 7) (g := bN) (c := c) (n := N.length) (cap := cap) (xs := flatN (ndL N s)) sZ hc3 hc1 hc2 hc4h.out
          exact ⟨i + 1, s, sv, wv, by simp, by omega, ⟨hgo'.out.inv, fun j hj => if e : j = i then by rw [e]; exact hz.out else hgo'.out.seen j (by omega), hgo'.out.most⟩, hwk'.out, kn_end (hR.pick pZ)⟩
    · have hi2 : i = N.length := by omega
      go_wp2_with (first | ((with_reducible refine gst ?_); refine wS hA ?_; clear hF hA; intro w1 hA; (try simp only [uA] at hA); have hF := hA.facts; (try simp only [fZ] at hF)) | ((with_reducible refine gbx ?_); refine wB hA ?_; clear hF hA; intro b1 w1 hA hb1; (try simp only [uA] at hA); have hF := hA.facts; (try simp only [fZ] at hF)))
      go_end0
      have hgg := hgo'.out
      exact ⟨s, sv, wv, rfl, Tar.kn_final hnn'.out hgg.inv hwk'.out (fun x hx => hgg.seen x (by omega)), by have := hgg.most; omega, hA⟩
end Go.Proofs.Ytgicohkmfbbbdaa.Gr
end

section
namespace Go.Proofs.Ytgicohkmfbbbdaa
set_option linter.unusedVariables false
set_option linter.unusedSimpArgs false

/-! ### One operation -/
def resW {α : Type} : Result α → World
  | .ok _ w => w
  | .halt _ w => w
theorem ask_drawn {α : Type} : ∀ (x : Ask α) (w : World), w.drawn ≤ (w.ask x).2.drawn
  | .done a, w => Nat.le_refl _
  | .ask what range k, w => by
    unfold World.ask
    simp only []
    split
    · exact ask_drawn _ _
    · exact Nat.le_trans (Nat.le_succ _) (ask_drawn _ { w with drawn := w.drawn + 1 })
theorem sys_drawn (w : World) (c : Sys) : w.drawn ≤ (w.sys c).2.drawn := by
  unfold World.sys
  have h := ask_drawn (Kernel.perform c w.os) w
  split
  · exact Nat.le_refl _
  · rename_i he
    rw [he] at h
    exact h
theorem viewStore_drawn {p : Program} {w : World} {at_ : Addr} {u : TypeId} {k : Addr} {v : Value} {atomic : Bool} {r : World × List Addr} (h : w.viewStore p at_ u k v atomic = .ok r) : r.1.drawn = w.drawn := by
  unfold World.viewStore at h
  simp only [bind, Except.bind, pure, Except.pure, throw, throwThe, MonadExceptOf.throw] at h
  repeat' first
    | (cases h; done)
    | (cases h; rfl)
    | (simp at h; done)
    | split at h
theorem farStore_drawn {p : Program} {w : World} {a : Addr} {v : Value} {atomic : Bool} {r : World × List Addr} (h : w.farStore p a v atomic = .ok r) : r.1.drawn = w.drawn := by
  unfold World.farStore at h
  split at h
  · split at h
    · rename_i hv
      cases h
      exact viewStore_drawn hv
    · exact nomatch h
  · exact nomatch h
theorem run_drawn {α : Type} (p : Program) (x : Sem α) : ∀ w : World, w.drawn ≤ (resW (x.run p w)).drawn := by
  induction x with
  | pure a => exact fun w => Nat.le_refl _
  | load m a k ih =>
    intro w
    simp only [Sem.run]
    split
    · exact ih _ _
    · split
      · exact ih _ _
      · exact Nat.le_refl _
  | store m a v k ih =>
    intro w
    cases v
    all_goals
      simp only [Sem.run]
      try exact Nat.le_refl _
    all_goals
      split
      · split
        · exact Nat.le_refl _
        · exact ih (w.setCell a _)
      · split
        · rename_i hf
          exact Nat.le_trans (Nat.le_of_eq (farStore_drawn hf).symm) (ih _)
        · exact Nat.le_refl _
  | new o k ih => intro w; exact ih _ { w with heap := w.heap.push o }
  | shape r k ih => intro w; exact ih _ _
  | freeze a n k ih =>
    intro w
    refine Nat.le_trans (Nat.le_of_eq ?_) (ih (w.freeze a n))
    unfold World.freeze
    split <;> rfl
  | frozen a k ih => intro w; exact ih _ _
  | getObj r k ih =>
    intro w
    simp only [Sem.run]
    split
    · exact Nat.le_refl _
    · exact ih _ _
    · exact Nat.le_refl _
  | setObj r o k ih =>
    intro w
    simp only [Sem.run]
    split
    · exact Nat.le_refl _
    · exact ih { w with heap := w.heap.setIfInBounds r o }
    · exact Nat.le_refl _
  | choose q k ih =>
    intro w
    simp only [Sem.run]
    split
    · exact ih _ _
    · exact Nat.le_trans (Nat.le_succ _) (ih _ { w with drawn := w.drawn + 1 })
  | sys c k ih => intro w; exact Nat.le_trans (sys_drawn w c) (ih _ _)
  | program k ih => intro w; exact ih _ _
  | mark m k ih => intro w; exact ih _
  | halt h => exact fun w => Nat.le_refl _
theorem run_ok {α : Type} {p : Program} {x : Sem α} {w w' : World} {a : α} (h : x.run p w = .ok a w') : w.drawn ≤ w'.drawn := by
  have := run_drawn p x w
  rw [h] at this
  exact this
theorem run_halt {α : Type} {p : Program} {x : Sem α} {w w' : World} {a : Halt} (h : x.run p w = .halt a w') : w.drawn ≤ w'.drawn := by
  have := run_drawn p x w
  rw [h] at this
  exact this
theorem runT_ok {α : Type} {p : Program} {x : Sem α} {w w' : World} {a : α} {es es' : Array Event} (h : x.runT p w es = (.ok a w', es')) : w.drawn ≤ w'.drawn :=
  run_ok (p := p) (x := x) (by rw [← Sem.runT_fst p x w es, h])
theorem runT_halt {α : Type} {p : Program} {x : Sem α} {w w' : World} {a : Halt} {es es' : Array Event} (h : x.runT p w es = (.halt a w', es')) : w.drawn ≤ w'.drawn :=
  run_halt (p := p) (x := x) (by rw [← Sem.runT_fst p x w es, h])
theorem runT_res {α : Type} {p : Program} {x : Sem α} {w : World} {r : Result α} {es es' : Array Event} (h : x.runT p w es = (r, es')) : w.drawn ≤ (resW r).drawn := by
  have := run_drawn p x w
  rw [← Sem.runT_fst p x w es, h] at this
  exact this

/-! ### One step of a goroutine -/
def gw : GStep → World
  | .go _ w _ => w
  | .comm _ _ _ _ w _ => w
  | .spawn _ _ w _ => w
  | .count _ w _ => w
  | .timer _ _ w _ => w
  | .alone _ _ w _ => w
  | .newcoro _ _ _ w _ => w
  | .coroswitch _ _ _ w _ => w
  | .collect _ w _ => w
  | .watch _ w _ => w
  | .ended _ w _ => w
theorem gw_after (es : Array Event) (s : GStep) : gw (GStep.after es s) = gw s := by cases s <;> rfl
theorem le_ite {c : Prop} [Decidable c] {a b : GStep} {n : Nat} (h1 : n ≤ (gw a).drawn) (h2 : n ≤ (gw b).drawn) : n ≤ (gw (if c then a else b)).drawn := by split <;> assumption
theorem endWith_drawn (w : World) (fd : Nat) (text : ByteArray) (o : Outcome) : w.drawn ≤ (gw (endWith w fd text o)).drawn := by
  unfold endWith
  have h := sys_drawn w (.write fd text)
  simp only []
  split
  · rename_i he
    rw [he] at h
    split <;> exact h
  · rename_i he
    rw [he] at h
    exact h
  · rename_i he
    rw [he] at h
    exact h
theorem dieOf_drawn (fr : Frame) (a : List ByteArray) (m : String) (wh : Bool) (w : World) : gw (dieOf fr a m wh w) = w := rfl
theorem endThrow_drawn (fr : Frame) (m : String) (w : World) : gw (endThrow fr m w) = w := rfl
theorem endPrinting_drawn (p : Program) (fr : Frame) (v : Value) (w : World) : gw (endPrinting p fr v w) = w := by
  unfold endPrinting
  simp only []
  split
  · exact endThrow_drawn _ _ _
  · rfl
theorem endFatal_drawn (p : Program) (fr : Frame) (cs : List Frame) (d : Option Dying) (m : String) (w : World) : w.drawn ≤ (gw (endFatal p fr cs d m w)).drawn := by
  unfold endFatal
  simp only []
  split
  · rename_i h; rw [dieOf_drawn]; exact run_ok h
  · rename_i h; exact run_halt h
  · rename_i h; exact run_halt h
theorem writeOn_drawn (p : Program) (fr : Frame) (d : Dying) (f : Fatal) (w : World) : w.drawn ≤ (gw (writeOn p fr d f w)).drawn := by
  unfold writeOn
  simp only []
  split
  · exact Nat.le_refl _
  · split
    · rename_i h; exact runT_ok h
    · rename_i h; exact runT_halt h
    · rename_i h; exact runT_halt h
    · rename_i h; exact runT_halt h
theorem die_drawn (p : Program) (fr : Frame) (d : Dying) (w : World) : w.drawn ≤ (gw (die p fr d w)).drawn := by
  unfold die
  split
  · exact writeOn_drawn _ _ _ _ _
  · split
    · split
      · exact Nat.le_refl _
      · exact endWith_drawn _ _ _ _
    · simp only []
      split
      · exact Nat.le_refl _
      · split
        · rename_i h; exact run_ok h
        · rename_i h; exact run_halt h
      · rw [gw_after]
        simp only [Sem.runT_fst]
        split
        all_goals first
          | exact Nat.le_refl _
          | (rename_i h; exact run_ok h)
          | (rename_i h; exact run_halt h)
          | (rename_i h; rw [endPrinting_drawn]; exact run_halt h)
      · exact Nat.le_refl _
theorem doReturn_drawn (p : Program) (main : Bool) (fr : Frame) (cs : List Frame) (d : Option Dying) (v : Value) (w : World) : gw (doReturn p main fr cs d v w) = w := by
  unfold doReturn
  repeat' first
    | rfl
    | split
    | simp only []
theorem callDeferred_drawn (p : Program) (fr : Frame) (cs : List Frame) (dy : Option Dying) (d : Deferred) (w : World) : w.drawn ≤ (gw (callDeferred p fr cs dy d w)).drawn := by
  unfold callDeferred
  refine le_ite (Nat.le_refl _) ?_
  · simp only []
    rw [gw_after]
    simp only [Sem.runT_fst]
    split
    all_goals first
      | (rename_i h; exact run_ok h)
      | (rename_i h; exact run_halt h)
      | (rename_i h; exact Nat.le_trans (run_halt h) (endFatal_drawn _ _ _ _ _ _))
      | (rename_i h; rw [endThrow_drawn]; exact run_halt h)
      | (rename_i h; split <;> exact run_ok h)
theorem unwind_drawn (p : Program) (main : Bool) (fr : Frame) (cs : List Frame) (dy : Option Dying) (w : World) : w.drawn ≤ (gw (unwind p main fr cs dy w)).drawn := by
  unfold unwind
  split
  · simp only []
    rw [gw_after]
    simp only [Sem.runT_fst]
    split
    · rename_i h; exact run_ok h
    · rename_i h; exact run_halt h
  · exact callDeferred_drawn _ _ _ _ _ _
  · split
    · exact Nat.le_refl _
    · split
      · exact Nat.le_refl _
      · split
        · exact Nat.le_refl _
        · split
          · split
            · exact Nat.le_refl _
            · split
              all_goals (rename_i h; first | exact run_ok h | exact run_halt h)
          · split
            · rw [endPrinting_drawn]; exact Nat.le_refl _
            · exact Nat.le_refl _
    · split
      · rw [doReturn_drawn]; exact Nat.le_refl _
      · simp only []
        rw [gw_after]
        simp only [Sem.runT_fst]
        split
        · rename_i h; rw [doReturn_drawn]; exact run_ok h
        · rename_i h; exact run_halt h
        · rename_i h; exact run_halt h
theorem early_drawn (p : Program) (fr : Frame) (cs : List Frame) (dy : Option Dying) (g : Nat) (w : World) : w.drawn ≤ (gw (early p fr cs dy g w)).drawn := by
  have key : ∀ w1 : World, w.drawn ≤ w1.drawn → w.drawn ≤ (gw (match w1.heap[g]? with
    | some (.pending c elem) => GStep.go { frame := fr, callers := cs, status := .running, dying := dy } { w1 with heap := w1.heap.setIfInBounds g (.cells c elem) }
    | _ => .ended (.stuck "early: the variable does not wait" (fr.pos p)) w1)).drawn := by
    intro w1 h
    split <;> exact h
  unfold early
  simp only []
  split
  · exact key w (Nat.le_refl _)
  · split
    · exact Nat.le_refl _
    · split
      · exact key w (Nat.le_refl _)
      · split
        · exact key w (Nat.le_refl _)
        · split
          · exact Nat.le_refl _
          · exact Nat.le_refl _
          · exact Nat.le_refl _
          · exact key w (Nat.le_refl _)
          · split
            · exact Nat.le_refl _
            · split
              · exact key w (Nat.le_refl _)
              · split
                · rename_i h; exact key _ (run_ok h)
                · rename_i h; exact run_ok h
                · rename_i h; exact run_halt h
theorem apply_drawn (p : Program) (listen : Bool) (fr : Frame) (cs : List Frame) (dy : Option Dying) (x : Sem Next) (w : World) : w.drawn ≤ (gw (stepG.apply p listen fr cs dy x w)).drawn := by
  unfold stepG.apply
  simp only []
  rw [gw_after]
  have hr : ∀ r es, (if listen = true then x.runT p w #[] else (x.run p w, #[])) = (r, es) → x.run p w = r := by
    intro r es h
    split at h
    · rw [← Sem.runT_fst p x w #[], h]
    · exact congrArg Prod.fst h
  generalize hq : (if listen = true then x.runT p w #[] else (x.run p w, #[])) = q at *
  obtain ⟨r, es⟩ := q
  have h0 := hr r es rfl
  clear hr hq
  simp only []
  split
  all_goals first
    | (subst_vars; exact run_ok ‹_›)
    | (exact run_ok h0)
    | (exact run_halt h0)
    | (exact Nat.le_trans (run_halt h0) (endFatal_drawn _ _ _ _ _ _))
    | (exact Nat.le_trans (run_halt h0) (early_drawn _ _ _ _ _ _))
    | (rw [endThrow_drawn]; exact run_halt h0)
    | (refine le_ite ?_ (run_ok h0); rw [endThrow_drawn]; exact run_ok h0)
    | (split <;> first | exact run_ok h0 | (rw [endThrow_drawn]; exact run_ok h0))
theorem oper_drawn (p : Program) (listen : Bool) (fr : Frame) (cs : List Frame) (dy : Option Dying) (w : World) : w.drawn ≤ (gw (stepG.oper p listen fr cs dy w)).drawn := by
  unfold stepG.oper
  split
  · exact Nat.le_refl _
  · split
    · exact apply_drawn _ _ _ _ _ _ _
    · exact apply_drawn _ _ _ _ _ _ _
theorem exec_drawn (p : Program) (main listen : Bool) (fr : Frame) (cs : List Frame) (dy : Option Dying) (w : World) : w.drawn ≤ (gw (stepG.exec p main listen fr cs dy w)).drawn := by
  unfold stepG.exec
  simp only []
  split
  all_goals first
    | exact Nat.le_refl _
    | exact apply_drawn _ _ _ _ _ _ _
    | (split; exact le_ite (Nat.le_refl _) (Nat.le_refl _); (rw [gw_after]; simp only [Sem.runT_fst]; split; (rename_i h; rw [doReturn_drawn]; exact run_ok h); (rename_i h; exact run_halt h)))
    | (split <;> exact Nat.le_refl _)
    | (generalize exitTo _ _ = o; cases o; (simp only [Option.elim_none]; (split; exact le_ite (Nat.le_refl _) (Nat.le_refl _); (rw [gw_after]; simp only [Sem.runT_fst]; split; (rename_i h; rw [doReturn_drawn]; exact run_ok h); (rename_i h; exact run_halt h)))); exact Nat.le_refl _)
    | (generalize gotoIn _ _ = o; cases o; (simp only [Option.elim_none]; (split; exact le_ite (Nat.le_refl _) (Nat.le_refl _); (rw [gw_after]; simp only [Sem.runT_fst]; split; (rename_i h; rw [doReturn_drawn]; exact run_ok h); (rename_i h; exact run_halt h)))); exact Nat.le_refl _)
    | (generalize Extern.next _ = o; cases o; exact Nat.le_refl _; exact apply_drawn _ _ _ _ _ _ _)
    | (refine le_ite (oper_drawn _ _ _ _ _ _) (Nat.le_refl _))
    | (refine le_ite (Nat.le_refl _) ?_; split; (rename_i h; exact run_ok h); (rename_i h; exact run_halt h))
    | (rw [gw_after]; simp only [Sem.runT_fst]; split; (rename_i h; exact Nat.le_trans (run_ok h) (apply_drawn _ _ _ _ _ _ _)); (rename_i h; exact run_halt h))
    | (rw [gw_after]; simp only [Sem.runT_fst]; split; (rename_i h; exact run_ok h); (rename_i h; exact run_halt h); (rename_i h; exact run_halt h))
theorem stepG_drawn (p : Program) (main : Bool) (g : Goroutine) (w : World) (listen : Bool) : w.drawn ≤ (gw (stepG p main g w listen)).drawn := by
  unfold stepG
  simp only []
  split
  · exact die_drawn _ _ _ _
  · exact exec_drawn _ _ _ _ _ _ _
  · exact unwind_drawn _ _ _ _ _ _

/-! ### One step of the machine -/
theorem communicate_drawn (p : Program) (rest : Rest) (gs : Array Goroutine) (i : Nat) (g : Goroutine) (cases : Array CommCase) (blocking : Bool)
    (shape : CommShape) (w : World) (m' : Machine) (h : (communicate p rest gs i g cases blocking shape w).1 = .next m') : w.drawn ≤ m'.world.drawn := by
  have wa : ∀ w1, waitingAt rest cases w = some w1 → w1.drawn = w.drawn := by
    intro w1 hw
    unfold waitingAt at hw
    split at hw
    · split at hw
      · cases hw; rfl
      · cases hw
    · cases hw; rfl
  unfold communicate at h
  simp only [] at h
  split at h
  · simp at h
  · split at h
    · split at h
      · split at h
        · simp only [Stepped.next.injEq] at h; subst h; exact Nat.le_of_eq (wa _ ‹_›).symm
        · simp at h
      · simp only [Stepped.next.injEq] at h; subst h; exact Nat.le_refl _
    · generalize hq : Sem.run p _ w = q at h
      cases q with
      | halt a w1 => simp at h
      | ok a w1 =>
        obtain ⟨k, c, way⟩ := a
        have h1 := run_ok hq
        clear hq
        simp only [] at h
        repeat' first
          | (simp at h; done)
          | (simp only [Stepped.next.injEq] at h; subst h; exact h1)
          | (simp only [Stepped.next.injEq] at h; subst h; exact Nat.le_trans h1 (run_ok ‹_›))
          | (simp only [Stepped.next.injEq] at h; subst h; exact Nat.le_trans h1 (run_halt ‹_›))
          | (generalize hq : Sem.run p (choose _) _ = q at h; cases q; (have h2 := Nat.le_trans h1 (run_ok hq); clear hq; simp only [Stepped.next.injEq] at h; subst h; exact h2); (simp at h; done))
          | split at h
theorem look_drawn (p : Program) (gs : Array Goroutine) (rest : Rest) (w : World) (m' : Machine) (h : look p gs rest w = .next m') : w.drawn ≤ m'.world.drawn := by
  unfold look at h
  simp only [] at h
  split at h
  · split at h
    · simp at h
    · split at h
      · simp at h
      · generalize hq : Sem.run p _ w = q at h
        cases q with
        | halt a w1 =>
          clear hq
          cases a <;> simp at h
        | ok a w1 =>
          obtain ⟨f, c⟩ := a
          have h1 := run_ok hq
          clear hq
          simp only [Stepped.next.injEq] at h
          subst h
          exact h1
  · simp at h
theorem timerOp_drawn (m m' : Machine) (op : TimerOp) (v : Value) (h : timerOp m op = .ok (v, m')) : m'.world.drawn = m.world.drawn := by
  have op_ : ∀ var m1, timerOp.opened m var = some m1 → m1.world.drawn = m.world.drawn := by
    intro var m1 ho
    unfold timerOp.opened at ho
    split at ho
    · split at ho
      · cases ho; rfl
      · cases ho
    · cases ho; rfl
  have rt : ∀ (m1 : Machine) k t a b, (retime m1 k t a b).2.world.drawn = m1.world.drawn := by
    intro m1 k t a b
    unfold retime
    simp only []
    split
    · unfold drain
      split <;> rfl
    · rfl
  have nm : ∀ (m1 : Machine) var f (r : Value × Machine), (∀ k t, (f k t).2.world.drawn = m1.world.drawn) → timerOp.named m1 var f = .ok r → r.2.world.drawn = m1.world.drawn := by
    intro m1 var f r hf hr
    unfold timerOp.named at hr
    split at hr
    · cases hr; exact hf _ _
    · cases hr
  unfold timerOp at h
  repeat' first
    | (simp at h; done)
    | (simp only [Except.ok.injEq, Prod.mk.injEq] at h; obtain ⟨_, rfl⟩ := h; rfl)
    | (exact nm _ _ _ (v, m') (fun _ _ => rt _ _ _ _ _) h)
    | (rename_i ho; exact nm _ _ _ (v, m') (fun _ _ => (rt _ _ _ _ _).trans (op_ _ _ ho)) h)
    | split at h
theorem runT_drawn (p : Program) (m m' : Machine) (i : Nat) (b : Bool) (h : (runT p m i b).1 = .next m') : m.world.drawn ≤ m'.world.drawn := by
  simp only [runT] at h
  have hs := stepG_drawn p (i == 0) (m.gs.swapAt! i { (default : Goroutine) with status := .finished }).1 m.world b
  revert hs h
  generalize m.gs.swapAt! _ _ = gg
  generalize stepG p _ gg.1 m.world b = s
  intro h hs
  cases s <;> simp only [gw] at h hs
  all_goals first
    | (simp at h; done)
    | (exact Nat.le_trans hs (communicate_drawn _ _ _ _ _ _ _ _ _ _ h))
    | (exact Nat.le_trans hs (look_drawn _ _ _ _ _ h))
    | (simp only [Stepped.next.injEq] at h; subst h; exact hs)
    | (repeat' first
        | (simp at h; done)
        | (simp only [Stepped.next.injEq] at h; subst h; exact hs)
        | (simp only [Stepped.next.injEq] at h; subst h; exact Nat.le_trans hs (Nat.le_of_eq (timerOp_drawn _ _ _ _ ‹_›).symm))
        | (rename_i he; unfold endThrow dieOf at he; simp only [GStep.go.injEq] at he; obtain ⟨_, rfl, _⟩ := he; simp only [Stepped.next.injEq] at h; subst h; exact hs)
        | split at h)
theorem serve_drawn (p : Program) (m m' : Machine) (k : Nat) (h : serve p m k = .next m') : m'.world.drawn = m.world.drawn := by
  unfold serve at h
  simp only [] at h
  repeat' first
    | (simp at h; done)
    | (simp only [Stepped.next.injEq] at h; subst h; rfl)
    | split at h
def mvW : Move → Option World
  | .goroutine m _ => some m.world
  | .machine (.next m) _ => some m.world
  | .machine (.ended _ _) _ => none
theorem askOn_drawn (p : Program) (m : Machine) (w' : World) (h : mvW (askOn p m) = some w') : m.world.drawn ≤ w'.drawn := by
  unfold askOn at h
  simp only [] at h
  generalize hq : Sem.run p _ m.world = q at h
  cases q with
  | halt a w1 => simp [mvW] at h
  | ok k w1 =>
    have h1 : m.world.drawn ≤ w1.drawn := run_ok hq
    clear hq
    have pick : ∀ (m1 : Machine) (rs : List Nat) (w2 : World), m.world.drawn ≤ m1.world.drawn → mvW (match (choose (.sched rs.length)).run p m1.world with
      | .halt _ w => Move.machine (.ended (.stuck "sched" "") w)
      | .ok k world =>
        if rs.length ≤ 1 then .goroutine { m1 with world } (rs.getD k 0) else
        match (choose (.extern "sched.slice" 65536)).run p world with
        | .halt _ w => .machine (.ended (.stuck "sched.slice" "") w)
        | .ok n world => .goroutine { m1 with world, rest := { m1.rest with slice := if n = 0 then none else some (rs.getD k 0, n) } } (rs.getD k 0)) = some w2 → m.world.drawn ≤ w2.drawn := by
      intro m1 rs w2 h0 hm
      generalize hr : Sem.run p (choose (.sched rs.length)) m1.world = r at hm
      cases r with
      | halt a w3 => simp [mvW] at hm
      | ok k w3 =>
        have h2 := run_ok hr
        simp only [] at hm
        split at hm
        · simp only [mvW, Option.some.injEq] at hm; subst hm; exact Nat.le_trans h0 h2
        · generalize hs : Sem.run p (choose (.extern "sched.slice" 65536)) w3 = r at hm
          cases r with
          | halt a w4 => simp [mvW] at hm
          | ok n w4 =>
            have h3 := run_ok hs
            simp only [mvW, Option.some.injEq] at hm
            subst hm
            exact Nat.le_trans h0 (Nat.le_trans h2 h3)
    dsimp only at h
    split at h
    · generalize hs : serve p _ _ = s at h
      cases s with
      | next m2 =>
        simp only [mvW, Option.some.injEq] at h
        subst h
        rw [serve_drawn _ _ _ _ hs]
        exact h1
      | ended o w2 => simp [mvW] at h
    · split at h
      · split at h
        · simp only [mvW, Option.some.injEq] at h; subst h; exact h1
        · split at h
          · simp only [mvW, Option.some.injEq] at h; subst h; exact h1
          · split at h <;> simp [mvW] at h
      · split at h
        · exact pick { m with world := w1 } (runnable m.gs m.world.os.mono) _ h1 h
        · generalize hs : Sem.run p (choose (.extern "clock.wait" _)) w1 = s at h
          cases s with
          | halt a w2 => simp [mvW] at h
          | ok k w2 =>
            have h2 := run_ok hs
            rcases k with _ | _ | k
            · exact pick { m with world := w2 } _ _ (Nat.le_trans h1 h2) h
            · simp only [mvW, Option.some.injEq] at h; subst h; exact Nat.le_trans h1 h2
            · exact pick (Machine.advanceTo { m with world := w2 } _) _ _ (Nat.le_trans h1 h2) h
theorem ask_drawn' (p : Program) (m : Machine) (w' : World) (h : mvW (ask p m) = some w') : m.world.drawn ≤ w'.drawn := by
  unfold ask at h
  split at h
  · generalize hs : Sem.run p (choose (.extern "collector.look" 2)) m.world = s at h
    cases s with
    | halt a w2 => simp [mvW] at h
    | ok k w2 =>
      have h2 := run_ok hs
      rcases k with _ | _ | k
      · exact Nat.le_trans h2 (askOn_drawn p { m with world := w2 } w' h)
      · simp only [] at h
        generalize hl : look p m.gs m.rest w2 = l at h
        cases l with
        | next m2 => exact Nat.le_trans h2 (Nat.le_trans (look_drawn _ _ _ _ _ hl) (askOn_drawn p m2 w' h))
        | ended o w3 => simp [mvW] at h
      · exact Nat.le_trans h2 (askOn_drawn p { m with world := w2 } w' h)
  · exact askOn_drawn p m w' h
theorem move_drawn (p : Program) (m : Machine) (w' : World) (h : mvW (move p m) = some w') : m.world.drawn ≤ w'.drawn := by
  unfold move at h
  split at h
  · split at h
    · simp only [mvW, Option.some.injEq] at h; subst h; exact Nat.le_refl _
    · simp [mvW] at h
  · split at h
    · split at h
      · simp only [mvW, Option.some.injEq] at h; subst h; exact Nat.le_refl _
      · exact ask_drawn' p { m with rest := { m.rest with slice := none } } w' h
    · exact ask_drawn' p m w' h
theorem step_drawn (p : Program) (m m' : Machine) (h : step p m = .next m') : m.world.drawn ≤ m'.world.drawn := by
  unfold step stepT at h
  split at h
  · rename_i m1 i hm
    exact Nat.le_trans (move_drawn p m m1.world (by rw [hm]; rfl)) (runT_drawn _ _ _ _ _ h)
  · rename_i s ops hm
    simp only [] at h
    subst h
    exact move_drawn p m m'.world (by rw [hm]; rfl)
theorem steps_drawn {p : Program} {m m' : Machine} (h : Steps p m m') : m.world.drawn ≤ m'.world.drawn := by
  obtain ⟨n, hn⟩ := h
  induction n generalizing m with
  | zero => simp [runN] at hn; rw [hn]; exact Nat.le_refl _
  | succ n ih =>
    rw [runN] at hn
    split at hn
    · rename_i m1 h1
      exact Nat.le_trans (step_drawn p m m1 h1) (ih hn)
    · rename_i hno
      exact (hno _ hn).elim

/-- behind a call that returns no draw has been taken back -/
theorem calls_drawn {p : Program} {f : FuncId} {args : Array Value} {w : World} {R : Ending → World → Prop} (h : Calls p f args w R) (ho : ∀ w', ¬ R .outgrown w') : Calls p f args w fun e w' => R e w' ∧ w.drawn ≤ w'.drawn := by
  intro cs
  obtain ⟨e, w', fr, r, c, x⟩ := h cs
  refine ⟨e, w', fr, ⟨r, ?_⟩, c, x⟩
  cases e with
  | returned v => exact steps_drawn c
  | panicked ch => exact steps_drawn c
  | outgrown => exact absurd r (ho w')
end Go.Proofs.Ytgicohkmfbbbdaa
end

section
namespace Go.Proofs.Ytgicohkmfbbbdaa
open Go.RowKit
open Go.Sort (grow heap_grow_old)
set_option linter.unusedSimpArgs false
set_option linter.unusedVariables false

theorem ext_growR {w w' : World} (h : Ext w w') (hd : w.drawn ≤ w'.drawn) : ∃ q os', w' = grow (w.drewN q) os' := by
  obtain ⟨p, hp⟩ := regrown_of_below h
  refine ⟨p.d - w.drawn, p.os, ?_⟩
  have e : w'.drawn = p.d := by rw [hp]; rfl
  rw [hp]
  congr 1
  unfold World.drewN redrawn
  congr 1
  omega
theorem calls_growR {P : Program} {f : FuncId} {args : Array Value} {w : World} {v : Value} (h : Calls P f args w fun e w' => e = .returned v ∧ Ext w w') : Calls P f args w fun e w' => e = .returned v ∧ ∃ q os', w' = grow (w.drewN q) os' :=
  (calls_drawn h (fun w' hr => by cases hr.1)).mono fun e w' ⟨⟨he, hx⟩, hd⟩ => ⟨he, ext_growR hx hd⟩
theorem grow_ext (w : World) (q : Nat) (os : Array Obj) : Ext w (grow (w.drewN q) os) :=
  ⟨rfl, rfl, rfl, by simp, fun k hk => by rw [heap_grow_old _ _ (by simpa using hk)]; rfl⟩
section
variable {P : Program} {o : Oper} {a : Act} {L0 L F : List Part} {w0 W : World} {K : Act → Prop}
/-- a cell of the memory that came in -/
theorem quiet_oldload_at {ty : TypeId} {x : Operand} (hop : o.op = .load ty x) {b j : Nat} (hx : a.eval x = .pointer (some ⟨b, j, none⟩)) (s : Sel (Part.old W) L F) (hu : (P.underlying ty).map (·.isRow) = some false) {v : Value} (hv : W.cell? ⟨b, j, none⟩ = some v)
    (hk : K (a.put o.dst v)) : o.quiet P a (Cl L0 w0 L) K := quiet_at v (fun w' hw => by
  have ho : (Part.old W).holds w' := hw.get s
  have hb : b < W.heap.size := by
    rcases Nat.lt_or_ge b W.heap.size with q | q
    · exact q
    · simp [World.cell?, Array.getElem?_eq_none q] at hv
  have hc : w'.cell? ⟨b, j, none⟩ = some v := by
    rw [← hv]
    simp [World.cell?, ho b hb]
  obtain ⟨d, hu, hd⟩ := Option.map_eq_some_iff.1 hu
  have hagg : (isAgg ty).run P w' = .ok false w' := by
    unfold isAgg
    rw [Sem.run_bind, run_underlying hu w']
    cases d <;> simp_all
  simp [execOp, hop, hx, Instr.loadAt, Instr.sureAddr, loadVar, Sem.run_bind, hagg, Result.andThen, run_load, hc]) hk
/-- a lookup in a map of the memory that came in -/
theorem quiet_oldlook_at {k : TypeId} {b : Nat} {es : List (Value × Value)} {t e : TypeId} {m x : Operand} (hop : o.op = .lookup t m x false) (hm : a.eval m = .map (some b)) {key v : Value} (hx : a.eval x = key) (s : Sel (Part.old W) L F) (hM : MapAt P k W b es) (Kd : Go.Maps.Keyed P k) (ht : P.underlying t = some (.map k e)) {kl : Lit} (hk : keyOf P k key = some kl) (hn : (key, v) ∈ es)
    (hK : K (a.put o.dst v)) : o.quiet P a (Cl L0 w0 L) K := quiet_at v (fun w' hw => by
  have ho : (Part.old W).holds w' := hw.get s
  have hM' : MapAt P k w' b es := hM.same (ho b hM.lt)
  simp [execOp, hop, hm, hx, hM'.look_some Kd ht hk hn false, Result.andThen]) hK
end
end Go.Proofs.Ytgicohkmfbbbdaa
end
