/- The document's answer of layer 4 (path): the walks of take, Parts, Join. -/
import Derived.Test.YtpbeennielgogaaDoorPathL
import Derived.Test.YtpbeennielgogaaDoorRowI
namespace Go.Proofs.YtpbeennielgogaaDoor.Path
open Go.RowKit
set_option linter.unusedSimpArgs false
set_option linter.unusedVariables false

theorem wpList_cut_at {P : Program} {ops : Array Oper} {rest : List Oper} {o : Oper} {a : Act} {Q : Exit → Act → World → Prop} {L0 L G : List Part} {w0 w : World} {t e : TypeId} {i : TypeInfo} {size m0 k : Nat} {v : Value} {xs : List Value} {x hi' : Operand}
    (hg : o.guard = none) (hop : o.op = .slice t x none (some hi') none) (ht : P.underlying t = some (.slice e)) (hi : P.info? e = some i) (hsize : i.size = size) (hx : a.eval x = v) (hh : a.eval hi' = .int .i64 k)
    (h : At L0 w0 L w) (s : Sel (Part.row e size v m0 xs) L G) (hk : k ≤ m0) (hK : ∀ v', At L0 w0 (Part.row e size v' k (xs.take (k * size)) :: G) w → wpList P ops Q rest (a.put o.dst v') w) : wpList P ops Q (o :: rest) a w := by
  obtain ⟨v', hr, h1, h2⟩ := run_cut_own (P := P) ht hi hsize (h.get s : w.ownsRow 0 e size v m0 xs) k hk
  refine wpList_val hg ?_ (hK v' (h.turn s (Part.row e size v' k (xs.take (k * size))) h1 (fun b hb => .inl (by simpa [Part.row, h2] using hb)) (Exc.refl _ _)))
  simp [execOp, hop, hx, hh, hr, Result.andThen]
theorem letterB_any (c : UInt8) (w : World) : Calls Tryd.prog 55 #[.int .u8 c.toNat] w fun e w' => e = .returned (.bool (letB c)) ∧ w = w' := by
  have key : ∀ (n : Int) (b1 b2 b3 b4 b5 b6 : Bool), decide (97 ≤ n) = b1 → decide (n ≤ 122) = b2 → decide (48 ≤ n) = b3 → decide (n ≤ 57) = b4 → decide (n = 45) = b5 → decide (n = 95) = b6 →
      Calls Tryd.prog 55 #[.int .u8 n] w fun e w' => e = .returned (.bool ((b1 && b2) || (b3 && b4) || b5 || b6)) ∧ w = w' := by
    intro n b1 b2 b3 b4 b5 b6 h1 h2 h3 h4 h5 h6
    have h5' : (n == 45) = b5 := by rw [← h5]; rfl
    have h6' : (n == 95) = b6 := by rw [← h6]; rfl
    clear h5 h6
    cases b1 <;> cases b2 <;> cases b3 <;> cases b4 <;> cases b5 <;> cases b6
    all_goals first
      | (exfalso; simp at h1 h2 h3 h4 h5' h6'; omega)
      | (go_enter Tryd.func55, Tryd.ntmps55
         go_wp2
         go_ret
         exact ⟨rfl, rfl⟩)
  rw [← letR_eq]
  exact key _ _ _ _ _ _ _ rfl rfl rfl rfl rfl rfl

def TakePost (v : Value) (ws : List ByteArray) (p : ByteArray) (w : World) (e : Ending) (w' : World) : Prop :=
  ∃ (v' : Value) (us : List ByteArray), e = .returned (.tuple #[v', .int .i64 (walkRes (stepW (ws.map bl) (bl p)))]) ∧ At [rowS v ws] w [rowS v' us] w' ∧ (stepW (ws.map bl) (bl p) = some (us.map bl) ∨ stepW (ws.map bl) (bl p) = none ∧ us = []) ∧ us.length ≤ ws.length + 1
def TakeRel (v : Value) (ws : List ByteArray) (p : ByteArray) (w : World) (k : Nat) (u6 : Value) (wr : World) : Prop :=
  ∃ i : Nat, u6 = .int .i64 i ∧ i + k = p.size ∧ At [rowS v ws] w [rowS v ws] wr ∧ ((bl p).take i).all letB = true
set_option maxRecDepth 100000 in
set_option maxHeartbeats 1000000 in
theorem take_any {w : World} {v : Value} {ws : List ByteArray} (h : Sep [rowS v ws] w) (p : ByteArray) (hmax : ws.length ≤ 2000000) (hp : p.size ≤ 2000000) : Calls Tryd.prog 46 #[v, .string p] w (TakePost v ws p w) := by
  have hA := At.start h
  have hF := hA.facts
  obtain ⟨i0, hi0, hz0, hz1, hz2⟩ := info_parts infoStr
  clear h
  by_cases e0 : bl p = [] ∨ bl p = [46]
  · have hk : stepW (ws.map bl) (bl p) = some (ws.map bl) := by rcases e0 with e | e <;> rw [e] <;> first | exact step_nil | exact step_dot
    rcases e0 with e0 | e0
    · obtain rfl : p = ⟨#[]⟩ := bytes_ext e0
      have hk' := Lib.hid hk
      clear hk e0
      go_enter Tryd.func46, Tryd.ntmps46
      go_wp2_with fail
      go_ret2
      exact ⟨v, ws, by rw [hk'.out]; rfl, hA, .inl hk'.out, by omega⟩
    · obtain rfl : p = ⟨#[46]⟩ := bytes_ext e0
      have hk' := Lib.hid hk
      clear hk e0
      go_enter Tryd.func46, Tryd.ntmps46
      go_wp2_with fail
      go_ret2
      exact ⟨v, ws, by rw [hk'.out]; rfl, hA, .inl hk'.out, by omega⟩
  · by_cases e1 : bl p = [46, 46]
    · obtain rfl : p = ⟨#[46, 46]⟩ := bytes_ext e1
      clear e0
      by_cases e2 : ws = []
      · subst e2
        obtain ⟨ax, cap, rfl, hax, hcap, _⟩ := hA.row_form (v := v) (xs := flatS []) (by with_reducible repeat (first | exact Sel.here | apply Sel.there))
        clear hax hcap
        go_enter Tryd.func46, Tryd.ntmps46
        go_wp2_with fail
        go_ret2
        exact ⟨_, [], by rw [show stepW (([] : List ByteArray).map bl) (bl ⟨#[46, 46]⟩) = none from step_up0]; rfl, (hA.row_nil 9 1).pick (by repeat (first | exact Picks.nil | refine Picks.cons (by repeat (first | exact Sel.here | apply Sel.there)) ?_)), .inr ⟨step_up0, rfl⟩, by simp⟩
      · have hl : 0 < ws.length := List.length_pos_iff.2 e2
        obtain ⟨ax, kn, cap, hv0, hkn⟩ := hA.row_hid (v := v) (xs := flatS ws) (by with_reducible repeat (first | exact Sel.here | apply Sel.there))
        subst hv0
        have ek := hkn.out
        obtain rfl : kn = ws.length := ek
        have hl1 : ((ws.length : Int) == 0) = false := beq_eq_false_iff_ne.2 (by omega)
        have hl2 := Lib.hid (show ((ws.length : Int) - 1) = ((ws.length - 1 : Nat) : Int) by omega)
        have hst := Lib.hid (step_up (acc := ws.map bl) (by simpa using e2))
        clear e2
        go_enter Tryd.func46, Tryd.ntmps46
        go_wp2_with (refine wpList_cut_at (k := ws.length - 1) rfl rfl Tryd.underlying87 hi0 hz1 (by (try simp only [Act.eval, eV]) <;> exact rfl) (by exact congrArg (Value.int .i64) hl2.out) hA (by with_reducible repeat (first | exact Sel.here | apply Sel.there)) (by omega) ?_; intro v1 hB; obtain ⟨ax3, n3, cap3, hv3, hn3⟩ := hB.row_hid .here; subst hv3; clear hF hA; have hA := hB; clear hB; (try simp only [uA] at hA); have hF := hA.facts; (try simp only [fA, facts_row, and_true, true_and] at hF))
        go_ret2
        have e3 : (flatS ws).take ((ws.length - 1) * 1) = flatS ws.dropLast := by
          unfold flatS
          rw [flat_take strC_len, List.dropLast_eq_take]
        have e4 : ws.length - 1 = ws.dropLast.length := by simp
        rw [e3, e4] at hA
        exact ⟨.slice ax3 n3 cap3, ws.dropLast, by rw [show stepW (ws.map bl) (bl ⟨#[46, 46]⟩) = _ from hst.out]; rfl, hA.pick (by with_reducible repeat (first | exact Picks.nil | refine Picks.cons (by with_reducible repeat (first | exact Sel.here | apply Sel.there)) ?_)), .inl (by rw [show stepW (ws.map bl) (bl ⟨#[46, 46]⟩) = _ from hst.out, List.map_dropLast]), by simp; omega⟩
    · have n0 : p.toList.isEmpty = false := by
        rw [Lib.toList_data]
        cases q : p.data.toList
        · exact absurd (Or.inl q) e0
        · rfl
      have n1 : (p.toList == [46]) = false := by rw [Lib.toList_data]; simpa using fun q => e0 (Or.inr q)
      have n2 : (p.toList == [46, 46]) = false := by rw [Lib.toList_data]; simpa using e1
      have hne : bl p ≠ [] := fun q => e0 (Or.inl q)
      have hno : partB (bl p) = false → stepW (ws.map bl) (bl p) = none := step_no hne (fun q => e0 (Or.inr q)) e1
      have hyes : (bl p).all letB = true → stepW (ws.map bl) (bl p) = some (ws.map bl ++ [bl p]) := fun q => step_part (partB_iff.2 ⟨hne, q⟩)
      have hno' := Lib.hid hno
      have hyes' := Lib.hid hyes
      clear hno hyes e0 e1 hne
      obtain ⟨ax, kn, cap, hv0, hkn⟩ := hA.row_hid (v := v) (xs := flatS ws) (by with_reducible repeat (first | exact Sel.here | apply Sel.there))
      subst hv0
      go_enter Tryd.func46, Tryd.ntmps46
      go_wp2_with fail
      go_loopg [6] p.size (TakeRel (.slice ax kn cap) ws p w)
      case atStart => exact ⟨0, rfl, by simp, hA, by simp⟩
      case round =>
        obtain ⟨i, rfl, hk, hB, hal⟩ := hrel
        clear hF hA
        have hA := hB
        clear hB
        have hF := hA.facts
        (try simp only [uA] at hA); have hF := hA.facts; (try simp only [fA, facts_row, and_true, true_and] at hF)
        by_cases hi : i < p.size
        · cases hc : letB p[i]
          · have hlt := letterB_any p[i] wr
            rw [hc] at hlt
            have hn := Lib.hid (hno'.out (all_no hi hc))
            clear hc hal
            go_wp2_with fail
            ((with_reducible refine hlt.mono ?_))
            clear hlt
            rintro e _ ⟨rfl, rfl⟩
            go_wp2_with fail
            go_ret2
            exact ⟨_, [], by rw [hn.out]; rfl, (hA.row_nil 9 1).pick (by repeat (first | exact Picks.nil | refine Picks.cons (by repeat (first | exact Sel.here | apply Sel.there)) ?_)), .inr ⟨hn.out, rfl⟩, by simp⟩
          · have hlt := letterB_any p[i] wr
            rw [hc] at hlt
            have hs := Lib.hid (all_succ hi hal hc)
            clear hc hal
            go_wp2_with fail
            ((with_reducible refine hlt.mono ?_))
            clear hlt
            rintro e _ ⟨rfl, rfl⟩
            go_wp2_with fail
            go_roundg (gk - 1)
            case measure => omega
            case rel => exact ⟨i + 1, by simp, by omega, hA, hs.out⟩
        · have hst := Lib.hid (hyes'.out (all_take hi hal))
          have hB := hA.row_nil 9 1
          clear hF hA hal
          have hA := hB
          clear hB
          have hF := hA.facts
          (try simp only [uA] at hA); have hF := hA.facts; (try simp only [fA, facts_row, and_true, true_and] at hF)
          have hd := Lib.hid hkn.out
          go_wp2_with (first | (refine wpList_one_at (e := 9) (vs := strC p) rfl rfl (by (try simp only [Act.eval, eV]) <;> exact rfl) (fun _ => by kernel_rfl) hA ?_; intro b2 w1 hB hb2; clear hF hA; have hA := hB; clear hB; (try simp only [uA] at hA); have hF := hA.facts; (try simp only [fA, facts_row, and_true, true_and] at hF)) | (refine wpList_append_at (e := 9) (size := 1) (v := .slice ax3 n3 cap3) (xs := flatS ws) (n := 0 + ws.length) (m := 1) (news := strC p) rfl _ _ 87 rfl Tryd.underlying87 hi0 hz0 hz1 hz2 rfl (by omega) hA (by with_reducible repeat (first | exact Sel.here | apply Sel.there)) (by (try simp only [Act.eval, eV]) <;> exact rfl) (by (try simp only [Act.eval, eV]) <;> exact rfl) rfl (hA.cells_reads (by with_reducible repeat (first | exact Sel.here | apply Sel.there)) _ _) (strC_one p) (by unfold maxLen; omega) (by omega) ?_; intro v2 w1 hB; obtain ⟨ax4, n4, cap4, hv4, hn4⟩ := hB.row_hid .here; subst hv4; clear hF hA; have hA := hB; clear hB; (try simp only [uA] at hA); have hF := hA.facts; (try simp only [fA, facts_row, and_true, true_and] at hF)) | (refine wpList_append_at (e := 9) (size := 1) (v := .slice none 0 0) (xs := []) (n := 0) (m := ws.length) (xv := .slice ax kn cap) (news := flatS ws) rfl _ _ 87 rfl Tryd.underlying87 hi0 hz0 hz1 hz2 rfl (by omega) hA (by with_reducible repeat (first | exact Sel.here | apply Sel.there)) (by (try simp only [Act.eval, eV]) <;> exact rfl) (by (try simp only [Act.eval, eV]) <;> exact rfl) (flat_len _ _ strC_len _) (hA.row_reads (n := ws.length) (by with_reducible repeat (first | exact Sel.here | apply Sel.there))) (flat_one strC_one _) (by unfold maxLen; omega) (by omega) ?_; intro v1 w1 hB; obtain ⟨ax3, n3, cap3, hv3, hn3⟩ := hB.row_hid .here; subst hv3; clear hF hA; have hA := hB; clear hB; (try simp only [uA] at hA); have hF := hA.facts; (try simp only [fA, facts_row, and_true, true_and] at hF)))
          go_ret2
          refine ⟨.slice ax4 n4 cap4, ws ++ [p], by rw [hst.out]; rfl, ?_, .inl (by rw [hst.out]; simp), by simp⟩
          rw [show flatS ws ++ strC p = flatS (ws ++ [p]) by simp [flatS, List.flatMap_append], show 0 + ws.length + 1 = (ws ++ [p]).length by simp] at hA
          exact hA.pick (by with_reducible repeat (first | exact Picks.nil | refine Picks.cons (by with_reducible repeat (first | exact Sel.here | apply Sel.there)) ?_))
end Go.Proofs.YtpbeennielgogaaDoor.Path
