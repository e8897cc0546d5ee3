/- StuR, joined. -/
import Derived.Test.YtnkddjomanaadaaGreatDoorK28
import Derived.Deep.Cut
section
namespace Go.Proofs.YtnkddjomanaadaaGreatDoor.Lock
open Go.RowKit
open Go.Maps (Keyed)
open Path (bl)
open _root_.Go.Proofs.YtnkddjomanaadaaGreatDoor.Sess (seV seL)
set_option linter.unusedSimpArgs false
set_option linter.unusedVariables false
attribute [-go_sem] run_eql_struct run_neq_struct run_eqGuard_agg
attribute [local go_sem] guardS eqlS

def okS (x : Ses) : Prop := 0 ≤ x.1 ∧ x.1 < big64 ∧ x.2.size ≤ maxLen
theorem wideQ : (match Tryz.prog.underlying 33 with | some (.array _ _) | some (.struct _) => true | _ => false) = true := by kernel_rfl
theorem rowSQ : (33 : TypeId) < Tryz.prog.types.size := of_decide_eq_true (by kernel_rfl)
set_option maxRecDepth 100000 in
theorem lawQ : Keyed Tryz.prog 33 := Keyed.of_law (deep_law_laid laidOut (m := 2) (by omega) rowSQ (by kernel_rfl) wideQ)
theorem keyTypeQ : Tryz.prog.keyType 33 = true := by kernel_rfl
theorem cellsQ : Tryz.prog.cellsOf 33 = 2 := by kernel_rfl
theorem formedQ (c0 c1 : Value) : (Value.agg #[c0, c1]).formed Tryz.prog 33 = true := by simp [Value.formed, Tryz.underlying33, cellsQ]
theorem keyQ {x : Ses} (h : okS x) : ∃ l, keyOf Tryz.prog 33 (seV x) = some l := by
  obtain ⟨h0, h1, hf⟩ := h
  obtain ⟨n, f⟩ := x
  simp only at h0 h1 hf
  have hw : (Lit.int .u64 n).wf = true := by simp [Lit.wf, IntKind.min, IntKind.max, IntKind.signed, IntKind.bits]; unfold big64 at h1; omega
  obtain ⟨d, hd⟩ : ∃ d, Tryz.prog.types.size = d + 1 := Nat.exists_eq_succ_of_ne_zero (Nat.ne_of_gt (Nat.lt_of_le_of_lt (Nat.zero_le _) rowSQ))
  have hl : Tryz.prog.keyLits (Tryz.prog.types.size + 1) 33 [.int .u64 n, .string f] = some [.int .u64 n, .string f.data.toList] := by
    rw [hd]
    simp [Program.keyLits, Tryz.underlying33, Tryz.underlying22, Tryz.underlying9, cellsQ, cellsU, cellsStr, hw, hf]
  exact ⟨.string (keyBytes [.int .u64 n, .string f.data.toList]), by
    unfold keyOf
    rw [Tryz.underlying33]
    simp only [keyTypeQ, seV, formedQ, Bool.and_self, if_true]
    rw [show (Value.agg #[.int .u64 n, .string f]).cells.toList = [.int .u64 n, .string f] from rfl, hl]
    rfl⟩
section
variable {P : Program} {ops : Array Oper} {rest : List Oper} {o : Oper} {a : Act} {Q : Exit → Act → World → Prop} {w : World} {k : TypeId} {b : Nat} {es : List (Value × Value)}
theorem wpList_look1_none_raw {t : TypeId} {m x : Operand} (hg : o.guard = none) (hop : o.op = .lookup t m x false) (hm : a.eval m = .map (some b)) {key : Value} (hx : a.eval x = key)
    (hM : MapAt P k w b es) {e : TypeId} (K : Keyed P k) (ht : P.underlying t = some (.map k e)) {kl : Lit} (hk : keyOf P k key = some kl) (hn : ∀ p ∈ es, p.1 ≠ key) {z : Value} (hz : ∀ w, (zeroValue e).run P w = .ok z w)
    (hK : wpList P ops Q rest (a.put o.dst z) w) : wpList P ops Q (o :: rest) a w := by
  refine wpList_val hg ?_ hK
  simp [execOp, hop, hm, hx, hM.look_none K ht hk hn (hz w) false, Result.andThen]
theorem wpList_look1_some_raw {t : TypeId} {m x : Operand} (hg : o.guard = none) (hop : o.op = .lookup t m x false) (hm : a.eval m = .map (some b)) {key : Value} (hx : a.eval x = key)
    (hM : MapAt P k w b es) {e : TypeId} (K : Keyed P k) (ht : P.underlying t = some (.map k e)) {kl : Lit} (hk : keyOf P k key = some kl) {v : Value} (hn : (key, v) ∈ es)
    (hK : wpList P ops Q rest (a.put o.dst v) w) : wpList P ops Q (o :: rest) a w := by
  refine wpList_val hg ?_ hK
  simp [execOp, hop, hm, hx, hM.look_some K ht hk hn false, Result.andThen]
end
theorem zeroQ (w : World) : (zeroValue 62).run Tryz.prog w = .ok (.slice none 0 0) w := by kernel_rfl
theorem zeroI (w : World) : (zeroValue 3).run Tryz.prog w = .ok (.int .i64 0) w := by kernel_rfl
def seenE (S : List Ses) : List (Value × Value) := S.map (fun x => (seV x, .int .i64 1))
theorem seen_snoc (S : List Ses) (x : Ses) : seenE S ++ [(seV x, .int .i64 1)] = seenE (S ++ [x]) := by simp [seenE]
theorem seV_inj {x y : Ses} (h : seV x = seV y) : x = y := by simp [seV] at h; exact Prod.ext h.1 h.2
theorem seen_no {S : List Ses} {x : Ses} (h : x ∉ S) : ∀ p ∈ seenE S, p.1 ≠ seV x := fun p hp e => by
  obtain ⟨y, hy, rfl⟩ := List.mem_map.1 hp
  exact h (seV_inj e ▸ hy)
theorem seen_yes {S : List Ses} {x : Ses} (h : x ∈ S) : (seV x, Value.int .i64 1) ∈ seenE S := List.mem_map_of_mem h
def ReRel (w : World) (X : Part) (N : List NE) (E : List (Ses × Ses)) (x : Ses) (bS b : Nat) (k : Nat) (u6 : Value) (wr : World) : Prop :=
  ∃ S T, digM E S T ≤ k ∧ T.length ≤ (S.length + 1) * E.length ∧ Digs E x S T ∧ At [X, restN N] w [rowQ u6 T, Part.map Tryz.prog 33 b (seenE S), Part.cells bS [.int .u64 x.1, .string x.2] 33, X, restN N] wr
def ReachPost (w : World) (X : Part) (N : List NE) (E : List (Ses × Ses)) (x : Ses) (o : Ending) (w' : World) : Prop := ∃ c : Bool, o = .returned (.bool c) ∧ (c = true ↔ Conn E x x) ∧ At [X, restN N] w [X, restN N] w'
theorem rowN_reads {L0 L F : List Part} {w0 w : World} {N l1 l2 : List NE} {e : NE} (q : N = l1 ++ e :: l2) (h : At L0 w0 L w) (s : Sel (restN N) L F) : Reads w e.v e.l.length (flatQ e.l) ∧ ∃ ax cap, e.v = .slice ax e.l.length cap ∧ (ax = none → e.l.length = 0) := by
  have h2 := outN q h s
  obtain ⟨ax, cap, h3, h4, _, _⟩ := h2.row_form (v := e.v) (n := e.l.length) (xs := flatQ e.l) .here
  exact ⟨h2.row_reads (v := e.v) (n := e.l.length) (xs := flatQ e.l) .here, ax, cap, h3, h4⟩
theorem nil_reads (w : World) : Reads w (.slice none 0 0) 0 [] := ((At.start (L0 := []) (w0 := w) trivial).row_nil 33 2).row_reads .here
/-- what the map tells of a session, as a row that is read -/
theorem look_next {E : List (Ses × Ses)} {N : List NE} (hN : NextIs E N) (y : Ses) : ∃ v, ((seV y, v) ∈ entsN N ∨ ((∀ p ∈ entsN N, p.1 ≠ seV y) ∧ v = .slice none 0 0)) ∧
    (∃ ax cap, v = .slice ax (nexts E y).length cap ∧ (ax = none → (nexts E y).length = 0) ∨ True) ∧ ∀ {L0 L F : List Part} {w0 w : World}, At L0 w0 L w → Sel (restN N) L F → Reads w v (nexts E y).length (flatQ (nexts E y)) ∧ ∃ ax cap, v = .slice ax (nexts E y).length cap ∧ (ax = none → (nexts E y).length = 0) := by
  rcases hN.look y with ⟨l1, e, l2, hl, hk, he⟩ | ⟨h1, h2⟩
  · refine ⟨e.v, .inl ?_, ⟨none, 0, .inr trivial⟩, fun hA s => ?_⟩
    · rw [hl, ← hk]; simp [entsN, entN]
    · rw [← he]; exact rowN_reads hl hA s
  · refine ⟨.slice none 0 0, .inr ⟨h1, rfl⟩, ⟨none, 0, .inr trivial⟩, fun hA s => ?_⟩
    rw [h2]
    exact ⟨nil_reads _, none, 0, rfl, fun _ => rfl⟩
set_option maxRecDepth 100000 in
set_option maxHeartbeats 4000000 in
theorem reaches_any {w : World} {X : Part} {m : Nat} {N : List NE} {E : List (Ses × Ses)} (hX : ∀ w, X.holds w → MapAt Tryz.prog 33 w m (entsN N)) (h : Sep [X, restN N] w) (hN : NextIs E N) {x : Ses} (hx : okS x) (hE : ∀ p ∈ E, okS p.2) (hl : E.length ≤ 2000) :
    Calls Tryz.prog 47 #[.map (some m), .agg #[.int .u64 x.1, .string x.2]] w (ReachPost w X N E x) := by
  obtain ⟨i0, hi0, hz0, hz1, hz2⟩ := info_parts infoQ
  have hA := At.start h
  have hF := hA.facts
  clear h
  obtain ⟨v0, hv0, _, hr0⟩ := look_next hN x
  obtain ⟨kx, hkx⟩ := keyQ hx
  have hN' := Lib.hid hN
  have hE' := Lib.hid hE
  clear hN hE
  (try simp only [setL, List.set_cons_zero, List.set_cons_succ, List.cons_append, List.nil_append] at hA); (have hF := hA.facts); (try simp only [facts_cons, facts_nil, facts_cells, facts_old, facts_fact, facts_obj, facts_map, facts_iter, facts_row, facts_stamp, and_true, true_and] at hF)
  go_enter Tryz.func47, Tryz.ntmps47
  rcases hv0 with hv0 | ⟨hv0, rfl⟩
  all_goals
    have hv0' := Lib.hid hv0
    clear hv0
    go_wp2_with (first
      | ((with_reducible show wpList _ _ _ ({ dst := _, op := Op.box _ _, type := _, pos := _, after := _, guard := _ } :: _) _ _); refine wpList_box_at (E := 33) rfl rfl (by (try simp only [Act.eval, Array.getD_eq_getD_getElem?, List.getElem?_toArray, List.getElem?_cons_succ, List.getElem?_cons_zero, Option.getD_some]) <;> exact rfl) (by exact rfl) hA ?_; intro bS w1 hB hbS; clear hF hA; have hA := hB; clear hB; (try simp only [setL, List.set_cons_zero, List.set_cons_succ, List.cons_append, List.nil_append] at hA); (have hF := hA.facts); (try simp only [facts_cons, facts_nil, facts_cells, facts_old, facts_fact, facts_obj, facts_map, facts_iter, facts_row, facts_stamp, and_true, true_and] at hF))
      | (refine wpList_makeMap_at Tryz.prog 33 rfl rfl hA ?_; intro b w1 hB hb1; clear hF hA; have hA := hB; clear hB; (try simp only [setL, List.set_cons_zero, List.set_cons_succ, List.cons_append, List.nil_append] at hA); (have hF := hA.facts); (try simp only [facts_cons, facts_nil, facts_cells, facts_old, facts_fact, facts_obj, facts_map, facts_iter, facts_row, facts_stamp, and_true, true_and] at hF))
      | (refine wpList_look1_some_raw rfl rfl (by (try simp only [Act.eval, Array.getD_eq_getD_getElem?, List.getElem?_toArray, List.getElem?_cons_succ, List.getElem?_cons_zero, Option.getD_some]) <;> exact rfl) (by (try simp only [Act.eval, Array.getD_eq_getD_getElem?, List.getElem?_toArray, List.getElem?_cons_succ, List.getElem?_cons_zero, Option.getD_some]) <;> exact rfl) (hX _ (hA.get (A := X) (by with_reducible repeat (first | exact Sel.here | apply Sel.there)))) lawQ Tryz.underlying102 hkx hv0'.out ?_)
      | (refine wpList_look1_none_raw rfl rfl (by (try simp only [Act.eval, Array.getD_eq_getD_getElem?, List.getElem?_toArray, List.getElem?_cons_succ, List.getElem?_cons_zero, Option.getD_some]) <;> exact rfl) (by (try simp only [Act.eval, Array.getD_eq_getD_getElem?, List.getElem?_toArray, List.getElem?_cons_succ, List.getElem?_cons_zero, Option.getD_some]) <;> exact rfl) (hX _ (hA.get (A := X) (by with_reducible repeat (first | exact Sel.here | apply Sel.there)))) lawQ Tryz.underlying102 hkx hv0'.out zeroQ ?_))
    have hnl := nexts_len E x
    refine (clone_ses hA (fun w' hA' => (hr0 hA' (by with_reducible repeat (first | exact Sel.here | apply Sel.there))).1) (hr0 hA (by with_reducible repeat (first | exact Sel.here | apply Sel.there))).2 (by omega)).mono ?_
    clear hr0 hv0' hkx
    rintro e w2 ⟨vt, rfl, hB⟩
    clear hF hA
    have hA := hB
    clear hB
    have hF := hA.facts
    (try simp only [setL, List.set_cons_zero, List.set_cons_succ, List.cons_append, List.nil_append] at hA); (have hF := hA.facts); (try simp only [facts_cons, facts_nil, facts_cells, facts_old, facts_fact, facts_obj, facts_map, facts_iter, facts_row, facts_stamp, and_true, true_and] at hF)
    go_wp2_with fail
    try go_frame
    go_loopg [6] (digM E [] (nexts E x)) (ReRel w X N E x bS b)
    case atStart => exact ⟨[], nexts E x, Nat.le_refl _, by simpa using hnl, digs_start E x, hA.pick (by repeat (first | exact Picks.nil | refine Picks.cons (by repeat (first | exact Sel.here | apply Sel.there)) ?_))⟩
    case round =>
      obtain ⟨S, T, hk, hTb, hD, hB⟩ := hrel
      clear hF hA
      have hA := hB
      clear hB
      have hD' := Lib.hid hD
      clear hD
      obtain ⟨tx, tn, tcap, htv, htn⟩ := hA.row_hid (v := u6) (n := T.length) (xs := flatQ T) (by with_reducible repeat (first | exact Sel.here | apply Sel.there))
      subst htv
      have hTl : T.length ≤ 4100000 := by
        have h1 := hD'.out.len
        have h2 : (S.length + 1) * E.length ≤ 2001 * 2000 := Nat.mul_le_mul (by omega) hl
        omega
      have hTb' := Lib.hid hTb
      clear hTb
      have hF := hA.facts
      (try simp only [setL, List.set_cons_zero, List.set_cons_succ, List.cons_append, List.nil_append] at hA); (have hF := hA.facts); (try simp only [facts_cons, facts_nil, facts_cells, facts_old, facts_fact, facts_obj, facts_map, facts_iter, facts_row, facts_stamp, and_true, true_and] at hF)
      rcases List.eq_nil_or_concat T with rfl | ⟨T1, y, rfl⟩
      · have htn2 := htn.out
        simp only [List.length_nil] at htn2
        subst htn2
        go_wp2_with fail
        go_ret
        exact ⟨false, rfl, ⟨nofun, fun c => absurd c hD'.out.no⟩, hA.pick (by repeat (first | exact Picks.nil | refine Picks.cons (by repeat (first | exact Sel.here | apply Sel.there)) ?_))⟩
      · rw [List.concat_eq_append] at *
        have htn2 := htn.out
        subst htn2
        clear htn
        have hyx := hD'.out.reach y (.inr (by simp))
        have hoy : okS y := by
          cases hyx with
          | one h => exact hE'.out _ h
          | more _ h => exact hE'.out _ h
        obtain ⟨ky, hky⟩ := keyQ hoy
        obtain ⟨g, c, rfl, hcp1, hcm, hcl, hct, hB⟩ := hA.row_open (ax := tx) (cap := tcap) (n := (T1 ++ [y]).length) (xs := flatQ (T1 ++ [y])) (by with_reducible repeat (first | exact Sel.here | apply Sel.there)) (by simp)
        have hy1 : (T1 ++ [y])[T1.length]? = some y := by simp
        have c0 : c[T1.length * 2]? = some (.int .u64 y.1) := cells_at seL_len hct hy1 0 (by omega)
        have c1 : c[T1.length * 2 + 1]? = some (.string y.2) := cells_at seL_len hct hy1 1 (by omega)
        have hct2 : c.take (T1.length * 2) = flatQ T1 := by
          have e : c.take (T1.length * 2) = (c.take ((T1 ++ [y]).length * 2)).take (T1.length * 2) := by
            rw [List.take_take]
            congr 1
            simp <;> omega
          rw [e, hct]
          show ((T1 ++ [y]).flatMap seL).take _ = _
          rw [List.flatMap_append, List.take_append_of_le_length (by rw [flat_len _ _ seL_len]; omega), List.take_of_length_le (by rw [flat_len _ _ seL_len]; omega)]
        have hnn : (T1 ++ [y]).length = T1.length + 1 := by simp
        clear hA hy1 hct
        have hA := hB
        clear hB
        rw [hnn] at hTl hcp1 ⊢
        have hF := hA.facts
        (try simp only [setL, List.set_cons_zero, List.set_cons_succ, List.cons_append, List.nil_append] at hA); (have hF := hA.facts); (try simp only [facts_cons, facts_nil, facts_cells, facts_old, facts_fact, facts_obj, facts_map, facts_iter, facts_row, facts_stamp, and_true, true_and] at hF)
        go_upto_region 6 with (first
          | ((with_reducible show wpList _ _ _ ({ dst := _, op := Op.alloc _, type := _, pos := _, after := _, guard := _ } :: _) _ _); refine wpList_alloc_at (E := 33) (z := .agg #[.int .u64 0, .string .empty]) (vs := [.int .u64 0, .string .empty]) rfl rfl (by kernel_rfl) rfl hA ?_; intro bY w1 hB hbY; clear hF hA; have hA := hB; clear hB; (try simp only [setL, List.set_cons_zero, List.set_cons_succ, List.cons_append, List.nil_append] at hA); (have hF := hA.facts); (try simp only [facts_cons, facts_nil, facts_cells, facts_old, facts_fact, facts_obj, facts_map, facts_iter, facts_row, facts_stamp, and_true, true_and] at hF))
          | ((with_reducible show wpList _ _ _ ({ dst := _, op := Op.store _ _ _, type := _, pos := _, after := _, guard := _ } :: _) _ _); refine wpList_store_at rfl rfl rfl (by (try simp only [Act.eval, Array.getD_eq_getD_getElem?, List.getElem?_toArray, List.getElem?_cons_succ, List.getElem?_cons_zero, Option.getD_some]) <;> exact rfl) (by exact rfl) hA (by with_reducible repeat (first | exact Sel.here | apply Sel.there)) (by kernel_rfl) rfl (by first | decide | (simp; done) | omega) ?_; intro w1 hB; clear hF hA; have hA := hB; clear hB; (try simp only [setL, List.set_cons_zero, List.set_cons_succ, List.cons_append, List.nil_append] at hA); (have hF := hA.facts); (try simp only [facts_cons, facts_nil, facts_cells, facts_old, facts_fact, facts_obj, facts_map, facts_iter, facts_row, facts_stamp, and_true, true_and] at hF)) | ((with_reducible show wpList _ _ _ ({ dst := _, op := Op.box _ _, type := _, pos := _, after := _, guard := _ } :: _) _ _); refine wpList_box_at rfl rfl (by (try simp only [Act.eval, Array.getD_eq_getD_getElem?, List.getElem?_toArray, List.getElem?_cons_succ, List.getElem?_cons_zero, Option.getD_some]) <;> exact rfl) (by exact rfl) hA ?_; intro b1 w1 hB hb1; clear hF hA; have hA := hB; clear hB; (try simp only [setL, List.set_cons_zero, List.set_cons_succ, List.cons_append, List.nil_append] at hA); (have hF := hA.facts); (try simp only [facts_cons, facts_nil, facts_cells, facts_old, facts_fact, facts_obj, facts_map, facts_iter, facts_row, facts_stamp, and_true, true_and] at hF)))
        have hB := hA.row_shut (e := 33) (size := 2) (n := T1.length) (cap := tcap) (xs := flatQ T1) (by with_reducible repeat (first | exact Sel.here | apply Sel.there)) hcl (by omega) hcm hct2
        clear hF hA
        have hA := hB
        clear hB
        have hF := hA.facts
        (try simp only [setL, List.set_cons_zero, List.set_cons_succ, List.cons_append, List.nil_append] at hA); (have hF := hA.facts); (try simp only [facts_cons, facts_nil, facts_cells, facts_old, facts_fact, facts_obj, facts_map, facts_iter, facts_row, facts_stamp, and_true, true_and] at hF)
        have hkk := Lib.hid hk
        clear hk hnn
        by_cases hq : y.1 = x.1 ∧ y.2 = x.2
        · have hq' : decide (y.1 = x.1 ∧ y.2 = x.2) = true := decide_eq_true hq
          have hxy : y = x := Prod.ext hq.1 hq.2
          have hcc := Lib.hid (show Conn E x x from (hxy ▸ hD'.out).hit)
          clear hq
          go_wp2_with (first
            | ((with_reducible show wpList _ _ _ ({ dst := _, op := Op.store _ _ _, type := _, pos := _, after := _, guard := _ } :: _) _ _); refine wpList_store_at rfl rfl rfl (by (try simp only [Act.eval, Array.getD_eq_getD_getElem?, List.getElem?_toArray, List.getElem?_cons_succ, List.getElem?_cons_zero, Option.getD_some]) <;> exact rfl) (by exact rfl) hA (by with_reducible repeat (first | exact Sel.here | apply Sel.there)) (by kernel_rfl) rfl (by first | decide | (simp; done) | omega) ?_; intro w1 hB; clear hF hA; have hA := hB; clear hB; (try simp only [setL, List.set_cons_zero, List.set_cons_succ, List.cons_append, List.nil_append] at hA); (have hF := hA.facts); (try simp only [facts_cons, facts_nil, facts_cells, facts_old, facts_fact, facts_obj, facts_map, facts_iter, facts_row, facts_stamp, and_true, true_and] at hF)) | ((with_reducible show wpList _ _ _ ({ dst := _, op := Op.box _ _, type := _, pos := _, after := _, guard := _ } :: _) _ _); refine wpList_box_at rfl rfl (by (try simp only [Act.eval, Array.getD_eq_getD_getElem?, List.getElem?_toArray, List.getElem?_cons_succ, List.getElem?_cons_zero, Option.getD_some]) <;> exact rfl) (by exact rfl) hA ?_; intro b1 w1 hB hb1; clear hF hA; have hA := hB; clear hB; (try simp only [setL, List.set_cons_zero, List.set_cons_succ, List.cons_append, List.nil_append] at hA); (have hF := hA.facts); (try simp only [facts_cons, facts_nil, facts_cells, facts_old, facts_fact, facts_obj, facts_map, facts_iter, facts_row, facts_stamp, and_true, true_and] at hF)))
          go_ret
          exact ⟨true, rfl, ⟨fun _ => hcc.out, fun _ => rfl⟩, hA.pick (by repeat (first | exact Picks.nil | refine Picks.cons (by repeat (first | exact Sel.here | apply Sel.there)) ?_))⟩
        · have hq' : decide (y.1 = x.1 ∧ y.2 = x.2) = false := decide_eq_false hq
          have hne : y ≠ x := fun e => hq (by rw [e]; exact ⟨rfl, rfl⟩)
          have hTb2 : T1.length + 1 ≤ (S.length + 1) * E.length := by have := hTb'.out; simpa using this
          have hkp : digM E S T1 + 1 ≤ gk := by have := hkk.out; rw [digM_pop] at this; exact this
          clear hq
          by_cases hm : y ∈ S
          · have hD2 := Lib.hid (hD'.out.pop hm)
            have hmm := Lib.hid (seen_yes hm)
            clear hm
            have hTb3 := Lib.hid hTb2
            have hkp3 := Lib.hid hkp
            clear hTb2 hkp
            go_wp2_with (first
              | ((with_reducible show wpList _ _ _ ({ dst := _, op := Op.lookup 127 _ _ _, type := _, pos := _, after := _, guard := _ } :: _) _ _); refine wpList_look1_some_at rfl rfl (by (try simp only [Act.eval, Array.getD_eq_getD_getElem?, List.getElem?_toArray, List.getElem?_cons_succ, List.getElem?_cons_zero, Option.getD_some]) <;> exact rfl) (by (try simp only [Act.eval, Array.getD_eq_getD_getElem?, List.getElem?_toArray, List.getElem?_cons_succ, List.getElem?_cons_zero, Option.getD_some]) <;> exact rfl) hA (es := seenE S) (by with_reducible repeat (first | exact Sel.here | apply Sel.there)) lawQ Tryz.underlying127 hky hmm.out ?_)
              | ((with_reducible show wpList _ _ _ ({ dst := _, op := Op.store _ _ _, type := _, pos := _, after := _, guard := _ } :: _) _ _); refine wpList_store_at rfl rfl rfl (by (try simp only [Act.eval, Array.getD_eq_getD_getElem?, List.getElem?_toArray, List.getElem?_cons_succ, List.getElem?_cons_zero, Option.getD_some]) <;> exact rfl) (by exact rfl) hA (by with_reducible repeat (first | exact Sel.here | apply Sel.there)) (by kernel_rfl) rfl (by first | decide | (simp; done) | omega) ?_; intro w1 hB; clear hF hA; have hA := hB; clear hB; (try simp only [setL, List.set_cons_zero, List.set_cons_succ, List.cons_append, List.nil_append] at hA); (have hF := hA.facts); (try simp only [facts_cons, facts_nil, facts_cells, facts_old, facts_fact, facts_obj, facts_map, facts_iter, facts_row, facts_stamp, and_true, true_and] at hF)) | ((with_reducible show wpList _ _ _ ({ dst := _, op := Op.box _ _, type := _, pos := _, after := _, guard := _ } :: _) _ _); refine wpList_box_at rfl rfl (by (try simp only [Act.eval, Array.getD_eq_getD_getElem?, List.getElem?_toArray, List.getElem?_cons_succ, List.getElem?_cons_zero, Option.getD_some]) <;> exact rfl) (by exact rfl) hA ?_; intro b1 w1 hB hb1; clear hF hA; have hA := hB; clear hB; (try simp only [setL, List.set_cons_zero, List.set_cons_succ, List.cons_append, List.nil_append] at hA); (have hF := hA.facts); (try simp only [facts_cons, facts_nil, facts_cells, facts_old, facts_fact, facts_obj, facts_map, facts_iter, facts_row, facts_stamp, and_true, true_and] at hF)))
            go_roundg (gk - 1)
            case measure => have := hkp3.out; omega
            case rel => exact ⟨S, T1, by have := hkp3.out; omega, by have := hTb3.out; omega, hD2.out, hA.pick (by repeat (first | exact Picks.nil | refine Picks.cons (by repeat (first | exact Sel.here | apply Sel.there)) ?_))⟩
          · have hD2 := Lib.hid (hD'.out.push hm hne)
            have hDm := Lib.hid (digM_push hD2.out)
            have hmm := Lib.hid (seen_no hm)
            have hNl := nexts_len E y
            obtain ⟨v1, hv1, _, hr1⟩ := look_next hN'.out y
            clear hm hne
            have hTb3 := Lib.hid hTb2
            have hkp3 := Lib.hid hkp
            have hr1' := fun (w' : World) (L0 L F : List Part) (w0 : World) (hA : At L0 w0 L w') (s : Sel (restN N) L F) => hr1 hA s
            clear hTb2 hkp hr1
            rcases hv1 with hv1 | ⟨hv1, rfl⟩
            all_goals
              have hv1' := Lib.hid hv1
              clear hv1
              go_wp2_with (first
                | ((with_reducible show wpList _ _ _ ({ dst := _, op := Op.lookup 127 _ _ _, type := _, pos := _, after := _, guard := _ } :: _) _ _); refine wpList_look1_none_at rfl rfl (by (try simp only [Act.eval, Array.getD_eq_getD_getElem?, List.getElem?_toArray, List.getElem?_cons_succ, List.getElem?_cons_zero, Option.getD_some]) <;> exact rfl) (by (try simp only [Act.eval, Array.getD_eq_getD_getElem?, List.getElem?_toArray, List.getElem?_cons_succ, List.getElem?_cons_zero, Option.getD_some]) <;> exact rfl) hA (es := seenE S) (by with_reducible repeat (first | exact Sel.here | apply Sel.there)) lawQ Tryz.underlying127 hky hmm.out zeroI ?_)
                | (refine wpList_put_new_at (key := seV y) (val := .int .i64 1) (es := seenE S) rfl rfl (by (try simp only [Act.eval, Array.getD_eq_getD_getElem?, List.getElem?_toArray, List.getElem?_cons_succ, List.getElem?_cons_zero, Option.getD_some]) <;> exact rfl) (by (try simp only [Act.eval, Array.getD_eq_getD_getElem?, List.getElem?_toArray, List.getElem?_cons_succ, List.getElem?_cons_zero, Option.getD_some]) <;> exact rfl) (by (try simp only [Act.eval, Array.getD_eq_getD_getElem?, List.getElem?_toArray, List.getElem?_cons_succ, List.getElem?_cons_zero, Option.getD_some]) <;> exact rfl) hA (by with_reducible repeat (first | exact Sel.here | apply Sel.there)) lawQ Tryz.underlying127 hky hmm.out ?_; intro w3 hB; rw [seen_snoc] at hB; clear hF hA; have hA := hB; clear hB; (try simp only [setL, List.set_cons_zero, List.set_cons_succ, List.cons_append, List.nil_append] at hA); (have hF := hA.facts); (try simp only [facts_cons, facts_nil, facts_cells, facts_old, facts_fact, facts_obj, facts_map, facts_iter, facts_row, facts_stamp, and_true, true_and] at hF))
                | ((with_reducible show wpList _ _ _ ({ dst := _, op := Op.lookup 102 _ _ _, type := _, pos := _, after := _, guard := _ } :: _) _ _); first | refine wpList_look1_some_raw rfl rfl (by (try simp only [Act.eval, Array.getD_eq_getD_getElem?, List.getElem?_toArray, List.getElem?_cons_succ, List.getElem?_cons_zero, Option.getD_some]) <;> exact rfl) (by (try simp only [Act.eval, Array.getD_eq_getD_getElem?, List.getElem?_toArray, List.getElem?_cons_succ, List.getElem?_cons_zero, Option.getD_some]) <;> exact rfl) (hX _ (hA.get (A := X) (by with_reducible repeat (first | exact Sel.here | apply Sel.there)))) lawQ Tryz.underlying102 hky hv1'.out ?_ | refine wpList_look1_none_raw rfl rfl (by (try simp only [Act.eval, Array.getD_eq_getD_getElem?, List.getElem?_toArray, List.getElem?_cons_succ, List.getElem?_cons_zero, Option.getD_some]) <;> exact rfl) (by (try simp only [Act.eval, Array.getD_eq_getD_getElem?, List.getElem?_toArray, List.getElem?_cons_succ, List.getElem?_cons_zero, Option.getD_some]) <;> exact rfl) (hX _ (hA.get (A := X) (by with_reducible repeat (first | exact Sel.here | apply Sel.there)))) lawQ Tryz.underlying102 hky hv1'.out zeroQ ?_)
                | ((with_reducible show wpList _ _ _ ({ dst := _, op := Op.call { callee := Callee.builtin Builtin.append, args := _, argTypes := _ }, type := _, pos := _, after := _, guard := _ } :: _) _ _); refine wpList_append_at (e := 33) (size := 2) (v := .slice (some ⟨g, 0, none⟩) T1.length tcap) (xs := flatQ T1) (n := T1.length) (m := (nexts E y).length) (news := flatQ (nexts E y)) rfl _ _ 62 rfl Tryz.underlying62 hi0 hz0 hz1 hz2 rfl (by omega) hA (by with_reducible repeat (first | exact Sel.here | apply Sel.there)) (by (try simp only [Act.eval, Array.getD_eq_getD_getElem?, List.getElem?_toArray, List.getElem?_cons_succ, List.getElem?_cons_zero, Option.getD_some]) <;> exact rfl) (by (try simp only [Act.eval, Array.getD_eq_getD_getElem?, List.getElem?_toArray, List.getElem?_cons_succ, List.getElem?_cons_zero, Option.getD_some]) <;> exact rfl) (flat_len _ _ seL_len _) (hr1' _ _ _ _ _ hA (by with_reducible repeat (first | exact Sel.here | apply Sel.there))).1 (flat_one seL_one _) (by unfold maxLen; omega) (by omega) ?_; intro v2 w4 hB; rw [rowQ_app] at hB; clear hF hA; have hA := hB; clear hB; (try simp only [setL, List.set_cons_zero, List.set_cons_succ, List.cons_append, List.nil_append] at hA); (have hF := hA.facts); (try simp only [facts_cons, facts_nil, facts_cells, facts_old, facts_fact, facts_obj, facts_map, facts_iter, facts_row, facts_stamp, and_true, true_and] at hF))
                | ((with_reducible show wpList _ _ _ ({ dst := _, op := Op.store _ _ _, type := _, pos := _, after := _, guard := _ } :: _) _ _); refine wpList_store_at rfl rfl rfl (by (try simp only [Act.eval, Array.getD_eq_getD_getElem?, List.getElem?_toArray, List.getElem?_cons_succ, List.getElem?_cons_zero, Option.getD_some]) <;> exact rfl) (by exact rfl) hA (by with_reducible repeat (first | exact Sel.here | apply Sel.there)) (by kernel_rfl) rfl (by first | decide | (simp; done) | omega) ?_; intro w1 hB; clear hF hA; have hA := hB; clear hB; (try simp only [setL, List.set_cons_zero, List.set_cons_succ, List.cons_append, List.nil_append] at hA); (have hF := hA.facts); (try simp only [facts_cons, facts_nil, facts_cells, facts_old, facts_fact, facts_obj, facts_map, facts_iter, facts_row, facts_stamp, and_true, true_and] at hF)) | ((with_reducible show wpList _ _ _ ({ dst := _, op := Op.box _ _, type := _, pos := _, after := _, guard := _ } :: _) _ _); refine wpList_box_at rfl rfl (by (try simp only [Act.eval, Array.getD_eq_getD_getElem?, List.getElem?_toArray, List.getElem?_cons_succ, List.getElem?_cons_zero, Option.getD_some]) <;> exact rfl) (by exact rfl) hA ?_; intro b1 w1 hB hb1; clear hF hA; have hA := hB; clear hB; (try simp only [setL, List.set_cons_zero, List.set_cons_succ, List.cons_append, List.nil_append] at hA); (have hF := hA.facts); (try simp only [facts_cons, facts_nil, facts_cells, facts_old, facts_fact, facts_obj, facts_map, facts_iter, facts_row, facts_stamp, and_true, true_and] at hF)))
              go_roundg (gk - 1)
              case measure => have := hkp3.out; omega
              case rel =>
                refine ⟨S ++ [y], T1 ++ nexts E y, ?_, ?_, hD2.out, hA.pick (by repeat (first | exact Picks.nil | refine Picks.cons (by repeat (first | exact Sel.here | apply Sel.there)) ?_))⟩
                · have h1 := hDm.out
                  rw [digM_pop] at h1
                  have := hkp3.out
                  omega
                · have h1 := hTb3.out
                  rw [List.length_append, List.length_append, List.length_singleton, Nat.add_mul (S.length + 1), Nat.one_mul]
                  omega
end Go.Proofs.YtnkddjomanaadaaGreatDoor.Lock
end
