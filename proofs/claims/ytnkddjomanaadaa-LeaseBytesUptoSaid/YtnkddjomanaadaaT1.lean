/- RegE, WireA, WireB, WireC, joined. -/
import Derived.Test.YtnkddjomanaadaaRow
import Derived.Test.YtnkddjomanaadaaRegA
import Derived.Test.YtnkddjomanaadaaMapW
import Derived.OrdersHeld
import Derived.Test.YtnkddjomanaadaaRow2
import Derived.Test.YtnkddjomanaadaaRow3
import Derived.Test.YtnkddjomanaadaaRow4
import Derived.Test.YtnkddjomanaadaaShelf
import Derived.Deep.OwnRows
import Derived.Lib.AppendStr
import Derived.Deep.QuietTactic
import Derived.BigQuiet
section
namespace Go
open _root_.Go.Proofs.Ytnkddjomanaadaa
open Go.RowKit
set_option linter.unusedVariables false
set_option linter.unusedSimpArgs false

section
variable {P : Program} {ops : Array Oper} {Q : Exit → Act → World → Prop} {md : Region.Mode} {S : World → Prop} {L0 L F : List Part} {w0 w : World}
theorem wpAnyH_one {i fuel : Nat} {listed : Array Bool} {a : Act} (hr : Region.ready md ops listed = [i]) (h : wpOp P ops Q i (fun a' w' => S w' ∧ wpAnyH P md ops Q S fuel (listed.setIfInBounds i true) a' w') a w) : wpAnyH P md ops Q S (fuel + 1) listed a w :=
  wpAnyH_all hr (by simp) (fun k hk => by rw [List.mem_singleton.1 hk]; exact h)
theorem wpAnyH_two {i j fuel : Nat} {listed : Array Bool} {a : Act} (hr : Region.ready md ops listed = [i, j]) (h1 : wpOp P ops Q i (fun a' w' => S w' ∧ wpAnyH P md ops Q S fuel (listed.setIfInBounds i true) a' w') a w)
    (h2 : wpOp P ops Q j (fun a' w' => S w' ∧ wpAnyH P md ops Q S fuel (listed.setIfInBounds j true) a' w') a w) : wpAnyH P md ops Q S (fuel + 1) listed a w :=
  wpAnyH_all hr (by simp) (fun k hk => by
    rcases List.mem_cons.1 hk with rfl | hk
    · exact h1
    · rw [List.mem_singleton.1 hk]; exact h2)
/-- number i first; its slot given -/
theorem wpAnyH_takeD {i : Nat} {oi : Oper} {v : Value} {d : Option Tmp} {fuel : Nat} {listed : Array Bool} {a : Act} (hi : ops[i]? = some oi) (hd : oi.dst = d)
    (hs : Region.noSelect ops = true) (hf : Region.free md ops listed i = true) (hr : (Region.ready md ops listed).contains i = true)
    (hQ : ∀ c a w, Q (.panic c) (a.put oi.dst v) w → Q (.panic c) a w) (hw : Region.wanted oi (yielded ops a.tmps) = true) (hrun : ∀ w, S w → (execOp a.eval oi).run P w = .ok (.value v) w) (hS : S w)
    (h : wpAnyH P md ops Q S fuel (listed.setIfInBounds i true) (a.put d v) w) : wpAnyH P md ops Q S (fuel + 1) listed a w := by
  subst hd
  exact wpAnyH_take hi hs hf hr hQ (.inl ⟨hw, hrun⟩) hS h
/-- a row of one element is laid -/
theorem opOne_at {i : Nat} {d : Option Tmp} {o : Oper} {a : Act} {K : Act → World → Prop} {t : TypeId} {x : Operand} {e : TypeId} (ho : ops[i]? = some o) (hd : o.dst = d) (hw : Region.wanted o (yielded ops a.tmps) = true) (hop : o.op = .buildSlice t 1 #[(0, x)]) {xv : Value} (hx : a.eval x = xv) {vs : List Value}
    (hrun : ∀ w, (Instr.buildSlice t 1 #[(0, xv)]).run P w = .ok (.slice (some ⟨w.heap.size, 0, none⟩) 1 1) (w.alloc (.cells vs.toArray e))) (h : At L0 w0 L w)
    (hK : ∀ b w', At L0 w0 (Part.cells b vs e :: L) w' → K (a.put d (.slice (some ⟨b, 0, none⟩) 1 1)) w') : wpOp P ops Q i K a w := by
  subst hd
  exact wpOp_val ho hw (v := .slice (some ⟨w.heap.size, 0, none⟩) 1 1) (w' := w.alloc (.cells vs.toArray e)) (by simp [execOp, hop, hx, hrun, Result.andThen]) (hK _ _ (h.alloc vs e))
/-- append of a row that is read -/
theorem opAppend_at {k : Nat} {d : Option Tmp} {o : Oper} {a : Act} {K : Act → World → Prop} {e : TypeId} {size n : Nat} {v : Value} {xs : List Value} {i : TypeInfo} {z : Value} {bytes : Nat} (hok : ops[k]? = some o) (hd : o.dst = d) (hw : Region.wanted o (yielded ops a.tmps) = true) (hg : o.guard = none) (s' x : Operand) (t : TypeId) (ho : o.op = .call { callee := .builtin .append, args := #[s', x], argTypes := #[t, t] })
    (ht : P.underlying t = some (.slice e)) (hi : P.info? e = some i) (hz : i.zero = some z) (hsize : i.size = size) (hby : i.bytes = bytes) (hzs : z.cells.size = size) (hsz : 0 < size)
    (h : At L0 w0 L w) (s : Sel (Part.row e size v n xs) L F) (hs : a.eval s' = v) {xv : Value} {m : Nat} {news : List Value} (hxv : a.eval x = xv) (hl : news.length = m * size) (hx : Reads w xv m news) (h1 : ∀ u ∈ news, u.oneCell' = true)
    (h63 : n + m ≤ maxLen) (hbytes : (n + m) * bytes ≤ 140737488355328)
    (hK : ∀ v' w', At L0 w0 (Part.row e size v' (n + m) (xs ++ news) :: F) w' → K (a.put d v') w') : wpOp P ops Q k K a w := by
  subst hd
  have hst := step_append_all w (K := K) (Q := Q) (E := True) (ops := ops) (a := a) (o := o) hg s' x t ho 0 e i z size bytes ht hi hz hsize hby hzs hsz v n xs hs (h.get s) xv m news hxv hl hx h1 h63 hbytes (Nat.zero_le _) (fun v' w' h2 h3 h4 =>
    hK v' w' (h.turn s _ h2 (fun b hb => by
      rcases h4 with h4 | h4
      · exact .inl (show v.ownBlock = some b from by rw [← h4]; exact hb)
      · right
        have hb' : v'.ownBlock = some b := hb
        rw [h4] at hb'
        cases hb'
        exact Nat.le_refl _) (exc_grown h3)))
  rw [if_pos hw] at hst
  unfold wpOp
  simp only [hok, hw, if_true]
  exact .inl hst
/-- a call -/
theorem opCall_at {i : Nat} {d : Option Tmp} {o : Oper} {a : Act} {K : Act → World → Prop} (ho : ops[i]? = some o) (hd : o.dst = d) (hw : Region.wanted o (yielded ops a.tmps) = true) {fn : FuncId} {args : Array Value} (hrun : (execOp a.eval o).run P w = .ok (.enter fn args) w)
    {R : Value → World → Prop} (hc : Calls P fn args w fun e w' => ∃ u, e = .returned u ∧ R u w') (hK : ∀ u w', R u w' → K (a.put d u) w') : wpOp P ops Q i K a w := by
  subst hd
  exact wpOp_call ho hw hrun hc (fun e w' ⟨u, he, hr⟩ => ⟨u, he, hK u w' hr⟩)
/-- a store -/
theorem opStore_at {i : Nat} {o : Oper} {a : Act} {K : Act → World → Prop} (ho : ops[i]? = some o) (hd : o.dst = none) (hw : Region.wanted o (yielded ops a.tmps) = true) {ty : TypeId} {x y : Operand} (hop : o.op = .store ty x y) {b j : Nat} (hx : a.eval x = .pointer (some ⟨b, j, none⟩)) {v : Value} (hy : a.eval y = v) {vs : List Value} (hv : v.cells = vs.toArray)
    (h : At L0 w0 L w) {c : List Value} {T : TypeId} (s : Sel (Part.cells b c T) L F) (hi : (P.info? ty).map (·.size) = some vs.length) (h1 : vs.all (·.oneCell') = true) (hj : j + vs.length ≤ c.length)
    (hK : ∀ w', At L0 w0 (Part.cells b (setL c j vs) T :: F) w' → K (a.put none undef) w') : wpOp P ops Q i K a w := by
  have hb : BlockIs w b c T := h.get s
  have hs : v.cells.size = vs.length := by rw [hv]; simp
  have h1' : v.cells.all (·.oneCell') = true := by
    rw [hv, Array.all_eq_true_iff_forall_mem]
    intro u hu
    exact List.all_eq_true.1 h1 u (by simpa using hu)
  have hrun := run_storeAt_cells (P := P) w b j ty v (hb.there j _ (by omega)) (by rw [hs]; exact hi) h1'
  rw [show v.cells.toList = vs from by rw [hv]] at hrun
  refine wpOp_unit ho hw (w' := _) ?_ (by rw [hd]; exact hK _ (h.stores s j vs))
  simp [execOp, hop, hx, hy, hrun, Result.andThen]
end
end Go
end

section
namespace Go.Proofs.Ytnkddjomanaadaa.Wire
open Go.RowKit
set_option linter.unusedVariables false
set_option linter.unusedSimpArgs false

/-- bytes, as the walk has them -/
def encY (x : Int) : List Value := [.int .u8 x]
theorem encY_len (x : Int) : (encY x).length = 1 := rfl
theorem encY_one (x : Int) : ∀ v ∈ encY x, v.oneCell' = true := by intro u hu; simp only [encY, List.mem_cons, List.not_mem_nil, or_false] at hu; subst hu; rfl
abbrev flatY (l : List Int) : List Value := l.flatMap encY
abbrev rowY (v : Value) (l : List Int) : Part := .row 5 1 v l.length (flatY l)
theorem rowY_snoc (v : Value) (l : List Int) (x : Int) : Part.row 5 1 v (l.length + 1) (flatY l ++ encY x) = rowY v (l ++ [x]) := rows_snoc (enc := encY) _ v l x
theorem rowY_app (v : Value) (l r : List Int) : Part.row 5 1 v (l.length + r.length) (flatY l ++ flatY r) = rowY v (l ++ r) := rows_app (enc := encY) _ v l r
theorem rowY_nil {L0 L : List Part} {w0 w : World} (h : At L0 w0 L w) : At L0 w0 (rowY (.slice none 0 0) [] :: L) w := h.row_nil 5 1
theorem infoY : (Try.prog.info? 5).map (fun i => (i.zero, i.size, i.bytes)) = some (some (.int .u8 0), 1, 1) := by kernel_rfl
/-- a short number -/
def shortN : Nat → List Int
  | v => if h : v < 128 then [(v : Int)] else ((v % 128 + 128 : Nat) : Int) :: shortN (v / 128)
termination_by v => v
decreasing_by omega
theorem short_lo {v : Nat} (h : v < 128) : shortN v = [(v : Int)] := by rw [shortN, dif_pos h]
theorem short_hi {v : Nat} (h : 128 ≤ v) : shortN v = ((v % 128 + 128 : Nat) : Int) :: shortN (v / 128) := by rw [shortN, dif_neg (by omega)]
theorem short_len : ∀ (k v : Nat), v < 128 ^ (k + 1) → (shortN v).length ≤ k + 1
  | 0, v, h => by rw [short_lo (by simpa using h)]; simp
  | k + 1, v, h => by
    by_cases q : v < 128
    · rw [short_lo q]; simp
    · rw [short_hi (by omega), List.length_cons]
      have := short_len k (v / 128) (by rw [Nat.pow_succ] at h; exact Nat.div_lt_of_lt_mul (by rw [Nat.mul_comm]; exact h))
      omega
theorem or_fin : ∀ n : Fin 256, bits .or .u8 (n.val : Int) 128 = ((n.val % 128 + 128 : Nat) : Int) := by decide +kernel
theorem or_more (x : Nat) : bits .or .u8 ((x : Int) % 256) 128 = ((x % 128 + 128 : Nat) : Int) := by
  have := or_fin ⟨x % 256, Nat.mod_lt _ (by omega)⟩
  simp only at this
  rw [show ((x : Int) % 256) = ((x % 256 : Nat) : Int) from by omega, this]
  omega
def ShRel (w : World) (v : Nat) (k : Nat) (u0 u3 : Value) (wr : World) : Prop :=
  ∃ (x : Nat) (pre : List Int), u0 = .int .u64 x ∧ x < 128 ^ k ∧ pre.length + k = 10 ∧ shortN v = pre ++ shortN x ∧ At [] w [rowY u3 pre] wr
set_option maxRecDepth 100000 in
theorem short_any (v : Nat) (w : World) (hv : v < 18446744073709551616) : Calls Try.prog 42 #[.int .u64 v] w fun e w' => ∃ u, e = .returned u ∧ At [] w [rowY u (shortN v)] w' := by
  obtain ⟨i0, hi0, hz0, hz1, hz2⟩ := info_parts infoY
  have hA : At [] w [] w := At.start (L0 := []) trivial
  have hB := rowY_nil hA
  clear hA
  have hA := hB
  clear hB
  have hF := hA.facts
  (try simp only [setL, List.set_cons_zero, List.set_cons_succ, List.cons_append, List.nil_append] at hA); (have hF := hA.facts); (try simp only [facts_cons, facts_nil, facts_cells, facts_old, facts_fact, facts_obj, facts_map, facts_iter, facts_row, and_true, true_and] at hF)
  go_enter Try.func42, Try.ntmps42
  go_wp2_with fail
  try go_frame
  go_loopg [0, 3] 10 (ShRel w v)
  case atStart => exact ⟨v, [], rfl, by omega, by simp, by simp, hA⟩
  case round =>
    obtain ⟨x, pre, rfl, hx, hk, hs, hB⟩ := hrel
    clear hF hA
    have hA := hB
    clear hB
    obtain ⟨ax, n, cap, hpv, hpn⟩ := hA.row_hid (v := u3) (n := pre.length) (xs := flatY pre) (by with_reducible repeat (first | exact Sel.here | apply Sel.there))
    subst hpv
    have hpn2 := hpn.out
    subst hpn2
    clear hpn
    have hF := hA.facts
    (try simp only [setL, List.set_cons_zero, List.set_cons_succ, List.cons_append, List.nil_append] at hA); (have hF := hA.facts); (try simp only [facts_cons, facts_nil, facts_cells, facts_old, facts_fact, facts_obj, facts_map, facts_iter, facts_row, and_true, true_and] at hF)
    have hone : ∀ (y : Int) w, (Instr.buildSlice 40 1 #[(0, .int .u8 y)]).run Try.prog w = .ok (.slice (some ⟨w.heap.size, 0, none⟩) 1 1) (w.alloc (.cells (encY y).toArray 5)) := fun y w => by kernel_rfl
    have hpl : pre.length ≤ 10 := by omega
    by_cases hq : x < 128
    · have hq' : (x : Int) < 128 := by omega
      have hm : (x : Int) % 256 = x := by omega
      have hs' := Lib.hid (hs.trans (by rw [short_lo hq]))
      clear hs
      go_wp2_with (first
        | ((with_reducible show wpList _ _ _ ({ dst := _, op := Op.buildSlice _ _ _, type := _, pos := _, after := _, guard := _ } :: _) _ _); refine wpList_one_at (e := 5) (vs := encY x) rfl rfl (by (try simp only [Act.eval, Array.getD_eq_getD_getElem?, List.getElem?_toArray, List.getElem?_cons_succ, List.getElem?_cons_zero, Option.getD_some]) <;> exact rfl) (hone x) hA ?_; intro b2 w5 hB hb2; clear hF hA; have hA := hB; clear hB; (try simp only [setL, List.set_cons_zero, List.set_cons_succ, List.cons_append, List.nil_append] at hA); (have hF := hA.facts); (try simp only [facts_cons, facts_nil, facts_cells, facts_old, facts_fact, facts_obj, facts_map, facts_iter, facts_row, and_true, true_and] at hF))
        | ((with_reducible show wpList _ _ _ ({ dst := _, op := Op.call { callee := Callee.builtin Builtin.append, args := _, argTypes := _ }, type := _, pos := _, after := _, guard := _ } :: _) _ _); refine wpList_append_at (e := 5) (size := 1) (v := .slice ax pre.length cap) (xs := flatY pre) (n := pre.length) (m := 1) (news := encY x) rfl _ _ 40 rfl Try.underlying40 hi0 hz0 hz1 hz2 rfl (by omega) hA (by with_reducible repeat (first | exact Sel.here | apply Sel.there)) (by (try simp only [Act.eval, Array.getD_eq_getD_getElem?, List.getElem?_toArray, List.getElem?_cons_succ, List.getElem?_cons_zero, Option.getD_some]) <;> exact rfl) (by (try simp only [Act.eval, Array.getD_eq_getD_getElem?, List.getElem?_toArray, List.getElem?_cons_succ, List.getElem?_cons_zero, Option.getD_some]) <;> exact rfl) rfl (hA.cells_reads (by with_reducible repeat (first | exact Sel.here | apply Sel.there)) _ _) (encY_one _) (by unfold maxLen; omega) (by omega) ?_; intro v2 w7 hB; rw [rowY_snoc] at hB; clear hF hA; have hA := hB; clear hB; (try simp only [setL, List.set_cons_zero, List.set_cons_succ, List.cons_append, List.nil_append] at hA); (have hF := hA.facts); (try simp only [facts_cons, facts_nil, facts_cells, facts_old, facts_fact, facts_obj, facts_map, facts_iter, facts_row, and_true, true_and] at hF)))
      go_ret
      exact ⟨v2, rfl, by rw [hs'.out]; exact hA.pick (by repeat (first | exact Picks.nil | refine Picks.cons (by repeat (first | exact Sel.here | apply Sel.there)) ?_))⟩
    · have hq' : ¬ (x : Int) < 128 := by omega
      have hg0 : 0 < gk := by
        rcases Nat.eq_zero_or_pos gk with q | q
        · subst q; simp at hx; omega
        · exact q
      have hx' := Lib.hid hx
      clear hx
      have hor := or_more x
      have hs' := Lib.hid (hs.trans (by rw [short_hi (by omega)]))
      clear hs
      obtain ⟨y, hy⟩ : ∃ y : Int, ((x % 128 + 128 : Nat) : Int) = y := ⟨_, rfl⟩
      rw [hy] at hor hs'
      go_wp2_with (first
        | ((with_reducible show wpList _ _ _ ({ dst := _, op := Op.buildSlice _ _ _, type := _, pos := _, after := _, guard := _ } :: _) _ _); refine wpList_one_at (e := 5) (vs := encY y) rfl rfl (by (try simp only [Act.eval, Array.getD_eq_getD_getElem?, List.getElem?_toArray, List.getElem?_cons_succ, List.getElem?_cons_zero, Option.getD_some]) <;> exact rfl) (hone y) hA ?_; intro b2 w5 hB hb2; clear hF hA; have hA := hB; clear hB; (try simp only [setL, List.set_cons_zero, List.set_cons_succ, List.cons_append, List.nil_append] at hA); (have hF := hA.facts); (try simp only [facts_cons, facts_nil, facts_cells, facts_old, facts_fact, facts_obj, facts_map, facts_iter, facts_row, and_true, true_and] at hF))
        | ((with_reducible show wpList _ _ _ ({ dst := _, op := Op.call { callee := Callee.builtin Builtin.append, args := _, argTypes := _ }, type := _, pos := _, after := _, guard := _ } :: _) _ _); refine wpList_append_at (e := 5) (size := 1) (v := .slice ax pre.length cap) (xs := flatY pre) (n := pre.length) (m := 1) (news := encY y) rfl _ _ 40 rfl Try.underlying40 hi0 hz0 hz1 hz2 rfl (by omega) hA (by with_reducible repeat (first | exact Sel.here | apply Sel.there)) (by (try simp only [Act.eval, Array.getD_eq_getD_getElem?, List.getElem?_toArray, List.getElem?_cons_succ, List.getElem?_cons_zero, Option.getD_some]) <;> exact rfl) (by (try simp only [Act.eval, Array.getD_eq_getD_getElem?, List.getElem?_toArray, List.getElem?_cons_succ, List.getElem?_cons_zero, Option.getD_some]) <;> exact rfl) rfl (hA.cells_reads (by with_reducible repeat (first | exact Sel.here | apply Sel.there)) _ _) (encY_one _) (by unfold maxLen; omega) (by omega) ?_; intro v2 w7 hB; rw [rowY_snoc] at hB; clear hF hA; have hA := hB; clear hB; (try simp only [setL, List.set_cons_zero, List.set_cons_succ, List.cons_append, List.nil_append] at hA); (have hF := hA.facts); (try simp only [facts_cons, facts_nil, facts_cells, facts_old, facts_fact, facts_obj, facts_map, facts_iter, facts_row, and_true, true_and] at hF)))
      go_roundg (gk - 1)
      case measure => omega
      case rel =>
        refine ⟨x / 128, pre ++ [y], by simp, ?_, by simp; omega, by rw [hs'.out]; simp, hA.pick (by repeat (first | exact Picks.nil | refine Picks.cons (by repeat (first | exact Sel.here | apply Sel.there)) ?_))⟩
        have hx := hx'.out
        have hg1 : gk = (gk - 1) + 1 := by omega
        rw [hg1, Nat.pow_succ, Nat.mul_comm] at hx
        exact Nat.div_lt_of_lt_mul hx

/-! ### A number's bytes, the greatest first -/
def byteN (v k : Nat) : Int := ((v / 2 ^ k % 256 : Nat) : Int)
def fixL (v : Nat) : List Int := [byteN v 56, byteN v 48, byteN v 40, byteN v 32, byteN v 24, byteN v 16, byteN v 8, byteN v 0]
theorem wpList_make_at {P : Program} {ops : Array Oper} {rest : List Oper} {o : Oper} {a : Act} {Q : Exit → Act → World → Prop} {L0 L : List Part} {w0 w : World} {t e : TypeId} {i : TypeInfo} {z : Value} {kl kc : IntKind} (hg : o.guard = none) (l c : Operand) (hop : o.op = .makeSlice t l c)
    (ht : P.underlying t = some (.slice e)) (hi : P.info? e = some i) (hz : i.zero = some z) (hsize : i.size = 1) (hz1 : z.cells = #[z]) (n : Nat) (hl : a.eval l = .int kl (n : Int)) (hc : a.eval c = .int kc (n : Int)) (hbytes : i.bytes * n ≤ 281474976710656) (h63 : n ≤ 9223372036854775807)
    (h : At L0 w0 L w) (hK : ∀ b w', At L0 w0 (Part.cells b (List.replicate n z) e :: L) w' → w0.heap.size ≤ b → wpList P ops Q rest (a.put o.dst (.slice (some ⟨b, 0, none⟩) n n)) w') : wpList P ops Q (o :: rest) a w := by
  have hr := run_make_row t e i z ht hi hz hsize hz1 kl kc n hbytes h63 w
  have hA := h.alloc (List.replicate n z) e
  rw [show (List.replicate n z).toArray = madeCells #[z] n from by rw [← toList_madeCells_one z n]] at hA
  refine wpList_val hg ?_ (hK _ _ hA h.size)
  simp [execOp, hop, hl, hc, hr, Result.andThen]
def partL (v i : Nat) : List Int := (fixL v).take i ++ List.replicate (8 - i) 0
def ByRel (w : World) (g v : Nat) (k : Nat) (u : Value) (wr : World) : Prop := ∃ i : Nat, u = .int .i64 i ∧ i + k = 8 ∧ At [] w [Part.cells g (flatY (partL v i)) 5] wr
set_option maxRecDepth 100000 in
set_option maxHeartbeats 1000000 in
theorem bytes8_any (v : Nat) (w : World) (hv : v < 18446744073709551616) : Calls Try.prog 43 #[.int .u64 v, .int .i64 8] w fun e w' => ∃ u, e = .returned u ∧ At [] w [rowY u (fixL v)] w' := by
  obtain ⟨i0, hi0, hz0, hz1, hz2⟩ := info_parts infoY
  have hA : At [] w [] w := At.start (L0 := []) trivial
  have hF := hA.facts
  go_enter Try.func43, Try.ntmps43
  go_wp2_with (refine wpList_make_at rfl _ _ rfl Try.underlying40 hi0 hz0 hz1 rfl 8 (by (try simp only [Act.eval, Array.getD_eq_getD_getElem?, List.getElem?_toArray, List.getElem?_cons_succ, List.getElem?_cons_zero, Option.getD_some]) <;> exact rfl) (by (try simp only [Act.eval, Array.getD_eq_getD_getElem?, List.getElem?_toArray, List.getElem?_cons_succ, List.getElem?_cons_zero, Option.getD_some]) <;> exact rfl) (by rw [hz2]; omega) (by omega) hA ?_; intro g w1 hB hg; clear hF hA; have hA := hB; clear hB; (try simp only [setL, List.set_cons_zero, List.set_cons_succ, List.cons_append, List.nil_append] at hA); (have hF := hA.facts); (try simp only [facts_cons, facts_nil, facts_cells, facts_old, facts_fact, facts_obj, facts_map, facts_iter, facts_row, and_true, true_and] at hF))
  try go_frame
  go_loopg [14] 8 (ByRel w g v)
  case atStart => exact ⟨0, rfl, by simp, hA⟩
  case round =>
    obtain ⟨i, rfl, hk, hB⟩ := hrel
    clear hF hA
    by_cases hi : i < 8
    · have hcase : i = 0 ∨ i = 1 ∨ i = 2 ∨ i = 3 ∨ i = 4 ∨ i = 5 ∨ i = 6 ∨ i = 7 := by omega
      rcases hcase with rfl | rfl | rfl | rfl | rfl | rfl | rfl | rfl
      · have hA : At [] w [Part.cells g [.int .u8 0, .int .u8 0, .int .u8 0, .int .u8 0, .int .u8 0, .int .u8 0, .int .u8 0, .int .u8 0] 5] wr := hB
        clear hB
        have hF := hA.facts
        have hmm : min (max (8 : Int) 0) 8 = 8 := by omega
        (try simp only [setL, List.set_cons_zero, List.set_cons_succ, List.cons_append, List.nil_append] at hA); (have hF := hA.facts); (try simp only [facts_cons, facts_nil, facts_cells, facts_old, facts_fact, facts_obj, facts_map, facts_iter, facts_row, and_true, true_and] at hF)
        go_wp2_with (first | ((with_reducible show wpList _ _ _ ({ dst := _, op := Op.store _ _ _, type := _, pos := _, after := _, guard := _ } :: _) _ _); refine wpList_store_at rfl rfl rfl (by (try simp only [Act.eval, Array.getD_eq_getD_getElem?, List.getElem?_toArray, List.getElem?_cons_succ, List.getElem?_cons_zero, Option.getD_some]) <;> exact rfl) (by exact rfl) hA (by with_reducible repeat (first | exact Sel.here | apply Sel.there)) (by kernel_rfl) rfl (by first | decide | (simp; done) | omega) ?_; intro w1 hB; clear hF hA; have hA := hB; clear hB; (try simp only [setL, List.set_cons_zero, List.set_cons_succ, List.cons_append, List.nil_append] at hA); (have hF := hA.facts); (try simp only [facts_cons, facts_nil, facts_cells, facts_old, facts_fact, facts_obj, facts_map, facts_iter, facts_row, and_true, true_and] at hF)) | ((with_reducible show wpList _ _ _ ({ dst := _, op := Op.box _ _, type := _, pos := _, after := _, guard := _ } :: _) _ _); refine wpList_box_at rfl rfl (by (try simp only [Act.eval, Array.getD_eq_getD_getElem?, List.getElem?_toArray, List.getElem?_cons_succ, List.getElem?_cons_zero, Option.getD_some]) <;> exact rfl) (by exact rfl) hA ?_; intro b1 w1 hB hb1; clear hF hA; have hA := hB; clear hB; (try simp only [setL, List.set_cons_zero, List.set_cons_succ, List.cons_append, List.nil_append] at hA); (have hF := hA.facts); (try simp only [facts_cons, facts_nil, facts_cells, facts_old, facts_fact, facts_obj, facts_map, facts_iter, facts_row, and_true, true_and] at hF)))
        have hbb : (v : Int) / 72057594037927936 = byteN v 56 := by unfold byteN; omega
        rw [hbb] at hA
        go_roundg (gk - 1)
        case measure => omega
        case rel => exact ⟨1, by simp, by omega, hA⟩
      · have hA : At [] w [Part.cells g [.int .u8 (byteN v 56), .int .u8 0, .int .u8 0, .int .u8 0, .int .u8 0, .int .u8 0, .int .u8 0, .int .u8 0] 5] wr := hB
        clear hB
        have hF := hA.facts
        have hmm : min (max (8 : Int) 0) 8 = 8 := by omega
        (try simp only [setL, List.set_cons_zero, List.set_cons_succ, List.cons_append, List.nil_append] at hA); (have hF := hA.facts); (try simp only [facts_cons, facts_nil, facts_cells, facts_old, facts_fact, facts_obj, facts_map, facts_iter, facts_row, and_true, true_and] at hF)
        go_wp2_with (first | ((with_reducible show wpList _ _ _ ({ dst := _, op := Op.store _ _ _, type := _, pos := _, after := _, guard := _ } :: _) _ _); refine wpList_store_at rfl rfl rfl (by (try simp only [Act.eval, Array.getD_eq_getD_getElem?, List.getElem?_toArray, List.getElem?_cons_succ, List.getElem?_cons_zero, Option.getD_some]) <;> exact rfl) (by exact rfl) hA (by with_reducible repeat (first | exact Sel.here | apply Sel.there)) (by kernel_rfl) rfl (by first | decide | (simp; done) | omega) ?_; intro w1 hB; clear hF hA; have hA := hB; clear hB; (try simp only [setL, List.set_cons_zero, List.set_cons_succ, List.cons_append, List.nil_append] at hA); (have hF := hA.facts); (try simp only [facts_cons, facts_nil, facts_cells, facts_old, facts_fact, facts_obj, facts_map, facts_iter, facts_row, and_true, true_and] at hF)) | ((with_reducible show wpList _ _ _ ({ dst := _, op := Op.box _ _, type := _, pos := _, after := _, guard := _ } :: _) _ _); refine wpList_box_at rfl rfl (by (try simp only [Act.eval, Array.getD_eq_getD_getElem?, List.getElem?_toArray, List.getElem?_cons_succ, List.getElem?_cons_zero, Option.getD_some]) <;> exact rfl) (by exact rfl) hA ?_; intro b1 w1 hB hb1; clear hF hA; have hA := hB; clear hB; (try simp only [setL, List.set_cons_zero, List.set_cons_succ, List.cons_append, List.nil_append] at hA); (have hF := hA.facts); (try simp only [facts_cons, facts_nil, facts_cells, facts_old, facts_fact, facts_obj, facts_map, facts_iter, facts_row, and_true, true_and] at hF)))
        have hbb : (v : Int) / 281474976710656 % 256 = byteN v 48 := by unfold byteN; omega
        rw [hbb] at hA
        go_roundg (gk - 1)
        case measure => omega
        case rel => exact ⟨2, by simp, by omega, hA⟩
      · have hA : At [] w [Part.cells g [.int .u8 (byteN v 56), .int .u8 (byteN v 48), .int .u8 0, .int .u8 0, .int .u8 0, .int .u8 0, .int .u8 0, .int .u8 0] 5] wr := hB
        clear hB
        have hF := hA.facts
        have hmm : min (max (8 : Int) 0) 8 = 8 := by omega
        (try simp only [setL, List.set_cons_zero, List.set_cons_succ, List.cons_append, List.nil_append] at hA); (have hF := hA.facts); (try simp only [facts_cons, facts_nil, facts_cells, facts_old, facts_fact, facts_obj, facts_map, facts_iter, facts_row, and_true, true_and] at hF)
        go_wp2_with (first | ((with_reducible show wpList _ _ _ ({ dst := _, op := Op.store _ _ _, type := _, pos := _, after := _, guard := _ } :: _) _ _); refine wpList_store_at rfl rfl rfl (by (try simp only [Act.eval, Array.getD_eq_getD_getElem?, List.getElem?_toArray, List.getElem?_cons_succ, List.getElem?_cons_zero, Option.getD_some]) <;> exact rfl) (by exact rfl) hA (by with_reducible repeat (first | exact Sel.here | apply Sel.there)) (by kernel_rfl) rfl (by first | decide | (simp; done) | omega) ?_; intro w1 hB; clear hF hA; have hA := hB; clear hB; (try simp only [setL, List.set_cons_zero, List.set_cons_succ, List.cons_append, List.nil_append] at hA); (have hF := hA.facts); (try simp only [facts_cons, facts_nil, facts_cells, facts_old, facts_fact, facts_obj, facts_map, facts_iter, facts_row, and_true, true_and] at hF)) | ((with_reducible show wpList _ _ _ ({ dst := _, op := Op.box _ _, type := _, pos := _, after := _, guard := _ } :: _) _ _); refine wpList_box_at rfl rfl (by (try simp only [Act.eval, Array.getD_eq_getD_getElem?, List.getElem?_toArray, List.getElem?_cons_succ, List.getElem?_cons_zero, Option.getD_some]) <;> exact rfl) (by exact rfl) hA ?_; intro b1 w1 hB hb1; clear hF hA; have hA := hB; clear hB; (try simp only [setL, List.set_cons_zero, List.set_cons_succ, List.cons_append, List.nil_append] at hA); (have hF := hA.facts); (try simp only [facts_cons, facts_nil, facts_cells, facts_old, facts_fact, facts_obj, facts_map, facts_iter, facts_row, and_true, true_and] at hF)))
        have hbb : (v : Int) / 1099511627776 % 256 = byteN v 40 := by unfold byteN; omega
        rw [hbb] at hA
        go_roundg (gk - 1)
        case measure => omega
        case rel => exact ⟨3, by simp, by omega, hA⟩
      · have hA : At [] w [Part.cells g [.int .u8 (byteN v 56), .int .u8 (byteN v 48), .int .u8 (byteN v 40), .int .u8 0, .int .u8 0, .int .u8 0, .int .u8 0, .int .u8 0] 5] wr := hB
        clear hB
        have hF := hA.facts
        have hmm : min (max (8 : Int) 0) 8 = 8 := by omega
        (try simp only [setL, List.set_cons_zero, List.set_cons_succ, List.cons_append, List.nil_append] at hA); (have hF := hA.facts); (try simp only [facts_cons, facts_nil, facts_cells, facts_old, facts_fact, facts_obj, facts_map, facts_iter, facts_row, and_true, true_and] at hF)
        go_wp2_with (first | ((with_reducible show wpList _ _ _ ({ dst := _, op := Op.store _ _ _, type := _, pos := _, after := _, guard := _ } :: _) _ _); refine wpList_store_at rfl rfl rfl (by (try simp only [Act.eval, Array.getD_eq_getD_getElem?, List.getElem?_toArray, List.getElem?_cons_succ, List.getElem?_cons_zero, Option.getD_some]) <;> exact rfl) (by exact rfl) hA (by with_reducible repeat (first | exact Sel.here | apply Sel.there)) (by kernel_rfl) rfl (by first | decide | (simp; done) | omega) ?_; intro w1 hB; clear hF hA; have hA := hB; clear hB; (try simp only [setL, List.set_cons_zero, List.set_cons_succ, List.cons_append, List.nil_append] at hA); (have hF := hA.facts); (try simp only [facts_cons, facts_nil, facts_cells, facts_old, facts_fact, facts_obj, facts_map, facts_iter, facts_row, and_true, true_and] at hF)) | ((with_reducible show wpList _ _ _ ({ dst := _, op := Op.box _ _, type := _, pos := _, after := _, guard := _ } :: _) _ _); refine wpList_box_at rfl rfl (by (try simp only [Act.eval, Array.getD_eq_getD_getElem?, List.getElem?_toArray, List.getElem?_cons_succ, List.getElem?_cons_zero, Option.getD_some]) <;> exact rfl) (by exact rfl) hA ?_; intro b1 w1 hB hb1; clear hF hA; have hA := hB; clear hB; (try simp only [setL, List.set_cons_zero, List.set_cons_succ, List.cons_append, List.nil_append] at hA); (have hF := hA.facts); (try simp only [facts_cons, facts_nil, facts_cells, facts_old, facts_fact, facts_obj, facts_map, facts_iter, facts_row, and_true, true_and] at hF)))
        have hbb : (v : Int) / 4294967296 % 256 = byteN v 32 := by unfold byteN; omega
        rw [hbb] at hA
        go_roundg (gk - 1)
        case measure => omega
        case rel => exact ⟨4, by simp, by omega, hA⟩
      · have hA : At [] w [Part.cells g [.int .u8 (byteN v 56), .int .u8 (byteN v 48), .int .u8 (byteN v 40), .int .u8 (byteN v 32), .int .u8 0, .int .u8 0, .int .u8 0, .int .u8 0] 5] wr := hB
        clear hB
        have hF := hA.facts
        have hmm : min (max (8 : Int) 0) 8 = 8 := by omega
        (try simp only [setL, List.set_cons_zero, List.set_cons_succ, List.cons_append, List.nil_append] at hA); (have hF := hA.facts); (try simp only [facts_cons, facts_nil, facts_cells, facts_old, facts_fact, facts_obj, facts_map, facts_iter, facts_row, and_true, true_and] at hF)
        go_wp2_with (first | ((with_reducible show wpList _ _ _ ({ dst := _, op := Op.store _ _ _, type := _, pos := _, after := _, guard := _ } :: _) _ _); refine wpList_store_at rfl rfl rfl (by (try simp only [Act.eval, Array.getD_eq_getD_getElem?, List.getElem?_toArray, List.getElem?_cons_succ, List.getElem?_cons_zero, Option.getD_some]) <;> exact rfl) (by exact rfl) hA (by with_reducible repeat (first | exact Sel.here | apply Sel.there)) (by kernel_rfl) rfl (by first | decide | (simp; done) | omega) ?_; intro w1 hB; clear hF hA; have hA := hB; clear hB; (try simp only [setL, List.set_cons_zero, List.set_cons_succ, List.cons_append, List.nil_append] at hA); (have hF := hA.facts); (try simp only [facts_cons, facts_nil, facts_cells, facts_old, facts_fact, facts_obj, facts_map, facts_iter, facts_row, and_true, true_and] at hF)) | ((with_reducible show wpList _ _ _ ({ dst := _, op := Op.box _ _, type := _, pos := _, after := _, guard := _ } :: _) _ _); refine wpList_box_at rfl rfl (by (try simp only [Act.eval, Array.getD_eq_getD_getElem?, List.getElem?_toArray, List.getElem?_cons_succ, List.getElem?_cons_zero, Option.getD_some]) <;> exact rfl) (by exact rfl) hA ?_; intro b1 w1 hB hb1; clear hF hA; have hA := hB; clear hB; (try simp only [setL, List.set_cons_zero, List.set_cons_succ, List.cons_append, List.nil_append] at hA); (have hF := hA.facts); (try simp only [facts_cons, facts_nil, facts_cells, facts_old, facts_fact, facts_obj, facts_map, facts_iter, facts_row, and_true, true_and] at hF)))
        have hbb : (v : Int) / 16777216 % 256 = byteN v 24 := by unfold byteN; omega
        rw [hbb] at hA
        go_roundg (gk - 1)
        case measure => omega
        case rel => exact ⟨5, by simp, by omega, hA⟩
      · have hA : At [] w [Part.cells g [.int .u8 (byteN v 56), .int .u8 (byteN v 48), .int .u8 (byteN v 40), .int .u8 (byteN v 32), .int .u8 (byteN v 24), .int .u8 0, .int .u8 0, .int .u8 0] 5] wr := hB
        clear hB
        have hF := hA.facts
        have hmm : min (max (8 : Int) 0) 8 = 8 := by omega
        (try simp only [setL, List.set_cons_zero, List.set_cons_succ, List.cons_append, List.nil_append] at hA); (have hF := hA.facts); (try simp only [facts_cons, facts_nil, facts_cells, facts_old, facts_fact, facts_obj, facts_map, facts_iter, facts_row, and_true, true_and] at hF)
        go_wp2_with (first | ((with_reducible show wpList _ _ _ ({ dst := _, op := Op.store _ _ _, type := _, pos := _, after := _, guard := _ } :: _) _ _); refine wpList_store_at rfl rfl rfl (by (try simp only [Act.eval, Array.getD_eq_getD_getElem?, List.getElem?_toArray, List.getElem?_cons_succ, List.getElem?_cons_zero, Option.getD_some]) <;> exact rfl) (by exact rfl) hA (by with_reducible repeat (first | exact Sel.here | apply Sel.there)) (by kernel_rfl) rfl (by first | decide | (simp; done) | omega) ?_; intro w1 hB; clear hF hA; have hA := hB; clear hB; (try simp only [setL, List.set_cons_zero, List.set_cons_succ, List.cons_append, List.nil_append] at hA); (have hF := hA.facts); (try simp only [facts_cons, facts_nil, facts_cells, facts_old, facts_fact, facts_obj, facts_map, facts_iter, facts_row, and_true, true_and] at hF)) | ((with_reducible show wpList _ _ _ ({ dst := _, op := Op.box _ _, type := _, pos := _, after := _, guard := _ } :: _) _ _); refine wpList_box_at rfl rfl (by (try simp only [Act.eval, Array.getD_eq_getD_getElem?, List.getElem?_toArray, List.getElem?_cons_succ, List.getElem?_cons_zero, Option.getD_some]) <;> exact rfl) (by exact rfl) hA ?_; intro b1 w1 hB hb1; clear hF hA; have hA := hB; clear hB; (try simp only [setL, List.set_cons_zero, List.set_cons_succ, List.cons_append, List.nil_append] at hA); (have hF := hA.facts); (try simp only [facts_cons, facts_nil, facts_cells, facts_old, facts_fact, facts_obj, facts_map, facts_iter, facts_row, and_true, true_and] at hF)))
        have hbb : (v : Int) / 65536 % 256 = byteN v 16 := by unfold byteN; omega
        rw [hbb] at hA
        go_roundg (gk - 1)
        case measure => omega
        case rel => exact ⟨6, by simp, by omega, hA⟩
      · have hA : At [] w [Part.cells g [.int .u8 (byteN v 56), .int .u8 (byteN v 48), .int .u8 (byteN v 40), .int .u8 (byteN v 32), .int .u8 (byteN v 24), .int .u8 (byteN v 16), .int .u8 0, .int .u8 0] 5] wr := hB
        clear hB
        have hF := hA.facts
        have hmm : min (max (8 : Int) 0) 8 = 8 := by omega
        (try simp only [setL, List.set_cons_zero, List.set_cons_succ, List.cons_append, List.nil_append] at hA); (have hF := hA.facts); (try simp only [facts_cons, facts_nil, facts_cells, facts_old, facts_fact, facts_obj, facts_map, facts_iter, facts_row, and_true, true_and] at hF)
        go_wp2_with (first | ((with_reducible show wpList _ _ _ ({ dst := _, op := Op.store _ _ _, type := _, pos := _, after := _, guard := _ } :: _) _ _); refine wpList_store_at rfl rfl rfl (by (try simp only [Act.eval, Array.getD_eq_getD_getElem?, List.getElem?_toArray, List.getElem?_cons_succ, List.getElem?_cons_zero, Option.getD_some]) <;> exact rfl) (by exact rfl) hA (by with_reducible repeat (first | exact Sel.here | apply Sel.there)) (by kernel_rfl) rfl (by first | decide | (simp; done) | omega) ?_; intro w1 hB; clear hF hA; have hA := hB; clear hB; (try simp only [setL, List.set_cons_zero, List.set_cons_succ, List.cons_append, List.nil_append] at hA); (have hF := hA.facts); (try simp only [facts_cons, facts_nil, facts_cells, facts_old, facts_fact, facts_obj, facts_map, facts_iter, facts_row, and_true, true_and] at hF)) | ((with_reducible show wpList _ _ _ ({ dst := _, op := Op.box _ _, type := _, pos := _, after := _, guard := _ } :: _) _ _); refine wpList_box_at rfl rfl (by (try simp only [Act.eval, Array.getD_eq_getD_getElem?, List.getElem?_toArray, List.getElem?_cons_succ, List.getElem?_cons_zero, Option.getD_some]) <;> exact rfl) (by exact rfl) hA ?_; intro b1 w1 hB hb1; clear hF hA; have hA := hB; clear hB; (try simp only [setL, List.set_cons_zero, List.set_cons_succ, List.cons_append, List.nil_append] at hA); (have hF := hA.facts); (try simp only [facts_cons, facts_nil, facts_cells, facts_old, facts_fact, facts_obj, facts_map, facts_iter, facts_row, and_true, true_and] at hF)))
        have hbb : (v : Int) / 256 % 256 = byteN v 8 := by unfold byteN; omega
        rw [hbb] at hA
        go_roundg (gk - 1)
        case measure => omega
        case rel => exact ⟨7, by simp, by omega, hA⟩
      · have hA : At [] w [Part.cells g [.int .u8 (byteN v 56), .int .u8 (byteN v 48), .int .u8 (byteN v 40), .int .u8 (byteN v 32), .int .u8 (byteN v 24), .int .u8 (byteN v 16), .int .u8 (byteN v 8), .int .u8 0] 5] wr := hB
        clear hB
        have hF := hA.facts
        have hmm : min (max (8 : Int) 0) 8 = 8 := by omega
        (try simp only [setL, List.set_cons_zero, List.set_cons_succ, List.cons_append, List.nil_append] at hA); (have hF := hA.facts); (try simp only [facts_cons, facts_nil, facts_cells, facts_old, facts_fact, facts_obj, facts_map, facts_iter, facts_row, and_true, true_and] at hF)
        go_wp2_with (first | ((with_reducible show wpList _ _ _ ({ dst := _, op := Op.store _ _ _, type := _, pos := _, after := _, guard := _ } :: _) _ _); refine wpList_store_at rfl rfl rfl (by (try simp only [Act.eval, Array.getD_eq_getD_getElem?, List.getElem?_toArray, List.getElem?_cons_succ, List.getElem?_cons_zero, Option.getD_some]) <;> exact rfl) (by exact rfl) hA (by with_reducible repeat (first | exact Sel.here | apply Sel.there)) (by kernel_rfl) rfl (by first | decide | (simp; done) | omega) ?_; intro w1 hB; clear hF hA; have hA := hB; clear hB; (try simp only [setL, List.set_cons_zero, List.set_cons_succ, List.cons_append, List.nil_append] at hA); (have hF := hA.facts); (try simp only [facts_cons, facts_nil, facts_cells, facts_old, facts_fact, facts_obj, facts_map, facts_iter, facts_row, and_true, true_and] at hF)) | ((with_reducible show wpList _ _ _ ({ dst := _, op := Op.box _ _, type := _, pos := _, after := _, guard := _ } :: _) _ _); refine wpList_box_at rfl rfl (by (try simp only [Act.eval, Array.getD_eq_getD_getElem?, List.getElem?_toArray, List.getElem?_cons_succ, List.getElem?_cons_zero, Option.getD_some]) <;> exact rfl) (by exact rfl) hA ?_; intro b1 w1 hB hb1; clear hF hA; have hA := hB; clear hB; (try simp only [setL, List.set_cons_zero, List.set_cons_succ, List.cons_append, List.nil_append] at hA); (have hF := hA.facts); (try simp only [facts_cons, facts_nil, facts_cells, facts_old, facts_fact, facts_obj, facts_map, facts_iter, facts_row, and_true, true_and] at hF)))
        have hbb : (v : Int) % 256 = byteN v 0 := by unfold byteN; omega
        rw [hbb] at hA
        go_roundg (gk - 1)
        case measure => omega
        case rel => exact ⟨8, by simp, by omega, hA⟩
    · have h8 : i = 8 := by omega
      subst h8
      have hA : At [] w [Part.cells g (flatY (fixL v)) 5] wr := hB
      clear hB
      have hA2 : At [] w [rowY (.slice (some ⟨g, 0, none⟩) 8 8) (fixL v)] wr := hA.row_shut (e := 5) (size := 1) (n := 8) (cap := 8) (xs := flatY (fixL v)) .here rfl (by omega) (by unfold maxLen; omega) rfl
      have hmm : min (max (8 : Int) 0) 8 = 8 := by omega
      go_wp2_with fail
      go_ret
      exact ⟨_, rfl, hA2⟩
end Go.Proofs.Ytnkddjomanaadaa.Wire
end

section
namespace Go.Proofs.Ytnkddjomanaadaa.Wire
open Go.RowKit
set_option linter.unusedVariables false
set_option linter.unusedSimpArgs false

abbrev outC (b : Nat) (u : Value) : Part := .cells b [u] 42
def OutPost (w : World) (b : Nat) (u : Value) (l m : List Int) (e : Ending) (w' : World) : Prop := ∃ u', e = .returned (.pointer (some ⟨b, 0, none⟩)) ∧ At [outC b u, rowY u l] w [outC b u', rowY u' (l ++ m)] w'
theorem oneY (y : Int) (w : World) : (Instr.buildSlice 40 1 #[(0, .int .u8 y)]).run Try.prog w = .ok (.slice (some ⟨w.heap.size, 0, none⟩) 1 1) (w.alloc (.cells (encY y).toArray 5)) := by kernel_rfl
set_option maxRecDepth 100000 in
theorem outByte {w : World} {b : Nat} {u : Value} {l : List Int} (h : Sep [outC b u, rowY u l] w) (y : Int) (hl : l.length ≤ 100000000000000) :
    Calls Try.prog 44 #[.pointer (some ⟨b, 0, none⟩), .int .u8 y] w (OutPost w b u l [y]) := by
  obtain ⟨i0, hi0, hz0, hz1, hz2⟩ := info_parts infoY
  have hA := At.start h
  have hF := hA.facts
  clear h
  obtain ⟨ax, cap, rfl, hax, hcap, _⟩ := hA.row_form (v := u) (n := l.length) (xs := flatY l) (by with_reducible repeat (first | exact Sel.here | apply Sel.there))
  have hone := oneY y
  (try simp only [setL, List.set_cons_zero, List.set_cons_succ, List.cons_append, List.nil_append] at hA); (have hF := hA.facts); (try simp only [facts_cons, facts_nil, facts_cells, facts_old, facts_fact, facts_obj, facts_map, facts_iter, facts_row, and_true, true_and] at hF)
  go_enter Try.func44, Try.ntmps44
  go_wp2_with (first
    | ((with_reducible show wpList _ _ _ ({ dst := _, op := Op.buildSlice _ _ _, type := _, pos := _, after := _, guard := _ } :: _) _ _); refine wpList_one_at (e := 5) (vs := encY y) rfl rfl (by (try simp only [Act.eval, Array.getD_eq_getD_getElem?, List.getElem?_toArray, List.getElem?_cons_succ, List.getElem?_cons_zero, Option.getD_some]) <;> exact rfl) hone hA ?_; intro b2 w5 hB hb2; clear hF hA; have hA := hB; clear hB; (try simp only [setL, List.set_cons_zero, List.set_cons_succ, List.cons_append, List.nil_append] at hA); (have hF := hA.facts); (try simp only [facts_cons, facts_nil, facts_cells, facts_old, facts_fact, facts_obj, facts_map, facts_iter, facts_row, and_true, true_and] at hF))
    | ((with_reducible show wpList _ _ _ ({ dst := _, op := Op.call { callee := Callee.builtin Builtin.append, args := _, argTypes := _ }, type := _, pos := _, after := _, guard := _ } :: _) _ _); refine wpList_append_at (e := 5) (size := 1) (v := .slice ax l.length cap) (xs := flatY l) (n := l.length) (m := 1) (news := encY y) rfl _ _ 40 rfl Try.underlying40 hi0 hz0 hz1 hz2 rfl (by omega) hA (by with_reducible repeat (first | exact Sel.here | apply Sel.there)) (by (try simp only [Act.eval, Array.getD_eq_getD_getElem?, List.getElem?_toArray, List.getElem?_cons_succ, List.getElem?_cons_zero, Option.getD_some]) <;> exact rfl) (by (try simp only [Act.eval, Array.getD_eq_getD_getElem?, List.getElem?_toArray, List.getElem?_cons_succ, List.getElem?_cons_zero, Option.getD_some]) <;> exact rfl) rfl (hA.cells_reads (by with_reducible repeat (first | exact Sel.here | apply Sel.there)) _ _) (encY_one _) (by unfold maxLen; omega) (by omega) ?_; intro v2 w7 hB; rw [rowY_snoc] at hB; obtain ⟨cx, cn, ccap, hcv, hcn⟩ := hB.row_hid (v := v2) (n := (l ++ [y]).length) (xs := flatY (l ++ [y])) (by with_reducible repeat (first | exact Sel.here | apply Sel.there)); subst hcv; clear hF hA; have hA := hB; clear hB; (try simp only [setL, List.set_cons_zero, List.set_cons_succ, List.cons_append, List.nil_append] at hA); (have hF := hA.facts); (try simp only [facts_cons, facts_nil, facts_cells, facts_old, facts_fact, facts_obj, facts_map, facts_iter, facts_row, and_true, true_and] at hF))
    | ((with_reducible show wpList _ _ _ ({ dst := _, op := Op.store _ _ _, type := _, pos := _, after := _, guard := _ } :: _) _ _); refine wpList_store_at rfl rfl rfl (by (try simp only [Act.eval, Array.getD_eq_getD_getElem?, List.getElem?_toArray, List.getElem?_cons_succ, List.getElem?_cons_zero, Option.getD_some]) <;> exact rfl) (by exact rfl) hA (by with_reducible repeat (first | exact Sel.here | apply Sel.there)) (by kernel_rfl) rfl (by first | decide | (simp; done) | omega) ?_; intro w1 hB; clear hF hA; have hA := hB; clear hB; (try simp only [setL, List.set_cons_zero, List.set_cons_succ, List.cons_append, List.nil_append] at hA); (have hF := hA.facts); (try simp only [facts_cons, facts_nil, facts_cells, facts_old, facts_fact, facts_obj, facts_map, facts_iter, facts_row, and_true, true_and] at hF)) | ((with_reducible show wpList _ _ _ ({ dst := _, op := Op.box _ _, type := _, pos := _, after := _, guard := _ } :: _) _ _); refine wpList_box_at rfl rfl (by (try simp only [Act.eval, Array.getD_eq_getD_getElem?, List.getElem?_toArray, List.getElem?_cons_succ, List.getElem?_cons_zero, Option.getD_some]) <;> exact rfl) (by exact rfl) hA ?_; intro b1 w1 hB hb1; clear hF hA; have hA := hB; clear hB; (try simp only [setL, List.set_cons_zero, List.set_cons_succ, List.cons_append, List.nil_append] at hA); (have hF := hA.facts); (try simp only [facts_cons, facts_nil, facts_cells, facts_old, facts_fact, facts_obj, facts_map, facts_iter, facts_row, and_true, true_and] at hF)))
  go_ret
  exact ⟨.slice cx cn ccap, rfl, hA.only2 (A := outC b (.slice cx cn ccap)) (B := rowY (.slice cx cn ccap) (l ++ [y])) (by with_reducible repeat (first | exact Sel.here | apply Sel.there)) (by with_reducible repeat (first | exact Sel.here | apply Sel.there))⟩
set_option maxRecDepth 100000 in
theorem outTruth {w : World} {b : Nat} {u : Value} {l : List Int} (h : Sep [outC b u, rowY u l] w) (t : Bool) (hl : l.length ≤ 100000000000000) :
    Calls Try.prog 27 #[.pointer (some ⟨b, 0, none⟩), .bool t] w (OutPost w b u l [if t then 1 else 0]) := by
  cases t
  · go_enter Try.func27, Try.ntmps27
    go_wp2_with fail
    refine (outByte h 0 hl).mono ?_
    rintro e w' ⟨u', rfl, hT⟩
    go_wp2_with fail
    go_ret
    exact ⟨u', rfl, hT⟩
  · go_enter Try.func27, Try.ntmps27
    go_wp2_with fail
    refine (outByte h 1 hl).mono ?_
    rintro e w' ⟨u', rfl, hT⟩
    go_wp2_with fail
    go_ret
    exact ⟨u', rfl, hT⟩
set_option maxRecDepth 100000 in
set_option maxHeartbeats 1000000 in
theorem outShort {w : World} {b : Nat} {u : Value} {l : List Int} (h : Sep [outC b u, rowY u l] w) (v : Nat) (hv : v < 18446744073709551616) (hl : l.length ≤ 100000000000000) :
    Calls Try.prog 24 #[.pointer (some ⟨b, 0, none⟩), .int .u64 v] w (OutPost w b u l (shortN v)) := by
  obtain ⟨i0, hi0, hz0, hz1, hz2⟩ := info_parts infoY
  have hA := At.start h
  have hF := hA.facts
  clear h
  have hnl : (shortN v).length ≤ 10 := short_len 9 v (by omega)
  obtain ⟨ax, cap, rfl, hax, hcap, _⟩ := hA.row_form (v := u) (n := l.length) (xs := flatY l) (by with_reducible repeat (first | exact Sel.here | apply Sel.there))
  (try simp only [setL, List.set_cons_zero, List.set_cons_succ, List.cons_append, List.nil_append] at hA); (have hF := hA.facts); (try simp only [facts_cons, facts_nil, facts_cells, facts_old, facts_fact, facts_obj, facts_map, facts_iter, facts_row, and_true, true_and] at hF)
  go_enter Try.func24, Try.ntmps24
  go_wp2_with fail
  have hm : Try.prog.follows .mixedOrders = true := by kernel_rfl
  have hA := hA.drew
  refine wp_region_held (S := fun _ => True) hm ?_
  change wpAnyH _ _ _ _ _ 11 _ _ w.drew
  generalize w.drew = w2 at *
  refine wpAnyH_takeD (i := 0) (d := some 5) (v := (.pointer (some ⟨b, 0, none⟩))) rfl rfl (by kernel_rfl) (by kernel_rfl) (by kernel_rfl) (fun _ _ _ h => h) rfl (fun w' hS => by simp [execOp, go_sem, Act.eval, Act.put]) trivial ?_
  go_frame
  refine wpAnyH_takeD (i := 1) (d := some 6) (v := (.pointer (some ⟨b, 0, none⟩))) rfl rfl (by kernel_rfl) (by kernel_rfl) (by kernel_rfl) (fun _ _ _ h => h) rfl (fun w' hS => by simp [execOp, go_sem, Act.eval, Act.put]) trivial ?_
  go_frame
  refine wpAnyH_takeD (i := 2) (d := some 7) (v := (.pointer (some ⟨b, 0, none⟩))) rfl rfl (by kernel_rfl) (by kernel_rfl) (by kernel_rfl) (fun _ _ _ h => h) rfl (fun w' hS => by simp [execOp, go_sem, Act.eval, Act.put]) trivial ?_
  go_frame
  refine wpAnyH_takeD (i := 3) (d := some 8) (v := (.pointer (some ⟨b, 0, none⟩))) rfl rfl (by kernel_rfl) (by kernel_rfl) (by kernel_rfl) (fun _ _ _ h => h) rfl (fun w' hS => by kernel_rfl) trivial ?_
  go_frame
  refine wpAnyH_takeD (i := 5) (d := some 10) (v := (.int .u64 v)) rfl rfl (by kernel_rfl) (by kernel_rfl) (by kernel_rfl) (fun _ _ _ h => h) rfl (fun w' hS => by simp [execOp, go_sem, Act.eval, Act.put]) trivial ?_
  go_frame
  refine wpAnyH_two (i := 4) (j := 6) (by kernel_rfl) ?_ ?_
  · skip
    refine wpOp_val (i := 4) (v := .slice ax l.length cap) rfl rfl (run_load_one (b := b) (j := 0) rfl (by exact rfl) (hA.get (A := outC b (.slice ax l.length cap)) (by with_reducible repeat (first | exact Sel.here | apply Sel.there))) (by kernel_rfl) rfl) ?_
    refine ⟨trivial, ?_⟩
    change wpAnyH _ _ _ _ _ _ _ (Act.put _ (some 9) _) _
    go_frame
    refine wpAnyH_one (i := 6) (by kernel_rfl) ?_
    refine opCall_at (i := 6) (d := some 11) rfl rfl rfl (fn := 42) (args := #[.int .u64 v]) (by simp [execOp, go_sem, Act.eval, Act.put]) (short_any v w2 hv) ?_
    intro uu z1 hT
    have hB := hA.call0 hT
    simp only [List.cons_append, List.nil_append] at hB
    obtain ⟨nx, nn, ncap, hnv, hnn⟩ := hB.row_hid (v := uu) (n := (shortN v).length) (xs := flatY (shortN v)) (by with_reducible repeat (first | exact Sel.here | apply Sel.there))
    subst hnv
    have hnn2 := hnn.out
    subst hnn2
    refine ⟨trivial, ?_⟩
    go_frame
    refine wpAnyH_one (i := 7) (by kernel_rfl) ?_
    refine opAppend_at (k := 7) (d := some 12) (e := 5) (size := 1) (v := .slice ax l.length cap) (xs := flatY l) (n := l.length) (m := (shortN v).length) (news := flatY (shortN v)) rfl rfl rfl rfl (.tmp 9) (.tmp 11) 40 rfl Try.underlying40 hi0 hz0 hz1 hz2 rfl (by omega) hB (by with_reducible repeat (first | exact Sel.here | apply Sel.there)) (by (try simp only [Act.eval, Array.getD_eq_getD_getElem?, List.getElem?_toArray, List.getElem?_cons_succ, List.getElem?_cons_zero, Option.getD_some]) <;> exact rfl) (by (try simp only [Act.eval, Array.getD_eq_getD_getElem?, List.getElem?_toArray, List.getElem?_cons_succ, List.getElem?_cons_zero, Option.getD_some]) <;> exact rfl) (flat_len _ _ encY_len _) (hB.row_reads (v := .slice nx (shortN v).length ncap) (n := (shortN v).length) (xs := flatY (shortN v)) (by with_reducible repeat (first | exact Sel.here | apply Sel.there))) (flat_one encY_one _) (by unfold maxLen; omega) (by omega) ?_
    intro v2 z2 hC
    rw [rowY_app] at hC
    obtain ⟨cx, cn, ccap, hcv, hcn⟩ := hC.row_hid (v := v2) (n := (l ++ shortN v).length) (xs := flatY (l ++ shortN v)) (by with_reducible repeat (first | exact Sel.here | apply Sel.there))
    subst hcv
    have hcn2 := hcn.out
    clear hcn
    refine ⟨trivial, ?_⟩
    go_frame
    refine wpAnyH_takeD (i := 8) (d := some 13) (v := (.pointer (some ⟨b, 0, none⟩))) rfl rfl (by kernel_rfl) (by kernel_rfl) (by kernel_rfl) (fun _ _ _ h => h) rfl (fun w' hS => by simp [execOp, go_sem, Act.eval, Act.put]) trivial ?_
    go_frame
    refine wpAnyH_takeD (i := 9) (d := some 14) (v := (.pointer (some ⟨b, 0, none⟩))) rfl rfl (by kernel_rfl) (by kernel_rfl) (by kernel_rfl) (fun _ _ _ h => h) rfl (fun w' hS => by kernel_rfl) trivial ?_
    go_frame
    refine wpAnyH_one (i := 10) (by kernel_rfl) ?_
    refine opStore_at (i := 10) (x := .tmp 14) (y := .tmp 12) (ty := 40) (b := b) (j := 0) (v := .slice cx cn ccap) (vs := [.slice cx cn ccap]) rfl rfl rfl rfl (by (try simp only [Act.eval, Array.getD_eq_getD_getElem?, List.getElem?_toArray, List.getElem?_cons_succ, List.getElem?_cons_zero, Option.getD_some]) <;> exact rfl) (by (try simp only [Act.eval, Array.getD_eq_getD_getElem?, List.getElem?_toArray, List.getElem?_cons_succ, List.getElem?_cons_zero, Option.getD_some]) <;> exact rfl) rfl hC (c := [.slice ax l.length cap]) (by with_reducible repeat (first | exact Sel.here | apply Sel.there)) (by kernel_rfl) rfl (by simp) ?_
    intro z3 hD
    simp only [setL, List.set_cons_zero] at hD
    refine ⟨trivial, ?_⟩
    refine wpAnyH_done (by kernel_rfl) ?_ _
    try go_frame
    go_wp2_with fail
    go_ret
    exact ⟨.slice cx cn ccap, rfl, hD.only2 (A := outC b (.slice cx cn ccap)) (B := rowY (.slice cx cn ccap) (l ++ shortN v)) (by with_reducible repeat (first | exact Sel.here | apply Sel.there)) (by with_reducible repeat (first | exact Sel.here | apply Sel.there))⟩
  · skip
    refine opCall_at (i := 6) (d := some 11) rfl rfl rfl (fn := 42) (args := #[.int .u64 v]) (by simp [execOp, go_sem, Act.eval, Act.put]) (short_any v w2 hv) ?_
    intro uu z1 hT
    have hB := hA.call0 hT
    simp only [List.cons_append, List.nil_append] at hB
    obtain ⟨nx, nn, ncap, hnv, hnn⟩ := hB.row_hid (v := uu) (n := (shortN v).length) (xs := flatY (shortN v)) (by with_reducible repeat (first | exact Sel.here | apply Sel.there))
    subst hnv
    have hnn2 := hnn.out
    subst hnn2
    refine ⟨trivial, ?_⟩
    go_frame
    refine wpAnyH_one (i := 4) (by kernel_rfl) ?_
    refine wpOp_val (i := 4) (v := .slice ax l.length cap) rfl rfl (run_load_one (b := b) (j := 0) rfl (by exact rfl) (hB.get (A := outC b (.slice ax l.length cap)) (by with_reducible repeat (first | exact Sel.here | apply Sel.there))) (by kernel_rfl) rfl) ?_
    refine ⟨trivial, ?_⟩
    change wpAnyH _ _ _ _ _ _ _ (Act.put _ (some 9) _) _
    go_frame
    refine wpAnyH_one (i := 7) (by kernel_rfl) ?_
    refine opAppend_at (k := 7) (d := some 12) (e := 5) (size := 1) (v := .slice ax l.length cap) (xs := flatY l) (n := l.length) (m := (shortN v).length) (news := flatY (shortN v)) rfl rfl rfl rfl (.tmp 9) (.tmp 11) 40 rfl Try.underlying40 hi0 hz0 hz1 hz2 rfl (by omega) hB (by with_reducible repeat (first | exact Sel.here | apply Sel.there)) (by (try simp only [Act.eval, Array.getD_eq_getD_getElem?, List.getElem?_toArray, List.getElem?_cons_succ, List.getElem?_cons_zero, Option.getD_some]) <;> exact rfl) (by (try simp only [Act.eval, Array.getD_eq_getD_getElem?, List.getElem?_toArray, List.getElem?_cons_succ, List.getElem?_cons_zero, Option.getD_some]) <;> exact rfl) (flat_len _ _ encY_len _) (hB.row_reads (v := .slice nx (shortN v).length ncap) (n := (shortN v).length) (xs := flatY (shortN v)) (by with_reducible repeat (first | exact Sel.here | apply Sel.there))) (flat_one encY_one _) (by unfold maxLen; omega) (by omega) ?_
    intro v2 z2 hC
    rw [rowY_app] at hC
    obtain ⟨cx, cn, ccap, hcv, hcn⟩ := hC.row_hid (v := v2) (n := (l ++ shortN v).length) (xs := flatY (l ++ shortN v)) (by with_reducible repeat (first | exact Sel.here | apply Sel.there))
    subst hcv
    have hcn2 := hcn.out
    clear hcn
    refine ⟨trivial, ?_⟩
    go_frame
    refine wpAnyH_takeD (i := 8) (d := some 13) (v := (.pointer (some ⟨b, 0, none⟩))) rfl rfl (by kernel_rfl) (by kernel_rfl) (by kernel_rfl) (fun _ _ _ h => h) rfl (fun w' hS => by simp [execOp, go_sem, Act.eval, Act.put]) trivial ?_
    go_frame
    refine wpAnyH_takeD (i := 9) (d := some 14) (v := (.pointer (some ⟨b, 0, none⟩))) rfl rfl (by kernel_rfl) (by kernel_rfl) (by kernel_rfl) (fun _ _ _ h => h) rfl (fun w' hS => by kernel_rfl) trivial ?_
    go_frame
    refine wpAnyH_one (i := 10) (by kernel_rfl) ?_
    refine opStore_at (i := 10) (x := .tmp 14) (y := .tmp 12) (ty := 40) (b := b) (j := 0) (v := .slice cx cn ccap) (vs := [.slice cx cn ccap]) rfl rfl rfl rfl (by (try simp only [Act.eval, Array.getD_eq_getD_getElem?, List.getElem?_toArray, List.getElem?_cons_succ, List.getElem?_cons_zero, Option.getD_some]) <;> exact rfl) (by (try simp only [Act.eval, Array.getD_eq_getD_getElem?, List.getElem?_toArray, List.getElem?_cons_succ, List.getElem?_cons_zero, Option.getD_some]) <;> exact rfl) rfl hC (c := [.slice ax l.length cap]) (by with_reducible repeat (first | exact Sel.here | apply Sel.there)) (by kernel_rfl) rfl (by simp) ?_
    intro z3 hD
    simp only [setL, List.set_cons_zero] at hD
    refine ⟨trivial, ?_⟩
    refine wpAnyH_done (by kernel_rfl) ?_ _
    try go_frame
    go_wp2_with fail
    go_ret
    exact ⟨.slice cx cn ccap, rfl, hD.only2 (A := outC b (.slice cx cn ccap)) (B := rowY (.slice cx cn ccap) (l ++ shortN v)) (by with_reducible repeat (first | exact Sel.here | apply Sel.there)) (by with_reducible repeat (first | exact Sel.here | apply Sel.there))⟩
set_option maxRecDepth 100000 in
set_option maxHeartbeats 1000000 in
theorem outFixed {w : World} {b : Nat} {u : Value} {l : List Int} (h : Sep [outC b u, rowY u l] w) (v : Nat) (hv : v < 18446744073709551616) (hl : l.length ≤ 100000000000000) :
    Calls Try.prog 25 #[.pointer (some ⟨b, 0, none⟩), .int .u64 v] w (OutPost w b u l (fixL v)) := by
  obtain ⟨i0, hi0, hz0, hz1, hz2⟩ := info_parts infoY
  have hA := At.start h
  have hF := hA.facts
  clear h
  have hnl : (fixL v).length ≤ 10 := by simp [fixL]
  obtain ⟨ax, cap, rfl, hax, hcap, _⟩ := hA.row_form (v := u) (n := l.length) (xs := flatY l) (by with_reducible repeat (first | exact Sel.here | apply Sel.there))
  (try simp only [setL, List.set_cons_zero, List.set_cons_succ, List.cons_append, List.nil_append] at hA); (have hF := hA.facts); (try simp only [facts_cons, facts_nil, facts_cells, facts_old, facts_fact, facts_obj, facts_map, facts_iter, facts_row, and_true, true_and] at hF)
  go_enter Try.func25, Try.ntmps25
  go_wp2_with fail
  have hm : Try.prog.follows .mixedOrders = true := by kernel_rfl
  have hA := hA.drew
  refine wp_region_held (S := fun _ => True) hm ?_
  change wpAnyH _ _ _ _ _ 11 _ _ w.drew
  generalize w.drew = w2 at *
  refine wpAnyH_takeD (i := 0) (d := some 5) (v := (.pointer (some ⟨b, 0, none⟩))) rfl rfl (by kernel_rfl) (by kernel_rfl) (by kernel_rfl) (fun _ _ _ h => h) rfl (fun w' hS => by simp [execOp, go_sem, Act.eval, Act.put]) trivial ?_
  go_frame
  refine wpAnyH_takeD (i := 1) (d := some 6) (v := (.pointer (some ⟨b, 0, none⟩))) rfl rfl (by kernel_rfl) (by kernel_rfl) (by kernel_rfl) (fun _ _ _ h => h) rfl (fun w' hS => by simp [execOp, go_sem, Act.eval, Act.put]) trivial ?_
  go_frame
  refine wpAnyH_takeD (i := 2) (d := some 7) (v := (.pointer (some ⟨b, 0, none⟩))) rfl rfl (by kernel_rfl) (by kernel_rfl) (by kernel_rfl) (fun _ _ _ h => h) rfl (fun w' hS => by simp [execOp, go_sem, Act.eval, Act.put]) trivial ?_
  go_frame
  refine wpAnyH_takeD (i := 3) (d := some 8) (v := (.pointer (some ⟨b, 0, none⟩))) rfl rfl (by kernel_rfl) (by kernel_rfl) (by kernel_rfl) (fun _ _ _ h => h) rfl (fun w' hS => by kernel_rfl) trivial ?_
  go_frame
  refine wpAnyH_takeD (i := 5) (d := some 10) (v := (.int .u64 v)) rfl rfl (by kernel_rfl) (by kernel_rfl) (by kernel_rfl) (fun _ _ _ h => h) rfl (fun w' hS => by simp [execOp, go_sem, Act.eval, Act.put]) trivial ?_
  go_frame
  refine wpAnyH_two (i := 4) (j := 6) (by kernel_rfl) ?_ ?_
  · skip
    refine wpOp_val (i := 4) (v := .slice ax l.length cap) rfl rfl (run_load_one (b := b) (j := 0) rfl (by exact rfl) (hA.get (A := outC b (.slice ax l.length cap)) (by with_reducible repeat (first | exact Sel.here | apply Sel.there))) (by kernel_rfl) rfl) ?_
    refine ⟨trivial, ?_⟩
    change wpAnyH _ _ _ _ _ _ _ (Act.put _ (some 9) _) _
    go_frame
    refine wpAnyH_one (i := 6) (by kernel_rfl) ?_
    refine opCall_at (i := 6) (d := some 11) rfl rfl rfl (fn := 43) (args := #[.int .u64 v, .int .i64 8]) (by simp [execOp, go_sem, Act.eval, Act.put]) (bytes8_any v w2 hv) ?_
    intro uu z1 hT
    have hB := hA.call0 hT
    simp only [List.cons_append, List.nil_append] at hB
    obtain ⟨nx, nn, ncap, hnv, hnn⟩ := hB.row_hid (v := uu) (n := (fixL v).length) (xs := flatY (fixL v)) (by with_reducible repeat (first | exact Sel.here | apply Sel.there))
    subst hnv
    have hnn2 := hnn.out
    subst hnn2
    refine ⟨trivial, ?_⟩
    go_frame
    refine wpAnyH_one (i := 7) (by kernel_rfl) ?_
    refine opAppend_at (k := 7) (d := some 12) (e := 5) (size := 1) (v := .slice ax l.length cap) (xs := flatY l) (n := l.length) (m := (fixL v).length) (news := flatY (fixL v)) rfl rfl rfl rfl (.tmp 9) (.tmp 11) 40 rfl Try.underlying40 hi0 hz0 hz1 hz2 rfl (by omega) hB (by with_reducible repeat (first | exact Sel.here | apply Sel.there)) (by (try simp only [Act.eval, Array.getD_eq_getD_getElem?, List.getElem?_toArray, List.getElem?_cons_succ, List.getElem?_cons_zero, Option.getD_some]) <;> exact rfl) (by (try simp only [Act.eval, Array.getD_eq_getD_getElem?, List.getElem?_toArray, List.getElem?_cons_succ, List.getElem?_cons_zero, Option.getD_some]) <;> exact rfl) (flat_len _ _ encY_len _) (hB.row_reads (v := .slice nx (fixL v).length ncap) (n := (fixL v).length) (xs := flatY (fixL v)) (by with_reducible repeat (first | exact Sel.here | apply Sel.there))) (flat_one encY_one _) (by unfold maxLen; omega) (by omega) ?_
    intro v2 z2 hC
    rw [rowY_app] at hC
    obtain ⟨cx, cn, ccap, hcv, hcn⟩ := hC.row_hid (v := v2) (n := (l ++ fixL v).length) (xs := flatY (l ++ fixL v)) (by with_reducible repeat (first | exact Sel.here | apply Sel.there))
    subst hcv
    have hcn2 := hcn.out
    clear hcn
    refine ⟨trivial, ?_⟩
    go_frame
    refine wpAnyH_takeD (i := 8) (d := some 13) (v := (.pointer (some ⟨b, 0, none⟩))) rfl rfl (by kernel_rfl) (by kernel_rfl) (by kernel_rfl) (fun _ _ _ h => h) rfl (fun w' hS => by simp [execOp, go_sem, Act.eval, Act.put]) trivial ?_
    go_frame
    refine wpAnyH_takeD (i := 9) (d := some 14) (v := (.pointer (some ⟨b, 0, none⟩))) rfl rfl (by kernel_rfl) (by kernel_rfl) (by kernel_rfl) (fun _ _ _ h => h) rfl (fun w' hS => by kernel_rfl) trivial ?_
    go_frame
    refine wpAnyH_one (i := 10) (by kernel_rfl) ?_
    refine opStore_at (i := 10) (x := .tmp 14) (y := .tmp 12) (ty := 40) (b := b) (j := 0) (v := .slice cx cn ccap) (vs := [.slice cx cn ccap]) rfl rfl rfl rfl (by (try simp only [Act.eval, Array.getD_eq_getD_getElem?, List.getElem?_toArray, List.getElem?_cons_succ, List.getElem?_cons_zero, Option.getD_some]) <;> exact rfl) (by (try simp only [Act.eval, Array.getD_eq_getD_getElem?, List.getElem?_toArray, List.getElem?_cons_succ, List.getElem?_cons_zero, Option.getD_some]) <;> exact rfl) rfl hC (c := [.slice ax l.length cap]) (by with_reducible repeat (first | exact Sel.here | apply Sel.there)) (by kernel_rfl) rfl (by simp) ?_
    intro z3 hD
    simp only [setL, List.set_cons_zero] at hD
    refine ⟨trivial, ?_⟩
    refine wpAnyH_done (by kernel_rfl) ?_ _
    try go_frame
    go_wp2_with fail
    go_ret
    exact ⟨.slice cx cn ccap, rfl, hD.only2 (A := outC b (.slice cx cn ccap)) (B := rowY (.slice cx cn ccap) (l ++ fixL v)) (by with_reducible repeat (first | exact Sel.here | apply Sel.there)) (by with_reducible repeat (first | exact Sel.here | apply Sel.there))⟩
  · skip
    refine opCall_at (i := 6) (d := some 11) rfl rfl rfl (fn := 43) (args := #[.int .u64 v, .int .i64 8]) (by simp [execOp, go_sem, Act.eval, Act.put]) (bytes8_any v w2 hv) ?_
    intro uu z1 hT
    have hB := hA.call0 hT
    simp only [List.cons_append, List.nil_append] at hB
    obtain ⟨nx, nn, ncap, hnv, hnn⟩ := hB.row_hid (v := uu) (n := (fixL v).length) (xs := flatY (fixL v)) (by with_reducible repeat (first | exact Sel.here | apply Sel.there))
    subst hnv
    have hnn2 := hnn.out
    subst hnn2
    refine ⟨trivial, ?_⟩
    go_frame
    refine wpAnyH_one (i := 4) (by kernel_rfl) ?_
    refine wpOp_val (i := 4) (v := .slice ax l.length cap) rfl rfl (run_load_one (b := b) (j := 0) rfl (by exact rfl) (hB.get (A := outC b (.slice ax l.length cap)) (by with_reducible repeat (first | exact Sel.here | apply Sel.there))) (by kernel_rfl) rfl) ?_
    refine ⟨trivial, ?_⟩
    change wpAnyH _ _ _ _ _ _ _ (Act.put _ (some 9) _) _
    go_frame
    refine wpAnyH_one (i := 7) (by kernel_rfl) ?_
    refine opAppend_at (k := 7) (d := some 12) (e := 5) (size := 1) (v := .slice ax l.length cap) (xs := flatY l) (n := l.length) (m := (fixL v).length) (news := flatY (fixL v)) rfl rfl rfl rfl (.tmp 9) (.tmp 11) 40 rfl Try.underlying40 hi0 hz0 hz1 hz2 rfl (by omega) hB (by with_reducible repeat (first | exact Sel.here | apply Sel.there)) (by (try simp only [Act.eval, Array.getD_eq_getD_getElem?, List.getElem?_toArray, List.getElem?_cons_succ, List.getElem?_cons_zero, Option.getD_some]) <;> exact rfl) (by (try simp only [Act.eval, Array.getD_eq_getD_getElem?, List.getElem?_toArray, List.getElem?_cons_succ, List.getElem?_cons_zero, Option.getD_some]) <;> exact rfl) (flat_len _ _ encY_len _) (hB.row_reads (v := .slice nx (fixL v).length ncap) (n := (fixL v).length) (xs := flatY (fixL v)) (by with_reducible repeat (first | exact Sel.here | apply Sel.there))) (flat_one encY_one _) (by unfold maxLen; omega) (by omega) ?_
    intro v2 z2 hC
    rw [rowY_app] at hC
    obtain ⟨cx, cn, ccap, hcv, hcn⟩ := hC.row_hid (v := v2) (n := (l ++ fixL v).length) (xs := flatY (l ++ fixL v)) (by with_reducible repeat (first | exact Sel.here | apply Sel.there))
    subst hcv
    have hcn2 := hcn.out
    clear hcn
    refine ⟨trivial, ?_⟩
    go_frame
    refine wpAnyH_takeD (i := 8) (d := some 13) (v := (.pointer (some ⟨b, 0, none⟩))) rfl rfl (by kernel_rfl) (by kernel_rfl) (by kernel_rfl) (fun _ _ _ h => h) rfl (fun w' hS => by simp [execOp, go_sem, Act.eval, Act.put]) trivial ?_
    go_frame
    refine wpAnyH_takeD (i := 9) (d := some 14) (v := (.pointer (some ⟨b, 0, none⟩))) rfl rfl (by kernel_rfl) (by kernel_rfl) (by kernel_rfl) (fun _ _ _ h => h) rfl (fun w' hS => by kernel_rfl) trivial ?_
    go_frame
    refine wpAnyH_one (i := 10) (by kernel_rfl) ?_
    refine opStore_at (i := 10) (x := .tmp 14) (y := .tmp 12) (ty := 40) (b := b) (j := 0) (v := .slice cx cn ccap) (vs := [.slice cx cn ccap]) rfl rfl rfl rfl (by (try simp only [Act.eval, Array.getD_eq_getD_getElem?, List.getElem?_toArray, List.getElem?_cons_succ, List.getElem?_cons_zero, Option.getD_some]) <;> exact rfl) (by (try simp only [Act.eval, Array.getD_eq_getD_getElem?, List.getElem?_toArray, List.getElem?_cons_succ, List.getElem?_cons_zero, Option.getD_some]) <;> exact rfl) rfl hC (c := [.slice ax l.length cap]) (by with_reducible repeat (first | exact Sel.here | apply Sel.there)) (by kernel_rfl) rfl (by simp) ?_
    intro z3 hD
    simp only [setL, List.set_cons_zero] at hD
    refine ⟨trivial, ?_⟩
    refine wpAnyH_done (by kernel_rfl) ?_ _
    try go_frame
    go_wp2_with fail
    go_ret
    exact ⟨.slice cx cn ccap, rfl, hD.only2 (A := outC b (.slice cx cn ccap)) (B := rowY (.slice cx cn ccap) (l ++ fixL v)) (by with_reducible repeat (first | exact Sel.here | apply Sel.there)) (by with_reducible repeat (first | exact Sel.here | apply Sel.there))⟩
/-! ### Texts -/
def textL (s : ByteArray) : List Int := s.data.toList.map (fun x => (x.toNat : Int))
theorem textL_len (s : ByteArray) : (textL s).length = s.size := by unfold textL; rw [List.length_map]; exact Array.length_toList
theorem str_flat (s : ByteArray) : Lib.strCells s = flatY (textL s) := by
  unfold Lib.strCells textL
  generalize s.data.toList = r
  show _ = (r.map _).flatMap encY
  induction r with
  | nil => rfl
  | cons c r ih => rw [List.map_cons, List.map_cons, List.flatMap_cons, ← ih]; rfl
theorem append_text (w : World) {t u ty e : TypeId} {i : TypeInfo} {P : Program} (ht : P.underlying t = some (.slice e)) (hu : P.underlying u = some .string) (hi : P.info? e = some i) (hz : i.zero = some (.int .u8 0)) (hsize : i.size = 1) (hby : i.bytes = 1)
    (v : Value) (n : Nat) (xs : List Value) (hown : w.ownsRow 0 e 1 v n xs) (s : ByteArray) (h63 : n + s.size ≤ 130000000000000) :
    ∃ v' w', (Builtin.append_ #[t, u] ty #[v, .string s]).run P w = .ok v' w' ∧ w'.ownsRow 0 e 1 v' (n + s.size) (xs ++ Lib.strCells s) ∧ w.grownBy w' v.ownBlock ∧ (v'.ownBlock = v.ownBlock ∨ v'.ownBlock = some w.heap.size) := by
  obtain ⟨v', w', h1, h2, h3, h4⟩ := Lib.run_append_own_string (P := P) w 0 t u ty e i ht hu hi hz hsize hby v n xs hown s (by unfold maxLen; omega) (by omega) (Nat.zero_le _)
  refine ⟨v', w', h1, h2, h3, ?_⟩
  have hxl : xs.length = n := by simpa using hown.1
  rcases hown.2 with ⟨rfl, rfl⟩ | ⟨g, cap, cur, rfl, hbg, hg, hnc, hcm, hcs, htake⟩
  · by_cases hm : s.size = 0
    · have := h4.2 ⟨rfl, hm⟩
      subst this
      exact .inl rfl
    · have hr := run_append_nil_string (P := P) w t u ty e i (.int .u8 0) ht hu hi hz s (by omega) (by omega) (by rw [hby]; omega)
      rw [h1] at hr
      cases hr
      exact .inr rfl
  · by_cases hroom : n + s.size ≤ cap
    · have hr := Lib.run_append_room_string (P := P) w t u ty e i ht hu hi hsize g n cap cur hg s hroom (by omega)
      rw [h1] at hr
      cases hr
      exact .inl rfl
    · have holds : ∀ j u, xs[j]? = some u → w.cell? ((⟨g, 0, none⟩ : Addr).add j) = some u := hown.cells (g := g) rfl
      have hr := Lib.run_append_grow_string (P := P) w t u ty e i (.int .u8 0) ht hu hi hz ⟨g, 0, none⟩ n cap xs (by rw [hsize]; simpa using hxl) holds s (by omega) (by omega) (by rw [hby]; exact growslice_fits (by omega) (by omega))
      rw [h1] at hr
      cases hr
      exact .inr rfl
theorem wpList_append_text_at {P : Program} {ops : Array Oper} {rest : List Oper} {o : Oper} {a : Act} {Q : Exit → Act → World → Prop} {L0 L F : List Part} {w0 w : World} {e : TypeId} {n : Nat} {v : Value} {xs : List Value} {i : TypeInfo} (hg : o.guard = none) (s' x : Operand) (t u : TypeId) (ho : o.op = .call { callee := .builtin .append, args := #[s', x], argTypes := #[t, u] })
    (ht : P.underlying t = some (.slice e)) (hu : P.underlying u = some .string) (hi : P.info? e = some i) (hz : i.zero = some (.int .u8 0)) (hsize : i.size = 1) (hby : i.bytes = 1)
    (h : At L0 w0 L w) (s : Sel (Part.row e 1 v n xs) L F) (hs : a.eval s' = v) {tx : ByteArray} (hx : a.eval x = .string tx) (h63 : n + tx.size ≤ 130000000000000)
    (hK : ∀ v' w', At L0 w0 (Part.row e 1 v' (n + tx.size) (xs ++ Lib.strCells tx) :: F) w' → wpList P ops Q rest (a.put o.dst v') w') : wpList P ops Q (o :: rest) a w := by
  obtain ⟨v', w', h1, h2, h3, h4⟩ := append_text (P := P) (ty := o.type) w ht hu hi hz hsize hby v n xs (h.get s) tx h63
  refine wpList_val hg ?_ (hK v' w' (h.turn s _ h2 (fun b hb => by
      rcases h4 with h4 | h4
      · exact .inl (show v.ownBlock = some b from by rw [← h4]; exact hb)
      · right
        have hb' : v'.ownBlock = some b := hb
        rw [h4] at hb'
        cases hb'
        exact Nat.le_refl _) (exc_grown h3)))
  simp [execOp, ho, resolve, invoke, builtin, hs, hx, h1, Result.andThen]
def textB (s : ByteArray) : List Int := shortN s.size ++ textL s
set_option maxRecDepth 100000 in
set_option maxHeartbeats 1000000 in
theorem outText {w : World} {b : Nat} {u : Value} {l : List Int} (h : Sep [outC b u, rowY u l] w) (s : ByteArray) (hsz : s.size ≤ 20000000000000) (hl : l.length ≤ 100000000000000) :
    Calls Try.prog 26 #[.pointer (some ⟨b, 0, none⟩), .string s] w (OutPost w b u l (textB s)) := by
  obtain ⟨i0, hi0, hz0, hz1, hz2⟩ := info_parts infoY
  have hA := At.start h
  have hF := hA.facts
  have hw : IntKind.u64.wrap (s.size : Int) = (s.size : Int) := by rw [IntKind.wrap_u64]; omega
  have hnl : (shortN s.size).length ≤ 10 := short_len 9 s.size (by omega)
  (try simp only [setL, List.set_cons_zero, List.set_cons_succ, List.cons_append, List.nil_append] at hA); (have hF := hA.facts); (try simp only [facts_cons, facts_nil, facts_cells, facts_old, facts_fact, facts_obj, facts_map, facts_iter, facts_row, and_true, true_and] at hF)
  go_enter Try.func26, Try.ntmps26
  go_wp2_with fail
  refine (outShort h s.size (by omega) hl).mono ?_
  clear h hF hA
  rintro e w' ⟨u', rfl, hA⟩
  have hll : (l ++ shortN s.size).length ≤ 100000000000010 := by rw [List.length_append]; omega
  obtain ⟨l2, hl2⟩ : ∃ z, l ++ shortN s.size = z := ⟨_, rfl⟩
  rw [hl2] at hA hll
  obtain ⟨ax, an, cap, hav, han⟩ := hA.row_hid (v := u') (n := l2.length) (xs := flatY l2) (by with_reducible repeat (first | exact Sel.here | apply Sel.there))
  subst hav
  have han2 := han.out
  subst han2
  clear han
  have hF := hA.facts
  (try simp only [setL, List.set_cons_zero, List.set_cons_succ, List.cons_append, List.nil_append] at hA); (have hF := hA.facts); (try simp only [facts_cons, facts_nil, facts_cells, facts_old, facts_fact, facts_obj, facts_map, facts_iter, facts_row, and_true, true_and] at hF)
  go_wp2_with (first
    | (with_reducible show wpList _ _ _ ({ dst := _, op := Op.call { callee := Callee.builtin Builtin.append, args := _, argTypes := _ }, type := _, pos := _, after := _, guard := _ } :: _) _ _; refine wpList_append_text_at (e := 5) (v := .slice ax l2.length cap) (xs := flatY l2) (n := l2.length) (tx := s) rfl _ _ 40 9 rfl Try.underlying40 Try.underlying9 hi0 hz0 hz1 hz2 hA (by with_reducible repeat (first | exact Sel.here | apply Sel.there)) (by (try simp only [Act.eval, Array.getD_eq_getD_getElem?, List.getElem?_toArray, List.getElem?_cons_succ, List.getElem?_cons_zero, Option.getD_some]) <;> exact rfl) (by (try simp only [Act.eval, Array.getD_eq_getD_getElem?, List.getElem?_toArray, List.getElem?_cons_succ, List.getElem?_cons_zero, Option.getD_some]) <;> exact rfl) (by omega) ?_; intro v2 w7 hB; rw [str_flat, ← textL_len, rowY_app] at hB; obtain ⟨cx, cn, ccap, hcv, hcn⟩ := hB.row_hid (v := v2) (n := (l2 ++ textL s).length) (xs := flatY (l2 ++ textL s)) (by with_reducible repeat (first | exact Sel.here | apply Sel.there)); subst hcv; clear hF hA; have hA := hB; clear hB; (try simp only [setL, List.set_cons_zero, List.set_cons_succ, List.cons_append, List.nil_append] at hA); (have hF := hA.facts); (try simp only [facts_cons, facts_nil, facts_cells, facts_old, facts_fact, facts_obj, facts_map, facts_iter, facts_row, and_true, true_and] at hF))
    | ((with_reducible show wpList _ _ _ ({ dst := _, op := Op.store _ _ _, type := _, pos := _, after := _, guard := _ } :: _) _ _); refine wpList_store_at rfl rfl rfl (by (try simp only [Act.eval, Array.getD_eq_getD_getElem?, List.getElem?_toArray, List.getElem?_cons_succ, List.getElem?_cons_zero, Option.getD_some]) <;> exact rfl) (by exact rfl) hA (by with_reducible repeat (first | exact Sel.here | apply Sel.there)) (by kernel_rfl) rfl (by first | decide | (simp; done) | omega) ?_; intro w1 hB; clear hF hA; have hA := hB; clear hB; (try simp only [setL, List.set_cons_zero, List.set_cons_succ, List.cons_append, List.nil_append] at hA); (have hF := hA.facts); (try simp only [facts_cons, facts_nil, facts_cells, facts_old, facts_fact, facts_obj, facts_map, facts_iter, facts_row, and_true, true_and] at hF)) | ((with_reducible show wpList _ _ _ ({ dst := _, op := Op.box _ _, type := _, pos := _, after := _, guard := _ } :: _) _ _); refine wpList_box_at rfl rfl (by (try simp only [Act.eval, Array.getD_eq_getD_getElem?, List.getElem?_toArray, List.getElem?_cons_succ, List.getElem?_cons_zero, Option.getD_some]) <;> exact rfl) (by exact rfl) hA ?_; intro b1 w1 hB hb1; clear hF hA; have hA := hB; clear hB; (try simp only [setL, List.set_cons_zero, List.set_cons_succ, List.cons_append, List.nil_append] at hA); (have hF := hA.facts); (try simp only [facts_cons, facts_nil, facts_cells, facts_old, facts_fact, facts_obj, facts_map, facts_iter, facts_row, and_true, true_and] at hF)))
  go_ret
  refine ⟨.slice cx cn ccap, rfl, ?_⟩
  have hE := hA.only2 (A := outC b (.slice cx cn ccap)) (B := rowY (.slice cx cn ccap) (l2 ++ textL s)) (by with_reducible repeat (first | exact Sel.here | apply Sel.there)) (by with_reducible repeat (first | exact Sel.here | apply Sel.there))
  rw [← hl2, List.append_assoc] at hE
  exact hE
end Go.Proofs.Ytnkddjomanaadaa.Wire
end

section
namespace Go.Proofs.Ytnkddjomanaadaa.Wire
open Go.RowKit
set_option linter.unusedVariables false
set_option linter.unusedSimpArgs false

theorem flatY_map (l : List Int) : flatY l = l.map (Value.int .u8) := by
  induction l with
  | nil => rfl
  | cons x l ih => show encY x ++ flatY l = _; rw [ih]; rfl
theorem flatY_get (l : List Int) (i : Nat) (hi : i < l.length) : (flatY l)[i]? = some (.int .u8 l[i]) := by
  rw [flatY_map, List.getElem?_map, List.getElem?_eq_getElem hi]; rfl
theorem clone_row {L0 L F : List Part} {w0 w : World} {v : Value} {l : List Int} (hA : At L0 w0 L w) (s : Sel (rowY v l) L F) (hl : l.length ≤ 140000000000000) :
    Calls Try.prog 30 #[v] w fun e w' => ∃ v', e = .returned v' ∧ At L0 w0 (rowY v' l :: L) w' := by
  obtain ⟨ax, cap, rfl, hax, hcap, _⟩ := hA.row_form (v := v) (n := l.length) (xs := flatY l) s
  have hr := hA.row_reads (v := .slice ax l.length cap) (n := l.length) (xs := flatY l) s
  cases ax with
  | none =>
    have h0 : l = [] := List.eq_nil_of_length_eq_zero (hax rfl)
    subst h0
    refine (Try.bytes_Clone_nil _ cap w).mono fun e w' h => ?_
    obtain ⟨he, hw⟩ := h
    subst he; subst hw
    exact ⟨_, rfl, rowY_nil hA⟩
  | some a =>
    refine (Try.bytes_Clone_at a l.length cap l w rfl (by omega) ?_).mono fun e w' h => ?_
    · intro i hi
      obtain ⟨ax', c', hv', _, hc⟩ := hr
      cases hv'
      obtain ⟨b, off, h, hx⟩ := hc i _ (flatY_get l i hi)
      cases h
      rw [List.getD_eq_getElem?_getD, List.getElem?_eq_getElem hi]
      by_cases q : i = 0
      · subst q; simpa [Addr.add] using hx
      · simpa [Addr.add, q] using hx
    · obtain ⟨v', rfl, hown, _, hb⟩ := h
      refine ⟨v', rfl, ?_⟩
      have := hA.row_new (e := 5) (size := 1) (n := l.length) (xs := flatY l) (v := v') hb (by rw [flatY_map]; exact hown)
      exact this
set_option maxRecDepth 100000 in
theorem outBytes {w : World} {b : Nat} {u : Value} {l : List Int} (h : Sep [outC b u, rowY u l] w) (hl : l.length ≤ 140000000000000) :
    Calls Try.prog 10 #[.pointer (some ⟨b, 0, none⟩)] w fun e w' => ∃ v, e = .returned v ∧ At [outC b u, rowY u l] w [rowY v l, outC b u, rowY u l] w' := by
  have hA := At.start h
  have hF := hA.facts
  clear h
  obtain ⟨ax, cap, rfl, hax, hcap, _⟩ := hA.row_form (v := u) (n := l.length) (xs := flatY l) (by with_reducible repeat (first | exact Sel.here | apply Sel.there))
  (try simp only [setL, List.set_cons_zero, List.set_cons_succ, List.cons_append, List.nil_append] at hA); (have hF := hA.facts); (try simp only [facts_cons, facts_nil, facts_cells, facts_old, facts_fact, facts_obj, facts_map, facts_iter, facts_row, and_true, true_and] at hF)
  go_enter Try.func10, Try.ntmps10
  go_wp2_with fail
  refine (clone_row (v := .slice ax l.length cap) (l := l) hA (by with_reducible repeat (first | exact Sel.here | apply Sel.there)) hl).mono ?_
  rintro e w1 ⟨v, rfl, hB⟩
  go_wp2_with fail
  go_ret
  exact ⟨v, rfl, hB⟩
/-! ### The document's Same -/
def SmRel (w : World) (u v : Value) (a c : List Int) (k : Nat) (x : Value) (wr : World) : Prop :=
  ∃ i : Nat, x = .int .i64 i ∧ i + k = a.length ∧ a.take i = c.take i ∧ At [rowY u a, rowY v c] w [rowY u a, rowY v c] wr
set_option maxRecDepth 100000 in
set_option maxHeartbeats 400000 in
theorem same_any {w : World} {u v : Value} {a c : List Int} (h : Sep [rowY u a, rowY v c] w) (hl : a.length ≤ 140000000000000) :
    Calls Try.prog 9 #[u, v] w fun e w' => e = .returned (.bool (decide (a = c))) ∧ At [rowY u a, rowY v c] w [rowY u a, rowY v c] w' := by
  have hA := At.start h
  have hF := hA.facts
  clear h
  obtain ⟨ax, acap, rfl, hax, hacap, _⟩ := hA.row_form (v := u) (n := a.length) (xs := flatY a) (by with_reducible repeat (first | exact Sel.here | apply Sel.there))
  obtain ⟨cx, ccap, rfl, hcx, hccap, _⟩ := hA.row_form (v := v) (n := c.length) (xs := flatY c) (by with_reducible repeat (first | exact Sel.here | apply Sel.there))
  (try simp only [setL, List.set_cons_zero, List.set_cons_succ, List.cons_append, List.nil_append] at hA); (have hF := hA.facts); (try simp only [facts_cons, facts_nil, facts_cells, facts_old, facts_fact, facts_obj, facts_map, facts_iter, facts_row, and_true, true_and] at hF)
  go_enter Try.func9, Try.ntmps9
  by_cases hn : a.length = c.length
  · have hn' : ((a.length : Int) != (c.length : Int)) = false := by simp [hn]
    go_wp2_with fail
    try go_frame
    clear hn'
    go_loopg [5] a.length (SmRel w (.slice ax a.length acap) (.slice cx c.length ccap) a c)
    case atStart => exact ⟨0, rfl, by simp, by simp, hA⟩
    case round =>
      obtain ⟨i, rfl, hik, htk, hB⟩ := hrel
      have htk' := Lib.hid htk
      clear hF hA htk
      have hA := hB
      clear hB
      have hnx := Lib.hid hn
      by_cases hi : i < a.length
      · have hic : i < c.length := by omega
        have hy := flatY_get a i hi
        have hz := flatY_get c i hic
        obtain ⟨ga, ca, rfl, ap1, am, al, atk, hB⟩ := hA.row_open (ax := ax) (cap := acap) (n := a.length) (xs := flatY a) (by with_reducible repeat (first | exact Sel.here | apply Sel.there)) (by omega)
        replace hA := hB
        clear hB
        obtain ⟨gc, cc, rfl, cp1, cm, cl, ct, hB⟩ := hA.row_open (ax := cx) (cap := ccap) (n := c.length) (xs := flatY c) (by with_reducible repeat (first | exact Sel.here | apply Sel.there)) (by omega)
        replace hA := hB
        clear hB
        have f1 : ca[i]? = some (.int .u8 a[i]) := by
          rw [← hy, ← atk, List.getElem?_take_of_lt (by omega)]
        have f2 : cc[i]? = some (.int .u8 c[i]) := by
          rw [← hz, ← ct, List.getElem?_take_of_lt (by omega)]
        have hstep := Lib.hid (show a[i] = c[i] → a.take (i + 1) = c.take (i + 1) from fun q => by
          rw [List.take_succ_eq_append_getElem hi, List.take_succ_eq_append_getElem hic, htk'.out, q])
        have hne := Lib.hid (show a[i] ≠ c[i] → a ≠ c from fun q e => q (by subst e; rfl))
        obtain ⟨y, hyy⟩ : ∃ y, a[i] = y := ⟨_, rfl⟩
        obtain ⟨z, hzz⟩ : ∃ z, c[i] = z := ⟨_, rfl⟩
        rw [hyy] at f1 hstep hne
        rw [hzz] at f2 hstep hne
        clear hy hz hyy hzz hn
        have hF := hA.facts
        (try simp only [setL, List.set_cons_zero, List.set_cons_succ, List.cons_append, List.nil_append] at hA); (have hF := hA.facts); (try simp only [facts_cons, facts_nil, facts_cells, facts_old, facts_fact, facts_obj, facts_map, facts_iter, facts_row, and_true, true_and] at hF)
        by_cases hq : y = z
        · subst hq
          have hs2 := Lib.hid (hstep.out rfl)
          clear hstep hne
          go_wp2_with fail
          try go_frame
          (refine wp_region_all (Cl _ _ _) (by kernel_rfl) (by kernel_rfl) (Cl.drew hA) ?_); (have hn1 := Cl.none hA); (have hn2 := Cl.none2 hA); (repeat (first | go_big_quiet_skip | (go_big_quiet_want; (first | (refine quiet_load_at rfl rfl (by with_reducible repeat (first | exact Sel.here | apply Sel.there)) (by kernel_rfl) (by first | assumption | exact rfl) ?_; go_frame; go_big_quiet_on) | (go_big_quiet_op; (first | go_big_quiet_on | ((apply Exists.intro); (refine ⟨fun w1 hw => ?_, ?_⟩); (focus ((have hw := Cl.out hw); (fail))); (go_big_quiet_on))))))))
          (refine wpQuiet_nil ?_); (intro w1 hB); (clear hF hA hn1 hn2); (have hA := Cl.out hB); (clear hB); (try simp only [setL, List.set_cons_zero, List.set_cons_succ, List.cons_append, List.nil_append] at hA); (have hF := hA.facts); (try simp only [facts_cons, facts_nil, facts_cells, facts_old, facts_fact, facts_obj, facts_map, facts_iter, facts_row, and_true, true_and] at hF)
          go_wp2_with fail
          go_roundg (gk - 1)
          case measure => omega
          case rel =>
            have hS1 := hA.row_shut (e := 5) (size := 1) (n := a.length) (cap := acap) (xs := flatY a) (g := ga) (c := ca) (by with_reducible repeat (first | exact Sel.here | apply Sel.there)) al ap1 am atk
            have hS2 := hS1.row_shut (e := 5) (size := 1) (n := c.length) (cap := ccap) (xs := flatY c) (g := gc) (c := cc) (by with_reducible repeat (first | exact Sel.here | apply Sel.there)) cl cp1 cm ct
            exact ⟨i + 1, by simp, by omega, hs2.out, hS2.pick (by repeat (first | exact Picks.nil | refine Picks.cons (by repeat (first | exact Sel.here | apply Sel.there)) ?_))⟩
        · have hq' : (y != z) = true := by simp [hq]
          have hf : decide (a = c) = false := decide_eq_false (hne.out hq)
          clear hstep hne
          go_wp2_with fail
          try go_frame
          (refine wp_region_all (Cl _ _ _) (by kernel_rfl) (by kernel_rfl) (Cl.drew hA) ?_); (have hn1 := Cl.none hA); (have hn2 := Cl.none2 hA); (repeat (first | go_big_quiet_skip | (go_big_quiet_want; (first | (refine quiet_load_at rfl rfl (by with_reducible repeat (first | exact Sel.here | apply Sel.there)) (by kernel_rfl) (by first | assumption | exact rfl) ?_; go_frame; go_big_quiet_on) | (go_big_quiet_op; (first | go_big_quiet_on | ((apply Exists.intro); (refine ⟨fun w1 hw => ?_, ?_⟩); (focus ((have hw := Cl.out hw); (fail))); (go_big_quiet_on))))))))
          (refine wpQuiet_nil ?_); (intro w1 hB); (clear hF hA hn1 hn2); (have hA := Cl.out hB); (clear hB); (try simp only [setL, List.set_cons_zero, List.set_cons_succ, List.cons_append, List.nil_append] at hA); (have hF := hA.facts); (try simp only [facts_cons, facts_nil, facts_cells, facts_old, facts_fact, facts_obj, facts_map, facts_iter, facts_row, and_true, true_and] at hF)
          go_wp2_with fail
          go_ret
          have hS1 := hA.row_shut (e := 5) (size := 1) (n := a.length) (cap := acap) (xs := flatY a) (g := ga) (c := ca) (by with_reducible repeat (first | exact Sel.here | apply Sel.there)) al ap1 am atk
          have hS2 := hS1.row_shut (e := 5) (size := 1) (n := c.length) (cap := ccap) (xs := flatY c) (g := gc) (c := cc) (by with_reducible repeat (first | exact Sel.here | apply Sel.there)) cl cp1 cm ct
          exact ⟨by rw [hf]; rfl, hS2.pick (by repeat (first | exact Picks.nil | refine Picks.cons (by repeat (first | exact Sel.here | apply Sel.there)) ?_))⟩
      · have hac : a = c := by
          have := htk'.out
          rwa [List.take_of_length_le (by omega), List.take_of_length_le (by omega)] at this
        have hf : decide (a = c) = true := decide_eq_true hac
        have hf' := Lib.hid hf
        clear hf hac hn
        have hF := hA.facts
        (try simp only [setL, List.set_cons_zero, List.set_cons_succ, List.cons_append, List.nil_append] at hA); (have hF := hA.facts); (try simp only [facts_cons, facts_nil, facts_cells, facts_old, facts_fact, facts_obj, facts_map, facts_iter, facts_row, and_true, true_and] at hF)
        go_wp2_with fail
        go_ret
        exact ⟨by rw [hf'.out]; rfl, hA⟩
  · have hn' : ((a.length : Int) != (c.length : Int)) = true := by simp; omega
    have hf : decide (a = c) = false := decide_eq_false (fun e => hn (by rw [e]))
    go_wp2_with fail
    go_ret
    exact ⟨by rw [hf]; rfl, hA⟩
end Go.Proofs.Ytnkddjomanaadaa.Wire
end
