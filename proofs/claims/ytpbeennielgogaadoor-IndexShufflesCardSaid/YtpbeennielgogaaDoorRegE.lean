/- A region that draws its order and holds operations that make memory in two rows: quiet operations are taken first (the kit's law for a condition that is held), the others come in whatever order, each by its law over parts. No program in sight. -/
import Derived.Test.YtpbeennielgogaaDoorRow
import Derived.Test.YtpbeennielgogaaDoorRegA
import Derived.Test.YtpbeennielgogaaDoorMapW
import Derived.OrdersHeld
namespace Go
open _root_.Go.Proofs.YtpbeennielgogaaDoor
open Go.RowKit
set_option linter.unusedVariables false
set_option linter.unusedSimpArgs false

section
variable {P : Program} {ops : Array Oper} {Q : Exit → Act → World → Prop} {md : Region.Mode} {S : World → Prop} {L0 L F : List Part} {w0 w : World}
theorem wpAnyH_one {i fuel : Nat} {listed : Array Bool} {a : Act} (hr : Region.ready md ops listed = [i]) (h : wpOp P ops Q i (fun a' w' => S w' ∧ wpAnyH P md ops Q S fuel (listed.setIfInBounds i true) a' w') a w) : wpAnyH P md ops Q S (fuel + 1) listed a w :=
  wpAnyH_all hr (by simp) (fun k hk => by rw [List.mem_singleton.1 hk]; exact h)
theorem wpAnyH_two {i j fuel : Nat} {listed : Array Bool} {a : Act} (hr : Region.ready md ops listed = [i, j]) (h1 : wpOp P ops Q i (fun a' w' => S w' ∧ wpAnyH P md ops Q S fuel (listed.setIfInBounds i true) a' w') a w)
    (h2 : wpOp P ops Q j (fun a' w' => S w' ∧ wpAnyH P md ops Q S fuel (listed.setIfInBounds j true) a' w') a w) : wpAnyH P md ops Q S (fuel + 1) listed a w :=
  wpAnyH_all hr (by simp) (fun k hk => by
    rcases List.mem_cons.1 hk with rfl | hk
    · exact h1
    · rw [List.mem_singleton.1 hk]; exact h2)
/-- number i first; its slot given -/
theorem wpAnyH_takeD {i : Nat} {oi : Oper} {v : Value} {d : Option Tmp} {fuel : Nat} {listed : Array Bool} {a : Act} (hi : ops[i]? = some oi) (hd : oi.dst = d)
    (hs : Region.noSelect ops = true) (hf : Region.free md ops listed i = true) (hr : (Region.ready md ops listed).contains i = true)
    (hQ : ∀ c a w, Q (.panic c) (a.put oi.dst v) w → Q (.panic c) a w) (hw : Region.wanted oi (yielded ops a.tmps) = true) (hrun : ∀ w, S w → (execOp a.eval oi).run P w = .ok (.value v) w) (hS : S w)
    (h : wpAnyH P md ops Q S fuel (listed.setIfInBounds i true) (a.put d v) w) : wpAnyH P md ops Q S (fuel + 1) listed a w := by
  subst hd
  exact wpAnyH_take hi hs hf hr hQ (.inl ⟨hw, hrun⟩) hS h
/-- a row of one element is laid -/
theorem opOne_at {i : Nat} {d : Option Tmp} {o : Oper} {a : Act} {K : Act → World → Prop} {t : TypeId} {x : Operand} {e : TypeId} (ho : ops[i]? = some o) (hd : o.dst = d) (hw : Region.wanted o (yielded ops a.tmps) = true) (hop : o.op = .buildSlice t 1 #[(0, x)]) {xv : Value} (hx : a.eval x = xv) {vs : List Value}
    (hrun : ∀ w, (Instr.buildSlice t 1 #[(0, xv)]).run P w = .ok (.slice (some ⟨w.heap.size, 0, none⟩) 1 1) (w.alloc (.cells vs.toArray e))) (h : At L0 w0 L w)
    (hK : ∀ b w', At L0 w0 (Part.cells b vs e :: L) w' → K (a.put d (.slice (some ⟨b, 0, none⟩) 1 1)) w') : wpOp P ops Q i K a w := by
  subst hd
  exact wpOp_val ho hw (v := .slice (some ⟨w.heap.size, 0, none⟩) 1 1) (w' := w.alloc (.cells vs.toArray e)) (by simp [execOp, hop, hx, hrun, Result.andThen]) (hK _ _ (h.alloc vs e))
/-- append of a row that is read -/
theorem opAppend_at {k : Nat} {d : Option Tmp} {o : Oper} {a : Act} {K : Act → World → Prop} {e : TypeId} {size n : Nat} {v : Value} {xs : List Value} {i : TypeInfo} {z : Value} {bytes : Nat} (hok : ops[k]? = some o) (hd : o.dst = d) (hw : Region.wanted o (yielded ops a.tmps) = true) (hg : o.guard = none) (s' x : Operand) (t : TypeId) (ho : o.op = .call { callee := .builtin .append, args := #[s', x], argTypes := #[t, t] })
    (ht : P.underlying t = some (.slice e)) (hi : P.info? e = some i) (hz : i.zero = some z) (hsize : i.size = size) (hby : i.bytes = bytes) (hzs : z.cells.size = size) (hsz : 0 < size)
    (h : At L0 w0 L w) (s : Sel (Part.row e size v n xs) L F) (hs : a.eval s' = v) {xv : Value} {m : Nat} {news : List Value} (hxv : a.eval x = xv) (hl : news.length = m * size) (hx : Reads w xv m news) (h1 : ∀ u ∈ news, u.oneCell' = true)
    (h63 : n + m ≤ maxLen) (hbytes : (n + m) * bytes ≤ 140737488355328)
    (hK : ∀ v' w', At L0 w0 (Part.row e size v' (n + m) (xs ++ news) :: F) w' → K (a.put d v') w') : wpOp P ops Q k K a w := by
  subst hd
  have hst := step_append_all w (K := K) (Q := Q) (E := True) (ops := ops) (a := a) (o := o) hg s' x t ho 0 e i z size bytes ht hi hz hsize hby hzs hsz v n xs hs (h.get s) xv m news hxv hl hx h1 h63 hbytes (Nat.zero_le _) (fun v' w' h2 h3 h4 =>
    hK v' w' (h.turn s _ h2 (fun b hb => by
      rcases h4 with h4 | h4
      · exact .inl (show v.ownBlock = some b from by rw [← h4]; exact hb)
      · right
        have hb' : v'.ownBlock = some b := hb
        rw [h4] at hb'
        cases hb'
        exact Nat.le_refl _) (exc_grown h3)))
  rw [if_pos hw] at hst
  unfold wpOp
  simp only [hok, hw, if_true]
  exact .inl hst
/-- a call -/
theorem opCall_at {i : Nat} {d : Option Tmp} {o : Oper} {a : Act} {K : Act → World → Prop} (ho : ops[i]? = some o) (hd : o.dst = d) (hw : Region.wanted o (yielded ops a.tmps) = true) {fn : FuncId} {args : Array Value} (hrun : (execOp a.eval o).run P w = .ok (.enter fn args) w)
    {R : Value → World → Prop} (hc : Calls P fn args w fun e w' => ∃ u, e = .returned u ∧ R u w') (hK : ∀ u w', R u w' → K (a.put d u) w') : wpOp P ops Q i K a w := by
  subst hd
  exact wpOp_call ho hw hrun hc (fun e w' ⟨u, he, hr⟩ => ⟨u, he, hK u w' hr⟩)
/-- a store -/
theorem opStore_at {i : Nat} {o : Oper} {a : Act} {K : Act → World → Prop} (ho : ops[i]? = some o) (hd : o.dst = none) (hw : Region.wanted o (yielded ops a.tmps) = true) {ty : TypeId} {x y : Operand} (hop : o.op = .store ty x y) {b j : Nat} (hx : a.eval x = .pointer (some ⟨b, j, none⟩)) {v : Value} (hy : a.eval y = v) {vs : List Value} (hv : v.cells = vs.toArray)
    (h : At L0 w0 L w) {c : List Value} {T : TypeId} (s : Sel (Part.cells b c T) L F) (hi : (P.info? ty).map (·.size) = some vs.length) (h1 : vs.all (·.oneCell') = true) (hj : j + vs.length ≤ c.length)
    (hK : ∀ w', At L0 w0 (Part.cells b (setL c j vs) T :: F) w' → K (a.put none undef) w') : wpOp P ops Q i K a w := by
  have hb : BlockIs w b c T := h.get s
  have hs : v.cells.size = vs.length := by rw [hv]; simp
  have h1' : v.cells.all (·.oneCell') = true := by
    rw [hv, Array.all_eq_true_iff_forall_mem]
    intro u hu
    exact List.all_eq_true.1 h1 u (by simpa using hu)
  have hrun := run_storeAt_cells (P := P) w b j ty v (hb.there j _ (by omega)) (by rw [hs]; exact hi) h1'
  rw [show v.cells.toList = vs from by rw [hv]] at hrun
  refine wpOp_unit ho hw (w' := _) ?_ (by rw [hd]; exact hK _ (h.stores s j vs))
  simp [execOp, hop, hx, hy, hrun, Result.andThen]
end
end Go
