/- The walk's rules over parts within a round of a range over an iterator: a store, a row of one, an append, a row cut. No program in sight. -/
import Derived.Test.YtpbeennielgogaaDoorSeqB
import Derived.Test.YtpbeennielgogaaDoorRow4
namespace Go.Proofs.YtpbeennielgogaaDoor
open Go.RowKit
set_option linter.unusedVariables false
set_option linter.unusedSimpArgs false

section
variable {F : Fence} {n : Nat} {P : Program} {ops : Array Oper} {rest : List Oper} {o : Oper} {a : Act} {Q : Exit → Act → World → Prop} {L0 L G : List Part} {w0 w : World}
theorem wpListIn_val (hfn : ∀ f, F.fn f) (hg : o.guard = none) (hd : ∀ c, o.op ≠ .defer c) {v : Value} {w' : World} (hrun : (execOp a.eval o).run P w = .ok (.value v) w') (hK : wpListIn F n P ops Q rest (a.put o.dst v) w') : wpListIn F n P ops Q (o :: rest) a w :=
  wpListIn_plain hg fun K hK' => ⟨fun f _ => hfn f, by rw [Oper.semAt_eq _ _ _ hd, hrun, Oper.uponIn_value]; exact hK' _ _ hK⟩
theorem wpListIn_unit (hfn : ∀ f, F.fn f) (hg : o.guard = none) (hd : ∀ c, o.op ≠ .defer c) {w' : World} (hrun : (execOp a.eval o).run P w = .ok .skip w') (hK : wpListIn F n P ops Q rest (a.put o.dst undef) w') : wpListIn F n P ops Q (o :: rest) a w :=
  wpListIn_plain hg fun K hK' => ⟨fun f _ => hfn f, by rw [Oper.semAt_eq _ _ _ hd, hrun, Oper.uponIn_skip]; exact hK' _ _ hK⟩
/-- a store -/
theorem wpListIn_store_at {ty : TypeId} {x y : Operand} (hfn : ∀ f, F.fn f) (hg : o.guard = none) (hop : o.op = .store ty x y) {b j : Nat} (hx : a.eval x = .pointer (some ⟨b, j, none⟩)) {v : Value} (hy : a.eval y = v) {vs : List Value} (hv : v.cells = vs.toArray)
    (h : At L0 w0 L w) {c : List Value} {T : TypeId} (s : Sel (Part.cells b c T) L G) (hi : (P.info? ty).map (·.size) = some vs.length) (h1 : vs.all (·.oneCell') = true) (hj : j + vs.length ≤ c.length)
    (hK : ∀ w', At L0 w0 (Part.cells b (setL c j vs) T :: G) w' → wpListIn F n P ops Q rest (a.put o.dst undef) w') : wpListIn F n P ops Q (o :: rest) a w := by
  have hb : BlockIs w b c T := h.get s
  have hs : v.cells.size = vs.length := by rw [hv]; simp
  have h1' : v.cells.all (·.oneCell') = true := by
    rw [hv, Array.all_eq_true_iff_forall_mem]
    intro u hu
    exact List.all_eq_true.1 h1 u (by simpa using hu)
  have hrun := run_storeAt_cells (P := P) w b j ty v (hb.there j _ (by omega)) (by rw [hs]; exact hi) h1'
  rw [show v.cells.toList = vs from by rw [hv]] at hrun
  refine wpListIn_unit hfn hg (by rw [hop]; nofun) ?_ (hK _ (h.stores s j vs))
  simp [execOp, hop, hx, hy, hrun, Result.andThen]
/-- a row of one element is laid -/
theorem wpListIn_one_at {t e : TypeId} {x : Operand} (hfn : ∀ f, F.fn f) (hg : o.guard = none) (hop : o.op = .buildSlice t 1 #[(0, x)]) {xv : Value} (hx : a.eval x = xv) {vs : List Value}
    (hrun : ∀ w, (Instr.buildSlice t 1 #[(0, xv)]).run P w = .ok (.slice (some ⟨w.heap.size, 0, none⟩) 1 1) (w.alloc (.cells vs.toArray e)))
    (h : At L0 w0 L w)
    (hK : ∀ b w', At L0 w0 (Part.cells b vs e :: L) w' → w0.heap.size ≤ b → wpListIn F n P ops Q rest (a.put o.dst (.slice (some ⟨b, 0, none⟩) 1 1)) w') : wpListIn F n P ops Q (o :: rest) a w := by
  refine wpListIn_val hfn hg (by rw [hop]; nofun) ?_ (hK _ _ (h.alloc vs e) h.size)
  simp [execOp, hop, hx, hrun, Result.andThen]
/-- append of a row that is read -/
theorem wpListIn_append_at {e : TypeId} {size m0 : Nat} {v : Value} {xs : List Value} {i : TypeInfo} {z : Value} {bytes : Nat} (hfn : ∀ f, F.fn f) (hg : o.guard = none) (s' x : Operand) (t : TypeId) (ho : o.op = .call { callee := .builtin .append, args := #[s', x], argTypes := #[t, t] })
    (ht : P.underlying t = some (.slice e)) (hi : P.info? e = some i) (hz : i.zero = some z) (hsize : i.size = size) (hby : i.bytes = bytes) (hzs : z.cells.size = size) (hsz : 0 < size)
    (h : At L0 w0 L w) (s : Sel (Part.row e size v m0 xs) L G) (hs : a.eval s' = v) {xv : Value} {m : Nat} {news : List Value} (hxv : a.eval x = xv) (hl : news.length = m * size) (hx : Reads w xv m news) (h1 : ∀ u ∈ news, u.oneCell' = true)
    (h63 : m0 + m ≤ maxLen) (hbytes : (m0 + m) * bytes ≤ 140737488355328)
    (hK : ∀ v' w', At L0 w0 (Part.row e size v' (m0 + m) (xs ++ news) :: G) w' → wpListIn F n P ops Q rest (a.put o.dst v') w') : wpListIn F n P ops Q (o :: rest) a w := by
  obtain ⟨v', w', hr, h2, h3, h4⟩ := run_append_all (P := P) w 0 t o.type e i z size bytes ht hi hz hsize hby hzs hsz v m0 xs (h.get s) xv m news hl hx h1 h63 hbytes (Nat.zero_le _)
  refine wpListIn_val hfn hg (by rw [ho]; nofun) (v := v') (w' := w') ?_ (hK v' w' (h.turn s _ h2 (fun b hb => ?_) (exc_grown h3)))
  · simp [execOp, ho, resolve, invoke, builtin, hs, hxv, hr, Result.andThen]
  · rcases h4 with h4 | h4
    · exact .inl (show v.ownBlock = some b from by rw [← h4]; exact hb)
    · right
      have hb' : v'.ownBlock = some b := hb
      rw [h4] at hb'
      cases hb'
      exact Nat.le_refl _
end

/-- a row's first elements, as a row of one's own -/
theorem run_cut_own {P : Program} {w : World} {t e : TypeId} {i : TypeInfo} {size n : Nat} {v : Value} {xs : List Value} (ht : P.underlying t = some (.slice e)) (hi : P.info? e = some i) (hsize : i.size = size) (hr : w.ownsRow 0 e size v n xs) (k : Nat) (hk : k ≤ n) :
    ∃ v', (Instr.sliceAt t v none (some (.int .i64 k)) none).run P w = .ok v' w ∧ w.ownsRow 0 e size v' k (xs.take (k * size)) ∧ v'.ownBlock = v.ownBlock := by
  have hz : ∀ w, (sizeOf e).run P w = .ok size w := fun w => by simp [sizeOf, typeInfo, hi, hsize]
  rcases hr.2 with ⟨rfl, rfl⟩ | ⟨g, cap, cur, rfl, hg, hh, hc, hm, hs, htk⟩
  · obtain rfl : k = 0 := by omega
    refine ⟨.slice none 0 0, ?_, ⟨by simp, .inl ⟨rfl, rfl⟩⟩, rfl⟩
    simp [Instr.sliceAt, Instr.slice, run_underlying ht, Instr.sliceBounds, run_sliceBound, hz, Result.andThen]
  · refine ⟨.slice (some ⟨g, 0, none⟩) k cap, ?_, ⟨?_, .inr ⟨g, cap, cur, rfl, hg, hh, by omega, hm, hs, ?_⟩⟩, rfl⟩
    · by_cases h0 : cap = 0
      · subst h0
        obtain rfl : k = 0 := by omega
        simp [Instr.sliceAt, Instr.slice, run_underlying ht, Instr.sliceBounds, run_sliceBound, hz, Result.andThen]
      · simp [Instr.sliceAt, Instr.slice, run_underlying ht, Instr.sliceBounds, run_sliceBound, hz, Result.andThen, show (k : Int) ≤ cap by omega, h0, Addr.add]
    · rw [List.length_take, hr.1]
      have : k * size ≤ n * size := Nat.mul_le_mul_right _ hk
      omega
    · rw [← htk, List.take_take]
      have : k * size ≤ n * size := Nat.mul_le_mul_right _ hk
      rw [Nat.min_eq_left this]

theorem wpListIn_cut_at {F : Fence} {n : Nat} {P : Program} {ops : Array Oper} {rest : List Oper} {o : Oper} {a : Act} {Q : Exit → Act → World → Prop} {L0 L G : List Part} {w0 w : World} {t e : TypeId} {i : TypeInfo} {size m0 k : Nat} {v : Value} {xs : List Value} {x hi' : Operand}
    (hfn : ∀ f, F.fn f) (hg : o.guard = none) (hop : o.op = .slice t x none (some hi') none) (ht : P.underlying t = some (.slice e)) (hi : P.info? e = some i) (hsize : i.size = size) (hx : a.eval x = v) (hh : a.eval hi' = .int .i64 k)
    (h : At L0 w0 L w) (s : Sel (Part.row e size v m0 xs) L G) (hk : k ≤ m0) (hK : ∀ v', At L0 w0 (Part.row e size v' k (xs.take (k * size)) :: G) w → wpListIn F n P ops Q rest (a.put o.dst v') w) : wpListIn F n P ops Q (o :: rest) a w := by
  obtain ⟨v', hr, h1, h2⟩ := run_cut_own (P := P) ht hi hsize (h.get s : w.ownsRow 0 e size v m0 xs) k hk
  refine wpListIn_val hfn hg (by rw [hop]; nofun) ?_ (hK v' (h.turn s (Part.row e size v' k (xs.take (k * size))) h1 (fun b hb => .inl (by simpa [Part.row, h2] using hb)) (Exc.refl _ _)))
  simp [execOp, hop, hx, hh, hr, Result.andThen]

/-! ### Blocks of cells alone -/
/-- a block that holds cells, whatever they are -/
def Part.hole (b : Nat) : Part where
  holds w := ∃ o : Obj, w.heap[b]? = some o ∧ o.isCells = true
  foot k := k = b
  lt := fun w ⟨o, h, _⟩ _ e => by subst e; exact lt_of_some h
  stay := fun _ _ ⟨o, h, ho⟩ e => ⟨o, (e b rfl).trans h, ho⟩
/-- its blocks hold cells -/
def Part.Cl (A : Part) : Prop := ∀ w, A.holds w → ∀ b, A.foot b → ∃ o : Obj, w.heap[b]? = some o ∧ o.isCells = true
theorem Part.cl_cells (b : Nat) (c : List Value) (T : TypeId) : (Part.cells b c T).Cl := fun w h k e => by subst e; exact ⟨_, h, rfl⟩
theorem Part.cl_hole (b : Nat) : (Part.hole b).Cl := fun w h k e => by subst e; exact h
theorem Part.cl_row (e : TypeId) (size : Nat) (v : Value) (n : Nat) (xs : List Value) : (Part.row e size v n xs).Cl := fun w h k hk => by
  rcases h.2 with ⟨rfl, _⟩ | ⟨g, cap, cur, rfl, _, hh, _⟩
  · exact nomatch hk
  · cases hk; exact ⟨_, hh, rfl⟩
theorem At.grown {L0 L : List Part} {w0 W W' : World} {row : Option Nat} (h : At L0 w0 L W) (hg : W.grownBy W' row) (hr : ∀ r, row = some r → w0.heap.size ≤ r ∧ ¬ footL L r) : At L0 w0 L W' :=
  ⟨h.sep.same (fun b ⟨A, hA, hb⟩ => hg.block b (h.sep.lt hA hb) (fun e => (hr b e.symm).2 ⟨A, hA, hb⟩)), h.foot,
    h.exc.trans' (T := fun k => row = some k) (exc_grown hg) (fun b _ hb => .inr (hr b hb).1)⟩
/-- the law's book-keeping, and the iterator's writes -/
theorem At.ownB {L0 L G : List Part} {w0 W W' : World} {row : Option Nat} {Bs B : Nat} (h : At L0 w0 L W) (s : Sel (Part.hole Bs) L G) (hc : ∀ A ∈ L, A.Cl) (hB : w0.heap.size ≤ B) (hg : W.grownBy W' row)
    (hr : ∀ r, row = some r → (r = Bs ∧ ∃ o : Obj, W'.heap[r]? = some o ∧ o.isCells = true) ∨ (B ≤ r ∧ ∃ o : Obj, W.heap[r]? = some o ∧ o.isCells = false)) : At L0 w0 (Part.hole Bs :: G) W' := by
  cases row with
  | none => exact (h.grown hg (fun r e => by cases e)).take s
  | some r =>
    rcases hr r rfl with ⟨rfl, ho⟩ | ⟨h1, o, ho, hoc⟩
    · exact h.turn s (Part.hole r) ho (fun _ e => .inl e) ((exc_grown hg).mono (fun b _ e => by cases e; rfl))
    · refine (h.grown hg (fun q e => ?_)).take s
      cases e
      refine ⟨by omega, fun ⟨A, hA, hb⟩ => ?_⟩
      obtain ⟨o', ho', hoc'⟩ := hc A hA W (h.sep.get hA) r hb
      rw [ho] at ho'
      cases ho'
      rw [hoc] at hoc'
      cases hoc'
/-- what a body keeps, behind a walk from parts of cells alone -/
theorem At.keepsFrom {L0 L : List Part} {W W' : World} (h : At L0 W L W') (hs : Sep L0 W) (hc : ∀ A ∈ L0, A.Cl) (B : Nat) : KeepsFrom B W W' :=
  ⟨h.size, fun k o _ hk ho => (h.exc.block k (lt_of_some hk) (fun ⟨A, hA, hb⟩ => by
    obtain ⟨o', ho', hoc'⟩ := hc A hA W (hs.get hA) k hb
    rw [hk] at ho'
    cases ho'
    rw [ho] at hoc'
    cases hoc')).trans hk⟩
end Go.Proofs.YtpbeennielgogaaDoor
