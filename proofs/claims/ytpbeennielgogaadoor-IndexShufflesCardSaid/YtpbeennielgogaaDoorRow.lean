/- Rows of one's own (slices of structs), as parts: opened, shut, appended to, cut. No program in sight. -/
import Derived.Test.YtpbeennielgogaaDoorBase4
import Derived.Test.YtpbeennielgogaaDoorSepW
namespace Go.Proofs.YtpbeennielgogaaDoor
open Go.RowKit
set_option linter.unusedVariables false
set_option linter.unusedSimpArgs false

/-- a slice that owns its row -/
def Part.row (e : TypeId) (size : Nat) (v : Value) (n : Nat) (xs : List Value) : Part where
  holds w := w.ownsRow 0 e size v n xs
  foot b := v.ownBlock = some b
  lt := fun w h b hb => by
    rcases h.2 with ⟨rfl, _⟩ | ⟨g, cap, cur, rfl, _, hh, _⟩
    · exact nomatch hb
    · cases hb
      exact lt_of_some hh
  stay := fun w w' h q => by
    rcases h.2 with h2 | ⟨g, cap, cur, hv, hg, hh, r⟩
    · exact ⟨h.1, .inl h2⟩
    · exact ⟨h.1, .inr ⟨g, cap, cur, hv, hg, (q g (by rw [hv]; rfl)).trans hh, r⟩⟩
theorem facts_row (e : TypeId) (size : Nat) (v : Value) (n : Nat) (xs : List Value) (w : World) : (Part.row e size v n xs).facts w = True := rfl
theorem exc_grown {w w' : World} {row : Option Nat} (h : w.grownBy w' row) : Exc (fun k => row = some k) w w' := by
  obtain ⟨h1, h2, h3, h4, h5⟩ := h
  exact ⟨h1, h2, h3, h4, fun k hk hn => h5 k hk (fun e => hn e.symm)⟩

section
variable {P : Program} {ops : Array Oper} {rest : List Oper} {o : Oper} {a : Act} {Q : Exit → Act → World → Prop} {L0 L F : List Part} {w0 w : World} {e : TypeId} {size n : Nat} {v : Value} {xs : List Value}

theorem At.row_form (h : At L0 w0 L w) (s : Sel (Part.row e size v n xs) L F) : ∃ ax cap, v = .slice ax n cap ∧ (ax = none → n = 0) ∧ n ≤ cap ∧ xs.length = n * size := by
  have hr : w.ownsRow 0 e size v n xs := h.get s
  rcases hr.2 with ⟨rfl, rfl⟩ | ⟨g, cap, cur, rfl, _, _, hc, _⟩
  · exact ⟨none, 0, rfl, fun _ => rfl, Nat.le_refl _, hr.1⟩
  · exact ⟨_, cap, rfl, nofun, hc, hr.1⟩
theorem At.row_open {ax : Option Addr} {cap : Nat} (h : At L0 w0 L w) (s : Sel (Part.row e size (.slice ax n cap) n xs) L F) (hn : 0 < n) :
    ∃ g c, ax = some ⟨g, 0, none⟩ ∧ n ≤ cap ∧ cap ≤ maxLen ∧ c.length = cap * size ∧ c.take (n * size) = xs ∧ At L0 w0 (Part.cells g c e :: F) w := by
  have hr : w.ownsRow 0 e size (.slice ax n cap) n xs := h.get s
  rcases hr.2 with ⟨hv, rfl⟩ | ⟨g, cap', cur, hv, _, hh, hc, hm, hs, ht⟩
  · omega
  · cases hv
    exact ⟨g, cur.toList, rfl, hc, hm, by simpa using hs, ht, h.turn s (Part.cells g cur.toList e) (show BlockIs w g _ e from (by unfold BlockIs; simpa using hh)) (fun b hb => .inl (by cases hb; rfl)) (Exc.refl _ _)⟩
theorem At.row_shut {g cap : Nat} {c : List Value} (h : At L0 w0 L w) (s : Sel (Part.cells g c e) L F) (hl : c.length = cap * size) (hn : n ≤ cap) (hm : cap ≤ maxLen) (ht : c.take (n * size) = xs) :
    At L0 w0 (Part.row e size (.slice (some ⟨g, 0, none⟩) n cap) n xs :: F) w := by
  subst ht
  exact h.turn s (Part.row e size (.slice (some ⟨g, 0, none⟩) n cap) n (c.take (n * size))) (own_of (h.get s : BlockIs w g c e) hl hn hm) (fun b hb => .inl (by simp [Part.row, Value.ownBlock] at hb; exact hb.symm)) (Exc.refl _ _)
theorem At.row_nil (h : At L0 w0 L w) (e : TypeId) (size : Nat) : At L0 w0 (Part.row e size (.slice none 0 0) 0 [] :: L) w :=
  h.new (Ext.refl w) _ ⟨by simp, .inl ⟨rfl, rfl⟩⟩ (fun b hb => nomatch hb)
theorem At.row_new {w' : World} (h : At L0 w0 L w) (hx : Ext w w') (ho : w'.ownsRow w.heap.size e size v n xs) : At L0 w0 (Part.row e size v n xs :: L) w' :=
  h.new hx _ (own_base ho (Nat.zero_le _)) (fun b hb => own_ge ho b hb)
theorem At.row_reads (h : At L0 w0 L w) (s : Sel (Part.row e size v n xs) L F) : Reads w v n xs := own_reads (h.get s : w.ownsRow 0 e size v n xs)
theorem At.cells_reads {b : Nat} {c : List Value} {T : TypeId} (h : At L0 w0 L w) (s : Sel (Part.cells b c T) L F) (m cap : Nat) : Reads w (.slice (some ⟨b, 0, none⟩) m cap) m c :=
  ⟨_, _, rfl, nofun, fun j u hj => ⟨b, 0, rfl, by rw [Nat.zero_add]; exact ((h.get s : BlockIs w b c T).cell j).trans hj⟩⟩
/-- a row of rows of cells, taken by cells -/
theorem flat_at {α : Type} (enc : α → List Value) (size : Nat) (hs : ∀ x, (enc x).length = size) : ∀ (l : List α) (k : Nat) (x : α), l[k]? = some x → ∀ j, j < size → (l.flatMap enc)[k * size + j]? = (enc x)[j]?
  | y :: l, 0, x, hx, j, hj => by
    simp at hx; subst hx
    rw [List.flatMap_cons, Nat.zero_mul, Nat.zero_add, List.getElem?_append_left (by rw [hs]; exact hj)]
  | y :: l, k + 1, x, hx, j, hj => by
    rw [List.flatMap_cons, List.getElem?_append_right (by rw [hs, Nat.add_mul]; omega), hs, show (k + 1) * size + j - size = k * size + j by rw [Nat.add_mul]; omega]
    exact flat_at enc size hs l k x (by simpa using hx) j hj
  | [], k, x, hx, j, hj => by simp at hx
theorem flat_len {α : Type} (enc : α → List Value) (size : Nat) (hs : ∀ x, (enc x).length = size) : ∀ (l : List α), (l.flatMap enc).length = l.length * size
  | [] => by simp
  | x :: l => by rw [List.flatMap_cons, List.length_append, flat_len enc size hs l, hs, List.length_cons, Nat.add_mul]; omega
theorem cells_at {α : Type} {enc : α → List Value} {size : Nat} (hs : ∀ x, (enc x).length = size) {c : List Value} {l : List α} (ht : c.take (l.length * size) = l.flatMap enc) {k : Nat} {x : α} (hx : l[k]? = some x) (j : Nat) (hj : j < size) : c[k * size + j]? = (enc x)[j]? := by
  rw [← flat_at enc size hs l k x hx j hj, ← ht, List.getElem?_take_of_lt]
  have := (List.getElem?_eq_some_iff.1 hx).1
  calc k * size + j < k * size + size := by omega
    _ = (k + 1) * size := by rw [Nat.add_mul]; omega
    _ ≤ _ := Nat.mul_le_mul_right _ this

/-- append of a row that is read -/
theorem wpList_append_at {i : TypeInfo} {z : Value} {bytes : Nat} (hg : o.guard = none) (s' x : Operand) (t : TypeId) (ho : o.op = .call { callee := .builtin .append, args := #[s', x], argTypes := #[t, t] })
    (ht : P.underlying t = some (.slice e)) (hi : P.info? e = some i) (hz : i.zero = some z) (hsize : i.size = size) (hby : i.bytes = bytes) (hzs : z.cells.size = size) (hsz : 0 < size)
    (h : At L0 w0 L w) (s : Sel (Part.row e size v n xs) L F) (hs : a.eval s' = v) {xv : Value} {m : Nat} {news : List Value} (hxv : a.eval x = xv) (hl : news.length = m * size) (hx : Reads w xv m news) (h1 : ∀ u ∈ news, u.oneCell' = true)
    (h63 : n + m ≤ maxLen) (hbytes : (n + m) * bytes ≤ 140737488355328)
    (hK : ∀ v' w', At L0 w0 (Part.row e size v' (n + m) (xs ++ news) :: F) w' → wpList P ops Q rest (a.put o.dst v') w') : wpList P ops Q (o :: rest) a w :=
  wpList_append_all w hg s' x t ho 0 e i z size bytes ht hi hz hsize hby hzs hsz v n xs hs (h.get s) xv m news hxv hl hx h1 h63 hbytes (Nat.zero_le _) fun v' w' h2 h3 h4 =>
    hK v' w' (h.turn s _ h2 (fun b hb => by
      rcases h4 with h4 | h4
      · exact .inl (show v.ownBlock = some b from by rw [← h4]; exact hb)
      · right
        have hb' : v'.ownBlock = some b := hb
        rw [h4] at hb'
        cases hb'
        exact Nat.le_refl _) (exc_grown h3))
/-- a row of one element is laid -/
theorem wpList_one_at {t : TypeId} {x : Operand} (hg : o.guard = none) (hop : o.op = .buildSlice t 1 #[(0, x)]) {xv : Value} (hx : a.eval x = xv) {vs : List Value}
    (hrun : ∀ w, (Instr.buildSlice t 1 #[(0, xv)]).run P w = .ok (.slice (some ⟨w.heap.size, 0, none⟩) 1 1) (w.alloc (.cells vs.toArray e)))
    (h : At L0 w0 L w)
    (hK : ∀ b w', At L0 w0 (Part.cells b vs e :: L) w' → w0.heap.size ≤ b → wpList P ops Q rest (a.put o.dst (.slice (some ⟨b, 0, none⟩) 1 1)) w') : wpList P ops Q (o :: rest) a w := by
  refine wpList_val hg ?_ (hK _ _ (h.alloc vs e) h.size)
  simp [execOp, hop, hx, hrun, Result.andThen]
end
end Go.Proofs.YtpbeennielgogaaDoor
