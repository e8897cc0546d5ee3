/- MapW, joined. -/
import Derived.Test.YtgbpfgdjnhbcgaaGreatDoorQ1
set_option linter.unusedSimpArgs false
set_option linter.unusedVariables false
set_option maxRecDepth 100000
set_option maxHeartbeats 16000000
section
namespace Go.Proofs.YtgbpfgdjnhbcgaaGreatDoor
open Go.RowKit
open Go.Maps (Keyed)
section
variable {P : Program} {k : TypeId} {w : World} {b : Nat} {es : List (Value × Value)}
theorem MapAt.run_len (h : MapAt P k w b es) {t e : TypeId} (ht : P.underlying t = some (.map k e)) (ty : TypeId) : (Builtin.len_ #[t] ty #[.map (some b)]).run P w = .ok (.int .i64 es.length) w := by
 obtain ⟨ents, clock, hb, hl⟩ := h.len
 simp [Builtin.len_, run_underlying ht, MapKept.run_getObj_map hb, Result.andThen, goInt, hl]
variable {ops : Array Oper} {rest : List Oper} {o : Oper} {a : Act} {Q : Exit → Act → World → Prop} {L0 L F : List Part} {w0 : World}
theorem wpList_len_map_at {t : TypeId} {m : Operand} (hg : o.guard = none) (hop : o.op = Op.call { callee := Callee.builtin Builtin.len, args := #[m], argTypes := #[t] }) (hm : a.eval m = .map (some b))
 (h : At L0 w0 L w) (s : Sel (Part.map P k b es) L F) {e : TypeId} (ht : P.underlying t = some (.map k e))
 (hK : wpList P ops Q rest (a.put o.dst (.int .i64 es.length)) w) : wpList P ops Q (o :: rest) a w := by
 have hM : MapAt P k w b es := h.get s
 refine wpList_val hg ?_ hK
 simp [execOp, hop, resolve, invoke, builtin, hm, hM.run_len ht o.type, Result.andThen]
theorem wpList_put_new_at {t : TypeId} {m x y : Operand} (hg : o.guard = none) (hop : o.op = .mapUpdate t m x y) (hm : a.eval m = .map (some b)) {key val : Value} (hx : a.eval x = key) (hy : a.eval y = val)
 (h : At L0 w0 L w) (s : Sel (Part.map P k b es) L F) {e : TypeId} (K : Keyed P k) (ht : P.underlying t = some (.map k e)) {kl : Lit} (hk : keyOf P k key = some kl) (hn : ∀ p ∈ es, p.1 ≠ key)
 (hK : ∀ w', At L0 w0 (Part.map P k b (es ++ [(key, val)]) :: F) w' → wpList P ops Q rest (a.put o.dst undef) w') : wpList P ops Q (o :: rest) a w := by
 have hM : MapAt P k w b es := h.get s
 obtain ⟨w', h1, h2, h3⟩ := hM.put_new K ht hk hn val
 refine wpList_unit hg ?_ (hK w' (h.turn s _ h2 (fun _ e => .inl e) h3))
 simp [execOp, hop, hm, hx, hy, h1, Result.andThen]
theorem wpList_put_there_at {t : TypeId} {m x y : Operand} (hg : o.guard = none) (hop : o.op = .mapUpdate t m x y) (hm : a.eval m = .map (some b)) {key val u : Value} {l1 l2 : List (Value × Value)} (hx : a.eval x = key) (hy : a.eval y = val)
 (h : At L0 w0 L w) (s : Sel (Part.map P k b (l1 ++ (key, u) :: l2)) L F) {e : TypeId} (K : Keyed P k) (ht : P.underlying t = some (.map k e)) {kl : Lit} (hk : keyOf P k key = some kl)
 (hK : ∀ w', At L0 w0 (Part.map P k b (l1 ++ (key, val) :: l2) :: F) w' → wpList P ops Q rest (a.put o.dst undef) w') : wpList P ops Q (o :: rest) a w := by
 have hM : MapAt P k w b (l1 ++ (key, u) :: l2) := h.get s
 obtain ⟨w', h1, h2, h3⟩ := hM.put_there K ht hk val
 refine wpList_unit hg ?_ (hK w' (h.turn s _ h2 (fun _ e => .inl e) h3))
 simp [execOp, hop, hm, hx, hy, h1, Result.andThen]
theorem wpList_makeMap_at {t : TypeId} (P : Program) (k : TypeId) (hg : o.guard = none) (hop : o.op = .makeMap t none) (h : At L0 w0 L w)
 (hK : ∀ b w', At L0 w0 (Part.map P k b [] :: L) w' → w0.heap.size ≤ b → wpList P ops Q rest (a.put o.dst (.map (some b))) w') : wpList P ops Q (o :: rest) a w := by
 refine wpList_val hg ?_ (hK _ _ (h.new ((Ext.refl w).alloc (.map #[] 0)) _ (MapAt.made P k w) (fun _ e => by cases e; exact Nat.le_refl _)) h.size)
 simp [execOp, hop, run_makeMap, Result.andThen]
theorem wpList_range_at {t : TypeId} {m : Operand} (hg : o.guard = none) (hop : o.op = .range t m) (hm : a.eval m = .map (some b)) (h : At L0 w0 L w) (s : Sel (Part.map P k b es) L F) {e : TypeId} (ht : P.underlying t = some (.map k e))
 (hK : ∀ r w', At L0 w0 (Part.iter P k r b es [] :: F) w' → w0.heap.size ≤ r → wpList P ops Q rest (a.put o.dst (.pointer (some ⟨r, 0, none⟩))) w') : wpList P ops Q (o :: rest) a w := by
 have hM : MapAt P k w b es := h.get s
 obtain ⟨w', h1, h2, h3⟩ := hM |> fun q => IterAt.start q ht
 refine wpList_val hg ?_ (hK _ w' (h.turn s (Part.iter P k w.heap.size b es []) h3 (fun q e => ?_) (h2.exc _)) h.size)
 · simp [execOp, hop, hm, h1, Result.andThen]
 · rcases e with e | e
   · exact .inl e
   · exact .inr (by omega)
theorem wpList_next_at {r : Nat} {done : List (Value × Value)} {it : Operand} (hg : o.guard = none) (hop : o.op = .next it false) (hi : a.eval it = .pointer (some ⟨r, 0, none⟩)) (h : At L0 w0 L w) (s : Sel (Part.iter P k r b es done) L F)
 (hEnd : es.Perm done → wpList P ops Q rest (a.put o.dst (.tuple #[.bool false])) w)
 (hK : ∀ p w', p ∈ es → (∀ q ∈ done, q.1 ≠ p.1) → At L0 w0 (Part.iter P k r b es (done ++ [p]) :: F) w' → wpList P ops Q rest (a.put o.dst (.tuple #[.bool true, p.1, p.2])) w') : wpList P ops Q (o :: rest) a w := by
 have hI : IterAt P k w r b es done := h.get s
 rcases hI.next o.type with ⟨h1, h2⟩ | ⟨p, w', h1, h2, h3, h4, h5⟩
 · refine wpList_val hg ?_ (hEnd h1)
   simp [execOp, hop, hi, h2, Result.andThen]
 · refine wpList_val hg ?_ (hK p w' h1 h2 (h.turn s (Part.iter P k r b es (done ++ [p])) h4 (fun q e => .inl e) (h5.mono (fun _ _ e => .inr e))))
   simp [execOp, hop, hi, h3, Result.andThen]
theorem At.ranged {r : Nat} {done : List (Value × Value)} (h : At L0 w0 L w) (s : Sel (Part.iter P k r b es done) L F) : At L0 w0 (Part.map P k b es :: F) w := by
 have hI : IterAt P k w r b es done := h.get s
 exact h.turn s (Part.map P k b es) hI.1 (fun _ e => .inl (.inl e)) (Exc.refl _ _)
end
end Go.Proofs.YtgbpfgdjnhbcgaaGreatDoor
end
