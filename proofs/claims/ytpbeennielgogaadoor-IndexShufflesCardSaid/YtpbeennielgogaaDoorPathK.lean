/- The walks of path.Normal, Right, Above, Overlap. -/
import Derived.Test.YtpbeennielgogaaDoorPathJ
namespace Go.Proofs.YtpbeennielgogaaDoor.Path
open Go.RowKit
set_option linter.unusedSimpArgs false
set_option linter.unusedVariables false

theorem walk_mem : ∀ {l acc a : List Bs}, walkL acc l = some a → ∀ q ∈ a, q ∈ acc ∨ q ∈ l
  | [], acc, a, h, q, hq => by simp [walkL] at h; subst h; exact .inl hq
  | p :: r, acc, a, h, q, hq => by
    rw [walkL] at h
    cases hs : stepW acc p with
    | none => simp [hs] at h
    | some b =>
      simp only [hs] at h
      rcases walk_mem h q hq with h1 | h1
      · unfold stepW at hs
        split at hs
        · cases hs; exact .inl h1
        · split at hs
          · split at hs
            · cases hs
            · cases hs; exact .inl (List.dropLast_subset _ h1)
          · split at hs
            · cases hs
              rcases List.mem_append.1 h1 with h1 | h1
              · exact .inl h1
              · rw [List.mem_singleton.1 h1]; exact .inr (by simp)
            · cases hs
      · exact .inr (by simp [h1])
theorem splits_mem_len : ∀ (s : Bs), ∀ q ∈ splits s, q.length ≤ s.length
  | [], q, hq => by simp [splits] at hq; subst hq; simp
  | c :: r, q, hq => by
    have ih := splits_mem_len r
    rw [splits_cons] at hq
    split at hq
    · rcases List.mem_cons.1 hq with rfl | hq
      · simp
      · have := ih q hq; simp; omega
    · cases hs : splits r with
      | nil => exact absurd hs (splits_ne r)
      | cons a b =>
        rw [hs] at hq ih
        simp only [List.headD_cons, List.tail_cons] at hq
        rcases List.mem_cons.1 hq with rfl | hq
        · have := ih a (by simp); simp; omega
        · have := ih q (by simp [hq]); simp; omega
theorem join_len : ∀ (l : List Bs) (m : Nat), (∀ q ∈ l, q.length ≤ m) → (joinS l).length ≤ l.length * (m + 1)
  | [], m, _ => by simp [joinS, Lib.join]
  | [p], m, h => by rw [join_one]; have := h p (by simp); simp; omega
  | p :: q :: r, m, h => by
    rw [join_cons _ _ (by simp)]
    have ih := join_len (q :: r) m (fun x hx => h x (by simp [hx]))
    have := h p (by simp)
    simp only [List.length_append, List.length_cons] at ih ⊢
    have e : (r.length + 1 + 1) * (m + 1) = (r.length + 1) * (m + 1) + (m + 1) := by rw [Nat.add_mul (r.length + 1)]; omega
    omega
theorem join_walk_len {s : Bs} {l : List Bs} (h : walkL [] (splits s) = some l) : (joinS l).length ≤ l.length * (s.length + 1) :=
  join_len l s.length (fun q hq => by
    rcases walk_mem h q hq with h1 | h1
    · simp at h1
    · exact splits_mem_len s q h1)
theorem flatS_at {c : List Value} {ws : List ByteArray} (ht : c.take (ws.length * 1) = flatS ws) {j : Nat} {x : ByteArray} (hx : ws[j]? = some x) : c[j]? = some (.string x) := by
  have := cells_at strC_len (enc := strC) ht hx 0 (by omega)
  simpa [strC] using this

def NormPost (s : ByteArray) (w : World) (e : Ending) (w' : World) : Prop :=
  ∃ q : ByteArray, e = .returned (.tuple #[.string q, .int .i64 (normL (bl s)).2]) ∧ bl q = (normL (bl s)).1 ∧ Ext w w'
set_option maxRecDepth 100000 in
theorem normal_any (s : ByteArray) (w : World) (hs : s.size ≤ 2000000) : Calls Tryd.prog 38 #[.string s] w (NormPost s w) := by
  have hA := At.start (w0 := w) (L0 := []) trivial
  have hF := hA.facts
  go_enter Tryd.func38, Tryd.ntmps38
  go_wp2_with fail
  refine (walk_any s w hs).mono ?_
  rintro e w1 ⟨v, ws, rfl, hT, hres, hlen⟩
  have hB := hA.call0 hT
  clear hF hA hT
  have hA := hB
  clear hB
  simp only [List.append_nil] at hA
  obtain ⟨ax, cap, hv, hax0, hcap0, _⟩ := hA.row_form (v := v) (n := ws.length) (xs := flatS ws) (by with_reducible repeat (first | exact Sel.here | apply Sel.there))
  subst hv
  have hcap := Lib.hid hcap0
  clear hax0 hcap0
  have hn : normL (bl s) = (match walkL [] (splits (bl s)) with
    | none => ([], 30)
    | some l => if l = [] then ([], 13) else if 8 < l.length then ([], 31) else if 64 < (joinS l).length then ([], 11) else (joinS l, 0)) := rfl
  rcases hres with hre | ⟨hre, hw0⟩
  · rw [hre] at hn
    simp only at hn
    have hjl := join_walk_len hre
    rw [hre]
    simp only [walkRes]
    simp only [List.length_map] at hjl hn
    by_cases e1 : ws = []
    · subst e1
      simp only [List.map_nil, if_pos] at hn
      have hn' := Lib.hid hn
      clear hn hre hjl hlen hcap
      (try simp only [uA] at hA); have hF := hA.facts; (try simp only [fA, facts_row, and_true, true_and] at hF)
      go_wp2_with fail
      go_ret2
      exact ⟨⟨#[]⟩, by rw [hn'.out]; rfl, by rw [hn'.out], hA.toExt⟩
    · rw [if_neg (by simpa using e1)] at hn
      have hl0 : ((ws.length : Int) == 0) = false := by simpa using e1
      by_cases e2 : 8 < ws.length
      · rw [if_pos e2] at hn
        have hn' := Lib.hid hn
        clear hn hre hjl hlen hcap e1
        (try simp only [uA] at hA); have hF := hA.facts; (try simp only [fA, facts_row, and_true, true_and] at hF)
        go_wp2_with fail
        go_ret2
        exact ⟨⟨#[]⟩, by rw [hn'.out]; rfl, by rw [hn'.out], hA.toExt⟩
      · rw [if_neg e2] at hn
        have hl1 : 0 < ws.length := List.length_pos_iff.2 e1
        obtain ⟨g, c, hax, _, hcm, hcl, hct, hB⟩ := hA.row_open (ax := ax) (cap := cap) (n := ws.length) (xs := flatS ws) (by with_reducible repeat (first | exact Sel.here | apply Sel.there)) hl1
        subst hax
        have hj : (Lib.join (ws.map (·.data.toList)) [47]).length ≤ 140737488355328 := by
          have h1 : (joinS (ws.map bl)).length ≤ ws.length * (s.size + 1) := by simpa using hjl
          have h2 : ws.length * (s.size + 1) ≤ 8 * 2000001 := Nat.mul_le_mul (by omega) (by omega)
          have h3 : (Lib.join (ws.map (·.data.toList)) [47]).length = (joinS (ws.map bl)).length := rfl
          omega
        have hcl' : g < w1.heap.size := (hB.get (A := Part.cells g c 9) (by with_reducible repeat (first | exact Sel.here | apply Sel.there)) : BlockIs w1 g c _).lt
        have hjoin := Tryd.strings_Join g 0 cap ws ⟨#[47]⟩ w1 (fun j x hx => by
          rw [Nat.zero_add]
          exact ((hB.get (A := Part.cells g c 9) (by with_reducible repeat (first | exact Sel.here | apply Sel.there)) : BlockIs w1 g c _).cell j).trans (flatS_at hct hx)) hcl' (by omega) hcap.out hj
        clear hA
        have hA := hB
        have hext : Ext w w1 := hA.toExt
        clear hB hre hlen e1
        have hn' := Lib.hid hn
        have hct' := Lib.hid hct
        have hcl2 := Lib.hid hcl
        clear hn hct hcl hjl hj
        go_wp2_with fail
        refine hjoin.mono ?_
        clear hjoin
        rintro e w2 ⟨rfl, hb⟩
        have hext2 := hext.trans hb
        clear hb hext hA
        obtain ⟨jn, hjn⟩ : ∃ q : ByteArray, (⟨(Lib.join (ws.map (·.data.toList)) [47]).toArray⟩ : ByteArray) = q := ⟨_, rfl⟩
        have hjb : joinS (ws.map bl) = bl jn := by rw [← hjn]; rfl
        have hjs : (joinS (ws.map bl)).length = jn.size := by rw [hjb]; simp
        have hjb' := Lib.hid hjb
        have hn2 := hn'.out
        rw [hjs] at hn2
        rw [hjn]
        clear hjn hjb hjs hn' hct' hcl2
        by_cases e3 : 64 < jn.size
        · rw [if_pos e3] at hn2
          have hn3 := Lib.hid hn2
          clear hn2
          go_wp2_with fail
          go_ret2
          exact ⟨⟨#[]⟩, by rw [hn3.out]; rfl, by rw [hn3.out], hext2⟩
        · rw [if_neg e3] at hn2
          have hn3 := Lib.hid hn2
          clear hn2
          go_wp2_with fail
          go_ret2
          exact ⟨jn, by rw [hn3.out]; rfl, by rw [hn3.out]; exact hjb'.out.symm, hext2⟩
  · rw [hre] at hn
    simp only at hn
    subst hw0
    rw [hre]
    simp only [walkRes]
    have hn' := Lib.hid hn
    clear hn hre hlen hcap
    (try simp only [uA] at hA); have hF := hA.facts; (try simp only [fA, facts_row, and_true, true_and] at hF)
    go_wp2_with fail
    go_ret2
    exact ⟨⟨#[]⟩, by rw [hn'.out]; rfl, by rw [hn'.out], hA.toExt⟩
end Go.Proofs.YtpbeennielgogaaDoor.Path
