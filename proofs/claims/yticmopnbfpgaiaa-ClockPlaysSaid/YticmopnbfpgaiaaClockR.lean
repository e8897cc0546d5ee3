/- A clock: Ripe. -/
import Derived.Test.YticmopnbfpgaiaaClockK
import Derived.Test.YticmopnbfpgaiaaRow3
namespace Go.Proofs.Yticmopnbfpgaiaa.Clk
open Go.RowKit
open Go.Maps (Keyed)
open _root_.Go.Proofs.Yticmopnbfpgaiaa.Mark (idV idL ltID sortID idL_len sort_len idL_one)
set_option linter.unusedSimpArgs false
set_option linter.unusedVariables false
attribute [-go_sem] run_eql_struct run_neq_struct run_eqGuard_agg
attribute [local go_sem] guardM eqlM neqM guardR eqlR neqR

/-- what the closure of Ripe looks at -/
abbrev cloL (p b : Nat) (now : Int) (mp : List WR) (bp bw : Nat) (wait : Int) : List Part := [.cells bp [.pointer (some ⟨p, 0, none⟩)] 46, .cells bw [.int .i64 wait] 3, clkH p b now, mapC b mp]
def cloP (p b : Nat) (now : Int) (mp : List WR) (bp bw : Nat) (wait : Int) : Part := .all (cloL p b now mp bp bw wait)
def young (mp : List WR) (now wait : Int) (x : I2) : Bool := decide (now - sinceL mp x < wait)
/-- every entry since a time that was -/
def Past (mp : List WR) (now : Int) : Prop := ∀ x ∈ mp, okI x.1 ∧ 0 ≤ x.2 ∧ x.2 ≤ now
theorem since_of {mp : List WR} (hp : (ents mp).Pairwise (fun p q => p.1 ≠ q.1)) {x : WR} (hx : x ∈ mp) : sinceL mp x.1 = x.2 := by
  unfold sinceL
  cases hf : mp.find? (fun y => y.1 == x.1) with
  | none =>
    have := List.find?_eq_none.1 hf x hx
    simp at this
  | some y =>
    have hy := List.mem_of_find?_eq_some hf
    have he : y.1 = x.1 := by simpa using List.find?_some hf
    obtain ⟨i, hi⟩ := List.mem_iff_getElem?.1 hy
    obtain ⟨j, hj⟩ := List.mem_iff_getElem?.1 hx
    have g1 : (ents mp)[i]? = some (ent y) := by simp [ents, hi]
    have g2 : (ents mp)[j]? = some (ent x) := by simp [ents, hj]
    have := apart_of hp g1 g2 (by simp only [ent, he])
    subst this
    rw [hi] at hj
    rw [Option.some.inj hj]
set_option maxRecDepth 100000 in
theorem ripe1_any {w : World} {p b bp bw : Nat} {now wait : Int} {mp : List WR} (h : Sep [cloP p b now mp bp bw wait] w) (hpast : Past mp now) (hn : now < 1099511627777) {id : I2} (hm : ∃ t, (id, t) ∈ mp) :
    Calls Try.prog 107 #[.agg #[.int .i64 id.1, .int .i64 id.2], .pointer (some ⟨bp, 0, none⟩), .pointer (some ⟨bw, 0, none⟩)] w fun e w' => e = .returned (.bool (young mp now wait id)) ∧ At [cloP p b now mp bp bw wait] w [cloP p b now mp bp bw wait] w' := by
  obtain ⟨t, hm⟩ := hm
  have hA : At [cloP p b now mp bp bw wait] w (cloL p b now mp bp bw wait) w := (At.start h).unfold (F := [])
  have hM : MapAt Try.prog 50 w b (ents mp) := hA.get (A := mapC b mp) (by with_reducible repeat (first | exact Sel.here | apply Sel.there))
  have hs : sinceL mp id = t := since_of hM.keys hm
  obtain ⟨hok, h0, h1⟩ := hpast _ hm
  obtain ⟨kl, hk⟩ := keyI hok
  have hmem : (Value.agg #[.int .i64 id.1, .int .i64 id.2], Value.int .i64 t) ∈ ents mp := List.mem_map.2 ⟨(id, t), hm, rfl⟩
  have hmem := Lib.hid hmem
  have hF := hA.facts
  (try simp only [setL, List.set_cons_zero, List.set_cons_succ, List.cons_append, List.nil_append] at hA); (have hF := hA.facts); (try simp only [facts_cons, facts_nil, facts_cells, facts_old, facts_fact, facts_obj, facts_map, facts_iter, and_true, true_and] at hF)
  simp only at h0 h1 hok hk
  clear h hM hm hpast
  unfold young
  rw [hs]
  clear hs
  go_enter Try.func107, Try.ntmps107
  go_wp2_with (first | (refine wpList_store_at rfl rfl rfl (by (try simp only [Act.eval, Array.getD_eq_getD_getElem?, List.getElem?_toArray, List.getElem?_cons_succ, List.getElem?_cons_zero, Option.getD_some]) <;> exact rfl) (by exact rfl) hA (by with_reducible repeat (first | exact Sel.here | apply Sel.there)) (by kernel_rfl) rfl (by first | decide | (simp; done) | omega) ?_; intro w1 hB; clear hF hA; have hA := hB; clear hB; (try simp only [setL, List.set_cons_zero, List.set_cons_succ, List.cons_append, List.nil_append] at hA); (have hF := hA.facts); (try simp only [facts_cons, facts_nil, facts_cells, facts_old, facts_fact, facts_obj, facts_map, facts_iter, and_true, true_and] at hF)) | (refine wpList_box_at rfl rfl (by (try simp only [Act.eval, Array.getD_eq_getD_getElem?, List.getElem?_toArray, List.getElem?_cons_succ, List.getElem?_cons_zero, Option.getD_some]) <;> exact rfl) (by exact rfl) hA ?_; intro b1 w1 hB hb1; clear hF hA; have hA := hB; clear hB; (try simp only [setL, List.set_cons_zero, List.set_cons_succ, List.cons_append, List.nil_append] at hA); (have hF := hA.facts); (try simp only [facts_cons, facts_nil, facts_cells, facts_old, facts_fact, facts_obj, facts_map, facts_iter, and_true, true_and] at hF)))
  have hl : ∀ q, (Instr.lookup 147 (.map (some b)) (.agg #[.int .i64 id.1, .int .i64 id.2]) false).run Try.prog (w1.drewN q) = .ok (.int .i64 t) (w1.drewN q) := fun q =>
    MapAt.look_some (w := w1.drewN q) ((hA.drewN q).get (A := mapC b mp) (by with_reducible repeat (first | exact Sel.here | apply Sel.there))) lawI Try.underlying147 hk hmem.out false
  go_quiet (fail)
  have hA := hA.drewN nq; generalize World.drewN _ nq = w1 at *; clear hF; (try simp only [setL, List.set_cons_zero, List.set_cons_succ, List.cons_append, List.nil_append] at hA); (have hF := hA.facts); (try simp only [facts_cons, facts_nil, facts_cells, facts_old, facts_fact, facts_obj, facts_map, facts_iter, and_true, true_and] at hF)
  go_wp2_with fail
  go_ret
  exact ⟨rfl, (hA.only4 (B := .cells bw [.int .i64 wait] 3) (C := clkH p b now) (D := mapC b mp) (by with_reducible repeat (first | exact Sel.here | apply Sel.there)) (by with_reducible repeat (first | exact Sel.here | apply Sel.there)) (by with_reducible repeat (first | exact Sel.here | apply Sel.there)) (by with_reducible repeat (first | exact Sel.here | apply Sel.there))).fold (F := [])⟩
theorem ripe1_c {w : World} {p b bp bw : Nat} {now wait : Int} {mp : List WR} (h : Sep [cloP p b now mp bp bw wait] w) (hpast : Past mp now) (hn : now < 1099511627777) {id : I2} (hm : ∃ t, (id, t) ∈ mp) {c : Bool} (hc : young mp now wait id = c) :
    Calls Try.prog 107 #[.agg #[.int .i64 id.1, .int .i64 id.2], .pointer (some ⟨bp, 0, none⟩), .pointer (some ⟨bw, 0, none⟩)] w fun e w' => e = .returned (.bool c) ∧ At [cloP p b now mp bp bw wait] w [cloP p b now mp bp bw wait] w' := by
  subst hc; exact ripe1_any h hpast hn hm
def IdxFRel (w : World) (v : Value) (l : List I2) (E : Part) (f : I2 → Bool) (k : Nat) (u : Value) (wr : World) : Prop :=
  ∃ i : Nat, u = .int .i64 i ∧ i + k = l.length ∧ At [rowI v l, E] w [rowI v l, E] wr ∧ ∀ x ∈ l.take i, f x = false
def IdxFPost (w : World) (v : Value) (l : List I2) (E : Part) (f : I2 → Bool) (e : Ending) (w' : World) : Prop :=
  ((∃ i : Nat, e = .returned (.int .i64 i) ∧ i < l.length ∧ (∀ h : i < l.length, f l[i] = true) ∧ ∀ x ∈ l.take i, f x = false) ∨ (e = .returned (.int .i64 (-1)) ∧ ∀ x ∈ l, f x = false)) ∧ At [rowI v l, E] w [rowI v l, E] w'
set_option maxRecDepth 100000 in
theorem idxf_any {w : World} {v : Value} {l : List I2} {p b bp bw : Nat} {now wait : Int} {mp : List WR} (h : Sep [rowI v l, cloP p b now mp bp bw wait] w) (hpast : Past mp now) (hn : now < 1099511627777) (hm : ∀ x ∈ l, ∃ t, (x, t) ∈ mp) (hmax : l.length ≤ 1000000) :
    Calls Try.prog 121 #[v, .func (.func 107) #[] #[.pointer (some ⟨bp, 0, none⟩), .pointer (some ⟨bw, 0, none⟩)]] w (IdxFPost w v l (cloP p b now mp bp bw wait) (young mp now wait)) := by
  have hA := At.start h
  have hF := hA.facts
  clear h
  obtain ⟨ax, cap, rfl, hax, hcap, _⟩ := hA.row_form (v := v) (xs := flatI l) (by with_reducible repeat (first | exact Sel.here | apply Sel.there))
  have hm' := Lib.hid hm
  have hpast' := Lib.hid hpast
  clear hm hpast
  go_enter Try.func121, Try.ntmps121
  go_wp2_with fail
  try go_frame
  go_loopg [8] l.length (IdxFRel w (.slice ax l.length cap) l (cloP p b now mp bp bw wait) (young mp now wait))
  case atStart => exact ⟨0, rfl, by simp, hA, by simp⟩
  case round =>
    obtain ⟨i, rfl, hik, hB, hno⟩ := hrel
    have hno' := Lib.hid hno
    clear hF hA hno
    have hA := hB
    clear hB
    by_cases hi : i < l.length
    · obtain ⟨g, c, rfl, _, hcm, hcl, hct, hB⟩ := hA.row_open (ax := ax) (cap := cap) (n := l.length) (xs := flatI l) (by with_reducible repeat (first | exact Sel.here | apply Sel.there)) (by omega)
      have hx : l[i]? = some l[i] := List.getElem?_eq_getElem hi
      have c0 : c[i * 2]? = some (.int .i64 l[i].1) := cells_at idL_len hct hx 0 (by omega)
      have c1 : c[i * 2 + 1]? = some (.int .i64 l[i].2) := cells_at idL_len hct hx 1 (by omega)
      clear hA
      have hA := hB
      clear hB
      (try simp only [setL, List.set_cons_zero, List.set_cons_succ, List.cons_append, List.nil_append] at hA); (have hF := hA.facts); (try simp only [facts_cons, facts_nil, facts_cells, facts_old, facts_fact, facts_obj, facts_map, facts_iter, and_true, true_and] at hF)
      cases hy : young mp now wait l[i]
      · go_wp2_with fail
        refine (ripe1_c (hA.sep1 (by with_reducible repeat (first | exact Sel.here | apply Sel.there))) hpast'.out hn (hm'.out _ (List.getElem_mem hi)) hy).mono ?_
        rintro e w2 ⟨rfl, hT⟩
        have hB := hA.call1 (by with_reducible repeat (first | exact Sel.here | apply Sel.there)) hT
        clear hF hA hT
        have hA := hB
        clear hB
        (try simp only [setL, List.set_cons_zero, List.set_cons_succ, List.cons_append, List.nil_append] at hA); (have hF := hA.facts); (try simp only [facts_cons, facts_nil, facts_cells, facts_old, facts_fact, facts_obj, facts_map, facts_iter, and_true, true_and] at hF)
        go_wp2_with fail
        go_roundg (gk - 1)
        case measure => omega
        case rel => exact ⟨i + 1, by simp, by omega, (shut_i hA (by with_reducible repeat (first | exact Sel.here | apply Sel.there)) hcl hcap hcm hct).only2 (by with_reducible repeat (first | exact Sel.here | apply Sel.there)) (by with_reducible repeat (first | exact Sel.here | apply Sel.there)), fun x hx => by
          rw [List.take_succ_eq_append_getElem hi] at hx
          rcases List.mem_append.1 hx with hx | hx
          · exact hno'.out x hx
          · rw [List.mem_singleton.1 hx]; exact hy⟩
      · go_wp2_with fail
        refine (ripe1_c (hA.sep1 (by with_reducible repeat (first | exact Sel.here | apply Sel.there))) hpast'.out hn (hm'.out _ (List.getElem_mem hi)) hy).mono ?_
        rintro e w2 ⟨rfl, hT⟩
        have hB := hA.call1 (by with_reducible repeat (first | exact Sel.here | apply Sel.there)) hT
        clear hF hA hT
        have hA := hB
        clear hB
        (try simp only [setL, List.set_cons_zero, List.set_cons_succ, List.cons_append, List.nil_append] at hA); (have hF := hA.facts); (try simp only [facts_cons, facts_nil, facts_cells, facts_old, facts_fact, facts_obj, facts_map, facts_iter, and_true, true_and] at hF)
        go_wp2_with fail
        refine bodyPost_ret (results_tmp rfl _ _ _) rfl ?_
        exact ⟨.inl ⟨i, rfl, hi, fun _ => hy, hno'.out⟩, (shut_i hA (by with_reducible repeat (first | exact Sel.here | apply Sel.there)) hcl hcap hcm hct).only2 (by with_reducible repeat (first | exact Sel.here | apply Sel.there)) (by with_reducible repeat (first | exact Sel.here | apply Sel.there))⟩
    · go_wp2_with fail
      go_ret
      exact ⟨.inr ⟨rfl, fun x hx => hno'.out x (by rw [List.take_of_length_le (by omega)]; exact hx)⟩, hA.only2 (by with_reducible repeat (first | exact Sel.here | apply Sel.there)) (by with_reducible repeat (first | exact Sel.here | apply Sel.there))⟩
end Go.Proofs.Yticmopnbfpgaiaa.Clk
