/- The document's answer of layer 16 (lease): its lists; Find. -/
import Derived.Test.YtnkddjomanaadaaLeaseW4
import Derived.Test.YtnkddjomanaadaaRow2
import Derived.Deep.Cut
namespace Go.Proofs.Ytnkddjomanaadaa.Lease
open Go.RowKit
set_option linter.unusedSimpArgs false
set_option linter.unusedVariables false

/-- an answer that was told -/
structure AR where
  r : Int
  e : Int
  n : Int
  g : Bool
/-- a session of the document's -/
structure SR where
  num : Int
  foot : ByteArray
  op : Bool
  dead : Bool
  dl : Int
  ttl : Int
  ax : Option Addr
  cap : Nat
  told : List AR
/-- its slice of answers -/
def SR.tv (s : SR) : Value := .slice s.ax s.told.length s.cap
def AR.cells (a : AR) : List Value := [.int .u64 a.r, .int .i64 a.e, .int .u64 a.n, .bool a.g]
def SR.cells (s : SR) : List Value := [.int .u64 s.num, .string s.foot, .bool s.op, .bool s.dead, .int .i64 s.dl, .int .i64 s.ttl, s.tv]
theorem SR.cells_len (s : SR) : s.cells.length = 7 := rfl
theorem SR.ones (s : SR) : s.cells.all (·.oneCell') = true := rfl
theorem SR.one (s : SR) : ∀ u ∈ s.cells, u.oneCell' = true := List.all_eq_true.1 s.ones
def flatR (L : List SR) : List Value := L.flatMap SR.cells
abbrev rowR (v : Value) (L : List SR) : Part := .row 47 7 v L.length (flatR L)
def SR.is (n : Int) (f : ByteArray) (s : SR) : Bool := s.num == n && (s.foot.toList == f.toList)
def noSR (n : Int) (f : ByteArray) : SR := ⟨n, f, false, false, 0, 0, none, 0, []⟩
def findR (L : List SR) (n : Int) (f : ByteArray) : SR := (L.find? (SR.is n f)).getD (noSR n f)
theorem find_first {α : Type} {p : α → Bool} : ∀ {l : List α} {i : Nat} {y : α}, l[i]? = some y → (∀ x ∈ l.take i, p x = false) → p y = true → l.find? p = some y
  | z :: l, 0, y, h, _, hy => by simp at h; subst h; simp [hy]
  | z :: l, i + 1, y, h, hn, hy => by
    rw [List.find?_cons_of_neg (by rw [hn z (by simp)]; simp)]
    exact find_first (by simpa using h) (fun x hx => hn x (by simp [hx])) hy
  | [], i, y, h, _, _ => by simp at h
theorem findR_at {L : List SR} {n : Int} {f : ByteArray} {i : Nat} (h : i < L.length) (hn : ∀ x ∈ L.take i, SR.is n f x = false) (hy : SR.is n f L[i] = true) : findR L n f = L[i] := by
  unfold findR
  rw [find_first (List.getElem?_eq_getElem h) hn hy]
  rfl
theorem findR_none {L : List SR} {n : Int} {f : ByteArray} (hn : ∀ x ∈ L, SR.is n f x = false) : findR L n f = noSR n f := by
  unfold findR
  rw [List.find?_eq_none.2 (fun x hx => by rw [hn x hx]; simp)]
  rfl
theorem shut_r {L0 K F : List Part} {w0 w : World} {g cap : Nat} {c : List Value} {L : List SR} (hA : At L0 w0 K w) (s : Sel (Part.cells g c 47) K F) (hcl : c.length = cap * 7) (hcap : L.length ≤ cap) (hcm : cap ≤ maxLen) (hct : c.take (L.length * 7) = flatR L) :
    At L0 w0 (rowR (.slice (some ⟨g, 0, none⟩) L.length cap) L :: F) w := hA.row_shut s hcl hcap hcm hct
abbrev zeroS (b : Nat) : Part := .cells b [.int .u64 0, .string .empty, .bool false, .bool false, .int .i64 0, .int .i64 0, .slice none 0 0] 47
def FindRelR (w : World) (v : Value) (L : List SR) (n : Int) (f : ByteArray) (b1 b2 : Nat) (k : Nat) (u : Value) (wr : World) : Prop :=
  ∃ i : Nat, u = .int .i64 i ∧ i + k = L.length ∧ At [rowR v L] w [zeroS b2, Part.cells b1 [v] 28, rowR v L] wr ∧ ∀ x ∈ L.take i, SR.is n f x = false
set_option maxRecDepth 100000 in
set_option maxHeartbeats 1000000 in
theorem findR_any {w : World} {v : Value} {L : List SR} (h : Sep [rowR v L] w) (n : Int) (f : ByteArray) (hmax : L.length ≤ 1000000) :
    Calls Try.prog 14 #[.agg #[v], .int .u64 n, .string f] w fun e w' => e = .returned (.agg (findR L n f).cells.toArray) ∧ At [rowR v L] w [rowR v L] w' := by
  have hA := At.start h
  have hF := hA.facts
  clear h
  obtain ⟨ax, cap, rfl, hax, hcap, _⟩ := hA.row_form (v := v) (xs := flatR L) (by with_reducible repeat (first | exact Sel.here | apply Sel.there))
  go_enter Try.func14, Try.ntmps14
  go_wp2_with (first
    | (refine wpList_box_at (E := 28) rfl rfl (by (try simp only [Act.eval, Array.getD_eq_getD_getElem?, List.getElem?_toArray, List.getElem?_cons_succ, List.getElem?_cons_zero, Option.getD_some]) <;> exact rfl) (by exact rfl) hA ?_; intro bB w1 hB hbB; clear hF hA; have hA := hB; clear hB; (try simp only [setL, List.set_cons_zero, List.set_cons_succ, List.cons_append, List.nil_append] at hA); (have hF := hA.facts); (try simp only [facts_cons, facts_nil, facts_cells, facts_old, facts_fact, facts_obj, facts_map, facts_iter, and_true, true_and] at hF))
    | ((with_reducible show wpList _ _ _ ({ dst := _, op := Op.store _ _ _, type := _, pos := _, after := _, guard := _ } :: _) _ _); refine wpList_store_at rfl rfl rfl (by (try simp only [Act.eval, Array.getD_eq_getD_getElem?, List.getElem?_toArray, List.getElem?_cons_succ, List.getElem?_cons_zero, Option.getD_some]) <;> exact rfl) (by exact rfl) hA (by with_reducible repeat (first | exact Sel.here | apply Sel.there)) (by kernel_rfl) rfl (by first | decide | (simp; done) | omega) ?_; intro w1 hB; clear hF hA; have hA := hB; clear hB; (try simp only [setL, List.set_cons_zero, List.set_cons_succ, List.cons_append, List.nil_append] at hA); (have hF := hA.facts); (try simp only [facts_cons, facts_nil, facts_cells, facts_old, facts_fact, facts_obj, facts_map, facts_iter, and_true, true_and] at hF)) | ((with_reducible show wpList _ _ _ ({ dst := _, op := Op.box _ _, type := _, pos := _, after := _, guard := _ } :: _) _ _); refine wpList_box_at rfl rfl (by (try simp only [Act.eval, Array.getD_eq_getD_getElem?, List.getElem?_toArray, List.getElem?_cons_succ, List.getElem?_cons_zero, Option.getD_some]) <;> exact rfl) (by exact rfl) hA ?_; intro b1 w1 hB hb1; clear hF hA; have hA := hB; clear hB; (try simp only [setL, List.set_cons_zero, List.set_cons_succ, List.cons_append, List.nil_append] at hA); (have hF := hA.facts); (try simp only [facts_cons, facts_nil, facts_cells, facts_old, facts_fact, facts_obj, facts_map, facts_iter, and_true, true_and] at hF)) | ((with_reducible show wpList _ _ _ ({ dst := _, op := Op.alloc _, type := _, pos := _, after := _, guard := _ } :: _) _ _); refine wpList_alloc_at (E := 47) (z := .agg #[.int .u64 0, .string .empty, .bool false, .bool false, .int .i64 0, .int .i64 0, .slice none 0 0]) (vs := [.int .u64 0, .string .empty, .bool false, .bool false, .int .i64 0, .int .i64 0, .slice none 0 0]) rfl rfl (by kernel_rfl) rfl hA ?_; intro b1 w1 hB hb1; clear hF hA; have hA := hB; clear hB; (try simp only [setL, List.set_cons_zero, List.set_cons_succ, List.cons_append, List.nil_append] at hA); (have hF := hA.facts); (try simp only [facts_cons, facts_nil, facts_cells, facts_old, facts_fact, facts_obj, facts_map, facts_iter, and_true, true_and] at hF)))
  try go_frame
  go_loopg [7] L.length (FindRelR w (.slice ax L.length cap) L n f bB b1)
  case atStart => exact ⟨0, rfl, by simp, hA, by simp⟩
  case round =>
    obtain ⟨i, rfl, hik, hB, hno⟩ := hrel
    have hno' := Lib.hid hno
    clear hF hA hno
    have hA := hB
    clear hB
    by_cases hi : i < L.length
    · obtain ⟨g, c, rfl, _, hcm, hcl, hct, hB⟩ := hA.row_open (ax := ax) (cap := cap) (n := L.length) (xs := flatR L) (by with_reducible repeat (first | exact Sel.here | apply Sel.there)) (by omega)
      have hx : L[i]? = some L[i] := List.getElem?_eq_getElem hi
      have c0 : c[i * 7]? = some (.int .u64 L[i].num) := cells_at SR.cells_len hct hx 0 (by omega)
      have c1 : c[i * 7 + 1]? = some (.string L[i].foot) := cells_at SR.cells_len hct hx 1 (by omega)
      have c2 : c[i * 7 + 2]? = some (.bool L[i].op) := cells_at SR.cells_len hct hx 2 (by omega)
      have c3 : c[i * 7 + 3]? = some (.bool L[i].dead) := cells_at SR.cells_len hct hx 3 (by omega)
      have c4 : c[i * 7 + 4]? = some (.int .i64 L[i].dl) := cells_at SR.cells_len hct hx 4 (by omega)
      have c5 : c[i * 7 + 5]? = some (.int .i64 L[i].ttl) := cells_at SR.cells_len hct hx 5 (by omega)
      have c6 : c[i * 7 + 6]? = some L[i].tv := cells_at SR.cells_len hct hx 6 (by omega)
      clear hA
      have hA := hB
      clear hB
      (try simp only [setL, List.set_cons_zero, List.set_cons_succ, List.cons_append, List.nil_append] at hA); (have hF := hA.facts); (try simp only [facts_cons, facts_nil, facts_cells, facts_old, facts_fact, facts_obj, facts_map, facts_iter, and_true, true_and] at hF)
      have more : ∀ {b : Bool}, SR.is n f L[i] = b → b = false → ∀ x ∈ L.take (i + 1), SR.is n f x = false := fun e e2 x hx => by
        rw [List.take_succ_eq_append_getElem hi] at hx
        rcases List.mem_append.1 hx with hx | hx
        · exact hno'.out x hx
        · rw [List.mem_singleton.1 hx, e, e2]
      by_cases h1 : L[i].num = n
      · have h1' : (L[i].num == n) = true := by simpa using h1
        cases h2 : (L[i].foot.toList == f.toList)
        · have hm := Lib.hid (more (b := false) (by simp [SR.is, h1', h2]) rfl)
          clear more
          go_wp2_with fail
          go_roundg (gk - 1)
          case measure => omega
          case rel => exact ⟨i + 1, by simp, by omega, (shut_r hA (by with_reducible repeat (first | exact Sel.here | apply Sel.there)) hcl hcap hcm hct).only3 (by with_reducible repeat (first | exact Sel.here | apply Sel.there)) (by with_reducible repeat (first | exact Sel.here | apply Sel.there)) (by with_reducible repeat (first | exact Sel.here | apply Sel.there)), hm.out⟩
        · have hfi := findR_at hi hno'.out (show SR.is n f L[i] = true by simp [SR.is, h1', h2])
          have hfi' := Lib.hid hfi
          clear hfi more
          go_wp2_with (first | (refine wpList_store_at (b := b1) (j := 0) (vs := SR.cells L[i]) rfl rfl rfl (by (try simp only [Act.eval, Array.getD_eq_getD_getElem?, List.getElem?_toArray, List.getElem?_cons_succ, List.getElem?_cons_zero, Option.getD_some]) <;> exact rfl) (by first | exact rfl | (rw [← h1]; rfl) | simp [SR.cells, h1, Value.cells]) hA (by with_reducible repeat (first | exact Sel.here | apply Sel.there)) (by kernel_rfl) (SR.ones _) (by show 0 + 7 ≤ 7; omega) ?_; intro w1 hB; clear hF hA; have hA := hB; clear hB; simp only [SR.cells] at hA; (try simp only [setL, List.set_cons_zero, List.set_cons_succ, List.cons_append, List.nil_append] at hA); (have hF := hA.facts); (try simp only [facts_cons, facts_nil, facts_cells, facts_old, facts_fact, facts_obj, facts_map, facts_iter, and_true, true_and] at hF)))
          refine bodyPost_ret (v := .agg (SR.cells L[i]).toArray) (by simp [SR.cells, results, Try.results14, go_sem, hF]) rfl ⟨by rw [hfi'.out], (shut_r hA (by with_reducible repeat (first | exact Sel.here | apply Sel.there)) hcl hcap hcm hct).only1 (by with_reducible repeat (first | exact Sel.here | apply Sel.there))⟩
      · have h1' : (L[i].num == n) = false := by simpa using h1
        have hm := Lib.hid (more (b := false) (by simp [SR.is, h1']) rfl)
        clear more
        go_wp2_with fail
        go_roundg (gk - 1)
        case measure => omega
        case rel => exact ⟨i + 1, by simp, by omega, (shut_r hA (by with_reducible repeat (first | exact Sel.here | apply Sel.there)) hcl hcap hcm hct).only3 (by with_reducible repeat (first | exact Sel.here | apply Sel.there)) (by with_reducible repeat (first | exact Sel.here | apply Sel.there)) (by with_reducible repeat (first | exact Sel.here | apply Sel.there)), hm.out⟩
    · have hfi := findR_none (fun x hx => hno'.out x (by rw [List.take_of_length_le (by omega)]; exact hx))
      have hfi' := Lib.hid hfi
      clear hfi
      (try simp only [setL, List.set_cons_zero, List.set_cons_succ, List.cons_append, List.nil_append] at hA); (have hF := hA.facts); (try simp only [facts_cons, facts_nil, facts_cells, facts_old, facts_fact, facts_obj, facts_map, facts_iter, and_true, true_and] at hF)
      go_wp2_with (first | ((with_reducible show wpList _ _ _ ({ dst := _, op := Op.store _ _ _, type := _, pos := _, after := _, guard := _ } :: _) _ _); refine wpList_store_at rfl rfl rfl (by (try simp only [Act.eval, Array.getD_eq_getD_getElem?, List.getElem?_toArray, List.getElem?_cons_succ, List.getElem?_cons_zero, Option.getD_some]) <;> exact rfl) (by exact rfl) hA (by with_reducible repeat (first | exact Sel.here | apply Sel.there)) (by kernel_rfl) rfl (by first | decide | (simp; done) | omega) ?_; intro w1 hB; clear hF hA; have hA := hB; clear hB; (try simp only [setL, List.set_cons_zero, List.set_cons_succ, List.cons_append, List.nil_append] at hA); (have hF := hA.facts); (try simp only [facts_cons, facts_nil, facts_cells, facts_old, facts_fact, facts_obj, facts_map, facts_iter, and_true, true_and] at hF)) | ((with_reducible show wpList _ _ _ ({ dst := _, op := Op.box _ _, type := _, pos := _, after := _, guard := _ } :: _) _ _); refine wpList_box_at rfl rfl (by (try simp only [Act.eval, Array.getD_eq_getD_getElem?, List.getElem?_toArray, List.getElem?_cons_succ, List.getElem?_cons_zero, Option.getD_some]) <;> exact rfl) (by exact rfl) hA ?_; intro b1 w1 hB hb1; clear hF hA; have hA := hB; clear hB; (try simp only [setL, List.set_cons_zero, List.set_cons_succ, List.cons_append, List.nil_append] at hA); (have hF := hA.facts); (try simp only [facts_cons, facts_nil, facts_cells, facts_old, facts_fact, facts_obj, facts_map, facts_iter, and_true, true_and] at hF)))
      refine bodyPost_ret (v := .agg (SR.cells (noSR n f)).toArray) (by simp [SR.cells, SR.tv, noSR, results, Try.results14, go_sem, hF]) rfl ⟨by rw [hfi'.out], hA.only1 (by with_reducible repeat (first | exact Sel.here | apply Sel.there))⟩
end Go.Proofs.Ytnkddjomanaadaa.Lease
