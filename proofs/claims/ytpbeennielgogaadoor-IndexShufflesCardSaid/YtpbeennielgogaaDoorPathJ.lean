/- The walk of a text's parts: path.walk. -/
import Derived.Test.YtpbeennielgogaaDoorPathI
import Derived.Test.YtpbeennielgogaaDoorRowI
import Derived.IntWalk
namespace Go.Proofs.YtpbeennielgogaaDoor.Path
open Go.RowKit Go.Shelf
set_option linter.unusedSimpArgs false
set_option linter.unusedVariables false
attribute [local go_sem] Oper.semAt_some

def strC (x : ByteArray) : List Value := [.string x]
theorem strC_len (x : ByteArray) : (strC x).length = 1 := rfl
theorem strC_one (x : ByteArray) : ∀ u ∈ strC x, u.oneCell' = true := by intro u hu; simp [strC] at hu; subst hu; rfl
def flatS (ws : List ByteArray) : List Value := ws.flatMap strC
/-- a slice of texts that owns its row -/
abbrev rowS (v : Value) (ws : List ByteArray) : Part := Part.row 9 1 v ws.length (flatS ws)
theorem infoStr : (Tryd.prog.info? 9).map (fun i => (i.zero, i.size, i.bytes)) = some (some (.string .empty), 1, 16) := by kernel_rfl

def WI (w : World) (N : Nat) (pre : List ByteArray) (W : World) : Prop :=
  ∃ (v : Value) (ws : List ByteArray), At [] w [Part.hole (N + 3), Part.cells (N + 2) [v] 87, rowS v ws, Part.cells N [.slice none 0 0] 87, Part.cells (N + 1) [.int .i64 0] 65, Part.hole (N + 4), Part.hole (N + 5)] W ∧
    walkL [] (pre.map bl) = some (ws.map bl) ∧ ws.length ≤ pre.length
def WIx (w : World) (N : Nat) (c : Code) (pre : List ByteArray) (W : World) : Prop :=
  c = .ret ∧ At [] w [Part.hole (N + 3), Part.cells N [.slice none 0 0] 87, Part.cells (N + 1) [.int .i64 30] 65] W ∧ walkL [] (pre.map bl) = none
theorem wi_own (w : World) (N B : Nat) (hB : w.heap.size ≤ B) : OwnB (N + 3) B (WI w N) := by
  rintro pre W W' row ⟨v, ws, hA, h1, h2⟩ hg hr
  refine ⟨v, ws, hA.ownB (by with_reducible repeat (first | exact Sel.here | apply Sel.there)) ?_ hB hg hr, h1, h2⟩
  intro A hA
  simp only [List.mem_cons, List.not_mem_nil, or_false] at hA
  rcases hA with rfl | rfl | rfl | rfl | rfl | rfl | rfl
  all_goals first | exact Part.cl_hole _ | exact Part.cl_cells _ _ _ | exact Part.cl_row _ _ _ _ _
theorem wix_own (w : World) (N B : Nat) (hB : w.heap.size ≤ B) (c : Code) : OwnB (N + 3) B (WIx w N c) := by
  rintro pre W W' row ⟨hc, hA, h1⟩ hg hr
  refine ⟨hc, hA.ownB (by with_reducible repeat (first | exact Sel.here | apply Sel.there)) ?_ hB hg hr, h1⟩
  intro A hA
  simp only [List.mem_cons, List.not_mem_nil, or_false] at hA
  rcases hA with rfl | rfl | rfl
  all_goals first | exact Part.cl_hole _ | exact Part.cl_cells _ _ _
def walkRes : Option (List Bs) → Int
  | none => 30
  | some _ => 0
def WalkPost (s : ByteArray) (w : World) (e : Ending) (w' : World) : Prop :=
  ∃ (v : Value) (ws : List ByteArray), e = .returned (.tuple #[v, .int .i64 (walkRes (walkL [] (splits (bl s))))]) ∧ At [] w [rowS v ws] w' ∧ (walkL [] (splits (bl s)) = some (ws.map bl) ∨ walkL [] (splits (bl s)) = none ∧ ws = []) ∧ ws.length ≤ s.size + 1
theorem splits_len_le : ∀ l : Bs, (splits l).length ≤ l.length + 1
  | [] => by simp [splits]
  | c :: r => by
    have ih := splits_len_le r
    rw [splits_cons]
    split
    · simpa using ih
    · simp; omega
theorem walk_app (l m acc : List Bs) : walkL acc (l ++ m) = (walkL acc l).bind fun a => walkL a m := by
  induction l generalizing acc with
  | nil => rfl
  | cons p l ih =>
    rw [List.cons_append, walkL, walkL]
    cases stepW acc p with
    | none => rfl
    | some a => exact ih a

theorem splitSeq_in (n : Nat) (s : ByteArray) (w : World) : CallsIn Fence.wide n Tryd.prog 50 #[.string s, .string ⟨#[47]⟩] w fun e w' =>
    e = .returned (.func (.func 61) #[] #[.pointer (some ⟨w.heap.size + 1, 0, none⟩), .pointer (some ⟨w.heap.size, 0, none⟩), .pointer (some ⟨w.heap.size + 2, 0, none⟩)]) ∧
      ((w.alloc (.cells #[.string s] 9)).alloc (.cells #[.string ⟨#[47]⟩] 9)).alloc (.cells #[.int .i64 0] 3) = w' :=
  callsIn_wide.2 ((splitSeq_any s w).mono fun _ _ ⟨he, hw⟩ => ⟨he, hw.symm⟩)
theorem _root_.Go.Proofs.YtpbeennielgogaaDoor.At.toHole {L0 L G : List Part} {w0 w : World} {b : Nat} {c : List Value} {T : TypeId} (h : At L0 w0 L w) (s : Sel (Part.cells b c T) L G) : At L0 w0 (Part.hole b :: G) w :=
  h.turn s (Part.hole b) ⟨_, (h.get s : BlockIs w b c T), rfl⟩ (fun _ e => .inl e) (Exc.refl _ _)

def start6 (s : ByteArray) (w : World) : World := (((((w.alloc (.cells #[.slice none 0 0] 87)).alloc (.cells #[.int .i64 0] 65)).alloc (.cells #[.slice none 0 0] 87)).alloc (.cells #[.string s] 9)).alloc (.cells #[.string ⟨#[47]⟩] 9)).alloc (.cells #[.int .i64 0] 3)
theorem start6_at (s : ByteArray) (w : World) : At [] w [rowS (.slice none 0 0) [], Part.hole (w.heap.size + 5), Part.hole (w.heap.size + 4), Part.hole (w.heap.size + 3), Part.cells (w.heap.size + 2) [.slice none 0 0] 87, Part.cells (w.heap.size + 1) [.int .i64 0] 65, Part.cells w.heap.size [.slice none 0 0] 87] (start6 s w) ∧
    Boxed (start6 s w) (w.heap.size + 3) 9 (.string s) ∧ Boxed (start6 s w) (w.heap.size + 4) 9 (.string ⟨#[47]⟩) ∧ Boxed (start6 s w) (w.heap.size + 5) 3 (.int .i64 0) ∧ (start6 s w).heap.size = w.heap.size + 6 := by
  have q := (At.start (w0 := w) (L0 := []) trivial).alloc [.slice none 0 0] 87
  have q := q.alloc [.int .i64 0] 65
  have q := q.alloc [.slice none 0 0] 87
  have q := q.alloc [.string s] 9
  have q := q.alloc [.string ⟨#[47]⟩] 9
  have q := q.alloc [.int .i64 0] 3
  simp only [World.size_alloc, Nat.add_assoc, Nat.reduceAdd] at q
  change At [] w _ (start6 s w) at q
  have b1 : Boxed (start6 s w) (w.heap.size + 3) 9 (.string s) := q.get (A := Part.cells (w.heap.size + 3) [.string s] 9) (by with_reducible repeat (first | exact Sel.here | apply Sel.there))
  have b2 : Boxed (start6 s w) (w.heap.size + 4) 9 (.string ⟨#[47]⟩) := q.get (A := Part.cells (w.heap.size + 4) [.string ⟨#[47]⟩] 9) (by with_reducible repeat (first | exact Sel.here | apply Sel.there))
  have b3 : Boxed (start6 s w) (w.heap.size + 5) 3 (.int .i64 0) := q.get (A := Part.cells (w.heap.size + 5) [.int .i64 0] 3) (by with_reducible repeat (first | exact Sel.here | apply Sel.there))
  have q := q.toHole (b := w.heap.size + 3) (by with_reducible repeat (first | exact Sel.here | apply Sel.there))
  have q := q.toHole (b := w.heap.size + 4) (by with_reducible repeat (first | exact Sel.here | apply Sel.there))
  have q := q.toHole (b := w.heap.size + 5) (by with_reducible repeat (first | exact Sel.here | apply Sel.there))
  have q := q.row_nil 9 1
  exact ⟨q, b1, b2, b3, by simp [start6]⟩
theorem body_fin {w W W' : World} {N B : Nat} {K K' : List Part} (h : At [] w (K ++ [Part.hole (N + 3), Part.hole (N + 4), Part.hole (N + 5)]) W) (hc : ∀ A ∈ K, A.Cl) (t : At K W K' W') :
    KeepsFrom B W W' ∧ keep3 (N + 3) (N + 4) (N + 5) W W' ∧ At [] w (K' ++ [Part.hole (N + 3), Part.hole (N + 4), Part.hole (N + 5)]) W' := by
  obtain ⟨s1, s2, s3⟩ := h.sep.apart2
  refine ⟨t.keepsFrom s1 hc B, fun b hb => ?_, h.frame t⟩
  have key : ∀ H : Part, H ∈ [Part.hole (N + 3), Part.hole (N + 4), Part.hole (N + 5)] → H.foot b → W'.heap[b]? = W.heap[b]? := fun H hH hf =>
    t.exc.block b (s2.lt hH hf) (fun ⟨A, hA, ha⟩ => s3 A hA H hH b ha hf)
  rcases hb with rfl | rfl | rfl
  · exact key (Part.hole (N + 3)) (by simp) rfl
  · exact key (Part.hole (N + 4)) (by simp) rfl
  · exact key (Part.hole (N + 5)) (by simp) rfl
theorem step_nil {acc : List Bs} : stepW acc [] = some acc := by simp [stepW]
theorem step_dot {acc : List Bs} : stepW acc [46] = some acc := by simp [stepW]
theorem step_up0 : stepW [] [46, 46] = none := by simp [stepW]
theorem step_up {acc : List Bs} (h : acc ≠ []) : stepW acc [46, 46] = some acc.dropLast := by simp [stepW, h]
theorem step_no {acc : List Bs} {p : Bs} (h0 : p ≠ []) (h1 : p ≠ [46]) (h2 : p ≠ [46, 46]) (h : partB p = false) : stepW acc p = none := by
  have h3 : ¬ p.all letB = true := fun q => by rw [partB_iff.2 ⟨h0, q⟩] at h; cases h
  simp [stepW, h0, h1, h2, h3]
theorem bytes_ext {x y : ByteArray} (h : bl x = bl y) : x = y := Go.WideShapes.bytes_inj h
theorem walk_snoc {pre : List ByteArray} {x : ByteArray} {acc : List Bs} (h : walkL [] (pre.map bl) = some acc) : walkL [] ((pre ++ [x]).map bl) = stepW acc (bl x) := by
  rw [List.map_append, walk_app, h]
  simp only [List.map_cons, List.map_nil, Option.bind_some, walkL]
  cases stepW acc (bl x) <;> rfl
theorem _root_.Go.Proofs.YtpbeennielgogaaDoor.At.trans {L0 L L' : List Part} {w0 w w' : World} (h : At L0 w0 L w) (t : At L w L' w') : At L0 w0 L' w' := by
  have := At.frame (F := []) (K := L) (by simpa using h) t
  simpa using this
def WAct (s : ByteArray) (w : World) (x : ByteArray) : Act :=
  { tmps := #[.string s, undef, .pointer (some ⟨w.heap.size, 0, none⟩), .pointer (some ⟨w.heap.size + 1, 0, none⟩), .pointer (some ⟨w.heap.size + 2, 0, none⟩), .string x, .string s, .func (.func 61) #[] #[.pointer (some ⟨w.heap.size + 4, 0, none⟩), .pointer (some ⟨w.heap.size + 3, 0, none⟩), .pointer (some ⟨w.heap.size + 5, 0, none⟩)], .string x,
      undef, undef, undef, undef, undef, undef, undef, undef, undef, undef, undef, undef, undef, undef, undef, undef, undef, undef, undef, undef, undef, undef, undef, undef, undef, undef, undef, undef, undef, undef, undef, undef], defers := [] }

set_option maxRecDepth 100000 in
set_option maxHeartbeats 2000000 in
theorem walk_any (s : ByteArray) (w : World) (hs : s.size ≤ 2000000) : Calls Tryd.prog 44 #[.string s] w (WalkPost s w) := by
  obtain ⟨i0, hi0, hz0, hz1, hz2⟩ := info_parts infoStr
  refine (callsIn_wide (n := 9)).1 ?_
  refine callsIn_of_wp_marks Tryd.func44 rfl trivial ?_ rfl
  simp only [Tryd.ntmps44, List.size_toArray, List.length_cons, List.length_nil, Nat.reduceAdd, Nat.reduceSub, Array.replicate_succ, Array.replicate_zero, List.push_toArray, List.append_toArray, List.nil_append, List.cons_append]
  gi_wp2
  refine ⟨trivial, (splitSeq_in 8 s _).mono ?_⟩
  rintro e _ ⟨rfl, rfl⟩
  gi_wp2
  obtain ⟨W5, hW5⟩ : ∃ W5, start6 s w = W5 := ⟨_, rfl⟩
  obtain ⟨q, b1, b2, b3, hsz⟩ := start6_at s w
  simp only [World.size_alloc, Nat.add_assoc, Nat.reduceAdd]
  rw [show ((((((w.alloc (.cells #[.slice none 0 0] 87)).alloc (.cells #[.int .i64 0] 65)).alloc (.cells #[.slice none 0 0] 87)).alloc (.cells #[.string s] 9)).alloc (.cells #[.string ⟨#[47]⟩] 9)).alloc (.cells #[.int .i64 0] 3)) = W5 from hW5]
  rw [hW5] at q b1 b2 b3 hsz
  clear hW5
  refine wpIn_rangeFunc_B rfl (by omega) (gf := 61) (lb := #[.pointer (some ⟨w.heap.size + 4, 0, none⟩), .pointer (some ⟨w.heap.size + 3, 0, none⟩), .pointer (some ⟨w.heap.size + 5, 0, none⟩)]) rfl trivial (enters_of Tryd.func61 (by kernel_rfl) rfl)
    (encs := fun x : ByteArray => #[.string x]) (Bs := w.heap.size + 3) (Kp := keep3 (w.heap.size + 3) (w.heap.size + 4) (w.heap.size + 5)) (S := fun xs => xs.map bl = splits (bl s)) (Sp := fun pre => pre.map bl <+: splits (bl s)) (N := 2000001)
    (fun l J Jx W hW hJ hY h0 => split1_in _ (by omega) l _ _ _ (by omega) (by omega) s hs J Jx W hJ hY ((hW.block _ b1.lt).trans b1) ((hW.block _ b2.lt).trans b2) ((hW.block _ b3.lt).trans b3) h0)
    (by omega) (fun h k b hb => (k b hb).trans (h b hb)) (fun W l o' hl b hb => World.putObj_heap_other (by omega)) (fun _ => rfl)
    (WI w w.heap.size) (WIx w w.heap.size) (wi_own _ _ _ (by omega)) (wix_own _ _ _ (by omega)) ⟨_, [], q.pick (by with_reducible repeat (first | exact Picks.nil | refine Picks.cons (by with_reducible repeat (first | exact Sel.here | apply Sel.there)) ?_)), rfl, by simp⟩ (WAct s w) ?assign ?body ?done ?stop
  case assign =>
    intro l x W K hK
    gi_wp2
    exact hK
  case body =>
    rintro l pre x W ⟨v, ws, hA, hwk, hle⟩ hlen
    have h0 := hA.pick (K := [Part.cells (w.heap.size + 2) [v] 87, rowS v ws, Part.cells w.heap.size [.slice none 0 0] 87, Part.cells (w.heap.size + 1) [.int .i64 0] 65, Part.hole (w.heap.size + 3), Part.hole (w.heap.size + 4), Part.hole (w.heap.size + 5)]) (by with_reducible repeat (first | exact Picks.nil | refine Picks.cons (by with_reducible repeat (first | exact Sel.here | apply Sel.there)) ?_))
    have h1 : At [] w ([Part.cells (w.heap.size + 2) [v] 87, rowS v ws, Part.cells w.heap.size [.slice none 0 0] 87, Part.cells (w.heap.size + 1) [.int .i64 0] 65] ++ [Part.hole (w.heap.size + 3), Part.hole (w.heap.size + 4), Part.hole (w.heap.size + 5)]) W := h0
    have hcl : ∀ A ∈ [Part.cells (w.heap.size + 2) [v] 87, rowS v ws, Part.cells w.heap.size [.slice none 0 0] 87, Part.cells (w.heap.size + 1) [.int .i64 0] 65], A.Cl := by
      intro A hA
      simp only [List.mem_cons, List.not_mem_nil, or_false] at hA
      rcases hA with rfl | rfl | rfl | rfl
      all_goals first | exact Part.cl_cells _ _ _ | exact Part.cl_row _ _ _ _ _
    have hfin := fun (B : Nat) (K' : List Part) (W' : World) (t : At _ W K' W') => body_fin (B := B) h1 hcl t
    have hA2 := At.start h1.sep.apart2.1
    have hsn := fun x => Lib.hid (walk_snoc (x := x) hwk)
    clear hA h0 h1 hcl hwk hsz q b1 b2 b3
    have hA := hA2
    clear hA2
    have hF := hA.facts
    (try simp only [uA] at hA); have hF := hA.facts; (try simp only [fA, facts_row, and_true, true_and] at hF)
    unfold WAct
    by_cases e0 : bl x = [] ∨ bl x = [46]
    · have hk : stepW (ws.map bl) (bl x) = some (ws.map bl) := by rcases e0 with e | e <;> rw [e] <;> first | exact step_nil | exact step_dot
      have hk' := Lib.hid hk
      clear hk
      rcases e0 with e0 | e0
      · obtain rfl : x = ⟨#[]⟩ := bytes_ext e0
        gi_wp2
        obtain ⟨k1, k2, k3⟩ := hfin _ _ _ hA; simp only [List.cons_append, List.nil_append] at k3
        exact ⟨k1, k2, v, ws, k3.pick (by with_reducible repeat (first | exact Picks.nil | refine Picks.cons (by with_reducible repeat (first | exact Sel.here | apply Sel.there)) ?_)), by rw [(hsn _).out, hk'.out], by simp; omega⟩
      · obtain rfl : x = ⟨#[46]⟩ := bytes_ext e0
        gi_wp2
        obtain ⟨k1, k2, k3⟩ := hfin _ _ _ hA; simp only [List.cons_append, List.nil_append] at k3
        exact ⟨k1, k2, v, ws, k3.pick (by with_reducible repeat (first | exact Picks.nil | refine Picks.cons (by with_reducible repeat (first | exact Sel.here | apply Sel.there)) ?_)), by rw [(hsn _).out, hk'.out], by simp; omega⟩
    · by_cases e1 : bl x = [46, 46]
      · obtain rfl : x = ⟨#[46, 46]⟩ := bytes_ext e1
        clear e0
        obtain ⟨ax, cap, rfl, hax, hcap, _⟩ := hA.row_form (v := v) (xs := flatS ws) (by with_reducible repeat (first | exact Sel.here | apply Sel.there))
        by_cases e2 : ws = []
        · subst e2
          gi_wp2_with (first | (refine wpListIn_store_at (by exact fun _ => trivial) rfl rfl rfl (by (try simp only [Act.eval, eV]) <;> exact rfl) (by exact rfl) hA (by with_reducible repeat (first | exact Sel.here | apply Sel.there)) (by kernel_rfl) rfl (by first | decide | (simp; done) | omega) ?_; intro w1 hB; clear hF hA; have hA := hB; clear hB; (try simp only [uA] at hA); have hF := hA.facts; (try simp only [fA, facts_row, and_true, true_and] at hF)))
          obtain ⟨k1, k2, k3⟩ := hfin _ _ _ hA
          simp only [List.cons_append, List.nil_append] at k3
          exact ⟨k1, rfl, k3.pick (by with_reducible repeat (first | exact Picks.nil | refine Picks.cons (by with_reducible repeat (first | exact Sel.here | apply Sel.there)) ?_)), by rw [(hsn _).out]; exact step_up0⟩
        · have hl : 0 < ws.length := List.length_pos_iff.2 e2
          have hl1 : ((ws.length : Int) == 0) = false := by simpa using e2
          have hl2 := Lib.hid (show ((ws.length : Int) - 1) = ((ws.length - 1 : Nat) : Int) by omega)
          have e2' := Lib.hid e2
          clear e2
          gi_wp2_with (first | (refine wpListIn_store_at (by exact fun _ => trivial) rfl rfl rfl (by (try simp only [Act.eval, eV]) <;> exact rfl) (by exact rfl) hA (by with_reducible repeat (first | exact Sel.here | apply Sel.there)) (by kernel_rfl) rfl (by first | decide | (simp; done) | omega) ?_; intro w1 hB; clear hF hA; have hA := hB; clear hB; (try simp only [uA] at hA); have hF := hA.facts; (try simp only [fA, facts_row, and_true, true_and] at hF)) | (refine wpListIn_cut_at (k := ws.length - 1) (by exact fun _ => trivial) rfl rfl Tryd.underlying87 hi0 hz1 (by (try simp only [Act.eval, eV]) <;> exact rfl) (by exact congrArg (Value.int .i64) hl2.out) hA (by with_reducible repeat (first | exact Sel.here | apply Sel.there)) (by omega) ?_; intro v1 hB; obtain ⟨ax3, n3, cap3, hv3, hn3⟩ := hB.row_hid .here; subst hv3; clear hF hA; have hA := hB; clear hB; (try simp only [uA] at hA); have hF := hA.facts; (try simp only [fA, facts_row, and_true, true_and] at hF)))
          have e3 : (flatS ws).take ((ws.length - 1) * 1) = flatS ws.dropLast := by
            unfold flatS
            rw [flat_take strC_len, List.dropLast_eq_take]
          have e4 : ws.length - 1 = ws.dropLast.length := by simp
          rw [e3] at hA
          have hA2 : At _ W _ w1 := hA
          rw [e4] at hA2
          obtain ⟨k1, k2, k3⟩ := hfin _ _ _ hA2
          simp only [List.cons_append, List.nil_append] at k3
          exact ⟨k1, k2, _, ws.dropLast, k3.pick (by repeat (first | exact Picks.nil | refine Picks.cons (by repeat (first | exact Sel.here | apply Sel.there)) ?_)), by rw [(hsn _).out]; exact (step_up (by simpa using e2'.out)).trans (by rw [List.map_dropLast]), by simp; omega⟩
      · have n0 : x.toList.isEmpty = false := by
          rw [Lib.toList_data]
          cases q : x.data.toList
          · exact absurd (Or.inl q) e0
          · rfl
        have n1 : (x.toList == [46]) = false := by rw [Lib.toList_data]; simpa using fun q => e0 (Or.inr q)
        have n2 : (x.toList == [46, 46]) = false := by rw [Lib.toList_data]; simpa using e1
        have hne : bl x ≠ [] := fun q => e0 (Or.inl q)
        cases hp : partB (bl x)
        · have hk := Lib.hid (step_no (acc := ws.map bl) hne (fun q => e0 (Or.inr q)) e1 hp)
          clear e0 e1 hne
          obtain ⟨ax, cap, rfl, hax, hcap, _⟩ := hA.row_form (v := v) (xs := flatS ws) (by with_reducible repeat (first | exact Sel.here | apply Sel.there))
          gi_wp2_with (first | (refine wpListIn_store_at (by exact fun _ => trivial) rfl rfl rfl (by (try simp only [Act.eval, eV]) <;> exact rfl) (by exact rfl) hA (by with_reducible repeat (first | exact Sel.here | apply Sel.there)) (by kernel_rfl) rfl (by first | decide | (simp; done) | omega) ?_; intro w1 hB; clear hF hA; have hA := hB; clear hB; (try simp only [uA] at hA); have hF := hA.facts; (try simp only [fA, facts_row, and_true, true_and] at hF)))
          refine ⟨trivial, (CallsIn.inRound l (callsIn_wide.2 (part_any x W))).mono ?_⟩
          rw [show partB x.data.toList = false from hp]
          rintro e w1 ⟨rfl, hT⟩
          have hB := hA.ext hT
          clear hF hA hT
          have hA := hB
          clear hB
          have hF := hA.facts
          (try simp only [uA] at hA); have hF := hA.facts; (try simp only [fA, facts_row, and_true, true_and] at hF)
          gi_wp2_with (first | (refine wpListIn_store_at (by exact fun _ => trivial) rfl rfl rfl (by (try simp only [Act.eval, eV]) <;> exact rfl) (by exact rfl) hA (by with_reducible repeat (first | exact Sel.here | apply Sel.there)) (by kernel_rfl) rfl (by first | decide | (simp; done) | omega) ?_; intro w1 hB; clear hF hA; have hA := hB; clear hB; (try simp only [uA] at hA); have hF := hA.facts; (try simp only [fA, facts_row, and_true, true_and] at hF)))
          obtain ⟨k1, k2, k3⟩ := hfin _ _ _ hA
          simp only [List.cons_append, List.nil_append] at k3
          exact ⟨k1, rfl, k3.pick (by with_reducible repeat (first | exact Picks.nil | refine Picks.cons (by with_reducible repeat (first | exact Sel.here | apply Sel.there)) ?_)), by rw [(hsn _).out]; exact hk.out⟩
        · have hk := Lib.hid (step_part (acc := ws.map bl) hp)
          clear e0 e1 hne
          obtain ⟨ax, kn, cap, hv0, hkn⟩ := hA.row_hid (v := v) (xs := flatS ws) (by with_reducible repeat (first | exact Sel.here | apply Sel.there))
          subst hv0
          gi_wp2_with (first | (refine wpListIn_store_at (by exact fun _ => trivial) rfl rfl rfl (by (try simp only [Act.eval, eV]) <;> exact rfl) (by exact rfl) hA (by with_reducible repeat (first | exact Sel.here | apply Sel.there)) (by kernel_rfl) rfl (by first | decide | (simp; done) | omega) ?_; intro w1 hB; clear hF hA; have hA := hB; clear hB; (try simp only [uA] at hA); have hF := hA.facts; (try simp only [fA, facts_row, and_true, true_and] at hF); try go_frame))
          refine ⟨trivial, (CallsIn.inRound l (callsIn_wide.2 (part_any x W))).mono ?_⟩
          rw [show partB x.data.toList = true from hp]
          rintro e w1 ⟨rfl, hT⟩
          have hB := hA.ext hT
          clear hF hA hT
          have hA := hB
          clear hB
          have hF := hA.facts
          (try simp only [uA] at hA); have hF := hA.facts; (try simp only [fA, facts_row, and_true, true_and] at hF)
          gi_wp2_with (first | (refine wpListIn_store_at (by exact fun _ => trivial) rfl rfl rfl (by (try simp only [Act.eval, eV]) <;> exact rfl) (by exact rfl) hA (by with_reducible repeat (first | exact Sel.here | apply Sel.there)) (by kernel_rfl) rfl (by first | decide | (simp; done) | omega) ?_; intro w1 hB; clear hF hA; have hA := hB; clear hB; (try simp only [uA] at hA); have hF := hA.facts; (try simp only [fA, facts_row, and_true, true_and] at hF); try go_frame) | (refine wpListIn_one_at (e := 9) (vs := strC x) (by exact fun _ => trivial) rfl rfl (by (try simp only [Act.eval, eV]) <;> exact rfl) (fun _ => by kernel_rfl) hA ?_; intro b2 w1 hB hb2; clear hF hA; have hA := hB; clear hB; (try simp only [uA] at hA); have hF := hA.facts; (try simp only [fA, facts_row, and_true, true_and] at hF); try go_frame) | (refine wpListIn_append_at (e := 9) (size := 1) (v := .slice ax kn cap) (xs := flatS ws) (m0 := ws.length) (m := 1) (news := strC x) (by exact fun _ => trivial) rfl _ _ 87 rfl Tryd.underlying87 hi0 hz0 hz1 hz2 rfl (by omega) hA (by with_reducible repeat (first | exact Sel.here | apply Sel.there)) (by (try simp only [Act.eval, eV]) <;> exact rfl) (by (try simp only [Act.eval, eV]) <;> exact rfl) rfl (hA.cells_reads (by with_reducible repeat (first | exact Sel.here | apply Sel.there)) _ _) (strC_one x) (by unfold maxLen; omega) (by omega) ?_; intro v1 w1 hB; obtain ⟨ax3, n3, cap3, hv3, hn3⟩ := hB.row_hid .here; subst hv3; clear hF hA; have hA := hB; clear hB; (try simp only [uA] at hA); have hF := hA.facts; (try simp only [fA, facts_row, and_true, true_and] at hF); try go_frame))
          rw [show flatS ws ++ strC x = flatS (ws ++ [x]) by simp [flatS, List.flatMap_append], show ws.length + 1 = (ws ++ [x]).length by simp] at hA
          obtain ⟨k1, k2, k3⟩ := hfin _ _ _ hA
          simp only [List.cons_append, List.nil_append] at k3
          exact ⟨k1, k2, _, ws ++ [x], k3.pick (by repeat (first | exact Picks.nil | refine Picks.cons (by repeat (first | exact Sel.here | apply Sel.there)) ?_)), by rw [(hsn _).out]; exact hk.out.trans (by simp), by simp; omega⟩
  case done =>
    rintro D xs W hD hS ⟨v, ws, hA, hwk, hle⟩ hK
    rw [hS] at hwk
    obtain ⟨ax, kn, cap, hv0, hkn⟩ := hA.row_hid (v := v) (xs := flatS ws) (by with_reducible repeat (first | exact Sel.here | apply Sel.there))
    subst hv0
    have hwk' := Lib.hid hwk
    have hSl : xs.length = (splits (bl s)).length := by rw [← hS]; simp
    have hS' := Lib.hid hSl
    have hK' := Lib.hid hK
    clear hS hwk hSl hK
    have hcl : ∀ A ∈ [Part.hole (w.heap.size + 3), Part.cells (w.heap.size + 2) [.slice ax kn cap] 87, rowS (.slice ax kn cap) ws, Part.cells w.heap.size [.slice none 0 0] 87, Part.cells (w.heap.size + 1) [.int .i64 0] 65, Part.hole (w.heap.size + 4), Part.hole (w.heap.size + 5)], A.Cl := by
      intro A hA
      simp only [List.mem_cons, List.not_mem_nil, or_false] at hA
      rcases hA with rfl | rfl | rfl | rfl | rfl | rfl | rfl
      all_goals first | exact Part.cl_hole _ | exact Part.cl_cells _ _ _ | exact Part.cl_row _ _ _ _ _
    have hcl2 : ∀ A ∈ [Part.cells (w.heap.size + 1) [.int .i64 0] 65, Part.cells w.heap.size [.slice ax kn cap] 87, Part.hole (w.heap.size + 3), Part.cells (w.heap.size + 2) [.slice ax kn cap] 87, rowS (.slice ax kn cap) ws, Part.hole (w.heap.size + 4), Part.hole (w.heap.size + 5)], A.Cl := by
      intro A hA
      simp only [List.mem_cons, List.not_mem_nil, or_false] at hA
      rcases hA with rfl | rfl | rfl | rfl | rfl | rfl | rfl
      all_goals first | exact Part.cl_hole _ | exact Part.cl_cells _ _ _ | exact Part.cl_row _ _ _ _ _
    have hbk := fun (L' : List Part) (W' : World) (t : At _ W L' W') => (⟨hA.trans t, (t.keepsFrom hA.sep hcl 0).same D _ (Nat.zero_le _) hK'.out rfl⟩ : At [] w L' W' ∧ W'.heap[D]? = some (.deferred (some [])))
    have hA2 := At.start hA.sep
    clear hA hcl
    have hA := hA2
    clear hA2
    have hF := hA.facts
    (try simp only [uA] at hA); have hF := hA.facts; (try simp only [fA, facts_row, and_true, true_and] at hF)
    gi_wp2_with (first | (refine wpListIn_store_at (by exact fun _ => trivial) rfl rfl rfl (by (try simp only [Act.eval, eV]) <;> exact rfl) (by exact rfl) hA (by with_reducible repeat (first | exact Sel.here | apply Sel.there)) (by kernel_rfl) rfl (by first | decide | (simp; done) | omega) ?_; intro w1 hB; clear hF hA; have hA := hB; clear hB; (try simp only [uA] at hA); have hF := hA.facts; (try simp only [fA, facts_row, and_true, true_and] at hF); try go_frame))
    obtain ⟨g1, g2⟩ := hbk _ _ hA
    have g3 := g1.ownB (Bs := w.heap.size + 3) (by with_reducible repeat (first | exact Sel.here | apply Sel.there)) hcl2 (B := W5.heap.size) (by omega) (grownBy_putObj' w1 D (.deferred none)) (fun r e => by cases e; exact .inr ⟨hD, _, g2, rfl⟩)
    have hF3 := g3.facts
    (try simp only [facts_cons, facts_nil, facts_cells, facts_old, facts_fact, facts_obj, facts_map, facts_iter, facts_row, and_true, true_and] at hF3)
    clear hF hA hbk hcl2 g1
    refine ⟨by simp, .inl ⟨_, _, rfl, run_takeDeferred g2, ?_⟩⟩
    refine ⟨.tuple #[.slice ax kn cap, .int .i64 0], by simp [results, Tryd.results44, go_sem, hF3], ?_⟩
    have hl := splits_len_le (bl s)
    have hl2 := hS'.out
    have hl3 : (bl s).length = s.size := by simp
    exact ⟨_, ws, by rw [hwk'.out]; rfl, g3.pick (by with_reducible repeat (first | exact Picks.nil | refine Picks.cons (by with_reducible repeat (first | exact Sel.here | apply Sel.there)) ?_)), .inl hwk'.out, by omega⟩
  case stop =>
    rintro D c pre W hD hS ⟨rfl, hA, hwk⟩ hK
    have hnone : walkL [] (splits (bl s)) = none := by
      obtain ⟨r, hr⟩ := hS
      rw [← hr, walk_app, hwk]
      rfl
    have hn' := Lib.hid hnone
    clear hS hwk hnone
    have hcl : ∀ A ∈ [Part.hole (w.heap.size + 3), Part.cells w.heap.size [.slice none 0 0] 87, Part.cells (w.heap.size + 1) [.int .i64 30] 65], A.Cl := by
      intro A hA
      simp only [List.mem_cons, List.not_mem_nil, or_false] at hA
      rcases hA with rfl | rfl | rfl
      all_goals first | exact Part.cl_hole _ | exact Part.cl_cells _ _ _
    have g3 := hA.ownB (Bs := w.heap.size + 3) (by with_reducible repeat (first | exact Sel.here | apply Sel.there)) hcl (B := W5.heap.size) (by omega) (grownBy_putObj' W D (.deferred none)) (fun r e => by cases e; exact .inr ⟨hD, _, hK, rfl⟩)
    have hF3 := g3.facts
    (try simp only [facts_cons, facts_nil, facts_cells, facts_old, facts_fact, facts_obj, facts_map, facts_iter, facts_row, and_true, true_and] at hF3)
    have g4 := g3.row_nil 9 1
    clear hA hcl
    gi_wp2
    refine ⟨by simp, .inl ⟨_, _, rfl, run_takeDeferred hK, ?_⟩⟩
    refine ⟨.tuple #[.slice none 0 0, .int .i64 30], by simp [results, Tryd.results44, go_sem, hF3], ?_⟩
    exact ⟨_, [], by rw [hn'.out]; rfl, g4.pick (by repeat (first | exact Picks.nil | refine Picks.cons (by repeat (first | exact Sel.here | apply Sel.there)) ?_)), .inr ⟨hn'.out, rfl⟩, by simp⟩
end Go.Proofs.YtpbeennielgogaaDoor.Path
