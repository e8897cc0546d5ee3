/- PathJ, PathK, PathL, joined. -/
import Derived.Test.YtgbpfgdjnhbcgaaGreatDoorQ3
set_option linter.unusedSimpArgs false
set_option linter.unusedVariables false
set_option maxRecDepth 100000
set_option maxHeartbeats 16000000
section
namespace Go.Proofs.YtgbpfgdjnhbcgaaGreatDoor.Path
open Go.RowKit Go.Shelf
attribute [local go_sem] Oper.semAt_some
def strC (x : ByteArray) : List Value := [.string x]
theorem strC_len (x : ByteArray) : (strC x).length = 1 := rfl
theorem strC_one (x : ByteArray) : ∀ u ∈ strC x, u.oneCell' = true := by intro u hu; simp [strC] at hu; subst hu; rfl
def flatS (ws : List ByteArray) : List Value := ws.flatMap strC
abbrev rowS (v : Value) (ws : List ByteArray) : Part := Part.row 9 1 v ws.length (flatS ws)
theorem infoStr : (Tryz.prog.info? 9).map (fun i => (i.zero, i.size, i.bytes)) = some (some (.string .empty), 1, 16) := by kernel_rfl
def WI (w : World) (N : Nat) (pre : List ByteArray) (W : World) : Prop :=
 ∃ (v : Value) (ws : List ByteArray), At [] w [Part.hole (N + 3), Part.cells (N + 2) [v] 121, rowS v ws, Part.cells N [.slice none 0 0] 121, Part.cells (N + 1) [.int .i64 0] 69, Part.hole (N + 4), Part.hole (N + 5)] W ∧
  walkL [] (pre.map bl) = some (ws.map bl) ∧ ws.length ≤ pre.length
def WIx (w : World) (N : Nat) (c : Code) (pre : List ByteArray) (W : World) : Prop :=
 c = .ret ∧ At [] w [Part.hole (N + 3), Part.cells N [.slice none 0 0] 121, Part.cells (N + 1) [.int .i64 30] 69] W ∧ walkL [] (pre.map bl) = none
theorem wi_own (w : World) (N B : Nat) (hB : w.heap.size ≤ B) : OwnB (N + 3) B (WI w N) := by
 rintro pre W W' row ⟨v, ws, hA, h1, h2⟩ hg hr
 refine ⟨v, ws, hA.ownB sR ?_ hB hg hr, h1, h2⟩
 intro A hA
 simp only [List.mem_cons, List.not_mem_nil, or_false] at hA
 rcases hA with rfl | rfl | rfl | rfl | rfl | rfl | rfl
 all_goals first | exact Part.cl_hole _ | exact Part.cl_cells _ _ _ | exact Part.cl_row _ _ _ _ _
theorem wix_own (w : World) (N B : Nat) (hB : w.heap.size ≤ B) (c : Code) : OwnB (N + 3) B (WIx w N c) := by
 rintro pre W W' row ⟨hc, hA, h1⟩ hg hr
 refine ⟨hc, hA.ownB sR ?_ hB hg hr, h1⟩
 intro A hA
 simp only [List.mem_cons, List.not_mem_nil, or_false] at hA
 rcases hA with rfl | rfl | rfl
 all_goals first | exact Part.cl_hole _ | exact Part.cl_cells _ _ _
def walkRes : Option (List Bs) → Int
 | none => 30
 | some _ => 0
def WalkPost (s : ByteArray) (w : World) (e : Ending) (w' : World) : Prop :=
 ∃ (v : Value) (ws : List ByteArray), e = .returned (.tuple #[v, .int .i64 (walkRes (walkL [] (splits (bl s))))]) ∧ At [] w [rowS v ws] w' ∧ (walkL [] (splits (bl s)) = some (ws.map bl) ∨ walkL [] (splits (bl s)) = none ∧ ws = []) ∧ ws.length ≤ s.size + 1
theorem splits_len_le : ∀ l : Bs, (splits l).length ≤ l.length + 1
 | [] => by simp [splits]
 | c :: r => by
  have ih := splits_len_le r
  rw [splits_cons]
  split
  · simpa using ih
  · simp; omega
theorem walk_app (l m acc : List Bs) : walkL acc (l ++ m) = (walkL acc l).bind fun a => walkL a m := by
 induction l generalizing acc with
 | nil => rfl
 | cons p l ih =>
  rw [List.cons_append, walkL, walkL]
  cases stepW acc p with
  | none => rfl
  | some a => exact ih a
theorem splitSeq_in (n : Nat) (s : ByteArray) (w : World) : CallsIn Fence.wide n Tryz.prog 99 #[.string s, .string ⟨#[47]⟩] w fun e w' =>
 e = .returned (.func (.func 111) #[] #[.pointer (some ⟨w.heap.size + 1, 0, none⟩), .pointer (some ⟨w.heap.size, 0, none⟩), .pointer (some ⟨w.heap.size + 2, 0, none⟩)]) ∧
  ((w.alloc (.cells #[.string s] 9)).alloc (.cells #[.string ⟨#[47]⟩] 9)).alloc (.cells #[.int .i64 0] 3) = w' :=
 callsIn_wide.2 ((splitSeq_any s w).mono fun _ _ ⟨he, hw⟩ => ⟨he, hw.symm⟩)
theorem _root_.Go.Proofs.YtgbpfgdjnhbcgaaGreatDoor.At.toHole {L0 L G : List Part} {w0 w : World} {b : Nat} {c : List Value} {T : TypeId} (h : At L0 w0 L w) (s : Sel (Part.cells b c T) L G) : At L0 w0 (Part.hole b :: G) w :=
 h.turn s (Part.hole b) ⟨_, (h.get s : BlockIs w b c T), rfl⟩ (fun _ e => .inl e) (Exc.refl _ _)
def start6 (s : ByteArray) (w : World) : World := (((((w.alloc (.cells #[.slice none 0 0] 121)).alloc (.cells #[.int .i64 0] 69)).alloc (.cells #[.slice none 0 0] 121)).alloc (.cells #[.string s] 9)).alloc (.cells #[.string ⟨#[47]⟩] 9)).alloc (.cells #[.int .i64 0] 3)
theorem start6_at (s : ByteArray) (w : World) : At [] w [rowS (.slice none 0 0) [], Part.hole (w.heap.size + 5), Part.hole (w.heap.size + 4), Part.hole (w.heap.size + 3), Part.cells (w.heap.size + 2) [.slice none 0 0] 121, Part.cells (w.heap.size + 1) [.int .i64 0] 69, Part.cells w.heap.size [.slice none 0 0] 121] (start6 s w) ∧
 Boxed (start6 s w) (w.heap.size + 3) 9 (.string s) ∧ Boxed (start6 s w) (w.heap.size + 4) 9 (.string ⟨#[47]⟩) ∧ Boxed (start6 s w) (w.heap.size + 5) 3 (.int .i64 0) ∧ (start6 s w).heap.size = w.heap.size + 6 := by
 have q := (At.start (w0 := w) (L0 := []) trivial).alloc [.slice none 0 0] 121
 have q := q.alloc [.int .i64 0] 69
 have q := q.alloc [.slice none 0 0] 121
 have q := q.alloc [.string s] 9
 have q := q.alloc [.string ⟨#[47]⟩] 9
 have q := q.alloc [.int .i64 0] 3
 simp only [World.size_alloc, Nat.add_assoc, Nat.reduceAdd] at q
 change At [] w _ (start6 s w) at q
 have b1 : Boxed (start6 s w) (w.heap.size + 3) 9 (.string s) := q.get (A := Part.cells (w.heap.size + 3) [.string s] 9) sR
 have b2 : Boxed (start6 s w) (w.heap.size + 4) 9 (.string ⟨#[47]⟩) := q.get (A := Part.cells (w.heap.size + 4) [.string ⟨#[47]⟩] 9) sR
 have b3 : Boxed (start6 s w) (w.heap.size + 5) 3 (.int .i64 0) := q.get (A := Part.cells (w.heap.size + 5) [.int .i64 0] 3) sR
 have q := q.toHole (b := w.heap.size + 3) sR
 have q := q.toHole (b := w.heap.size + 4) sR
 have q := q.toHole (b := w.heap.size + 5) sR
 have q := q.row_nil 9 1
 exact ⟨q, b1, b2, b3, by simp [start6]⟩
theorem body_fin {w W W' : World} {N B : Nat} {K K' : List Part} (h : At [] w (K ++ [Part.hole (N + 3), Part.hole (N + 4), Part.hole (N + 5)]) W) (hc : ∀ A ∈ K, A.Cl) (t : At K W K' W') :
 KeepsFrom B W W' ∧ keep3 (N + 3) (N + 4) (N + 5) W W' ∧ At [] w (K' ++ [Part.hole (N + 3), Part.hole (N + 4), Part.hole (N + 5)]) W' := by
 obtain ⟨s1, s2, s3⟩ := h.sep.apart2
 refine ⟨t.keepsFrom s1 hc B, fun b hb => ?_, h.frame t⟩
 have key : ∀ H : Part, H ∈ [Part.hole (N + 3), Part.hole (N + 4), Part.hole (N + 5)] → H.foot b → W'.heap[b]? = W.heap[b]? := fun H hH hf =>
  t.exc.block b (s2.lt hH hf) (fun ⟨A, hA, ha⟩ => s3 A hA H hH b ha hf)
 rcases hb with rfl | rfl | rfl
 · exact key (Part.hole (N + 3)) (by simp) rfl
 · exact key (Part.hole (N + 4)) (by simp) rfl
 · exact key (Part.hole (N + 5)) (by simp) rfl
theorem step_nil {acc : List Bs} : stepW acc [] = some acc := by simp [stepW]
theorem step_dot {acc : List Bs} : stepW acc [46] = some acc := by simp [stepW]
theorem step_up0 : stepW [] [46, 46] = none := by simp [stepW]
theorem step_up {acc : List Bs} (h : acc ≠ []) : stepW acc [46, 46] = some acc.dropLast := by simp [stepW, h]
theorem step_no {acc : List Bs} {p : Bs} (h0 : p ≠ []) (h1 : p ≠ [46]) (h2 : p ≠ [46, 46]) (h : partB p = false) : stepW acc p = none := by
 have h3 : ¬ p.all letB = true := fun q => by rw [partB_iff.2 ⟨h0, q⟩] at h; cases h
 simp [stepW, h0, h1, h2, h3]
theorem bytes_ext {x y : ByteArray} (h : bl x = bl y) : x = y := Go.WideShapes.bytes_inj h
theorem walk_snoc {pre : List ByteArray} {x : ByteArray} {acc : List Bs} (h : walkL [] (pre.map bl) = some acc) : walkL [] ((pre ++ [x]).map bl) = stepW acc (bl x) := by
 rw [List.map_append, walk_app, h]
 simp only [List.map_cons, List.map_nil, Option.bind_some, walkL]
 cases stepW acc (bl x) <;> rfl
theorem _root_.Go.Proofs.YtgbpfgdjnhbcgaaGreatDoor.At.trans {L0 L L' : List Part} {w0 w w' : World} (h : At L0 w0 L w) (t : At L w L' w') : At L0 w0 L' w' := by
 have := At.frame (F := []) (K := L) (by simpa using h) t
 simpa using this
def WAct (s : ByteArray) (w : World) (x : ByteArray) : Act :=
 { tmps := #[.string s, undef, .pointer (some ⟨w.heap.size, 0, none⟩), .pointer (some ⟨w.heap.size + 1, 0, none⟩), .pointer (some ⟨w.heap.size + 2, 0, none⟩), .string x, .string s, .func (.func 111) #[] #[.pointer (some ⟨w.heap.size + 4, 0, none⟩), .pointer (some ⟨w.heap.size + 3, 0, none⟩), .pointer (some ⟨w.heap.size + 5, 0, none⟩)], .string x,
   undef, undef, undef, undef, undef, undef, undef, undef, undef, undef, undef, undef, undef, undef, undef, undef, undef, undef, undef, undef, undef, undef, undef, undef, undef, undef, undef, undef, undef, undef, undef, undef], defers := [] }
theorem walk_any (s : ByteArray) (w : World) (hs : s.size ≤ 2000000) : Calls Tryz.prog 87 #[.string s] w (WalkPost s w) := by
 obtain ⟨i0, hi0, hz0, hz1, hz2⟩ := info_parts infoStr
 refine (callsIn_wide (n := 9)).1 ?_
 refine callsIn_of_wp_marks Tryz.func87 rfl trivial ?_ rfl
 simp only [Tryz.ntmps87, List.size_toArray, List.length_cons, List.length_nil, Nat.reduceAdd, Nat.reduceSub, Array.replicate_succ, Array.replicate_zero, List.push_toArray, List.append_toArray, List.nil_append, List.cons_append]
 gi_wp2
 refine ⟨trivial, (splitSeq_in 8 s _).mono ?_⟩
 rintro e _ ⟨rfl, rfl⟩
 gi_wp2
 obtain ⟨W5, hW5⟩ : ∃ W5, start6 s w = W5 := ⟨_, rfl⟩
 obtain ⟨q, b1, b2, b3, hsz⟩ := start6_at s w
 simp only [World.size_alloc, Nat.add_assoc, Nat.reduceAdd]
 rw [show ((((((w.alloc (.cells #[.slice none 0 0] 121)).alloc (.cells #[.int .i64 0] 69)).alloc (.cells #[.slice none 0 0] 121)).alloc (.cells #[.string s] 9)).alloc (.cells #[.string ⟨#[47]⟩] 9)).alloc (.cells #[.int .i64 0] 3)) = W5 from hW5]
 rw [hW5] at q b1 b2 b3 hsz
 clear hW5
 refine wpIn_rangeFunc_B rfl (by omega) (gf := 111) (lb := #[.pointer (some ⟨w.heap.size + 4, 0, none⟩), .pointer (some ⟨w.heap.size + 3, 0, none⟩), .pointer (some ⟨w.heap.size + 5, 0, none⟩)]) rfl trivial (enters_of Tryz.func111 (by kernel_rfl) rfl)
  (encs := fun x : ByteArray => #[.string x]) (Bs := w.heap.size + 3) (Kp := keep3 (w.heap.size + 3) (w.heap.size + 4) (w.heap.size + 5)) (S := fun xs => xs.map bl = splits (bl s)) (Sp := fun pre => pre.map bl <+: splits (bl s)) (N := 2000001)
  (fun l J Jx W hW hJ hY h0 => split1_in _ (by omega) l _ _ _ (by omega) (by omega) s hs J Jx W hJ hY ((hW.block _ b1.lt).trans b1) ((hW.block _ b2.lt).trans b2) ((hW.block _ b3.lt).trans b3) h0)
  (by omega) (fun h k b hb => (k b hb).trans (h b hb)) (fun W l o' hl b hb => World.putObj_heap_other (by omega)) (fun _ => rfl)
  (WI w w.heap.size) (WIx w w.heap.size) (wi_own _ _ _ (by omega)) (wix_own _ _ _ (by omega)) ⟨_, [], q.pick (by with_reducible repeat (first | exact Picks.nil | refine Picks.cons sR ?_)), rfl, by simp⟩ (WAct s w) ?assign ?body ?done ?stop
 case assign =>
  intro l x W K hK
  gi_wp2
  exact hK
 case body =>
  rintro l pre x W ⟨v, ws, hA, hwk, hle⟩ hlen
  have h0 := hA.pick (K := [Part.cells (w.heap.size + 2) [v] 121, rowS v ws, Part.cells w.heap.size [.slice none 0 0] 121, Part.cells (w.heap.size + 1) [.int .i64 0] 69, Part.hole (w.heap.size + 3), Part.hole (w.heap.size + 4), Part.hole (w.heap.size + 5)]) (by with_reducible repeat (first | exact Picks.nil | refine Picks.cons sR ?_))
  have h1 : At [] w ([Part.cells (w.heap.size + 2) [v] 121, rowS v ws, Part.cells w.heap.size [.slice none 0 0] 121, Part.cells (w.heap.size + 1) [.int .i64 0] 69] ++ [Part.hole (w.heap.size + 3), Part.hole (w.heap.size + 4), Part.hole (w.heap.size + 5)]) W := h0
  have hcl : ∀ A ∈ [Part.cells (w.heap.size + 2) [v] 121, rowS v ws, Part.cells w.heap.size [.slice none 0 0] 121, Part.cells (w.heap.size + 1) [.int .i64 0] 69], A.Cl := by
   intro A hA
   simp only [List.mem_cons, List.not_mem_nil, or_false] at hA
   rcases hA with rfl | rfl | rfl | rfl
   all_goals first | exact Part.cl_cells _ _ _ | exact Part.cl_row _ _ _ _ _
  have hfin := fun (B : Nat) (K' : List Part) (W' : World) (t : At _ W K' W') => body_fin (B := B) h1 hcl t
  have hA2 := At.start h1.sep.apart2.1
  have hsn := fun x => Lib.hid (walk_snoc (x := x) hwk)
  clear hA h0 h1 hcl hwk hsz q b1 b2 b3
  have hA := hA2
  clear hA2
  have hF := hA.facts; (try simp only [uZ] at hA hF)
  unfold WAct
  by_cases e0 : bl x = [] ∨ bl x = [46]
  · have hk : stepW (ws.map bl) (bl x) = some (ws.map bl) := by rcases e0 with e | e <;> rw [e] <;> first | exact step_nil | exact step_dot
    have hk' := Lib.hid hk
    clear hk
    rcases e0 with e0 | e0
    · obtain rfl : x = ⟨#[]⟩ := bytes_ext e0
      gi_wp2
      obtain ⟨k1, k2, k3⟩ := hfin _ _ _ hA; simp only [List.cons_append, List.nil_append] at k3
      exact ⟨k1, k2, v, ws, k3.pick (by with_reducible repeat (first | exact Picks.nil | refine Picks.cons sR ?_)), by rw [(hsn _).out, hk'.out], by simp; omega⟩
    · obtain rfl : x = ⟨#[46]⟩ := bytes_ext e0
      gi_wp2
      obtain ⟨k1, k2, k3⟩ := hfin _ _ _ hA; simp only [List.cons_append, List.nil_append] at k3
      exact ⟨k1, k2, v, ws, k3.pick (by with_reducible repeat (first | exact Picks.nil | refine Picks.cons sR ?_)), by rw [(hsn _).out, hk'.out], by simp; omega⟩
  · by_cases e1 : bl x = [46, 46]
    · obtain rfl : x = ⟨#[46, 46]⟩ := bytes_ext e1
      clear e0
      obtain ⟨ax, cap, rfl, hax, hcap, _⟩ := hA.row_form (v := v) (xs := flatS ws) sR
      by_cases e2 : ws = []
      · subst e2
        gi_wp2_with (first | (refine wpListIn_store_at (by exact fun _ => trivial) rfl rfl rfl (by (try simp only [Act.eval, eV]) <;> exact rfl) (by exact rfl) hA sR (by kernel_rfl) rfl (by first | decide | (simp; done) | omega) ?_; intro w1 hB; clear hF hA; have hA := hB; clear hB; have hF := hA.facts; (try simp only [uZ] at hA hF)))
        obtain ⟨k1, k2, k3⟩ := hfin _ _ _ hA
        simp only [List.cons_append, List.nil_append] at k3
        exact ⟨k1, rfl, k3.pick (by with_reducible repeat (first | exact Picks.nil | refine Picks.cons sR ?_)), by rw [(hsn _).out]; exact step_up0⟩
      · have hl : 0 < ws.length := List.length_pos_iff.2 e2
        have hl1 : ((ws.length : Int) == 0) = false := by simpa using e2
        have hl2 := Lib.hid (show ((ws.length : Int) - 1) = ((ws.length - 1 : Nat) : Int) by omega)
        have e2' := Lib.hid e2
        clear e2
        gi_wp2_with (first | (refine wpListIn_store_at (by exact fun _ => trivial) rfl rfl rfl (by (try simp only [Act.eval, eV]) <;> exact rfl) (by exact rfl) hA sR (by kernel_rfl) rfl (by first | decide | (simp; done) | omega) ?_; intro w1 hB; clear hF hA; have hA := hB; clear hB; have hF := hA.facts; (try simp only [uZ] at hA hF)) | (refine wpListIn_cut_at (k := ws.length - 1) (by exact fun _ => trivial) rfl rfl Tryz.underlying121 hi0 hz1 (by (try simp only [Act.eval, eV]) <;> exact rfl) (by exact congrArg (Value.int .i64) hl2.out) hA sR (by omega) ?_; intro v1 hB; obtain ⟨ax3, n3, cap3, hv3, hn3⟩ := hB.row_hid .here; subst hv3; clear hF hA; have hA := hB; clear hB; have hF := hA.facts; (try simp only [uZ] at hA hF)))
        have e3 : (flatS ws).take ((ws.length - 1) * 1) = flatS ws.dropLast := by
         unfold flatS
         rw [flat_take strC_len, List.dropLast_eq_take]
        have e4 : ws.length - 1 = ws.dropLast.length := by simp
        rw [e3] at hA
        have hA2 : At _ W _ w1 := hA
        rw [e4] at hA2
        obtain ⟨k1, k2, k3⟩ := hfin _ _ _ hA2
        simp only [List.cons_append, List.nil_append] at k3
        exact ⟨k1, k2, _, ws.dropLast, k3.pick pZ, by rw [(hsn _).out]; exact (step_up (by simpa using e2'.out)).trans (by rw [List.map_dropLast]), by simp; omega⟩
    · have n0 : x.toList.isEmpty = false := by
       rw [Lib.toList_data]
       cases q : x.data.toList
       · exact absurd (Or.inl q) e0
       · rfl
      have n1 : (x.toList == [46]) = false := by rw [Lib.toList_data]; simpa using fun q => e0 (Or.inr q)
      have n2 : (x.toList == [46, 46]) = false := by rw [Lib.toList_data]; simpa using e1
      have hne : bl x ≠ [] := fun q => e0 (Or.inl q)
      cases hp : partB (bl x)
      · have hk := Lib.hid (step_no (acc := ws.map bl) hne (fun q => e0 (Or.inr q)) e1 hp)
        clear e0 e1 hne
        obtain ⟨ax, cap, rfl, hax, hcap, _⟩ := hA.row_form (v := v) (xs := flatS ws) sR
        gi_wp2_with (first | (refine wpListIn_store_at (by exact fun _ => trivial) rfl rfl rfl (by (try simp only [Act.eval, eV]) <;> exact rfl) (by exact rfl) hA sR (by kernel_rfl) rfl (by first | decide | (simp; done) | omega) ?_; intro w1 hB; clear hF hA; have hA := hB; clear hB; have hF := hA.facts; (try simp only [uZ] at hA hF)))
        refine ⟨trivial, (CallsIn.inRound l (callsIn_wide.2 (part_any x W))).mono ?_⟩
        rw [show partB x.data.toList = false from hp]
        rintro e w1 ⟨rfl, hT⟩
        have hB := hA.ext hT
        clear hF hA hT; have hA := hB; clear hB
        have hF := hA.facts; (try simp only [uZ] at hA hF)
        gi_wp2_with (first | (refine wpListIn_store_at (by exact fun _ => trivial) rfl rfl rfl (by (try simp only [Act.eval, eV]) <;> exact rfl) (by exact rfl) hA sR (by kernel_rfl) rfl (by first | decide | (simp; done) | omega) ?_; intro w1 hB; clear hF hA; have hA := hB; clear hB; have hF := hA.facts; (try simp only [uZ] at hA hF)))
        obtain ⟨k1, k2, k3⟩ := hfin _ _ _ hA
        simp only [List.cons_append, List.nil_append] at k3
        exact ⟨k1, rfl, k3.pick (by with_reducible repeat (first | exact Picks.nil | refine Picks.cons sR ?_)), by rw [(hsn _).out]; exact hk.out⟩
      · have hk := Lib.hid (step_part (acc := ws.map bl) hp)
        clear e0 e1 hne
        obtain ⟨ax, kn, cap, hv0, hkn⟩ := hA.row_hid (v := v) (xs := flatS ws) sR
        subst hv0
        gi_wp2_with (first | (refine wpListIn_store_at (by exact fun _ => trivial) rfl rfl rfl (by (try simp only [Act.eval, eV]) <;> exact rfl) (by exact rfl) hA sR (by kernel_rfl) rfl (by first | decide | (simp; done) | omega) ?_; intro w1 hB; clear hF hA; have hA := hB; clear hB; have hF := hA.facts; (try simp only [uZ] at hA hF); try go_frame))
        refine ⟨trivial, (CallsIn.inRound l (callsIn_wide.2 (part_any x W))).mono ?_⟩
        rw [show partB x.data.toList = true from hp]
        rintro e w1 ⟨rfl, hT⟩
        have hB := hA.ext hT
        clear hF hA hT; have hA := hB; clear hB
        have hF := hA.facts; (try simp only [uZ] at hA hF)
        gi_wp2_with (first | (refine wpListIn_store_at (by exact fun _ => trivial) rfl rfl rfl (by (try simp only [Act.eval, eV]) <;> exact rfl) (by exact rfl) hA sR (by kernel_rfl) rfl (by first | decide | (simp; done) | omega) ?_; intro w1 hB; clear hF hA; have hA := hB; clear hB; have hF := hA.facts; (try simp only [uZ] at hA hF); try go_frame) | (refine wpListIn_one_at (e := 9) (vs := strC x) (by exact fun _ => trivial) rfl rfl (by (try simp only [Act.eval, eV]) <;> exact rfl) (fun _ => by kernel_rfl) hA ?_; intro b2 w1 hB hb2; clear hF hA; have hA := hB; clear hB; have hF := hA.facts; (try simp only [uZ] at hA hF); try go_frame) | (refine wpListIn_append_at (e := 9) (size := 1) (v := .slice ax kn cap) (xs := flatS ws) (m0 := ws.length) (m := 1) (news := strC x) (by exact fun _ => trivial) rfl _ _ 121 rfl Tryz.underlying121 hi0 hz0 hz1 hz2 rfl (by omega) hA sR (by (try simp only [Act.eval, eV]) <;> exact rfl) (by (try simp only [Act.eval, eV]) <;> exact rfl) rfl (hA.cells_reads sR _ _) (strC_one x) (by unfold maxLen; omega) (by omega) ?_; intro v1 w1 hB; obtain ⟨ax3, n3, cap3, hv3, hn3⟩ := hB.row_hid .here; subst hv3; clear hF hA; have hA := hB; clear hB; have hF := hA.facts; (try simp only [uZ] at hA hF); try go_frame))
        rw [show flatS ws ++ strC x = flatS (ws ++ [x]) by simp [flatS, List.flatMap_append], show ws.length + 1 = (ws ++ [x]).length by simp] at hA
        obtain ⟨k1, k2, k3⟩ := hfin _ _ _ hA
        simp only [List.cons_append, List.nil_append] at k3
        exact ⟨k1, k2, _, ws ++ [x], k3.pick pZ, by rw [(hsn _).out]; exact hk.out.trans (by simp), by simp; omega⟩
 case done =>
  rintro D xs W hD hS ⟨v, ws, hA, hwk, hle⟩ hK
  rw [hS] at hwk
  obtain ⟨ax, kn, cap, hv0, hkn⟩ := hA.row_hid (v := v) (xs := flatS ws) sR
  subst hv0
  have hwk' := Lib.hid hwk
  have hSl : xs.length = (splits (bl s)).length := by rw [← hS]; simp
  have hS' := Lib.hid hSl
  have hK' := Lib.hid hK
  clear hS hwk hSl hK
  have hcl : ∀ A ∈ [Part.hole (w.heap.size + 3), Part.cells (w.heap.size + 2) [.slice ax kn cap] 121, rowS (.slice ax kn cap) ws, Part.cells w.heap.size [.slice none 0 0] 121, Part.cells (w.heap.size + 1) [.int .i64 0] 69, Part.hole (w.heap.size + 4), Part.hole (w.heap.size + 5)], A.Cl := by
   intro A hA
   simp only [List.mem_cons, List.not_mem_nil, or_false] at hA
   rcases hA with rfl | rfl | rfl | rfl | rfl | rfl | rfl
   all_goals first | exact Part.cl_hole _ | exact Part.cl_cells _ _ _ | exact Part.cl_row _ _ _ _ _
  have hcl2 : ∀ A ∈ [Part.cells (w.heap.size + 1) [.int .i64 0] 69, Part.cells w.heap.size [.slice ax kn cap] 121, Part.hole (w.heap.size + 3), Part.cells (w.heap.size + 2) [.slice ax kn cap] 121, rowS (.slice ax kn cap) ws, Part.hole (w.heap.size + 4), Part.hole (w.heap.size + 5)], A.Cl := by
   intro A hA
   simp only [List.mem_cons, List.not_mem_nil, or_false] at hA
   rcases hA with rfl | rfl | rfl | rfl | rfl | rfl | rfl
   all_goals first | exact Part.cl_hole _ | exact Part.cl_cells _ _ _ | exact Part.cl_row _ _ _ _ _
  have hbk := fun (L' : List Part) (W' : World) (t : At _ W L' W') => (⟨hA.trans t, (t.keepsFrom hA.sep hcl 0).same D _ (Nat.zero_le _) hK'.out rfl⟩ : At [] w L' W' ∧ W'.heap[D]? = some (.deferred (some [])))
  have hA2 := At.start hA.sep
  clear hA hcl
  have hA := hA2
  clear hA2
  have hF := hA.facts; (try simp only [uZ] at hA hF)
  gi_wp2_with (first | (refine wpListIn_store_at (by exact fun _ => trivial) rfl rfl rfl (by (try simp only [Act.eval, eV]) <;> exact rfl) (by exact rfl) hA sR (by kernel_rfl) rfl (by first | decide | (simp; done) | omega) ?_; intro w1 hB; clear hF hA; have hA := hB; clear hB; have hF := hA.facts; (try simp only [uZ] at hA hF); try go_frame))
  obtain ⟨g1, g2⟩ := hbk _ _ hA
  have g3 := g1.ownB (Bs := w.heap.size + 3) sR hcl2 (B := W5.heap.size) (by omega) (grownBy_putObj' w1 D (.deferred none)) (fun r e => by cases e; exact .inr ⟨hD, _, g2, rfl⟩)
  have hF3 := g3.facts
  (try simp only [facts_cons, facts_nil, facts_cells, facts_old, facts_fact, facts_obj, facts_map, facts_iter, facts_row, and_true, true_and] at hF3)
  clear hF hA hbk hcl2 g1
  refine ⟨by simp, .inl ⟨_, _, rfl, run_takeDeferred g2, ?_⟩⟩
  refine ⟨.tuple #[.slice ax kn cap, .int .i64 0], by simp [results, Tryz.results87, go_sem, hF3], ?_⟩
  have hl := splits_len_le (bl s)
  have hl2 := hS'.out
  have hl3 : (bl s).length = s.size := by simp
  exact ⟨_, ws, by rw [hwk'.out]; rfl, g3.pick (by with_reducible repeat (first | exact Picks.nil | refine Picks.cons sR ?_)), .inl hwk'.out, by omega⟩
 case stop =>
  rintro D c pre W hD hS ⟨rfl, hA, hwk⟩ hK
  have hnone : walkL [] (splits (bl s)) = none := by
   obtain ⟨r, hr⟩ := hS
   rw [← hr, walk_app, hwk]
   rfl
  have hn' := Lib.hid hnone
  clear hS hwk hnone
  have hcl : ∀ A ∈ [Part.hole (w.heap.size + 3), Part.cells w.heap.size [.slice none 0 0] 121, Part.cells (w.heap.size + 1) [.int .i64 30] 69], A.Cl := by
   intro A hA
   simp only [List.mem_cons, List.not_mem_nil, or_false] at hA
   rcases hA with rfl | rfl | rfl
   all_goals first | exact Part.cl_hole _ | exact Part.cl_cells _ _ _
  have g3 := hA.ownB (Bs := w.heap.size + 3) sR hcl (B := W5.heap.size) (by omega) (grownBy_putObj' W D (.deferred none)) (fun r e => by cases e; exact .inr ⟨hD, _, hK, rfl⟩)
  have hF3 := g3.facts
  (try simp only [facts_cons, facts_nil, facts_cells, facts_old, facts_fact, facts_obj, facts_map, facts_iter, facts_row, and_true, true_and] at hF3)
  have g4 := g3.row_nil 9 1
  clear hA hcl
  gi_wp2
  refine ⟨by simp, .inl ⟨_, _, rfl, run_takeDeferred hK, ?_⟩⟩
  refine ⟨.tuple #[.slice none 0 0, .int .i64 30], by simp [results, Tryz.results87, go_sem, hF3], ?_⟩
  exact ⟨_, [], by rw [hn'.out]; rfl, g4.pick pZ, .inr ⟨hn'.out, rfl⟩, by simp⟩
end Go.Proofs.YtgbpfgdjnhbcgaaGreatDoor.Path
end
section
namespace Go.Proofs.YtgbpfgdjnhbcgaaGreatDoor.Path
open Go.RowKit
theorem walk_mem : ∀ {l acc a : List Bs}, walkL acc l = some a → ∀ q ∈ a, q ∈ acc ∨ q ∈ l
 | [], acc, a, h, q, hq => by simp [walkL] at h; subst h; exact .inl hq
 | p :: r, acc, a, h, q, hq => by
  rw [walkL] at h
  cases hs : stepW acc p with
  | none => simp [hs] at h
  | some b =>
   simp only [hs] at h
   rcases walk_mem h q hq with h1 | h1
   · unfold stepW at hs
     split at hs
     · cases hs; exact .inl h1
     · split at hs
       · split at hs
         · cases hs
         · cases hs; exact .inl (List.dropLast_subset _ h1)
       · split at hs
         · cases hs
           rcases List.mem_append.1 h1 with h1 | h1
           · exact .inl h1
           · rw [List.mem_singleton.1 h1]; exact .inr (by simp)
         · cases hs
   · exact .inr (by simp [h1])
theorem splits_mem_len : ∀ (s : Bs), ∀ q ∈ splits s, q.length ≤ s.length
 | [], q, hq => by simp [splits] at hq; subst hq; simp
 | c :: r, q, hq => by
  have ih := splits_mem_len r
  rw [splits_cons] at hq
  split at hq
  · rcases List.mem_cons.1 hq with rfl | hq
    · simp
    · have := ih q hq; simp; omega
  · cases hs : splits r with
    | nil => exact absurd hs (splits_ne r)
    | cons a b =>
     rw [hs] at hq ih
     simp only [List.headD_cons, List.tail_cons] at hq
     rcases List.mem_cons.1 hq with rfl | hq
     · have := ih a (by simp); simp; omega
     · have := ih q (by simp [hq]); simp; omega
theorem join_len : ∀ (l : List Bs) (m : Nat), (∀ q ∈ l, q.length ≤ m) → (joinS l).length ≤ l.length * (m + 1)
 | [], m, _ => by simp [joinS, Lib.join]
 | [p], m, h => by rw [join_one]; have := h p (by simp); simp; omega
 | p :: q :: r, m, h => by
  rw [join_cons _ _ (by simp)]
  have ih := join_len (q :: r) m (fun x hx => h x (by simp [hx]))
  have := h p (by simp)
  simp only [List.length_append, List.length_cons] at ih ⊢
  have e : (r.length + 1 + 1) * (m + 1) = (r.length + 1) * (m + 1) + (m + 1) := by rw [Nat.add_mul (r.length + 1)]; omega
  omega
theorem join_walk_len {s : Bs} {l : List Bs} (h : walkL [] (splits s) = some l) : (joinS l).length ≤ l.length * (s.length + 1) :=
 join_len l s.length (fun q hq => by
  rcases walk_mem h q hq with h1 | h1
  · simp at h1
  · exact splits_mem_len s q h1)
theorem flatS_at {c : List Value} {ws : List ByteArray} (ht : c.take (ws.length * 1) = flatS ws) {j : Nat} {x : ByteArray} (hx : ws[j]? = some x) : c[j]? = some (.string x) := by
 have := cells_at strC_len (enc := strC) ht hx 0 (by omega)
 simpa [strC] using this
def NormPost (s : ByteArray) (w : World) (e : Ending) (w' : World) : Prop :=
 ∃ q : ByteArray, e = .returned (.tuple #[.string q, .int .i64 (normL (bl s)).2]) ∧ bl q = (normL (bl s)).1 ∧ Ext w w'
theorem normal_any (s : ByteArray) (w : World) (hs : s.size ≤ 2000000) : Calls Tryz.prog 66 #[.string s] w (NormPost s w) := by
 have hA := At.start (w0 := w) (L0 := []) trivial
 have hF := hA.facts
 go_enter Tryz.func66, Tryz.ntmps66
 go_wp2_with fail
 refine (walk_any s w hs).mono ?_
 rintro e w1 ⟨v, ws, rfl, hT, hres, hlen⟩
 have hB := hA.call0 hT
 clear hF hA hT; have hA := hB; clear hB
 simp only [List.append_nil] at hA
 obtain ⟨ax, cap, hv, hax0, hcap0, _⟩ := hA.row_form (v := v) (n := ws.length) (xs := flatS ws) sR
 subst hv
 have hcap := Lib.hid hcap0
 clear hax0 hcap0
 have hn : normL (bl s) = (match walkL [] (splits (bl s)) with
  | none => ([], 30)
  | some l => if l = [] then ([], 13) else if 8 < l.length then ([], 31) else if 64 < (joinS l).length then ([], 11) else (joinS l, 0)) := rfl
 rcases hres with hre | ⟨hre, hw0⟩
 · rw [hre] at hn
   simp only at hn
   have hjl := join_walk_len hre
   rw [hre]
   simp only [walkRes]
   simp only [List.length_map] at hjl hn
   by_cases e1 : ws = []
   · subst e1
     simp only [List.map_nil, if_pos] at hn
     have hn' := Lib.hid hn
     clear hn hre hjl hlen hcap
     have hF := hA.facts; (try simp only [uZ] at hA hF)
     go_wp2_with fail
     go_ret2
     exact ⟨⟨#[]⟩, by rw [hn'.out]; rfl, by rw [hn'.out], hA.toExt⟩
   · rw [if_neg (by simpa using e1)] at hn
     have hl0 : ((ws.length : Int) == 0) = false := by simpa using e1
     by_cases e2 : 8 < ws.length
     · rw [if_pos e2] at hn
       have hn' := Lib.hid hn
       clear hn hre hjl hlen hcap e1
       have hF := hA.facts; (try simp only [uZ] at hA hF)
       go_wp2_with fail
       go_ret2
       exact ⟨⟨#[]⟩, by rw [hn'.out]; rfl, by rw [hn'.out], hA.toExt⟩
     · rw [if_neg e2] at hn
       have hl1 : 0 < ws.length := List.length_pos_iff.2 e1
       obtain ⟨g, c, hax, _, hcm, hcl, hct, hB⟩ := hA.row_open (ax := ax) (cap := cap) (n := ws.length) (xs := flatS ws) sR hl1
       subst hax
       have hj : (Lib.join (ws.map (·.data.toList)) [47]).length ≤ 140737488355328 := by
        have h1 : (joinS (ws.map bl)).length ≤ ws.length * (s.size + 1) := by simpa using hjl
        have h2 : ws.length * (s.size + 1) ≤ 8 * 2000001 := Nat.mul_le_mul (by omega) (by omega)
        have h3 : (Lib.join (ws.map (·.data.toList)) [47]).length = (joinS (ws.map bl)).length := rfl
        omega
       have hcl' : g < w1.heap.size := (hB.get (A := Part.cells g c 9) sR : BlockIs w1 g c _).lt
       have hjoin := Tryz.strings_Join g 0 cap ws ⟨#[47]⟩ w1 (fun j x hx => by
        rw [Nat.zero_add]
        exact ((hB.get (A := Part.cells g c 9) sR : BlockIs w1 g c _).cell j).trans (flatS_at hct hx)) hcl' (by omega) hcap.out hj
       clear hA
       have hA := hB
       have hext : Ext w w1 := hA.toExt
       clear hB hre hlen e1
       have hn' := Lib.hid hn
       have hct' := Lib.hid hct
       have hcl2 := Lib.hid hcl
       clear hn hct hcl hjl hj
       go_wp2_with fail
       refine hjoin.mono ?_
       clear hjoin
       rintro e w2 ⟨rfl, hb⟩
       have hext2 := hext.trans hb
       clear hb hext hA
       obtain ⟨jn, hjn⟩ : ∃ q : ByteArray, (⟨(Lib.join (ws.map (·.data.toList)) [47]).toArray⟩ : ByteArray) = q := ⟨_, rfl⟩
       have hjb : joinS (ws.map bl) = bl jn := by rw [← hjn]; rfl
       have hjs : (joinS (ws.map bl)).length = jn.size := by rw [hjb]; simp
       have hjb' := Lib.hid hjb
       have hn2 := hn'.out
       rw [hjs] at hn2
       rw [hjn]
       clear hjn hjb hjs hn' hct' hcl2
       by_cases e3 : 64 < jn.size
       · rw [if_pos e3] at hn2
         have hn3 := Lib.hid hn2
         clear hn2
         go_wp2_with fail
         go_ret2
         exact ⟨⟨#[]⟩, by rw [hn3.out]; rfl, by rw [hn3.out], hext2⟩
       · rw [if_neg e3] at hn2
         have hn3 := Lib.hid hn2
         clear hn2
         go_wp2_with fail
         go_ret2
         exact ⟨jn, by rw [hn3.out]; rfl, by rw [hn3.out]; exact hjb'.out.symm, hext2⟩
 · rw [hre] at hn
   simp only at hn
   subst hw0
   rw [hre]
   simp only [walkRes]
   have hn' := Lib.hid hn
   clear hn hre hlen hcap
   have hF := hA.facts; (try simp only [uZ] at hA hF)
   go_wp2_with fail
   go_ret2
   exact ⟨⟨#[]⟩, by rw [hn'.out]; rfl, by rw [hn'.out], hA.toExt⟩
end Go.Proofs.YtgbpfgdjnhbcgaaGreatDoor.Path
end
section
namespace Go.Proofs.YtgbpfgdjnhbcgaaGreatDoor.Path
open Go.RowKit
theorem eqB (s q : ByteArray) : (s.toList == q.toList) = decide (bl s = bl q) := by
 rw [Lib.toList_data, Lib.toList_data]
 cases h : (s.data.toList == q.data.toList)
 · symm; simpa using h
 · symm; simpa using h
theorem right_any (s : ByteArray) (w : World) (hs : s.size ≤ 2000000) : Calls Tryz.prog 46 #[.string s] w fun e w' => e = .returned (.bool (rightB (bl s))) ∧ Ext w w' := by
 have hr := right_norm (bl s)
 go_enter Tryz.func46, Tryz.ntmps46
 go_wp2_with fail
 refine (normal_any s w hs).mono ?_
 rintro e w1 ⟨q, rfl, hq, hx⟩
 rw [← hq] at hr
 have heq := eqB s q
 obtain ⟨n2, hn2⟩ : ∃ n, (normL (bl s)).2 = n := ⟨_, rfl⟩
 rw [hn2] at hr ⊢
 clear hn2 hq
 by_cases h0 : n2 = 0
 · subst h0
   by_cases h1 : bl s = bl q
   · have hb : rightB (bl s) = true := hr.1 ⟨rfl, h1.symm⟩
     rw [decide_eq_true h1] at heq
     have hb' := Lib.hid hb
     clear hb hr h1
     go_wp2_with fail
     go_ret
     exact ⟨by rw [hb'.out]; rfl, hx⟩
   · have hb : rightB (bl s) = false := by
      cases hb : rightB (bl s)
      · rfl
      · exact absurd (hr.2 hb).2.symm h1
     rw [decide_eq_false h1] at heq
     have hb' := Lib.hid hb
     clear hb hr h1
     go_wp2_with fail
     go_ret
     exact ⟨by rw [hb'.out]; rfl, hx⟩
 · have hb : rightB (bl s) = false := by
    cases hb : rightB (bl s)
    · rfl
    · exact absurd (hr.2 hb).1 h0
   have hb' := Lib.hid hb
   have h0' : (n2 == 0) = false := by simpa using h0
   clear hb hr h0 heq
   go_wp2_with fail
   go_ret
   exact ⟨by rw [hb'.out]; rfl, hx⟩
theorem right_is {s : ByteArray} {b : Bool} (w : World) (hs : s.size ≤ 2000000) (hb : rightB (bl s) = b) : Calls Tryz.prog 46 #[.string s] w fun e w' => e = .returned (.bool b) ∧ Ext w w' := hb ▸ right_any s w hs
theorem pre_is (q p : ByteArray) (w : World) : Calls Tryz.prog 98 #[.string q, .string p] w fun e w' => e = .returned (.bool ((bl p).isPrefixOf (bl q))) ∧ w = w' :=
 (Tryz.strings_HasPrefix q p w).mono fun _ _ ⟨he, hw⟩ => ⟨he, hw.symm⟩
theorem above_any (p q : ByteArray) (w : World) (hp : p.size ≤ 2000000) (hq : q.size ≤ 2000000) : Calls Tryz.prog 85 #[.string p, .string q] w fun e w' => e = .returned (.bool (aboveB (bl p) (bl q))) ∧ Ext w w' := by
 have heq := eqB p q
 cases h1 : rightB (bl p)
 · have hb := Lib.hid (show aboveB (bl p) (bl q) = false by simp [aboveB, h1])
   clear heq
   go_enter Tryz.func85, Tryz.ntmps85
   go_wp2_with fail
   refine (right_is w hp h1).mono ?_
   rintro e w1 ⟨rfl, hx⟩
   go_wp2_with fail
   go_ret
   exact ⟨by rw [hb.out]; rfl, hx⟩
 · cases h2 : rightB (bl q)
   · have hb := Lib.hid (show aboveB (bl p) (bl q) = false by simp [aboveB, h1, h2])
     clear heq
     go_enter Tryz.func85, Tryz.ntmps85
     go_wp2_with fail
     refine (right_is w hp h1).mono ?_
     rintro e w1 ⟨rfl, hx⟩
     go_wp2_with fail
     refine (right_is w1 hq h2).mono ?_
     rintro e w2 ⟨rfl, hx2⟩
     go_wp2_with fail
     go_ret
     exact ⟨by rw [hb.out]; rfl, hx.trans hx2⟩
   · by_cases h3 : bl p = bl q
     · have hb := Lib.hid (show aboveB (bl p) (bl q) = true by simp [aboveB, h1, h2, h3])
       rw [decide_eq_true h3] at heq
       clear h3
       go_enter Tryz.func85, Tryz.ntmps85
       go_wp2_with fail
       refine (right_is w hp h1).mono ?_
       rintro e w1 ⟨rfl, hx⟩
       go_wp2_with fail
       refine (right_is w1 hq h2).mono ?_
       rintro e w2 ⟨rfl, hx2⟩
       go_wp2_with fail
       go_ret
       exact ⟨by rw [hb.out]; rfl, hx.trans hx2⟩
     · have hb := Lib.hid (show aboveB (bl p) (bl q) = (bl p ++ [47]).isPrefixOf (bl q) by simp [aboveB, h1, h2, h3])
       rw [decide_eq_false h3] at heq
       clear h3
       go_enter Tryz.func85, Tryz.ntmps85
       go_wp2_with fail
       refine (right_is w hp h1).mono ?_
       rintro e w1 ⟨rfl, hx⟩
       go_wp2_with fail
       refine (right_is w1 hq h2).mono ?_
       rintro e w2 ⟨rfl, hx2⟩
       go_wp2_with fail
       refine (pre_is _ _ _).mono ?_
       rintro e _ ⟨rfl, rfl⟩
       have hpa : bl (p ++ ⟨#[47]⟩) = bl p ++ [47] := by simp [bl]
       rw [hpa, ← hb.out]
       clear hpa
       obtain ⟨bb, hbb⟩ : ∃ b, aboveB (bl p) (bl q) = b := ⟨_, rfl⟩
       rw [hbb]
       have hbb' := Lib.hid hbb
       clear hb hbb
       cases bb
       all_goals
        go_wp2_with fail
        go_ret
        exact ⟨by rw [hbb'.out]; rfl, hx.trans hx2⟩
theorem overlap_any (p q : ByteArray) (w : World) (hp : p.size ≤ 2000000) (hq : q.size ≤ 2000000) : Calls Tryz.prog 60 #[.string p, .string q] w fun e w' => e = .returned (.bool (overB (bl p) (bl q))) ∧ Ext w w' := by
 have h1 := above_any p q w hp hq
 have h2 := fun w => above_any q p w hq hp
 have ho : overB (bl p) (bl q) = (aboveB (bl p) (bl q) || aboveB (bl q) (bl p)) := rfl
 rw [ho]
 clear ho
 generalize aboveB (bl p) (bl q) = b1 at *
 generalize aboveB (bl q) (bl p) = b2 at *
 cases b1
 · go_enter Tryz.func60, Tryz.ntmps60
   go_wp2_with fail
   refine h1.mono ?_
   clear h1
   rintro e w1 ⟨rfl, hx⟩
   go_wp2_with fail
   refine (h2 w1).mono ?_
   clear h2
   rintro e w2 ⟨rfl, hx2⟩
   cases b2
   all_goals
    go_wp2_with fail
    go_ret
    exact ⟨rfl, hx.trans hx2⟩
 · go_enter Tryz.func60, Tryz.ntmps60
   go_wp2_with fail
   refine h1.mono ?_
   clear h1
   rintro e w1 ⟨rfl, hx⟩
   go_wp2_with fail
   go_ret
   exact ⟨rfl, hx⟩
end Go.Proofs.YtgbpfgdjnhbcgaaGreatDoor.Path
end
