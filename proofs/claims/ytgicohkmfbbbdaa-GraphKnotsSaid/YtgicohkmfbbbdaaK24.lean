/- GrbG, joined. -/
import Derived.Test.YtgicohkmfbbbdaaK21
import Derived.Test.YtgicohkmfbbbdaaK22
import Derived.Test.YtgicohkmfbbbdaaK23
section
namespace Go.Proofs.Ytgicohkmfbbbdaa.Ref
open Go.RowKit
open _root_.Go.Proofs.Ytgicohkmfbbbdaa.Attr (A8)
theorem cut_at8 {c : List Value} {l : List IA} {k : Nat} {x : _root_.Go.Proofs.Ytgicohkmfbbbdaa.Gr.I2} {b : A8} (ht : c.take (l.length * 10) = flatD l) (hx : l[k]? = some (x, b)) : (c.drop (k * 10 + 2)).take 8 = [.int .i64 b.s, .int .i64 b.d0, .int .i64 b.d1, .int .i64 b.d2, .int .i64 b.d3, .int .i64 b.d4, .int .i64 b.d5, .int .i64 b.d6] := by
  have h := congrArg (fun z => (z.drop 2).take 8) (cut_cells cellsD_len ht hx)
  simp only [List.drop_take, List.drop_drop, List.take_take] at h
  exact h
end Go.Proofs.Ytgicohkmfbbbdaa.Ref
namespace Go.Proofs.Ytgicohkmfbbbdaa.Gr
open _root_.Go.Proofs.Ytgicohkmfbbbdaa.Mark (ltID sortID)
open _root_.Go.Proofs.Ytgicohkmfbbbdaa.Attr (guardI eqlI_any neqI_any guardJ eqlJ_any neqC_at eqA rightI ownsB rightI_iff eqA_iff)
open _root_.Go.Proofs.Ytgicohkmfbbbdaa.Ref (rowD flatD cellsD cellsD_len elemD IA findD find_any sorted_any sortedD sortedD_len rowD_snoc infoD row_nilD cellsD_one flatD_len idR_any attrR_any)
open Go.RowKit
open Attr (A8 thro)
set_option linter.unusedSimpArgs false
set_option linter.unusedVariables false
attribute [-go_sem] run_eql_struct run_neq_struct run_eqGuard_agg

theorem guardC_at (op : BinOp) (x y : Operand) (s d0 d1 d2 d3 d4 d5 d6 u e0 e1 e2 e3 e4 e5 e6 : Int) (w : World) : (eqGuard op 50 x y (.agg #[.int .i64 s, .int .i64 d0, .int .i64 d1, .int .i64 d2, .int .i64 d3, .int .i64 d4, .int .i64 d5, .int .i64 d6]) (.agg #[.int .i64 u, .int .i64 e0, .int .i64 e1, .int .i64 e2, .int .i64 e3, .int .i64 e4, .int .i64 e5, .int .i64 e6])).run Try.prog w = .ok () w := run_eqGuard_agg _ _ _ _ _ _ _ (by kernel_rfl)
attribute [local go_sem] guardC_at
def ReadsD (R : Part) (v : Value) (l : List IA) : Prop := ∀ w, R.holds w → Reads w v l.length (flatD l)
/-- a graph, as it is built -/
def builtE (l : List IA) : List IA := l.foldl (fun es n => (addG es n.1 n.2).1) []
theorem builtE_snoc (l : List IA) (n : IA) : builtE (l ++ [n]) = (addG (builtE l) n.1 n.2).1 := by unfold builtE; rw [List.foldl_append]; rfl
theorem addG_len (es : List IA) (x : I2) (a : A8) : (addG es x a).1.length ≤ es.length + 1 := by
  unfold addG
  repeat' split
  all_goals simp
theorem builtE_len (l : List IA) : (builtE l).length ≤ l.length := by
  suffices H : ∀ (l es : List IA), (l.foldl (fun es n => (addG es n.1 n.2).1) es).length ≤ es.length + l.length by simpa [builtE] using H l []
  intro l
  induction l with
  | nil => intro es; exact Nat.le_refl _
  | cons n l ih =>
    intro es
    have h1 := ih (addG es n.1 n.2).1
    have h2 := addG_len es n.1 n.2
    rw [List.foldl_cons, List.length_cons]
    omega
theorem dep_right {a : A8} (h : a.right = true) : ∀ q, q < 7 → 0 ≤ a.dep q ∧ a.dep q ≤ 1024 := by
  intro q hq
  obtain ⟨s, d0, d1, d2, d3, d4, d5, d6⟩ := a
  simp only [A8.right, Attr.badD, Bool.and_eq_true, Bool.not_eq_true', Bool.or_eq_false_iff, decide_eq_false_iff_not] at h
  obtain ⟨⟨⟨⟨⟨⟨⟨h0, h1⟩, h2⟩, h3⟩, h4⟩, h5⟩, h6⟩, _⟩ := h
  rcases (show q = 0 ∨ q = 1 ∨ q = 2 ∨ q = 3 ∨ q = 4 ∨ q = 5 ∨ q = 6 by omega) with rfl | rfl | rfl | rfl | rfl | rfl | rfl
  · exact ⟨Int.not_lt.1 h0.1, Int.not_lt.1 h0.2⟩
  · exact ⟨Int.not_lt.1 h1.1, Int.not_lt.1 h1.2⟩
  · exact ⟨Int.not_lt.1 h2.1, Int.not_lt.1 h2.2⟩
  · exact ⟨Int.not_lt.1 h3.1, Int.not_lt.1 h3.2⟩
  · exact ⟨Int.not_lt.1 h4.1, Int.not_lt.1 h4.2⟩
  · exact ⟨Int.not_lt.1 h5.1, Int.not_lt.1 h5.2⟩
  · exact ⟨Int.not_lt.1 h6.1, Int.not_lt.1 h6.2⟩
theorem owns_parts {a : A8} {r t : Int} : ownsB a r t = true ↔ rightI r t = true ∧ a.right = true ∧ a.dep r.toNat = t := by
  unfold ownsB
  rw [Bool.and_eq_true, Bool.and_eq_true, eqA_iff]
  refine and_congr_right fun h1 => and_congr_right fun _ => ?_
  have hq := rightI_iff.1 h1
  unfold A8.own
  rw [if_pos h1]
  obtain ⟨s, d0, d1, d2, d3, d4, d5, d6⟩ := a
  rcases (show r = 0 ∨ r = 1 ∨ r = 2 ∨ r = 3 ∨ r = 4 ∨ r = 5 ∨ r = 6 by omega) with rfl | rfl | rfl | rfl | rfl | rfl | rfl <;> simp [A8.set, A8.dep] <;> exact eq_comm
theorem Own.add {es : List IA} (h : Own es) (x : I2) (a : A8) : Own (addG es x a).1 := by
  unfold addG
  split
  · rename_i ho
    obtain ⟨h1, h2, h3⟩ := owns_parts.1 ho
    split
    · split <;> exact h
    · rename_i hn
      refine ⟨?_, fun y b hy => ?_, fun e he => ?_⟩
      · show ((es ++ [(x, a)]).map (·.1)).Nodup
        rw [List.map_append, List.nodup_append]
        exact ⟨h.uq, by simp, fun p hp q hq e => by
          rw [List.map_singleton, List.mem_singleton] at hq
          subst hq
          exact getA_isNone.1 hn (by rw [e] at hp; exact hp)⟩
      · have hm := getA_mem hy
        rcases List.mem_append.1 hm with q | q
        · exact h.deps y b (getA_of_mem h.uq q)
        · cases List.mem_singleton.1 q
          exact dep_right h2
      · rcases List.mem_append.1 he with q | q
        · exact h.right e q
        · rw [List.mem_singleton.1 q]
          have := rightI_iff.1 h1
          exact ⟨this.1, by have := this.2.1; show x.1 < 7; omega, this.2.2.1, this.2.2.2⟩
  · exact h
theorem own_nil : Own [] := ⟨by simp [Uq], fun x a h => by simp [getA] at h, nofun⟩
theorem builtE_own (l : List IA) : Own (builtE l) := by
  suffices H : ∀ (l es : List IA), Own es → Own (l.foldl (fun es n => (addG es n.1 n.2).1) es) from H l [] own_nil
  intro l
  induction l with
  | nil => exact fun es h => h
  | cons n l ih => exact fun es h => ih _ (h.add n.1 n.2)
theorem find_some : ∀ {es : List IA} {x : I2} {a : A8}, getA es x = some a → ∃ k : Nat, findD es x = k ∧ k < es.length ∧ es[k]? = some (x, a)
  | [], _, _, h => by simp [getA] at h
  | e :: es, x, a, h => by
    unfold getA at h
    rw [List.find?_cons] at h
    by_cases q : e.1 = x
    · rw [decide_eq_true q] at h
      simp only [Option.map_some, Option.some.injEq] at h
      refine ⟨0, ?_, by simp, ?_⟩
      · show idxI (e.1 :: es.map Prod.fst) x = 0
        exact idxI_at (i := 0) (by rw [q]; rfl) (by simp)
      · subst q h; rfl
    · rw [decide_eq_false q] at h
      obtain ⟨k, h1, h2, h3⟩ := find_some (es := es) (x := x) (a := a) h
      refine ⟨k + 1, ?_, by simp; omega, h3⟩
      have hm : x ∈ es.map Prod.fst := List.mem_map.2 ⟨_, List.mem_of_getElem? h3, rfl⟩
      show idxI (e.1 :: es.map Prod.fst) x = _
      have h1 : idxI (es.map Prod.fst) x = k := h1
      unfold idxI at h1 ⊢
      rw [if_pos hm] at h1
      rw [if_pos (List.mem_cons_of_mem _ hm), List.idxOf_cons, show (e.1 == x) = false from by simpa using q]
      simp only [cond_false]
      omega
theorem find_none {es : List IA} {x : I2} (h : getA es x = none) : findD es x = -1 := idxI_no (getA_isNone.1 h)
def CutB (w : World) (R : Part) (p m b8 : Nat) (r t s d0 d1 d2 d3 d4 d5 d6 : Int) (v6 : Value) (es es2 : List IA) (u10 u11 : Value) (wc : World) : Prop :=
  ∃ b10 b11 : Nat, u10 = .pointer (some ⟨b10, 0, none⟩) ∧ u11 = .pointer (some ⟨b11, 0, none⟩) ∧ At [R] w [Part.cells b10 [.int .i64 r, .int .i64 t] 45, Part.cells b11 [.int .i64 s, .int .i64 d0, .int .i64 d1, .int .i64 d2, .int .i64 d3, .int .i64 d4, .int .i64 d5, .int .i64 d6] 50, Part.cells b8 [.int .i64 r, .int .i64 t, .int .i64 s, .int .i64 d0, .int .i64 d1, .int .i64 d2, .int .i64 d3, .int .i64 d4, .int .i64 d5, .int .i64 d6] 67, rowD v6 es, GrP p m es2, R] wc
def BlRel (w : World) (R : Part) (p m : Nat) (l : List IA) (k : Nat) (u16 u6 : Value) (wr : World) : Prop :=
  ∃ i : Nat, u16 = .int .i64 i ∧ i + k = l.length ∧ At [R] w [rowD u6 (builtE (l.take i)), GrP p m (builtE (l.take i)), R] wr
def BuiltPost (R : Part) (l : List IA) (w : World) (e : Ending) (w' : World) : Prop :=
  ∃ p m u, e = .returned (.tuple #[.pointer (some ⟨p, 0, none⟩), u, .bool true]) ∧ At [R] w [GrP p m (builtE l), rowD u (sortedD (builtE l)), R] w'
set_option maxRecDepth 100000 in
set_option maxHeartbeats 8000000 in
theorem built_any {w : World} {R : Part} {v : Value} {l : List IA} (h : Sep [R] w) (hr : ReadsD R v l) (hl : l.length ≤ 1000) (hok : ∀ n ∈ l, okD n.1) :
    Calls Try.prog 11 #[v] w (BuiltPost R l w) := by
  have hm : Try.prog.follows .mixedOrders = true := by kernel_rfl
  obtain ⟨i0, hi0, hz0, hz1, hz2⟩ := info_parts infoD
  have hA := At.start h
  have hr' := Lib.hid hr
  have hok' := Lib.hid hok
  clear h hr hok
  obtain ⟨ax, cap, rfl, _, _⟩ := hr'.out w (hA.get (A := R) .here)
  (try simp only [uA] at hA); have hF := hA.facts; (try simp only [fZ] at hF)
  go_enter Try.func11, Try.ntmps11
  go_wp2_with (first | ((with_reducible refine gst ?_); refine wS hA ?_; clear hF hA; intro w1 hA; (try simp only [uA] at hA); have hF := hA.facts; (try simp only [fZ] at hF)) | ((with_reducible refine gbx ?_); refine wB hA ?_; clear hF hA; intro b1 w1 hA hb1; (try simp only [uA] at hA); have hF := hA.facts; (try simp only [fZ] at hF)))
  refine (new_any _).mono ?_
  rintro e w1 ⟨p, m, rfl, hT⟩
  have hB := hA.call0 hT
  clear hF hA hT; have hA := hB; clear hB
  simp only [List.cons_append, List.nil_append] at hA
  (try simp only [uA] at hA); have hF := hA.facts; (try simp only [fZ] at hF)
  go_wp2_with (first | ((with_reducible refine gst ?_); refine wS hA ?_; clear hF hA; intro w1 hA; (try simp only [uA] at hA); have hF := hA.facts; (try simp only [fZ] at hF)) | ((with_reducible refine gbx ?_); refine wB hA ?_; clear hF hA; intro b1 w1 hA hb1; (try simp only [uA] at hA); have hF := hA.facts; (try simp only [fZ] at hF)))
  try go_frame
  have hB := row_nilD hA
  clear hF hA
  go_loopg [16, 6] l.length (BlRel w R p m l)
  case atStart => exact ⟨0, rfl, by omega, hB.pick pZ⟩
  case round =>
    obtain ⟨i, rfl, hik, hA⟩ := hrel
    clear hB
    by_cases hi : i < l.length
    · skip
      obtain ⟨e, hx⟩ : ∃ e, l[i]? = some e := ⟨_, List.getElem?_eq_getElem hi⟩
      have hek := hok'.out e (List.mem_of_getElem? hx)
      have hns := Lib.hid (show builtE (l.take (i + 1)) = (addG (builtE (l.take i)) e.1 e.2).1 from by rw [List.take_add_one, hx]; exact builtE_snoc _ _)
      have hol := builtE_len (l.take i)
      rw [List.length_take] at hol
      have hol1 : (builtE (l.take i)).length ≤ 1000 := by omega
      clear hol
      generalize builtE (l.take i) = es at *
      obtain ⟨b0, off0, hax2, hce⟩ := row_elemG cellsD_len (by omega) (hr'.out _ (hA.get (A := R) sZ)) hx
      obtain ⟨⟨r, t⟩, s, d0, d1, d2, d3, d4, d5, d6⟩ := e
      have hr2' := Lib.hid (show ∀ (k : Nat) u, ([.int .i64 r, .int .i64 t, .int .i64 s, .int .i64 d0, .int .i64 d1, .int .i64 d2, .int .i64 d3, .int .i64 d4, .int .i64 d5, .int .i64 d6] : List Value)[k]? = some u → wr.cell? ⟨b0, off0 + i * 10 + k, none⟩ = some u from hce)
      clear hce hx
      subst hax2
      obtain ⟨axo, capo, hvo, _, hcpo, _⟩ := hA.row_form (e := 52) (size := 10) (n := es.length) (v := u6) (xs := flatD es) .here
      subst hvo
      have hiI : (i : Int) < l.length := by omega
      (try simp only [uA] at hA); have hF := hA.facts; (try simp only [fZ] at hF)
      go_wp2_with (first | ((with_reducible refine gal ?_); refine wA 67 (.agg #[.int .i64 0, .int .i64 0, .int .i64 0, .int .i64 0, .int .i64 0, .int .i64 0, .int .i64 0, .int .i64 0, .int .i64 0, .int .i64 0]) [.int .i64 0, .int .i64 0, .int .i64 0, .int .i64 0, .int .i64 0, .int .i64 0, .int .i64 0, .int .i64 0, .int .i64 0, .int .i64 0] hA ?_; clear hF hA; intro b8 w1 hA hb8; (try simp only [uA] at hA); have hF := hA.facts; (try simp only [fZ] at hF)) | ((with_reducible show wpList _ _ _ ({ dst := some 19, op := Op.load _ _, type := _, pos := _, after := _, guard := _ } :: _) _ _); refine wpList_loadRow_at (vs := [.int .i64 r, .int .i64 t, .int .i64 s, .int .i64 d0, .int .i64 d1, .int .i64 d2, .int .i64 d3, .int .i64 d4, .int .i64 d5, .int .i64 d6]) rfl rfl (by (try simp only [Act.eval, eV]) <;> exact rfl) hr2'.out (by kernel_rfl) (by kernel_rfl) ?_) | ((with_reducible refine gst ?_); refine wS hA ?_; clear hF hA; intro w1 hA; (try simp only [uA] at hA); have hF := hA.facts; (try simp only [fZ] at hF)) | ((with_reducible refine gbx ?_); refine wB hA ?_; clear hF hA; intro b1 w1 hA hb1; (try simp only [uA] at hA); have hF := hA.facts; (try simp only [fZ] at hF)))
      refine (add_any (hA.sep1 (A := GrP p m es) sZ) (r, t) hek (⟨s, d0, d1, d2, d3, d4, d5, d6⟩ : A8)).mono ?_
      rintro e w2 ⟨rfl, hT⟩
      have hB := hA.call1 (A := GrP p m es) sZ hT
      clear hF hA hT; have hA := hB; clear hB
      simp only [List.cons_append, List.nil_append] at hA
      generalize hes2 : (addG es (r, t) (⟨s, d0, d1, d2, d3, d4, d5, d6⟩ : A8)).1 = es2 at *
      generalize her : (addG es (r, t) (⟨s, d0, d1, d2, d3, d4, d5, d6⟩ : A8)).2 = er at *
      have hes2' := Lib.hid hes2
      have her' := Lib.hid her
      clear hes2 her
      (try simp only [uA] at hA); have hF := hA.facts; (try simp only [fZ] at hF)
      go_upto_region 7 with (first | ((with_reducible refine gst ?_); refine wS hA ?_; clear hF hA; intro w1 hA; (try simp only [uA] at hA); have hF := hA.facts; (try simp only [fZ] at hF)) | ((with_reducible refine gbx ?_); refine wB hA ?_; clear hF hA; intro b1 w1 hA hb1; (try simp only [uA] at hA); have hF := hA.facts; (try simp only [fZ] at hF)))
      try go_frame
      go_cut [10, 11] from 26 to 29 (CutB w R p m b8 r t s d0 d1 d2 d3 d4 d5 d6 (.slice axo es.length capo) es es2)
      case first =>
        try go_frame
        have hB := hA.drew
        clear hF hA; have hA := hB; clear hB
        refine wp_region_held (S := fun w' => BlockIs w' b8 [.int .i64 r, .int .i64 t, .int .i64 s, .int .i64 d0, .int .i64 d1, .int .i64 d2, .int .i64 d3, .int .i64 d4, .int .i64 d5, .int .i64 d6] 67) hm ?_
        change wpAnyH _ _ _ _ _ 8 _ _ (World.drew _)
        generalize World.drew _ = wd at *
        have hS0 := (hA.get (A := Part.cells b8 [.int .i64 r, .int .i64 t, .int .i64 s, .int .i64 d0, .int .i64 d1, .int .i64 d2, .int .i64 d3, .int .i64 d4, .int .i64 d5, .int .i64 d6] 67) sZ : (fun w' => BlockIs w' b8 [.int .i64 r, .int .i64 t, .int .i64 s, .int .i64 d0, .int .i64 d1, .int .i64 d2, .int .i64 d3, .int .i64 d4, .int .i64 d5, .int .i64 d6] 67) wd)
        refine tP 0 26 (.pointer (some ⟨b8, 0, none⟩)) (s := hS0) (h := ?_)
        try go_frame
        refine tZ 1 27 (.agg #[.int .i64 r, .int .i64 t]) (r := (fun w' hS => run_load_row (ty := 38) (n := 2) (b := b8) (j := 0) rfl (by exact rfl) hS (by kernel_rfl) (by kernel_rfl) rfl rfl)) (s := hS0) (h := ?_)
        try go_frame
        refine tP 2 28 (.pointer (some ⟨b8, 2, none⟩)) (s := hS0) (h := ?_)
        try go_frame
        refine tZ 3 29 (.agg #[.int .i64 s, .int .i64 d0, .int .i64 d1, .int .i64 d2, .int .i64 d3, .int .i64 d4, .int .i64 d5, .int .i64 d6]) (r := (fun w' hS => run_load_row (ty := 65) (n := 8) (b := b8) (j := 2) rfl (by exact rfl) hS (by kernel_rfl) (by kernel_rfl) rfl rfl)) (s := hS0) (h := ?_)
        try go_frame
        refine wpAnyH_two (i := 4) (j := 5) (by kernel_rfl) ?_ ?_
        · skip
          refine opAlloc_at (i := 4) (d := some 10) rfl rfl (by kernel_rfl) (E := 45) rfl (z := .agg #[.int .i64 0, .int .i64 0]) (vs := [.int .i64 0, .int .i64 0]) (by kernel_rfl) (by exact rfl) hA ?_
          intro b10 w3 hB
          have hS0 := (hB.get (A := Part.cells b8 [.int .i64 r, .int .i64 t, .int .i64 s, .int .i64 d0, .int .i64 d1, .int .i64 d2, .int .i64 d3, .int .i64 d4, .int .i64 d5, .int .i64 d6] 67) sZ : (fun w' => BlockIs w' b8 [.int .i64 r, .int .i64 t, .int .i64 s, .int .i64 d0, .int .i64 d1, .int .i64 d2, .int .i64 d3, .int .i64 d4, .int .i64 d5, .int .i64 d6] 67) w3)
          clear hA; have hA := hB; clear hB
          refine ⟨hS0, ?_⟩
          try go_frame
          refine wpAnyH_one (i := 5) (by kernel_rfl) ?_
          refine opAlloc_at (i := 5) (d := some 11) rfl rfl (by kernel_rfl) (E := 50) rfl (z := .agg #[.int .i64 0, .int .i64 0, .int .i64 0, .int .i64 0, .int .i64 0, .int .i64 0, .int .i64 0, .int .i64 0]) (vs := [.int .i64 0, .int .i64 0, .int .i64 0, .int .i64 0, .int .i64 0, .int .i64 0, .int .i64 0, .int .i64 0]) (by kernel_rfl) (by exact rfl) hA ?_
          intro b11 w3 hB
          have hS0 := (hB.get (A := Part.cells b8 [.int .i64 r, .int .i64 t, .int .i64 s, .int .i64 d0, .int .i64 d1, .int .i64 d2, .int .i64 d3, .int .i64 d4, .int .i64 d5, .int .i64 d6] 67) sZ : (fun w' => BlockIs w' b8 [.int .i64 r, .int .i64 t, .int .i64 s, .int .i64 d0, .int .i64 d1, .int .i64 d2, .int .i64 d3, .int .i64 d4, .int .i64 d5, .int .i64 d6] 67) w3)
          clear hA; have hA := hB; clear hB
          refine ⟨hS0, ?_⟩
          try go_frame
          refine wpAnyH_one (i := 6) (by kernel_rfl) ?_
          refine opStore_at (i := 6) (b := b10) (j := 0) (vs := [.int .i64 r, .int .i64 t]) rfl rfl (by kernel_rfl) rfl (by exact rfl) (by exact rfl) rfl hA sZ (by kernel_rfl) rfl (by show 0 + 2 ≤ 2; omega) ?_
          intro w3 hB
          simp only [uA] at hB
          have hS0 := (hB.get (A := Part.cells b8 [.int .i64 r, .int .i64 t, .int .i64 s, .int .i64 d0, .int .i64 d1, .int .i64 d2, .int .i64 d3, .int .i64 d4, .int .i64 d5, .int .i64 d6] 67) sZ : (fun w' => BlockIs w' b8 [.int .i64 r, .int .i64 t, .int .i64 s, .int .i64 d0, .int .i64 d1, .int .i64 d2, .int .i64 d3, .int .i64 d4, .int .i64 d5, .int .i64 d6] 67) w3)
          clear hA; have hA := hB; clear hB
          refine ⟨hS0, ?_⟩
          try go_frame
          refine wpAnyH_one (i := 7) (by kernel_rfl) ?_
          refine opStore_at (i := 7) (b := b11) (j := 0) (vs := [.int .i64 s, .int .i64 d0, .int .i64 d1, .int .i64 d2, .int .i64 d3, .int .i64 d4, .int .i64 d5, .int .i64 d6]) rfl rfl (by kernel_rfl) rfl (by exact rfl) (by exact rfl) rfl hA sZ (by kernel_rfl) rfl (by show 0 + 8 ≤ 8; omega) ?_
          intro w3 hB
          simp only [uA] at hB
          have hS0 := (hB.get (A := Part.cells b8 [.int .i64 r, .int .i64 t, .int .i64 s, .int .i64 d0, .int .i64 d1, .int .i64 d2, .int .i64 d3, .int .i64 d4, .int .i64 d5, .int .i64 d6] 67) sZ : (fun w' => BlockIs w' b8 [.int .i64 r, .int .i64 t, .int .i64 s, .int .i64 d0, .int .i64 d1, .int .i64 d2, .int .i64 d3, .int .i64 d4, .int .i64 d5, .int .i64 d6] 67) w3)
          clear hA; have hA := hB; clear hB
          refine ⟨hS0, ?_⟩
          try go_frame
          refine wpAnyH_done (by kernel_rfl) ?_ _
          try go_frame
          go_wp2_with fail
          go_meet
          case rel => exact ⟨b10, b11, rfl, rfl, hA.pick pZ⟩
        · skip
          refine opAlloc_at (i := 5) (d := some 11) rfl rfl (by kernel_rfl) (E := 50) rfl (z := .agg #[.int .i64 0, .int .i64 0, .int .i64 0, .int .i64 0, .int .i64 0, .int .i64 0, .int .i64 0, .int .i64 0]) (vs := [.int .i64 0, .int .i64 0, .int .i64 0, .int .i64 0, .int .i64 0, .int .i64 0, .int .i64 0, .int .i64 0]) (by kernel_rfl) (by exact rfl) hA ?_
          intro b11 w3 hB
          have hS0 := (hB.get (A := Part.cells b8 [.int .i64 r, .int .i64 t, .int .i64 s, .int .i64 d0, .int .i64 d1, .int .i64 d2, .int .i64 d3, .int .i64 d4, .int .i64 d5, .int .i64 d6] 67) sZ : (fun w' => BlockIs w' b8 [.int .i64 r, .int .i64 t, .int .i64 s, .int .i64 d0, .int .i64 d1, .int .i64 d2, .int .i64 d3, .int .i64 d4, .int .i64 d5, .int .i64 d6] 67) w3)
          clear hA; have hA := hB; clear hB
          refine ⟨hS0, ?_⟩
          try go_frame
          refine wpAnyH_one (i := 4) (by kernel_rfl) ?_
          refine opAlloc_at (i := 4) (d := some 10) rfl rfl (by kernel_rfl) (E := 45) rfl (z := .agg #[.int .i64 0, .int .i64 0]) (vs := [.int .i64 0, .int .i64 0]) (by kernel_rfl) (by exact rfl) hA ?_
          intro b10 w3 hB
          have hS0 := (hB.get (A := Part.cells b8 [.int .i64 r, .int .i64 t, .int .i64 s, .int .i64 d0, .int .i64 d1, .int .i64 d2, .int .i64 d3, .int .i64 d4, .int .i64 d5, .int .i64 d6] 67) sZ : (fun w' => BlockIs w' b8 [.int .i64 r, .int .i64 t, .int .i64 s, .int .i64 d0, .int .i64 d1, .int .i64 d2, .int .i64 d3, .int .i64 d4, .int .i64 d5, .int .i64 d6] 67) w3)
          clear hA; have hA := hB; clear hB
          refine ⟨hS0, ?_⟩
          try go_frame
          refine wpAnyH_one (i := 6) (by kernel_rfl) ?_
          refine opStore_at (i := 6) (b := b10) (j := 0) (vs := [.int .i64 r, .int .i64 t]) rfl rfl (by kernel_rfl) rfl (by exact rfl) (by exact rfl) rfl hA sZ (by kernel_rfl) rfl (by show 0 + 2 ≤ 2; omega) ?_
          intro w3 hB
          simp only [uA] at hB
          have hS0 := (hB.get (A := Part.cells b8 [.int .i64 r, .int .i64 t, .int .i64 s, .int .i64 d0, .int .i64 d1, .int .i64 d2, .int .i64 d3, .int .i64 d4, .int .i64 d5, .int .i64 d6] 67) sZ : (fun w' => BlockIs w' b8 [.int .i64 r, .int .i64 t, .int .i64 s, .int .i64 d0, .int .i64 d1, .int .i64 d2, .int .i64 d3, .int .i64 d4, .int .i64 d5, .int .i64 d6] 67) w3)
          clear hA; have hA := hB; clear hB
          refine ⟨hS0, ?_⟩
          try go_frame
          refine wpAnyH_one (i := 7) (by kernel_rfl) ?_
          refine opStore_at (i := 7) (b := b11) (j := 0) (vs := [.int .i64 s, .int .i64 d0, .int .i64 d1, .int .i64 d2, .int .i64 d3, .int .i64 d4, .int .i64 d5, .int .i64 d6]) rfl rfl (by kernel_rfl) rfl (by exact rfl) (by exact rfl) rfl hA sZ (by kernel_rfl) rfl (by show 0 + 8 ≤ 8; omega) ?_
          intro w3 hB
          simp only [uA] at hB
          have hS0 := (hB.get (A := Part.cells b8 [.int .i64 r, .int .i64 t, .int .i64 s, .int .i64 d0, .int .i64 d1, .int .i64 d2, .int .i64 d3, .int .i64 d4, .int .i64 d5, .int .i64 d6] 67) sZ : (fun w' => BlockIs w' b8 [.int .i64 r, .int .i64 t, .int .i64 s, .int .i64 d0, .int .i64 d1, .int .i64 d2, .int .i64 d3, .int .i64 d4, .int .i64 d5, .int .i64 d6] 67) w3)
          clear hA; have hA := hB; clear hB
          refine ⟨hS0, ?_⟩
          try go_frame
          refine wpAnyH_done (by kernel_rfl) ?_ _
          try go_frame
          go_wp2_with fail
          go_meet
          case rel => exact ⟨b10, b11, rfl, rfl, hA.pick pZ⟩
      case rest =>
        obtain ⟨b10, b11, rfl, rfl, hB⟩ := hcut
        clear hA; have hA := hB; clear hB
        have hikG : i + 1 + (gk - 1) = l.length := by omega
        obtain ⟨G, hG⟩ : ∃ G, gk - 1 = G := ⟨_, rfl⟩
        rw [hG] at hikG
        have hGk := Lib.hid (show G < gk by omega)
        clear hG hik
        (try simp only [uA] at hA); have hF := hA.facts; (try simp only [fZ] at hF)
        go_wp2_with (first | ((with_reducible refine gst ?_); refine wS hA ?_; clear hF hA; intro w1 hA; (try simp only [uA] at hA); have hF := hA.facts; (try simp only [fZ] at hF)) | ((with_reducible refine gbx ?_); refine wB hA ?_; clear hF hA; intro b1 w1 hA hb1; (try simp only [uA] at hA); have hF := hA.facts; (try simp only [fZ] at hF)))
        refine (find_any (hA.sep1 (A := rowD (.slice axo es.length capo) es) sZ) (r, t) (by omega)).mono ?_
        rintro e w3 ⟨rfl, hT⟩
        have hB := hA.call1 (A := rowD (.slice axo es.length capo) es) sZ hT
        clear hF hA hT; have hA := hB; clear hB
        simp only [List.cons_append, List.nil_append] at hA
        generalize hfk : findD es (r, t) = fk at *
        have hfk' := Lib.hid hfk
        clear hfk
        have hri := fun w => idR_any r t w
        have hra := fun w => attrR_any (⟨s, d0, d1, d2, d3, d4, d5, d6⟩ : A8) w
        simp only [A8.val] at hra
        by_cases ho : ownsB (⟨s, d0, d1, d2, d3, d4, d5, d6⟩ : A8) r t = true
        · obtain ⟨h1, h2, h3⟩ := owns_parts.1 ho
          have hq7 := rightI_iff.1 h1
          rw [h1] at hri
          rw [h2] at hra
          obtain ⟨q, rfl⟩ : ∃ q : Nat, r = q := ⟨r.toNat, by omega⟩
          have hcq : ([.int .i64 s, .int .i64 d0, .int .i64 d1, .int .i64 d2, .int .i64 d3, .int .i64 d4, .int .i64 d5, .int .i64 d6] : List Value)[1 + q]? = some (.int .i64 t) := by
            rw [← h3]
            rcases (show q = 0 ∨ q = 1 ∨ q = 2 ∨ q = 3 ∨ q = 4 ∨ q = 5 ∨ q = 6 by omega) with rfl | rfl | rfl | rfl | rfl | rfl | rfl <;> rfl
          obtain ⟨cA, hcA⟩ : ∃ z, ([.int .i64 s, .int .i64 d0, .int .i64 d1, .int .i64 d2, .int .i64 d3, .int .i64 d4, .int .i64 d5, .int .i64 d6] : List Value) = z := ⟨_, rfl⟩
          have hc8 : (cA.drop 0).take 8 = [.int .i64 s, .int .i64 d0, .int .i64 d1, .int .i64 d2, .int .i64 d3, .int .i64 d4, .int .i64 d5, .int .i64 d6] := by rw [← hcA]; rfl
          have hcA' := Lib.hid hcA
          rw [hcA] at hcq hA
          have hq8 : (q : Int) < 7 := by omega
          have hnt : (t != t) = false := by simp
          (try simp only [uA] at hA); have hF := hA.facts; (try simp only [fZ] at hF)
          clear h1 h2 h3 hcA
          go_wp2_with (first | ((with_reducible refine gst ?_); refine wS hA ?_; clear hF hA; intro w1 hA; (try simp only [uA] at hA); have hF := hA.facts; (try simp only [fZ] at hF)) | ((with_reducible refine gbx ?_); refine wB hA ?_; clear hF hA; intro b1 w1 hA hb1; (try simp only [uA] at hA); have hF := hA.facts; (try simp only [fZ] at hF)))
          try go_frame
          (refine wp_region_all (Cl _ _ _) (by kernel_rfl) (by kernel_rfl) (Cl.drew hA) ?_); (have hn1 := Cl.none hA); (have hn2 := Cl.none2 hA); (repeat (first | go_big_quiet_skip | (go_big_quiet_want; (first | (refine quiet_loads_at (ty := 45) (n := 2) rfl rfl sR (by kernel_rfl) (by kernel_rfl) (by first | assumption | ((try simp only [List.drop_succ_cons, List.drop_zero, List.take_succ_cons, List.take_zero]) <;> exact rfl)) (by exact rfl) ?_; go_frame; go_big_quiet_on) | (refine quiet_loads_at (ty := 50) (n := 8) rfl rfl sR (by kernel_rfl) (by kernel_rfl) (by first | assumption | ((try simp only [List.drop_succ_cons, List.drop_zero, List.take_succ_cons, List.take_zero]) <;> exact rfl)) (by exact rfl) ?_; go_frame; go_big_quiet_on) | (refine quiet_load_at rfl rfl sR (by kernel_rfl) (by first | assumption | exact rfl) ?_; go_frame; go_big_quiet_on) | (go_big_quiet_op; (first | go_big_quiet_on | ((apply Exists.intro); (refine ⟨fun w1 hw => ?_, ?_⟩); (focus ((have hw := Cl.out hw); (first | exact thro hw (hri _) | exact thro hw (hra _)))); (go_big_quiet_on))))))))
          (refine wpQuiet_nil ?_); (intro w1 hB); (clear hF hA hn1 hn2); (have hA := Cl.out hB); (clear hB); (try simp only [uA] at hA); have hF := hA.facts; (try simp only [fZ] at hF)
          rw [← hcA'.out] at hA
          clear hcq hc8 hcA'
          cases hg : getA es ((q : Int), t) with
          | none =>
            have hf0 : fk = -1 := by rw [← hfk'.out]; exact find_none hg
            have he0 : er = 0 := by rw [← her'.out]; unfold addG; rw [if_pos ho, hg]
            have hE : es2 = es ++ [(((q : Int), t), (⟨s, d0, d1, d2, d3, d4, d5, d6⟩ : A8))] := by rw [← hes2'.out]; unfold addG; rw [if_pos ho, hg]
            have hE' := Lib.hid hE
            subst hf0
            subst he0
            clear hg hE hri hra
            (try simp only [uA] at hA); have hF := hA.facts; (try simp only [fZ] at hF)
            go_wp2_with (first | ((with_reducible refine gst ?_); refine wS hA ?_; clear hF hA; intro w1 hA; (try simp only [uA] at hA); have hF := hA.facts; (try simp only [fZ] at hF)) | ((with_reducible refine gbx ?_); refine wB hA ?_; clear hF hA; intro b1 w1 hA hb1; (try simp only [uA] at hA); have hF := hA.facts; (try simp only [fZ] at hF)))
            try go_frame
            (refine wp_region_all (Cl _ _ _) (by kernel_rfl) (by kernel_rfl) (Cl.drew hA) ?_); (have hn1 := Cl.none hA); (have hn2 := Cl.none2 hA); (repeat (first | go_big_quiet_skip | (go_big_quiet_want; (first | (refine quiet_loads_at (ty := 50) (n := 8) rfl rfl sR (by kernel_rfl) (by kernel_rfl) (by first | assumption | ((try simp only [List.drop_succ_cons, List.drop_zero, List.take_succ_cons, List.take_zero]) <;> exact rfl)) (by exact rfl) ?_; go_frame; go_big_quiet_on) | (refine quiet_load_at rfl rfl sR (by kernel_rfl) (by first | assumption | exact rfl) ?_; go_frame; go_big_quiet_on) | (go_big_quiet_op; (first | go_big_quiet_on | ((apply Exists.intro); (refine ⟨fun w1 hw => ?_, ?_⟩); (focus ((have hw := Cl.out hw); (fail))); (go_big_quiet_on))))))))
            (refine wpQuiet_nil ?_); (intro w1 hB); (clear hF hA hn1 hn2); (have hA := Cl.out hB); (clear hB); (try simp only [uA] at hA); have hF := hA.facts; (try simp only [fZ] at hF)
            go_wp2_with (first | ((with_reducible show wpList _ _ _ ({ dst := _, op := Op.buildSlice _ _ _, type := _, pos := _, after := _, guard := _ } :: _) _ _); refine wpList_one_at (e := 52) (vs := cellsD (((q : Int), t), (⟨s, d0, d1, d2, d3, d4, d5, d6⟩ : A8))) rfl rfl (by (try simp only [Act.eval, eV]) <;> exact rfl) (fun _ => by kernel_rfl) hA ?_; intro b41 w1 hB hb41; clear hF hA; have hA := hB; clear hB; (try simp only [uA] at hA); have hF := hA.facts; (try simp only [fZ] at hF)) | ((with_reducible show wpList _ _ _ ({ dst := _, op := Op.call { callee := Callee.builtin Builtin.append, args := _, argTypes := _ }, type := _, pos := _, after := _, guard := _ } :: _) _ _); refine wpList_append_at (e := 52) (size := 10) (v := .slice axo es.length capo) (xs := flatD es) (n := es.length) (m := 1) (news := cellsD (((q : Int), t), (⟨s, d0, d1, d2, d3, d4, d5, d6⟩ : A8))) rfl _ _ 28 rfl Try.underlying28 hi0 hz0 hz1 hz2 rfl (by omega) hA sZ (by (try simp only [Act.eval, eV]) <;> exact rfl) (by (try simp only [Act.eval, eV]) <;> exact rfl) rfl (hA.cells_reads sZ _ _) (cellsD_one _) (by unfold maxLen; omega) (by omega) ?_; intro v6 w1 hB; rw [rowD_snoc] at hB; clear hF hA; have hA := hB; clear hB; (try simp only [uA] at hA); have hF := hA.facts; (try simp only [fZ] at hF)) | ((with_reducible refine gst ?_); refine wS hA ?_; clear hF hA; intro w1 hA; (try simp only [uA] at hA); have hF := hA.facts; (try simp only [fZ] at hF)) | ((with_reducible refine gbx ?_); refine wB hA ?_; clear hF hA; intro b1 w1 hA hb1; (try simp only [uA] at hA); have hF := hA.facts; (try simp only [fZ] at hF)))
            go_roundg G
            case measure => exact hGk.out
            case rel => exact ⟨i + 1, by simp, hikG, by rw [hns.out, hE'.out]; rw [hE'.out] at hA; exact hA.pick pZ⟩
          | some b =>
            obtain ⟨k, hfk2, hkl, hk⟩ := find_some hg
            rw [hfk'.out] at hfk2
            subst hfk2
            have hE' := Lib.hid (show es2 = es from by rw [← hes2'.out]; unfold addG; rw [if_pos ho, hg]; simp only; split <;> rfl)
            have herv : er = if eqA b (⟨s, d0, d1, d2, d3, d4, d5, d6⟩ : A8) then 0 else 15 := by rw [← her'.out]; unfold addG; rw [if_pos ho, hg]; simp only; split <;> rfl
            have hkI : (k : Int) < es.length := by omega
            obtain ⟨go, co, hgo, _, hom, hoL, hot, hB⟩ := hA.row_open (e := 52) (size := 10) (ax := axo) (cap := capo) (n := es.length) (xs := flatD es) sZ (by omega)
            subst hgo
            have h10 := Ref.cut_at8 hot hk
            obtain ⟨u, e0, e1, e2, e3, e4, e5, e6⟩ := b
            simp only at h10
            have hot' := Lib.hid hot
            clear hA hot hk hri hra hg; have hA := hB; clear hB
            have hk0 : decide ((k : Int) < 0) = false := decide_eq_false (by omega)
            have hk1 : decide ((0 : Int) ≤ (k : Int)) = true := decide_eq_true (by omega)
            obtain ⟨d, hd⟩ : ∃ d, eqA (⟨u, e0, e1, e2, e3, e4, e5, e6⟩ : A8) (⟨s, d0, d1, d2, d3, d4, d5, d6⟩ : A8) = d := ⟨_, rfl⟩
            rw [hd] at herv
            cases d
            · rw [if_neg (by decide)] at herv
              subst herv
              (try simp only [uA] at hA); have hF := hA.facts; (try simp only [fZ] at hF)
              go_wp2_with (first | ((with_reducible refine gst ?_); refine wS hA ?_; clear hF hA; intro w1 hA; (try simp only [uA] at hA); have hF := hA.facts; (try simp only [fZ] at hF)) | ((with_reducible refine gbx ?_); refine wB hA ?_; clear hF hA; intro b1 w1 hA hb1; (try simp only [uA] at hA); have hF := hA.facts; (try simp only [fZ] at hF)))
              try go_frame
              have hnq := fun w => neqC_at u e0 e1 e2 e3 e4 e5 e6 s d0 d1 d2 d3 d4 d5 d6 w
              rw [hd] at hnq
              simp only [Bool.not_false, Bool.not_true] at hnq
              clear hd
              (refine wp_region_all (Cl _ _ _) (by kernel_rfl) (by kernel_rfl) (Cl.drew hA) ?_); (have hn1 := Cl.none hA); (have hn2 := Cl.none2 hA); (repeat (first | go_big_quiet_skip | (go_big_quiet_want; (first | (refine quiet_loads_at (ty := 50) (n := 8) rfl rfl sR (by kernel_rfl) (by kernel_rfl) (by first | assumption | ((try simp only [List.drop_succ_cons, List.drop_zero, List.take_succ_cons, List.take_zero]) <;> exact rfl)) (by exact rfl) ?_; go_frame; go_big_quiet_on) | (refine quiet_load_at rfl rfl sR (by kernel_rfl) (by first | assumption | exact rfl) ?_; go_frame; go_big_quiet_on) | (go_big_quiet_op; (first | go_big_quiet_on | ((apply Exists.intro); (refine ⟨fun w1 hw => ?_, ?_⟩); (focus ((have hw := Cl.out hw); (fail))); (go_big_quiet_on))))))))
              (refine wpQuiet_nil ?_); (intro w1 hB); (clear hF hA hn1 hn2); (have hA := Cl.out hB); (clear hB); (try simp only [uA] at hA); have hF := hA.facts; (try simp only [fZ] at hF)
              clear hnq
              go_wp2_with (first | ((with_reducible refine gst ?_); refine wS hA ?_; clear hF hA; intro w1 hA; (try simp only [uA] at hA); have hF := hA.facts; (try simp only [fZ] at hF)) | ((with_reducible refine gbx ?_); refine wB hA ?_; clear hF hA; intro b1 w1 hA hb1; (try simp only [uA] at hA); have hF := hA.facts; (try simp only [fZ] at hF)))
              go_roundg G
              case measure => exact hGk.out
              case rel =>
                have hC := hA.row_shut (e := 52) (size := 10) (g := go) (n := es.length) (cap := capo) (xs := flatD es) sZ hoL hcpo hom hot'.out
                exact ⟨i + 1, by simp, hikG, by rw [hns.out]; rw [hE'.out] at hC ⊢; exact hC.pick pZ⟩
            · rw [if_pos rfl] at herv
              subst herv
              (try simp only [uA] at hA); have hF := hA.facts; (try simp only [fZ] at hF)
              go_wp2_with (first | ((with_reducible refine gst ?_); refine wS hA ?_; clear hF hA; intro w1 hA; (try simp only [uA] at hA); have hF := hA.facts; (try simp only [fZ] at hF)) | ((with_reducible refine gbx ?_); refine wB hA ?_; clear hF hA; intro b1 w1 hA hb1; (try simp only [uA] at hA); have hF := hA.facts; (try simp only [fZ] at hF)))
              try go_frame
              have hnq := fun w => neqC_at u e0 e1 e2 e3 e4 e5 e6 s d0 d1 d2 d3 d4 d5 d6 w
              rw [hd] at hnq
              simp only [Bool.not_false, Bool.not_true] at hnq
              clear hd
              (refine wp_region_all (Cl _ _ _) (by kernel_rfl) (by kernel_rfl) (Cl.drew hA) ?_); (have hn1 := Cl.none hA); (have hn2 := Cl.none2 hA); (repeat (first | go_big_quiet_skip | (go_big_quiet_want; (first | (refine quiet_loads_at (ty := 50) (n := 8) rfl rfl sR (by kernel_rfl) (by kernel_rfl) (by first | assumption | ((try simp only [List.drop_succ_cons, List.drop_zero, List.take_succ_cons, List.take_zero]) <;> exact rfl)) (by exact rfl) ?_; go_frame; go_big_quiet_on) | (refine quiet_load_at rfl rfl sR (by kernel_rfl) (by first | assumption | exact rfl) ?_; go_frame; go_big_quiet_on) | (go_big_quiet_op; (first | go_big_quiet_on | ((apply Exists.intro); (refine ⟨fun w1 hw => ?_, ?_⟩); (focus ((have hw := Cl.out hw); (fail))); (go_big_quiet_on))))))))
              (refine wpQuiet_nil ?_); (intro w1 hB); (clear hF hA hn1 hn2); (have hA := Cl.out hB); (clear hB); (try simp only [uA] at hA); have hF := hA.facts; (try simp only [fZ] at hF)
              clear hnq
              go_wp2_with (first | ((with_reducible refine gst ?_); refine wS hA ?_; clear hF hA; intro w1 hA; (try simp only [uA] at hA); have hF := hA.facts; (try simp only [fZ] at hF)) | ((with_reducible refine gbx ?_); refine wB hA ?_; clear hF hA; intro b1 w1 hA hb1; (try simp only [uA] at hA); have hF := hA.facts; (try simp only [fZ] at hF)))
              go_roundg G
              case measure => exact hGk.out
              case rel =>
                have hC := hA.row_shut (e := 52) (size := 10) (g := go) (n := es.length) (cap := capo) (xs := flatD es) sZ hoL hcpo hom hot'.out
                exact ⟨i + 1, by simp, hikG, by rw [hns.out]; rw [hE'.out] at hC ⊢; exact hC.pick pZ⟩
        · have hE' := Lib.hid (show es2 = es from by rw [← hes2'.out]; unfold addG; rw [if_neg ho])
          have herv : er = 10 := by rw [← her'.out]; unfold addG; rw [if_neg ho]
          subst herv
          obtain ⟨x0, hx0⟩ : ∃ x, rightI r t = x := ⟨_, rfl⟩
          rw [hx0] at hri
          cases x0
          · have hF := hA.facts
            (try simp only [uA] at hA); have hF := hA.facts; (try simp only [fZ] at hF)
            go_wp2_with (first | ((with_reducible refine gst ?_); refine wS hA ?_; clear hF hA; intro w1 hA; (try simp only [uA] at hA); have hF := hA.facts; (try simp only [fZ] at hF)) | ((with_reducible refine gbx ?_); refine wB hA ?_; clear hF hA; intro b1 w1 hA hb1; (try simp only [uA] at hA); have hF := hA.facts; (try simp only [fZ] at hF)))
            try go_frame
            (refine wp_region_all (Cl _ _ _) (by kernel_rfl) (by kernel_rfl) (Cl.drew hA) ?_); (have hn1 := Cl.none hA); (have hn2 := Cl.none2 hA); (repeat (first | go_big_quiet_skip | (go_big_quiet_want; (first | (refine quiet_loads_at (ty := 45) (n := 2) rfl rfl sR (by kernel_rfl) (by kernel_rfl) (by first | assumption | ((try simp only [List.drop_succ_cons, List.drop_zero, List.take_succ_cons, List.take_zero]) <;> exact rfl)) (by exact rfl) ?_; go_frame; go_big_quiet_on) | (refine quiet_loads_at (ty := 50) (n := 8) rfl rfl sR (by kernel_rfl) (by kernel_rfl) (by first | assumption | ((try simp only [List.drop_succ_cons, List.drop_zero, List.take_succ_cons, List.take_zero]) <;> exact rfl)) (by exact rfl) ?_; go_frame; go_big_quiet_on) | (refine quiet_load_at rfl rfl sR (by kernel_rfl) (by first | assumption | exact rfl) ?_; go_frame; go_big_quiet_on) | (go_big_quiet_op; (first | go_big_quiet_on | ((apply Exists.intro); (refine ⟨fun w1 hw => ?_, ?_⟩); (focus ((have hw := Cl.out hw); (first | exact thro hw (hri _) | exact thro hw (hra _)))); (go_big_quiet_on))))))))
            (refine wpQuiet_nil ?_); (intro w1 hB); (clear hF hA hn1 hn2); (have hA := Cl.out hB); (clear hB); (try simp only [uA] at hA); have hF := hA.facts; (try simp only [fZ] at hF)
            go_wp2_with (first | ((with_reducible refine gst ?_); refine wS hA ?_; clear hF hA; intro w1 hA; (try simp only [uA] at hA); have hF := hA.facts; (try simp only [fZ] at hF)) | ((with_reducible refine gbx ?_); refine wB hA ?_; clear hF hA; intro b1 w1 hA hb1; (try simp only [uA] at hA); have hF := hA.facts; (try simp only [fZ] at hF)))
            go_roundg G
            case measure => exact hGk.out
            case rel => exact ⟨i + 1, by simp, hikG, by rw [hns.out]; rw [hE'.out] at hA ⊢; exact hA.pick pZ⟩
          · obtain ⟨x1, hx1⟩ : ∃ x, A8.right (⟨s, d0, d1, d2, d3, d4, d5, d6⟩ : A8) = x := ⟨_, rfl⟩
            rw [hx1] at hra
            cases x1
            · have hF := hA.facts
              (try simp only [uA] at hA); have hF := hA.facts; (try simp only [fZ] at hF)
              go_wp2_with (first | ((with_reducible refine gst ?_); refine wS hA ?_; clear hF hA; intro w1 hA; (try simp only [uA] at hA); have hF := hA.facts; (try simp only [fZ] at hF)) | ((with_reducible refine gbx ?_); refine wB hA ?_; clear hF hA; intro b1 w1 hA hb1; (try simp only [uA] at hA); have hF := hA.facts; (try simp only [fZ] at hF)))
              try go_frame
              (refine wp_region_all (Cl _ _ _) (by kernel_rfl) (by kernel_rfl) (Cl.drew hA) ?_); (have hn1 := Cl.none hA); (have hn2 := Cl.none2 hA); (repeat (first | go_big_quiet_skip | (go_big_quiet_want; (first | (refine quiet_loads_at (ty := 45) (n := 2) rfl rfl sR (by kernel_rfl) (by kernel_rfl) (by first | assumption | ((try simp only [List.drop_succ_cons, List.drop_zero, List.take_succ_cons, List.take_zero]) <;> exact rfl)) (by exact rfl) ?_; go_frame; go_big_quiet_on) | (refine quiet_loads_at (ty := 50) (n := 8) rfl rfl sR (by kernel_rfl) (by kernel_rfl) (by first | assumption | ((try simp only [List.drop_succ_cons, List.drop_zero, List.take_succ_cons, List.take_zero]) <;> exact rfl)) (by exact rfl) ?_; go_frame; go_big_quiet_on) | (refine quiet_load_at rfl rfl sR (by kernel_rfl) (by first | assumption | exact rfl) ?_; go_frame; go_big_quiet_on) | (go_big_quiet_op; (first | go_big_quiet_on | ((apply Exists.intro); (refine ⟨fun w1 hw => ?_, ?_⟩); (focus ((have hw := Cl.out hw); (first | exact thro hw (hri _) | exact thro hw (hra _)))); (go_big_quiet_on))))))))
              (refine wpQuiet_nil ?_); (intro w1 hB); (clear hF hA hn1 hn2); (have hA := Cl.out hB); (clear hB); (try simp only [uA] at hA); have hF := hA.facts; (try simp only [fZ] at hF)
              go_wp2_with (first | ((with_reducible refine gst ?_); refine wS hA ?_; clear hF hA; intro w1 hA; (try simp only [uA] at hA); have hF := hA.facts; (try simp only [fZ] at hF)) | ((with_reducible refine gbx ?_); refine wB hA ?_; clear hF hA; intro b1 w1 hA hb1; (try simp only [uA] at hA); have hF := hA.facts; (try simp only [fZ] at hF)))
              go_roundg G
              case measure => exact hGk.out
              case rel => exact ⟨i + 1, by simp, hikG, by rw [hns.out]; rw [hE'.out] at hA ⊢; exact hA.pick pZ⟩
            · have hq7 := rightI_iff.1 hx0
              obtain ⟨q, rfl⟩ : ∃ q : Nat, r = q := ⟨r.toNat, by omega⟩
              obtain ⟨dq, hdq⟩ : ∃ z, ((⟨s, d0, d1, d2, d3, d4, d5, d6⟩ : A8)).dep q = z := ⟨_, rfl⟩
              have hne : dq ≠ t := fun e => ho (owns_parts.2 ⟨hx0, hx1, by rw [← e]; exact hdq⟩)
              have hnt : (dq != t) = true := by simpa using hne
              have hcq : ([.int .i64 s, .int .i64 d0, .int .i64 d1, .int .i64 d2, .int .i64 d3, .int .i64 d4, .int .i64 d5, .int .i64 d6] : List Value)[1 + q]? = some (.int .i64 dq) := by
                rw [← hdq]
                rcases (show q = 0 ∨ q = 1 ∨ q = 2 ∨ q = 3 ∨ q = 4 ∨ q = 5 ∨ q = 6 by omega) with rfl | rfl | rfl | rfl | rfl | rfl | rfl <;> rfl
              obtain ⟨cA, hcA⟩ : ∃ z, ([.int .i64 s, .int .i64 d0, .int .i64 d1, .int .i64 d2, .int .i64 d3, .int .i64 d4, .int .i64 d5, .int .i64 d6] : List Value) = z := ⟨_, rfl⟩
              have hc8 : (cA.drop 0).take 8 = [.int .i64 s, .int .i64 d0, .int .i64 d1, .int .i64 d2, .int .i64 d3, .int .i64 d4, .int .i64 d5, .int .i64 d6] := by rw [← hcA]; rfl
              have hcA' := Lib.hid hcA
              rw [hcA] at hcq hA
              have hq8 : (q : Int) < 7 := by omega
              clear hx0 hx1 hcA hdq hne ho
              (try simp only [uA] at hA); have hF := hA.facts; (try simp only [fZ] at hF)
              go_wp2_with (first | ((with_reducible refine gst ?_); refine wS hA ?_; clear hF hA; intro w1 hA; (try simp only [uA] at hA); have hF := hA.facts; (try simp only [fZ] at hF)) | ((with_reducible refine gbx ?_); refine wB hA ?_; clear hF hA; intro b1 w1 hA hb1; (try simp only [uA] at hA); have hF := hA.facts; (try simp only [fZ] at hF)))
              try go_frame
              (refine wp_region_all (Cl _ _ _) (by kernel_rfl) (by kernel_rfl) (Cl.drew hA) ?_); (have hn1 := Cl.none hA); (have hn2 := Cl.none2 hA); (repeat (first | go_big_quiet_skip | (go_big_quiet_want; (first | (refine quiet_loads_at (ty := 45) (n := 2) rfl rfl sR (by kernel_rfl) (by kernel_rfl) (by first | assumption | ((try simp only [List.drop_succ_cons, List.drop_zero, List.take_succ_cons, List.take_zero]) <;> exact rfl)) (by exact rfl) ?_; go_frame; go_big_quiet_on) | (refine quiet_loads_at (ty := 50) (n := 8) rfl rfl sR (by kernel_rfl) (by kernel_rfl) (by first | assumption | ((try simp only [List.drop_succ_cons, List.drop_zero, List.take_succ_cons, List.take_zero]) <;> exact rfl)) (by exact rfl) ?_; go_frame; go_big_quiet_on) | (refine quiet_load_at rfl rfl sR (by kernel_rfl) (by first | assumption | exact rfl) ?_; go_frame; go_big_quiet_on) | (go_big_quiet_op; (first | go_big_quiet_on | ((apply Exists.intro); (refine ⟨fun w1 hw => ?_, ?_⟩); (focus ((have hw := Cl.out hw); (first | exact thro hw (hri _) | exact thro hw (hra _)))); (go_big_quiet_on))))))))
              (refine wpQuiet_nil ?_); (intro w1 hB); (clear hF hA hn1 hn2); (have hA := Cl.out hB); (clear hB); (try simp only [uA] at hA); have hF := hA.facts; (try simp only [fZ] at hF)
              rw [← hcA'.out] at hA
              clear hcq hc8
              (try simp only [uA] at hA); have hF := hA.facts; (try simp only [fZ] at hF)
              go_wp2_with (first | ((with_reducible refine gst ?_); refine wS hA ?_; clear hF hA; intro w1 hA; (try simp only [uA] at hA); have hF := hA.facts; (try simp only [fZ] at hF)) | ((with_reducible refine gbx ?_); refine wB hA ?_; clear hF hA; intro b1 w1 hA hb1; (try simp only [uA] at hA); have hF := hA.facts; (try simp only [fZ] at hF)))
              go_roundg G
              case measure => exact hGk.out
              case rel => exact ⟨i + 1, by simp, hikG, by rw [hns.out]; rw [hE'.out] at hA ⊢; exact hA.pick pZ⟩
    · have hiI : ¬ (i : Int) < l.length := by omega
      rw [List.take_of_length_le (by omega)] at hA
      have hbl := builtE_len l
      obtain ⟨es, hes⟩ : ∃ z, builtE l = z := ⟨_, rfl⟩
      rw [hes] at hA hbl
      have hes' := Lib.hid hes
      clear hes
      (try simp only [uA] at hA); have hF := hA.facts; (try simp only [fZ] at hF)
      go_wp2_with (first | ((with_reducible refine gst ?_); refine wS hA ?_; clear hF hA; intro w1 hA; (try simp only [uA] at hA); have hF := hA.facts; (try simp only [fZ] at hF)) | ((with_reducible refine gbx ?_); refine wB hA ?_; clear hF hA; intro b1 w1 hA hb1; (try simp only [uA] at hA); have hF := hA.facts; (try simp only [fZ] at hF)))
      refine (sorted_any (hA.sep1 (A := rowD u6 es) sZ) (by omega)).mono ?_
      rintro e w3 ⟨us, rfl, hT⟩
      have hB := hA.call1 (A := rowD u6 es) sZ hT
      clear hF hA hT; have hA := hB; clear hB
      simp only [List.cons_append, List.nil_append] at hA
      obtain ⟨axo, capo, hvo, _, hcpo, _⟩ := hA.row_form (e := 52) (size := 10) (n := es.length) (v := u6) (xs := flatD es) sZ
      subst hvo
      (try simp only [uA] at hA); have hF := hA.facts; (try simp only [fZ] at hF)
      go_wp2_with (first | ((with_reducible refine gst ?_); refine wS hA ?_; clear hF hA; intro w1 hA; (try simp only [uA] at hA); have hF := hA.facts; (try simp only [fZ] at hF)) | ((with_reducible refine gbx ?_); refine wB hA ?_; clear hF hA; intro b1 w1 hA hb1; (try simp only [uA] at hA); have hF := hA.facts; (try simp only [fZ] at hF)))
      refine (count_any (hA.sep1 (A := GrP p m es) sZ)).mono ?_
      rintro e w4 ⟨rfl, hT⟩
      have hB := hA.call1 (A := GrP p m es) sZ hT
      clear hF hA hT; have hA := hB; clear hB
      simp only [List.cons_append, List.nil_append] at hA
      (try simp only [uA] at hA); have hF := hA.facts; (try simp only [fZ] at hF)
      go_wp2_with (first | ((with_reducible refine gst ?_); refine wS hA ?_; clear hF hA; intro w1 hA; (try simp only [uA] at hA); have hF := hA.facts; (try simp only [fZ] at hF)) | ((with_reducible refine gbx ?_); refine wB hA ?_; clear hF hA; intro b1 w1 hA hb1; (try simp only [uA] at hA); have hF := hA.facts; (try simp only [fZ] at hF)))
      refine bodyPost_ret (v := .tuple #[.pointer (some ⟨p, 0, none⟩), us, .bool true]) (by simp [results, Try.results11, go_sem]) rfl ?_
      exact ⟨p, m, us, rfl, by rw [hes'.out]; exact hA.pick pZ⟩
end Go.Proofs.Ytgicohkmfbbbdaa.Gr
end
