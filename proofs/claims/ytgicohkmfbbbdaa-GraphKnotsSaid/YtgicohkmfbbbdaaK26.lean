/- RefU, joined. -/
import Derived.Test.YtgicohkmfbbbdaaK25
import Derived.Deep.LoopGhost
section
namespace Go.Proofs.Ytgicohkmfbbbdaa.Ref
open _root_.Go.Proofs.Ytgicohkmfbbbdaa.Gr
open _root_.Go.Proofs.Ytgicohkmfbbbdaa.Mark (ltID)
open _root_.Go.Proofs.Ytgicohkmfbbbdaa.Attr (A8)
open Go.RowKit
set_option linter.unusedSimpArgs false
set_option linter.unusedVariables false
attribute [-go_sem] run_eql_struct run_neq_struct run_eqGuard_agg

/-- a table's row, as it is filled -/
def rowAt (Lk : List I2) (i : Nat) (ls : List I2) (k : Nat) : List Bool := (List.range Lk.length).map fun q => decide (q = i) || decide (q ∈ nextP Lk (ls.take k))
theorem rowAt_len (Lk : List I2) (i : Nat) (ls : List I2) (k : Nat) : (rowAt Lk i ls k).length = Lk.length := by simp [rowAt]
theorem rowAt_get (Lk : List I2) (i : Nat) (ls : List I2) (k : Nat) {q : Nat} (hq : q < Lk.length) : (rowAt Lk i ls k)[q]? = some (decide (q = i) || decide (q ∈ nextP Lk (ls.take k))) := by
  unfold rowAt
  rw [List.getElem?_map, List.getElem?_range hq]
  rfl
theorem rowAt_zero (Lk : List I2) (i : Nat) (ls : List I2) : (List.replicate Lk.length false).set i true = rowAt Lk i ls 0 := by
  apply List.ext_getElem?
  intro q
  by_cases hq : q < Lk.length
  · rw [rowAt_get _ _ _ _ hq]
    by_cases e : i = q
    · subst e; rw [List.getElem?_set_self (by simpa using hq)]; simp
    · rw [List.getElem?_set_ne e, List.getElem?_replicate, if_pos hq]
      simp [nextP]
      exact fun z => e z.symm
  · rw [List.getElem?_eq_none (by simp; omega), List.getElem?_eq_none (by rw [rowAt_len]; omega)]
theorem rowAt_yes {Lk : List I2} {i : Nat} {ls : List I2} {k : Nat} {y : I2} (hy : ls[k]? = some y) (hm : y ∈ Lk) : (rowAt Lk i ls k).set (Lk.idxOf y) true = rowAt Lk i ls (k + 1) := by
  have htk : ls.take (k + 1) = ls.take k ++ [y] := by rw [List.take_add_one, hy]; rfl
  apply List.ext_getElem?
  intro q
  by_cases hq : q < Lk.length
  · rw [rowAt_get _ _ _ _ hq, htk, nextP_snoc, if_pos hm]
    by_cases e : Lk.idxOf y = q
    · subst e; rw [List.getElem?_set_self (by rw [rowAt_len]; exact hq)]; simp
    · rw [List.getElem?_set_ne e, rowAt_get _ _ _ _ hq]
      have e2 : q ≠ Lk.idxOf y := fun z => e z.symm
      simp [e2]
  · rw [List.getElem?_eq_none (by simp [rowAt]; omega), List.getElem?_eq_none (by rw [rowAt_len]; omega)]
theorem rowAt_no {Lk : List I2} {i : Nat} {ls : List I2} {k : Nat} {y : I2} (hy : ls[k]? = some y) (hm : y ∉ Lk) : rowAt Lk i ls k = rowAt Lk i ls (k + 1) := by
  have htk : ls.take (k + 1) = ls.take k ++ [y] := by rw [List.take_add_one, hy]; rfl
  unfold rowAt
  rw [htk, nextP_snoc, if_neg hm, List.append_nil]
theorem cells_of_row {L0 F : List Part} {w0 w : World} {b n : Nat} {l : List Bool} (hl : l.length = n) (hn : 0 < n) (h : At L0 w0 (rowB (.slice (some ⟨b, 0, none⟩) n n) l :: F) w) : n ≤ maxLen ∧ At L0 w0 (Part.cells b (boolL l) 4 :: F) w := by
  subst hl
  obtain ⟨g, c, hg, _, hm, hcl, hct, hB⟩ := h.row_open (e := 4) (size := 1) (ax := some ⟨b, 0, none⟩) (cap := l.length) (n := l.length) (xs := boolL l) .here hn
  cases hg
  have : c = boolL l := by rw [← hct, List.take_of_length_le (by omega)]
  rw [this] at hB
  exact ⟨hm, hB⟩
theorem row_of_cells {L0 L F : List Part} {w0 w : World} {b n : Nat} {l : List Bool} (hl : l.length = n) (hm : n ≤ maxLen) (h : At L0 w0 L w) (s : Sel (Part.cells b (boolL l) 4) L F) : At L0 w0 (rowB (.slice (some ⟨b, 0, none⟩) l.length n) l :: F) w := by
  subst hl
  exact h.row_shut (e := 4) (size := 1) (g := b) (n := l.length) (cap := l.length) (xs := boolL l) s (by rw [boolL_len]; omega) (Nat.le_refl _) hm (by rw [List.take_of_length_le (by rw [boolL_len]; omega)])
/-- the rows that are laid -/
def Rows0 (xs : List IA) (f : F7) (T : List Br) (i : Nat) : Prop := T.length = i ∧ ∀ (j : Nat) (x : Br), T[j]? = some x → x.bs = rowAt (xs.map Prod.fst) j (leadsG xs f ((xs.map Prod.fst)[j]?.getD (0, 0))) 7
theorem rows_fill {xs : List IA} {f : F7} {T : List Br} (h : Rows0 xs f T xs.length) : Sq T xs.length ∧ Tar.Fill (nxL xs f (xs.map Prod.fst)) xs.length 0 0 0 (tF T) := by
  have hs : Sq T xs.length := ⟨h.1, fun i x hx => by rw [h.2 i x hx, rowAt_len, List.length_map]⟩
  refine ⟨hs, Tar.fill_start fun x y hx hy => ?_⟩
  obtain ⟨r, hr, hb⟩ := hs.cell hx hy
  rw [h.2 x r hr, rowAt_get _ _ _ _ (by rw [List.length_map]; exact hy)] at hb
  have hb := Option.some.inj hb
  rw [← hb]
  obtain ⟨z, hz⟩ : ∃ z, (xs.map Prod.fst)[x]? = some z := ⟨_, List.getElem?_eq_getElem (by rw [List.length_map]; exact hx)⟩
  have hl := leadsG_len xs f z
  unfold nxL
  rw [hz]
  simp only [Option.getD_some, Bool.or_eq_true, decide_eq_true_eq]
  rw [List.take_of_length_le hl]
  exact or_congr_left eq_comm
def ReRel (w : World) (b3 : Nat) (xs : List IA) (f : F7) (xv : Value) (k : Nat) (u6 u5 : Value) (wr : World) : Prop :=
  ∃ (i : Nat) (T : List Br), u6 = .int .i64 i ∧ i + k = xs.length ∧ Rows0 xs f T i ∧ At [rowD xv xs] w [rowT u5 T, restB T, rowD xv xs, Part.cells b3 [.int .i64 f.f0, .int .i64 f.f1, .int .i64 f.f2, .int .i64 f.f3, .int .i64 f.f4, .int .i64 f.f5, .int .i64 f.f6] 23] wr
def RfRel (w : World) (b3 bR : Nat) (xs : List IA) (f : F7) (xv tv lv : Value) (T : List Br) (i : Nat) (ls : List I2) (k : Nat) (u : Value) (wr : World) : Prop :=
  ∃ q : Nat, u = .int .i64 q ∧ q + k = ls.length ∧ At [rowD xv xs] w [Part.cells bR (boolL (rowAt (xs.map Prod.fst) i ls q)) 4, rowJ lv ls, rowT tv T, restB T, rowD xv xs, Part.cells b3 [.int .i64 f.f0, .int .i64 f.f1, .int .i64 f.f2, .int .i64 f.f3, .int .i64 f.f4, .int .i64 f.f5, .int .i64 f.f6] 23] wr
def RmRel (w : World) (b3 : Nat) (xs : List IA) (f : F7) (xv tv : Value) (k : Nat) (u : Value) (wr : World) : Prop :=
  ∃ (m : Nat) (T : List Br), u = .int .i64 m ∧ m + k = xs.length ∧ Sq T xs.length ∧ Tar.Fill (nxL xs f (xs.map Prod.fst)) xs.length m 0 0 (tF T) ∧ At [rowD xv xs] w [rowT tv T, restB T, rowD xv xs, Part.cells b3 [.int .i64 f.f0, .int .i64 f.f1, .int .i64 f.f2, .int .i64 f.f3, .int .i64 f.f4, .int .i64 f.f5, .int .i64 f.f6] 23] wr
def RiRel (w : World) (b3 : Nat) (xs : List IA) (f : F7) (xv tv : Value) (m : Nat) (k : Nat) (u : Value) (wr : World) : Prop :=
  ∃ (i : Nat) (T : List Br), u = .int .i64 i ∧ i + k = xs.length ∧ Sq T xs.length ∧ Tar.Fill (nxL xs f (xs.map Prod.fst)) xs.length m i 0 (tF T) ∧ At [rowD xv xs] w [rowT tv T, restB T, rowD xv xs, Part.cells b3 [.int .i64 f.f0, .int .i64 f.f1, .int .i64 f.f2, .int .i64 f.f3, .int .i64 f.f4, .int .i64 f.f5, .int .i64 f.f6] 23] wr
def RkRel (w : World) (b3 : Nat) (xs : List IA) (f : F7) (xv tv : Value) (m i : Nat) (k : Nat) (u : Value) (wr : World) : Prop :=
  ∃ (q : Nat) (T : List Br), u = .int .i64 q ∧ q + k = xs.length ∧ Sq T xs.length ∧ Tar.Fill (nxL xs f (xs.map Prod.fst)) xs.length m i q (tF T) ∧ At [rowD xv xs] w [rowT tv T, restB T, rowD xv xs, Part.cells b3 [.int .i64 f.f0, .int .i64 f.f1, .int .i64 f.f2, .int .i64 f.f3, .int .i64 f.f4, .int .i64 f.f5, .int .i64 f.f6] 23] wr
def ReachPost (xs : List IA) (f : F7) (xv : Value) (w : World) (e : Ending) (w' : World) : Prop :=
  ∃ u T, e = .returned u ∧ Sq T xs.length ∧ (∀ i k, i < xs.length → k < xs.length → (tF T i k = true ↔ Tar.R (nxL xs f (xs.map Prod.fst)) i k)) ∧ At [rowD xv xs] w [rowT u T, restB T, rowD xv xs] w'
set_option maxRecDepth 100000 in
set_option maxHeartbeats 8000000 in
theorem reach_any {w : World} {xv : Value} {xs : List IA} (h : Sep [rowD xv xs] w) (f : F7) (hu : Uq xs) (hd : Deps xs) (hmax : xs.length ≤ 1000) :
    Calls Try.prog 25 #[xv, f.val] w (ReachPost xs f xv w) := by
  have hm : Try.prog.follows .mixedOrders = true := by kernel_rfl
  obtain ⟨i0, hi0, hz0, hz1, hz2⟩ := info_parts infoB
  obtain ⟨i1, hi1, hz3, hz4, hz5⟩ := info_parts infoBs
  have hA := At.start h
  have hu' := Lib.hid hu
  have hd' := Lib.hid hd
  clear h hu hd
  obtain ⟨axx, capx, hvx, _, hcpx, _⟩ := hA.row_form (e := 52) (size := 10) (n := xs.length) (v := xv) (xs := flatD xs) sZ
  subst hvx
  simp only [F7.val]
  (try simp only [uA] at hA); have hF := hA.facts; (try simp only [fZ] at hF)
  go_enter Try.func25, Try.ntmps25
  go_wp2_with (first | ((with_reducible refine gbx ?_); refine wX 23 (.agg #[.int .i64 f.f0, .int .i64 f.f1, .int .i64 f.f2, .int .i64 f.f3, .int .i64 f.f4, .int .i64 f.f5, .int .i64 f.f6]) [.int .i64 f.f0, .int .i64 f.f1, .int .i64 f.f2, .int .i64 f.f3, .int .i64 f.f4, .int .i64 f.f5, .int .i64 f.f6] hA ?_; clear hF hA; intro b3 w1 hA hb3; (try simp only [uA] at hA); have hF := hA.facts; (try simp only [fZ] at hF)) | ((with_reducible refine gst ?_); refine wS hA ?_; clear hF hA; intro w1 hA; (try simp only [uA] at hA); have hF := hA.facts; (try simp only [fZ] at hF)) | ((with_reducible refine gbx ?_); refine wB hA ?_; clear hF hA; intro b1 w1 hA hb1; (try simp only [uA] at hA); have hF := hA.facts; (try simp only [fZ] at hF)))
  try go_frame
  have hB := nilT hA
  clear hF hA
  go_loopg [6, 5] xs.length (ReRel w b3 xs f (.slice axx xs.length capx))
  case atStart => exact ⟨0, [], rfl, by omega, ⟨rfl, nofun⟩, hB.pick pZ⟩
  case round =>
    obtain ⟨i, T, rfl, hik, hT0, hC⟩ := hrel
    clear hB
    have hA := hC
    clear hC
    have hT0' := Lib.hid hT0
    have hTl : T.length ≤ 1000 := by have := hT0.1; omega
    clear hT0
    obtain ⟨axT, capT, hvT, _, hcpT, _⟩ := hA.row_form (e := 60) (size := 1) (n := T.length) (v := u5) (xs := flatB T) .here
    subst hvT
    by_cases hi : i < xs.length
    · skip
      obtain ⟨e, he⟩ : ∃ e, xs[i]? = some e := ⟨_, List.getElem?_eq_getElem hi⟩
      have hga : getA xs e.1 = some e.2 := getA_of_mem hu'.out (List.mem_of_getElem? he)
      have hlg : leadsG xs f e.1 = leads f e.2 := by unfold leadsG; rw [hga]
      have hdep := Lib.hid (hd'.out _ _ hga)
      have hnm : (xs.map Prod.fst)[i]? = some e.1 := by rw [List.getElem?_map, he]; rfl
      have hnm' := Lib.hid hnm
      have hiI : (i : Int) < xs.length := by omega
      have he' := Lib.hid he
      clear he hnm hga
      (try simp only [uA] at hA); have hF := hA.facts; (try simp only [fZ] at hF)
      go_upto_region 7 with (first | ((with_reducible refine gms ?_); refine wpList_makeRow_at (e := 4) rfl _ _ rfl Try.underlying60 hi0 hz0 hz1 xs.length (by (try simp only [Act.eval, eV]) <;> exact rfl) (by (try simp only [Act.eval, eV]) <;> exact rfl) (by rw [hz2]; omega) (by unfold maxLen; omega) hA ?_; intro bR w1 hB; have hB := cells_of_row (List.length_replicate ..) (by omega) (madeB hB); obtain ⟨hbm, hB⟩ := hB; clear hF hA; have hA := hB; clear hB; (try simp only [uA] at hA); have hF := hA.facts; (try simp only [fZ] at hF)) | ((with_reducible show wpList _ _ _ ({ dst := none, op := Op.store _ _ _, type := _, pos := _, after := _, guard := _ } :: _) _ _); refine wpList_store_at (b := bR) (j := i) (c := boolL (List.replicate xs.length false)) (vs := [.bool true]) rfl rfl (by (try simp only [Act.eval, eV]) <;> exact rfl) (by (try simp only [Act.eval, eV]) <;> exact rfl) (by exact rfl) hA sZ (by kernel_rfl) rfl (by rw [boolL_len]; simp; omega) ?_; intro w1 hB; simp only [uA] at hB; rw [boolL_set] at hB; clear hF hA; have hA := hB; clear hB; (try simp only [uA] at hA); have hF := hA.facts; (try simp only [fZ] at hF)) | ((with_reducible refine gst ?_); refine wS hA ?_; clear hF hA; intro w1 hA; (try simp only [uA] at hA); have hF := hA.facts; (try simp only [fZ] at hF)) | ((with_reducible refine gbx ?_); refine wB hA ?_; clear hF hA; intro b1 w1 hA hb1; (try simp only [uA] at hA); have hF := hA.facts; (try simp only [fZ] at hF)))
      try go_frame
      have hr0 : (List.replicate xs.length false).set i true = rowAt (xs.map Prod.fst) i (leads f e.2) 0 := by
        have := rowAt_zero (xs.map Prod.fst) i (leads f e.2)
        rwa [List.length_map] at this
      rw [hr0] at hA
      clear hr0
      obtain ⟨gx, cx, hgx2, _, hxm, hxl, hxt, hB⟩ := hA.row_open (e := 52) (size := 10) (ax := axx) (cap := capx) (n := xs.length) (xs := flatD xs) sZ (by omega)
      subst hgx2
      have hx10 := cut_cells cellsD_len hxt he'.out
      have hxt' := Lib.hid hxt
      clear hF hA hxt
      have hA := hB.drew
      clear hB
      have hlds := fun w1 => leadsN_any w1 e f hdep.out
      have hl7 := leads_len f e.2
      generalize hls : leads f e.2 = ls at *
      have hls' := Lib.hid (show leadsG xs f e.1 = ls from hlg)
      obtain ⟨⟨r, t⟩, ss, d0, d1, d2, d3, d4, d5, d6⟩ := e
      simp only [cellsD] at hx10 hlds
      simp only [F7.val] at hlds
      clear hls hlg
      refine wp_region_held (S := fun w' => BlockIs w' gx cx 52 ∧ BlockIs w' b3 [.int .i64 f.f0, .int .i64 f.f1, .int .i64 f.f2, .int .i64 f.f3, .int .i64 f.f4, .int .i64 f.f5, .int .i64 f.f6] 23) hm ?_
      change wpAnyH _ _ _ _ _ 7 _ _ (World.drew _)
      generalize World.drew _ = wd at *
      have hS0 := (⟨hA.get (A := Part.cells gx cx 52) sZ, hA.get (A := Part.cells b3 [.int .i64 f.f0, .int .i64 f.f1, .int .i64 f.f2, .int .i64 f.f3, .int .i64 f.f4, .int .i64 f.f5, .int .i64 f.f6] 23) sZ⟩ : (fun w' => BlockIs w' gx cx 52 ∧ BlockIs w' b3 [.int .i64 f.f0, .int .i64 f.f1, .int .i64 f.f2, .int .i64 f.f3, .int .i64 f.f4, .int .i64 f.f5, .int .i64 f.f6] 23) wd)
      refine tP 0 26 (.slice (some ⟨gx, 0, none⟩) xs.length capx) (s := hS0) (h := ?_)
      try go_frame
      refine tP 1 27 (.int .i64 (i : Int)) (s := hS0) (h := ?_)
      try go_frame
      refine tZ 2 28 (.pointer (some ⟨gx, i * 10, none⟩)) (r := (fun w' hS => by simp [execOp, go_sem, Act.eval, Act.put]; omega)) (s := hS0) (h := ?_)
      try go_frame
      refine tZ 3 29 (.agg #[.int .i64 r, .int .i64 t, .int .i64 ss, .int .i64 d0, .int .i64 d1, .int .i64 d2, .int .i64 d3, .int .i64 d4, .int .i64 d5, .int .i64 d6]) (r := (fun w' hS => run_load_row (ty := 52) (n := 10) (b := gx) (j := i * 10) rfl (by exact rfl) hS.1 (by kernel_rfl) (by kernel_rfl) hx10 rfl)) (s := hS0) (h := ?_)
      try go_frame
      refine tZ 4 30 (.agg #[.int .i64 f.f0, .int .i64 f.f1, .int .i64 f.f2, .int .i64 f.f3, .int .i64 f.f4, .int .i64 f.f5, .int .i64 f.f6]) (r := (fun w' hS => run_load_row (ty := 23) (n := 7) (b := b3) (j := 0) rfl (by exact rfl) hS.2 (by kernel_rfl) (by kernel_rfl) rfl rfl)) (s := hS0) (h := ?_)
      try go_frame
      refine wpAnyH_one (i := 5) (by kernel_rfl) ?_
      refine opCall_at (i := 5) (d := some 31) (R := fun u w' => At [] wd [rowJ u ls] w') rfl rfl (by kernel_rfl) (fn := 21) (args := #[.agg #[.int .i64 r, .int .i64 t, .int .i64 ss, .int .i64 d0, .int .i64 d1, .int .i64 d2, .int .i64 d3, .int .i64 d4, .int .i64 d5, .int .i64 d6], .agg #[.int .i64 f.f0, .int .i64 f.f1, .int .i64 f.f2, .int .i64 f.f3, .int .i64 f.f4, .int .i64 f.f5, .int .i64 f.f6]]) (by simp [execOp, go_sem, Act.eval, Act.put]) ((hlds wd).mono fun e w' ⟨v, he, hT⟩ => ⟨v, he, hT⟩) ?_
      intro vq w3 hT
      have hB := hA.call0 hT
      clear hT
      simp only [List.cons_append, List.nil_append] at hB
      obtain ⟨axl, capl, hvl, _, hcpl, _⟩ := hB.row_form (e := 45) (size := 2) (n := ls.length) (v := vq) (xs := flatI ls) .here
      subst hvl
      have hS0 := (⟨hB.get (A := Part.cells gx cx 52) sZ, hB.get (A := Part.cells b3 [.int .i64 f.f0, .int .i64 f.f1, .int .i64 f.f2, .int .i64 f.f3, .int .i64 f.f4, .int .i64 f.f5, .int .i64 f.f6] 23) sZ⟩ : (fun w' => BlockIs w' gx cx 52 ∧ BlockIs w' b3 [.int .i64 f.f0, .int .i64 f.f1, .int .i64 f.f2, .int .i64 f.f3, .int .i64 f.f4, .int .i64 f.f5, .int .i64 f.f6] 23) w3)
      clear hA; have hA := hB; clear hB
      refine ⟨hS0, ?_⟩
      try go_frame
      refine tP 6 8 (.slice axl ls.length capl) (s := hS0) (h := ?_)
      try go_frame
      refine wpAnyH_done (by kernel_rfl) ?_ _
      try go_frame
      clear hS0
      have hB := hA.row_shut (e := 52) (size := 10) (g := gx) (n := xs.length) (cap := capx) (xs := flatD xs) sZ hxl hcpx hxm hxt'.out
      clear hA
      have hA := hB
      clear hB hx10
      (try simp only [uA] at hA); have hF := hA.facts; (try simp only [fZ] at hF)
      go_wp2_with (first | ((with_reducible refine gst ?_); refine wS hA ?_; clear hF hA; intro w1 hA; (try simp only [uA] at hA); have hF := hA.facts; (try simp only [fZ] at hF)) | ((with_reducible refine gbx ?_); refine wB hA ?_; clear hF hA; intro b1 w1 hA hb1; (try simp only [uA] at hA); have hF := hA.facts; (try simp only [fZ] at hF)))
      try go_frame
      have hikG : i + 1 + (gk - 1) = xs.length ∧ gk - 1 < gk := by omega
      obtain ⟨G, hG⟩ : ∃ G, gk - 1 = G := ⟨_, rfl⟩
      rw [hG] at hikG
      have hGk := Lib.hid hikG
      clear hG hik hikG hF
      go_loopg [9] ls.length (RfRel w b3 bR xs f (.slice (some ⟨gx, 0, none⟩) xs.length capx) (.slice axT T.length capT) (.slice axl ls.length capl) T i ls)
      case atStart => exact ⟨0, rfl, by omega, hA.pick pZ⟩
      case round =>
        obtain ⟨q, rfl, hqk, hB⟩ := hrel
        clear hA; have hA := hB; clear hB
        by_cases hq : q < ls.length
        · skip
          obtain ⟨y, hy⟩ : ∃ y, ls[q]? = some y := ⟨_, List.getElem?_eq_getElem hq⟩
          have hrr := row_elem (hA.row_reads (v := .slice axl ls.length capl) (n := ls.length) (xs := flatI ls) sZ) hy
          have hy' := Lib.hid hy
          clear hy
          obtain ⟨ry, ty⟩ := y
          obtain ⟨bt, offt, hax2, hce⟩ := hrr
          have hr2' := Lib.hid (show ∀ (k : Nat) u, ([.int .i64 ry, .int .i64 ty] : List Value)[k]? = some u → wr.cell? ⟨bt, offt + q * 2 + k, none⟩ = some u from hce)
          clear hce
          subst hax2
          have hqI : (q : Int) < ls.length := by omega
          (try simp only [uA] at hA); have hF := hA.facts; (try simp only [fZ] at hF)
          go_wp2_with (first | ((with_reducible show wpList _ _ _ ({ dst := some 42, op := Op.load _ _, type := _, pos := _, after := _, guard := _ } :: _) _ _); refine wpList_loadRow_at (vs := [.int .i64 ry, .int .i64 ty]) rfl rfl (by (try simp only [Act.eval, eV]) <;> exact rfl) hr2'.out (by kernel_rfl) (by kernel_rfl) ?_) | ((with_reducible refine gst ?_); refine wS hA ?_; clear hF hA; intro w1 hA; (try simp only [uA] at hA); have hF := hA.facts; (try simp only [fZ] at hF)) | ((with_reducible refine gbx ?_); refine wB hA ?_; clear hF hA; intro b1 w1 hA hb1; (try simp only [uA] at hA); have hF := hA.facts; (try simp only [fZ] at hF)))
          refine (find_any (hA.sep1 (A := rowD (.slice (some ⟨gx, 0, none⟩) xs.length capx) xs) sZ) (ry, ty) (by omega)).mono ?_
          rintro e w7 ⟨rfl, hT⟩
          have hB := hA.call1 (A := rowD (.slice (some ⟨gx, 0, none⟩) xs.length capx) xs) sZ hT
          clear hT
          clear hF hA; have hA := hB; clear hB
          try simp only [List.cons_append, List.nil_append] at hA
          (try simp only [uA] at hA); have hF := hA.facts; (try simp only [fZ] at hF)
          unfold findD idxI
          by_cases hm2 : (ry, ty) ∈ xs.map Prod.fst
          · have hyes := Lib.hid (rowAt_yes (i := i) hy'.out hm2)
            have hil := List.idxOf_lt_length_of_mem hm2
            rw [if_pos hm2]
            have hrl := rowAt_len (xs.map Prod.fst) i ls q
            generalize (xs.map Prod.fst).idxOf (ry, ty) = at_ at *
            have hat : (at_ : Int) < xs.length := by rw [List.length_map] at hil; omega
            have hat0 : (0 : Int) ≤ at_ := by omega
            have hatl : at_ < (rowAt (xs.map Prod.fst) i ls q).length := by rw [hrl]; exact hil
            have hatl' := Lib.hid hatl
            clear hm2 hil hrl hatl
            go_wp2_with (first | ((with_reducible show wpList _ _ _ ({ dst := none, op := Op.store _ _ _, type := _, pos := _, after := _, guard := _ } :: _) _ _); refine wpList_store_at (b := bR) (j := at_) (c := boolL (rowAt (xs.map Prod.fst) i ls q)) (vs := [.bool true]) rfl rfl (by (try simp only [Act.eval, eV]) <;> exact rfl) (by (try simp only [Act.eval, eV]) <;> exact rfl) (by exact rfl) hA sZ (by kernel_rfl) rfl (by rw [boolL_len]; exact hatl'.out) ?_; intro w1 hB; simp only [uA] at hB; rw [boolL_set, hyes.out] at hB; clear hF hA; have hA := hB; clear hB; (try simp only [uA] at hA); have hF := hA.facts; (try simp only [fZ] at hF)) | ((with_reducible refine gst ?_); refine wS hA ?_; clear hF hA; intro w1 hA; (try simp only [uA] at hA); have hF := hA.facts; (try simp only [fZ] at hF)) | ((with_reducible refine gbx ?_); refine wB hA ?_; clear hF hA; intro b1 w1 hA hb1; (try simp only [uA] at hA); have hF := hA.facts; (try simp only [fZ] at hF)))
            go_roundg (gk - 1)
            case measure => omega
            case rel => exact ⟨q + 1, by simp, by omega, hA.pick pZ⟩
          · have hno := Lib.hid (rowAt_no (i := i) hy'.out hm2)
            rw [if_neg hm2]
            rw [hno.out] at hA
            clear hm2
            (try simp only [uA] at hA); have hF := hA.facts; (try simp only [fZ] at hF)
            go_wp2_with (first | ((with_reducible refine gst ?_); refine wS hA ?_; clear hF hA; intro w1 hA; (try simp only [uA] at hA); have hF := hA.facts; (try simp only [fZ] at hF)) | ((with_reducible refine gbx ?_); refine wB hA ?_; clear hF hA; intro b1 w1 hA hb1; (try simp only [uA] at hA); have hF := hA.facts; (try simp only [fZ] at hF)))
            go_roundg (gk - 1)
            case measure => omega
            case rel => exact ⟨q + 1, by simp, by omega, hA.pick pZ⟩
        · have hq2 : q = ls.length := by omega
          subst hq2
          have hqI : ¬ (ls.length : Int) < ls.length := by omega
          have hrf : rowAt (xs.map Prod.fst) i ls ls.length = rowAt (xs.map Prod.fst) i ls 7 := by unfold rowAt; rw [List.take_of_length_le (Nat.le_refl _), List.take_of_length_le hl7]
          rw [hrf] at hA
          have hrl := rowAt_len (xs.map Prod.fst) i ls 7
          rw [List.length_map] at hrl
          clear hrf
          have hbs := Lib.hid (show rowAt (xs.map Prod.fst) i (leadsG xs f ((xs.map Prod.fst)[i]?.getD (0, 0))) 7 = rowAt (xs.map Prod.fst) i ls 7 from by rw [hnm'.out]; exact congrArg (fun z => rowAt (xs.map Prod.fst) i z 7) hls'.out)
          generalize rowAt (xs.map Prod.fst) i ls 7 = bs at *
          have hrl' := Lib.hid hrl
          (try simp only [uA] at hA); have hF := hA.facts; (try simp only [fZ] at hF)
          go_wp2_with (first | ((with_reducible show wpList _ _ _ ({ dst := _, op := Op.buildSlice _ _ _, type := _, pos := _, after := _, guard := _ } :: _) _ _); refine wpList_one_at (e := 60) (vs := Br.cells ⟨bR, xs.length, bs⟩) rfl rfl (by (try simp only [Act.eval, eV]) <;> exact rfl) (fun _ => by rw [show Br.cells ⟨bR, xs.length, bs⟩ = [.slice (some ⟨bR, 0, none⟩) xs.length xs.length] from by unfold Br.cells; rw [hrl'.out]]; kernel_rfl) hA ?_; intro b51 w1 hB hb51; clear hF hA; have hA := hB; clear hB; (try simp only [uA] at hA); have hF := hA.facts; (try simp only [fZ] at hF)) | ((with_reducible show wpList _ _ _ ({ dst := _, op := Op.call { callee := Callee.builtin Builtin.append, args := _, argTypes := _ }, type := _, pos := _, after := _, guard := _ } :: _) _ _); refine wpList_append_at (e := 60) (size := 1) (v := .slice axT T.length capT) (xs := flatB T) (n := T.length) (m := 1) (news := Br.cells ⟨bR, xs.length, bs⟩) rfl _ _ 58 rfl Try.underlying58 hi1 hz3 hz4 hz5 rfl (by omega) hA sZ (by (try simp only [Act.eval, eV]) <;> exact rfl) (by (try simp only [Act.eval, eV]) <;> exact rfl) rfl (hA.cells_reads sZ _ _) (Br.one _) (by unfold maxLen; omega) (by omega) ?_; intro v5 w1 hB; rw [rowT_snoc] at hB; clear hF hA; have hA := hB; clear hB; (try simp only [uA] at hA); have hF := hA.facts; (try simp only [fZ] at hF)) | ((with_reducible refine gst ?_); refine wS hA ?_; clear hF hA; intro w1 hA; (try simp only [uA] at hA); have hF := hA.facts; (try simp only [fZ] at hF)) | ((with_reducible refine gbx ?_); refine wB hA ?_; clear hF hA; intro b1 w1 hA hb1; (try simp only [uA] at hA); have hF := hA.facts; (try simp only [fZ] at hF)))
          go_roundg G
          case measure => exact hGk.out.2
          case rel =>
            have hC := row_of_cells hrl'.out hbm hA sZ
            have hD := inB (N := T ++ [⟨bR, xs.length, bs⟩]) (l1 := T) (l2 := []) (d := ⟨bR, xs.length, bs⟩) rfl hC .here (by rw [List.append_nil]; exact sZ)
            refine ⟨i + 1, T ++ [⟨bR, xs.length, bs⟩], by simp, hGk.out.1, ⟨by rw [List.length_append, hT0'.out.1]; rfl, fun j x hx => ?_⟩, hD.pick pZ⟩
            by_cases hj : j < T.length
            · rw [List.getElem?_append_left hj] at hx
              exact hT0'.out.2 j x hx
            · have hje : j = i := by
                have := (List.getElem?_eq_some_iff.1 hx).1
                rw [List.length_append, List.length_singleton] at this
                have := hT0'.out.1
                omega
              subst hje
              have h0 := hT0'.out.1
              rw [List.getElem?_append_right (by omega), show j - T.length = 0 from by omega] at hx
              cases hx
              exact hbs.out.symm
    · have hin0 : i = xs.length := by omega
      subst hin0
      obtain ⟨hsq0, hfl0⟩ := rows_fill hT0'.out
      have hiI : ¬ (xs.length : Int) < xs.length := by omega
      have hTn := hsq0.1
      have hsq0' := Lib.hid hsq0
      have hfl0' := Lib.hid hfl0
      have hrt : rowT (.slice axT T.length capT) T = Part.row 60 1 (.slice axT xs.length capT) xs.length (flatB T) := by unfold rowT; rw [hTn]
      rw [hTn] at hcpT
      rw [show (Value.slice axT T.length capT) = .slice axT xs.length capT from by rw [hTn]] at hA ⊢
      (try simp only [uA] at hA); have hF := hA.facts; (try simp only [fZ] at hF)
      clear hsq0 hfl0 hrt hTn hik
      go_wp2_with (first | ((with_reducible refine gst ?_); refine wS hA ?_; clear hF hA; intro w1 hA; (try simp only [uA] at hA); have hF := hA.facts; (try simp only [fZ] at hF)) | ((with_reducible refine gbx ?_); refine wB hA ?_; clear hF hA; intro b1 w1 hA hb1; (try simp only [uA] at hA); have hF := hA.facts; (try simp only [fZ] at hF)))
      try go_frame
      clear hF
      go_loopg [11] xs.length (RmRel w b3 xs f (.slice axx xs.length capx) (.slice axT xs.length capT))
      case atStart => exact ⟨0, T, rfl, by omega, hsq0'.out, hfl0'.out, hA.pick pZ⟩
      case round =>
        obtain ⟨m, T, rfl, hmk, hsq, hfl, hB⟩ := hrel
        clear hA hsq0' hfl0' hT0' hTl; have hA := hB; clear hB
        have hsq' := Lib.hid hsq
        have hfl' := Lib.hid hfl
        clear hsq hfl
        by_cases hmn : m < xs.length
        · skip
          have hmI : (m : Int) < xs.length := by omega
          have hmG : m + 1 + (gk - 1) = xs.length ∧ gk - 1 < gk := by omega
          obtain ⟨G, hG⟩ : ∃ G, gk - 1 = G := ⟨_, rfl⟩
          rw [hG] at hmG
          have hGm := Lib.hid hmG
          clear hG hmG hmk
          (try simp only [uA] at hA); have hF := hA.facts; (try simp only [fZ] at hF)
          go_wp2_with (first | ((with_reducible refine gst ?_); refine wS hA ?_; clear hF hA; intro w1 hA; (try simp only [uA] at hA); have hF := hA.facts; (try simp only [fZ] at hF)) | ((with_reducible refine gbx ?_); refine wB hA ?_; clear hF hA; intro b1 w1 hA hb1; (try simp only [uA] at hA); have hF := hA.facts; (try simp only [fZ] at hF)))
          try go_frame
          clear hF
          go_loopg [12] xs.length (RiRel w b3 xs f (.slice axx xs.length capx) (.slice axT xs.length capT) m)
          case atStart => exact ⟨0, T, rfl, by omega, hsq'.out, hfl'.out, hA.pick pZ⟩
          case round =>
            obtain ⟨i, T, rfl, hik, hsq, hfl, hB⟩ := hrel
            clear hA hsq' hfl'; have hA := hB; clear hB
            have hsq' := Lib.hid hsq
            have hfl' := Lib.hid hfl
            clear hsq hfl
            by_cases hin : i < xs.length
            · skip
              have hiI : (i : Int) < xs.length := by omega
              have hiG : i + 1 + (gk - 1) = xs.length ∧ gk - 1 < gk := by omega
              obtain ⟨G2, hG2⟩ : ∃ G, gk - 1 = G := ⟨_, rfl⟩
              rw [hG2] at hiG
              have hGi := Lib.hid hiG
              clear hG2 hiG hik
              (try simp only [uA] at hA); have hF := hA.facts; (try simp only [fZ] at hF)
              go_wp2_with (first | ((with_reducible refine gst ?_); refine wS hA ?_; clear hF hA; intro w1 hA; (try simp only [uA] at hA); have hF := hA.facts; (try simp only [fZ] at hF)) | ((with_reducible refine gbx ?_); refine wB hA ?_; clear hF hA; intro b1 w1 hA hb1; (try simp only [uA] at hA); have hF := hA.facts; (try simp only [fZ] at hF)))
              try go_frame
              clear hF
              go_loopg [13] xs.length (RkRel w b3 xs f (.slice axx xs.length capx) (.slice axT xs.length capT) m i)
              case atStart => exact ⟨0, T, rfl, by omega, hsq'.out, hfl'.out, hA.pick pZ⟩
              case round =>
                obtain ⟨q, T, rfl, hqk, hsq, hfl, hB⟩ := hrel
                clear hA hsq' hfl'; have hA := hB; clear hB
                have hsq' := Lib.hid hsq
                have hfl' := Lib.hid hfl
                clear hsq hfl
                by_cases hqn : q < xs.length
                · skip
                  have hqI : (q : Int) < xs.length := by omega
                  obtain ⟨xi, hxi, hik⟩ := hsq'.out.cell hin hqn
                  obtain ⟨xi2, hxi2, hIm⟩ := hsq'.out.cell hin hmn
                  rw [hxi] at hxi2
                  cases hxi2
                  obtain ⟨xm, hxm, hMk⟩ := hsq'.out.cell hmn hqn
                  have hTi := flatB_get hxi
                  have hTm := flatB_get hxm
                  have hbi := hsq'.out.2 i xi hxi
                  have hbm := hsq'.out.2 m xm hxm
                  obtain ⟨gi, ci, bi⟩ := xi
                  obtain ⟨gm, cm, bm⟩ := xm
                  simp only [Br.v] at hTi hTm
                  simp only at hik hIm hMk hbi hbm
                  have hkb : (q : Int) < bi.length := by omega
                  have hkm : (m : Int) < bi.length := by omega
                  have hkq : (q : Int) < bm.length := by omega
                  have hbn : 0 < bi.length ∧ q < bi.length := by omega
                  clear hbi hbm
                  have hrt : rowT (.slice axT xs.length capT) T = Part.row 60 1 (.slice axT xs.length capT) xs.length (flatB T) := by unfold rowT; rw [hsq'.out.1]
                  rw [hrt] at hA
                  obtain ⟨gT, cT, hgT, _, _, _, _, _⟩ := hA.row_open (e := 60) (size := 1) (ax := axT) (cap := capT) (n := xs.length) (xs := flatB T) sZ (by omega)
                  subst hgT
                  clear hrt
                  obtain ⟨v1, hv1⟩ : ∃ b, tF T i q = b := ⟨_, rfl⟩
                  obtain ⟨v2, hv2⟩ : ∃ b, tF T i m = b := ⟨_, rfl⟩
                  obtain ⟨v3, hv3⟩ : ∃ b, tF T m q = b := ⟨_, rfl⟩
                  rw [hv1] at hik
                  rw [hv2] at hIm
                  rw [hv3] at hMk
                  have hv1' := Lib.hid hv1
                  have hv2' := Lib.hid hv2
                  have hv3' := Lib.hid hv3
                  clear hv1 hv2 hv3
                  (try simp only [uA] at hA); have hF := hA.facts; (try simp only [fZ] at hF)
                  cases v1
                  · cases v2
                    · go_wp2_with (first | ((with_reducible refine gst ?_); refine wS hA ?_; clear hF hA; intro w1 hA; (try simp only [uA] at hA); have hF := hA.facts; (try simp only [fZ] at hF)) | ((with_reducible refine gbx ?_); refine wB hA ?_; clear hF hA; intro b1 w1 hA hb1; (try simp only [uA] at hA); have hF := hA.facts; (try simp only [fZ] at hF)))
                      try go_frame
                      (refine wp_region_head 30 (Cl _ _ _) (by kernel_rfl) (by kernel_rfl) (Cl.drew hA) ?_); (simp only [List.take_succ_cons, List.take_zero, List.drop_succ_cons, List.drop_zero]); (have hn1 := Cl.none hA); (have hn2 := Cl.none2 hA); (repeat (first | go_big_quiet_skip | (go_big_quiet_want; (first | ((first | ((with_reducible show Oper.quiet _ { dst := _, op := Op.load 60 _, type := _, pos := _, after := _, guard := _ } _ _ _); first | refine quiet_row1_at (g := gT) (j := i) rfl rfl sR (by kernel_rfl) hTi ?_ | refine quiet_row1_at (g := gT) (j := m) rfl rfl sR (by kernel_rfl) hTm ?_) | ((with_reducible show Oper.quiet _ { dst := _, op := Op.load 4 _, type := _, pos := _, after := _, guard := _ } _ _ _); first | refine quiet_pool_at (i := i) (k := q) (d := ⟨gi, ci, bi⟩) rfl rfl sR (by kernel_rfl) hxi hik ?_ | refine quiet_pool_at (i := i) (k := m) (d := ⟨gi, ci, bi⟩) rfl rfl sR (by kernel_rfl) hxi hIm ?_ | refine quiet_pool_at (i := m) (k := q) (d := ⟨gm, cm, bm⟩) rfl rfl sR (by kernel_rfl) hxm hMk ?_)); go_frame; go_big_quiet_on) | (refine quiet_load_at rfl rfl sR (by kernel_rfl) (by first | assumption | exact rfl) ?_; go_frame; go_big_quiet_on) | (go_big_quiet_op; (first | go_big_quiet_on | ((apply Exists.intro); (refine ⟨fun w1 hw => ?_, ?_⟩); (focus ((have hw := Cl.out hw); (fail))); (go_big_quiet_on))))))))
                      (refine wpQuiet_nil ?_); (intro w1 hB); (clear hF hA hn1 hn2); (have hA := Cl.out hB); (clear hB); (try simp only [uA] at hA); have hF := hA.facts; (try simp only [fZ] at hF)
                      clear hik hIm hMk
                      have hB := outB (split_at hxi) hA sZ
                      clear hF hA; have hA := hB; clear hB
                      simp only [Br.v] at hA
                      obtain ⟨gi', c, hg1, hc1, hc2, hc3, hc4, hB⟩ := hA.row_open (e := 4) (size := 1) (ax := some ⟨gi, 0, none⟩) (cap := ci) (n := bi.length) (xs := boolL bi) .here (by omega)
                      cases hg1
                      clear hA; have hA := hB; clear hB
                      have hcl : q < c.length := by have := hA.size; omega
                      (try simp only [uA] at hA); have hF := hA.facts; (try simp only [fZ] at hF)
                      go_wp2_with (first | ((with_reducible show wpList _ _ _ ({ dst := none, op := Op.store _ _ _, type := _, pos := _, after := _, guard := _ } :: _) _ _); refine wpList_store_at (b := gi) (j := q) (c := c) (vs := [.bool false]) rfl rfl (by (try simp only [Act.eval, eV]) <;> exact rfl) (by (try simp only [Act.eval, eV]) <;> exact rfl) (by exact rfl) hA sZ (by kernel_rfl) rfl (by show q + 1 ≤ c.length; omega) ?_; intro w1 hB; simp only [uA] at hB; clear hF hA; have hA := hB; clear hB; (try simp only [uA] at hA); have hF := hA.facts; (try simp only [fZ] at hF)) | ((with_reducible refine gst ?_); refine wS hA ?_; clear hF hA; intro w1 hA; (try simp only [uA] at hA); have hF := hA.facts; (try simp only [fZ] at hF)) | ((with_reducible refine gbx ?_); refine wB hA ?_; clear hF hA; intro b1 w1 hA hb1; (try simp only [uA] at hA); have hF := hA.facts; (try simp only [fZ] at hF)))
                      go_roundg (gk - 1)
                      case measure => omega
                      case rel =>
                        have hst : (c.set q (.bool false)).take (bi.length * 1) = boolL (bi.set q false) := by rw [List.take_set, hc4, boolL_set]
                        have hC := hA.row_shut (e := 4) (size := 1) (g := gi) (n := bi.length) (cap := ci) (xs := boolL (bi.set q false)) sZ (by rw [List.length_set]; exact hc3) hc1 hc2 hst
                        have hbl : (bi.set q false).length = bi.length := List.length_set ..
                        have hpe : Part.row 4 1 (.slice (some ⟨gi, 0, none⟩) bi.length ci) bi.length (boolL (bi.set q false)) = rowB (Br.v ⟨gi, ci, bi.set q false⟩) (bi.set q false) := by
                          show _ = Part.row 4 1 (.slice (some ⟨gi, 0, none⟩) (bi.set q false).length ci) (bi.set q false).length (boolL (bi.set q false))
                          rw [hbl]
                        rw [hpe] at hC
                        have hD := inB (N := T.set i ⟨gi, ci, bi.set q false⟩) (d := ⟨gi, ci, bi.set q false⟩) (set_at hxi _) hC .here sZ
                        obtain ⟨hs1, hs2⟩ := hsq'.out.set hxi hqn false
                        have hfc := Tar.fill_cell hmn hin hqn hfl'.out
                        refine ⟨q + 1, T.set i ⟨gi, ci, bi.set q false⟩, by simp, by omega, hs1, fill_congr hfc fun p z hp hz => by rw [hs2 p z hp hz, hv1'.out, hv2'.out]; simp [Tar.up2], ?_⟩
                        have hrt : rowT (.slice (some ⟨gT, 0, none⟩) xs.length capT) (T.set i ⟨gi, ci, bi.set q false⟩) = Part.row 60 1 (.slice (some ⟨gT, 0, none⟩) xs.length capT) xs.length (flatB T) := by unfold rowT; rw [List.length_set, hsq'.out.1, flatB_set hxi _ hbl]
                        rw [hrt]
                        exact hD.pick pZ
                    · go_wp2_with (first | ((with_reducible refine gst ?_); refine wS hA ?_; clear hF hA; intro w1 hA; (try simp only [uA] at hA); have hF := hA.facts; (try simp only [fZ] at hF)) | ((with_reducible refine gbx ?_); refine wB hA ?_; clear hF hA; intro b1 w1 hA hb1; (try simp only [uA] at hA); have hF := hA.facts; (try simp only [fZ] at hF)))
                      try go_frame
                      (refine wp_region_head 30 (Cl _ _ _) (by kernel_rfl) (by kernel_rfl) (Cl.drew hA) ?_); (simp only [List.take_succ_cons, List.take_zero, List.drop_succ_cons, List.drop_zero]); (have hn1 := Cl.none hA); (have hn2 := Cl.none2 hA); (repeat (first | go_big_quiet_skip | (go_big_quiet_want; (first | ((first | ((with_reducible show Oper.quiet _ { dst := _, op := Op.load 60 _, type := _, pos := _, after := _, guard := _ } _ _ _); first | refine quiet_row1_at (g := gT) (j := i) rfl rfl sR (by kernel_rfl) hTi ?_ | refine quiet_row1_at (g := gT) (j := m) rfl rfl sR (by kernel_rfl) hTm ?_) | ((with_reducible show Oper.quiet _ { dst := _, op := Op.load 4 _, type := _, pos := _, after := _, guard := _ } _ _ _); first | refine quiet_pool_at (i := i) (k := q) (d := ⟨gi, ci, bi⟩) rfl rfl sR (by kernel_rfl) hxi hik ?_ | refine quiet_pool_at (i := i) (k := m) (d := ⟨gi, ci, bi⟩) rfl rfl sR (by kernel_rfl) hxi hIm ?_ | refine quiet_pool_at (i := m) (k := q) (d := ⟨gm, cm, bm⟩) rfl rfl sR (by kernel_rfl) hxm hMk ?_)); go_frame; go_big_quiet_on) | (refine quiet_load_at rfl rfl sR (by kernel_rfl) (by first | assumption | exact rfl) ?_; go_frame; go_big_quiet_on) | (go_big_quiet_op; (first | go_big_quiet_on | ((apply Exists.intro); (refine ⟨fun w1 hw => ?_, ?_⟩); (focus ((have hw := Cl.out hw); (fail))); (go_big_quiet_on))))))))
                      (refine wpQuiet_nil ?_); (intro w1 hB); (clear hF hA hn1 hn2); (have hA := Cl.out hB); (clear hB); (try simp only [uA] at hA); have hF := hA.facts; (try simp only [fZ] at hF)
                      clear hik hIm hMk
                      have hB := outB (split_at hxi) hA sZ
                      clear hF hA; have hA := hB; clear hB
                      simp only [Br.v] at hA
                      obtain ⟨gi', c, hg1, hc1, hc2, hc3, hc4, hB⟩ := hA.row_open (e := 4) (size := 1) (ax := some ⟨gi, 0, none⟩) (cap := ci) (n := bi.length) (xs := boolL bi) .here (by omega)
                      cases hg1
                      clear hA; have hA := hB; clear hB
                      have hcl : q < c.length := by have := hA.size; omega
                      (try simp only [uA] at hA); have hF := hA.facts; (try simp only [fZ] at hF)
                      go_wp2_with (first | ((with_reducible show wpList _ _ _ ({ dst := none, op := Op.store _ _ _, type := _, pos := _, after := _, guard := _ } :: _) _ _); refine wpList_store_at (b := gi) (j := q) (c := c) (vs := [.bool v3]) rfl rfl (by (try simp only [Act.eval, eV]) <;> exact rfl) (by (try simp only [Act.eval, eV]) <;> exact rfl) (by exact rfl) hA sZ (by kernel_rfl) rfl (by show q + 1 ≤ c.length; omega) ?_; intro w1 hB; simp only [uA] at hB; clear hF hA; have hA := hB; clear hB; (try simp only [uA] at hA); have hF := hA.facts; (try simp only [fZ] at hF)) | ((with_reducible refine gst ?_); refine wS hA ?_; clear hF hA; intro w1 hA; (try simp only [uA] at hA); have hF := hA.facts; (try simp only [fZ] at hF)) | ((with_reducible refine gbx ?_); refine wB hA ?_; clear hF hA; intro b1 w1 hA hb1; (try simp only [uA] at hA); have hF := hA.facts; (try simp only [fZ] at hF)))
                      go_roundg (gk - 1)
                      case measure => omega
                      case rel =>
                        have hst : (c.set q (.bool v3)).take (bi.length * 1) = boolL (bi.set q v3) := by rw [List.take_set, hc4, boolL_set]
                        have hC := hA.row_shut (e := 4) (size := 1) (g := gi) (n := bi.length) (cap := ci) (xs := boolL (bi.set q v3)) sZ (by rw [List.length_set]; exact hc3) hc1 hc2 hst
                        have hbl : (bi.set q v3).length = bi.length := List.length_set ..
                        have hpe : Part.row 4 1 (.slice (some ⟨gi, 0, none⟩) bi.length ci) bi.length (boolL (bi.set q v3)) = rowB (Br.v ⟨gi, ci, bi.set q v3⟩) (bi.set q v3) := by
                          show _ = Part.row 4 1 (.slice (some ⟨gi, 0, none⟩) (bi.set q v3).length ci) (bi.set q v3).length (boolL (bi.set q v3))
                          rw [hbl]
                        rw [hpe] at hC
                        have hD := inB (N := T.set i ⟨gi, ci, bi.set q v3⟩) (d := ⟨gi, ci, bi.set q v3⟩) (set_at hxi _) hC .here sZ
                        obtain ⟨hs1, hs2⟩ := hsq'.out.set hxi hqn v3
                        have hfc := Tar.fill_cell hmn hin hqn hfl'.out
                        refine ⟨q + 1, T.set i ⟨gi, ci, bi.set q v3⟩, by simp, by omega, hs1, fill_congr hfc fun p z hp hz => by rw [hs2 p z hp hz, hv1'.out, hv2'.out, hv3'.out]; simp [Tar.up2], ?_⟩
                        have hrt : rowT (.slice (some ⟨gT, 0, none⟩) xs.length capT) (T.set i ⟨gi, ci, bi.set q v3⟩) = Part.row 60 1 (.slice (some ⟨gT, 0, none⟩) xs.length capT) xs.length (flatB T) := by unfold rowT; rw [List.length_set, hsq'.out.1, flatB_set hxi _ hbl]
                        rw [hrt]
                        exact hD.pick pZ
                  · go_wp2_with (first | ((with_reducible refine gst ?_); refine wS hA ?_; clear hF hA; intro w1 hA; (try simp only [uA] at hA); have hF := hA.facts; (try simp only [fZ] at hF)) | ((with_reducible refine gbx ?_); refine wB hA ?_; clear hF hA; intro b1 w1 hA hb1; (try simp only [uA] at hA); have hF := hA.facts; (try simp only [fZ] at hF)))
                    try go_frame
                    (refine wp_region_head 30 (Cl _ _ _) (by kernel_rfl) (by kernel_rfl) (Cl.drew hA) ?_); (simp only [List.take_succ_cons, List.take_zero, List.drop_succ_cons, List.drop_zero]); (have hn1 := Cl.none hA); (have hn2 := Cl.none2 hA); (repeat (first | go_big_quiet_skip | (go_big_quiet_want; (first | ((first | ((with_reducible show Oper.quiet _ { dst := _, op := Op.load 60 _, type := _, pos := _, after := _, guard := _ } _ _ _); first | refine quiet_row1_at (g := gT) (j := i) rfl rfl sR (by kernel_rfl) hTi ?_ | refine quiet_row1_at (g := gT) (j := m) rfl rfl sR (by kernel_rfl) hTm ?_) | ((with_reducible show Oper.quiet _ { dst := _, op := Op.load 4 _, type := _, pos := _, after := _, guard := _ } _ _ _); first | refine quiet_pool_at (i := i) (k := q) (d := ⟨gi, ci, bi⟩) rfl rfl sR (by kernel_rfl) hxi hik ?_ | refine quiet_pool_at (i := i) (k := m) (d := ⟨gi, ci, bi⟩) rfl rfl sR (by kernel_rfl) hxi hIm ?_ | refine quiet_pool_at (i := m) (k := q) (d := ⟨gm, cm, bm⟩) rfl rfl sR (by kernel_rfl) hxm hMk ?_)); go_frame; go_big_quiet_on) | (refine quiet_load_at rfl rfl sR (by kernel_rfl) (by first | assumption | exact rfl) ?_; go_frame; go_big_quiet_on) | (go_big_quiet_op; (first | go_big_quiet_on | ((apply Exists.intro); (refine ⟨fun w1 hw => ?_, ?_⟩); (focus ((have hw := Cl.out hw); (fail))); (go_big_quiet_on))))))))
                    (refine wpQuiet_nil ?_); (intro w1 hB); (clear hF hA hn1 hn2); (have hA := Cl.out hB); (clear hB); (try simp only [uA] at hA); have hF := hA.facts; (try simp only [fZ] at hF)
                    clear hik hIm hMk
                    have hB := outB (split_at hxi) hA sZ
                    clear hF hA; have hA := hB; clear hB
                    simp only [Br.v] at hA
                    obtain ⟨gi', c, hg1, hc1, hc2, hc3, hc4, hB⟩ := hA.row_open (e := 4) (size := 1) (ax := some ⟨gi, 0, none⟩) (cap := ci) (n := bi.length) (xs := boolL bi) .here (by omega)
                    cases hg1
                    clear hA; have hA := hB; clear hB
                    have hcl : q < c.length := by have := hA.size; omega
                    (try simp only [uA] at hA); have hF := hA.facts; (try simp only [fZ] at hF)
                    go_wp2_with (first | ((with_reducible show wpList _ _ _ ({ dst := none, op := Op.store _ _ _, type := _, pos := _, after := _, guard := _ } :: _) _ _); refine wpList_store_at (b := gi) (j := q) (c := c) (vs := [.bool true]) rfl rfl (by (try simp only [Act.eval, eV]) <;> exact rfl) (by (try simp only [Act.eval, eV]) <;> exact rfl) (by exact rfl) hA sZ (by kernel_rfl) rfl (by show q + 1 ≤ c.length; omega) ?_; intro w1 hB; simp only [uA] at hB; clear hF hA; have hA := hB; clear hB; (try simp only [uA] at hA); have hF := hA.facts; (try simp only [fZ] at hF)) | ((with_reducible refine gst ?_); refine wS hA ?_; clear hF hA; intro w1 hA; (try simp only [uA] at hA); have hF := hA.facts; (try simp only [fZ] at hF)) | ((with_reducible refine gbx ?_); refine wB hA ?_; clear hF hA; intro b1 w1 hA hb1; (try simp only [uA] at hA); have hF := hA.facts; (try simp only [fZ] at hF)))
                    go_roundg (gk - 1)
                    case measure => omega
                    case rel =>
                      have hst : (c.set q (.bool true)).take (bi.length * 1) = boolL (bi.set q true) := by rw [List.take_set, hc4, boolL_set]
                      have hC := hA.row_shut (e := 4) (size := 1) (g := gi) (n := bi.length) (cap := ci) (xs := boolL (bi.set q true)) sZ (by rw [List.length_set]; exact hc3) hc1 hc2 hst
                      have hbl : (bi.set q true).length = bi.length := List.length_set ..
                      have hpe : Part.row 4 1 (.slice (some ⟨gi, 0, none⟩) bi.length ci) bi.length (boolL (bi.set q true)) = rowB (Br.v ⟨gi, ci, bi.set q true⟩) (bi.set q true) := by
                        show _ = Part.row 4 1 (.slice (some ⟨gi, 0, none⟩) (bi.set q true).length ci) (bi.set q true).length (boolL (bi.set q true))
                        rw [hbl]
                      rw [hpe] at hC
                      have hD := inB (N := T.set i ⟨gi, ci, bi.set q true⟩) (d := ⟨gi, ci, bi.set q true⟩) (set_at hxi _) hC .here sZ
                      obtain ⟨hs1, hs2⟩ := hsq'.out.set hxi hqn true
                      have hfc := Tar.fill_cell hmn hin hqn hfl'.out
                      refine ⟨q + 1, T.set i ⟨gi, ci, bi.set q true⟩, by simp, by omega, hs1, fill_congr hfc fun p z hp hz => by rw [hs2 p z hp hz, hv1'.out]; simp [Tar.up2], ?_⟩
                      have hrt : rowT (.slice (some ⟨gT, 0, none⟩) xs.length capT) (T.set i ⟨gi, ci, bi.set q true⟩) = Part.row 60 1 (.slice (some ⟨gT, 0, none⟩) xs.length capT) xs.length (flatB T) := by unfold rowT; rw [List.length_set, hsq'.out.1, flatB_set hxi _ hbl]
                      rw [hrt]
                      exact hD.pick pZ
                · have hqI : ¬ (q : Int) < xs.length := by omega
                  have hq2 : q = xs.length := by omega
                  subst hq2
                  (try simp only [uA] at hA); have hF := hA.facts; (try simp only [fZ] at hF)
                  go_wp2_with (first | ((with_reducible refine gst ?_); refine wS hA ?_; clear hF hA; intro w1 hA; (try simp only [uA] at hA); have hF := hA.facts; (try simp only [fZ] at hF)) | ((with_reducible refine gbx ?_); refine wB hA ?_; clear hF hA; intro b1 w1 hA hb1; (try simp only [uA] at hA); have hF := hA.facts; (try simp only [fZ] at hF)))
                  go_roundg G2
                  case measure => exact hGi.out.2
                  case rel => exact ⟨i + 1, T, by simp, hGi.out.1, hsq'.out, Tar.fill_row hfl'.out, hA.pick pZ⟩
            · have hiI : ¬ (i : Int) < xs.length := by omega
              have hi2 : i = xs.length := by omega
              subst hi2
              (try simp only [uA] at hA); have hF := hA.facts; (try simp only [fZ] at hF)
              go_wp2_with (first | ((with_reducible refine gst ?_); refine wS hA ?_; clear hF hA; intro w1 hA; (try simp only [uA] at hA); have hF := hA.facts; (try simp only [fZ] at hF)) | ((with_reducible refine gbx ?_); refine wB hA ?_; clear hF hA; intro b1 w1 hA hb1; (try simp only [uA] at hA); have hF := hA.facts; (try simp only [fZ] at hF)))
              go_roundg G
              case measure => exact hGm.out.2
              case rel => exact ⟨m + 1, T, by simp, hGm.out.1, hsq'.out, Tar.fill_all hfl'.out, hA.pick pZ⟩
        · have hmI : ¬ (m : Int) < xs.length := by omega
          have hm2 : m = xs.length := by omega
          subst hm2
          (try simp only [uA] at hA); have hF := hA.facts; (try simp only [fZ] at hF)
          go_wp2_with (first | ((with_reducible refine gst ?_); refine wS hA ?_; clear hF hA; intro w1 hA; (try simp only [uA] at hA); have hF := hA.facts; (try simp only [fZ] at hF)) | ((with_reducible refine gbx ?_); refine wB hA ?_; clear hF hA; intro b1 w1 hA hb1; (try simp only [uA] at hA); have hF := hA.facts; (try simp only [fZ] at hF)))
          go_ret
          exact ⟨_, T, rfl, hsq'.out, fun i k hi hk => Tar.fill_end (fun x _ y hy => by have := nxL_lt hy; rwa [List.length_map] at this) hfl'.out hi hk, hA.pick pZ⟩
end Go.Proofs.Ytgicohkmfbbbdaa.Ref
end
