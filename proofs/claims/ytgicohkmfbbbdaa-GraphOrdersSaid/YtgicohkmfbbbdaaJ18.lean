/- GraG, joined. -/
import Derived.Test.YtgicohkmfbbbdaaJ17
section
namespace Go.Proofs.Ytgicohkmfbbbdaa.Gr
open Go.RowKit
open Attr (A8 thro)
set_option linter.unusedSimpArgs false
set_option linter.unusedVariables false
attribute [-go_sem] run_eql_struct run_neq_struct run_eqGuard_agg

def freeN (O : List Wt) (H : List Hs) (d : Nd) : Bool := match H[d.knot]?, O[d.knot]? with
  | some x, some o => freeV x o
  | _, _ => false
def InN (O : List Wt) (H : List Hs) (L : List Nd) : Prop := ∀ d ∈ L, ∃ x o, H[d.knot]? = some x ∧ O[d.knot]? = some o
theorem order1_c {w : World} {b9 b8 : Nat} {hv ov : Value} {O : List Wt} {H : List Hs} (h : Sep [kaP b9 b8 hv ov O H] w) (d : Nd) (hd : ∃ x o, H[d.knot]? = some x ∧ O[d.knot]? = some o) {c : Bool} (hc : freeN O H d = c) :
    Calls Try.prog 46 #[.agg d.cells.toArray, .pointer (some ⟨b9, 0, none⟩), .pointer (some ⟨b8, 0, none⟩)] w fun e w' => e = .returned (.bool c) ∧ At [kaP b9 b8 hv ov O H] w [kaP b9 b8 hv ov O H] w' := by
  obtain ⟨x, o, hx, ho⟩ := hd
  subst hc
  unfold freeN
  rw [hx, ho]
  exact order1_any h d hx ho
def IdxNRel (w : World) (v : Value) (L : List Nd) (E : Part) (f : Nd → Bool) (k : Nat) (u : Value) (wr : World) : Prop :=
  ∃ i : Nat, u = .int .i64 i ∧ i + k = L.length ∧ At [rowNd v L, E] w [rowNd v L, E] wr ∧ ∀ y ∈ L.take i, f y = false
def IdxNPost (w : World) (v : Value) (L : List Nd) (E : Part) (f : Nd → Bool) (e : Ending) (w' : World) : Prop :=
  ((∃ (i : Nat) (d : Nd), e = .returned (.int .i64 i) ∧ L[i]? = some d ∧ f d = true ∧ ∀ y ∈ L.take i, f y = false) ∨ (e = .returned (.int .i64 (-1)) ∧ ∀ y ∈ L, f y = false)) ∧ At [rowNd v L, E] w [rowNd v L, E] w'
set_option maxRecDepth 100000 in
set_option maxHeartbeats 2000000 in
theorem idxn_any {w : World} {v : Value} {L : List Nd} {b9 b8 : Nat} {hv ov : Value} {O : List Wt} {H : List Hs} (h : Sep [rowNd v L, kaP b9 b8 hv ov O H] w) (hin : InN O H L) (hmax : L.length ≤ 1000000) :
    Calls Try.prog 45 #[v, .func (.func 46) #[] #[.pointer (some ⟨b9, 0, none⟩), .pointer (some ⟨b8, 0, none⟩)]] w (IdxNPost w v L (kaP b9 b8 hv ov O H) (freeN O H)) := by
  have hA := At.start h
  have hF := hA.facts
  clear h
  obtain ⟨ax, cap, rfl, hax, hcap, _⟩ := hA.row_form (e := 100) (size := 7) (n := L.length) (v := v) (xs := flatN L) (by repeat (first | exact Sel.here | apply Sel.there))
  have hin' := Lib.hid hin
  have hax' := Lib.hid hax
  clear hin hax
  go_enter Try.func45, Try.ntmps45
  go_wp2_with fail
  try go_frame
  go_loopg [8] L.length (IdxNRel w (.slice ax L.length cap) L (kaP b9 b8 hv ov O H) (freeN O H))
  case atStart => exact ⟨0, rfl, by simp, hA, by simp⟩
  case round =>
    obtain ⟨i, rfl, hik, hB, hno⟩ := hrel
    have hno' := Lib.hid hno
    clear hF hA hno
    have hA := hB
    clear hB
    by_cases hi : i < L.length
    · obtain ⟨d, hd⟩ : ∃ d, L[i]? = some d := ⟨_, List.getElem?_eq_getElem hi⟩
      obtain ⟨bn, offn, hax2, hce2⟩ := row_elemG Nd.cells_len (by omega) (l := L) (x := d) (hA.row_reads (v := .slice ax L.length cap) (n := L.length) (xs := flatN L) (by repeat (first | exact Sel.here | apply Sel.there))) hd
      subst hax2
      have hd' := Lib.hid hd
      have htk := Lib.hid (show L.take (i + 1) = L.take i ++ [d] by rw [List.take_add_one, hd]; rfl)
      have hci := hin'.out d (List.mem_of_getElem? hd)
      clear hd
      obtain ⟨c, hc⟩ : ∃ c, freeN O H d = c := ⟨_, rfl⟩
      have hcal := fun (w1 : World) (q : Sep [kaP b9 b8 hv ov O H] w1) => order1_c q d hci hc
      have hc' := Lib.hid hc
      have hr2 := Lib.hid (show ∀ (k : Nat) u, ([.int .i64 d.id.1, .int .i64 d.id.2, .slice d.na d.nx.length d.nc, .int .i64 d.low, .int .i64 d.num, .bool d.on, .int .i64 d.knot] : List Value)[k]? = some u → wr.cell? ⟨bn, offn + i * 7 + k, none⟩ = some u from hce2)
      clear hce2 hc hci
      simp only [Nd.cells] at hcal
      have hF := hA.facts
      (try simp only [uA] at hA); have hF := hA.facts; (try simp only [fA, facts_row, and_true, true_and] at hF)
      go_wp2_with (first | ((with_reducible show wpList _ _ _ ({ dst := some 15, op := Op.load _ _, type := _, pos := _, after := _, guard := _ } :: _) _ _); refine wpList_loadRow_at (vs := [.int .i64 d.id.1, .int .i64 d.id.2, .slice d.na d.nx.length d.nc, .int .i64 d.low, .int .i64 d.num, .bool d.on, .int .i64 d.knot]) rfl rfl (by (try simp only [Act.eval, eV]) <;> exact rfl) hr2.out (by kernel_rfl) (by kernel_rfl) ?_) | ((with_reducible refine gst ?_); refine wS hA ?_; clear hF hA; intro w1 hA; (try simp only [uA] at hA); have hF := hA.facts; (try simp only [fA, facts_row, and_true, true_and] at hF)) | ((with_reducible refine gbx ?_); refine wB hA ?_; clear hF hA; intro b1 w1 hA hb1; (try simp only [uA] at hA); have hF := hA.facts; (try simp only [fA, facts_row, and_true, true_and] at hF)))
      refine (hcal _ (hA.sep1 (A := kaP b9 b8 hv ov O H) (by repeat (first | exact Sel.here | apply Sel.there)))).mono ?_
      rintro e w2 ⟨rfl, hT⟩
      have hB := hA.call1 (A := kaP b9 b8 hv ov O H) (by repeat (first | exact Sel.here | apply Sel.there)) hT
      clear hF hA hT hcal
      have hA := hB
      clear hB
      simp only [List.cons_append, List.nil_append] at hA
      have hF := hA.facts
      (try simp only [uA] at hA); have hF := hA.facts; (try simp only [fA, facts_row, and_true, true_and] at hF)
      cases c
      · go_wp2_with (first | ((with_reducible refine gst ?_); refine wS hA ?_; clear hF hA; intro w1 hA; (try simp only [uA] at hA); have hF := hA.facts; (try simp only [fA, facts_row, and_true, true_and] at hF)) | ((with_reducible refine gbx ?_); refine wB hA ?_; clear hF hA; intro b1 w1 hA hb1; (try simp only [uA] at hA); have hF := hA.facts; (try simp only [fA, facts_row, and_true, true_and] at hF)))
        go_roundg (gk - 1)
        case measure => omega
        case rel => exact ⟨i + 1, by simp, by omega, hA.pick (by repeat (first | exact Picks.nil | refine Picks.cons (by repeat (first | exact Sel.here | apply Sel.there)) ?_)), fun x hx => by
          rw [htk.out] at hx
          rcases List.mem_append.1 hx with hx | hx
          · exact hno'.out x hx
          · rw [List.mem_singleton.1 hx]; exact hc'.out⟩
      · go_wp2_with (first | ((with_reducible refine gst ?_); refine wS hA ?_; clear hF hA; intro w1 hA; (try simp only [uA] at hA); have hF := hA.facts; (try simp only [fA, facts_row, and_true, true_and] at hF)) | ((with_reducible refine gbx ?_); refine wB hA ?_; clear hF hA; intro b1 w1 hA hb1; (try simp only [uA] at hA); have hF := hA.facts; (try simp only [fA, facts_row, and_true, true_and] at hF)))
        go_ret
        exact ⟨.inl ⟨i, d, rfl, hd'.out, hc'.out, hno'.out⟩, hA.pick (by repeat (first | exact Picks.nil | refine Picks.cons (by repeat (first | exact Sel.here | apply Sel.there)) ?_))⟩
    · have hF := hA.facts
      go_wp2_with (first | ((with_reducible refine gst ?_); refine wS hA ?_; clear hF hA; intro w1 hA; (try simp only [uA] at hA); have hF := hA.facts; (try simp only [fA, facts_row, and_true, true_and] at hF)) | ((with_reducible refine gbx ?_); refine wB hA ?_; clear hF hA; intro b1 w1 hA hb1; (try simp only [uA] at hA); have hF := hA.facts; (try simp only [fA, facts_row, and_true, true_and] at hF)))
      go_ret
      exact ⟨.inr ⟨rfl, fun x hx => hno'.out x (by rw [List.take_of_length_le (by omega)]; exact hx)⟩, hA.pick (by repeat (first | exact Picks.nil | refine Picks.cons (by repeat (first | exact Sel.here | apply Sel.there)) ?_))⟩
end Go.Proofs.Ytgicohkmfbbbdaa.Gr
end
