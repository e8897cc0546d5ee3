/- slices.Sort, Collect, Sorted at uint64; a session's requests. -/
import Derived.Test.YtnkddjomanaadaaSortU7
import Derived.Test.YtnkddjomanaadaaCollU
import Derived.Test.YtnkddjomanaadaaLeaseW9
namespace Go.Proofs.Ytnkddjomanaadaa.SortU
open Go.RowKit Go.Shelf
open Go.Sort (ltInt PermIn SortedIn)
open Go.Maps (Keyed)
open _root_.Go.Proofs.Ytnkddjomanaadaa.Unt (seV seL)
set_option linter.unusedSimpArgs false
set_option linter.unusedVariables false

def sortI (l : List Int) : List Int := l.mergeSort fun x y => decide (x ≤ y)
theorem sortI_of {zs : List Int} {R : Array Int} (hP : PermIn 0 zs.length zs.toArray R) (hS : SortedIn ltInt 0 zs.length R) : R.toList = sortI zs := by
  have h := Sort.sorted_unique_holds Sort.swo_ltInt (fun x y h1 h2 => by simp only [ltInt, decide_eq_false_iff_not] at h1 h2; omega) zs.toArray R (by simpa using hP) (by simpa using hS)
  rw [h]
  unfold sortI
  simp only []
  congr 1
  funext x y
  show (!decide (y < x)) = decide (x ≤ y)
  by_cases h : x ≤ y
  · have h' : ¬ y < x := by omega
    simp [h, h']
  · have h' : y < x := by omega
    simp [h, h']
theorem sortI_perm {l m : List Int} (h : l.Perm m) : sortI l = sortI m := by
  have hp : (sortI l).Perm (sortI m) := (List.mergeSort_perm l _).trans (h.trans (List.mergeSort_perm m _).symm)
  have tr : ∀ a b c : Int, decide (a ≤ b) = true → decide (b ≤ c) = true → decide (a ≤ c) = true := by intro a b c h1 h2; simp at *; omega
  have tt : ∀ a b : Int, (decide (a ≤ b) || decide (b ≤ a)) = true := by intro a b; simp; omega
  refine List.Perm.eq_of_pairwise (le := fun a b => decide (a ≤ b) = true) ?_ (List.pairwise_mergeSort tr tt l) (List.pairwise_mergeSort tr tt m) hp
  intro a b _ _ h1 h2
  simp at h1 h2
  omega
theorem sortI_len (l : List Int) : (sortI l).length = l.length := List.length_mergeSort l
theorem flat_seL (l : List Int) : l.flatMap seL = l.map (Value.int .u64) := by
  induction l with
  | nil => rfl
  | cons x l ih => rw [List.flatMap_cons, ih]; rfl
abbrev rowI (v : Value) (l : List Int) : Part := .row 29 1 v l.length (l.flatMap seL)
set_option maxRecDepth 100000 in
theorem ins_none (ax : Option Addr) (cap : Nat) (w : World) : Calls Try.prog 73 #[.slice ax 0 cap, .int .i64 0, .int .i64 0] w fun e w' => e = .returned (.tuple #[]) ∧ w' = w := by
  go_enter Try.func73, Try.ntmps73
  go_wp2_with fail
  go_loopg [6] 0 (fun (k : Nat) u wr => u = .int .i64 1 ∧ wr = w)
  case atStart => exact ⟨rfl, rfl⟩
  case round =>
    obtain ⟨rfl, rfl⟩ := hrel
    go_wp2_with fail
    go_end0
    exact ⟨rfl, rfl⟩
set_option maxRecDepth 100000 in
theorem pdq_none (ax : Option Addr) (cap : Nat) (w : World) : Calls Try.prog 60 #[.slice ax 0 cap, .int .i64 0, .int .i64 0, .int .i64 0] w fun e w' => e = .returned (.tuple #[]) ∧ w' = w := by
  go_enter Try.func60, Try.ntmps60
  go_wp2_with fail
  go_loopg [1, 2, 3] 0 (fun (k : Nat) u1 u2 u3 wr => u1 = .int .i64 0 ∧ u2 = .int .i64 0 ∧ u3 = .int .i64 0 ∧ wr = w)
  case atStart => exact ⟨rfl, rfl, rfl, rfl⟩
  case round =>
    obtain ⟨rfl, rfl, rfl, rfl⟩ := hrel
    go_wp2_with fail
    refine (ins_none _ _ _).mono ?_
    rintro e w' ⟨rfl, rfl⟩
    go_wp2_with fail
    refine bodyPost_ret (results_none rfl _ _ _) rfl ?_
    exact ⟨rfl, rfl⟩
set_option maxRecDepth 100000 in
/-- slices.Sort: the row is sorted where it lies -/
theorem sort_any {w : World} {v : Value} {l : List Int} (h : Sep [rowI v l] w) (hmax : l.length < 4611686018427387904) :
    Calls Try.prog 52 #[v] w fun e w' => e = .returned (.tuple #[]) ∧ At [rowI v l] w [rowI v (sortI l)] w' := by
  have hA := At.start h
  clear h
  obtain ⟨ax, cap, rfl, hax, hcap, _⟩ := hA.row_form (v := v) (xs := l.flatMap seL) .here
  have hLen : ∀ w, Calls Try.prog 55 #[.int .u64 (l.length : Int)] w fun e w' => e = .returned (.int .i64 (Lib.bitLen l.length : Nat)) ∧ w' = w := fun w => by
    have h := Try.bits_Len (l.length : Int) w (by omega) (by omega)
    rwa [Int.toNat_natCast] at h
  have hk := (bitLen_le l.length (by omega)).2 hmax
  have hlw : IntKind.u64.wrap (l.length : Int) = (l.length : Int) := by rw [IntKind.wrap_u64]; omega
  by_cases hl : 0 < l.length
  · obtain ⟨g, c, rfl, _, hcm, hcl, hct, hB⟩ := hA.row_open (ax := ax) (cap := cap) (n := l.length) (xs := l.flatMap seL) .here hl
    have hc : c = rowC l.toArray (c.drop l.length) := by
      unfold rowC
      rw [List.toList_toArray, ← flat_seL, ← hct, Nat.mul_one, List.take_append_drop]
    obtain ⟨r, hr⟩ : ∃ r, c.drop l.length = r := ⟨_, rfl⟩
    rw [hr] at hc
    have hrl : r.length = cap - l.length := by rw [← hr, List.length_drop, hcl]; omega
    subst hc
    have hrl' := Lib.hid hrl
    clear hr hct hcl hrl hA
    have hA := hB
    clear hB
    go_enter Try.func52, Try.ntmps52
    go_wp2_with (first | (go_at_call 55; refine (hLen _).mono ?_; rintro e w' ⟨rfl, rfl⟩))
    refine (pdq_any (l.length + 1) (g := g) (d := l.toArray) (r := r) (a := 0) (b := l.length) (limit := Lib.bitLen l.length) (hA.sep1 .here) (by simp) (by omega) (by omega) (by simp) (by omega) (by simpa using hmax) (.inl rfl)).mono ?_
    rintro e w1 ⟨R, rfl, hp, hs, hT⟩
    have hB := hA.call1 .here hT
    clear hA hT
    have hR := Lib.hid (sortI_of hp hs)
    have hsz : R.size = l.length := by have := hp.1; simpa using this
    clear hp hs
    go_wp2_with fail
    go_end0
    refine ⟨rfl, ?_⟩
    have hC := hB.row_shut (size := 1) (n := l.length) (xs := (sortI l).flatMap seL) .here (cap := cap) (by rw [rowC_len, hrl'.out, hsz]; omega) hcap hcm (by
      unfold rowC
      rw [hR.out, ← flat_seL, Nat.mul_one, List.take_append_of_le_length (by rw [flat_len seL 1 (fun _ => rfl), sortI_len]; omega), List.take_of_length_le (by rw [flat_len seL 1 (fun _ => rfl), sortI_len]; omega)])
    unfold rowI
    rw [sortI_len]
    exact hC.pick (by with_reducible repeat (first | exact Picks.nil | refine Picks.cons (by with_reducible repeat (first | exact Sel.here | apply Sel.there)) ?_))
  · have h0 : l = [] := List.eq_nil_of_length_eq_zero (by omega)
    subst h0
    have hz : (([] : List Int).length : Int) = 0 := rfl
    have hbl : Lib.bitLen 0 = 0 := rfl
    simp only [List.length_nil] at *
    go_enter Try.func52, Try.ntmps52
    go_wp2_with (first | (go_at_call 55; refine (hLen _).mono ?_; rintro e w' ⟨rfl, rfl⟩))
    refine (pdq_none _ _ _).mono ?_
    rintro e w1 ⟨rfl, rfl⟩
    go_wp2_with fail
    go_end0
    exact ⟨rfl, by simpa [sortI] using hA⟩

/-! ### slices.Collect, slices.Sorted -/
set_option maxRecDepth 100000 in
set_option maxHeartbeats 2000000 in
theorem collect_in (F : Fence) (n : Nat) (hF : F.fn 51) (hF2 : F.fn 59) (hro : F.round = none) (hn : 4 ≤ n) (gf : Nat) (lb : Array Value) (hFg : F.fn gf) (eg : ∀ args w, (callFunc gf args).run Try.prog w = .ok (.enter gf args) w)
    (S Sp : List Int → Prop) (N : Nat) (hN : N ≤ 100000000) (w : World) (hseq : SeqStopsK F (n - 1 - 1) Try.prog gf lb (fun x : Int => #[seV x]) KeepsWalks S Sp N w) :
    CallsIn F n Try.prog 51 #[.func (.func gf) #[] lb] w fun e w' => ∃ (v : Value) (ss : List Int), e = .returned v ∧ S ss ∧ w'.ownsRow w.heap.size 29 1 v ss.length (ss.flatMap seL) ∧ (v = .slice none 0 0 ↔ ss = []) ∧ Below w.heap.size w w' := by
  have h1 : 1 ≤ n := by omega
  refine callsIn_of_wp Try.func51 rfl hF ?_ hro
  simp only [Try.ntmps51, List.size_toArray, List.length_cons, List.length_nil, Nat.reduceAdd, Nat.reduceSub, Array.replicate_succ, Array.replicate_zero, List.push_toArray, List.append_toArray, List.nil_append, List.cons_append]
  gi_wp2_with (gi_at_call 59; refine (Unt.appendSeq_in F (n - 1) hF2 hro (by omega) gf lb hFg eg S Sp N hN _ hseq).mono ?_; rintro e W ⟨v, ss, rfl, hS, hrow, hnil, hb⟩)
  go_ret
  exact ⟨v, ss, rfl, hS, hrow, hnil, hb⟩
theorem collect_keys (Bm b : Nat) (es : List (Value × Value)) (ks : List Int) (hes : es.map (·.1) = ks.map seV) (w : World) (hBm : Bm < w.heap.size) (hm : w.cell? ⟨Bm, 0, none⟩ = some (.map (some b))) (hM : MapAt Try.prog 29 w b es) (hN : ks.length ≤ 100000000) :
    Calls Try.prog 51 #[.func (.func 53) #[] #[.pointer (some ⟨Bm, 0, none⟩)]] w fun e w' => ∃ (v : Value) (ss : List Int), e = .returned v ∧ ss.Perm ks ∧ w'.ownsRow w.heap.size 29 1 v ss.length (ss.flatMap seL) ∧ (v = .slice none 0 0 ↔ ss = []) ∧ Below w.heap.size w w' :=
  callsIn_wide.1 (collect_in Fence.wide 5 trivial trivial rfl (by omega) _ _ trivial (enters_of Try.func53 (by kernel_rfl) rfl) _ _ ks.length hN w
    (Unt.keys_stops Fence.wide _ trivial rfl (by omega) Bm b es ks hes w hBm hm hM))
def SortedPost (L0 : List Part) (w : World) (L : List Part) (ks : List Int) (e : Ending) (w' : World) : Prop := ∃ v, e = .returned v ∧ At L0 w (rowI v (sortI ks) :: L) w'
set_option maxRecDepth 100000 in
/-- slices.Sorted(maps.Keys(m)): behind the closure's cell and the map -/
theorem sorted_any {L0 L F G : List Part} {w0 w : World} {Bm b : Nat} {es : List (Value × Value)} {T : TypeId} (hA : At L0 w0 L w) (s1 : Sel (Part.cells Bm [.map (some b)] T) L F) (s2 : Sel (Part.map Try.prog 29 b es) L G) (ks : List Int) (hes : es.map (·.1) = ks.map seV) (hN : ks.length ≤ 100000000) :
    Calls Try.prog 45 #[.func (.func 53) #[] #[.pointer (some ⟨Bm, 0, none⟩)]] w (SortedPost L0 w0 L ks) := by
  have hb : BlockIs w Bm [.map (some b)] T := hA.get s1
  have hC := collect_keys Bm b es ks hes w hb.lt (hb.cell 0) (hA.get s2) hN
  clear hes
  go_enter Try.func45, Try.ntmps45
  go_wp2_with fail
  refine hC.mono ?_
  rintro e w1 ⟨v, ss, rfl, hp, hrow, _, hbl⟩
  have hB := hA.row_new hbl hrow
  have hss := Lib.hid (sortI_perm hp)
  have hll := hp.length_eq
  clear hA hC hrow hbl hb
  go_wp2_with fail
  refine (sort_any (l := ss) (hB.sep1 .here) (by omega)).mono ?_
  rintro e w2 ⟨rfl, hT⟩
  have hD := hB.call1 .here hT
  clear hB hT
  go_wp2_with fail
  go_ret
  rw [hss.out] at hD
  exact ⟨v, rfl, hD⟩
theorem mkeys_in (mb : Option Nat) (w : World) :
    Calls Try.prog 46 #[.map mb] w fun e w' => e = .returned (.func (.func 53) #[] #[.pointer (some ⟨w.heap.size, 0, none⟩)]) ∧ w' = w.alloc (.cells #[.map mb] 82) :=
  callsIn_wide.1 (Unt.keys_in Fence.wide 1 trivial rfl mb w)
end Go.Proofs.Ytnkddjomanaadaa.SortU
