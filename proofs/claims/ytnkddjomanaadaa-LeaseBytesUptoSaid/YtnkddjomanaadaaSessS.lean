/- The keys of a map keyed by sessions, collected and sorted. -/
import Derived.Test.YtnkddjomanaadaaSessC
import Derived.Test.YtnkddjomanaadaaRow
import Derived.Test.YtnkddjomanaadaaMarkS
import Derived.Sort.OwnSorted
namespace Go.Proofs.Ytnkddjomanaadaa.Sess
open _root_.Go.Proofs.Ytnkddjomanaadaa.Mark (holdsK_of own_sorted grownBy_sortedK)
open Go.RowKit Go.Shelf Go.Sort
open Go.Maps (Keyed)
set_option linter.unusedSimpArgs false
set_option linter.unusedVariables false

/-! ### slices.Collect, slices.SortFunc, slices.SortedFunc -/
set_option maxRecDepth 100000 in
set_option maxHeartbeats 2000000 in
theorem collect_in (F : Fence) (n : Nat) (hF : F.fn 40) (hF2 : F.fn 49) (hro : F.round = none) (hn : 4 ≤ n) (gf : Nat) (lb : Array Value) (hFg : F.fn gf) (eg : ∀ args w, (callFunc gf args).run Try.prog w = .ok (.enter gf args) w)
    (S Sp : List (Int × ByteArray) → Prop) (N : Nat) (hN : N ≤ 100000000) (w : World) (hseq : SeqStopsK F (n - 1 - 1) Try.prog gf lb (fun x : Int × ByteArray => #[seV x]) KeepsWalks S Sp N w) :
    CallsIn F n Try.prog 40 #[.func (.func gf) #[] lb] w fun e w' => ∃ (v : Value) (ss : List (Int × ByteArray)), e = .returned v ∧ S ss ∧ w'.ownsRow w.heap.size 31 2 v ss.length (ss.flatMap seL) ∧ (v = .slice none 0 0 ↔ ss = []) ∧ Below w.heap.size w w' := by
  have h1 : 1 ≤ n := by omega
  refine callsIn_of_wp Try.func40 rfl hF ?_ hro
  simp only [Try.ntmps40, List.size_toArray, List.length_cons, List.length_nil, Nat.reduceAdd, Nat.reduceSub, Array.replicate_succ, Array.replicate_zero, List.push_toArray, List.append_toArray, List.nil_append, List.cons_append]
  gi_wp2_with (gi_at_call 49; refine (appendSeq_in F (n - 1) hF2 hro (by omega) gf lb hFg eg S Sp N hN _ hseq).mono ?_; rintro e W ⟨v, ss, rfl, hS, hrow, hnil, hb⟩)
  go_ret
  exact ⟨v, ss, rfl, hS, hrow, hnil, hb⟩
theorem seL_len (x : Int × ByteArray) : (seL x).length = 2 := rfl
theorem seL_one (x : Int × ByteArray) : ∀ v ∈ seL x, v.oneCell' = true := by
  intro u hu
  simp only [seL, List.mem_cons, List.not_mem_nil, or_false] at hu
  rcases hu with rfl | rfl <;> rfl
theorem collect_keys (Bm b : Nat) (es : List (Value × Value)) (ks : List (Int × ByteArray)) (hes : es.map (·.1) = ks.map seV) (w : World) (hBm : Bm < w.heap.size) (hm : w.cell? ⟨Bm, 0, none⟩ = some (.map (some b))) (hM : MapAt Try.prog 31 w b es) (hN : ks.length ≤ 100000000) :
    Calls Try.prog 40 #[.func (.func 50) #[] #[.pointer (some ⟨Bm, 0, none⟩)]] w fun e w' => ∃ (v : Value) (ss : List (Int × ByteArray)), e = .returned v ∧ ss.Perm ks ∧ w'.ownsRow w.heap.size 31 2 v ss.length (ss.flatMap seL) ∧ (v = .slice none 0 0 ↔ ss = []) ∧ Below w.heap.size w w' :=
  callsIn_wide.1 (collect_in Fence.wide 5 trivial trivial rfl (by omega) _ _ trivial (enters_of Try.func50 (by kernel_rfl) rfl) _ _ ks.length hN w
    (keys_stops Fence.wide _ trivial rfl (by omega) Bm b es ks hes w hBm hm hM))
theorem sort_len (l : List (Int × ByteArray)) : (sortS l).length = l.length := List.length_mergeSort l
theorem sort_tr (a b c : Int × ByteArray) (h1 : (!ltOf cmpS b a) = true) (h2 : (!ltOf cmpS c b) = true) : (!ltOf cmpS c a) = true := by
  rw [cmpS_lt] at *
  simp only [Bool.not_eq_true', decide_eq_false_iff_not] at *
  intro h
  rcases ltS_tri b a with q | q | q
  · exact h1 q
  · subst q; exact h2 h
  · exact h2 (ltS_trans h q)
theorem sort_to (a b : Int × ByteArray) : ((!ltOf cmpS b a) || !ltOf cmpS a b) = true := by
  rw [cmpS_lt, cmpS_lt]
  simp only [Bool.or_eq_true, Bool.not_eq_true', decide_eq_false_iff_not]
  by_cases h : ltS b a
  · right
    intro h'
    exact ltS_irrefl _ (ltS_trans h h')
  · exact .inl h
theorem sort_perm {l m : List (Int × ByteArray)} (h : l.Perm m) : sortS l = sortS m := by
  have hp : (sortS l).Perm (sortS m) := (List.mergeSort_perm l _).trans (h.trans (List.mergeSort_perm m _).symm)
  refine List.Perm.eq_of_pairwise (le := fun a b => (!ltOf cmpS b a) = true) ?_ (List.pairwise_mergeSort sort_tr sort_to l) (List.pairwise_mergeSort sort_tr sort_to m) hp
  intro a b _ _ h1 h2
  exact totS a b (by simpa using h2) (by simpa using h1)
set_option maxRecDepth 100000 in
/-- lease.sorted: the row is sorted where it lies -/
theorem sorted_any {w : World} {base : Nat} {v : Value} {ss : List (Int × ByteArray)} (hrow : w.ownsRow base 31 2 v ss.length (ss.flatMap seL)) (hmax : ss.length ≤ 100000000) :
    Calls Try.prog 39 #[v] w fun e w' => e = .returned v ∧ w'.ownsRow base 31 2 v (sortS ss).length ((sortS ss).flatMap seL) ∧ w.grownBy w' v.ownBlock := by
  rcases hrow.2 with ⟨rfl, hz⟩ | ⟨gb, cap, cur, rfl, hbase, hgb, r1, r2, r3, r4⟩
  · have hss : ss = [] := List.eq_nil_of_length_eq_zero hz
    subst hss
    have hS : Calls Try.prog 47 #[.slice none 0 0, .func (.func 48) #[] #[]] w fun e w' => e = .returned (.tuple #[]) ∧ w' = w := AnyF.slices_SortFunc_none Try.sort47 none 0 _ w
    go_enter Try.func39, Try.ntmps39
    go_wp2_with fail
    refine hS.mono ?_
    rintro e _ ⟨rfl, rfl⟩
    go_wp2_with fail
    go_ret
    exact ⟨rfl, by simpa [sortS] using hrow, ⟨rfl, rfl, rfl, Nat.le_refl _, fun _ _ _ => rfl⟩⟩
  · have hH : HoldsK seL 2 w gb 0 ss.toArray := holdsK_of seL 2 seL_len hgb r4
    have hgl : gb < w.heap.size := (Array.getElem?_eq_some_iff.1 hgb).1
    have hsz : ss.toArray.size < 4611686018427387904 := by simp; omega
    have hS : Calls Try.prog 47 #[.slice (some ⟨gb, 0, none⟩) ss.length cap, .func (.func 48) #[] #[]] w fun e w' => e = .returned (.tuple #[]) ∧ ∃ n os, w' = sortWorldK seL 2 w gb 0 n (sortS ss).toArray os :=
      AnyQ.slices_SortFunc_total Try.sort47 2 Try.isAgg31 Try.sizeOf31 seL seL_len seL_one cmpS swoS 48 #[] gb 0 cap ss.toArray w (enters_of Try.func48 (by kernel_rfl) rfl) (cmpLays _ _ _ _) hH hgl hsz totS
    go_enter Try.func39, Try.ntmps39
    go_wp2_with fail
    refine hS.mono ?_
    rintro e _ ⟨rfl, nn, os, rfl⟩
    go_wp2_with fail
    go_ret
    refine ⟨rfl, ?_, grownBy_sortedK _⟩
    rw [sort_len]
    exact own_sorted seL 2 seL_len (sort_len ss) hbase hgb r1 r2 r3
end Go.Proofs.Ytnkddjomanaadaa.Sess
