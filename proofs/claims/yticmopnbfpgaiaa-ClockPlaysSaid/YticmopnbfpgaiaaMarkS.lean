/- The keys of a map keyed by names of instances, collected and sorted. -/
import Derived.Test.YticmopnbfpgaiaaMarkC
import Derived.Test.YticmopnbfpgaiaaRow
import Derived.Sort.OwnSorted
namespace Go.Proofs.Yticmopnbfpgaiaa.Mark
open Go.RowKit Go.Shelf Go.Sort
open Go.Maps (Keyed)
set_option linter.unusedSimpArgs false
set_option linter.unusedVariables false

/-! ### Rows that are sorted -/
section
variable {α : Type} [Inhabited α]
theorem flatK_list (enc : α → List Value) (k : Nat) (hk : ∀ x, (enc x).length = k) (l : List α) : (flatK enc k l.toArray).toList = l.flatMap enc := by
  apply List.ext_getElem?
  intro t
  by_cases ht : t < l.length * k
  · have hk0 : 0 < k := by
      rcases Nat.eq_zero_or_pos k with h | h
      · subst h; omega
      · exact h
    have hq : t / k < l.length := Nat.div_lt_of_lt_mul (by rw [Nat.mul_comm]; exact ht)
    have e := flat_at enc k hk l (t / k) l[t / k] (List.getElem?_eq_getElem hq) (t % k) (Nat.mod_lt _ hk0)
    rw [Nat.mul_comm, Nat.div_add_mod] at e
    rw [e, Array.getElem?_toList]
    have hm : t % k < (enc l[t / k]).length := by rw [hk]; exact Nat.mod_lt _ hk0
    simp [flatK, ht, hq, hm]
  · rw [List.getElem?_eq_none (by simp; omega), List.getElem?_eq_none (by rw [flat_len enc k hk]; omega)]
theorem heap_sortedK {w : World} {g n : Nat} {os : Array Obj} {cur : Array Value} {e : TypeId} {fr : Nat × Nat} (F : Array Value) (hb : w.heap[g]? = some (.cells cur e fr)) :
    (grow (putRow id (Sort.ahead w n) g 0 F) os).heap[g]? = some (.cells (putCells id 0 F cur) e fr) := by
  have hg : g < w.heap.size := (Array.getElem?_eq_some_iff.1 hb).1
  rw [heap_grow_old _ _ (by simpa using hg)]
  simp [putRow, mapBlock, Sort.ahead, Array.getElem?_modify, hb, onCells]
theorem grownBy_sortedK {w : World} {g n : Nat} {os : Array Obj} (F : Array Value) : w.grownBy (grow (putRow id (Sort.ahead w n) g 0 F) os) (some g) := by
  refine ⟨rfl, rfl, rfl, by simp, fun k hk hne => ?_⟩
  rw [heap_grow_old _ _ (by simpa using hk)]
  have : g ≠ k := fun e => hne (by rw [e])
  simp [putRow, mapBlock, Sort.ahead, Array.getElem?_modify, this]
theorem take_putK (cur F : Array Value) (h : F.size ≤ cur.size) : (putCells id 0 F cur).toList.take F.size = F.toList := by
  apply List.ext_getElem?
  intro j
  by_cases hj : j < F.size
  · rw [List.getElem?_take_of_lt hj, Array.getElem?_toList]
    simp [putCells, hj, show j < cur.size by omega]
  · rw [List.getElem?_take_eq_none (by omega), List.getElem?_eq_none (by simp; omega)]
theorem own_sorted (enc : α → List Value) (k : Nat) (hk : ∀ x, (enc x).length = k) {w : World} {base g cap n : Nat} {e : TypeId} {os : Array Obj} {cur : Array Value} {ss ts : List α} (hl : ts.length = ss.length) (hbase : base ≤ g) (hb : w.heap[g]? = some (.cells cur e (0, 0)))
    (h1 : ss.length ≤ cap) (h2 : cap ≤ maxLen) (h3 : cur.size = cap * k) :
    (sortWorldK enc k w g 0 n ts.toArray os).ownsRow base e k (.slice (some ⟨g, 0, none⟩) ss.length cap) ss.length (ts.flatMap enc) := by
  have hsz : (flatK enc k ts.toArray).size = ss.length * k := by simp [hl]
  refine ⟨by rw [flat_len enc k hk, hl], .inr ⟨g, cap, _, rfl, hbase, heap_sortedK (flatK enc k ts.toArray) hb, h1, h2, by simp [putCells, h3], ?_⟩⟩
  have := take_putK cur (flatK enc k ts.toArray) (by rw [hsz, h3]; exact Nat.mul_le_mul_right _ h1)
  rw [hsz, flatK_list enc k hk] at this
  exact this
theorem holdsK_of (enc : α → List Value) (k : Nat) (hk : ∀ x, (enc x).length = k) {w : World} {g : Nat} {cur : Array Value} {e : TypeId} {ss : List α} (hb : w.heap[g]? = some (.cells cur e (0, 0))) (ht : cur.toList.take (ss.length * k) = ss.flatMap enc) : HoldsK enc k w g 0 ss.toArray := by
  intro j hj
  have hj' : j < ss.length * k := by simpa using hj
  refine ⟨?_, by simp [World.frozen?, hb]⟩
  have h1 : (cur.toList.take (ss.length * k))[j]? = (flatK enc k ss.toArray).toList[j]? := by rw [ht, flatK_list enc k hk]
  rw [List.getElem?_take_of_lt hj', Array.getElem?_toList, Array.getElem?_toList, Array.getElem?_eq_getElem hj] at h1
  simp only [World.cell?, hb, Nat.zero_add]
  simp only [Option.isSome_none, Bool.false_eq_true, if_false]
  rw [h1, getElem!_pos _ j hj]
  rfl
end

/-! ### slices.Collect, slices.SortFunc, slices.SortedFunc -/
set_option maxRecDepth 100000 in
set_option maxHeartbeats 2000000 in
theorem collect_in (F : Fence) (n : Nat) (hF : F.fn 131) (hF2 : F.fn 159) (hro : F.round = none) (hn : 4 ≤ n) (gf : Nat) (lb : Array Value) (hFg : F.fn gf) (eg : ∀ args w, (callFunc gf args).run Try.prog w = .ok (.enter gf args) w)
    (S Sp : List (Int × Int) → Prop) (N : Nat) (hN : N ≤ 100000000) (w : World) (hseq : SeqStopsK F (n - 1 - 1) Try.prog gf lb (fun x : Int × Int => #[idV x]) KeepsWalks S Sp N w) :
    CallsIn F n Try.prog 131 #[.func (.func gf) #[] lb] w fun e w' => ∃ (v : Value) (ss : List (Int × Int)), e = .returned v ∧ S ss ∧ w'.ownsRow w.heap.size 50 2 v ss.length (ss.flatMap idL) ∧ (v = .slice none 0 0 ↔ ss = []) ∧ Below w.heap.size w w' := by
  have h1 : 1 ≤ n := by omega
  refine callsIn_of_wp Try.func131 rfl hF ?_ hro
  simp only [Try.ntmps131, List.size_toArray, List.length_cons, List.length_nil, Nat.reduceAdd, Nat.reduceSub, Array.replicate_succ, Array.replicate_zero, List.push_toArray, List.append_toArray, List.nil_append, List.cons_append]
  gi_wp2_with (gi_at_call 159; refine (appendSeq_in F (n - 1) hF2 hro (by omega) gf lb hFg eg S Sp N hN _ hseq).mono ?_; rintro e W ⟨v, ss, rfl, hS, hrow, hnil, hb⟩)
  go_ret
  exact ⟨v, ss, rfl, hS, hrow, hnil, hb⟩
theorem idL_len (x : Int × Int) : (idL x).length = 2 := rfl
theorem idL_one (x : Int × Int) : ∀ v ∈ idL x, v.oneCell' = true := by
  intro u hu
  simp only [idL, List.mem_cons, List.not_mem_nil, or_false] at hu
  rcases hu with rfl | rfl <;> rfl
theorem collect_keys (Bm b : Nat) (es : List (Value × Value)) (ks : List (Int × Int)) (hes : es.map (·.1) = ks.map idV) (w : World) (hBm : Bm < w.heap.size) (hm : w.cell? ⟨Bm, 0, none⟩ = some (.map (some b))) (hM : MapAt Try.prog 50 w b es) (hN : ks.length ≤ 100000000) :
    Calls Try.prog 131 #[.func (.func 132) #[] #[.pointer (some ⟨Bm, 0, none⟩)]] w fun e w' => ∃ (v : Value) (ss : List (Int × Int)), e = .returned v ∧ ss.Perm ks ∧ w'.ownsRow w.heap.size 50 2 v ss.length (ss.flatMap idL) ∧ (v = .slice none 0 0 ↔ ss = []) ∧ Below w.heap.size w w' :=
  callsIn_wide.1 (collect_in Fence.wide 5 trivial trivial rfl (by omega) _ _ trivial (enters_of Try.func132 (by kernel_rfl) rfl) _ _ ks.length hN w
    (keys_stops Fence.wide _ trivial rfl (by omega) Bm b es ks hes w hBm hm hM))
theorem sort_len (l : List (Int × Int)) : (sortID l).length = l.length := List.length_mergeSort l
theorem sort_perm {l m : List (Int × Int)} (h : l.Perm m) : sortID l = sortID m := by
  have hp : (sortID l).Perm (sortID m) := (List.mergeSort_perm l _).trans (h.trans (List.mergeSort_perm m _).symm)
  have tr : ∀ a b c : Int × Int, (!ltOf cmpID b a) = true → (!ltOf cmpID c b) = true → (!ltOf cmpID c a) = true := by
    intro a b c h1 h2
    rw [cmpID_lt] at *
    simp only [Bool.not_eq_true', decide_eq_false_iff_not] at *
    unfold ltID at *
    omega
  have to : ∀ a b : Int × Int, ((!ltOf cmpID b a) || !ltOf cmpID a b) = true := by
    intro a b
    rw [cmpID_lt, cmpID_lt]
    simp only [Bool.or_eq_true, Bool.not_eq_true', decide_eq_false_iff_not]
    unfold ltID
    omega
  refine List.Perm.eq_of_pairwise (le := fun a b => (!ltOf cmpID b a) = true) ?_ (List.pairwise_mergeSort tr to l) (List.pairwise_mergeSort tr to m) hp
  intro a b _ _ h1 h2
  exact totID a b (by simpa using h2) (by simpa using h1)
set_option maxRecDepth 100000 in
theorem sortedFunc_any (Bm b : Nat) (es : List (Value × Value)) (ks : List (Int × Int)) (hes : es.map (·.1) = ks.map idV) (w : World) (hBm : Bm < w.heap.size) (hm : w.cell? ⟨Bm, 0, none⟩ = some (.map (some b))) (hM : MapAt Try.prog 50 w b es) (hN : ks.length ≤ 100000000) :
    Calls Try.prog 109 #[.func (.func 132) #[] #[.pointer (some ⟨Bm, 0, none⟩)], .func (.func 52) #[] #[]] w fun e w' =>
      ∃ v, e = .returned v ∧ w'.ownsRow w.heap.size 50 2 v (sortID ks).length ((sortID ks).flatMap idL) ∧ Below w.heap.size w w' := by
  have hC := collect_keys Bm b es ks hes w hBm hm hM hN
  clear hes hM hm
  go_enter Try.func109, Try.ntmps109
  go_wp2_with fail
  refine hC.mono ?_
  rintro e w1 ⟨v, ss, rfl, hp, hrow, hnil, hb⟩
  have es := Lib.hid (sort_perm hp.symm)
  rcases hrow.2 with ⟨rfl, hz⟩ | ⟨gb, cap, cur, rfl, hbase, hgb, r1, r2, r3, r4⟩
  · have hss : ss = [] := List.eq_nil_of_length_eq_zero hz
    subst hss
    have hS : Calls Try.prog 85 #[.slice none 0 0, .func (.func 52) #[] #[]] w1 fun e w' => e = .returned (.tuple #[]) ∧ w' = w1 := AnyF.slices_SortFunc_none Try.sort85 none 0 _ w1
    go_wp2_with fail
    refine hS.mono ?_
    rintro e _ ⟨rfl, rfl⟩
    go_wp2_with fail
    go_ret
    exact ⟨_, rfl, by rw [es.out]; simpa [sortID] using hrow, hb⟩
  · have hH : HoldsK idL 2 w1 gb 0 ss.toArray := holdsK_of idL 2 idL_len hgb r4
    have hgl : gb < w1.heap.size := (Array.getElem?_eq_some_iff.1 hgb).1
    have hsz : ss.toArray.size < 4611686018427387904 := by have := hp.length_eq; simp; omega
    have hS : Calls Try.prog 85 #[.slice (some ⟨gb, 0, none⟩) ss.length cap, .func (.func 52) #[] #[]] w1 fun e w' => e = .returned (.tuple #[]) ∧ ∃ n os, w' = sortWorldK idL 2 w1 gb 0 n (sortID ss).toArray os :=
      AnyQ.slices_SortFunc_total Try.sort85 2 Try.isAgg50 Try.sizeOf50 idL idL_len idL_one cmpID swoID 52 #[] gb 0 cap ss.toArray w1 (enters_of Try.func52 (by kernel_rfl) rfl) (cmpLays _ _ _ _) hH hgl hsz totID
    go_wp2_with fail
    refine hS.mono ?_
    rintro e _ ⟨rfl, nn, os, rfl⟩
    go_wp2_with fail
    go_ret
    refine ⟨_, rfl, ?_, hb.grown (grownBy_sortedK _) hb.size (fun j hj => by cases hj; exact hbase)⟩
    rw [es.out, sort_len]
    exact own_sorted idL 2 idL_len (sort_len ss) hbase hgb r1 r2 r3
end Go.Proofs.Yticmopnbfpgaiaa.Mark
