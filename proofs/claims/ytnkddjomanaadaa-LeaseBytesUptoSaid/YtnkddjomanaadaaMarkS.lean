/- The keys of a map keyed by names of instances, collected and sorted. -/
import Derived.Test.YtnkddjomanaadaaMarkC
import Derived.Test.YtnkddjomanaadaaRow
import Derived.Sort.OwnSorted
namespace Go.Proofs.Ytnkddjomanaadaa.Mark
open Go.RowKit Go.Shelf Go.Sort
open Go.Maps (Keyed)
set_option linter.unusedSimpArgs false
set_option linter.unusedVariables false

/-! ### Rows that are sorted -/
section
variable {α : Type} [Inhabited α]
theorem flatK_list (enc : α → List Value) (k : Nat) (hk : ∀ x, (enc x).length = k) (l : List α) : (flatK enc k l.toArray).toList = l.flatMap enc := by
  apply List.ext_getElem?
  intro t
  by_cases ht : t < l.length * k
  · have hk0 : 0 < k := by
      rcases Nat.eq_zero_or_pos k with h | h
      · subst h; omega
      · exact h
    have hq : t / k < l.length := Nat.div_lt_of_lt_mul (by rw [Nat.mul_comm]; exact ht)
    have e := flat_at enc k hk l (t / k) l[t / k] (List.getElem?_eq_getElem hq) (t % k) (Nat.mod_lt _ hk0)
    rw [Nat.mul_comm, Nat.div_add_mod] at e
    rw [e, Array.getElem?_toList]
    have hm : t % k < (enc l[t / k]).length := by rw [hk]; exact Nat.mod_lt _ hk0
    simp [flatK, ht, hq, hm]
  · rw [List.getElem?_eq_none (by simp; omega), List.getElem?_eq_none (by rw [flat_len enc k hk]; omega)]
theorem heap_sortedK {w : World} {g n : Nat} {os : Array Obj} {cur : Array Value} {e : TypeId} {fr : Nat × Nat} (F : Array Value) (hb : w.heap[g]? = some (.cells cur e fr)) :
    (grow (putRow id (Sort.ahead w n) g 0 F) os).heap[g]? = some (.cells (putCells id 0 F cur) e fr) := by
  have hg : g < w.heap.size := (Array.getElem?_eq_some_iff.1 hb).1
  rw [heap_grow_old _ _ (by simpa using hg)]
  simp [putRow, mapBlock, Sort.ahead, Array.getElem?_modify, hb, onCells]
theorem grownBy_sortedK {w : World} {g n : Nat} {os : Array Obj} (F : Array Value) : w.grownBy (grow (putRow id (Sort.ahead w n) g 0 F) os) (some g) := by
  refine ⟨rfl, rfl, rfl, by simp, fun k hk hne => ?_⟩
  rw [heap_grow_old _ _ (by simpa using hk)]
  have : g ≠ k := fun e => hne (by rw [e])
  simp [putRow, mapBlock, Sort.ahead, Array.getElem?_modify, this]
theorem take_putK (cur F : Array Value) (h : F.size ≤ cur.size) : (putCells id 0 F cur).toList.take F.size = F.toList := by
  apply List.ext_getElem?
  intro j
  by_cases hj : j < F.size
  · rw [List.getElem?_take_of_lt hj, Array.getElem?_toList]
    simp [putCells, hj, show j < cur.size by omega]
  · rw [List.getElem?_take_eq_none (by omega), List.getElem?_eq_none (by simp; omega)]
theorem own_sorted (enc : α → List Value) (k : Nat) (hk : ∀ x, (enc x).length = k) {w : World} {base g cap n : Nat} {e : TypeId} {os : Array Obj} {cur : Array Value} {ss ts : List α} (hl : ts.length = ss.length) (hbase : base ≤ g) (hb : w.heap[g]? = some (.cells cur e (0, 0)))
    (h1 : ss.length ≤ cap) (h2 : cap ≤ maxLen) (h3 : cur.size = cap * k) :
    (sortWorldK enc k w g 0 n ts.toArray os).ownsRow base e k (.slice (some ⟨g, 0, none⟩) ss.length cap) ss.length (ts.flatMap enc) := by
  have hsz : (flatK enc k ts.toArray).size = ss.length * k := by simp [hl]
  refine ⟨by rw [flat_len enc k hk, hl], .inr ⟨g, cap, _, rfl, hbase, heap_sortedK (flatK enc k ts.toArray) hb, h1, h2, by simp [putCells, h3], ?_⟩⟩
  have := take_putK cur (flatK enc k ts.toArray) (by rw [hsz, h3]; exact Nat.mul_le_mul_right _ h1)
  rw [hsz, flatK_list enc k hk] at this
  exact this
theorem holdsK_of (enc : α → List Value) (k : Nat) (hk : ∀ x, (enc x).length = k) {w : World} {g : Nat} {cur : Array Value} {e : TypeId} {ss : List α} (hb : w.heap[g]? = some (.cells cur e (0, 0))) (ht : cur.toList.take (ss.length * k) = ss.flatMap enc) : HoldsK enc k w g 0 ss.toArray := by
  intro j hj
  have hj' : j < ss.length * k := by simpa using hj
  refine ⟨?_, by simp [World.frozen?, hb]⟩
  have h1 : (cur.toList.take (ss.length * k))[j]? = (flatK enc k ss.toArray).toList[j]? := by rw [ht, flatK_list enc k hk]
  rw [List.getElem?_take_of_lt hj', Array.getElem?_toList, Array.getElem?_toList, Array.getElem?_eq_getElem hj] at h1
  simp only [World.cell?, hb, Nat.zero_add]
  simp only [Option.isSome_none, Bool.false_eq_true, if_false]
  rw [h1, getElem!_pos _ j hj]
  rfl
end

/-! ### slices.Collect, slices.SortFunc, slices.SortedFunc -/
theorem idL_len (x : Int × Int) : (idL x).length = 2 := rfl
theorem idL_one (x : Int × Int) : ∀ v ∈ idL x, v.oneCell' = true := by
  intro u hu
  simp only [idL, List.mem_cons, List.not_mem_nil, or_false] at hu
  rcases hu with rfl | rfl <;> rfl
theorem sort_len (l : List (Int × Int)) : (sortID l).length = l.length := List.length_mergeSort l
theorem sort_perm {l m : List (Int × Int)} (h : l.Perm m) : sortID l = sortID m := by
  have hp : (sortID l).Perm (sortID m) := (List.mergeSort_perm l _).trans (h.trans (List.mergeSort_perm m _).symm)
  have tr : ∀ a b c : Int × Int, (!ltOf cmpID b a) = true → (!ltOf cmpID c b) = true → (!ltOf cmpID c a) = true := by
    intro a b c h1 h2
    rw [cmpID_lt] at *
    simp only [Bool.not_eq_true', decide_eq_false_iff_not] at *
    unfold ltID at *
    omega
  have tot : ∀ a b : Int × Int, ((!ltOf cmpID b a) || !ltOf cmpID a b) = true := by
    intro a b
    rw [cmpID_lt, cmpID_lt]
    simp only [Bool.or_eq_true, Bool.not_eq_true', decide_eq_false_iff_not]
    unfold ltID
    omega
  refine List.Perm.eq_of_pairwise (le := fun a b => (!ltOf cmpID b a) = true) ?_ (List.pairwise_mergeSort tr tot l) (List.pairwise_mergeSort tr tot m) hp
  intro a b _ _ h1 h2
  exact totID a b (by simpa using h2) (by simpa using h1)
end Go.Proofs.Ytnkddjomanaadaa.Mark
