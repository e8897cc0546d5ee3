/- The keys of a map keyed by names of instances, collected: the library's maps.Keys, slices.Collect, walked. -/
import Derived.RangeFuncNested
import Derived.RangeFuncBound
import Derived.RangeFuncCalls
import Derived.RangeFuncLeaves
import Derived.Shelf.Abstract
import Derived.WalkKit
import Derived.OwnWalkIn
import Derived.TacticsInMore
import Derived.LoopNIn
import Derived.LoopIn
import Derived.Maps.AppendAt
import Derived.Test.YtnkddjomanaadaaMapW
import Derived.Test.YtnkddjomanaadaaChecked
namespace Go.Proofs.Ytnkddjomanaadaa.Mark
open Go.RowKit Go.Shelf
open Go.Maps (Keyed)
set_option linter.unusedSimpArgs false
set_option linter.unusedVariables false
attribute [local go_sem] Oper.semAt_some

/-- an instance's name, as a value -/
def idV (p : Int × Int) : Value := .agg #[.int .i64 p.1, .int .i64 p.2]
def idL (p : Int × Int) : List Value := [.int .i64 p.1, .int .i64 p.2]
def unV : Value → Int × Int
  | .agg #[.int _ a, .int _ b] => (a, b)
  | _ => (0, 0)
theorem unV_idV (p : Int × Int) : unV (idV p) = p := rfl
theorem idV_inj {p q : Int × Int} (h : idV p = idV q) : p = q := by rw [← unV_idV p, h, unV_idV]
theorem perm_of_idV {l m : List (Int × Int)} (h : (l.map idV).Perm (m.map idV)) : l.Perm m := by
  have := h.map unV
  simpa [List.map_map, Function.comp_def, unV_idV] using this

/-- how many entries of a range have come, read off the world -/
def seenOf (w : World) (r : Nat) : Nat := match w.heap[r]? with | some (.mapIter _ _ seen _) => seen.size | _ => 0
theorem seenOf_eq {P : Program} {k : TypeId} {w : World} {r b : Nat} {es done : List (Value × Value)} (h : IterAt P k w r b es done) : seenOf w r = done.length := by
  obtain ⟨_, _, ents, clock, c0, vs, hb, hr, hc, hd, _⟩ := h
  unfold seenOf
  rw [hr, ← hd]
  simp
theorem iter_walk {P : Program} {k : TypeId} {w : World} {r b : Nat} {es done : List (Value × Value)} (h : IterAt P k w r b es done) : ∃ o : Obj, w.heap[r]? = some o ∧ o.isWalk = true := by
  obtain ⟨_, _, ents, clock, c0, vs, hb, hr, _⟩ := h
  exact ⟨_, hr, rfl⟩
theorem iter_keeps {P : Program} {k : TypeId} {w w' : World} {r b : Nat} {es done : List (Value × Value)} (h : IterAt P k w r b es done) (hk : KeepsWalks w w') : IterAt P k w' r b es done := by
  have h0 := h
  obtain ⟨_, _, ents, clock, c0, vs, hb, hr, _⟩ := h0
  exact h.same ((hk.same b _ hb rfl).trans hb.symm) ((hk.same r _ hr rfl).trans hr.symm)
theorem grown_of_exc {w w' : World} {r : Nat} (h : Exc (fun q => q = r) w w') : w.grownBy w' (some r) := ⟨h.os, h.tape, h.output, h.size, fun k hk hn => h.block k hk (fun e => hn (by rw [e]))⟩
theorem grown_of_ext {w w' : World} (h : Ext w w') : w.grownBy w' none := ⟨Below.os h, Below.tape h, Below.output h, Below.size h, fun k hk _ => Below.block h k hk⟩

/-! ### slices.AppendSeq, slices.Collect -/
def Box (W : World) (B : Nat) (t : TypeId) (c : Array Value) : Prop := W.heap[B]? = some (.cells c t (0, 0))
theorem Box.own {β : Type} (B : Nat) (t : TypeId) (c : Array Value) : Own (fun (_ : β) W => Box W B t c) := fun s X Y row hs hg hrow =>
  (hg.block B (lt_of_some hs) (fun e => by obtain ⟨o, ho, hc⟩ := hrow B e.symm; rw [show X.heap[B]? = _ from hs] at ho; cases ho; cases hc)).trans hs
theorem two_new (W : World) (x y : Value) (t : TypeId) : ∀ (j : Nat) (u : Value), [x, y][j]? = some u → (W.alloc (.cells #[x, y] t)).cell? ((⟨W.heap.size, 0, none⟩ : Addr).add j) = some u := by
  intro j u h
  match j, h with
  | 0, h => simp at h; subst h; simp [Addr.add]
  | 1, h => simp at h; subst h; simp [Addr.add]
  | j + 2, h => simp at h
end Go.Proofs.Ytnkddjomanaadaa.Mark
