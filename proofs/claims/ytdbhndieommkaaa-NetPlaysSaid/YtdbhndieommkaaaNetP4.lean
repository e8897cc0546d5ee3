/- The walk of the document's Without. -/
import Derived.Test.YtdbhndieommkaaaNetP3
import Derived.Test.YtdbhndieommkaaaBase4
namespace Go.Proofs.Ytdbhndieommkaaa.NetW
open Go.RowKit

theorem infoF : (Try.prog.info? 53).map (fun i => (i.zero, i.size, i.bytes)) = some (some (.agg #[.int .i64 0, .int .i64 0, .slice none 0 0]), 3, 40) := by kernel_rfl

theorem flat_cut : ∀ (fs : List Fr) (i : Nat), i < fs.length → flat (fs.eraseIdx i) = (flat fs).take (i * 3) ++ (flat fs).drop ((i + 1) * 3)
  | [], _, hi => absurd hi (Nat.not_lt_zero _)
  | f :: r, 0, _ => by simp [flat, Fr.cells]
  | f :: r, i + 1, hi => by
    have e0 : ∀ l : List Fr, flat (f :: l) = .int .i64 f.fro :: .int .i64 f.too :: f.dv :: flat l := fun _ => rfl
    rw [List.eraseIdx_cons_succ, e0, e0, flat_cut r i (by simpa using hi), show (i + 1) * 3 = i * 3 + 1 + 1 + 1 by omega, show (i + 1 + 1) * 3 = (i * 3 + 1 + 1 + 1) + 1 + 1 + 1 by omega]
    simp only [List.take_succ_cons, List.drop_succ_cons, List.cons_append]

def WithoutPost (rs : List Fr) (i : Nat) (w : World) (e : Ending) (w' : World) : Prop :=
  ∃ v', e = .returned v' ∧ w'.ownsRow w.heap.size 53 3 v' (rs.length - 1) (flat (rs.eraseIdx i)) ∧ Ext w w'

set_option maxRecDepth 100000 in
theorem without_any {w : World} {v : Value} {rs : List Fr} (h : w.ownsRow 0 53 3 v rs.length (flat rs)) (i : Nat) (hi : i < rs.length) (hmax : rs.length ≤ 1000000) (h1 : ∀ r ∈ rs, r.dv.oneCell' = true) :
    Calls Try.prog 55 #[v, .int .i64 i] w (WithoutPost rs i w) := by
  obtain ⟨g, cap, rfl, _, hgl⟩ := h.form (by omega)
  obtain ⟨c, hB, hcl, hnc, hcm, ht, hfl⟩ := own_block h
  obtain ⟨i0, hi0, hz0, hz1, hz2⟩ := info_parts infoF
  have HC : Hid (∀ j u, (flat rs)[j]? = some u → w.cell? ⟨g, j, none⟩ = some u) := fun j u hj => by
    have := h.cells (g := g) rfl j u hj
    rw [Addr.add_lit, Nat.zero_add] at this
    exact this
  have HO : Hid (∀ u ∈ flat rs, u.oneCell' = true) := fun u hu => by
    obtain ⟨r, hr, hu⟩ := List.mem_flatMap.1 hu
    simp only [Fr.cells, List.mem_cons, List.not_mem_nil, or_false] at hu
    rcases hu with e | e | e
    · subst e; rfl
    · subst e; rfl
    · subst e; exact h1 r hr
  have HF : Hid (flat (rs.eraseIdx i) = (flat rs).take (i * 3) ++ (flat rs).drop ((i + 1) * 3)) := flat_cut rs i hi
  have hl : (flat rs).length = rs.length * 3 := flat_length rs
  clear h hB hcl ht hfl h1
  unfold WithoutPost
  rw [HF.out]
  generalize flat rs = xs at *
  generalize rs.length = n at *
  clear HF
  have HR1 : Hid (Reads w (.slice (some ⟨g, 0, none⟩) i cap) i (xs.take (i * 3))) := ⟨_, _, rfl, nofun, fun j u hj => ⟨g, 0, rfl, by
    rw [Nat.zero_add]
    rw [List.getElem?_take] at hj
    split at hj
    · exact HC.out j u hj
    · exact nomatch hj⟩⟩
  have HR2 : Hid (∀ b off cc, (n - i - 1 ≠ 0 → b = g ∧ off = (i + 1) * 3) → Reads w (.slice (some ⟨b, off, none⟩) (n - i - 1) cc) (n - i - 1) (xs.drop ((i + 1) * 3))) := fun b off cc hb => ⟨_, _, rfl, nofun, fun j u hj => ⟨b, off, rfl, by
    have hjl := (List.getElem?_eq_some_iff.1 hj).1
    rw [List.length_drop] at hjl
    obtain ⟨rfl, rfl⟩ := hb (by omega)
    rw [List.getElem?_drop] at hj
    exact HC.out _ u hj⟩⟩
  go_enter Try.func55, Try.ntmps55
  go_wp2_with (at_builtin; refine wpList_append_all _ rfl _ _ 57 rfl w.heap.size 53 i0 _ 3 40 Try.underlying57 hi0 hz0 hz1 hz2 rfl (by omega) _ 0 [] rfl ⟨rfl, .inl ⟨rfl, rfl⟩⟩ (.slice (some ⟨g, 0, none⟩) i cap) i (xs.take (i * 3)) rfl (by rw [List.length_take]; omega) HR1.out (fun u hu => HO.out u (List.mem_of_mem_take hu)) (by unfold maxLen; omega) (by omega) (by omega) ?_)
  intro v1 w1 hown hgrow hat
  have e1 : Hid (Ext w w1) := Ext.grown (Ext.refl w) hgrow nofun
  have hown1 : Hid (w1.ownsRow w.heap.size 53 3 v1 i (xs.take (i * 3))) := hown
  clear hown hgrow hat
  by_cases hcap : cap = i + 1
  · go_wp2_with (at_builtin; refine wpList_append_all _ rfl _ _ 57 rfl w.heap.size 53 i0 _ 3 40 Try.underlying57 hi0 hz0 hz1 hz2 rfl (by omega) v1 i (xs.take (i * 3)) rfl hown1.out (.slice (some ⟨g, 0, none⟩) (n - (i + 1)) 0) (n - i - 1) (xs.drop ((i + 1) * 3)) rfl (by rw [List.length_drop]; omega) (Reads.ext (HR2.out g 0 0 (by omega)) e1.out) (fun u hu => HO.out u (List.mem_of_mem_drop hu)) (by unfold maxLen; omega) (by omega) e1.out.size ?_)
    intro v2 w2 hown hgrow hat
    have e2 : Hid (Ext w w2) := Ext.grown e1.out hgrow (own_ge hown1.out)
    have hown2 : Hid (w2.ownsRow w.heap.size 53 3 v2 (n - 1) (xs.take (i * 3) ++ xs.drop ((i + 1) * 3))) := by
      rw [show n - 1 = i + (n - i - 1) by omega]
      exact hown
    clear hown hgrow hat
    go_wp2_with fail
    go_ret
    exact ⟨_, rfl, hown2.out, e2.out⟩
  · go_wp2_with (at_builtin; refine wpList_append_all _ rfl _ _ 57 rfl w.heap.size 53 i0 _ 3 40 Try.underlying57 hi0 hz0 hz1 hz2 rfl (by omega) v1 i (xs.take (i * 3)) rfl hown1.out (.slice (some ⟨g, (i + 1) * 3, none⟩) (n - (i + 1)) (cap - (i + 1))) (n - i - 1) (xs.drop ((i + 1) * 3)) rfl (by rw [List.length_drop]; omega) (Reads.ext (HR2.out g _ _ (fun _ => ⟨rfl, rfl⟩)) e1.out) (fun u hu => HO.out u (List.mem_of_mem_drop hu)) (by unfold maxLen; omega) (by omega) e1.out.size ?_)
    intro v2 w2 hown hgrow hat
    have e2 : Hid (Ext w w2) := Ext.grown e1.out hgrow (own_ge hown1.out)
    have hown2 : Hid (w2.ownsRow w.heap.size 53 3 v2 (n - 1) (xs.take (i * 3) ++ xs.drop ((i + 1) * 3))) := by
      rw [show n - 1 = i + (n - i - 1) by omega]
      exact hown
    clear hown hgrow hat
    go_wp2_with fail
    go_ret
    exact ⟨_, rfl, hown2.out, e2.out⟩
end Go.Proofs.Ytdbhndieommkaaa.NetW
